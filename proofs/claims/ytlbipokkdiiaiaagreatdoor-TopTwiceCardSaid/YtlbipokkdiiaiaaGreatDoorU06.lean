/- Lemmas for TopTwice: ExecOpAll, ExecOpAll2, ExecCode1, ExecCode2. -/
import Derived.Test.YtlbipokkdiiaiaaGreatDoorU05
import Derived.RangeFuncLeaves
namespace Go.Proofs.YtlbipokkdiiaiaaGreatDoor.Exec
variable {P : Program} {m : Bij} {h : H} {W : World} {ρ ρ' : Operand → Value}
theorem run_v {s : Sem Value} {W W' : World} {v : Value} (hs : s.run P W = .ok v W') : (do pure (.value (← s)) : Sem Next).run P W = .ok (.value v) W' := by
 rw [Sem.run_bind, hs]; rfl
def Tru (P : Program) (m : Bij) (h : H) (W : World) (ρ' : Operand → Value) (o : Oper) (nx : Next) (h' : H) : Prop :=
 ∃ m' nx' W', (execOp ρ' o).run P W = .ok nx' W' ∧ NxRel m' nx nx' ∧ Snd m h W m' h' W'
theorem tru_run {o : Oper} {nx : Next} {h' : H} (hs : SRel P NxRel m (execOp ρ o) (execOp ρ' o)) (he : ARun P (execOp ρ o) h = some (nx, h')) (hw : WRel m h W) : Tru P m h W ρ' o nx h' := ARun.sound hs he hw
theorem tru_v {o : Oper} {s : Sem Value} (hd : execOp ρ' o = (do pure (.value (← s)))) {r : Option (Value × H)} {nx : Next} {h' : H} (he : (r.map fun (x, h) => (Next.value x, h)) = some (nx, h'))
  (hs : ∀ v h', r = some (v, h') → ∃ m' v' W', s.run P W = .ok v' W' ∧ VRel m' v v' ∧ Snd m h W m' h' W') : Tru P m h W ρ' o nx h' := by
 cases r with
 | none => simp at he
 | some r =>
   obtain ⟨v, h2⟩ := r
   simp only [Option.map_some, Option.some.injEq, Prod.mk.injEq] at he
   obtain ⟨rfl, rfl⟩ := he
   obtain ⟨m', v', W', r1, r2, r3⟩ := hs v h2 rfl
   exact ⟨m', .value v', W', by rw [hd]; exact run_v r1, .value r2, r3⟩
theorem tru_h {o : Oper} {s : Sem Value} (hd : execOp ρ' o = (do pure (.value (← s)))) {r : Option Value} {nx : Next} {h' : H} (hw : WRel m h W) (he : ((r.map fun x => (x, h)).map fun (x, h) => (Next.value x, h)) = some (nx, h'))
  (hs : ∀ v, r = some v → ∃ v', s.run P W = .ok v' W ∧ VRel m v v') : Tru P m h W ρ' o nx h' :=
 tru_v hd he fun v h2 hr => by
  cases r with
  | none => simp at hr
  | some x =>
    simp only [Option.map_some, Option.some.injEq, Prod.mk.injEq] at hr
    obtain ⟨rfl, rfl⟩ := hr
    obtain ⟨v', r1, r2⟩ := hs x rfl
    exact ⟨m, v', W, r1, r2, Snd.refl hw⟩
theorem opt_map {x : Option Operand} (hx : ∀ y ∈ x.toArray, VRel m (ρ y) (ρ' y)) : OptRel (VRel m) (x.map ρ) (x.map ρ') := by
 cases x with
 | none => exact .none
 | some y => exact .some (hx y (by simp))
theorem parts_map (l : Array (Nat × Operand)) (hl : ∀ y ∈ (l.toList.map (·.2)).toArray, VRel m (ρ y) (ρ' y)) : PRel m (l.map fun (i, x) => (i, ρ x)).toList (l.map fun (i, x) => (i, ρ' x)).toList := by
 rw [Array.toList_map, Array.toList_map]
 exact PRel.map l.toList fun a ha => hl a.2 (by simp only [List.mem_toArray, List.mem_map]; exact ⟨a, ha, rfl⟩)
theorem tru_bin {b : BinOp} {t : TypeId} {x y : Operand} {yt : TypeId} {dst : Option Tmp} {ty : TypeId} {pos : String} {aft : Array Edge} {gd : Option (Nat × Bool)} (hx : VRel m (ρ x) (ρ' x)) (hy : VRel m (ρ y) (ρ' y)) (hw : WRel m h W) {nx : Next} {h' : H}
  (he : aop P ρ ⟨dst, .binOp b t x y yt, ty, pos, aft, gd⟩ h = some (nx, h')) : Tru P m h W ρ' ⟨dst, .binOp b t x y yt, ty, pos, aft, gd⟩ nx h' := by
 have hd : (execOp ρ' ⟨dst, .binOp b t x y yt, ty, pos, aft, gd⟩) = (do pure (.value (← (do eqGuard b t x y (ρ' x) (ρ' y); binOp b t (ρ' x) (ρ' y))))) := rfl
 have gen : (pair (ρ x) (ρ y) && ptrs P t (ρ x) (ρ y) && plainOp b (ρ x) (ρ y)) = true → ARun P (execOp ρ ⟨dst, .binOp b t x y yt, ty, pos, aft, gd⟩) h = some (nx, h') → Tru P m h W ρ' ⟨dst, .binOp b t x y yt, ty, pos, aft, gd⟩ nx h' := by
  intro hc hr
  simp only [Bool.and_eq_true] at hc
  refine tru_run ?_ hr hw
  exact rel_v ((eqGuard_rel b t x y hx hy hc.1.1).bind fun m1 _ _ h1 _ => rel_binOp b t (hx.mono h1) (hy.mono h1) hc.1.1 hc.1.2 hc.2)
 have aggs : ∀ c d (f : Bool → Bool), ρ x = .agg c → ρ y = .agg d → (b = .eql ∨ b = .neq) → (∀ c d, binOp b t (.agg c) (.agg d) = (do pure (.bool (f (← Op.equal t (.agg c) (.agg d)))))) →
   (if P.eqGuardType P.depth t then none else (((aEqual P 4 t (.agg c) (.agg d)).map fun r => (Value.bool (f r), h)).map fun (x, h) => (Next.value x, h))) = some (nx, h') → Tru P m h W ρ' ⟨dst, .binOp b t x y yt, ty, pos, aft, gd⟩ nx h' := by
  intro c d f e1 e2 hb hbin hr
  split at hr
  ·simp at hr
  ·rename_i hg
   have hg : P.eqGuardType P.depth t = false := by simpa using hg
   cases hq : aEqual P 4 t (.agg c) (.agg d) with
   | none => rw [hq] at hr; simp at hr
   | some r =>
     rw [hq] at hr
     simp only [Option.map_some, Option.some.injEq, Prod.mk.injEq] at hr
     obtain ⟨rfl, rfl⟩ := hr
     rw [e1] at hx; rw [e2] at hy
     have hq' := equal_true 4 t hx hy hq
     generalize hX : ρ' x = X at hx hq'
     generalize hY : ρ' y = Y at hy hq'
     cases hx with | @agg _ c' s1 q1 => cases hy with | @agg _ d' s2 q2 =>
     refine ⟨m, .value (.bool (f r)), W, ?_, .value (.bool _), Snd.refl hw⟩
     rw [hd, hX, hY]
     refine run_v ?_
     have heg : (eqGuard b t x y (.agg c') (.agg d')).run P W = .ok () W := by
      rcases hb with rfl | rfl <;> simp [eqGuard, hg]
     rw [Sem.run_bind, heg]
     simp only [Result.andThen_ok, hbin, Sem.run_bind, run_equal' hq', Sem.run_pure]
 unfold aop at he
 dsimp only at he
 by_cases hagg : ∃ c d, ρ x = .agg c ∧ ρ y = .agg d
 ·obtain ⟨c, d, e1, e2⟩ := hagg
  rw [e1, e2] at he
  cases b with
  | eql => exact aggs c d id e1 e2 (.inl rfl) (fun _ _ => rfl) he
  | neq => exact aggs c d not e1 e2 (.inr rfl) (fun _ _ => rfl) he
  | _ => simp [pair] at he
 ·have hno : (if pair (ρ x) (ρ y) && ptrs P t (ρ x) (ρ y) && plainOp b (ρ x) (ρ y) then ARun P (execOp ρ ⟨dst, .binOp b t x y yt, ty, pos, aft, gd⟩) h else none) = some (nx, h') := by
   split at he
   ·rename_i e1 e2; exact absurd ⟨_, _, e1, e2⟩ hagg
   ·rename_i e1 e2; exact absurd ⟨_, _, e1, e2⟩ hagg
   ·exact he
  split at hno
  ·rename_i hc; exact gen hc hno
  ·simp at hno
end Go.Proofs.YtlbipokkdiiaiaaGreatDoor.Exec
namespace Go.Proofs.YtlbipokkdiiaiaaGreatDoor.Exec
variable {P : Program} {m : Bij} {h : H} {W : World} {ρ ρ' : Operand → Value}
theorem bytes_spec {e : TypeId} (h : isBytes P e = true) : P.underlying e = some (.int .u8) := by
 unfold isBytes at h
 cases hd : P.underlying e with
 | none => rw [hd] at h; simp at h
 | some d =>
   rw [hd] at h
   cases d with
   | int k => cases k <;> first | rfl | (simp at h; done)
   | _ => simp at h
theorem tru_conv {src dst' : TypeId} {x : Operand} {dst : Option Tmp} {ty : TypeId} {pos : String} {aft : Array Edge} {gd : Option (Nat × Bool)} (hx : VRel m (ρ x) (ρ' x)) (hw : WRel m h W) {nx : Next} {h' : H}
  (he : aop P ρ ⟨dst, .convert src dst' x, ty, pos, aft, gd⟩ h = some (nx, h')) : Tru P m h W ρ' ⟨dst, .convert src dst' x, ty, pos, aft, gd⟩ nx h' := by
 have hd : (execOp ρ' ⟨dst, .convert src dst' x, ty, pos, aft, gd⟩) = (do pure (.value (← convert src dst' (ρ' x)))) := rfl
 unfold aop at he
 dsimp only at he
 cases h1 : P.underlying src with
 | none => rw [h1] at he; simp at he
 | some sd =>
 cases h2 : P.underlying dst' with
 | none => rw [h1, h2] at he; cases sd <;> simp at he
 | some dd =>
 rw [h1, h2] at he
 have conv : ∀ {v v' : Value}, (convert src dst' (ρ' x)).run P W = .ok v' W → VRel m v v' → ((some (v, h)).map fun (x, h) => (Next.value x, h)) = some (nx, h') → Tru P m h W ρ' ⟨dst, .convert src dst' x, ty, pos, aft, gd⟩ nx h' := by
  intro v v' hr hv hq
  exact tru_v hd hq fun v2 h2 e => by
   simp only [Option.some.injEq, Prod.mk.injEq] at e
   obtain ⟨rfl, rfl⟩ := e
   exact ⟨m, v', W, hr, hv, Snd.refl hw⟩
 generalize hX : ρ' x = X at *
 generalize ρ x = Y at *
 split at he
 ·rename_i k n e1 e2
  simp only [Option.some.injEq] at e1 e2; subst e1; subst e2
  cases hx
  exact conv (v' := .int _ (IntKind.wrap _ _)) (by cases sd <;> simp [convert, run_underlying h1, run_underlying h2, Conv.intToInt]) (.int _ _) he
 ·rename_i n e1 e2
  simp only [Option.some.injEq] at e1 e2; subst e1; subst e2
  cases hx
  exact conv (v' := .string (Utf8.encode _)) (by cases sd <;> simp [convert, run_underlying h1, run_underlying h2, Conv.intToString]) (.string _) he
 ·rename_i s e1 e2
  simp only [Option.some.injEq] at e1 e2; subst e1; subst e2
  cases hx
  exact conv (v' := .string _) (by cases sd <;> simp [convert, run_underlying h1, run_underlying h2]) (.string _) he
 ·rename_i e s e1 e2
  simp only [Option.some.injEq] at e1 e2; subst e1; subst e2
  cases hx
  exact tru_v hd he fun v h2' hr => op_bytes h1 h2 _ hw hr
 ·rename_i e l c e1 e2
  simp only [Option.some.injEq] at e1 e2; subst e1; subst e2
  split at he
  ·rename_i h3
   have h3 := bytes_spec h3
   cases hx with
   | slice _ _ _ hp =>
   cases hp
   exact conv (v' := .string .empty) (by simp [convert, run_underlying h1, run_underlying h2, run_underlying h3, Conv.bytesToString]) (.string _) he
  ·simp at he
 ·rename_i e a n c e1 e2
  simp only [Option.some.injEq] at e1 e2; subst e1; subst e2
  split at he
  ·rename_i h3
   have h3 := bytes_spec h3
   split at he
   ·rename_i s h4 hr
    cases hx with
    | slice _ _ _ hp => cases hp with
      | some ha => exact conv (v' := .string s) (op_string h1 h2 h3 ha _ _ hw hr) (.string _) he
    | sliceU _ _ _ hb _ _ _ => exact conv (v' := .string s) (op_string h1 h2 h3 (.mk hb) _ _ hw hr) (.string _) he
   ·simp at he
  ·simp at he
 ·rename_i u e1 e2
  simp only [Option.some.injEq] at e1 e2; subst e1; subst e2
  exact tru_h hd hw he fun v hr => op_unsafe h1 h2 hx hw hr
 ·rename_i t e1 e2
  simp only [Option.some.injEq] at e1 e2; subst e1; subst e2
  exact tru_h hd hw he fun v hr => op_unsafe h1 h2 hx hw hr
 ·simp at he
theorem tru_call (g : Good P) {c : Call} {dst : Option Tmp} {ty : TypeId} {pos : String} {aft : Array Edge} {gd : Option (Nat × Bool)} (hc : ∀ x ∈ c.operands, VRel m (ρ x) (ρ' x)) (hw : WRel m h W) {nx : Next} {h' : H}
  (he : aop P ρ ⟨dst, .call c, ty, pos, aft, gd⟩ h = some (nx, h')) : Tru P m h W ρ' ⟨dst, .call c, ty, pos, aft, gd⟩ nx h' := by
 obtain ⟨callee, args, argTypes⟩ := c
 have hargs : RowRel m (args.map ρ) (args.map ρ') := .map _ fun a ha => hc a (by simp [Call.operands, ha])
 unfold aop at he
 dsimp only at he
 cases callee with
 | value f =>
   have hf := hc f (by simp [Call.operands])
   obtain ⟨m', nx', W', r1, r2, r3⟩ := op_call g hf hargs hw he
   exact ⟨m', nx', W', r1, r2, r3⟩
 | invoke r name =>
   have hf := hc r (by simp [Call.operands])
   obtain ⟨m', nx', W', r1, r2, r3⟩ := op_invoke g hf name hargs hw he
   exact ⟨m', nx', W', r1, r2, r3⟩
 | builtin b =>
   cases b with
   | append => exact tru_v (s := Builtin.append_ argTypes ty (args.map ρ')) rfl he fun v h2 hr => op_append _ _ hargs hw hr
   | unsafeString => exact tru_v (s := Builtin.unsafeString_ argTypes ty (args.map ρ')) rfl he fun v h2 hr => op_unsafeString _ _ hargs hw hr
   | unsafeSliceData => exact tru_h (s := Builtin.unsafeSliceData_ argTypes ty (args.map ρ')) rfl hw he fun v hr => op_sliceData _ _ hargs hr
   | len => exact tru_run (show SRel P NxRel m (execOp ρ _) (execOp ρ' _) from rel_v (rel_len argTypes ty hargs)) he hw
   | min =>
     dsimp only at he
     split at he
     ·rename_i k x j y hl
      simp only [Option.some.injEq, Prod.mk.injEq] at he
      obtain ⟨rfl, rfl⟩ := he
      rw [← Array.toList_map] at hl
      obtain ⟨l', e1, hl'⟩ := row_of_list hargs hl
      cases hl' with | cons q1 q2 => cases q2 with | cons q3 q4 => cases q4 with | nil =>
      cases q1; cases q3
      refine ⟨m, _, W, ?_, .value (.int _ _), Snd.refl hw⟩
      have hd : execOp ρ' ⟨dst, .call ⟨.builtin .min, args, argTypes⟩, ty, pos, aft, gd⟩ = (do pure (.value (← Builtin.min_ argTypes ty (args.map ρ')))) := rfl
      rw [hd]
      refine run_v ?_
      rw [e1]; rfl
     ·simp at he
   | max =>
     dsimp only at he
     split at he
     ·rename_i k x j y hl
      simp only [Option.some.injEq, Prod.mk.injEq] at he
      obtain ⟨rfl, rfl⟩ := he
      rw [← Array.toList_map] at hl
      obtain ⟨l', e1, hl'⟩ := row_of_list hargs hl
      cases hl' with | cons q1 q2 => cases q2 with | cons q3 q4 => cases q4 with | nil =>
      cases q1; cases q3
      refine ⟨m, _, W, ?_, .value (.int _ _), Snd.refl hw⟩
      have hd : execOp ρ' ⟨dst, .call ⟨.builtin .max, args, argTypes⟩, ty, pos, aft, gd⟩ = (do pure (.value (← Builtin.max_ argTypes ty (args.map ρ')))) := rfl
      rw [hd]
      refine run_v ?_
      rw [e1]; rfl
     ·simp at he
   | _ => simp at he
theorem aop_sound (g : Good P) {o : Oper} (hρ : ∀ x ∈ o.op.operands, VRel m (ρ x) (ρ' x)) (hw : WRel m h W) {nx : Next} {h' : H} (he : aop P ρ o h = some (nx, h')) : Tru P m h W ρ' o nx h' := by
 obtain ⟨dst, op, ty, pos, aft, gd⟩ := o
 dsimp only at hρ
 cases op with
 | call c => exact tru_call g hρ hw he
 | convert s d x => exact tru_conv (hρ x (by simp [Op.operands])) hw he
 | binOp b t x y yt => exact tru_bin (hρ x (by simp [Op.operands])) (hρ y (by simp [Op.operands])) hw he
 | move x => exact tru_run (show SRel P NxRel m (execOp ρ _) (execOp ρ' _) from .pure (.value (hρ x (by simp [Op.operands])))) he hw
 | assign x => exact tru_run (show SRel P NxRel m (execOp ρ _) (execOp ρ' _) from .pure (.value (hρ x (by simp [Op.operands])))) he hw
 | pick c a b =>
   refine tru_run (show SRel P NxRel m (execOp ρ _) (execOp ρ' _) from ?_) he hw
   refine rel_bool_bind (hρ c (by simp [Op.operands])) fun t _ _ => .pure (.value ?_)
   cases t
   ·exact hρ b (by simp [Op.operands])
   ·exact hρ a (by simp [Op.operands])
 | alloc e => exact tru_run (show SRel P NxRel m (execOp ρ _) (execOp ρ' _) from rel_v (rel_alloc g.zeros e)) he hw
 | box e x => exact tru_run (show SRel P NxRel m (execOp ρ _) (execOp ρ' _) from rel_v (rel_box e (hρ x (by simp [Op.operands])))) he hw
 | build t ps => exact tru_run (show SRel P NxRel m (execOp ρ _) (execOp ρ' _) from rel_v (rel_build g.zeros t (parts_map ps hρ))) he hw
 | buildSlice t n ps =>
   unfold aop at he
   dsimp only at he
   split at he
   ·rename_i hn
    exact tru_run (show SRel P NxRel m (execOp ρ _) (execOp ρ' _) from rel_v (rel_buildSlice g.zeros t n hn (parts_map ps hρ))) he hw
   ·simp at he
 | load t a => exact tru_run (show SRel P NxRel m (execOp ρ _) (execOp ρ' _) from rel_v (rel_loadAt t (hρ a (by simp [Op.operands])))) he hw
 | store t a x => exact tru_run (show SRel P NxRel m (execOp ρ _) (execOp ρ' _) from rel_u (rel_storeAt t (hρ a (by simp [Op.operands])) (hρ x (by simp [Op.operands])))) he hw
 | nilCheck x =>
   have hx := hρ x (by simp [Op.operands])
   unfold aop at he
   dsimp only at he
   have fin : ∀ v v', ρ' x = v' → VRel m v v' → some (Next.value v, h) = some (nx, h') → (execOp ρ' ⟨dst, .nilCheck x, ty, pos, aft, gd⟩).run P W = .ok (.value v') W → Tru P m h W ρ' ⟨dst, .nilCheck x, ty, pos, aft, gd⟩ nx h' := by
    intro v v' e hv hq hr
    simp only [Option.some.injEq, Prod.mk.injEq] at hq
    obtain ⟨rfl, rfl⟩ := hq
    exact ⟨m, _, W, hr, .value hv, Snd.refl hw⟩
   split at he
   ·rename_i a e
    rw [e] at hx
    generalize hX : ρ' x = X at hx
    cases hx with | pointer hp => cases hp with | some hp => exact fin _ _ hX (.pointer (.some hp)) he (by simp [execOp, hX])
   ·rename_i f y z e
    rw [e] at hx
    generalize hX : ρ' x = X at hx
    cases hx with | func hf s1 e1 s2 e2 => cases hf; exact fin _ _ hX (.func (.func f) s1 e1 s2 e2) he (by simp [execOp, hX])
   ·rename_i t y e
    rw [e] at hx
    generalize hX : ρ' x = X at hx
    cases hx with | iface _ hv => exact fin _ _ hX (.iface t hv) he (by simp [execOp, hX])
   ·rename_i l y z e
    rw [e] at hx
    generalize hX : ρ' x = X at hx
    cases hx with | func hf s1 e1 s2 e2 => cases hf with | yield hl => exact fin _ _ hX (.func (.yield hl) s1 e1 s2 e2) he (by simp [execOp, hX])
   ·simp at he
 | unOp op t x =>
   have hx := hρ x (by simp [Op.operands])
   unfold aop at he
   dsimp only at he
   split at he
   ·rename_i k n e
    exact tru_run (show SRel P NxRel m (execOp ρ _) (execOp ρ' _) from rel_v (rel_unary op hx (.inl ⟨k, n, e⟩))) he hw
   ·rename_i b e
    exact tru_run (show SRel P NxRel m (execOp ρ _) (execOp ρ' _) from rel_v (rel_unary op hx (.inr ⟨b, e⟩))) he hw
   ·simp at he
 | makeInterface t x => exact tru_run (show SRel P NxRel m (execOp ρ _) (execOp ρ' _) from rel_v (rel_makeInterface t (hρ x (by simp [Op.operands])))) he hw
 | makeFunc fn first captured =>
   cases fn with
   | func f =>
     exact tru_run (show SRel P NxRel m (execOp ρ _) (execOp ρ' _) from rel_v (rel_makeFunc (.func f) (.func f) (.map _ fun a ha => hρ a (by simp [Op.operands, ha])) (.map _ fun a ha => hρ a (by simp [Op.operands, ha])))) he hw
   | _ => simp [aop] at he
 | makeMap t r => exact tru_run (show SRel P NxRel m (execOp ρ _) (execOp ρ' _) from rel_v (rel_makeMap t (opt_map (by simpa [Op.operands] using hρ)))) he hw
 | makeSlice t a b => exact tru_run (show SRel P NxRel m (execOp ρ _) (execOp ρ' _) from rel_v (rel_makeSlice g.zeros t (hρ a (by simp [Op.operands])) (hρ b (by simp [Op.operands])))) he hw
 | slice t x lo hi mx =>
   have hx := hρ x (by simp [Op.operands])
   have hl : OptRel (VRel m) (lo.map ρ) (lo.map ρ') := opt_map fun y hy => hρ y (by simp only [Op.operands]; simp [hy])
   have hu : OptRel (VRel m) (hi.map ρ) (hi.map ρ') := opt_map fun y hy => hρ y (by simp only [Op.operands]; simp [hy])
   have hm : OptRel (VRel m) (mx.map ρ) (mx.map ρ') := opt_map fun y hy => hρ y (by simp only [Op.operands]; simp [hy])
   unfold aop at he
   dsimp only at he
   split at he
   ·rename_i a l c e
    split at he
    ·rename_i hc
     exact tru_run (show SRel P NxRel m (execOp ρ _) (execOp ρ' _) from rel_v (rel_slice t hx (.inr ⟨_, l, c, e, hc⟩) hl hu hm)) he hw
    ·rename_i hc
     rw [e] at hx
     generalize hX : ρ' x = X at hx
     cases hx with
     | slice _ _ hlt _ => exact absurd hlt hc
     | sliceU _ c' e2 hb h1 h2 h3 =>
       exact tru_h (s := Instr.sliceAt t (ρ' x) (lo.map ρ') (hi.map ρ') (mx.map ρ')) rfl hw he fun v hv => by rw [hX]; exact op_slice hb h1 h2 h3 hl hu hm hv
   ·rename_i a l c hne e
    cases a with
    | some a => exact (hne _ rfl).elim
    | none =>
      have hc : c < BIG := by
       rw [e] at hx
       generalize ρ' x = X at hx
       cases hx; assumption
      exact tru_run (show SRel P NxRel m (execOp ρ _) (execOp ρ' _) from rel_v (rel_slice t hx (.inr ⟨_, l, c, e, hc⟩) hl hu hm)) he hw
   ·rename_i s e
    exact tru_run (show SRel P NxRel m (execOp ρ _) (execOp ρ' _) from rel_v (rel_slice t hx (.inl ⟨s, e⟩) hl hu hm)) he hw
   ·simp at he
 | fieldAddr s x f =>
   unfold aop at he
   dsimp only at he
   split at he
   ·rename_i hf
    exact tru_run (show SRel P NxRel m (execOp ρ _) (execOp ρ' _) from rel_v (rel_fieldAt s f hf (hρ x (by simp [Op.operands])))) he hw
   ·simp at he
 | field s x f => exact tru_run (show SRel P NxRel m (execOp ρ _) (execOp ρ' _) from rel_v (rel_field s f (hρ x (by simp [Op.operands])))) he hw
 | indexAddr t x i => exact tru_run (show SRel P NxRel m (execOp ρ _) (execOp ρ' _) from rel_v (rel_indexAt t (hρ x (by simp [Op.operands])) (hρ i (by simp [Op.operands])))) he hw
 | index t x i => exact tru_run (show SRel P NxRel m (execOp ρ _) (execOp ρ' _) from rel_v (rel_index t (hρ x (by simp [Op.operands])) (hρ i (by simp [Op.operands])))) he hw
 | lookup t x k ok => exact tru_h (s := Instr.lookup t (ρ' x) (ρ' k) ok) rfl hw he fun v hv => op_lookup g.zeros (hρ x (by simp [Op.operands])) (hρ k (by simp [Op.operands])) ok hw hv
 | mapUpdate t x k y =>
   unfold aop at he
   dsimp only at he
   cases hu : aUpdate P t (ρ x) (ρ k) (ρ y) h with
   | none => rw [hu] at he; simp at he
   | some h2 =>
     rw [hu] at he
     simp only [Option.map_some, Option.some.injEq, Prod.mk.injEq] at he
     obtain ⟨rfl, rfl⟩ := he
     obtain ⟨W', r1, r2⟩ := op_update (hρ x (by simp [Op.operands])) (hρ k (by simp [Op.operands])) (hρ y (by simp [Op.operands])) hw hu
     refine ⟨m, .skip, W', ?_, .skip, r2⟩
     show (do Instr.mapUpdate t (ρ' x) (ρ' k) (ρ' y); pure .skip : Sem Next).run P W = _
     rw [Sem.run_bind, r1]; rfl
 | range t x => exact tru_run (show SRel P NxRel m (execOp ρ _) (execOp ρ' _) from rel_v (rel_range t (hρ x (by simp [Op.operands])))) he hw
 | next it s =>
   unfold aop at he
   dsimp only at he
   cases s with
   | true => exact tru_run (show SRel P NxRel m (execOp ρ _) (execOp ρ' _) from rel_v (rel_nextStr (hρ it (by simp [Op.operands])) ty)) he hw
   | false => exact tru_v (s := Instr.next (ρ' it) false ty) rfl he fun v h2 hr => op_nextMap (hρ it (by simp [Op.operands])) hw ty hr
 | entry it => exact tru_h (s := Instr.entry (ρ' it)) rfl hw he fun v hv => op_entry (hρ it (by simp [Op.operands])) hw hv
 | extract x i => exact tru_run (show SRel P NxRel m (execOp ρ _) (execOp ρ' _) from rel_v (rel_extract (hρ x (by simp [Op.operands])) i)) he hw
 | _ => simp [aop] at he
end Go.Proofs.YtlbipokkdiiaiaaGreatDoor.Exec
namespace Go.Proofs.YtlbipokkdiiaiaaGreatDoor.Exec
variable {P : Program} {m : Bij}
def Fr (ro : Option Nat) : Fence := { Fence.wide with round := ro }
inductive MRel (m : Bij) : List Nat → List Deferred → Prop
 | nil : MRel m [] []
 | cons {r b : Nat} {l : List Nat} {l' : List Deferred} : m.r r b → MRel m l l' → MRel m (r :: l) ({ target := .collected b, args := #[] } :: l')
theorem MRel.mono {m' : Bij} (h : m ≤ m') {l : List Nat} {l' : List Deferred} (k : MRel m l l') : MRel m' l l' := by
 induction k with
 | nil => exact .nil
 | cons hr _ ih => exact .cons (h _ _ hr).1 ih
theorem MRel.append {l k : List Nat} {l' k' : List Deferred} (h : MRel m l l') (g : MRel m k k') : MRel m (l ++ k) (l' ++ k') := by
 induction h with
 | nil => exact g
 | cons hr _ ih => exact .cons hr ih
theorem scal_rel {v : Value} (h : scal v = true) : VRel m v v := by
 cases v with
 | pointer a => cases a with
   | none => exact .pointer .none
   | some a => simp [scal] at h
 | slice a l c => cases a with
   | none => exact .slice l c (by simpa [scal] using h) .none
   | some a => simp [scal] at h
 | map a => cases a with
   | none => exact .map .none
   | some a => simp [scal] at h
 | bool b => exact .bool b
 | int k n => exact .int k n
 | float k n => exact .float k n
 | complex k a b => exact .complex k a b
 | string s => exact .string s
 | nilFunc => exact .nilFunc
 | nilIface => exact .nilIface
 | _ => simp [scal] at h
theorem scal_row {c : Array Value} (h : c.toList.all scal = true) : RowRel m c c :=
 .of_get rfl fun i v v' h1 h2 => by
  rw [h1] at h2; cases h2
  have : v ∈ c.toList := by
   rw [← Array.getElem?_toList] at h1
   exact List.mem_of_getElem? h1
  exact scal_rel (List.all_eq_true.1 h v this)
theorem flat_rel {v : Value} (h : flat v = true) : VRel m v v := by
 cases v with
 | agg c => exact .agg rfl (scal_row h).at_
 | tuple c => exact .tuple rfl (scal_row h).at_
 | iface t v => exact .iface t (scal_rel h)
 | func f x c => cases f with
   | func f =>
     simp only [flat, Bool.and_eq_true, Array.isEmpty_iff] at h
     obtain ⟨rfl, rfl⟩ := h
     exact .func (.func f) rfl (fun i a => by simp at a) rfl (fun i a => by simp at a)
   | _ => simp [flat, scal] at h
 | _ => exact scal_rel h
structure TRel (m : Bij) (t : T) (ro : Option Nat) (a : Act) : Prop where
 get : ∀ i, VRel m (t.get i) (a.tmps.getD i undef)
 size : t.n = a.tmps.size
 round : OptRel m.r t.round ro
 marks : MRel m t.marks a.defers
 room : t.n + 2 ≤ 2 ^ D
theorem TRel.mono {m' : Bij} (h : m ≤ m') {t : T} {ro : Option Nat} {a : Act} (k : TRel m t ro a) : TRel m' t ro a :=
 ⟨fun i => (k.get i).mono h, k.size, k.round.mono fun _ _ q => (h _ _ q).1, k.marks.mono h, k.room⟩
theorem rel_undef : VRel m undef undef := .tuple rfl fun i h => by simp at h
theorem TRel.put {t : T} {ro : Option Nat} {a : Act} (k : TRel m t ro a) (d : Option Tmp) {v v' : Value} (hv : VRel m v v') : TRel m (t.put d v) ro (a.put d v') := by
 cases d with
 | none => exact k
 | some d =>
   unfold T.put Act.put
   by_cases hd : d < t.n
   ·have hd' : @LT.lt Nat _ d t.n := hd
    simp only [hd, if_true]
    refine ⟨fun i => ?_, by simpa using k.size, k.round, k.marks, k.room⟩
    have := k.get i
    have hsz := k.size
    have hroom := k.room
    simp only [T.get] at this ⊢
    rw [Tr.get_set D t.t d i (some v) (by omega)]
    by_cases hi : i = d
    ·subst hi
     simp only [if_true]
     rw [Array.getD_eq_getD_getElem?, Array.getElem?_setIfInBounds_self_of_lt (by omega)]
     exact hv
    ·simp only [if_neg hi]
     rw [Array.getD_eq_getD_getElem?, Array.getElem?_setIfInBounds_ne (fun e => hi e.symm), ← Array.getD_eq_getD_getElem?]
     exact this
   ·have hd' : ¬ @LT.lt Nat _ d t.n := hd
    simp only [hd, if_false]
    have : a.tmps.setIfInBounds d v' = a.tmps := by
     have := k.size
     exact Array.setIfInBounds_eq_of_size_le (by omega)
    rw [this]; exact k
theorem TRel.eval {t : T} {ro : Option Nat} {a : Act} (k : TRel m t ro a) (x : Operand) (hx : okOperand x = true) : VRel m (t.eval x) (a.eval x) := by
 cases x with
 | tmp i => exact k.get i
 | const v => exact flat_rel hx
 | global g => simp [okOperand] at hx
 | func f => exact .func (.func f) rfl (fun i h => by simp at h) rfl (fun i h => by simp at h)
theorem TRel.wanted {t : T} {ro : Option Nat} {a : Act} (k : TRel m t ro a) (ops : Array Oper) (o : Oper) : Region.wanted o (yielded ops a.tmps) = wantedT ops t o := by
 unfold Region.wanted wantedT
 cases o.guard with
 | none => rfl
 | some g =>
   obtain ⟨j, w⟩ := g
   simp only [yielded]
   cases hd : (ops[j]?).bind (·.dst) with
   | none => rfl
   | some d =>
     have hs := k.size
     simp only [Option.bind_some]
     by_cases hlt : d < t.n
     ·have hd' : @LT.lt Nat _ d t.n := hlt
      have hl : @LT.lt Nat _ d a.tmps.size := by omega
      have := k.get d
      rw [Array.getD_eq_getD_getElem?, Array.getElem?_eq_getElem hl] at this
      simp only [Option.getD_some] at this
      rw [Array.getElem?_eq_getElem hl, if_pos hlt]
      generalize t.get d = x at *
      generalize a.tmps[d] = y at *
      cases this <;> simp
     ·have hd' : ¬ @LT.lt Nat _ d t.n := hlt
      rw [Array.getElem?_eq_none (by omega), if_neg hlt]; simp
theorem fillT_get : ∀ (l : List Value) (i : Nat) (t : Tr Value) (k : Nat), i + l.length + 2 ≤ 2 ^ D → Tr.get D (fillT i t l) k = if i ≤ k ∧ k < i + l.length then l[k - i]? else Tr.get D t k
 | [], i, t, k, _ => by simp [fillT]; omega
 | v :: l, i, t, k, h => by
   simp only [List.length_cons] at h
   rw [fillT, fillT_get l (i + 1) _ k (by omega), Tr.get_set D t i k (some v) (by omega)]
   simp only [List.length_cons]
   by_cases h1 : k = i
   ·subst h1; rw [if_neg (by omega), if_pos rfl, if_pos (by omega)]; simp
   ·by_cases h2 : i + 1 ≤ k ∧ k < i + 1 + l.length
    ·rw [if_pos h2, if_pos (by omega)]
     have : k - i = (k - (i + 1)) + 1 := by omega
     rw [this]; simp
    ·rw [if_neg h2, if_neg h1, if_neg (by omega)]
theorem TRel.fill {l : List Value} {l' : Array Value} (h : LRel m l l'.toList) (n : Nat) (ro ro' : Option Nat) (hr : OptRel m.r ro ro') (hn : n + 2 ≤ 2 ^ D) (hl : l.length ≤ n) :
  TRel m { t := fillT 0 .leaf l, n := n, round := ro, marks := [] } ro' { tmps := l' ++ Array.replicate (n - l'.size) undef, defers := [] } := by
 have hlen := h.length
 simp only [Array.length_toList] at hlen
 refine ⟨fun i => ?_, by simp; omega, hr, .nil, hn⟩
 simp only [T.get]
 rw [fillT_get l 0 .leaf i (by omega), Tr.get_leaf, Array.getD_eq_getD_getElem?, Array.getElem?_append]
 have := h.get i
 rw [show l'.toList[i]? = l'[i]? from Array.getElem?_toList] at this
 by_cases hi : i < l.length
 ·rw [if_pos (by omega), if_pos (by omega)]
  simp only [Nat.sub_zero]
  cases ha : l[i]? <;> cases hb : l'[i]? <;> rw [ha, hb] at this <;> cases this
  ·exact rel_undef
  ·assumption
 ·rw [if_neg (by omega), if_neg (by omega), Array.getElem?_replicate]
  change VRel m undef _
  split <;> exact rel_undef
inductive EX : AEx → Exit → Prop
 | normal : EX .normal .normal
 | exit (id : Nat) : EX (.exit id) (.exit id)
 | ret : EX .ret .ret
def CPost (m : Bij) (h : H) (W : World) (ro : Option Nat) (e : AEx) (t' : T) (h' : H) : Exit → Act → World → Prop := fun x a' W' => EX e x ∧ ∃ m', Snd m h W m' h' W' ∧ TRel m' t' ro a'
def Done (m : Bij) (h : H) (W : World) (v : Value) (h' : H) : Ending → World → Prop := fun e W' => ∃ v' m', e = .returned v' ∧ VRel m' v v' ∧ Snd m h W m' h' W'
structure Sound (P : Program) (rec : Rec) : Prop where
 code : ∀ c t h e t' h', rec (.code c t) h = some (.code e t', h') → ∀ m W a ro, TRel m t ro a → WRel m h W → c.wpIn (Fr ro) 0 P (CPost m h W ro e t' h') a W
 call : ∀ f args h v h', rec (.call f args) h = some (.val v, h') → ∀ m W args', RowRel m args args' → WRel m h W → CallsIn Fence.wide 0 P f args' W (Done m h W v h')
def HookOk (P : Program) (hk : Hook) : Prop := ∀ f args h v h', hk f args h = some (some (v, h')) → ∀ m W args', RowRel m args args' → WRel m h W → CallsIn Fence.wide 0 P f args' W (Done m h W v h')
end Go.Proofs.YtlbipokkdiiaiaaGreatDoor.Exec
namespace Go.Proofs.YtlbipokkdiiaiaaGreatDoor.Exec
variable {P : Program} {m : Bij}
theorem rel_beginRound {l l' : Nat} (hl : m.r l l') : SRel P (fun _ _ _ => True) m (Instr.beginRound l) (Instr.beginRound l') := by
 refine .getObj hl fun o o' ho => ?_
 cases ho with
 | @loop r r' p1 p2 p3 p4 p5 p6 p7 =>
   refine .setObj hl (.loop rfl p2 p3 p4 p5 p6 p7) ?_
   show SRel P _ m (match r.state with | .ready => pure () | .done => runtimePanic _ | .busy => runtimePanic _ | .exhausted => runtimePanic _) (match r'.state with | .ready => pure () | .done => runtimePanic _ | .busy => runtimePanic _ | .exhausted => runtimePanic _)
   rw [← p1]
   cases r.state <;> first | exact .pure trivial | exact rel_panic _ (by simp) (by simp) _
 | _ => exact .halt
theorem rel_endRound {l l' : Nat} (hl : m.r l l') (j : Option Code) : SRel P VRel m (Instr.endRound l j) (Instr.endRound l' j) := by
 refine .getObj hl fun o o' ho => ?_
 cases ho with
 | @loop r r' p1 p2 p3 p4 p5 p6 p7 => exact .setObj hl (.loop rfl rfl p3 p4 p5 p6 p7) (.pure (.bool _))
 | _ => exact .halt
theorem rel_endLoop {l l' : Nat} (hl : m.r l l') : SRel P EqR m (Instr.endLoop l) (Instr.endLoop l') := by
 refine .getObj hl fun o o' ho => ?_
 cases ho with
 | @loop r r' p1 p2 p3 p4 p5 p6 p7 =>
   show SRel P _ m (if r.state == .busy then (do (runtimePanic _ : Sem PUnit); setObj l (.loop { r with state := .exhausted }); pure r.pending) else (do setObj l (.loop { r with state := .exhausted }); pure r.pending))
    (if r'.state == .busy then (do (runtimePanic _ : Sem PUnit); setObj l' (.loop { r' with state := .exhausted }); pure r'.pending) else (do setObj l' (.loop { r' with state := .exhausted }); pure r'.pending))
   rw [← p1]
   split
   ·exact .dead fun h => rfl
   ·exact .setObj hl (.loop rfl p2 p3 p4 p5 p6 p7) (by rw [← p2]; exact rel_eq _)
 | _ => exact .halt
theorem rel_enterLoop (f f' : FuncId) {t t' : Array Value} (ht : RowRel m t t') (ps : Array Tmp) (x y : Code) {a a' : Option Nat} (ha : OptRel m.r a a') :
  SRel P (fun m p q => m.r p.1 q.1 ∧ ∃ k, MRel m k q.2 ∧ (p.2.filterMap fun d => match d.target with | .collected r => some r | _ => none) = k) m (Instr.enterLoop f t ps x y a) (Instr.enterLoop f' t' ps x y a') := by
 cases ha with
 | none =>
   refine .new .deferred fun m1 r r' h1 hr => ?_
   refine .new (.loop rfl rfl (ht.mono h1) rfl rfl rfl hr) fun m2 l l' h2 hl => ?_
   exact .pure ⟨hl, [r], .cons (h2 _ _ hr).1 .nil, rfl⟩
 | some ha =>
   refine .getObj ha fun o o' ho => ?_
   cases ho with
   | @loop r r' p1 p2 p3 p4 p5 p6 p7 =>
     refine .new (.loop rfl rfl ht rfl rfl rfl p7) fun m2 l l' h2 hl => ?_
     exact .pure ⟨hl, [], .nil, rfl⟩
   | _ => exact .halt
theorem next_sound {hk : Hook} {rec : Rec} (hs : Sound P rec) (hh : HookOk P hk) {ro : Option Nat} {nx nx' : Next} (hn : NxRel m nx nx') {h h' : H} {v : Value} {W : World} (he : aNext hk P rec h nx = some (v, h')) (hw : WRel m h W)
  {o : Oper} {a : Act} {next : Act → World → Prop} {Q : Exit → Act → World → Prop} (hnext : ∀ m' v' W', VRel m' v v' → Snd m h W m' h' W' → next (a.put o.dst v') W') : o.uponIn (Fr ro) 0 P a next Q (.ok nx' W) := by
 cases hn with
 | value hv =>
   simp only [aNext, Option.some.injEq, Prod.mk.injEq] at he
   obtain ⟨rfl, rfl⟩ := he
   exact hnext m _ W hv (Snd.refl hw)
 | skip =>
   simp only [aNext, Option.some.injEq, Prod.mk.injEq] at he
   obtain ⟨rfl, rfl⟩ := he
   exact hnext m _ W rel_undef (Snd.refl hw)
 | @enter f args args' ha =>
   have hc : CallsIn Fence.wide 0 P f args' W (Done m h W v h') := by
    simp only [aNext] at he
    split at he
    ·rename_i r hr
     subst he
     exact hh f args h v h' hr m W args' ha hw
    ·split at he
     ·rename_i v2 h2 hr
      simp only [Option.some.injEq, Prod.mk.injEq] at he
      obtain ⟨rfl, rfl⟩ := he
      exact hs.call f args h _ _ hr m W args' ha hw
     ·simp at he
   have hc' : CallsIn (Fr ro) 0 P f args' W (Done m h W v h') := hc
   refine ⟨fun hd => by simp [Fr, Fence.wide] at hd, hc'.mono fun e W' hq => ?_⟩
   obtain ⟨v', m', rfl, q1, q2⟩ := hq
   exact hnext m' v' W' q1 q2
 | @round l l' f f' t t' x y hl ht =>
   refine ⟨fun hd => by simp [Fr, Fence.wide] at hd, ?_⟩
   simp only [aNext] at he
   split at he
   ·simp at he
   ·rename_i hsz
    split at he
    ·rename_i t1 h1 hr1
     split at he
     ·rename_i u h2 hm0 hb
      split at he
      ·rename_i e t2 h3 hr2
       split at he
       ·rename_i hm2
        have hts := ht.size
        have ht0 : TRel m { t := fillT 0 .leaf t.toList, n := t.size, round := some l, marks := [] } (some l') { tmps := t', defers := [] } := by
         have hdd : (10000 : Nat) + 2 ≤ 2 ^ D := by decide
         have hlt : t.size + 2 ≤ 2 ^ D := by omega
         have := TRel.fill (m := m) (l := t.toList) (l' := t') ht.toList t.size (some l) (some l') (.some hl) hlt (by simp)
         have e0 : t' ++ Array.replicate (t.size - t'.size) undef = t' := by
          rw [← hts, Nat.sub_self]; simp
         rw [e0] at this
         exact this
        refine roundIn_of_wpIn trivial ?_
        have w1 := hs.code x _ h .normal t1 h1 hr1 m W _ (some l') ht0 hw
        refine wpIn_mono w1 fun ex a1 W1 hq => ?_
        obtain ⟨hex, m1, hs1, ht1⟩ := hq
        cases hex
        obtain ⟨m2, u', W2, r1, _, r3⟩ := ARun.sound (rel_beginRound (hs1.le _ _ hl).1) hb hs1.rel
        refine ⟨W2, r1, ?_⟩
        have w2 := hs.code y t1 h2 e t2 h3 hr2 m2 W2 a1 (some l') (ht1.mono r3.le) r3.rel
        refine wpIn_mono w2 fun ex2 a2 W3 hq2 => ?_
        obtain ⟨hex2, m3, hs3, ht3⟩ := hq2
        have hl3 := (hs3.le _ _ (r3.le _ _ (hs1.le _ _ hl).1).1).1
        have fin : ∀ j, ARun P (Instr.endRound l j) h3 = some (v, h') → ∃ v' W4, (Instr.endRound l' j).run P W3 = .ok v' W4 ∧ next (a.put o.dst v') W4 := by
         intro j hj
         obtain ⟨m4, v', W4, z1, z2, z3⟩ := ARun.sound (rel_endRound hl3 j) hj hs3.rel
         exact ⟨v', W4, z1, hnext m4 v' W4 z2 (hs1.trans hw (r3.trans hs1.rel (hs3.trans r3.rel z3)))⟩
        cases hex2 with
        | normal => exact fin none he
        | exit id => exact fin (some (.exit id)) he
        | ret => exact fin (some .ret) he
       ·simp at he
      ·simp at he
     ·simp at he
    ·simp at he
end Go.Proofs.YtlbipokkdiiaiaaGreatDoor.Exec
