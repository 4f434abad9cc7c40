/- Lemmas for TopTwice: ExecCode3, ExecCode4, ExecReg, ExecReg1. -/
import Derived.Test.YtlbipokkdiiaiaaGreatDoorU06
import Derived.Test.YtlbipokkdiiaiaaGreatDoorU01
import Derived.OrdersIn
namespace Go.Proofs.YtlbipokkdiiaiaaGreatDoor.Exec
variable {P : Program} {m : Bij}
theorem no_defer {ρ : Operand → Value} {o : Oper} {h h' : H} {nx : Next} (he : aop P ρ o h = some (nx, h')) : ∀ c, o.op ≠ .defer c := by
 intro c hc
 unfold aop at he
 rw [hc] at he
 simp at he
theorem ops_ok {l : List Operand} {t : T} {ro : Option Nat} {a : Act} (ht : TRel m t ro a) (h : l.all okOperand = true) : ∀ x ∈ l, VRel m (t.eval x) (a.eval x) := fun x hx => ht.eval x (List.all_eq_true.1 h x hx)
theorem aoper_sound {hk : Hook} {rec : Rec} (g : Good P) (hs : Sound P rec) (hh : HookOk P hk) {ops : Array Oper} {o : Oper} {t t' : T} {h h' : H} (he : aoper hk P rec ops o t h = some (t', h')) {ro : Option Nat} {a : Act} {W : World}
  (ht : TRel m t ro a) (hw : WRel m h W) {next : Act → World → Prop} {Q : Exit → Act → World → Prop} (hnext : ∀ m' a' W', TRel m' t' ro a' → Snd m h W m' h' W' → next a' W') :
  if Region.wanted o (yielded ops a.tmps) then o.wpIn (Fr ro) 0 P a W next Q else (∀ f, o.about P W a.eval = some f → (Fr ro).fn f) ∧ next (a.put o.dst undef) W := by
 rw [ht.wanted ops o]
 unfold aoper at he
 split at he
 ·rename_i hw1
  rw [if_pos hw1]
  split at he
  ·rename_i nx h1 hop
   split at hop
   ·rename_i hok
    split at he
    ·rename_i v h2 hnx
     simp only [Option.some.injEq, Prod.mk.injEq] at he
     obtain ⟨rfl, rfl⟩ := he
     have hρ : ∀ x ∈ o.op.operands, VRel m (t.eval x) (a.eval x) := fun x hx => ops_ok ht hok x (by simpa using hx)
     obtain ⟨m1, nx', W1, r1, r2, r3⟩ := aop_sound g hρ hw hop
     refine ⟨fun _ _ => trivial, ?_⟩
     rw [Oper.semAt_eq _ _ _ (no_defer hop), r1]
     exact next_sound hs hh r2 hnx r3.rel fun m2 v' W2 hv q => hnext m2 _ W2 (((ht.mono r3.le).mono q.le).put o.dst hv) (r3.trans hw q)
    ·simp at he
   ·simp at hop
  ·simp at he
 ·rename_i hw1
  rw [if_neg hw1]
  simp only [Option.some.injEq, Prod.mk.injEq] at he
  obtain ⟨rfl, rfl⟩ := he
  exact ⟨fun _ _ => trivial, hnext m _ W (ht.put o.dst rel_undef) (Snd.refl hw)⟩
theorem aops_sound {hk : Hook} {rec : Rec} (g : Good P) (hs : Sound P rec) (hh : HookOk P hk) {ops : Array Oper} {ro : Option Nat} {Q : Exit → Act → World → Prop} : ∀ (l : List Oper) (i : Nat) {m : Bij} {t t' : T} {h h' : H} {a : Act} {W : World}, ops.toList.drop i = l →
  aops hk P rec ops l t h = some (t', h') → TRel m t ro a → WRel m h W → (∀ m' a' W', TRel m' t' ro a' → Snd m h W m' h' W' → Q .normal a' W') → wpOpsIn (Fr ro) 0 P ops Q (List.range' i l.length) a W
 | [], i, m, t, t', h, h', a, W, hd, he, ht, hw, hq => by
   simp only [aops, Option.some.injEq, Prod.mk.injEq] at he
   obtain ⟨rfl, rfl⟩ := he
   exact hq m a W ht (Snd.refl hw)
 | o :: l, i, m, t, t', h, h', a, W, hd, he, ht, hw, hq => by
   simp only [aops] at he
   split at he
   ·rename_i t1 h1 ho
    have hi : i < ops.toList.length := by
     rcases Nat.lt_or_ge i ops.toList.length with k | k
     ·exact k
     ·rw [List.drop_eq_nil_of_le k] at hd; simp at hd
    rw [List.drop_eq_getElem_cons hi] at hd
    simp only [List.cons.injEq] at hd
    obtain ⟨e1, e2⟩ := hd
    have hoi : ops[i]? = some o := by
     rw [← Array.getElem?_toList, List.getElem?_eq_getElem hi, e1]
    simp only [List.length_cons, List.range'_succ, wpOpsIn, hoi]
    exact aoper_sound g hs hh ho ht hw fun m1 a1 W1 ht1 hs1 => aops_sound g hs hh l (i + 1) e2 he ht1 hs1.rel fun m2 a2 W2 ht2 hs2 => hq m2 a2 W2 ht2 (hs1.trans hw hs2)
   ·simp at he
def RegionOk (P : Program) (region : Rec → Array Oper → T → H → Option (T × H)) : Prop :=
 ∀ rec, Sound P rec → ∀ ops t h t' h', region rec ops t h = some (t', h') → ∀ id m W a ro, TRel m t ro a → WRel m h W → (Code.region id ops true).wpIn (Fr ro) 0 P (CPost m h W ro .normal t' h') a W
theorem CPost.trans {h h1 h2 : H} {W W1 : World} {m1 : Bij} {ro : Option Nat} {e : AEx} {t2 : T} (hw : WRel m h W) (hs : Snd m h W m1 h1 W1) {x : Exit} {a : Act} {W2 : World} (hc : CPost m1 h1 W1 ro e t2 h2 x a W2) : CPost m h W ro e t2 h2 x a W2 := by
 obtain ⟨k1, m2, k2, k3⟩ := hc
 exact ⟨k1, m2, hs.trans hw k2, k3⟩
theorem ARun.bind_ok {α γ : Type} (s : Sem α) (f : α → Sem γ) {a : α} {h2 : H} : ∀ h, ARun P s h = some (a, h2) → ARun P (s.bind f) h = ARun P (f a) h2 := by
 induction s with
 | pure b => intro h he; simp only [ARun, Option.some.injEq, Prod.mk.injEq] at he; obtain ⟨rfl, rfl⟩ := he; rfl
 | halt x => intro h he; simp [ARun] at he
 | load md a k ih => intro h he; simp only [Sem.bind, ARun] at he ⊢; split at he <;> simp_all
 | store md a v k ih => intro h he; cases v <;> simp only [Sem.bind, ARun] at he ⊢ <;> first | (simp at he; done) | (split at he <;> simp_all)
 | new o k ih => intro h he; simp only [Sem.bind, ARun] at he ⊢; split at he <;> simp_all
 | shape r k ih => intro h he; simp only [Sem.bind, ARun] at he ⊢; split at he <;> simp_all
 | freeze a n k ih => intro h he; simp only [Sem.bind, ARun] at he ⊢; split at he <;> simp_all
 | frozen a k ih =>
   intro h he
   simp only [Sem.bind, ARun] at he ⊢
   split at he
   ·rename_i hg
    split at he
    ·simp at he
    ·rename_i hc
     rw [if_neg hc]
     exact ih _ _ he
   ·simp at he
 | getObj r k ih => intro h he; simp only [Sem.bind, ARun] at he ⊢; split at he <;> simp_all
 | setObj r o k ih => intro h he; simp only [Sem.bind, ARun] at he ⊢; split at he <;> simp_all
 | choose q k ih => intro h he; simp only [Sem.bind, ARun] at he ⊢; split at he <;> simp_all
 | sys c k ih => intro h he; simp [ARun] at he
 | program k ih => intro h he; simp only [Sem.bind, ARun] at he ⊢; exact ih _ _ he
 | mark x k ih => intro h he; simp only [Sem.bind, ARun] at he ⊢; exact ih _ he
theorem arun_cells_h : ∀ (n i : Nat) (a : Addr) (acc : Array Value) {h : H} {c : Array Value} {h1 : H}, ARun P (loadCellsFrom a i n acc) h = some (c, h1) → h1 = h
 | 0, i, a, acc, h, c, h1, he => by
   simp only [loadCellsFrom] at he
   obtain ⟨rfl, rfl⟩ : acc = c ∧ h = h1 := by simpa [ARun, Pure.pure] using he
   rfl
 | n + 1, i, a, acc, h, c, h1, he => by
   unfold loadCellsFrom at he
   rw [arun_load] at he
   split at he
   ·exact arun_cells_h n (i + 1) a _ he
   ·simp at he
theorem run_load' {a : Addr} {v : Value} {W : World} (h : W.cell? a = some v) : (load a).run P W = .ok v W := by
 show (Sem.load .plain a .pure).run P W = _
 simp only [Sem.run, h]
theorem load_true {h h1 : H} {W : World} {ty : TypeId} {x x' : Addr} {v : Value} (he : ARun P (loadVar ty x) h = some (v, h1)) (hx : ARel m x x') (hw : WRel m h W) : h1 = h ∧ ∃ v', (loadVar ty x').run P W = .ok v' W ∧ VRel m v v' := by
 have hag : ∀ d, P.underlying ty = some d → isAgg ty = (do let d ← underlying ty; match d with | .struct _ => pure true | .array _ _ => pure true | _ => pure false) := fun _ _ => rfl
 have hcase : (∃ b, ∀ k : Bool → Sem Value, (∀ h, ARun P (isAgg ty >>= k) h = ARun P (k b) h) ∧ (∀ W, (isAgg ty >>= k).run P W = (k b).run P W)) ∨ (∀ k : Bool → Sem Value, ∀ h, ARun P (isAgg ty >>= k) h = none) := by
  cases hd : P.underlying ty with
  | none =>
    right; intro k h
    show ARun P (Sem.bind (Sem.bind (match P.underlying ty with | some i => Sem.pure i | none => stuck "no such type") _) k) h = none
    rw [hd]; rfl
  | some d =>
    left
    have e : ∀ k : Bool → Sem Value, isAgg ty >>= k = Sem.program fun p => Sem.bind (Sem.bind (match p.underlying ty with | some i => Sem.pure i | none => stuck "no such type") fun d => match d with | .struct _ | .array _ _ => Sem.pure true | _ => Sem.pure false) k := fun k => rfl
    cases d <;> first
     | exact ⟨true, fun k => ⟨fun h => by rw [e]; simp only [ARun, hd]; rfl, fun W => by rw [e]; simp only [Sem.run, hd]; rfl⟩⟩
     | exact ⟨false, fun k => ⟨fun h => by rw [e]; simp only [ARun, hd]; rfl, fun W => by rw [e]; simp only [Sem.run, hd]; rfl⟩⟩
 unfold loadVar at he ⊢
 rcases hcase with ⟨b, hb⟩ | hb
 ·rw [(hb _).1] at he
  rw [(hb _).2]
  cases b with
  | false =>
    simp only [Bool.false_eq_true, if_false] at he ⊢
    have : (load x : Sem Value) = load x >>= Sem.pure := rfl
    rw [this, arun_load] at he
    split at he
    ·rename_i u hc
     obtain ⟨rfl, rfl⟩ : u = v ∧ h = h1 := by simpa [ARun] using he
     obtain ⟨v', q1, q2⟩ := hw.cell hx hc
     exact ⟨rfl, v', run_load' q1, q2⟩
    ·simp at he
  | true =>
    simp only [if_true] at he ⊢
    cases hi : P.info? ty with
    | none =>
      have : ARun P (do let __do_lift ← sizeOf ty; let __do_lift ← loadCells x __do_lift; pure (Value.agg __do_lift)) h = none := by
       show ARun P (Sem.bind (Sem.bind (match P.info? ty with | some i => Sem.pure i | none => stuck "no such type") _) _) h = none
       rw [hi]; rfl
      rw [this] at he; simp at he
    | some i =>
      have e1 : ARun P (do let __do_lift ← sizeOf ty; let __do_lift ← loadCells x __do_lift; pure (Value.agg __do_lift)) h = ARun P (do let c ← loadCells x i.size; pure (Value.agg c)) h := by
       show ARun P (Sem.bind (Sem.bind (match P.info? ty with | some i => Sem.pure i | none => stuck "no such type") _) _) h = _
       rw [hi]; rfl
      rw [e1] at he
      have bind_some : ∀ {α β : Type} (s : Sem α) (f : α → Sem β) (h : H) r, ARun P (s >>= f) h = some r → ∃ a h2, ARun P s h = some (a, h2) := by
       intro α β s f h r hr
       cases hs : ARun P s h with
       | some q => exact ⟨q.1, q.2, rfl⟩
       | none => rw [show ARun P (s >>= f) h = none from ARun.bind_none s f h hs] at hr; simp at hr
      obtain ⟨c, h2, hc⟩ := bind_some _ _ _ _ he
      obtain ⟨k1, l', k2, k3⟩ := cells_list hc hw hx
      have hr := run_loadCells_list (P := P) W x' l' k3
      rw [← k2.length, k1] at hr
      have e2 : ARun P (do let c ← loadCells x i.size; pure (Value.agg c)) h = some (.agg c, h2) := ARun.bind_ok _ _ _ hc
      rw [e2] at he
      simp only [Option.some.injEq, Prod.mk.injEq] at he
      obtain ⟨rfl, rfl⟩ := he
      have hrow : RowRel m c l'.toArray := by
       have := k2.toArray
       simpa using this
      refine ⟨arun_cells_h _ _ _ _ hc, .agg l'.toArray, ?_, .agg hrow.size hrow.at_⟩
      simp [sizeOf, typeInfo, hi, hr]
 ·rw [hb] at he; simp at he
def resOf (tmps : Array Value) : ResultVar → Sem Value
 | .tmp t => pure (tmps.getD t undef)
 | .cell a t => do loadVar t (← asAddr (tmps.getD a undef))
theorem results_sound {h : H} {W : World} {t : T} {ro : Option Nat} {a : Act} (ht : TRel m t ro a) (hw : WRel m h W) : ∀ (l : List ResultVar) {vs : List Value}, aresults P t h l = some vs →
  ∃ vs', LRel m vs vs' ∧ (l.mapM (resOf a.tmps)).run P W = .ok vs' W
 | [], vs, h1 => by
   simp only [aresults, Option.some.injEq] at h1; subst h1
   exact ⟨[], .nil, rfl⟩
 | .tmp i :: l, vs, h1 => by
   have := sem_lawful
   simp only [aresults] at h1
   split at h1
   ·rename_i l2 h2
    simp only [Option.some.injEq] at h1; subst h1
    obtain ⟨vs', q1, q2⟩ := results_sound ht hw l h2
    refine ⟨a.tmps.getD i undef :: vs', .cons (ht.get i) q1, ?_⟩
    rw [List.mapM_cons, Sem.run_bind]
    simp only [resOf, Sem.run_pure, Result.andThen_ok, Sem.run_bind, q2]
   ·simp at h1
 | .cell ad ty :: l, vs, h1 => by
   have := sem_lawful
   simp only [aresults] at h1
   split at h1
   ·rename_i x hx
    split at h1
    ·rename_i v h3 l2 hv h2
     simp only [Option.some.injEq] at h1; subst h1
     obtain ⟨vs', q1, q2⟩ := results_sound ht hw l h2
     have hg := ht.get ad
     rw [hx] at hg
     generalize hX : a.tmps.getD ad undef = X at hg
     cases hg with
     | pointer hp => cases hp with
       | @some _ x' ha =>
         obtain ⟨_, v', k1, k2⟩ := load_true hv ha hw
         refine ⟨v' :: vs', .cons k2 q1, ?_⟩
         rw [List.mapM_cons, Sem.run_bind]
         simp only [resOf, hX, asAddr, sem_pure, k1, Sem.run_pure, Result.andThen_ok, Sem.run_bind, q2]
    ·simp at h1
   ·simp at h1
theorem results_run {h : H} {W : World} {t : T} {ro : Option Nat} {a : Act} (ht : TRel m t ro a) (hw : WRel m h W) (fn : Func) {vs : List Value} (hr : aresults P t h fn.results.toList = some vs) :
  ∃ v', (results fn a.tmps).run P W = .ok v' W ∧ VRel m (oneOf vs) v' := by
 have := sem_lawful
 obtain ⟨vs', q1, q2⟩ := results_sound ht hw fn.results.toList hr
 have hd : results fn a.tmps = (do
   let vs ← fn.results.mapM (resOf a.tmps)
   pure (if h : vs.size = 1 then vs[0] else .tuple vs)) := by
  unfold results
  congr 1
 rw [hd, Sem.run_bind, Array.mapM_eq_mapM_toList, map_eq_pure_bind, Sem.run_bind, q2]
 simp only [Result.andThen_ok, Sem.run_pure]
 refine ⟨_, rfl, ?_⟩
 cases q1 with
 | nil => exact .tuple rfl fun i a => by simp at a
 | cons hv hl => cases hl with
   | nil => simpa [oneOf] using hv
   | cons hu hl2 =>
     have hrow := (LRel.cons hv (LRel.cons hu hl2)).toArray
     simp only [oneOf, List.size_toArray, List.length_cons]
     rw [dif_neg (by omega)]
     exact .tuple hrow.size hrow.at_
theorem leave_sound {fn : Func} {tmps : Array Value} {R : Ending → World → Prop} {ro : Option Nat} : ∀ (l : List Nat) {l' : List Deferred} {m : Bij} {h h' : H} {W : World}, MRel m l l' → aleave l h = some h' → WRel m h W →
  (∀ m' W', Snd m h W m' h' W' → LeavesIn (Fr ro) 0 P fn tmps R [] .returning W') → LeavesInM (Fr ro) 0 P fn tmps R l' .returning W
 | [], l', m, h, h', W, hm, he, hw, hk => by
   cases hm
   simp only [aleave, Option.some.injEq] at he
   subst he
   exact hk m W (Snd.refl hw)
 | r :: l, l', m, h, h', W, hm, he, hw, hk => by
   cases hm with
   | @cons _ b _ l2 hr hm =>
     simp only [aleave] at he
     split at he
     ·rename_i g hg
      obtain ⟨o', q1, q2⟩ := hw.objAt hr hg (by simp)
      cases q2
      have hp := Snd.put hw hg hr (.obj .taken)
      refine ⟨by simp, .inl ⟨b, _, rfl, ?_, leave_sound l (hm.mono hp.le) he hp.rel fun m' W' hs => hk m' W' (hp.trans hw hs)⟩⟩
      unfold Instr.takeDeferred
      rw [run_obj q1 (by simp)]
      simp only [Sem.run_bind]
      rw [run_setObj q1 (by simp)]
      rfl
     ·simp at he
end Go.Proofs.YtlbipokkdiiaiaaGreatDoor.Exec
namespace Go.Proofs.YtlbipokkdiiaiaaGreatDoor.Exec
variable {P : Program} {m : Bij}
theorem exists_least {p : Nat → Prop} (h : ∃ k, p k) : ∃ k, p k ∧ ∀ j, p j → k ≤ j := by
 obtain ⟨k, hk⟩ := h
 induction k using Nat.strongRecOn with
 | _ k ih =>
   by_cases hj : ∃ j, j < k ∧ p j
   ·obtain ⟨j, h1, h2⟩ := hj; exact ih j h1 h2
   ·exact ⟨k, hk, fun j hp => Nat.le_of_not_lt fun hlt => hj ⟨j, hlt, hp⟩⟩
theorem wpIn_loop_n {F : Fence} {d : Nat} {c : Code} {Q : Exit → Act → World → Prop} (J : Nat → Act → World → Prop) {n : Nat} {a : Act} {w : World} (h0 : J n a w)
  (round : ∀ k a w, J k a w → c.wpIn F d P (Exit.then (fun a' w' => ∃ j, j < k ∧ J j a' w') Q) a w) : (Code.loop c).wpIn F d P Q a w := by
 classical
 refine wpIn_loop (fun a w => ∃ k, J k a w) (fun a w => if h : ∃ k, J k a w then (exists_least h).choose else 0) ⟨n, h0⟩ fun a w hI => ?_
 have hs := (exists_least hI).choose_spec
 refine wpIn_mono (round _ a w hs.1) fun e a' w' hq => ?_
 cases e with
 | normal =>
   obtain ⟨j, hj, hJ⟩ := hq
   refine ⟨⟨j, hJ⟩, ?_⟩
   rw [dif_pos hI, dif_pos ⟨j, hJ⟩]
   exact Nat.lt_of_le_of_lt ((exists_least ⟨j, hJ⟩).choose_spec.2 j hJ) hj
 | _ => exact hq
def NoGoto (Q : Exit → Act → World → Prop) : Exit → Act → World → Prop
 | .goto _, _, _ => False
 | e, a, w => Q e a w
theorem step_scopeR {b : Frame} {a : Act} {k : List Item} {cs : List Frame} {w : World} {c : Code} : step P (lone (b.atR a (.code (.scope c) :: k)) cs w) = .next (lone (b.atR a (.code c :: .inScope c :: k)) cs w) :=
 step_lone_go (by simp [stepG, stepG.exec, Frame.atR])
theorem step_inScopeR {b : Frame} {a : Act} {k : List Item} {cs : List Frame} {w : World} {c : Code} : step P (lone (b.atR a (.inScope c :: k)) cs w) = .next (lone (b.atR a k) cs w) :=
 step_lone_go (by simp [stepG, stepG.exec, Frame.atR])
theorem wpIn_scope {F : Fence} {d : Nat} {c : Code} {Q : Exit → Act → World → Prop} {a : Act} {w : World} (h : c.wpIn F d P (NoGoto Q) a w) : (Code.scope c).wpIn F d P Q a w := by
 intro b k cs hro hb hr
 have h0 : (lone (b.atR a (.code (.scope c) :: k)) cs w).fenced P F := fenced_calm hb hr rfl
 obtain ⟨e, a₁, w₁, hq, harr⟩ := h b (.inScope c :: k) cs hro hb hr
 have hx : ∀ id, exitTo id (.inScope c :: k) = exitTo id k := fun id => by simp [exitTo]
 cases e with
 | normal => exact ⟨.normal, a₁, w₁, hq, .head h0 step_scopeR (StepsIn.trans harr (.one (fenced_calm hb hr rfl) step_inScopeR))⟩
 | exit id => exact ⟨.exit id, a₁, w₁, hq, fun k' hk => .head h0 step_scopeR (harr.1 k' (by rw [hx]; exact hk)), fun hr' hk => let ⟨k₁, h1, h2⟩ := harr.2 hr' (by rw [hx]; exact hk); ⟨k₁, h1, .head h0 step_scopeR h2⟩⟩
 | goto l => exact hq.elim
 | ret => exact ⟨_, a₁, w₁, hq, .of_steps (.one h0 step_scopeR) harr⟩
 | panic ch => exact ⟨_, a₁, w₁, hq, .of_steps (.one h0 step_scopeR) harr⟩
 | outgrown => exact ⟨_, a₁, w₁, hq, .of_steps (.one h0 step_scopeR) harr⟩
theorem tmps_row {t : T} {ro : Option Nat} {a : Act} (ht : TRel m t ro a) : RowRel m (((List.range t.n).map t.get).toArray) a.tmps := by
 refine .of_get (by simpa using ht.size) fun i v v' h1 h2 => ?_
 have := ht.get i
 rw [Array.getD_eq_getD_getElem?, h2] at this
 rw [List.getElem?_toArray, List.getElem?_map] at h1
 have hi : i < t.n := by
  have := (Array.getElem?_eq_some_iff.1 h2).1
  have := ht.size
  omega
 rw [List.getElem?_range hi] at h1
 simp only [Option.map_some, Option.some.injEq] at h1
 subst h1
 exact this
theorem exec_call {hk : Hook} {region : Rec → Array Oper → T → H → Option (T × H)} {rec : Rec} (hs : Sound P rec) (f : FuncId) (args : Array Value) (h : H) (v : Value) (h' : H)
  (he : exec hk P region rec (.call f args) h = some (.val v, h')) (m : Bij) (W : World) (args' : Array Value) (ha : RowRel m args args') (hw : WRel m h W) : CallsIn Fence.wide 0 P f args' W (Done m h W v h') := by
 simp only [exec] at he
 split at he
 ·rename_i fn hf
  split at he
  ·rename_i c hb
   split at he
   ·simp at he
   ·rename_i hsz
    simp only [Bool.or_eq_true, not_or, Bool.not_eq_true', decide_eq_false_iff_not] at hsz
    have hs1 : args.size ≤ fn.ntmps := by
     have := hsz.1; simpa using this
    have hs2 : fn.ntmps < 10000 := by
     have := hsz.2; simpa using this
    split at he
    ·rename_i e t h1 hr
     have hdd : (10000 : Nat) + 2 ≤ 2 ^ D := by decide
     have hn : fn.ntmps + 2 ≤ 2 ^ D := by omega
     have ht0 := TRel.fill (m := m) ha.toList fn.ntmps none none .none hn (by simpa using hs1)
     have w1 := hs.code c _ h e t h1 hr m W _ none ht0 hw
     have fin : (e = .normal ∨ e = .ret) → (match aleave t.marks h1 with
       | some h => match aresults P t h fn.results.toList with
         | some l => some (Res.val (oneOf l), h)
         | none => none
       | none => none) = some (.val v, h') → CallsIn Fence.wide 0 P f args' W (Done m h W v h') := by
      intro hee hq
      split at hq
      ·rename_i h2 hl
       split at hq
       ·rename_i vs hres
        simp only [Option.some.injEq, Prod.mk.injEq, Res.val.injEq] at hq
        obtain ⟨rfl, rfl⟩ := hq
        refine callsIn_of_wp_marks (F := Fence.wide) hf hb trivial ?_
        refine wpIn_mono w1 fun x a1 W1 hx => ?_
        obtain ⟨hex, m1, k1, k2⟩ := hx
        have key : LeavesInM (Fr none) 0 P fn a1.tmps (Done m h W (oneOf vs) h2) a1.defers .returning W1 := by
         refine leave_sound t.marks k2.marks hl k1.rel fun m2 W2 hs2 => ?_
         obtain ⟨v', q1, q2⟩ := results_run (k2.mono hs2.le) hs2.rel fn hres
         exact ⟨v', q1, v', m2, rfl, q2, k1.trans hw hs2⟩
        rcases hee with rfl | rfl <;> cases hex <;> exact key
       ·simp at hq
      ·simp at hq
     cases e with
     | exit id => simp at he
     | normal => exact fin (.inl rfl) he
     | ret => exact fin (.inr rfl) he
    ·simp at he
  ·simp at he
 ·simp at he
theorem cond_eval {t : T} {ro : Option Nat} {a : Act} (ht : TRel m t ro a) {c : Operand} {b : Bool} (h : t.eval c = .bool b) : a.eval c = .bool b := by
 cases c with
 | tmp i =>
   have := ht.get i
   simp only [T.eval] at h
   rw [h] at this
   show a.tmps.getD i undef = .bool b
   generalize a.tmps.getD i undef = X at this
   cases this; rfl
 | const v => exact h
 | global g => simp [T.eval] at h
 | func f => simp [T.eval] at h
theorem exec_code {hk : Hook} {region : Rec → Array Oper → T → H → Option (T × H)} {rec : Rec} (g : Good P) (hh : HookOk P hk) (hrg : RegionOk P region) (hs : Sound P rec) (c : Code) (hloop : ∀ b, c ≠ .loop b) (t : T) (h : H) (e : AEx) (t' : T) (h' : H)
  (he : exec hk P region rec (.code c t) h = some (.code e t', h')) (m : Bij) (W : World) (a : Act) (ro : Option Nat) (ht : TRel m t ro a) (hw : WRel m h W) : c.wpIn (Fr ro) 0 P (CPost m h W ro e t' h') a W := by
 have here : ∀ x, some (Res.code x t, h) = some (Res.code e t', h') → ∀ y, EX x y → CPost m h W ro e t' h' y a W := by
  intro x hq y hy
  simp only [Option.some.injEq, Prod.mk.injEq, Res.code.injEq] at hq
  obtain ⟨⟨rfl, rfl⟩, rfl⟩ := hq
  exact ⟨hy, m, Snd.refl hw, ht⟩
 cases c with
 | skip => exact wpIn_skip (here .normal he _ .normal)
 | label l => exact wpIn_label (here .normal he _ .normal)
 | exit id => exact wpIn_exit (here (.exit id) he _ (.exit id))
 | ret => exact wpIn_ret (here .ret he _ .ret)
 | scope b =>
   refine wpIn_scope (wpIn_mono (hs.code b t h e t' h' he m W a ro ht hw) fun x a1 W1 hq => ?_)
   obtain ⟨hex, _⟩ := id hq
   cases hex <;> exact hq
 | seq x y =>
   simp only [exec] at he
   split at he
   ·rename_i t1 h1 hr
    refine wpIn_seq (wpIn_mono (hs.code x t h .normal t1 h1 hr m W a ro ht hw) fun ex a1 W1 hq => ?_)
    obtain ⟨hex, m1, k1, k2⟩ := hq
    cases hex
    exact wpIn_mono (hs.code y t1 h1 e t' h' he m1 W1 a1 ro k2 k1.rel) fun ex2 a2 W2 hq2 => hq2.trans hw k1
   ·rename_i hne
    refine wpIn_seq (wpIn_mono (hs.code x t h e t' h' he m W a ro ht hw) fun ex a1 W1 hq => ?_)
    obtain ⟨hex, _⟩ := id hq
    cases hex with
    | normal => exact absurd he (hne _ _)
    | exit id => exact hq
    | ret => exact hq
 | cond c x y =>
   simp only [exec] at he
   split at he
   ·rename_i hc
    exact wpIn_cond (cond_eval ht hc) (hs.code x t h e t' h' he m W a ro ht hw)
   ·rename_i hc
    exact wpIn_cond (cond_eval ht hc) (hs.code y t h e t' h' he m W a ro ht hw)
   ·simp at he
 | block bid b =>
   simp only [exec] at he
   split at he
   ·rename_i id' t1 h1 hr
    refine wpIn_block (wpIn_mono (hs.code b t h (.exit id') t1 h1 hr m W a ro ht hw) fun ex a1 W1 hq => ?_)
    obtain ⟨hex, m1, k1, k2⟩ := hq
    cases hex
    split at he
    ·rename_i hid
     simp only [Option.some.injEq, Prod.mk.injEq, Res.code.injEq] at he
     obtain ⟨⟨rfl, rfl⟩, rfl⟩ := he
     simp only [Exit.inBlock, hid, if_true]
     exact ⟨.normal, m1, k1, k2⟩
    ·rename_i hid
     simp only [Option.some.injEq, Prod.mk.injEq, Res.code.injEq] at he
     obtain ⟨⟨rfl, rfl⟩, rfl⟩ := he
     simp only [Exit.inBlock, hid, if_false]
     exact ⟨.exit id', m1, k1, k2⟩
   ·rename_i hne
    refine wpIn_block (wpIn_mono (hs.code b t h e t' h' he m W a ro ht hw) fun ex a1 W1 hq => ?_)
    obtain ⟨hex, _⟩ := id hq
    cases hex with
    | normal => exact hq
    | exit id => exact absurd he (hne _ _ _)
    | ret => exact hq
 | region id ops draw =>
   simp only [exec] at he
   split at he
   ·rename_i t1 h1 hr
    simp only [Option.some.injEq, Prod.mk.injEq, Res.code.injEq] at he
    obtain ⟨⟨rfl, rfl⟩, rfl⟩ := he
    cases draw with
    | true => exact hrg rec hs ops t h t1 h1 (by simpa using hr) id m W a ro ht hw
    | false =>
      refine wpIn_region ?_
      rw [List.range_eq_range']
      have hr : aops hk P rec ops ops.toList t h = some (t1, h1) := by simpa using hr
      have := aops_sound (Q := CPost m h W ro .normal t1 h1) g hs hh ops.toList 0 (by simp) hr ht hw fun m' a' W' k1 k2 => ⟨.normal, m', k2, k1⟩
      simpa using this
   ·simp at he
 | rangeFunc gf ps x y =>
   simp only [exec] at he
   split at he
   ·rename_i l mark h1 hen
    split at he
    ·rename_i f first captured hgv
     split at hgv
     ·rename_i hok
      split at he
      ·simp at he
      ·rename_i hbody
       split at he
       ·rename_i v h2 hr
        split at he
        ·rename_i j h3 hend
         refine wpIn_rangeFunc fun fn _ => ?_
         obtain ⟨m1, q, W1, r1, r2, r3⟩ := ARun.sound (rel_enterLoop 0 fn (tmps_row ht) ps x y ht.round) hen hw
         obtain ⟨l', mark'⟩ := q
         obtain ⟨hl, km, hkm, hkm2⟩ := r2
         have hev := ht.eval gf hok
         rw [hgv] at hev
         generalize hX : a.eval gf = X at hev
         cases hev with
         | @func _ f' _ first' _ cap' hf s1 e1 s2 e2 =>
         cases hf
         simp only [Bool.not_eq_true', Bool.not_eq_false, Option.any_eq_true] at hbody
         have hbody : ∃ fn c, P.funcs[f]? = some fn ∧ fn.body = some c := by
          cases hfn : P.funcs[f]? with
          | none => simp [hfn] at hbody
          | some fn =>
            cases hbb : fn.body with
            | none => simp [hfn, hbb] at hbody
            | some c => exact ⟨fn, c, rfl, hbb⟩
         obtain ⟨fn2, c2, hfn, hbb⟩ := hbody
         refine ⟨l', mark', W1, { target := .fn (.func f) cap', args := first' ++ #[.func (.yield l') #[] #[]] }, W1, f, (first' ++ #[.func (.yield l') #[] #[]]) ++ cap', W1, r1, ?_, fun _ _ => trivial, ?_, fun hd => by simp [Fr, Fence.wide] at hd, ?_⟩
         ·show (Deferred.ofValue (a.eval gf) ((#[Operand.const (.func (.yield l') #[] #[])]).map a.eval)).run P W1 = _
          rw [hX, show (#[Operand.const (.func (.yield l') #[] #[])]).map a.eval = #[Value.func (.yield l') #[] #[]] from by simp [Act.eval]]
          rfl
         ·exact run_enter g hfn hbb _
         ·have hargs : RowRel m1 ((first ++ #[.func (.yield l) #[] #[]]) ++ captured) ((first' ++ #[.func (.yield l') #[] #[]]) ++ cap') :=
           ((RowRel.append (RowRel.mono r3.le ⟨s1, e1⟩) (RowRel.one (.func (.yield hl) rfl (fun i a => by simp at a) rfl (fun i a => by simp at a)))).append (RowRel.mono r3.le ⟨s2, e2⟩))
          have hc : CallsIn (Fr ro) 0 P f ((first' ++ #[.func (.yield l') #[] #[]]) ++ cap') W1 (Done m1 h1 W1 v h2) := hs.call f _ h1 v h2 hr m1 W1 _ hargs r3.rel
          refine hc.mono fun en W2 hq => ?_
          obtain ⟨v', m2, rfl, k1, k2⟩ := hq
          obtain ⟨m3, j', W3, z1, z2, z3⟩ := ARun.sound (rel_endLoop (k2.le _ _ hl).1) hend k2.rel
          cases z2
          have hall : Snd m h W m3 h3 W3 := r3.trans hw (k2.trans r3.rel z3)
          have ht3 : TRel m3 { t with marks := (mark.filterMap fun d => match d.target with | .collected r => some r | _ => none) ++ t.marks } ro { a with defers := mark' ++ a.defers } := by
           have hm3 := ht.mono hall.le
           refine ⟨hm3.get, hm3.size, hm3.round, ?_, hm3.room⟩
           have hmm := (hkm.mono (Bij.le_trans k2.le z3.le)).append hm3.marks
           rw [← hkm2] at hmm
           exact hmm
          refine ⟨j, W3, z1, ?_⟩
          split at he
          ·simp only [Option.some.injEq, Prod.mk.injEq, Res.code.injEq] at he
           obtain ⟨⟨rfl, rfl⟩, rfl⟩ := he
           exact ⟨.normal, m3, hall, ht3⟩
          ·simp only [Option.some.injEq, Prod.mk.injEq, Res.code.injEq] at he
           obtain ⟨⟨rfl, rfl⟩, rfl⟩ := he
           exact wpIn_exit ⟨.exit _, m3, hall, ht3⟩
          ·simp only [Option.some.injEq, Prod.mk.injEq, Res.code.injEq] at he
           obtain ⟨⟨rfl, rfl⟩, rfl⟩ := he
           exact wpIn_ret ⟨.ret, m3, hall, ht3⟩
          ·simp at he
        ·simp at he
       ·simp at he
     ·simp at hgv
    ·simp at he
   ·simp at he
 | loop b => exact absurd rfl (hloop b)
 | goto l => simp [exec] at he
 | refuse w => simp [exec] at he
theorem go_sound {hk : Hook} {region : Rec → Array Oper → T → H → Option (T × H)} (g : Good P) (hh : HookOk P hk) (hrg : RegionOk P region) : ∀ n, Sound P (go hk P region n) := by
 intro n
 induction n using Nat.strongRecOn with
 | _ n ih =>
   cases n with
   | zero => exact ⟨fun c t h e t' h' he => by simp [go] at he, fun f args h v h' he => by simp [go] at he⟩
   | succ n =>
     have hs : Sound P (go hk P region n) := ih n (by omega)
     refine ⟨fun c t h e t' h' he m W a ro ht hw => ?_, fun f args h v h' he m W args' ha hw => exec_call (hk := hk) (region := region) hs f args h v h' he m W args' ha hw⟩
     by_cases hl : ∃ b, c = .loop b
     ·obtain ⟨b, rfl⟩ := hl
      refine wpIn_loop_n (fun k a1 W1 => k ≤ n + 1 ∧ ∃ m1 t1 h1, go hk P region k (.code (.loop b) t1) h1 = some (.code e t', h') ∧ TRel m1 t1 ro a1 ∧ Snd m h W m1 h1 W1) ⟨Nat.le_refl _, m, t, h, he, ht, Snd.refl hw⟩ ?_
      intro k a1 W1 hJ
      obtain ⟨hk1, m1, t1, h1, hgo, ht1, hs1⟩ := hJ
      cases k with
      | zero => simp [go] at hgo
      | succ k =>
        have hsk : Sound P (go hk P region k) := ih k (by omega)
        have hgo : exec hk P region (go hk P region k) (.code (.loop b) t1) h1 = some (.code e t', h') := hgo
        simp only [exec] at hgo
        split at hgo
        ·rename_i t2 h2 hr
         refine wpIn_mono (hsk.code b t1 h1 .normal t2 h2 hr m1 W1 a1 ro ht1 hs1.rel) fun ex a2 W2 hq => ?_
         obtain ⟨hex, m2, k1, k2⟩ := hq
         cases hex
         exact ⟨k, by omega, by omega, m2, t2, h2, hgo, k2, hs1.trans hw k1⟩
        ·rename_i hne
         refine wpIn_mono (hsk.code b t1 h1 e t' h' hgo m1 W1 a1 ro ht1 hs1.rel) fun ex a2 W2 hq => ?_
         have hq2 := hq.trans hw hs1
         obtain ⟨hex, _⟩ := id hq
         cases hex with
         | normal => exact absurd hgo (hne _ _)
         | exit id => exact hq2
         | ret => exact hq2
     ·exact exec_code g hh hrg hs c (fun b hb => hl ⟨b, hb⟩) t h e t' h' he m W a ro ht hw
end Go.Proofs.YtlbipokkdiiaiaaGreatDoor.Exec
namespace Go.Proofs.YtlbipokkdiiaiaaGreatDoor.Exec
noncomputable section
def same : Nat → Value → Value → Bool
 | _, .bool a, .bool b => a == b
 | _, .int j a, .int k b => j == k && a == b
 | _, .string a, .string b => a.data == b.data
 | _, .pointer a, .pointer b => a == b
 | _, .slice a l c, .slice b n d => a == b && l == n && c == d
 | _, .map a, .map b => a == b
 | _, .nilFunc, .nilFunc => true
 | _, .nilIface, .nilIface => true
 | n + 1, .func f x y, .func g u v => f == g && x.size == u.size && y.size == v.size && (x.toList.zip u.toList).all (fun (a, b) => same n a b) && (y.toList.zip v.toList).all (fun (a, b) => same n a b)
 | n + 1, .iface t v, .iface u w => t == u && same n v w
 | n + 1, .agg a, .agg b => a.size == b.size && (a.toList.zip b.toList).all fun (x, y) => same n x y
 | _, _, _ => false
def befOf (bef : Array Nat) (o : Oper) : Nat := o.after.toList.foldl (fun s e => if Region.binds .any e then s ||| 2 ^ e.on ||| bef.getD e.on 0 else s) 0
def okR (ops : Array Oper) (n : Nat) (bef : Array Nat) : Bool :=
 let w : List (Nat × Nat) := ops.toList.zipIdx.filterMap fun (o, i) => o.dst.map fun d => (d, i)
 w.all (fun (d, _) => decide (d < n)) &&
 ops.toList.zipIdx.all fun (o, j) =>
  bef.getD j 0 == befOf bef o &&
  o.after.toList.all (fun e => !Region.binds .any e || decide (e.on < j)) &&
  ((o.op.operands.toList.filterMap fun | .tmp t => some t | _ => none) ++ (match o.guard with
    | some (g, _) => ((ops[g]?).bind (·.dst)).toList
    | none => [])).all (fun t => w.all fun (d, i) => d != t || (bef.getD j 0).testBit i) &&
  (match o.dst with
   | some t => w.all fun (d, i) => d != t || i == j
   | none => true)
def adopt (base bj : Nat) : List (Nat × AObj) → H → H
 | [], h => h
 | (i, o) :: r, h => if bj.testBit i then adopt base bj r (h.put (base + i) o) else adopt base bj r h
def loadAt (P : Program) (ρ : Operand → Value) (o : Oper) (h : H) : Option Value :=
 match ARun P (execOp ρ o) h with
 | some (.value v, _) => some v
 | _ => none
structure Ent where
 o : Oper
 t : T
 h : H
 g : H
 v : Value
 ch : Bool
 ld : Bool
 ob : Option AObj
def aent (hk : Hook) (P : Program) (rec : Rec) (ops : Array Oper) (bef : Array Nat) (base : Nat) (o : Oper) (j : Nat) (t : T) (h : H) (pd : List (Nat × AObj)) : Option (Ent × List (Nat × AObj)) :=
 if o.op.operands.toList.all okOperand then
  if wantedT ops t o then
   match aop P t.eval o ⟨.leaf, base + j, base + j + 1⟩ with
   | some (.value v, h') => some (⟨o, t, h, h, v, false, false, h'.get (base + j)⟩, match h'.get (base + j) with | some ob => (j, ob) :: pd | none => pd)
   | _ =>
     match o.op with
     | .load _ _ =>
       match loadAt P t.eval o h with
       | some v => some (⟨o, t, h, h, v, false, true, none⟩, pd)
       | none => none
     | _ =>
       match aop P t.eval o (adopt base (bef.getD j 0) pd h) with
       | some (nx, h2) => match aNext hk P rec h2 nx with
         | some (v, h3) => some (⟨o, t, h, h3, v, true, false, none⟩, pd.filter fun (i, _) => !(bef.getD j 0).testBit i)
         | none => none
       | none => none
  else some (⟨o, t, h, h, undef, false, false, none⟩, pd)
 else none
def atr (hk : Hook) (P : Program) (rec : Rec) (ops : Array Oper) (bef : Array Nat) (base : Nat) : List Oper → Nat → T → H → List (Nat × AObj) → Option (List Ent × T × H × List (Nat × AObj))
 | [], _, t, h, pd => some ([], t, h, pd)
 | o :: r, j, t, h, pd => match aent hk P rec ops bef base o j t h pd with
   | some (e, pd1) => match atr hk P rec ops bef base r (j + 1) (t.put o.dst e.v) e.g pd1 with
     | some (es, t', h', p') => some (e :: es, t', h', p')
     | none => none
   | none => none
def chkE (P : Program) (bef : Array Nat) (es : List Ent) : Bool :=
 es.zipIdx.all fun (e, j) => es.zipIdx.all fun (f, k) =>
  !f.ch ||
  (if k < j then (if e.ch then (bef.getD j 0).testBit k else if e.ld then (bef.getD j 0).testBit k || (loadAt P e.t.eval e.o f.h).any (same 3 e.v) else true)
   else if j < k then (if e.ld then (bef.getD k 0).testBit j || (loadAt P e.t.eval e.o f.g).any (same 3 e.v) else true)
   else true)
def bump : Nat → H → H
 | 0, h => h
 | n + 1, h => bump n { t := Tr.set D h.t h.next none, next := h.next + 1, lim := h.lim }
def aregion (hk : Hook) (P : Program) (rec : Rec) (ops : Array Oper) (t : T) (h : H) : Option (T × H) :=
 let bef := Region.before ops
 if okR ops t.n bef && decide (h.next + ops.size ≤ h.lim) then
  match atr hk P rec ops bef h.next ops.toList 0 t (bump ops.size h) [] with
  | some (es, t', h', p') => if chkE P bef es then some (t', adopt h.next (2 ^ ops.size - 1) p' h') else none
  | none => none
 else none
end
end Go.Proofs.YtlbipokkdiiaiaaGreatDoor.Exec
namespace Go.Proofs.YtlbipokkdiiaiaaGreatDoor.Exec
variable {P : Program}
theorem befOf_bit {bef : Array Nat} {o : Oper} {k : Nat} (h : (befOf bef o).testBit k = true) : ∃ e ∈ o.after, Region.binds .any e = true ∧ (k = e.on ∨ (bef.getD e.on 0).testBit k = true) := by
 unfold befOf at h
 have go : ∀ (l : List Edge) (s : Nat), (l.foldl (fun s e => if Region.binds .any e then s ||| 2 ^ e.on ||| bef.getD e.on 0 else s) s).testBit k = true → s.testBit k = true ∨ ∃ e ∈ l, Region.binds .any e = true ∧ (k = e.on ∨ (bef.getD e.on 0).testBit k = true) := by
  intro l
  induction l with
  | nil => intro s h; exact .inl h
  | cons e l ih =>
    intro s h
    simp only [List.foldl_cons] at h
    rcases ih _ h with h1 | ⟨e2, h1, h2⟩
    ·split at h1
     ·rename_i hb
      simp only [Nat.testBit_or, Bool.or_eq_true, Nat.testBit_two_pow] at h1
      rcases h1 with (h1 | h1) | h1
      ·exact .inl h1
      ·exact .inr ⟨e, by simp, hb, .inl (Eq.symm (by simpa using h1))⟩
      ·exact .inr ⟨e, by simp, hb, .inr h1⟩
     ·exact .inl h1
    ·exact .inr ⟨e2, by simp [h1], h2⟩
 rcases go _ _ h with h1 | ⟨e, h1, h2⟩
 ·simp at h1
 ·exact ⟨e, by simpa using h1, h2⟩
structure OkR (ops : Array Oper) (n : Nat) (bef : Array Nat) : Prop where
 dst : ∀ (i : Nat) (o : Oper) d, ops[i]? = some o → o.dst = some d → d < n
 befs : ∀ (j : Nat) (o : Oper), ops[j]? = some o → bef.getD j 0 = befOf bef o
 low : ∀ (j : Nat) (o : Oper), ops[j]? = some o → ∀ e ∈ o.after, Region.binds .any e = true → e.on < j
 looks : ∀ (j : Nat) (o : Oper), ops[j]? = some o → ∀ t, ((.tmp t ∈ o.op.operands) ∨ ∃ g b, o.guard = some (g, b) ∧ (ops[g]?).bind (·.dst) = some t) → ∀ (i : Nat) (p : Oper), ops[i]? = some p → p.dst = some t → (bef.getD j 0).testBit i = true
 one : ∀ (i j : Nat) (o p : Oper) d, ops[i]? = some o → ops[j]? = some p → o.dst = some d → p.dst = some d → i = j
theorem okR_spec {ops : Array Oper} {n : Nat} {bef : Array Nat} (h : okR ops n bef = true) : OkR ops n bef := by
 simp only [okR, Bool.and_eq_true] at h
 obtain ⟨h1, h2⟩ := h
 have hz : ∀ (i : Nat) (o : Oper), ops[i]? = some o → (o, i) ∈ ops.toList.zipIdx := fun i o ho => by
  rw [List.mem_zipIdx_iff_getElem?]
  simpa using ho
 have hw : ∀ (i : Nat) (o : Oper) d, ops[i]? = some o → o.dst = some d → (d, i) ∈ ops.toList.zipIdx.filterMap (fun (x : Oper × Nat) => x.1.dst.map fun d => (d, x.2)) := fun i o d ho hd => by
  rw [List.mem_filterMap]
  exact ⟨(o, i), hz i o ho, by simp [hd]⟩
 rw [List.all_eq_true] at h1 h2
 refine ⟨fun i o d ho hd => ?_, fun j o ho => ?_, fun j o ho e he hb => ?_, fun j o ho t ht i p hp hd => ?_, fun i j o p d ho hp h3 h4 => ?_⟩
 ·simpa using h1 (d, i) (hw i o d ho hd)
 ·have := h2 (o, j) (hz j o ho)
  simp only [Bool.and_eq_true, beq_iff_eq] at this
  exact this.1.1.1
 ·have := h2 (o, j) (hz j o ho)
  simp only [Bool.and_eq_true] at this
  have := List.all_eq_true.1 this.1.1.2 e (by simpa using he)
  simpa [hb] using this
 ·have := h2 (o, j) (hz j o ho)
  simp only [Bool.and_eq_true] at this
  have h5 := List.all_eq_true.1 this.1.2 t (by
   rw [List.mem_append]
   rcases ht with ht | ⟨g, b, hg, hgd⟩
   ·left
    rw [List.mem_filterMap]
    exact ⟨.tmp t, by simpa using ht, rfl⟩
   ·right
    rw [hg]; simp [hgd])
  have h6 := List.all_eq_true.1 h5 (t, i) (hw i p t hp hd)
  simpa using h6
 ·have := h2 (p, j) (hz j p hp)
  simp only [Bool.and_eq_true] at this
  have h5 := this.2
  rw [h4] at h5
  have h6 := List.all_eq_true.1 h5 (d, i) (hw i o d ho h3)
  simpa using h6
theorem OkR.bit {ops : Array Oper} {n : Nat} {bef : Array Nat} (h : OkR ops n bef) {j : Nat} {o : Oper} (ho : ops[j]? = some o) {k : Nat} (hk : (bef.getD j 0).testBit k = true) :
  ∃ e ∈ o.after, Region.binds .any e = true ∧ (k = e.on ∨ (bef.getD e.on 0).testBit k = true) := by
 rw [h.befs j o ho] at hk
 exact befOf_bit hk
theorem OkR.lt {ops : Array Oper} {n : Nat} {bef : Array Nat} (h : OkR ops n bef) : ∀ (j : Nat) {o : Oper}, ops[j]? = some o → ∀ {k : Nat}, (bef.getD j 0).testBit k = true → k < j := by
 intro j
 induction j using Nat.strongRecOn with
 | _ j ih =>
   intro o ho k hk
   obtain ⟨e, h1, h2, h3⟩ := h.bit ho hk
   have hlt := h.low j o ho e h1 h2
   rcases h3 with rfl | h3
   ·exact hlt
   ·have hj : j < ops.size := (Array.getElem?_eq_some_iff.1 ho).1
    have := ih e.on hlt (o := ops[e.on]'(by omega)) (Array.getElem?_eq_getElem (by omega)) h3
    omega
structure Trace (hk : Hook) (P : Program) (rec : Rec) (ops : Array Oper) (bef : Array Nat) (base : Nat) (l : List Oper) (j : Nat) (t : T) (h : H) (pd : List (Nat × AObj)) (es : List Ent) (t' : T) (h' : H) (p' : List (Nat × AObj))
  (st : Nat → T × H × List (Nat × AObj)) : Prop where
 len : es.length = l.length
 first : st 0 = (t, h, pd)
 last : st l.length = (t', h', p')
 step : ∀ (i : Nat) (o : Oper), l[i]? = some o → ∃ e, es[i]? = some e ∧ aent hk P rec ops bef base o (j + i) (st i).1 (st i).2.1 (st i).2.2 = some (e, (st (i + 1)).2.2) ∧ (st (i + 1)).1 = (st i).1.put o.dst e.v ∧ (st (i + 1)).2.1 = e.g
theorem atr_trace {hk : Hook} {rec : Rec} {ops : Array Oper} {bef : Array Nat} {base : Nat} : ∀ (l : List Oper) (j : Nat) (t : T) (h : H) (pd : List (Nat × AObj)) {es : List Ent} {t' : T} {h' : H} {p' : List (Nat × AObj)},
  atr hk P rec ops bef base l j t h pd = some (es, t', h', p') → ∃ st, Trace hk P rec ops bef base l j t h pd es t' h' p' st
 | [], j, t, h, pd, es, t', h', p', he => by
   simp only [atr, Option.some.injEq, Prod.mk.injEq] at he
   obtain ⟨rfl, rfl, rfl, rfl⟩ := he
   exact ⟨fun _ => (t, h, pd), rfl, rfl, rfl, fun i o ho => by simp at ho⟩
 | o :: l, j, t, h, pd, es, t', h', p', he => by
   simp only [atr] at he
   split at he
   ·rename_i e pd1 h1
    split at he
    ·rename_i es2 t2 h2 p2 h3
     simp only [Option.some.injEq, Prod.mk.injEq] at he
     obtain ⟨rfl, rfl, rfl, rfl⟩ := he
     obtain ⟨st, q⟩ := atr_trace l (j + 1) _ _ _ h3
     refine ⟨fun i => match i with | 0 => (t, h, pd) | i + 1 => st i, by simp [q.len], rfl, q.last, fun i p hp => ?_⟩
     cases i with
     | zero =>
       simp only [List.getElem?_cons_zero, Option.some.injEq] at hp
       subst hp
       refine ⟨e, rfl, ?_, ?_, ?_⟩
       ·show aent hk P rec ops bef base o (j + 0) t h pd = some (e, (st 0).2.2)
        rw [q.first]; exact h1
       ·show (st 0).1 = _; rw [q.first]
       ·show (st 0).2.1 = _; rw [q.first]
     | succ i =>
       obtain ⟨e2, a1, a2, a3, a4⟩ := q.step i p (by simpa using hp)
       exact ⟨e2, by simpa using a1, by rw [show j + (i + 1) = j + 1 + i by omega]; exact a2, a3, a4⟩
    ·simp at he
   ·simp at he
inductive Make (hk : Hook) (P : Program) (rec : Rec) (ops : Array Oper) (bef : Array Nat) (base : Nat) (o : Oper) (j : Nat) (t : T) (h : H) (pd : List (Nat × AObj)) : Ent → List (Nat × AObj) → Prop
 | no : wantedT ops t o = false → Make hk P rec ops bef base o j t h pd ⟨o, t, h, h, undef, false, false, none⟩ pd
 | flt (v : Value) (h' : H) : wantedT ops t o = true → aop P t.eval o ⟨.leaf, base + j, base + j + 1⟩ = some (.value v, h') →
   Make hk P rec ops bef base o j t h pd ⟨o, t, h, h, v, false, false, h'.get (base + j)⟩ (match h'.get (base + j) with | some ob => (j, ob) :: pd | none => pd)
 | ld (v : Value) (ty : TypeId) (x : Operand) : wantedT ops t o = true → o.op = .load ty x → loadAt P t.eval o h = some v → Make hk P rec ops bef base o j t h pd ⟨o, t, h, h, v, false, true, none⟩ pd
 | ch (nx : Next) (h2 : H) (v : Value) (h3 : H) : wantedT ops t o = true → aop P t.eval o (adopt base (bef.getD j 0) pd h) = some (nx, h2) → aNext hk P rec h2 nx = some (v, h3) →
   Make hk P rec ops bef base o j t h pd ⟨o, t, h, h3, v, true, false, none⟩ (pd.filter fun (i, _) => !(bef.getD j 0).testBit i)
theorem aent_make {hk : Hook} {rec : Rec} {ops : Array Oper} {bef : Array Nat} {base : Nat} {o : Oper} {j : Nat} {t : T} {h : H} {pd : List (Nat × AObj)} {e : Ent} {pd' : List (Nat × AObj)} (he : aent hk P rec ops bef base o j t h pd = some (e, pd')) :
  o.op.operands.toList.all okOperand = true ∧ Make hk P rec ops bef base o j t h pd e pd' := by
 unfold aent at he
 split at he
 ·rename_i hok
  refine ⟨hok, ?_⟩
  split at he
  ·rename_i hw
   split at he
   ·rename_i v h' hop
    simp only [Option.some.injEq, Prod.mk.injEq] at he
    obtain ⟨rfl, rfl⟩ := he
    exact .flt v h' hw hop
   ·split at he
    ·rename_i ty x hop
     split at he
     ·rename_i v hv
      simp only [Option.some.injEq, Prod.mk.injEq] at he
      obtain ⟨rfl, rfl⟩ := he
      exact .ld v ty x hw hop hv
     ·simp at he
    ·split at he
     ·rename_i nx h2 hop
      split at he
      ·rename_i v h3 hn
       simp only [Option.some.injEq, Prod.mk.injEq] at he
       obtain ⟨rfl, rfl⟩ := he
       exact .ch nx h2 v h3 hw hop hn
      ·simp at he
     ·simp at he
  ·rename_i hw
   simp only [Option.some.injEq, Prod.mk.injEq] at he
   obtain ⟨rfl, rfl⟩ := he
   exact .no (by simpa using hw)
 ·simp at he
end Go.Proofs.YtlbipokkdiiaiaaGreatDoor.Exec
