/- Lemmas for TopWire: ExecCode1, ExecCode2, ExecCode3. -/
import Derived.Test.YtlbipokkdiiaiaaGreatDoorT06
import Derived.RangeFuncLeaves
/- Activations, what a run comes to. -/
namespace Go.Proofs.YtlbipokkdiiaiaaGreatDoor.Exec
variable {P : Program} {m : Bij}
/-- Every fence here lets all in. -/
def Fr (ro : Option Nat) : Fence := { Fence.wide with round := ro }
/-- The marks of ranges over functions. -/
inductive MRel (m : Bij) : List Nat → List Deferred → Prop
  | nil : MRel m [] []
  | cons {r b : Nat} {l : List Nat} {l' : List Deferred} : m.r r b → MRel m l l' → MRel m (r :: l) ({ target := .collected b, args := #[] } :: l')
theorem MRel.mono {m' : Bij} (h : m ≤ m') {l : List Nat} {l' : List Deferred} (k : MRel m l l') : MRel m' l l' := by
  induction k with
  | nil => exact .nil
  | cons hr _ ih => exact .cons (h _ _ hr).1 ih
theorem MRel.append {l k : List Nat} {l' k' : List Deferred} (h : MRel m l l') (g : MRel m k k') : MRel m (l ++ k) (l' ++ k') := by
  induction h with
  | nil => exact g
  | cons hr _ ih => exact .cons hr ih
theorem scal_rel {v : Value} (h : scal v = true) : VRel m v v := by
  cases v with
  | pointer a => cases a with
    | none => exact .pointer .none
    | some a => simp [scal] at h
  | slice a l c => cases a with
    | none => exact .slice l c (by simpa [scal] using h) .none
    | some a => simp [scal] at h
  | map a => cases a with
    | none => exact .map .none
    | some a => simp [scal] at h
  | bool b => exact .bool b
  | int k n => exact .int k n
  | float k n => exact .float k n
  | complex k a b => exact .complex k a b
  | string s => exact .string s
  | nilFunc => exact .nilFunc
  | nilIface => exact .nilIface
  | _ => simp [scal] at h
theorem scal_row {c : Array Value} (h : c.toList.all scal = true) : RowRel m c c :=
  .of_get rfl fun i v v' h1 h2 => by
    rw [h1] at h2; cases h2
    have : v ∈ c.toList := by
      rw [← Array.getElem?_toList] at h1
      exact List.mem_of_getElem? h1
    exact scal_rel (List.all_eq_true.1 h v this)
theorem flat_rel {v : Value} (h : flat v = true) : VRel m v v := by
  cases v with
  | agg c => exact .agg rfl (scal_row h).at_
  | tuple c => exact .tuple rfl (scal_row h).at_
  | iface t v => exact .iface t (scal_rel h)
  | func f x c => cases f with
    | func f =>
      simp only [flat, Bool.and_eq_true, Array.isEmpty_iff] at h
      obtain ⟨rfl, rfl⟩ := h
      exact .func (.func f) rfl (fun i a => by simp at a) rfl (fun i a => by simp at a)
    | _ => simp [flat, scal] at h
  | _ => exact scal_rel h
structure TRel (m : Bij) (t : T) (ro : Option Nat) (a : Act) : Prop where
  get : ∀ i, VRel m (t.get i) (a.tmps.getD i undef)
  size : t.n = a.tmps.size
  round : OptRel m.r t.round ro
  marks : MRel m t.marks a.defers
  room : t.n + 2 ≤ 2 ^ D
theorem TRel.mono {m' : Bij} (h : m ≤ m') {t : T} {ro : Option Nat} {a : Act} (k : TRel m t ro a) : TRel m' t ro a :=
  ⟨fun i => (k.get i).mono h, k.size, k.round.mono fun _ _ q => (h _ _ q).1, k.marks.mono h, k.room⟩
theorem rel_undef : VRel m undef undef := .tuple rfl fun i h => by simp at h
theorem TRel.put {t : T} {ro : Option Nat} {a : Act} (k : TRel m t ro a) (d : Option Tmp) {v v' : Value} (hv : VRel m v v') : TRel m (t.put d v) ro (a.put d v') := by
  cases d with
  | none => exact k
  | some d =>
    unfold T.put Act.put
    by_cases hd : d < t.n
    · have hd' : @LT.lt Nat _ d t.n := hd
      simp only [hd, if_true]
      refine ⟨fun i => ?_, by simpa using k.size, k.round, k.marks, k.room⟩
      have := k.get i
      have hsz := k.size
      have hroom := k.room
      simp only [T.get] at this ⊢
      rw [Tr.get_set D t.t d i (some v) (by omega)]
      by_cases hi : i = d
      · subst hi
        simp only [if_true]
        rw [Array.getD_eq_getD_getElem?, Array.getElem?_setIfInBounds_self_of_lt (by omega)]
        exact hv
      · simp only [if_neg hi]
        rw [Array.getD_eq_getD_getElem?, Array.getElem?_setIfInBounds_ne (fun e => hi e.symm), ← Array.getD_eq_getD_getElem?]
        exact this
    · have hd' : ¬ @LT.lt Nat _ d t.n := hd
      simp only [hd, if_false]
      have : a.tmps.setIfInBounds d v' = a.tmps := by
        have := k.size
        exact Array.setIfInBounds_eq_of_size_le (by omega)
      rw [this]; exact k
theorem TRel.eval {t : T} {ro : Option Nat} {a : Act} (k : TRel m t ro a) (x : Operand) (hx : okOperand x = true) : VRel m (t.eval x) (a.eval x) := by
  cases x with
  | tmp i => exact k.get i
  | const v => exact flat_rel hx
  | global g => simp [okOperand] at hx
  | func f => exact .func (.func f) rfl (fun i h => by simp at h) rfl (fun i h => by simp at h)
theorem TRel.wanted {t : T} {ro : Option Nat} {a : Act} (k : TRel m t ro a) (ops : Array Oper) (o : Oper) : Region.wanted o (yielded ops a.tmps) = wantedT ops t o := by
  unfold Region.wanted wantedT
  cases o.guard with
  | none => rfl
  | some g =>
    obtain ⟨j, w⟩ := g
    simp only [yielded]
    cases hd : (ops[j]?).bind (·.dst) with
    | none => rfl
    | some d =>
      have hs := k.size
      simp only [Option.bind_some]
      by_cases hlt : d < t.n
      · have hd' : @LT.lt Nat _ d t.n := hlt
        have hl : @LT.lt Nat _ d a.tmps.size := by omega
        have := k.get d
        rw [Array.getD_eq_getD_getElem?, Array.getElem?_eq_getElem hl] at this
        simp only [Option.getD_some] at this
        rw [Array.getElem?_eq_getElem hl, if_pos hlt]
        generalize t.get d = x at *
        generalize a.tmps[d] = y at *
        cases this <;> simp
      · have hd' : ¬ @LT.lt Nat _ d t.n := hlt
        rw [Array.getElem?_eq_none (by omega), if_neg hlt]; simp
theorem fillT_get : ∀ (l : List Value) (i : Nat) (t : Tr Value) (k : Nat), i + l.length + 2 ≤ 2 ^ D → Tr.get D (fillT i t l) k = if i ≤ k ∧ k < i + l.length then l[k - i]? else Tr.get D t k
  | [], i, t, k, _ => by simp [fillT]; omega
  | v :: l, i, t, k, h => by
    simp only [List.length_cons] at h
    rw [fillT, fillT_get l (i + 1) _ k (by omega), Tr.get_set D t i k (some v) (by omega)]
    simp only [List.length_cons]
    by_cases h1 : k = i
    · subst h1; rw [if_neg (by omega), if_pos rfl, if_pos (by omega)]; simp
    · by_cases h2 : i + 1 ≤ k ∧ k < i + 1 + l.length
      · rw [if_pos h2, if_pos (by omega)]
        have : k - i = (k - (i + 1)) + 1 := by omega
        rw [this]; simp
      · rw [if_neg h2, if_neg h1, if_neg (by omega)]
theorem TRel.fill {l : List Value} {l' : Array Value} (h : LRel m l l'.toList) (n : Nat) (ro ro' : Option Nat) (hr : OptRel m.r ro ro') (hn : n + 2 ≤ 2 ^ D) (hl : l.length ≤ n) :
    TRel m { t := fillT 0 .leaf l, n := n, round := ro, marks := [] } ro' { tmps := l' ++ Array.replicate (n - l'.size) undef, defers := [] } := by
  have hlen := h.length
  simp only [Array.length_toList] at hlen
  refine ⟨fun i => ?_, by simp; omega, hr, .nil, hn⟩
  simp only [T.get]
  rw [fillT_get l 0 .leaf i (by omega), Tr.get_leaf, Array.getD_eq_getD_getElem?, Array.getElem?_append]
  have := h.get i
  rw [show l'.toList[i]? = l'[i]? from Array.getElem?_toList] at this
  by_cases hi : i < l.length
  · rw [if_pos (by omega), if_pos (by omega)]
    simp only [Nat.sub_zero]
    cases ha : l[i]? <;> cases hb : l'[i]? <;> rw [ha, hb] at this <;> cases this
    · exact rel_undef
    · assumption
  · rw [if_neg (by omega), if_neg (by omega), Array.getElem?_replicate]
    change VRel m undef _
    split <;> exact rel_undef
/-- How a piece of code is left. -/
inductive EX : AEx → Exit → Prop
  | normal : EX .normal .normal
  | exit (id : Nat) : EX (.exit id) (.exit id)
  | ret : EX .ret .ret
def CPost (m : Bij) (h : H) (W : World) (ro : Option Nat) (e : AEx) (t' : T) (h' : H) : Exit → Act → World → Prop := fun x a' W' => EX e x ∧ ∃ m', Snd m h W m' h' W' ∧ TRel m' t' ro a'
def Done (m : Bij) (h : H) (W : World) (v : Value) (h' : H) : Ending → World → Prop := fun e W' => ∃ v' m', e = .returned v' ∧ VRel m' v v' ∧ Snd m h W m' h' W'
/-- The runs of tasks are true. -/
structure Sound (P : Program) (rec : Rec) : Prop where
  code : ∀ c t h e t' h', rec (.code c t) h = some (.code e t', h') → ∀ m W a ro, TRel m t ro a → WRel m h W → c.wpIn (Fr ro) 0 P (CPost m h W ro e t' h') a W
  call : ∀ f args h v h', rec (.call f args) h = some (.val v, h') → ∀ m W args', RowRel m args args' → WRel m h W → CallsIn Fence.wide 0 P f args' W (Done m h W v h')
def HookOk (P : Program) (hk : Hook) : Prop := ∀ f args h v h', hk f args h = some (some (v, h')) → ∀ m W args', RowRel m args args' → WRel m h W → CallsIn Fence.wide 0 P f args' W (Done m h W v h')
end Go.Proofs.YtlbipokkdiiaiaaGreatDoor.Exec
/- What an operation comes to: calls and rounds. -/
namespace Go.Proofs.YtlbipokkdiiaiaaGreatDoor.Exec
variable {P : Program} {m : Bij}
theorem rel_beginRound {l l' : Nat} (hl : m.r l l') : SRel P (fun _ _ _ => True) m (Instr.beginRound l) (Instr.beginRound l') := by
  refine .getObj hl fun o o' ho => ?_
  cases ho with
  | @loop r r' p1 p2 p3 p4 p5 p6 p7 =>
    refine .setObj hl (.loop rfl p2 p3 p4 p5 p6 p7) ?_
    show SRel P _ m (match r.state with | .ready => pure () | .done => runtimePanic _ | .busy => runtimePanic _ | .exhausted => runtimePanic _) (match r'.state with | .ready => pure () | .done => runtimePanic _ | .busy => runtimePanic _ | .exhausted => runtimePanic _)
    rw [← p1]
    cases r.state <;> first | exact .pure trivial | exact rel_panic _ (by simp) (by simp) _
  | _ => exact .halt
theorem rel_endRound {l l' : Nat} (hl : m.r l l') (j : Option Code) : SRel P VRel m (Instr.endRound l j) (Instr.endRound l' j) := by
  refine .getObj hl fun o o' ho => ?_
  cases ho with
  | @loop r r' p1 p2 p3 p4 p5 p6 p7 => exact .setObj hl (.loop rfl rfl p3 p4 p5 p6 p7) (.pure (.bool _))
  | _ => exact .halt
theorem rel_endLoop {l l' : Nat} (hl : m.r l l') : SRel P EqR m (Instr.endLoop l) (Instr.endLoop l') := by
  refine .getObj hl fun o o' ho => ?_
  cases ho with
  | @loop r r' p1 p2 p3 p4 p5 p6 p7 =>
    show SRel P _ m (if r.state == .busy then (do (runtimePanic _ : Sem PUnit); setObj l (.loop { r with state := .exhausted }); pure r.pending) else (do setObj l (.loop { r with state := .exhausted }); pure r.pending))
      (if r'.state == .busy then (do (runtimePanic _ : Sem PUnit); setObj l' (.loop { r' with state := .exhausted }); pure r'.pending) else (do setObj l' (.loop { r' with state := .exhausted }); pure r'.pending))
    rw [← p1]
    split
    · exact .dead fun h => rfl
    · exact .setObj hl (.loop rfl p2 p3 p4 p5 p6 p7) (by rw [← p2]; exact rel_eq _)
  | _ => exact .halt
theorem rel_enterLoop (f f' : FuncId) {t t' : Array Value} (ht : RowRel m t t') (ps : Array Tmp) (x y : Code) {a a' : Option Nat} (ha : OptRel m.r a a') :
    SRel P (fun m p q => m.r p.1 q.1 ∧ ∃ k, MRel m k q.2 ∧ (p.2.filterMap fun d => match d.target with | .collected r => some r | _ => none) = k) m (Instr.enterLoop f t ps x y a) (Instr.enterLoop f' t' ps x y a') := by
  cases ha with
  | none =>
    refine .new .deferred fun m1 r r' h1 hr => ?_
    refine .new (.loop rfl rfl (ht.mono h1) rfl rfl rfl hr) fun m2 l l' h2 hl => ?_
    exact .pure ⟨hl, [r], .cons (h2 _ _ hr).1 .nil, rfl⟩
  | some ha =>
    refine .getObj ha fun o o' ho => ?_
    cases ho with
    | @loop r r' p1 p2 p3 p4 p5 p6 p7 =>
      refine .new (.loop rfl rfl ht rfl rfl rfl p7) fun m2 l l' h2 hl => ?_
      exact .pure ⟨hl, [], .nil, rfl⟩
    | _ => exact .halt
/-- The next of an operation, taken to its end. -/
theorem next_sound {hk : Hook} {rec : Rec} (hs : Sound P rec) (hh : HookOk P hk) {ro : Option Nat} {nx nx' : Next} (hn : NxRel m nx nx') {h h' : H} {v : Value} {W : World} (he : aNext hk P rec h nx = some (v, h')) (hw : WRel m h W)
    {o : Oper} {a : Act} {next : Act → World → Prop} {Q : Exit → Act → World → Prop} (hnext : ∀ m' v' W', VRel m' v v' → Snd m h W m' h' W' → next (a.put o.dst v') W') : o.uponIn (Fr ro) 0 P a next Q (.ok nx' W) := by
  cases hn with
  | value hv =>
    simp only [aNext, Option.some.injEq, Prod.mk.injEq] at he
    obtain ⟨rfl, rfl⟩ := he
    exact hnext m _ W hv (Snd.refl hw)
  | skip =>
    simp only [aNext, Option.some.injEq, Prod.mk.injEq] at he
    obtain ⟨rfl, rfl⟩ := he
    exact hnext m _ W rel_undef (Snd.refl hw)
  | @enter f args args' ha =>
    have hc : CallsIn Fence.wide 0 P f args' W (Done m h W v h') := by
      simp only [aNext] at he
      split at he
      · rename_i r hr
        subst he
        exact hh f args h v h' hr m W args' ha hw
      · split at he
        · rename_i v2 h2 hr
          simp only [Option.some.injEq, Prod.mk.injEq] at he
          obtain ⟨rfl, rfl⟩ := he
          exact hs.call f args h _ _ hr m W args' ha hw
        · simp at he
    have hc' : CallsIn (Fr ro) 0 P f args' W (Done m h W v h') := hc
    refine ⟨fun hd => by simp [Fr, Fence.wide] at hd, hc'.mono fun e W' hq => ?_⟩
    obtain ⟨v', m', rfl, q1, q2⟩ := hq
    exact hnext m' v' W' q1 q2
  | @round l l' f f' t t' x y hl ht =>
    refine ⟨fun hd => by simp [Fr, Fence.wide] at hd, ?_⟩
    simp only [aNext] at he
    split at he
    · simp at he
    · rename_i hsz
      split at he
      · rename_i t1 h1 hr1
        split at he
        · rename_i u h2 hm0 hb
          split at he
          · rename_i e t2 h3 hr2
            split at he
            · rename_i hm2
              have hts := ht.size
              have ht0 : TRel m { t := fillT 0 .leaf t.toList, n := t.size, round := some l, marks := [] } (some l') { tmps := t', defers := [] } := by
                have hdd : (10000 : Nat) + 2 ≤ 2 ^ D := by decide
                have hlt : t.size + 2 ≤ 2 ^ D := by omega
                have := TRel.fill (m := m) (l := t.toList) (l' := t') ht.toList t.size (some l) (some l') (.some hl) hlt (by simp)
                have e0 : t' ++ Array.replicate (t.size - t'.size) undef = t' := by
                  rw [← hts, Nat.sub_self]; simp
                rw [e0] at this
                exact this
              refine roundIn_of_wpIn trivial ?_
              have w1 := hs.code x _ h .normal t1 h1 hr1 m W _ (some l') ht0 hw
              refine wpIn_mono w1 fun ex a1 W1 hq => ?_
              obtain ⟨hex, m1, hs1, ht1⟩ := hq
              cases hex
              obtain ⟨m2, u', W2, r1, _, r3⟩ := ARun.sound (rel_beginRound (hs1.le _ _ hl).1) hb hs1.rel
              refine ⟨W2, r1, ?_⟩
              have w2 := hs.code y t1 h2 e t2 h3 hr2 m2 W2 a1 (some l') (ht1.mono r3.le) r3.rel
              refine wpIn_mono w2 fun ex2 a2 W3 hq2 => ?_
              obtain ⟨hex2, m3, hs3, ht3⟩ := hq2
              have hl3 := (hs3.le _ _ (r3.le _ _ (hs1.le _ _ hl).1).1).1
              have fin : ∀ j, ARun P (Instr.endRound l j) h3 = some (v, h') → ∃ v' W4, (Instr.endRound l' j).run P W3 = .ok v' W4 ∧ next (a.put o.dst v') W4 := by
                intro j hj
                obtain ⟨m4, v', W4, z1, z2, z3⟩ := ARun.sound (rel_endRound hl3 j) hj hs3.rel
                exact ⟨v', W4, z1, hnext m4 v' W4 z2 (hs1.trans hw (r3.trans hs1.rel (hs3.trans r3.rel z3)))⟩
              cases hex2 with
              | normal => exact fin none he
              | exit id => exact fin (some (.exit id)) he
              | ret => exact fin (some .ret) he
            · simp at he
          · simp at he
        · simp at he
      · simp at he
end Go.Proofs.YtlbipokkdiiaiaaGreatDoor.Exec
/- Pieces of code, by fuel. -/
namespace Go.Proofs.YtlbipokkdiiaiaaGreatDoor.Exec
variable {P : Program} {m : Bij}
theorem no_defer {ρ : Operand → Value} {o : Oper} {h h' : H} {nx : Next} (he : aop P ρ o h = some (nx, h')) : ∀ c, o.op ≠ .defer c := by
  intro c hc
  unfold aop at he
  rw [hc] at he
  simp at he
theorem ops_ok {l : List Operand} {t : T} {ro : Option Nat} {a : Act} (ht : TRel m t ro a) (h : l.all okOperand = true) : ∀ x ∈ l, VRel m (t.eval x) (a.eval x) := fun x hx => ht.eval x (List.all_eq_true.1 h x hx)
theorem aoper_sound {hk : Hook} {rec : Rec} (g : Good P) (hs : Sound P rec) (hh : HookOk P hk) {ops : Array Oper} {o : Oper} {t t' : T} {h h' : H} (he : aoper hk P rec ops o t h = some (t', h')) {ro : Option Nat} {a : Act} {W : World}
    (ht : TRel m t ro a) (hw : WRel m h W) {next : Act → World → Prop} {Q : Exit → Act → World → Prop} (hnext : ∀ m' a' W', TRel m' t' ro a' → Snd m h W m' h' W' → next a' W') :
    if Region.wanted o (yielded ops a.tmps) then o.wpIn (Fr ro) 0 P a W next Q else (∀ f, o.about P W a.eval = some f → (Fr ro).fn f) ∧ next (a.put o.dst undef) W := by
  rw [ht.wanted ops o]
  unfold aoper at he
  split at he
  · rename_i hw1
    rw [if_pos hw1]
    split at he
    · rename_i nx h1 hop
      split at hop
      · rename_i hok
        split at he
        · rename_i v h2 hnx
          simp only [Option.some.injEq, Prod.mk.injEq] at he
          obtain ⟨rfl, rfl⟩ := he
          have hρ : ∀ x ∈ o.op.operands, VRel m (t.eval x) (a.eval x) := fun x hx => ops_ok ht hok x (by simpa using hx)
          obtain ⟨m1, nx', W1, r1, r2, r3⟩ := aop_sound g hρ hw hop
          refine ⟨fun _ _ => trivial, ?_⟩
          rw [Oper.semAt_eq _ _ _ (no_defer hop), r1]
          exact next_sound hs hh r2 hnx r3.rel fun m2 v' W2 hv q => hnext m2 _ W2 (((ht.mono r3.le).mono q.le).put o.dst hv) (r3.trans hw q)
        · simp at he
      · simp at hop
    · simp at he
  · rename_i hw1
    rw [if_neg hw1]
    simp only [Option.some.injEq, Prod.mk.injEq] at he
    obtain ⟨rfl, rfl⟩ := he
    exact ⟨fun _ _ => trivial, hnext m _ W (ht.put o.dst rel_undef) (Snd.refl hw)⟩
theorem aops_sound {hk : Hook} {rec : Rec} (g : Good P) (hs : Sound P rec) (hh : HookOk P hk) {ops : Array Oper} {ro : Option Nat} {Q : Exit → Act → World → Prop} : ∀ (l : List Oper) (i : Nat) {m : Bij} {t t' : T} {h h' : H} {a : Act} {W : World}, ops.toList.drop i = l →
    aops hk P rec ops l t h = some (t', h') → TRel m t ro a → WRel m h W → (∀ m' a' W', TRel m' t' ro a' → Snd m h W m' h' W' → Q .normal a' W') → wpOpsIn (Fr ro) 0 P ops Q (List.range' i l.length) a W
  | [], i, m, t, t', h, h', a, W, hd, he, ht, hw, hq => by
    simp only [aops, Option.some.injEq, Prod.mk.injEq] at he
    obtain ⟨rfl, rfl⟩ := he
    exact hq m a W ht (Snd.refl hw)
  | o :: l, i, m, t, t', h, h', a, W, hd, he, ht, hw, hq => by
    simp only [aops] at he
    split at he
    · rename_i t1 h1 ho
      have hi : i < ops.toList.length := by
        rcases Nat.lt_or_ge i ops.toList.length with k | k
        · exact k
        · rw [List.drop_eq_nil_of_le k] at hd; simp at hd
      rw [List.drop_eq_getElem_cons hi] at hd
      simp only [List.cons.injEq] at hd
      obtain ⟨e1, e2⟩ := hd
      have hoi : ops[i]? = some o := by
        rw [← Array.getElem?_toList, List.getElem?_eq_getElem hi, e1]
      simp only [List.length_cons, List.range'_succ, wpOpsIn, hoi]
      exact aoper_sound g hs hh ho ht hw fun m1 a1 W1 ht1 hs1 => aops_sound g hs hh l (i + 1) e2 he ht1 hs1.rel fun m2 a2 W2 ht2 hs2 => hq m2 a2 W2 ht2 (hs1.trans hw hs2)
    · simp at he
/-- A region that draws. -/
def RegionOk (P : Program) (region : Rec → Array Oper → T → H → Option (T × H)) : Prop :=
  ∀ rec, Sound P rec → ∀ ops t h t' h', region rec ops t h = some (t', h') → ∀ id m W a ro, TRel m t ro a → WRel m h W → (Code.region id ops true).wpIn (Fr ro) 0 P (CPost m h W ro .normal t' h') a W
theorem CPost.trans {h h1 h2 : H} {W W1 : World} {m1 : Bij} {ro : Option Nat} {e : AEx} {t2 : T} (hw : WRel m h W) (hs : Snd m h W m1 h1 W1) {x : Exit} {a : Act} {W2 : World} (hc : CPost m1 h1 W1 ro e t2 h2 x a W2) : CPost m h W ro e t2 h2 x a W2 := by
  obtain ⟨k1, m2, k2, k3⟩ := hc
  exact ⟨k1, m2, hs.trans hw k2, k3⟩
theorem ARun.bind_ok {α γ : Type} (s : Sem α) (f : α → Sem γ) {a : α} {h2 : H} : ∀ h, ARun P s h = some (a, h2) → ARun P (s.bind f) h = ARun P (f a) h2 := by
  induction s with
  | pure b => intro h he; simp only [ARun, Option.some.injEq, Prod.mk.injEq] at he; obtain ⟨rfl, rfl⟩ := he; rfl
  | halt x => intro h he; simp [ARun] at he
  | load md a k ih => intro h he; simp only [Sem.bind, ARun] at he ⊢; split at he <;> simp_all
  | store md a v k ih => intro h he; cases v <;> simp only [Sem.bind, ARun] at he ⊢ <;> first | (simp at he; done) | (split at he <;> simp_all)
  | new o k ih => intro h he; simp only [Sem.bind, ARun] at he ⊢; split at he <;> simp_all
  | shape r k ih => intro h he; simp only [Sem.bind, ARun] at he ⊢; split at he <;> simp_all
  | freeze a n k ih => intro h he; simp only [Sem.bind, ARun] at he ⊢; split at he <;> simp_all
  | frozen a k ih =>
    intro h he
    simp only [Sem.bind, ARun] at he ⊢
    split at he
    · rename_i hg
      split at he
      · simp at he
      · rename_i hc
        rw [if_neg hc]
        exact ih _ _ he
    · simp at he
  | getObj r k ih => intro h he; simp only [Sem.bind, ARun] at he ⊢; split at he <;> simp_all
  | setObj r o k ih => intro h he; simp only [Sem.bind, ARun] at he ⊢; split at he <;> simp_all
  | choose q k ih => intro h he; simp only [Sem.bind, ARun] at he ⊢; split at he <;> simp_all
  | sys c k ih => intro h he; simp [ARun] at he
  | program k ih => intro h he; simp only [Sem.bind, ARun] at he ⊢; exact ih _ _ he
  | mark x k ih => intro h he; simp only [Sem.bind, ARun] at he ⊢; exact ih _ he
theorem arun_cells_h : ∀ (n i : Nat) (a : Addr) (acc : Array Value) {h : H} {c : Array Value} {h1 : H}, ARun P (loadCellsFrom a i n acc) h = some (c, h1) → h1 = h
  | 0, i, a, acc, h, c, h1, he => by
    simp only [loadCellsFrom] at he
    obtain ⟨rfl, rfl⟩ : acc = c ∧ h = h1 := by simpa [ARun, Pure.pure] using he
    rfl
  | n + 1, i, a, acc, h, c, h1, he => by
    unfold loadCellsFrom at he
    rw [arun_load] at he
    split at he
    · exact arun_cells_h n (i + 1) a _ he
    · simp at he
theorem run_load' {a : Addr} {v : Value} {W : World} (h : W.cell? a = some v) : (load a).run P W = .ok v W := by
  show (Sem.load .plain a .pure).run P W = _
  simp only [Sem.run, h]
theorem load_true {h h1 : H} {W : World} {ty : TypeId} {x x' : Addr} {v : Value} (he : ARun P (loadVar ty x) h = some (v, h1)) (hx : ARel m x x') (hw : WRel m h W) : h1 = h ∧ ∃ v', (loadVar ty x').run P W = .ok v' W ∧ VRel m v v' := by
  have hag : ∀ d, P.underlying ty = some d → isAgg ty = (do let d ← underlying ty; match d with | .struct _ => pure true | .array _ _ => pure true | _ => pure false) := fun _ _ => rfl
  have hcase : (∃ b, ∀ k : Bool → Sem Value, (∀ h, ARun P (isAgg ty >>= k) h = ARun P (k b) h) ∧ (∀ W, (isAgg ty >>= k).run P W = (k b).run P W)) ∨ (∀ k : Bool → Sem Value, ∀ h, ARun P (isAgg ty >>= k) h = none) := by
    cases hd : P.underlying ty with
    | none =>
      right; intro k h
      show ARun P (Sem.bind (Sem.bind (match P.underlying ty with | some i => Sem.pure i | none => stuck "no such type") _) k) h = none
      rw [hd]; rfl
    | some d =>
      left
      have e : ∀ k : Bool → Sem Value, isAgg ty >>= k = Sem.program fun p => Sem.bind (Sem.bind (match p.underlying ty with | some i => Sem.pure i | none => stuck "no such type") fun d => match d with | .struct _ | .array _ _ => Sem.pure true | _ => Sem.pure false) k := fun k => rfl
      cases d <;> first
        | exact ⟨true, fun k => ⟨fun h => by rw [e]; simp only [ARun, hd]; rfl, fun W => by rw [e]; simp only [Sem.run, hd]; rfl⟩⟩
        | exact ⟨false, fun k => ⟨fun h => by rw [e]; simp only [ARun, hd]; rfl, fun W => by rw [e]; simp only [Sem.run, hd]; rfl⟩⟩
  unfold loadVar at he ⊢
  rcases hcase with ⟨b, hb⟩ | hb
  · rw [(hb _).1] at he
    rw [(hb _).2]
    cases b with
    | false =>
      simp only [Bool.false_eq_true, if_false] at he ⊢
      have : (load x : Sem Value) = load x >>= Sem.pure := rfl
      rw [this, arun_load] at he
      split at he
      · rename_i u hc
        obtain ⟨rfl, rfl⟩ : u = v ∧ h = h1 := by simpa [ARun] using he
        obtain ⟨v', q1, q2⟩ := hw.cell hx hc
        exact ⟨rfl, v', run_load' q1, q2⟩
      · simp at he
    | true =>
      simp only [if_true] at he ⊢
      cases hi : P.info? ty with
      | none =>
        have : ARun P (do let __do_lift ← sizeOf ty; let __do_lift ← loadCells x __do_lift; pure (Value.agg __do_lift)) h = none := by
          show ARun P (Sem.bind (Sem.bind (match P.info? ty with | some i => Sem.pure i | none => stuck "no such type") _) _) h = none
          rw [hi]; rfl
        rw [this] at he; simp at he
      | some i =>
        have e1 : ARun P (do let __do_lift ← sizeOf ty; let __do_lift ← loadCells x __do_lift; pure (Value.agg __do_lift)) h = ARun P (do let c ← loadCells x i.size; pure (Value.agg c)) h := by
          show ARun P (Sem.bind (Sem.bind (match P.info? ty with | some i => Sem.pure i | none => stuck "no such type") _) _) h = _
          rw [hi]; rfl
        rw [e1] at he
        have bind_some : ∀ {α β : Type} (s : Sem α) (f : α → Sem β) (h : H) r, ARun P (s >>= f) h = some r → ∃ a h2, ARun P s h = some (a, h2) := by
          intro α β s f h r hr
          cases hs : ARun P s h with
          | some q => exact ⟨q.1, q.2, rfl⟩
          | none => rw [show ARun P (s >>= f) h = none from ARun.bind_none s f h hs] at hr; simp at hr
        obtain ⟨c, h2, hc⟩ := bind_some _ _ _ _ he
        obtain ⟨k1, l', k2, k3⟩ := cells_list hc hw hx
        have hr := run_loadCells_list (P := P) W x' l' k3
        rw [← k2.length, k1] at hr
        have e2 : ARun P (do let c ← loadCells x i.size; pure (Value.agg c)) h = some (.agg c, h2) := ARun.bind_ok _ _ _ hc
        rw [e2] at he
        simp only [Option.some.injEq, Prod.mk.injEq] at he
        obtain ⟨rfl, rfl⟩ := he
        have hrow : RowRel m c l'.toArray := by
          have := k2.toArray
          simpa using this
        refine ⟨arun_cells_h _ _ _ _ hc, .agg l'.toArray, ?_, .agg hrow.size hrow.at_⟩
        simp [sizeOf, typeInfo, hi, hr]
  · rw [hb] at he; simp at he
/-- A result. -/
def resOf (tmps : Array Value) : ResultVar → Sem Value
  | .tmp t => pure (tmps.getD t undef)
  | .cell a t => do loadVar t (← asAddr (tmps.getD a undef))
theorem results_sound {h : H} {W : World} {t : T} {ro : Option Nat} {a : Act} (ht : TRel m t ro a) (hw : WRel m h W) : ∀ (l : List ResultVar) {vs : List Value}, aresults P t h l = some vs →
    ∃ vs', LRel m vs vs' ∧ (l.mapM (resOf a.tmps)).run P W = .ok vs' W
  | [], vs, h1 => by
    simp only [aresults, Option.some.injEq] at h1; subst h1
    exact ⟨[], .nil, rfl⟩
  | .tmp i :: l, vs, h1 => by
    have := sem_lawful
    simp only [aresults] at h1
    split at h1
    · rename_i l2 h2
      simp only [Option.some.injEq] at h1; subst h1
      obtain ⟨vs', q1, q2⟩ := results_sound ht hw l h2
      refine ⟨a.tmps.getD i undef :: vs', .cons (ht.get i) q1, ?_⟩
      rw [List.mapM_cons, Sem.run_bind]
      simp only [resOf, Sem.run_pure, Result.andThen_ok, Sem.run_bind, q2]
    · simp at h1
  | .cell ad ty :: l, vs, h1 => by
    have := sem_lawful
    simp only [aresults] at h1
    split at h1
    · rename_i x hx
      split at h1
      · rename_i v h3 l2 hv h2
        simp only [Option.some.injEq] at h1; subst h1
        obtain ⟨vs', q1, q2⟩ := results_sound ht hw l h2
        have hg := ht.get ad
        rw [hx] at hg
        generalize hX : a.tmps.getD ad undef = X at hg
        cases hg with
        | pointer hp => cases hp with
          | @some _ x' ha =>
            obtain ⟨_, v', k1, k2⟩ := load_true hv ha hw
            refine ⟨v' :: vs', .cons k2 q1, ?_⟩
            rw [List.mapM_cons, Sem.run_bind]
            simp only [resOf, hX, asAddr, sem_pure, k1, Sem.run_pure, Result.andThen_ok, Sem.run_bind, q2]
      · simp at h1
    · simp at h1
theorem results_run {h : H} {W : World} {t : T} {ro : Option Nat} {a : Act} (ht : TRel m t ro a) (hw : WRel m h W) (fn : Func) {vs : List Value} (hr : aresults P t h fn.results.toList = some vs) :
    ∃ v', (results fn a.tmps).run P W = .ok v' W ∧ VRel m (oneOf vs) v' := by
  have := sem_lawful
  obtain ⟨vs', q1, q2⟩ := results_sound ht hw fn.results.toList hr
  have hd : results fn a.tmps = (do
      let vs ← fn.results.mapM (resOf a.tmps)
      pure (if h : vs.size = 1 then vs[0] else .tuple vs)) := by
    unfold results
    congr 1
  rw [hd, Sem.run_bind, Array.mapM_eq_mapM_toList, map_eq_pure_bind, Sem.run_bind, q2]
  simp only [Result.andThen_ok, Sem.run_pure]
  refine ⟨_, rfl, ?_⟩
  cases q1 with
  | nil => exact .tuple rfl fun i a => by simp at a
  | cons hv hl => cases hl with
    | nil => simpa [oneOf] using hv
    | cons hu hl2 =>
      have hrow := (LRel.cons hv (LRel.cons hu hl2)).toArray
      simp only [oneOf, List.size_toArray, List.length_cons]
      rw [dif_neg (by omega)]
      exact .tuple hrow.size hrow.at_
/-- The marks, taken. -/
theorem leave_sound {fn : Func} {tmps : Array Value} {R : Ending → World → Prop} {ro : Option Nat} : ∀ (l : List Nat) {l' : List Deferred} {m : Bij} {h h' : H} {W : World}, MRel m l l' → aleave l h = some h' → WRel m h W →
    (∀ m' W', Snd m h W m' h' W' → LeavesIn (Fr ro) 0 P fn tmps R [] .returning W') → LeavesInM (Fr ro) 0 P fn tmps R l' .returning W
  | [], l', m, h, h', W, hm, he, hw, hk => by
    cases hm
    simp only [aleave, Option.some.injEq] at he
    subst he
    exact hk m W (Snd.refl hw)
  | r :: l, l', m, h, h', W, hm, he, hw, hk => by
    cases hm with
    | @cons _ b _ l2 hr hm =>
      simp only [aleave] at he
      split at he
      · rename_i g hg
        obtain ⟨o', q1, q2⟩ := hw.objAt hr hg (by simp)
        cases q2
        have hp := Snd.put hw hg hr (.obj .taken)
        refine ⟨by simp, .inl ⟨b, _, rfl, ?_, leave_sound l (hm.mono hp.le) he hp.rel fun m' W' hs => hk m' W' (hp.trans hw hs)⟩⟩
        unfold Instr.takeDeferred
        rw [run_obj q1 (by simp)]
        simp only [Sem.run_bind]
        rw [run_setObj q1 (by simp)]
        rfl
      · simp at he
end Go.Proofs.YtlbipokkdiiaiaaGreatDoor.Exec
