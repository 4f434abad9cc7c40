/- Lemmas for TopWire: ExecCode4, ExecReg, ExecReg1, ExecReg2. -/
import Derived.Test.YtlbipokkdiiaiaaGreatDoorT07
import Derived.Test.YtlbipokkdiiaiaaGreatDoorT01
import Derived.OrdersIn
/- The executor is true. -/
namespace Go.Proofs.YtlbipokkdiiaiaaGreatDoor.Exec
variable {P : Program} {m : Bij}
theorem exists_least {p : Nat → Prop} (h : ∃ k, p k) : ∃ k, p k ∧ ∀ j, p j → k ≤ j := by
  obtain ⟨k, hk⟩ := h
  induction k using Nat.strongRecOn with
  | _ k ih =>
    by_cases hj : ∃ j, j < k ∧ p j
    · obtain ⟨j, h1, h2⟩ := hj; exact ih j h1 h2
    · exact ⟨k, hk, fun j hp => Nat.le_of_not_lt fun hlt => hj ⟨j, hlt, hp⟩⟩
/-- A loop, by a count that goes down. -/
theorem wpIn_loop_n {F : Fence} {d : Nat} {c : Code} {Q : Exit → Act → World → Prop} (J : Nat → Act → World → Prop) {n : Nat} {a : Act} {w : World} (h0 : J n a w)
    (round : ∀ k a w, J k a w → c.wpIn F d P (Exit.then (fun a' w' => ∃ j, j < k ∧ J j a' w') Q) a w) : (Code.loop c).wpIn F d P Q a w := by
  classical
  refine wpIn_loop (fun a w => ∃ k, J k a w) (fun a w => if h : ∃ k, J k a w then (exists_least h).choose else 0) ⟨n, h0⟩ fun a w hI => ?_
  have hs := (exists_least hI).choose_spec
  refine wpIn_mono (round _ a w hs.1) fun e a' w' hq => ?_
  cases e with
  | normal =>
    obtain ⟨j, hj, hJ⟩ := hq
    refine ⟨⟨j, hJ⟩, ?_⟩
    rw [dif_pos hI, dif_pos ⟨j, hJ⟩]
    exact Nat.lt_of_le_of_lt ((exists_least ⟨j, hJ⟩).choose_spec.2 j hJ) hj
  | _ => exact hq
/-- A scope through which no jump goes. -/
def NoGoto (Q : Exit → Act → World → Prop) : Exit → Act → World → Prop
  | .goto _, _, _ => False
  | e, a, w => Q e a w
theorem step_scopeR {b : Frame} {a : Act} {k : List Item} {cs : List Frame} {w : World} {c : Code} : step P (lone (b.atR a (.code (.scope c) :: k)) cs w) = .next (lone (b.atR a (.code c :: .inScope c :: k)) cs w) :=
  step_lone_go (by simp [stepG, stepG.exec, Frame.atR])
theorem step_inScopeR {b : Frame} {a : Act} {k : List Item} {cs : List Frame} {w : World} {c : Code} : step P (lone (b.atR a (.inScope c :: k)) cs w) = .next (lone (b.atR a k) cs w) :=
  step_lone_go (by simp [stepG, stepG.exec, Frame.atR])
theorem wpIn_scope {F : Fence} {d : Nat} {c : Code} {Q : Exit → Act → World → Prop} {a : Act} {w : World} (h : c.wpIn F d P (NoGoto Q) a w) : (Code.scope c).wpIn F d P Q a w := by
  intro b k cs hro hb hr
  have h0 : (lone (b.atR a (.code (.scope c) :: k)) cs w).fenced P F := fenced_calm hb hr rfl
  obtain ⟨e, a₁, w₁, hq, harr⟩ := h b (.inScope c :: k) cs hro hb hr
  have hx : ∀ id, exitTo id (.inScope c :: k) = exitTo id k := fun id => by simp [exitTo]
  cases e with
  | normal => exact ⟨.normal, a₁, w₁, hq, .head h0 step_scopeR (StepsIn.trans harr (.one (fenced_calm hb hr rfl) step_inScopeR))⟩
  | exit id => exact ⟨.exit id, a₁, w₁, hq, fun k' hk => .head h0 step_scopeR (harr.1 k' (by rw [hx]; exact hk)), fun hr' hk => let ⟨k₁, h1, h2⟩ := harr.2 hr' (by rw [hx]; exact hk); ⟨k₁, h1, .head h0 step_scopeR h2⟩⟩
  | goto l => exact hq.elim
  | ret => exact ⟨_, a₁, w₁, hq, .of_steps (.one h0 step_scopeR) harr⟩
  | panic ch => exact ⟨_, a₁, w₁, hq, .of_steps (.one h0 step_scopeR) harr⟩
  | outgrown => exact ⟨_, a₁, w₁, hq, .of_steps (.one h0 step_scopeR) harr⟩
theorem tmps_row {t : T} {ro : Option Nat} {a : Act} (ht : TRel m t ro a) : RowRel m (((List.range t.n).map t.get).toArray) a.tmps := by
  refine .of_get (by simpa using ht.size) fun i v v' h1 h2 => ?_
  have := ht.get i
  rw [Array.getD_eq_getD_getElem?, h2] at this
  rw [List.getElem?_toArray, List.getElem?_map] at h1
  have hi : i < t.n := by
    have := (Array.getElem?_eq_some_iff.1 h2).1
    have := ht.size
    omega
  rw [List.getElem?_range hi] at h1
  simp only [Option.map_some, Option.some.injEq] at h1
  subst h1
  exact this
theorem exec_call {hk : Hook} {region : Rec → Array Oper → T → H → Option (T × H)} {rec : Rec} (hs : Sound P rec) (f : FuncId) (args : Array Value) (h : H) (v : Value) (h' : H)
    (he : exec hk P region rec (.call f args) h = some (.val v, h')) (m : Bij) (W : World) (args' : Array Value) (ha : RowRel m args args') (hw : WRel m h W) : CallsIn Fence.wide 0 P f args' W (Done m h W v h') := by
  simp only [exec] at he
  split at he
  · rename_i fn hf
    split at he
    · rename_i c hb
      split at he
      · simp at he
      · rename_i hsz
        simp only [Bool.or_eq_true, not_or, Bool.not_eq_true', decide_eq_false_iff_not] at hsz
        have hs1 : args.size ≤ fn.ntmps := by
          have := hsz.1; simpa using this
        have hs2 : fn.ntmps < 10000 := by
          have := hsz.2; simpa using this
        split at he
        · rename_i e t h1 hr
          have hdd : (10000 : Nat) + 2 ≤ 2 ^ D := by decide
          have hn : fn.ntmps + 2 ≤ 2 ^ D := by omega
          have ht0 := TRel.fill (m := m) ha.toList fn.ntmps none none .none hn (by simpa using hs1)
          have w1 := hs.code c _ h e t h1 hr m W _ none ht0 hw
          have fin : (e = .normal ∨ e = .ret) → (match aleave t.marks h1 with
              | some h => match aresults P t h fn.results.toList with
                | some l => some (Res.val (oneOf l), h)
                | none => none
              | none => none) = some (.val v, h') → CallsIn Fence.wide 0 P f args' W (Done m h W v h') := by
            intro hee hq
            split at hq
            · rename_i h2 hl
              split at hq
              · rename_i vs hres
                simp only [Option.some.injEq, Prod.mk.injEq, Res.val.injEq] at hq
                obtain ⟨rfl, rfl⟩ := hq
                refine callsIn_of_wp_marks (F := Fence.wide) hf hb trivial ?_
                refine wpIn_mono w1 fun x a1 W1 hx => ?_
                obtain ⟨hex, m1, k1, k2⟩ := hx
                have key : LeavesInM (Fr none) 0 P fn a1.tmps (Done m h W (oneOf vs) h2) a1.defers .returning W1 := by
                  refine leave_sound t.marks k2.marks hl k1.rel fun m2 W2 hs2 => ?_
                  obtain ⟨v', q1, q2⟩ := results_run (k2.mono hs2.le) hs2.rel fn hres
                  exact ⟨v', q1, v', m2, rfl, q2, k1.trans hw hs2⟩
                rcases hee with rfl | rfl <;> cases hex <;> exact key
              · simp at hq
            · simp at hq
          cases e with
          | exit id => simp at he
          | normal => exact fin (.inl rfl) he
          | ret => exact fin (.inr rfl) he
        · simp at he
    · simp at he
  · simp at he
theorem cond_eval {t : T} {ro : Option Nat} {a : Act} (ht : TRel m t ro a) {c : Operand} {b : Bool} (h : t.eval c = .bool b) : a.eval c = .bool b := by
  cases c with
  | tmp i =>
    have := ht.get i
    simp only [T.eval] at h
    rw [h] at this
    show a.tmps.getD i undef = .bool b
    generalize a.tmps.getD i undef = X at this
    cases this; rfl
  | const v => exact h
  | global g => simp [T.eval] at h
  | func f => simp [T.eval] at h
/-- A piece of code that is no loop. -/
theorem exec_code {hk : Hook} {region : Rec → Array Oper → T → H → Option (T × H)} {rec : Rec} (g : Good P) (hh : HookOk P hk) (hrg : RegionOk P region) (hs : Sound P rec) (c : Code) (hloop : ∀ b, c ≠ .loop b) (t : T) (h : H) (e : AEx) (t' : T) (h' : H)
    (he : exec hk P region rec (.code c t) h = some (.code e t', h')) (m : Bij) (W : World) (a : Act) (ro : Option Nat) (ht : TRel m t ro a) (hw : WRel m h W) : c.wpIn (Fr ro) 0 P (CPost m h W ro e t' h') a W := by
  have here : ∀ x, some (Res.code x t, h) = some (Res.code e t', h') → ∀ y, EX x y → CPost m h W ro e t' h' y a W := by
    intro x hq y hy
    simp only [Option.some.injEq, Prod.mk.injEq, Res.code.injEq] at hq
    obtain ⟨⟨rfl, rfl⟩, rfl⟩ := hq
    exact ⟨hy, m, Snd.refl hw, ht⟩
  cases c with
  | skip => exact wpIn_skip (here .normal he _ .normal)
  | label l => exact wpIn_label (here .normal he _ .normal)
  | exit id => exact wpIn_exit (here (.exit id) he _ (.exit id))
  | ret => exact wpIn_ret (here .ret he _ .ret)
  | scope b =>
    refine wpIn_scope (wpIn_mono (hs.code b t h e t' h' he m W a ro ht hw) fun x a1 W1 hq => ?_)
    obtain ⟨hex, _⟩ := id hq
    cases hex <;> exact hq
  | seq x y =>
    simp only [exec] at he
    split at he
    · rename_i t1 h1 hr
      refine wpIn_seq (wpIn_mono (hs.code x t h .normal t1 h1 hr m W a ro ht hw) fun ex a1 W1 hq => ?_)
      obtain ⟨hex, m1, k1, k2⟩ := hq
      cases hex
      exact wpIn_mono (hs.code y t1 h1 e t' h' he m1 W1 a1 ro k2 k1.rel) fun ex2 a2 W2 hq2 => hq2.trans hw k1
    · rename_i hne
      refine wpIn_seq (wpIn_mono (hs.code x t h e t' h' he m W a ro ht hw) fun ex a1 W1 hq => ?_)
      obtain ⟨hex, _⟩ := id hq
      cases hex with
      | normal => exact absurd he (hne _ _)
      | exit id => exact hq
      | ret => exact hq
  | cond c x y =>
    simp only [exec] at he
    split at he
    · rename_i hc
      exact wpIn_cond (cond_eval ht hc) (hs.code x t h e t' h' he m W a ro ht hw)
    · rename_i hc
      exact wpIn_cond (cond_eval ht hc) (hs.code y t h e t' h' he m W a ro ht hw)
    · simp at he
  | block bid b =>
    simp only [exec] at he
    split at he
    · rename_i id' t1 h1 hr
      refine wpIn_block (wpIn_mono (hs.code b t h (.exit id') t1 h1 hr m W a ro ht hw) fun ex a1 W1 hq => ?_)
      obtain ⟨hex, m1, k1, k2⟩ := hq
      cases hex
      split at he
      · rename_i hid
        simp only [Option.some.injEq, Prod.mk.injEq, Res.code.injEq] at he
        obtain ⟨⟨rfl, rfl⟩, rfl⟩ := he
        simp only [Exit.inBlock, hid, if_true]
        exact ⟨.normal, m1, k1, k2⟩
      · rename_i hid
        simp only [Option.some.injEq, Prod.mk.injEq, Res.code.injEq] at he
        obtain ⟨⟨rfl, rfl⟩, rfl⟩ := he
        simp only [Exit.inBlock, hid, if_false]
        exact ⟨.exit id', m1, k1, k2⟩
    · rename_i hne
      refine wpIn_block (wpIn_mono (hs.code b t h e t' h' he m W a ro ht hw) fun ex a1 W1 hq => ?_)
      obtain ⟨hex, _⟩ := id hq
      cases hex with
      | normal => exact hq
      | exit id => exact absurd he (hne _ _ _)
      | ret => exact hq
  | region id ops draw =>
    simp only [exec] at he
    split at he
    · rename_i t1 h1 hr
      simp only [Option.some.injEq, Prod.mk.injEq, Res.code.injEq] at he
      obtain ⟨⟨rfl, rfl⟩, rfl⟩ := he
      cases draw with
      | true => exact hrg rec hs ops t h t1 h1 (by simpa using hr) id m W a ro ht hw
      | false =>
        refine wpIn_region ?_
        rw [List.range_eq_range']
        have hr : aops hk P rec ops ops.toList t h = some (t1, h1) := by simpa using hr
        have := aops_sound (Q := CPost m h W ro .normal t1 h1) g hs hh ops.toList 0 (by simp) hr ht hw fun m' a' W' k1 k2 => ⟨.normal, m', k2, k1⟩
        simpa using this
    · simp at he
  | rangeFunc gf ps x y =>
    simp only [exec] at he
    split at he
    · rename_i l mark h1 hen
      split at he
      · rename_i f first captured hgv
        split at hgv
        · rename_i hok
          split at he
          · simp at he
          · rename_i hbody
            split at he
            · rename_i v h2 hr
              split at he
              · rename_i j h3 hend
                refine wpIn_rangeFunc fun fn _ => ?_
                obtain ⟨m1, q, W1, r1, r2, r3⟩ := ARun.sound (rel_enterLoop 0 fn (tmps_row ht) ps x y ht.round) hen hw
                obtain ⟨l', mark'⟩ := q
                obtain ⟨hl, km, hkm, hkm2⟩ := r2
                have hev := ht.eval gf hok
                rw [hgv] at hev
                generalize hX : a.eval gf = X at hev
                cases hev with
                | @func _ f' _ first' _ cap' hf s1 e1 s2 e2 =>
                cases hf
                simp only [Bool.not_eq_true', Bool.not_eq_false, Option.any_eq_true] at hbody
                have hbody : ∃ fn c, P.funcs[f]? = some fn ∧ fn.body = some c := by
                  cases hfn : P.funcs[f]? with
                  | none => simp [hfn] at hbody
                  | some fn =>
                    cases hbb : fn.body with
                    | none => simp [hfn, hbb] at hbody
                    | some c => exact ⟨fn, c, rfl, hbb⟩
                obtain ⟨fn2, c2, hfn, hbb⟩ := hbody
                refine ⟨l', mark', W1, { target := .fn (.func f) cap', args := first' ++ #[.func (.yield l') #[] #[]] }, W1, f, (first' ++ #[.func (.yield l') #[] #[]]) ++ cap', W1, r1, ?_, fun _ _ => trivial, ?_, fun hd => by simp [Fr, Fence.wide] at hd, ?_⟩
                · show (Deferred.ofValue (a.eval gf) ((#[Operand.const (.func (.yield l') #[] #[])]).map a.eval)).run P W1 = _
                  rw [hX, show (#[Operand.const (.func (.yield l') #[] #[])]).map a.eval = #[Value.func (.yield l') #[] #[]] from by simp [Act.eval]]
                  rfl
                · exact run_enter g hfn hbb _
                · have hargs : RowRel m1 ((first ++ #[.func (.yield l) #[] #[]]) ++ captured) ((first' ++ #[.func (.yield l') #[] #[]]) ++ cap') :=
                    ((RowRel.append (RowRel.mono r3.le ⟨s1, e1⟩) (RowRel.one (.func (.yield hl) rfl (fun i a => by simp at a) rfl (fun i a => by simp at a)))).append (RowRel.mono r3.le ⟨s2, e2⟩))
                  have hc : CallsIn (Fr ro) 0 P f ((first' ++ #[.func (.yield l') #[] #[]]) ++ cap') W1 (Done m1 h1 W1 v h2) := hs.call f _ h1 v h2 hr m1 W1 _ hargs r3.rel
                  refine hc.mono fun en W2 hq => ?_
                  obtain ⟨v', m2, rfl, k1, k2⟩ := hq
                  obtain ⟨m3, j', W3, z1, z2, z3⟩ := ARun.sound (rel_endLoop (k2.le _ _ hl).1) hend k2.rel
                  cases z2
                  have hall : Snd m h W m3 h3 W3 := r3.trans hw (k2.trans r3.rel z3)
                  have ht3 : TRel m3 { t with marks := (mark.filterMap fun d => match d.target with | .collected r => some r | _ => none) ++ t.marks } ro { a with defers := mark' ++ a.defers } := by
                    have hm3 := ht.mono hall.le
                    refine ⟨hm3.get, hm3.size, hm3.round, ?_, hm3.room⟩
                    have hmm := (hkm.mono (Bij.le_trans k2.le z3.le)).append hm3.marks
                    rw [← hkm2] at hmm
                    exact hmm
                  refine ⟨j, W3, z1, ?_⟩
                  split at he
                  · simp only [Option.some.injEq, Prod.mk.injEq, Res.code.injEq] at he
                    obtain ⟨⟨rfl, rfl⟩, rfl⟩ := he
                    exact ⟨.normal, m3, hall, ht3⟩
                  · simp only [Option.some.injEq, Prod.mk.injEq, Res.code.injEq] at he
                    obtain ⟨⟨rfl, rfl⟩, rfl⟩ := he
                    exact wpIn_exit ⟨.exit _, m3, hall, ht3⟩
                  · simp only [Option.some.injEq, Prod.mk.injEq, Res.code.injEq] at he
                    obtain ⟨⟨rfl, rfl⟩, rfl⟩ := he
                    exact wpIn_ret ⟨.ret, m3, hall, ht3⟩
                  · simp at he
              · simp at he
            · simp at he
        · simp at hgv
      · simp at he
    · simp at he
  | loop b => exact absurd rfl (hloop b)
  | goto l => simp [exec] at he
  | refuse w => simp [exec] at he
/-- By fuel, all of it. -/
theorem go_sound {hk : Hook} {region : Rec → Array Oper → T → H → Option (T × H)} (g : Good P) (hh : HookOk P hk) (hrg : RegionOk P region) : ∀ n, Sound P (go hk P region n) := by
  intro n
  induction n using Nat.strongRecOn with
  | _ n ih =>
    cases n with
    | zero => exact ⟨fun c t h e t' h' he => by simp [go] at he, fun f args h v h' he => by simp [go] at he⟩
    | succ n =>
      have hs : Sound P (go hk P region n) := ih n (by omega)
      refine ⟨fun c t h e t' h' he m W a ro ht hw => ?_, fun f args h v h' he m W args' ha hw => exec_call (hk := hk) (region := region) hs f args h v h' he m W args' ha hw⟩
      by_cases hl : ∃ b, c = .loop b
      · obtain ⟨b, rfl⟩ := hl
        refine wpIn_loop_n (fun k a1 W1 => k ≤ n + 1 ∧ ∃ m1 t1 h1, go hk P region k (.code (.loop b) t1) h1 = some (.code e t', h') ∧ TRel m1 t1 ro a1 ∧ Snd m h W m1 h1 W1) ⟨Nat.le_refl _, m, t, h, he, ht, Snd.refl hw⟩ ?_
        intro k a1 W1 hJ
        obtain ⟨hk1, m1, t1, h1, hgo, ht1, hs1⟩ := hJ
        cases k with
        | zero => simp [go] at hgo
        | succ k =>
          have hsk : Sound P (go hk P region k) := ih k (by omega)
          have hgo : exec hk P region (go hk P region k) (.code (.loop b) t1) h1 = some (.code e t', h') := hgo
          simp only [exec] at hgo
          split at hgo
          · rename_i t2 h2 hr
            refine wpIn_mono (hsk.code b t1 h1 .normal t2 h2 hr m1 W1 a1 ro ht1 hs1.rel) fun ex a2 W2 hq => ?_
            obtain ⟨hex, m2, k1, k2⟩ := hq
            cases hex
            exact ⟨k, by omega, by omega, m2, t2, h2, hgo, k2, hs1.trans hw k1⟩
          · rename_i hne
            refine wpIn_mono (hsk.code b t1 h1 e t' h' hgo m1 W1 a1 ro ht1 hs1.rel) fun ex a2 W2 hq => ?_
            have hq2 := hq.trans hw hs1
            obtain ⟨hex, _⟩ := id hq
            cases hex with
            | normal => exact absurd hgo (hne _ _)
            | exit id => exact hq2
            | ret => exact hq2
      · exact exec_code g hh hrg hs c (fun b hb => hl ⟨b, hb⟩) t h e t' h' he m W a ro ht hw
end Go.Proofs.YtlbipokkdiiaiaaGreatDoor.Exec
/- The executor: regions that draw their order. Definitions alone. -/
namespace Go.Proofs.YtlbipokkdiiaiaaGreatDoor.Exec
noncomputable section
def same : Nat → Value → Value → Bool
  | _, .bool a, .bool b => a == b
  | _, .int j a, .int k b => j == k && a == b
  | _, .string a, .string b => a.data == b.data
  | _, .pointer a, .pointer b => a == b
  | _, .slice a l c, .slice b n d => a == b && l == n && c == d
  | _, .map a, .map b => a == b
  | _, .nilFunc, .nilFunc => true
  | _, .nilIface, .nilIface => true
  | n + 1, .func f x y, .func g u v => f == g && x.size == u.size && y.size == v.size && (x.toList.zip u.toList).all (fun (a, b) => same n a b) && (y.toList.zip v.toList).all (fun (a, b) => same n a b)
  | n + 1, .iface t v, .iface u w => t == u && same n v w
  | n + 1, .agg a, .agg b => a.size == b.size && (a.toList.zip b.toList).all fun (x, y) => same n x y
  | _, _, _ => false
/-- What stands before an operation, by its edges. -/
def befOf (bef : Array Nat) (o : Oper) : Nat := o.after.toList.foldl (fun s e => if Region.binds .any e then s ||| 2 ^ e.on ||| bef.getD e.on 0 else s) 0
/-- What a region must be like. -/
def okR (ops : Array Oper) (n : Nat) (bef : Array Nat) : Bool :=
  let w : List (Nat × Nat) := ops.toList.zipIdx.filterMap fun (o, i) => o.dst.map fun d => (d, i)
  w.all (fun (d, _) => decide (d < n)) &&
  ops.toList.zipIdx.all fun (o, j) =>
    bef.getD j 0 == befOf bef o &&
    o.after.toList.all (fun e => !Region.binds .any e || decide (e.on < j)) &&
    ((o.op.operands.toList.filterMap fun | .tmp t => some t | _ => none) ++ (match o.guard with
      | some (g, _) => ((ops[g]?).bind (·.dst)).toList
      | none => [])).all (fun t => w.all fun (d, i) => d != t || (bef.getD j 0).testBit i) &&
    (match o.dst with
      | some t => w.all fun (d, i) => d != t || i == j
      | none => true)
def adopt (base bj : Nat) : List (Nat × AObj) → H → H
  | [], h => h
  | (i, o) :: r, h => if bj.testBit i then adopt base bj r (h.put (base + i) o) else adopt base bj r h
def loadAt (P : Program) (ρ : Operand → Value) (o : Oper) (h : H) : Option Value :=
  match ARun P (execOp ρ o) h with
  | some (.value v, _) => some v
  | _ => none
/-- One operation of a region that draws: before, after, what it gives; chain: it acts; ld: it reads. -/
structure Ent where
  o : Oper
  t : T
  h : H
  g : H
  v : Value
  ch : Bool
  ld : Bool
  ob : Option AObj
def aent (hk : Hook) (P : Program) (rec : Rec) (ops : Array Oper) (bef : Array Nat) (base : Nat) (o : Oper) (j : Nat) (t : T) (h : H) (pd : List (Nat × AObj)) : Option (Ent × List (Nat × AObj)) :=
  if o.op.operands.toList.all okOperand then
    if wantedT ops t o then
      match aop P t.eval o ⟨.leaf, base + j, base + j + 1⟩ with
      | some (.value v, h') => some (⟨o, t, h, h, v, false, false, h'.get (base + j)⟩, match h'.get (base + j) with | some ob => (j, ob) :: pd | none => pd)
      | _ =>
        match o.op with
        | .load _ _ =>
          match loadAt P t.eval o h with
          | some v => some (⟨o, t, h, h, v, false, true, none⟩, pd)
          | none => none
        | _ =>
          match aop P t.eval o (adopt base (bef.getD j 0) pd h) with
          | some (nx, h2) => match aNext hk P rec h2 nx with
            | some (v, h3) => some (⟨o, t, h, h3, v, true, false, none⟩, pd.filter fun (i, _) => !(bef.getD j 0).testBit i)
            | none => none
          | none => none
    else some (⟨o, t, h, h, undef, false, false, none⟩, pd)
  else none
def atr (hk : Hook) (P : Program) (rec : Rec) (ops : Array Oper) (bef : Array Nat) (base : Nat) : List Oper → Nat → T → H → List (Nat × AObj) → Option (List Ent × T × H × List (Nat × AObj))
  | [], _, t, h, pd => some ([], t, h, pd)
  | o :: r, j, t, h, pd => match aent hk P rec ops bef base o j t h pd with
    | some (e, pd1) => match atr hk P rec ops bef base r (j + 1) (t.put o.dst e.v) e.g pd1 with
      | some (es, t', h', p') => some (e :: es, t', h', p')
      | none => none
    | none => none
/-- Chains are chains; what is read is the same at all times at which it may be read. -/
def chkE (P : Program) (bef : Array Nat) (es : List Ent) : Bool :=
  es.zipIdx.all fun (e, j) => es.zipIdx.all fun (f, k) =>
    !f.ch ||
    (if k < j then (if e.ch then (bef.getD j 0).testBit k else if e.ld then (bef.getD j 0).testBit k || (loadAt P e.t.eval e.o f.h).any (same 3 e.v) else true)
     else if j < k then (if e.ld then (bef.getD k 0).testBit j || (loadAt P e.t.eval e.o f.g).any (same 3 e.v) else true)
     else true)
/-- Names set aside. -/
def bump : Nat → H → H
  | 0, h => h
  | n + 1, h => bump n { t := Tr.set D h.t h.next none, next := h.next + 1, lim := h.lim }
/-- A region that draws. -/
def aregion (hk : Hook) (P : Program) (rec : Rec) (ops : Array Oper) (t : T) (h : H) : Option (T × H) :=
  let bef := Region.before ops
  if okR ops t.n bef && decide (h.next + ops.size ≤ h.lim) then
    match atr hk P rec ops bef h.next ops.toList 0 t (bump ops.size h) [] with
    | some (es, t', h', p') => if chkE P bef es then some (t', adopt h.next (2 ^ ops.size - 1) p' h') else none
    | none => none
  else none
end
end Go.Proofs.YtlbipokkdiiaiaaGreatDoor.Exec
/- Regions that draw: what the executor's run shows, operation by operation. -/
namespace Go.Proofs.YtlbipokkdiiaiaaGreatDoor.Exec
variable {P : Program}
/-! ### bits -/
theorem befOf_bit {bef : Array Nat} {o : Oper} {k : Nat} (h : (befOf bef o).testBit k = true) : ∃ e ∈ o.after, Region.binds .any e = true ∧ (k = e.on ∨ (bef.getD e.on 0).testBit k = true) := by
  unfold befOf at h
  have go : ∀ (l : List Edge) (s : Nat), (l.foldl (fun s e => if Region.binds .any e then s ||| 2 ^ e.on ||| bef.getD e.on 0 else s) s).testBit k = true → s.testBit k = true ∨ ∃ e ∈ l, Region.binds .any e = true ∧ (k = e.on ∨ (bef.getD e.on 0).testBit k = true) := by
    intro l
    induction l with
    | nil => intro s h; exact .inl h
    | cons e l ih =>
      intro s h
      simp only [List.foldl_cons] at h
      rcases ih _ h with h1 | ⟨e2, h1, h2⟩
      · split at h1
        · rename_i hb
          simp only [Nat.testBit_or, Bool.or_eq_true, Nat.testBit_two_pow] at h1
          rcases h1 with (h1 | h1) | h1
          · exact .inl h1
          · exact .inr ⟨e, by simp, hb, .inl (Eq.symm (by simpa using h1))⟩
          · exact .inr ⟨e, by simp, hb, .inr h1⟩
        · exact .inl h1
      · exact .inr ⟨e2, by simp [h1], h2⟩
  rcases go _ _ h with h1 | ⟨e, h1, h2⟩
  · simp at h1
  · exact ⟨e, by simpa using h1, h2⟩
/-- What okR says. -/
structure OkR (ops : Array Oper) (n : Nat) (bef : Array Nat) : Prop where
  dst : ∀ (i : Nat) (o : Oper) d, ops[i]? = some o → o.dst = some d → d < n
  befs : ∀ (j : Nat) (o : Oper), ops[j]? = some o → bef.getD j 0 = befOf bef o
  low : ∀ (j : Nat) (o : Oper), ops[j]? = some o → ∀ e ∈ o.after, Region.binds .any e = true → e.on < j
  looks : ∀ (j : Nat) (o : Oper), ops[j]? = some o → ∀ t, ((.tmp t ∈ o.op.operands) ∨ ∃ g b, o.guard = some (g, b) ∧ (ops[g]?).bind (·.dst) = some t) → ∀ (i : Nat) (p : Oper), ops[i]? = some p → p.dst = some t → (bef.getD j 0).testBit i = true
  one : ∀ (i j : Nat) (o p : Oper) d, ops[i]? = some o → ops[j]? = some p → o.dst = some d → p.dst = some d → i = j
theorem okR_spec {ops : Array Oper} {n : Nat} {bef : Array Nat} (h : okR ops n bef = true) : OkR ops n bef := by
  simp only [okR, Bool.and_eq_true] at h
  obtain ⟨h1, h2⟩ := h
  have hz : ∀ (i : Nat) (o : Oper), ops[i]? = some o → (o, i) ∈ ops.toList.zipIdx := fun i o ho => by
    rw [List.mem_zipIdx_iff_getElem?]
    simpa using ho
  have hw : ∀ (i : Nat) (o : Oper) d, ops[i]? = some o → o.dst = some d → (d, i) ∈ ops.toList.zipIdx.filterMap (fun (x : Oper × Nat) => x.1.dst.map fun d => (d, x.2)) := fun i o d ho hd => by
    rw [List.mem_filterMap]
    exact ⟨(o, i), hz i o ho, by simp [hd]⟩
  rw [List.all_eq_true] at h1 h2
  refine ⟨fun i o d ho hd => ?_, fun j o ho => ?_, fun j o ho e he hb => ?_, fun j o ho t ht i p hp hd => ?_, fun i j o p d ho hp h3 h4 => ?_⟩
  · simpa using h1 (d, i) (hw i o d ho hd)
  · have := h2 (o, j) (hz j o ho)
    simp only [Bool.and_eq_true, beq_iff_eq] at this
    exact this.1.1.1
  · have := h2 (o, j) (hz j o ho)
    simp only [Bool.and_eq_true] at this
    have := List.all_eq_true.1 this.1.1.2 e (by simpa using he)
    simpa [hb] using this
  · have := h2 (o, j) (hz j o ho)
    simp only [Bool.and_eq_true] at this
    have h5 := List.all_eq_true.1 this.1.2 t (by
      rw [List.mem_append]
      rcases ht with ht | ⟨g, b, hg, hgd⟩
      · left
        rw [List.mem_filterMap]
        exact ⟨.tmp t, by simpa using ht, rfl⟩
      · right
        rw [hg]; simp [hgd])
    have h6 := List.all_eq_true.1 h5 (t, i) (hw i p t hp hd)
    simpa using h6
  · have := h2 (p, j) (hz j p hp)
    simp only [Bool.and_eq_true] at this
    have h5 := this.2
    rw [h4] at h5
    have h6 := List.all_eq_true.1 h5 (d, i) (hw i o d ho h3)
    simpa using h6
theorem OkR.bit {ops : Array Oper} {n : Nat} {bef : Array Nat} (h : OkR ops n bef) {j : Nat} {o : Oper} (ho : ops[j]? = some o) {k : Nat} (hk : (bef.getD j 0).testBit k = true) :
    ∃ e ∈ o.after, Region.binds .any e = true ∧ (k = e.on ∨ (bef.getD e.on 0).testBit k = true) := by
  rw [h.befs j o ho] at hk
  exact befOf_bit hk
theorem OkR.lt {ops : Array Oper} {n : Nat} {bef : Array Nat} (h : OkR ops n bef) : ∀ (j : Nat) {o : Oper}, ops[j]? = some o → ∀ {k : Nat}, (bef.getD j 0).testBit k = true → k < j := by
  intro j
  induction j using Nat.strongRecOn with
  | _ j ih =>
    intro o ho k hk
    obtain ⟨e, h1, h2, h3⟩ := h.bit ho hk
    have hlt := h.low j o ho e h1 h2
    rcases h3 with rfl | h3
    · exact hlt
    · have hj : j < ops.size := (Array.getElem?_eq_some_iff.1 ho).1
      have := ih e.on hlt (o := ops[e.on]'(by omega)) (Array.getElem?_eq_getElem (by omega)) h3
      omega
/-! ### the trace -/
/-- The run, operation by operation: a state before each. -/
structure Trace (hk : Hook) (P : Program) (rec : Rec) (ops : Array Oper) (bef : Array Nat) (base : Nat) (l : List Oper) (j : Nat) (t : T) (h : H) (pd : List (Nat × AObj)) (es : List Ent) (t' : T) (h' : H) (p' : List (Nat × AObj))
    (st : Nat → T × H × List (Nat × AObj)) : Prop where
  len : es.length = l.length
  first : st 0 = (t, h, pd)
  last : st l.length = (t', h', p')
  step : ∀ (i : Nat) (o : Oper), l[i]? = some o → ∃ e, es[i]? = some e ∧ aent hk P rec ops bef base o (j + i) (st i).1 (st i).2.1 (st i).2.2 = some (e, (st (i + 1)).2.2) ∧ (st (i + 1)).1 = (st i).1.put o.dst e.v ∧ (st (i + 1)).2.1 = e.g
theorem atr_trace {hk : Hook} {rec : Rec} {ops : Array Oper} {bef : Array Nat} {base : Nat} : ∀ (l : List Oper) (j : Nat) (t : T) (h : H) (pd : List (Nat × AObj)) {es : List Ent} {t' : T} {h' : H} {p' : List (Nat × AObj)},
    atr hk P rec ops bef base l j t h pd = some (es, t', h', p') → ∃ st, Trace hk P rec ops bef base l j t h pd es t' h' p' st
  | [], j, t, h, pd, es, t', h', p', he => by
    simp only [atr, Option.some.injEq, Prod.mk.injEq] at he
    obtain ⟨rfl, rfl, rfl, rfl⟩ := he
    exact ⟨fun _ => (t, h, pd), rfl, rfl, rfl, fun i o ho => by simp at ho⟩
  | o :: l, j, t, h, pd, es, t', h', p', he => by
    simp only [atr] at he
    split at he
    · rename_i e pd1 h1
      split at he
      · rename_i es2 t2 h2 p2 h3
        simp only [Option.some.injEq, Prod.mk.injEq] at he
        obtain ⟨rfl, rfl, rfl, rfl⟩ := he
        obtain ⟨st, q⟩ := atr_trace l (j + 1) _ _ _ h3
        refine ⟨fun i => match i with | 0 => (t, h, pd) | i + 1 => st i, by simp [q.len], rfl, q.last, fun i p hp => ?_⟩
        cases i with
        | zero =>
          simp only [List.getElem?_cons_zero, Option.some.injEq] at hp
          subst hp
          refine ⟨e, rfl, ?_, ?_, ?_⟩
          · show aent hk P rec ops bef base o (j + 0) t h pd = some (e, (st 0).2.2)
            rw [q.first]; exact h1
          · show (st 0).1 = _; rw [q.first]
          · show (st 0).2.1 = _; rw [q.first]
        | succ i =>
          obtain ⟨e2, a1, a2, a3, a4⟩ := q.step i p (by simpa using hp)
          exact ⟨e2, by simpa using a1, by rw [show j + (i + 1) = j + 1 + i by omega]; exact a2, a3, a4⟩
      · simp at he
    · simp at he
/-- The three makes of an operation. -/
inductive Make (hk : Hook) (P : Program) (rec : Rec) (ops : Array Oper) (bef : Array Nat) (base : Nat) (o : Oper) (j : Nat) (t : T) (h : H) (pd : List (Nat × AObj)) : Ent → List (Nat × AObj) → Prop
  | no : wantedT ops t o = false → Make hk P rec ops bef base o j t h pd ⟨o, t, h, h, undef, false, false, none⟩ pd
  | flt (v : Value) (h' : H) : wantedT ops t o = true → aop P t.eval o ⟨.leaf, base + j, base + j + 1⟩ = some (.value v, h') →
      Make hk P rec ops bef base o j t h pd ⟨o, t, h, h, v, false, false, h'.get (base + j)⟩ (match h'.get (base + j) with | some ob => (j, ob) :: pd | none => pd)
  | ld (v : Value) (ty : TypeId) (x : Operand) : wantedT ops t o = true → o.op = .load ty x → loadAt P t.eval o h = some v → Make hk P rec ops bef base o j t h pd ⟨o, t, h, h, v, false, true, none⟩ pd
  | ch (nx : Next) (h2 : H) (v : Value) (h3 : H) : wantedT ops t o = true → aop P t.eval o (adopt base (bef.getD j 0) pd h) = some (nx, h2) → aNext hk P rec h2 nx = some (v, h3) →
      Make hk P rec ops bef base o j t h pd ⟨o, t, h, h3, v, true, false, none⟩ (pd.filter fun (i, _) => !(bef.getD j 0).testBit i)
theorem aent_make {hk : Hook} {rec : Rec} {ops : Array Oper} {bef : Array Nat} {base : Nat} {o : Oper} {j : Nat} {t : T} {h : H} {pd : List (Nat × AObj)} {e : Ent} {pd' : List (Nat × AObj)} (he : aent hk P rec ops bef base o j t h pd = some (e, pd')) :
    o.op.operands.toList.all okOperand = true ∧ Make hk P rec ops bef base o j t h pd e pd' := by
  unfold aent at he
  split at he
  · rename_i hok
    refine ⟨hok, ?_⟩
    split at he
    · rename_i hw
      split at he
      · rename_i v h' hop
        simp only [Option.some.injEq, Prod.mk.injEq] at he
        obtain ⟨rfl, rfl⟩ := he
        exact .flt v h' hw hop
      · split at he
        · rename_i ty x hop
          split at he
          · rename_i v hv
            simp only [Option.some.injEq, Prod.mk.injEq] at he
            obtain ⟨rfl, rfl⟩ := he
            exact .ld v ty x hw hop hv
          · simp at he
        · split at he
          · rename_i nx h2 hop
            split at he
            · rename_i v h3 hn
              simp only [Option.some.injEq, Prod.mk.injEq] at he
              obtain ⟨rfl, rfl⟩ := he
              exact .ch nx h2 v h3 hw hop hn
            · simp at he
          · simp at he
    · rename_i hw
      simp only [Option.some.injEq, Prod.mk.injEq] at he
      obtain ⟨rfl, rfl⟩ := he
      exact .no (by simpa using hw)
  · simp at he
end Go.Proofs.YtlbipokkdiiaiaaGreatDoor.Exec
/- Regions that draw: states, temporaries, what is pending. -/
namespace Go.Proofs.YtlbipokkdiiaiaaGreatDoor.Exec
variable {P : Program}
theorem bump_spec : ∀ (n : Nat) (h : H), h.lim + 2 ≤ 2 ^ D → h.next + n ≤ h.lim → (bump n h).next = h.next + n ∧ (bump n h).lim = h.lim ∧ ∀ k, (bump n h).get k = h.get k
  | 0, h, _, _ => ⟨rfl, rfl, fun _ => rfl⟩
  | n + 1, h, h1, h2 => by
    obtain ⟨q1, q2, q3⟩ := bump_spec n { t := Tr.set D h.t h.next none, next := h.next + 1, lim := h.lim } h1 (by simp only; omega)
    refine ⟨by rw [bump, q1]; simp only; omega, q2, fun k => ?_⟩
    rw [bump, q3]
    unfold H.get
    simp only
    rw [Tr.get_set D h.t h.next k none (by omega)]
    by_cases hk : k = h.next
    · subst hk; simp
    · rw [if_neg hk]
      by_cases h3 : k < h.next
      · rw [if_pos h3, if_pos (by omega)]
      · rw [if_neg h3, if_neg (by omega)]
theorem Tput_get {t : T} (hr : t.n + 2 ≤ 2 ^ D) (d : Tmp) (v : Value) (x : Nat) (hd : @LT.lt Nat _ d t.n) : (t.put (some d) v).get x = if x = d then v else t.get x := by
  unfold T.put
  have hd' : d < t.n := hd
  simp only [hd', if_true]
  simp only [T.get]
  rw [Tr.get_set D t.t d x (some v) (by omega)]
  by_cases hx : x = d
  · simp [hx]
  · simp [hx]
theorem Tput_n (t : T) (d : Option Tmp) (v : Value) : (t.put d v).n = t.n ∧ (t.put d v).round = t.round ∧ (t.put d v).marks = t.marks := by
  cases d with
  | none => exact ⟨rfl, rfl, rfl⟩
  | some d => unfold T.put; simp only; split <;> exact ⟨rfl, rfl, rfl⟩
/-- All that is known of a region's run. -/
structure Rg (hk : Hook) (P : Program) (rec : Rec) (ops : Array Oper) (bef : Array Nat) (base : Nat) (t : T) (h0 : H) (es : List Ent) (t' : T) (h' : H) (p' : List (Nat × AObj)) (st : Nat → T × H × List (Nat × AObj)) : Prop where
  tr : Trace hk P rec ops bef base ops.toList 0 t h0 [] es t' h' p' st
  ok : OkR ops t.n bef
  chk : chkE P bef es = true
  room : t.n + 2 ≤ 2 ^ D
section
variable {hk : Hook} {rec : Rec} {ops : Array Oper} {bef : Array Nat} {base : Nat} {t : T} {h0 : H} {es : List Ent} {t' : T} {h' : H} {p' : List (Nat × AObj)} {st : Nat → T × H × List (Nat × AObj)}
theorem Rg.make (R : Rg hk P rec ops bef base t h0 es t' h' p' st) {i : Nat} {o : Oper} (ho : ops[i]? = some o) : ∃ e, es[i]? = some e ∧ o.op.operands.toList.all okOperand = true ∧ Make hk P rec ops bef base o i (st i).1 (st i).2.1 (st i).2.2 e (st (i + 1)).2.2 ∧
    (st (i + 1)).1 = (st i).1.put o.dst e.v ∧ (st (i + 1)).2.1 = e.g := by
  obtain ⟨e, h1, h2, h3, h4⟩ := R.tr.step i o (by simpa using ho)
  rw [Nat.zero_add] at h2
  obtain ⟨q1, q2⟩ := aent_make h2
  exact ⟨e, h1, q1, q2, h3, h4⟩
theorem Rg.get (_R : Rg hk P rec ops bef base t h0 es t' h' p' st) {i : Nat} (hi : i < ops.size) : ∃ o, ops[i]? = some o := ⟨ops[i], Array.getElem?_eq_getElem hi⟩
theorem Rg.lt (R : Rg hk P rec ops bef base t h0 es t' h' p' st) {i : Nat} {e : Ent} (he : es[i]? = some e) : i < ops.size := by
  have := (List.getElem?_eq_some_iff.1 he).1
  have h2 := R.tr.len
  simp at h2; omega
/-- It acts. -/
def Chain (es : List Ent) (k : Nat) : Prop := ∃ e, es[k]? = some e ∧ e.ch = true
theorem Make.same {o : Oper} {i : Nat} {tt : T} {hh : H} {pd pd' : List (Nat × AObj)} {e : Ent} (hm : Make hk P rec ops bef base o i tt hh pd e pd') : e.o = o ∧ e.t = tt ∧ e.h = hh ∧ (e.ch = false → e.g = hh) := by
  cases hm <;> simp
theorem Rg.const (R : Rg hk P rec ops bef base t h0 es t' h' p' st) : ∀ (b a : Nat), a ≤ b → b ≤ ops.size → (∀ k, a ≤ k → k < b → ¬ Chain es k) → (st a).2.1 = (st b).2.1 := by
  intro b
  induction b with
  | zero => intro a h1 _ _; rw [Nat.le_zero.1 h1]
  | succ b ih =>
    intro a h1 h2 h3
    rcases Nat.lt_or_ge a (b + 1) with hab | hab
    · rw [ih a (by omega) (by omega) (fun k k1 k2 => h3 k k1 (by omega))]
      obtain ⟨o, ho⟩ := R.get (i := b) (by omega)
      obtain ⟨e, q1, _, q3, _, q5⟩ := R.make ho
      have hch : e.ch = false := by
        cases hce : e.ch with
        | false => rfl
        | true => exact absurd ⟨e, q1, hce⟩ (h3 b (by omega) (by omega))
      rw [q5, q3.same.2.2.2 hch]
    · have : a = b + 1 := by omega
      rw [this]
theorem Rg.tn (R : Rg hk P rec ops bef base t h0 es t' h' p' st) : ∀ (j : Nat), j ≤ ops.size → (st j).1.n = t.n ∧ (st j).1.round = t.round ∧ (st j).1.marks = t.marks := by
  intro j
  induction j with
  | zero => intro _; rw [R.tr.first]; exact ⟨rfl, rfl, rfl⟩
  | succ j ih =>
    intro hj
    obtain ⟨o, ho⟩ := R.get (i := j) (by omega)
    obtain ⟨e, _, _, _, q4, _⟩ := R.make ho
    rw [q4]
    obtain ⟨a, b, c⟩ := Tput_n (st j).1 o.dst e.v
    obtain ⟨a2, b2, c2⟩ := ih (by omega)
    exact ⟨a.trans a2, b.trans b2, c.trans c2⟩
theorem Rg.tin (R : Rg hk P rec ops bef base t h0 es t' h' p' st) {i : Nat} {o : Oper} {e : Ent} {d : Tmp} (ho : ops[i]? = some o) (he : es[i]? = some e) (hd : o.dst = some d) : ∀ (j : Nat), i < j → j ≤ ops.size → (st j).1.get d = e.v := by
  intro j
  induction j with
  | zero => intro h; omega
  | succ j ih =>
    intro h1 h2
    obtain ⟨p, hp⟩ := R.get (i := j) (by omega)
    obtain ⟨f, q1, _, _, q4, _⟩ := R.make hp
    have hn := (R.tn j (by omega)).1
    rw [q4]
    by_cases hij : i = j
    · subst hij
      rw [ho] at hp; cases hp
      rw [he] at q1; cases q1
      rw [hd, Tput_get (by rw [hn]; exact R.room) d e.v d (by rw [hn]; exact R.ok.dst i o d ho hd), if_pos rfl]
    · rw [← ih (by omega) (by omega)]
      cases hpd : p.dst with
      | none => rfl
      | some d2 =>
        have hne : d ≠ d2 := by
          rintro rfl
          exact hij (R.ok.one i j o p d ho hp hd hpd)
        rw [Tput_get (by rw [hn]; exact R.room) d2 f.v d (by rw [hn]; exact R.ok.dst j p d2 hp hpd), if_neg hne]
theorem Rg.tout (R : Rg hk P rec ops bef base t h0 es t' h' p' st) {d : Tmp} : ∀ (j : Nat), j ≤ ops.size → (∀ i o, i < j → ops[i]? = some o → o.dst ≠ some d) → (st j).1.get d = t.get d := by
  intro j
  induction j with
  | zero => intro _ _; rw [R.tr.first]
  | succ j ih =>
    intro h2 h3
    obtain ⟨p, hp⟩ := R.get (i := j) (by omega)
    obtain ⟨f, q1, _, _, q4, _⟩ := R.make hp
    have hn := (R.tn j (by omega)).1
    rw [q4, ← ih (by omega) (fun i o hi ho => h3 i o (by omega) ho)]
    cases hpd : p.dst with
    | none => rfl
    | some d2 =>
      have hne : d ≠ d2 := by
        rintro rfl
        exact h3 j p (by omega) hp hpd
      rw [Tput_get (by rw [hn]; exact R.room) d2 f.v d (by rw [hn]; exact R.ok.dst j p d2 hp hpd), if_neg hne]
/-- What is pending. -/
theorem Rg.pd (R : Rg hk P rec ops bef base t h0 es t' h' p' st) : ∀ (j : Nat), j ≤ ops.size → ∀ i ob, (i, ob) ∈ (st j).2.2 → i < j ∧ (∃ e, es[i]? = some e ∧ e.ob = some ob) ∧ ∀ k, k < j → Chain es k → (bef.getD k 0).testBit i = false := by
  intro j
  induction j with
  | zero => intro _ i ob hm; rw [R.tr.first] at hm; cases hm
  | succ j ih =>
    intro hj i ob hm
    obtain ⟨p, hp⟩ := R.get (i := j) (by omega)
    obtain ⟨f, q1, _, q3, _, _⟩ := R.make hp
    have old : f.ch = false → (i, ob) ∈ (st j).2.2 → i < j + 1 ∧ (∃ e, es[i]? = some e ∧ e.ob = some ob) ∧ ∀ k, k < j + 1 → Chain es k → (bef.getD k 0).testBit i = false := by
      intro hch hmem
      obtain ⟨z1, z2, z3⟩ := ih (by omega) i ob hmem
      refine ⟨by omega, z2, fun k hk hc => ?_⟩
      by_cases hkj : k = j
      · subst hkj
        obtain ⟨e2, c1, c2⟩ := hc
        rw [q1] at c1; cases c1
        rw [hch] at c2; simp at c2
      · exact z3 k (by omega) hc
    generalize hpd : (st (j + 1)).2.2 = pd' at *
    cases q3 with
    | no _ => exact old rfl hm
    | ld _ _ _ _ _ _ => exact old rfl hm
    | flt v h2 hw hop =>
      cases hg : h2.get (base + j) with
      | none => rw [hg] at hm; exact old rfl hm
      | some ob2 =>
        rw [hg] at hm
        rcases List.mem_cons.1 hm with heq | hmem
        · simp only [Prod.mk.injEq] at heq
          obtain ⟨rfl, rfl⟩ := heq
          refine ⟨by omega, ⟨_, q1, hg⟩, fun k hk hc => ?_⟩
          cases hb : (bef.getD k 0).testBit i with
          | false => rfl
          | true =>
            obtain ⟨o2, ho2⟩ := R.get (i := k) (by omega)
            have := R.ok.lt k ho2 hb
            omega
        · exact old rfl hmem
    | ch nx h2 v h3 hw hop hn =>
      rw [List.mem_filter] at hm
      obtain ⟨hmem, hbit⟩ := hm
      obtain ⟨z1, z2, z3⟩ := ih (by omega) i ob hmem
      refine ⟨by omega, z2, fun k hk hc => ?_⟩
      by_cases hkj : k = j
      · subst hkj; simpa using hbit
      · exact z3 k (by omega) hc
end
end Go.Proofs.YtlbipokkdiiaiaaGreatDoor.Exec
