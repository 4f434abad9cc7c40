/- Lemmas for TopWire: ExecOpsG, ExecOpsH, ExecOpAll, ExecOpAll2. -/
import Derived.Test.YtlbipokkdiiaiaaGreatDoorT05
/- Operations of their own, 11: append, put together. -/
namespace Go.Proofs.YtlbipokkdiiaiaaGreatDoor.Exec
variable {P : Program} {m : Bij} {h : H} {W : World}
theorem grown_ge (W : World) {need old : Nat} (e : TypeId) (hn : need < 2 ^ 63) : need ≤ grownCap W need old e ∧ grownCap W need old e < 2 ^ 63 := by
  show need ≤ need + W.tape W.drawn (.appendCap need old e) % (2 ^ 63 - need) ∧ need + W.tape W.drawn (.appendCap need old e) % (2 ^ 63 - need) < 2 ^ 63
  have := Nat.mod_lt (W.tape W.drawn (.appendCap need old e)) (show 0 < 2 ^ 63 - need by omega)
  omega
theorem elem_spec {t e : TypeId} {i : TypeInfo} (h : elemInfo P t = some (e, i)) : P.underlying t = some (.slice e) ∧ P.info? e = some i := by
  unfold elemInfo at h
  split at h
  · rename_i e2 hd
    cases hi : P.info? e2 with
    | none => rw [hi] at h; simp at h
    | some j => rw [hi] at h; simp only [Option.map_some, Option.some.injEq, Prod.mk.injEq] at h; obtain ⟨rfl, rfl⟩ := h; exact ⟨hd, hi⟩
  · simp at h
/-- A new row. -/
theorem op_grow {m0 : Bij} {h0 : H} (hw0 : WRel m0 h0 W) (hs0 : Snd m0 h0 W m h W) {sT xT e ty : TypeId} {ei : TypeInfo} {z : Value} (hd : P.underlying sT = some (.slice e)) (hi : P.info? e = some ei) (hz : ei.zero = some z) (hzs : z.cells.size = ei.size)
    {sLen n c : Nat} (hf : fits ei (sLen + n) = true) (hc : c < sLen + n) {base' : Option Addr} {x' : Value} {new new' old old' : List Value} (hnew : LRel m new new') (hsrc : Src P ei.size xT x' n new' W)
    (hold : LRel m old old') (hol : old.length = sLen * ei.size) (hor : (Builtin.firstCells ei.size sLen (.slice base' sLen c)).run P W.drew = .ok old'.toArray W.drew) (hr : h.next < h.lim) (fr : Nat × Nat) :
    ∃ m' v' W', (Builtin.append_ #[sT, xT] ty #[.slice base' sLen c, x']).run P W = .ok v' W' ∧ VRel m' (.slice (some ⟨h.next, 0, none⟩) (sLen + n) (BIG + ei.size)) v' ∧ Snd m0 h0 W m' (h.push ⟨.cells (old ++ new).toArray e fr, true⟩) W' := by
  obtain ⟨f1, f2, f3, f4⟩ := fits_spec hf
  have hg := grown_ge W (old := c) e (show sLen + n < 2 ^ 63 by omega)
  have hrun := run_append_grow_src W sT xT ty e ei z hd hi hz base' sLen c old' hor x' n new' hsrc hc (by omega) (f4 c hc)
  have hw : WRel m h W := hs0.rel
  obtain ⟨cap, hcap⟩ : ∃ cap, cap = grownCap W (sLen + n) c e := ⟨_, rfl⟩
  rw [← hcap] at hg hrun
  have hnl := hsrc.newsLen
  have holl := hold.length
  have hzc : (Builtin.zeroCells z.cells (cap - (sLen + n))).size = (cap - (sLen + n)) * ei.size := by simp [Builtin.zeroCells, hzs]
  have hmul : sLen * ei.size + n * ei.size + (cap - (sLen + n)) * ei.size = cap * ei.size := by rw [← Nat.add_mul, ← Nat.add_mul]; congr 1; omega
  have hsize : ((old' ++ new').toArray ++ Builtin.zeroCells z.cells (cap - (sLen + n))).size = cap * ei.size := by
    rw [Array.size_append, hzc]; simp; omega
  have hbig : cap * ei.size < BIG := by
    have : cap * ei.size ≤ cap * 64 := Nat.mul_le_mul_left _ f2
    unfold BIG; omega
  obtain ⟨m', p1, p2, p3⟩ := Snd.push hw hr (cap * ei.size) (o := ⟨.cells (old ++ new).toArray e fr, true⟩) (o' := .cells ((old' ++ new').toArray ++ Builtin.zeroCells z.cells (cap - (sLen + n))) e (0, 0)) (fun m' hm hgr => by
    refine .grow e ⟨fun _ => rfl, fun h => absurd rfl h⟩ ((hold.head hnew _).mono hm) (by rw [hsize, hgr]) (by rw [hsize]; exact hbig))
  have p4 : Snd m0 h0 W m' (h.push ⟨.cells (old ++ new).toArray e fr, true⟩) { W with heap := W.heap.push (.cells ((old' ++ new').toArray ++ Builtin.zeroCells z.cells (cap - (sLen + n))) e (0, 0)) } := hs0.trans hw0 p3
  exact ⟨m', _, _, hrun, .sliceU (sLen + n) cap ei.size p1 hg.1 f1 (by rw [p2]; omega), p4.of_heap rfl rfl ⟨rfl, rfl, rfl⟩⟩
theorem op_append (ts : Array TypeId) (ty : TypeId) {a a' : Array Value} (ha : RowRel m a a') (hw : WRel m h W) {v : Value} {h' : H} (he : aAppend P ts a h = some (v, h')) :
    ∃ m' v' W', (Builtin.append_ ts ty a').run P W = .ok v' W' ∧ VRel m' v v' ∧ Snd m h W m' h' W' := by
  have hshape : ∃ sT xT base sLen sCap x, ts.toList = [sT, xT] ∧ a.toList = [.slice base sLen sCap, x] := by
    unfold aAppend at he
    generalize ts.toList = l1 at he
    generalize a.toList = l2 at he
    match l1, l2, he with
    | [sT, xT], [.slice base sLen sCap, x], _ => exact ⟨sT, xT, base, sLen, sCap, x, rfl, rfl⟩
  obtain ⟨sT, xT, base, sLen, sCap, x, hts, hargs⟩ := hshape
  unfold aAppend at he
  rw [hts, hargs] at he
  dsimp only at he
  · have hts' : ts = #[sT, xT] := by rw [← Array.toArray_toList (xs := ts), hts]
    subst hts'
    obtain ⟨l', rfl, hl'⟩ := row_of_list ha hargs
    cases hl' with
    | @cons _ s' _ _ hs q2 => cases q2 with
      | @cons _ x' _ _ hx q4 => cases q4 with
        | nil =>
    split at he
    · rename_i elem ei hel
      obtain ⟨hd, hi⟩ := elem_spec hel
      split at he
      · rename_i z n new hz hsrc
        obtain ⟨new', hnew, hsrc'⟩ := src_true hx hw hsrc
        have hnl := hsrc'.newsLen
        have hnn := hnew.length
        split at he
        · simp at he
        · rename_i hc
          simp only [Bool.or_eq_true, not_or, Bool.not_eq_true', Bool.not_eq_false, beq_iff_eq] at hc
          have hzs : z.cells.size = ei.size := by simpa using hc.1
          have hf : fits ei (sLen + n) = true := by simpa using hc.2
          obtain ⟨f1, f2, f3, f4⟩ := fits_spec hf
          split at he
          · rename_i hbig
            cases hs with
            | sliceU l c e hb h1 h2 h3 => exact absurd hbig (by omega)
            | slice _ _ _ hbase =>
            split at he
            · rename_i hroom
              split at he
              · simp at he
              · rename_i ad
                cases hbase with
                | @some _ ad' had =>
                split at he
                · simp at he
                · rename_i hsp
                  have hsp : ad.spot = none := by simpa using hsp
                  cases had with
                  | @mk b b' o sp hb =>
                  simp only at hsp
                  subst hsp
                  split at he
                  · rename_i hemp
                    simp only [Option.some.injEq, Prod.mk.injEq] at he
                    obtain ⟨rfl, rfl⟩ := he
                    have hne : new = [] := by simpa using hemp
                    subst hne
                    have hne : new' = [] := by cases hnew; rfl
                    subst hne
                    have hrun := run_append_room_src W sT xT ty elem ei hd hi b' o sLen sCap x' n [] hsrc' hroom (by simp) (by simp)
                    exact ⟨m, _, _, hrun, .slice _ _ hbig (.some (.mk hb)), Snd.refl hw⟩
                  · split at he
                    · rename_i c t fr g hop
                      simp only [Option.some.injEq, Prod.mk.injEq] at he
                      obtain ⟨rfl, rfl⟩ := he
                      rw [add_off] at hop
                      obtain ⟨k1, k2, k3, k4⟩ := H.open_spec hop
                      simp only at k1 k2 k3 k4
                      obtain ⟨o', q1, q2⟩ := hw.at_ hb k1
                      obtain ⟨c', fr', rfl, q3, q4, q5, q6⟩ := q2.row
                      have hrun := run_append_room_src W sT xT ty elem ei hd hi b' o sLen sCap x' n new' hsrc' hroom
                        (fun j hj => by
                          have hjl : o + sLen * ei.size + j < c'.size := by have := q3.size; omega
                          simp [World.cell?, q1, hjl])
                        (fun j hj => by
                          have hjl : o + sLen * ei.size + j < c'.size := by have := q3.size; omega
                          have := q4.clear hjl (by omega)
                          simp only [World.frozen?, q1]; simpa using this)
                      rw [setCells_eq b' t fr' new' _ W c' q1] at hrun
                      have hp := Snd.put hw k1 hb (NRel.of_row (n := b) (t := t) (fr := fr) (fr' := fr') (g := g) (HeadRel.puts hnew (o + sLen * ei.size) q3) (by rw [putCells_size]; exact q4) (fun e => by rw [putCells_size, putCells_size]; exact q5 e) (fun e => by rw [putCells_size]; exact q6 e))
                      exact ⟨m, _, _, hrun, .slice _ _ hbig (.some (.mk hb)), hp⟩
                    · simp at he
            · rename_i hroom
              split at he
              · rename_i old hold
                split at he
                · rename_i hr
                  simp only [Option.some.injEq, Prod.mk.injEq] at he
                  obtain ⟨rfl, rfl⟩ := he
                  obtain ⟨old', o1, o2, o3⟩ := old_true hbase hw hold sCap
                  exact op_grow hw (Snd.refl hw) hd hi hz hzs hf (by omega) hnew hsrc' o1 o2 o3 hr (0, 0)
                · simp at he
              · simp at he
          · rename_i hbig
            cases hs with
            | slice _ _ hlt _ => exact absurd hlt hbig
            | @sliceU b b' o _ c e hb h1 h2 h3 =>
            split at he
            · rename_i b0 heq
              simp only [Option.some.injEq, Addr.mk.injEq] at heq
              obtain ⟨rfl, rfl, _⟩ := heq
              split at he
              · simp at he
              · rename_i hce
                have hce : e = ei.size := by
                  have : BIG + e = BIG + ei.size := by simpa using hce
                  omega
                subst hce
                split at he
                · rename_i hemp
                  split at he
                  · rename_i hn0
                    subst hn0
                    simp only [Option.some.injEq, Prod.mk.injEq] at he
                    obtain ⟨rfl, rfl⟩ := he
                    have hne : new = [] := by simpa using hemp
                    subst hne
                    have hne : new' = [] := by cases hnew; rfl
                    subst hne
                    have hrun := run_append_room_src W sT xT ty elem ei hd hi b' 0 sLen c x' 0 [] hsrc' (by omega) (by simp) (by simp)
                    exact ⟨m, _, _, hrun, .sliceU _ _ _ hb (by omega) h2 h3, Snd.refl hw⟩
                  · simp at he
                · split at he
                  · rename_i row t fr hg
                    split at he
                    · rename_i hcc
                      simp only [Bool.and_eq_true, Bool.or_eq_true, decide_eq_true_eq, beq_iff_eq] at hcc
                      obtain ⟨⟨⟨g1, rfl⟩, g3⟩, g4⟩ := hcc
                      simp only [Option.some.injEq, Prod.mk.injEq] at he
                      obtain ⟨rfl, rfl⟩ := he
                      obtain ⟨o', q1, q2⟩ := hw.at_ hb hg
                      obtain ⟨c', fr', rfl, q3, q4, q5, q6⟩ := q2.row
                      obtain ⟨q6, q7⟩ := q6 rfl
                      by_cases hroom : sLen + n ≤ c
                      · have hmul : sLen * ei.size + n * ei.size ≤ c * ei.size := by rw [← Nat.add_mul]; exact Nat.mul_le_mul_right _ hroom
                        have hrun := run_append_room_src W sT xT ty t ei hd hi b' 0 sLen c x' n new' hsrc' hroom
                          (fun j hj => by
                            have hjl : 0 + sLen * ei.size + j < c'.size := by omega
                            simp [World.cell?, q1]; omega)
                          (fun j hj => by
                            have hjl : 0 + sLen * ei.size + j < c'.size := by omega
                            have hcl : ¬ (fr'.1 ≤ 0 + sLen * ei.size + j ∧ 0 + sLen * ei.size + j < fr'.2) := by
                              rintro ⟨z1, z2⟩
                              have hne : fr'.1 ≠ fr'.2 := by omega
                              obtain ⟨z3, z4⟩ := q4.2 hne
                              rcases g3 with (g3 | g3) | g3
                              · exact hne (q4.1 g3)
                              · omega
                              · omega
                            simp only [World.frozen?, q1]; simpa using hcl)
                        rw [setCells_eq b' t fr' new' _ W c' q1] at hrun
                        obtain ⟨m', p1, p2, p3⟩ := Snd.regrow hw hg hb g4 c'.size (o := ⟨.cells (row.toList.take (sLen * ei.size) ++ new).toArray t fr, true⟩) (o' := .cells (putCells c' (0 + sLen * ei.size) new') t fr') (fun m' hm hgr => by
                          refine .grow t (by rw [putCells_size]; exact q4) ?_ (by rw [putCells_size, hgr]) (by rw [putCells_size]; exact q7)
                          rw [Nat.zero_add]
                          exact (q3.grown hnew (sLen * ei.size) g1 (by omega)).mono hm)
                        exact ⟨m', _, _, hrun, .sliceU _ _ _ p1 hroom h2 (by rw [p2]; omega), p3⟩
                      · have hlt := H.get_lt hg
                        have hk := Snd.kill hw hlt
                        have hhead : LRel m (row.toList.take (sLen * ei.size)) (c'.toList.take (sLen * ei.size)) := by
                          refine .of_get (by simp; have := q3.size; omega) fun i u u' e1 e2 => ?_
                          have hi1 : i < sLen * ei.size := by
                            have := (List.getElem?_eq_some_iff.1 e1).1
                            simp at this; omega
                          rw [List.getElem?_take_of_lt hi1, Array.getElem?_toList] at e1 e2
                          have a1 : i < row.size := by omega
                          have a2 : i < c'.size := by have := q3.size; omega
                          rw [Array.getElem?_eq_getElem a1, Option.some.injEq] at e1
                          rw [Array.getElem?_eq_getElem a2, Option.some.injEq] at e2
                          rw [← e1, ← e2]; exact q3.at_ i a1 a2
                        have hor : (Builtin.firstCells ei.size sLen (.slice (some ⟨b', 0, none⟩) sLen c)).run P W.drew = .ok (c'.toList.take (sLen * ei.size)).toArray W.drew := by
                          refine run_firstCells_some W.drew ei.size sLen _ sLen c _ (by simp; have := q3.size; omega) (fun j u hu => ?_)
                          have hj1 : j < sLen * ei.size := by
                            have := (List.getElem?_eq_some_iff.1 hu).1
                            simp at this; omega
                          rw [List.getElem?_take_of_lt hj1, Array.getElem?_toList] at hu
                          rw [add_off, Nat.zero_add]
                          show W.cell? _ = _
                          simp only [World.cell?, q1]
                          simpa using hu
                        exact op_grow hw hk hd hi hz hzs hf (by omega) hnew hsrc' hhead (by simp; omega) hor g4 fr
                    · simp at he
                  · simp at he
            · simp at he
      · simp at he
    · simp at he
end Go.Proofs.YtlbipokkdiiaiaaGreatDoor.Exec
/- Calls. -/
namespace Go.Proofs.YtlbipokkdiiaiaaGreatDoor.Exec
variable {P : Program} {m : Bij} {h : H} {W : World}
structure Good (P : Program) : Prop where
  zeros : Zeros P
  names : ∀ (f : FuncId) (fn : Func), P.funcs[f]? = some fn → (fn.name == "runtime.NumGoroutine") = false
theorem run_enter (g : Good P) {f : FuncId} {fn : Func} (hf : P.funcs[f]? = some fn) {c : Code} (hb : fn.body = some c) (args : Array Value) : (callFunc f args).run P W = .ok (.enter f args) W := by
  have := g.names f fn hf
  have h1 : fn.name ≠ "runtime.NumGoroutine" := by simpa using this
  simp [callFunc, hf, h1, hb]
theorem rel_params {t t' a a' : Array Value} (ht : RowRel m t t') (ha : RowRel m a a') (ps : Array Tmp) :
    RowRel m ((ps.zip a).foldl (fun tmps (t, a) => tmps.setIfInBounds t a) t) ((ps.zip a').foldl (fun tmps (t, a) => tmps.setIfInBounds t a) t') := by
  rw [← Array.foldl_toList, ← Array.foldl_toList, Array.toList_zip, Array.toList_zip]
  have hl := ha.toList
  generalize a.toList = l at hl
  generalize a'.toList = l' at hl
  generalize ps.toList = p
  induction hl generalizing p t t' with
  | nil => simpa using ht
  | cons hv _ ih => cases p with
    | nil => simpa using ht
    | cons q p => simp only [List.zip_cons_cons, List.foldl_cons]; exact ih (ht.set hv q) p
theorem op_call (g : Good P) {gv gv' : Value} (hg : VRel m gv gv') {a a' : Array Value} (ha : RowRel m a a') (hw : WRel m h W) {nx : Next} {h' : H} (he : aCall P gv a h = some (nx, h')) :
    ∃ m' nx' W', (do let d ← Deferred.ofValue gv' a'; invoke d.target d.args : Sem Next).run P W = .ok nx' W' ∧ NxRel m' nx nx' ∧ Snd m h W m' h' W' := by
  unfold aCall at he
  split at he
  · rename_i f first captured
    cases hg with
    | @func _ f' _ first' _ cap' hf s1 e1 s2 e2 =>
      cases hf
      have hargs : RowRel m ((first ++ a) ++ captured) ((first' ++ a') ++ cap') := ((RowRel.append ⟨s1, e1⟩ ha).append ⟨s2, e2⟩)
      have hrun : (do let d ← Deferred.ofValue (.func (.func f) first' cap') a'; invoke d.target d.args : Sem Next).run P W = (callFunc f ((first' ++ a') ++ cap')).run P W := rfl
      rw [hrun]
      split at he
      · rename_i fn hfn
        split at he
        · rename_i c hb
          simp only [Option.some.injEq, Prod.mk.injEq] at he
          obtain ⟨rfl, rfl⟩ := he
          exact ⟨m, _, W, run_enter g hfn hb _, .enter f hargs, Snd.refl hw⟩
        · rename_i hb
          cases hx : aExtern P fn ((first ++ a) ++ captured) h with
          | none => rw [hx] at he; simp at he
          | some r =>
            obtain ⟨v, h2⟩ := r
            rw [hx] at he
            simp only [Option.map_some, Option.some.injEq, Prod.mk.injEq] at he
            obtain ⟨rfl, rfl⟩ := he
            obtain ⟨m', v', W', r1, r2, r3⟩ := op_extern hfn hb hargs hw hx
            exact ⟨m', _, W', r1, .value r2, r3⟩
      · simp at he
  · rename_i l first captured
    cases hg with
    | @func _ f' _ first' _ cap' hf s1 e1 s2 e2 =>
      cases hf with
      | @yield _ l' hl =>
      have hargs : RowRel m (first ++ a) (first' ++ a') := RowRel.append ⟨s1, e1⟩ ha
      have hrun : (do let d ← Deferred.ofValue (.func (.yield l') first' cap') a'; invoke d.target d.args : Sem Next).run P W = (Instr.yield l' (first' ++ a')).run P W := rfl
      rw [hrun]
      split at he
      · rename_i r gr hgl
        obtain ⟨o', q1, q2⟩ := hw.objAt hl hgl (by simp)
        cases q2 with
        | @loop _ r' p1 p2 p3 p4 p5 p6 p7 =>
        split at he
        · rename_i hsz
          simp only [Option.some.injEq, Prod.mk.injEq] at he
          obtain ⟨rfl, rfl⟩ := he
          refine ⟨m, .round l' r'.fn ((r'.params.zip (first' ++ a')).foldl (fun tmps (t, a) => tmps.setIfInBounds t a) r'.tmps) r'.assign r'.body, W, ?_, ?_, Snd.refl hw⟩
          · unfold Instr.yield Instr.getLoop
            rw [sem_assoc, run_obj q1 (by simp)]
            have : (first' ++ a').size = r'.params.size := by rw [← hargs.size, hsz, p4]
            simp only [sem_pure, this, ne_eq, not_true_eq_false, if_false]
            rfl
          · rw [← p4, ← p5, ← p6]
            exact .round _ _ hl (rel_params p3 hargs _)
        · simp at he
      · simp at he
  · simp at he
theorem op_invoke (g : Good P) {r r' : Value} (hr : VRel m r r') (name : String) {a a' : Array Value} (ha : RowRel m a a') (hw : WRel m h W) {nx : Next} {h' : H} (he : aInvoke P r name a h = some (nx, h')) :
    ∃ m' nx' W', (invoke (.fn (.method name) #[]) (#[r'] ++ a')).run P W = .ok nx' W' ∧ NxRel m' nx nx' ∧ Snd m h W m' h' W' := by
  unfold aInvoke at he
  split at he
  · rename_i t v
    cases hr with
    | @iface _ _ v' hv =>
    split at he
    · rename_i i hi
      split at he
      · rename_i me hme
        split at he
        · rename_i f e hp hfn hd
          split at he
          · rename_i fn hf
            split at he
            · rename_i hb
              simp only [Option.some.injEq, Prod.mk.injEq] at he
              obtain ⟨rfl, rfl⟩ := he
              obtain ⟨c, hb⟩ := Option.isSome_iff_exists.1 hb
              refine ⟨m, .enter f (#[v'] ++ a'), W, ?_, .enter f ((RowRel.one hv).append ha), Snd.refl hw⟩
              have hpath : me.path = #[] := by simpa using hp
              have h0 : ((#[Value.iface t v'] ++ a' : Array Value)[0]? : Option Value) = some (.iface t v') := by rw [Array.getElem?_append_left (by simp)]; rfl
              have hen := run_enter (W := W) g hf hb (#[v'] ++ a')
              have hm : (method (P.types.size + Made.depth) t v' name).run P W = .ok (f, v') W := by
                have : P.types.size + Made.depth = (P.types.size + 99) + 1 := rfl
                rw [this]
                generalize P.types.size + 99 = N
                simp [method, typeInfo, hi, hme, hpath, follow, hfn, receiverAt, run_underlying hd, Place.get]
              simp [invoke, h0, callMethod, hm, hen]
            · simp at he
          · simp at he
        · simp at he
      · simp at he
    · simp at he
  · simp at he
end Go.Proofs.YtlbipokkdiiaiaaGreatDoor.Exec
/- One operation of the executor is true. -/
namespace Go.Proofs.YtlbipokkdiiaiaaGreatDoor.Exec
variable {P : Program} {m : Bij} {h : H} {W : World} {ρ ρ' : Operand → Value}
theorem run_v {s : Sem Value} {W W' : World} {v : Value} (hs : s.run P W = .ok v W') : (do pure (.value (← s)) : Sem Next).run P W = .ok (.value v) W' := by
  rw [Sem.run_bind, hs]; rfl
/-- What is shown of an operation. -/
def Tru (P : Program) (m : Bij) (h : H) (W : World) (ρ' : Operand → Value) (o : Oper) (nx : Next) (h' : H) : Prop :=
  ∃ m' nx' W', (execOp ρ' o).run P W = .ok nx' W' ∧ NxRel m' nx nx' ∧ Snd m h W m' h' W'
theorem tru_run {o : Oper} {nx : Next} {h' : H} (hs : SRel P NxRel m (execOp ρ o) (execOp ρ' o)) (he : ARun P (execOp ρ o) h = some (nx, h')) (hw : WRel m h W) : Tru P m h W ρ' o nx h' := ARun.sound hs he hw
theorem tru_v {o : Oper} {s : Sem Value} (hd : execOp ρ' o = (do pure (.value (← s)))) {r : Option (Value × H)} {nx : Next} {h' : H} (he : (r.map fun (x, h) => (Next.value x, h)) = some (nx, h'))
    (hs : ∀ v h', r = some (v, h') → ∃ m' v' W', s.run P W = .ok v' W' ∧ VRel m' v v' ∧ Snd m h W m' h' W') : Tru P m h W ρ' o nx h' := by
  cases r with
  | none => simp at he
  | some r =>
    obtain ⟨v, h2⟩ := r
    simp only [Option.map_some, Option.some.injEq, Prod.mk.injEq] at he
    obtain ⟨rfl, rfl⟩ := he
    obtain ⟨m', v', W', r1, r2, r3⟩ := hs v h2 rfl
    exact ⟨m', .value v', W', by rw [hd]; exact run_v r1, .value r2, r3⟩
theorem tru_h {o : Oper} {s : Sem Value} (hd : execOp ρ' o = (do pure (.value (← s)))) {r : Option Value} {nx : Next} {h' : H} (hw : WRel m h W) (he : ((r.map fun x => (x, h)).map fun (x, h) => (Next.value x, h)) = some (nx, h'))
    (hs : ∀ v, r = some v → ∃ v', s.run P W = .ok v' W ∧ VRel m v v') : Tru P m h W ρ' o nx h' :=
  tru_v hd he fun v h2 hr => by
    cases r with
    | none => simp at hr
    | some x =>
      simp only [Option.map_some, Option.some.injEq, Prod.mk.injEq] at hr
      obtain ⟨rfl, rfl⟩ := hr
      obtain ⟨v', r1, r2⟩ := hs x rfl
      exact ⟨m, v', W, r1, r2, Snd.refl hw⟩
theorem rel_v' {s s' : Sem Value} (h : SRel P VRel m s s') : SRel P NxRel m (do pure (.value (← s))) (do pure (.value (← s'))) := rel_v h
theorem opt_map {x : Option Operand} (hx : ∀ y ∈ x.toArray, VRel m (ρ y) (ρ' y)) : OptRel (VRel m) (x.map ρ) (x.map ρ') := by
  cases x with
  | none => exact .none
  | some y => exact .some (hx y (by simp))
theorem parts_map (l : Array (Nat × Operand)) (hl : ∀ y ∈ (l.toList.map (·.2)).toArray, VRel m (ρ y) (ρ' y)) : PRel m (l.map fun (i, x) => (i, ρ x)).toList (l.map fun (i, x) => (i, ρ' x)).toList := by
  rw [Array.toList_map, Array.toList_map]
  exact PRel.map l.toList fun a ha => hl a.2 (by simp only [List.mem_toArray, List.mem_map]; exact ⟨a, ha, rfl⟩)
theorem tru_bin {b : BinOp} {t : TypeId} {x y : Operand} {yt : TypeId} {dst : Option Tmp} {ty : TypeId} {pos : String} {aft : Array Edge} {gd : Option (Nat × Bool)} (hx : VRel m (ρ x) (ρ' x)) (hy : VRel m (ρ y) (ρ' y)) (hw : WRel m h W) {nx : Next} {h' : H}
    (he : aop P ρ ⟨dst, .binOp b t x y yt, ty, pos, aft, gd⟩ h = some (nx, h')) : Tru P m h W ρ' ⟨dst, .binOp b t x y yt, ty, pos, aft, gd⟩ nx h' := by
  have hd : (execOp ρ' ⟨dst, .binOp b t x y yt, ty, pos, aft, gd⟩) = (do pure (.value (← (do eqGuard b t x y (ρ' x) (ρ' y); binOp b t (ρ' x) (ρ' y))))) := rfl
  have gen : (pair (ρ x) (ρ y) && ptrs P t (ρ x) (ρ y) && plainOp b (ρ x) (ρ y)) = true → ARun P (execOp ρ ⟨dst, .binOp b t x y yt, ty, pos, aft, gd⟩) h = some (nx, h') → Tru P m h W ρ' ⟨dst, .binOp b t x y yt, ty, pos, aft, gd⟩ nx h' := by
    intro hc hr
    simp only [Bool.and_eq_true] at hc
    refine tru_run ?_ hr hw
    exact rel_v ((eqGuard_rel b t x y hx hy hc.1.1).bind fun m1 _ _ h1 _ => rel_binOp b t (hx.mono h1) (hy.mono h1) hc.1.1 hc.1.2 hc.2)
  have aggs : ∀ c d (f : Bool → Bool), ρ x = .agg c → ρ y = .agg d → (b = .eql ∨ b = .neq) → (∀ c d, binOp b t (.agg c) (.agg d) = (do pure (.bool (f (← Op.equal t (.agg c) (.agg d)))))) →
      (if P.eqGuardType P.depth t then none else (((aEqual P 4 t (.agg c) (.agg d)).map fun r => (Value.bool (f r), h)).map fun (x, h) => (Next.value x, h))) = some (nx, h') → Tru P m h W ρ' ⟨dst, .binOp b t x y yt, ty, pos, aft, gd⟩ nx h' := by
    intro c d f e1 e2 hb hbin hr
    split at hr
    · simp at hr
    · rename_i hg
      have hg : P.eqGuardType P.depth t = false := by simpa using hg
      cases hq : aEqual P 4 t (.agg c) (.agg d) with
      | none => rw [hq] at hr; simp at hr
      | some r =>
        rw [hq] at hr
        simp only [Option.map_some, Option.some.injEq, Prod.mk.injEq] at hr
        obtain ⟨rfl, rfl⟩ := hr
        rw [e1] at hx; rw [e2] at hy
        have hq' := equal_true 4 t hx hy hq
        generalize hX : ρ' x = X at hx hq'
        generalize hY : ρ' y = Y at hy hq'
        cases hx with | @agg _ c' s1 q1 => cases hy with | @agg _ d' s2 q2 =>
        refine ⟨m, .value (.bool (f r)), W, ?_, .value (.bool _), Snd.refl hw⟩
        rw [hd, hX, hY]
        refine run_v ?_
        have heg : (eqGuard b t x y (.agg c') (.agg d')).run P W = .ok () W := by
          rcases hb with rfl | rfl <;> simp [eqGuard, hg]
        rw [Sem.run_bind, heg]
        simp only [Result.andThen_ok, hbin, Sem.run_bind, run_equal' hq', Sem.run_pure]
  unfold aop at he
  dsimp only at he
  by_cases hagg : ∃ c d, ρ x = .agg c ∧ ρ y = .agg d
  · obtain ⟨c, d, e1, e2⟩ := hagg
    rw [e1, e2] at he
    cases b with
    | eql => exact aggs c d id e1 e2 (.inl rfl) (fun _ _ => rfl) he
    | neq => exact aggs c d not e1 e2 (.inr rfl) (fun _ _ => rfl) he
    | _ => simp [pair] at he
  · have hno : (if pair (ρ x) (ρ y) && ptrs P t (ρ x) (ρ y) && plainOp b (ρ x) (ρ y) then ARun P (execOp ρ ⟨dst, .binOp b t x y yt, ty, pos, aft, gd⟩) h else none) = some (nx, h') := by
      split at he
      · rename_i e1 e2; exact absurd ⟨_, _, e1, e2⟩ hagg
      · rename_i e1 e2; exact absurd ⟨_, _, e1, e2⟩ hagg
      · exact he
    split at hno
    · rename_i hc; exact gen hc hno
    · simp at hno
end Go.Proofs.YtlbipokkdiiaiaaGreatDoor.Exec
/- Every operation of the executor is true. -/
namespace Go.Proofs.YtlbipokkdiiaiaaGreatDoor.Exec
variable {P : Program} {m : Bij} {h : H} {W : World} {ρ ρ' : Operand → Value}
theorem bytes_spec {e : TypeId} (h : isBytes P e = true) : P.underlying e = some (.int .u8) := by
  unfold isBytes at h
  cases hd : P.underlying e with
  | none => rw [hd] at h; simp at h
  | some d =>
    rw [hd] at h
    cases d with
    | int k => cases k <;> first | rfl | (simp at h; done)
    | _ => simp at h
theorem tru_conv {src dst' : TypeId} {x : Operand} {dst : Option Tmp} {ty : TypeId} {pos : String} {aft : Array Edge} {gd : Option (Nat × Bool)} (hx : VRel m (ρ x) (ρ' x)) (hw : WRel m h W) {nx : Next} {h' : H}
    (he : aop P ρ ⟨dst, .convert src dst' x, ty, pos, aft, gd⟩ h = some (nx, h')) : Tru P m h W ρ' ⟨dst, .convert src dst' x, ty, pos, aft, gd⟩ nx h' := by
  have hd : (execOp ρ' ⟨dst, .convert src dst' x, ty, pos, aft, gd⟩) = (do pure (.value (← convert src dst' (ρ' x)))) := rfl
  unfold aop at he
  dsimp only at he
  cases h1 : P.underlying src with
  | none => rw [h1] at he; simp at he
  | some sd =>
  cases h2 : P.underlying dst' with
  | none => rw [h1, h2] at he; cases sd <;> simp at he
  | some dd =>
  rw [h1, h2] at he
  have conv : ∀ {v v' : Value}, (convert src dst' (ρ' x)).run P W = .ok v' W → VRel m v v' → ((some (v, h)).map fun (x, h) => (Next.value x, h)) = some (nx, h') → Tru P m h W ρ' ⟨dst, .convert src dst' x, ty, pos, aft, gd⟩ nx h' := by
    intro v v' hr hv hq
    exact tru_v hd hq fun v2 h2 e => by
      simp only [Option.some.injEq, Prod.mk.injEq] at e
      obtain ⟨rfl, rfl⟩ := e
      exact ⟨m, v', W, hr, hv, Snd.refl hw⟩
  generalize hX : ρ' x = X at *
  generalize ρ x = Y at *
  split at he
  · rename_i k n e1 e2
    simp only [Option.some.injEq] at e1 e2; subst e1; subst e2
    cases hx
    exact conv (v' := .int _ (IntKind.wrap _ _)) (by cases sd <;> simp [convert, run_underlying h1, run_underlying h2, Conv.intToInt]) (.int _ _) he
  · rename_i n e1 e2
    simp only [Option.some.injEq] at e1 e2; subst e1; subst e2
    cases hx
    exact conv (v' := .string (Utf8.encode _)) (by cases sd <;> simp [convert, run_underlying h1, run_underlying h2, Conv.intToString]) (.string _) he
  · rename_i s e1 e2
    simp only [Option.some.injEq] at e1 e2; subst e1; subst e2
    cases hx
    exact conv (v' := .string _) (by cases sd <;> simp [convert, run_underlying h1, run_underlying h2]) (.string _) he
  · rename_i e s e1 e2
    simp only [Option.some.injEq] at e1 e2; subst e1; subst e2
    cases hx
    exact tru_v hd he fun v h2' hr => op_bytes h1 h2 _ hw hr
  · rename_i e l c e1 e2
    simp only [Option.some.injEq] at e1 e2; subst e1; subst e2
    split at he
    · rename_i h3
      have h3 := bytes_spec h3
      cases hx with
      | slice _ _ _ hp =>
      cases hp
      exact conv (v' := .string .empty) (by simp [convert, run_underlying h1, run_underlying h2, run_underlying h3, Conv.bytesToString]) (.string _) he
    · simp at he
  · rename_i e a n c e1 e2
    simp only [Option.some.injEq] at e1 e2; subst e1; subst e2
    split at he
    · rename_i h3
      have h3 := bytes_spec h3
      split at he
      · rename_i s h4 hr
        cases hx with
        | slice _ _ _ hp => cases hp with
          | some ha => exact conv (v' := .string s) (op_string h1 h2 h3 ha _ _ hw hr) (.string _) he
        | sliceU _ _ _ hb _ _ _ => exact conv (v' := .string s) (op_string h1 h2 h3 (.mk hb) _ _ hw hr) (.string _) he
      · simp at he
    · simp at he
  · rename_i u e1 e2
    simp only [Option.some.injEq] at e1 e2; subst e1; subst e2
    exact tru_h hd hw he fun v hr => op_unsafe h1 h2 hx hw hr
  · rename_i t e1 e2
    simp only [Option.some.injEq] at e1 e2; subst e1; subst e2
    exact tru_h hd hw he fun v hr => op_unsafe h1 h2 hx hw hr
  · simp at he
theorem tru_call (g : Good P) {c : Call} {dst : Option Tmp} {ty : TypeId} {pos : String} {aft : Array Edge} {gd : Option (Nat × Bool)} (hc : ∀ x ∈ c.operands, VRel m (ρ x) (ρ' x)) (hw : WRel m h W) {nx : Next} {h' : H}
    (he : aop P ρ ⟨dst, .call c, ty, pos, aft, gd⟩ h = some (nx, h')) : Tru P m h W ρ' ⟨dst, .call c, ty, pos, aft, gd⟩ nx h' := by
  obtain ⟨callee, args, argTypes⟩ := c
  have hargs : RowRel m (args.map ρ) (args.map ρ') := .map _ fun a ha => hc a (by simp [Call.operands, ha])
  unfold aop at he
  dsimp only at he
  cases callee with
  | value f =>
    have hf := hc f (by simp [Call.operands])
    obtain ⟨m', nx', W', r1, r2, r3⟩ := op_call g hf hargs hw he
    exact ⟨m', nx', W', r1, r2, r3⟩
  | invoke r name =>
    have hf := hc r (by simp [Call.operands])
    obtain ⟨m', nx', W', r1, r2, r3⟩ := op_invoke g hf name hargs hw he
    exact ⟨m', nx', W', r1, r2, r3⟩
  | builtin b =>
    cases b with
    | append => exact tru_v (s := Builtin.append_ argTypes ty (args.map ρ')) rfl he fun v h2 hr => op_append _ _ hargs hw hr
    | unsafeString => exact tru_v (s := Builtin.unsafeString_ argTypes ty (args.map ρ')) rfl he fun v h2 hr => op_unsafeString _ _ hargs hw hr
    | unsafeSliceData => exact tru_h (s := Builtin.unsafeSliceData_ argTypes ty (args.map ρ')) rfl hw he fun v hr => op_sliceData _ _ hargs hr
    | len => exact tru_run (show SRel P NxRel m (execOp ρ _) (execOp ρ' _) from rel_v (rel_len argTypes ty hargs)) he hw
    | min =>
      dsimp only at he
      split at he
      · rename_i k x j y hl
        simp only [Option.some.injEq, Prod.mk.injEq] at he
        obtain ⟨rfl, rfl⟩ := he
        rw [← Array.toList_map] at hl
        obtain ⟨l', e1, hl'⟩ := row_of_list hargs hl
        cases hl' with | cons q1 q2 => cases q2 with | cons q3 q4 => cases q4 with | nil =>
        cases q1; cases q3
        refine ⟨m, _, W, ?_, .value (.int _ _), Snd.refl hw⟩
        have hd : execOp ρ' ⟨dst, .call ⟨.builtin .min, args, argTypes⟩, ty, pos, aft, gd⟩ = (do pure (.value (← Builtin.min_ argTypes ty (args.map ρ')))) := rfl
        rw [hd]
        refine run_v ?_
        rw [e1]; rfl
      · simp at he
    | max =>
      dsimp only at he
      split at he
      · rename_i k x j y hl
        simp only [Option.some.injEq, Prod.mk.injEq] at he
        obtain ⟨rfl, rfl⟩ := he
        rw [← Array.toList_map] at hl
        obtain ⟨l', e1, hl'⟩ := row_of_list hargs hl
        cases hl' with | cons q1 q2 => cases q2 with | cons q3 q4 => cases q4 with | nil =>
        cases q1; cases q3
        refine ⟨m, _, W, ?_, .value (.int _ _), Snd.refl hw⟩
        have hd : execOp ρ' ⟨dst, .call ⟨.builtin .max, args, argTypes⟩, ty, pos, aft, gd⟩ = (do pure (.value (← Builtin.max_ argTypes ty (args.map ρ')))) := rfl
        rw [hd]
        refine run_v ?_
        rw [e1]; rfl
      · simp at he
    | _ => simp at he
theorem aop_sound (g : Good P) {o : Oper} (hρ : ∀ x ∈ o.op.operands, VRel m (ρ x) (ρ' x)) (hw : WRel m h W) {nx : Next} {h' : H} (he : aop P ρ o h = some (nx, h')) : Tru P m h W ρ' o nx h' := by
  obtain ⟨dst, op, ty, pos, aft, gd⟩ := o
  dsimp only at hρ
  cases op with
  | call c => exact tru_call g hρ hw he
  | convert s d x => exact tru_conv (hρ x (by simp [Op.operands])) hw he
  | binOp b t x y yt => exact tru_bin (hρ x (by simp [Op.operands])) (hρ y (by simp [Op.operands])) hw he
  | move x => exact tru_run (show SRel P NxRel m (execOp ρ _) (execOp ρ' _) from .pure (.value (hρ x (by simp [Op.operands])))) he hw
  | assign x => exact tru_run (show SRel P NxRel m (execOp ρ _) (execOp ρ' _) from .pure (.value (hρ x (by simp [Op.operands])))) he hw
  | pick c a b =>
    refine tru_run (show SRel P NxRel m (execOp ρ _) (execOp ρ' _) from ?_) he hw
    refine rel_bool_bind (hρ c (by simp [Op.operands])) fun t _ _ => .pure (.value ?_)
    cases t
    · exact hρ b (by simp [Op.operands])
    · exact hρ a (by simp [Op.operands])
  | alloc e => exact tru_run (show SRel P NxRel m (execOp ρ _) (execOp ρ' _) from rel_v (rel_alloc g.zeros e)) he hw
  | box e x => exact tru_run (show SRel P NxRel m (execOp ρ _) (execOp ρ' _) from rel_v (rel_box e (hρ x (by simp [Op.operands])))) he hw
  | build t ps => exact tru_run (show SRel P NxRel m (execOp ρ _) (execOp ρ' _) from rel_v (rel_build g.zeros t (parts_map ps hρ))) he hw
  | buildSlice t n ps =>
    unfold aop at he
    dsimp only at he
    split at he
    · rename_i hn
      exact tru_run (show SRel P NxRel m (execOp ρ _) (execOp ρ' _) from rel_v (rel_buildSlice g.zeros t n hn (parts_map ps hρ))) he hw
    · simp at he
  | load t a => exact tru_run (show SRel P NxRel m (execOp ρ _) (execOp ρ' _) from rel_v (rel_loadAt t (hρ a (by simp [Op.operands])))) he hw
  | store t a x => exact tru_run (show SRel P NxRel m (execOp ρ _) (execOp ρ' _) from rel_u (rel_storeAt t (hρ a (by simp [Op.operands])) (hρ x (by simp [Op.operands])))) he hw
  | nilCheck x =>
    have hx := hρ x (by simp [Op.operands])
    unfold aop at he
    dsimp only at he
    have fin : ∀ v v', ρ' x = v' → VRel m v v' → some (Next.value v, h) = some (nx, h') → (execOp ρ' ⟨dst, .nilCheck x, ty, pos, aft, gd⟩).run P W = .ok (.value v') W → Tru P m h W ρ' ⟨dst, .nilCheck x, ty, pos, aft, gd⟩ nx h' := by
      intro v v' e hv hq hr
      simp only [Option.some.injEq, Prod.mk.injEq] at hq
      obtain ⟨rfl, rfl⟩ := hq
      exact ⟨m, _, W, hr, .value hv, Snd.refl hw⟩
    split at he
    · rename_i a e
      rw [e] at hx
      generalize hX : ρ' x = X at hx
      cases hx with | pointer hp => cases hp with | some hp => exact fin _ _ hX (.pointer (.some hp)) he (by simp [execOp, hX])
    · rename_i f y z e
      rw [e] at hx
      generalize hX : ρ' x = X at hx
      cases hx with | func hf s1 e1 s2 e2 => cases hf; exact fin _ _ hX (.func (.func f) s1 e1 s2 e2) he (by simp [execOp, hX])
    · rename_i t y e
      rw [e] at hx
      generalize hX : ρ' x = X at hx
      cases hx with | iface _ hv => exact fin _ _ hX (.iface t hv) he (by simp [execOp, hX])
    · rename_i l y z e
      rw [e] at hx
      generalize hX : ρ' x = X at hx
      cases hx with | func hf s1 e1 s2 e2 => cases hf with | yield hl => exact fin _ _ hX (.func (.yield hl) s1 e1 s2 e2) he (by simp [execOp, hX])
    · simp at he
  | unOp op t x =>
    have hx := hρ x (by simp [Op.operands])
    unfold aop at he
    dsimp only at he
    split at he
    · rename_i k n e
      exact tru_run (show SRel P NxRel m (execOp ρ _) (execOp ρ' _) from rel_v (rel_unary op hx (.inl ⟨k, n, e⟩))) he hw
    · rename_i b e
      exact tru_run (show SRel P NxRel m (execOp ρ _) (execOp ρ' _) from rel_v (rel_unary op hx (.inr ⟨b, e⟩))) he hw
    · simp at he
  | makeInterface t x => exact tru_run (show SRel P NxRel m (execOp ρ _) (execOp ρ' _) from rel_v (rel_makeInterface t (hρ x (by simp [Op.operands])))) he hw
  | makeFunc fn first captured =>
    cases fn with
    | func f =>
      exact tru_run (show SRel P NxRel m (execOp ρ _) (execOp ρ' _) from rel_v (rel_makeFunc (.func f) (.func f) (.map _ fun a ha => hρ a (by simp [Op.operands, ha])) (.map _ fun a ha => hρ a (by simp [Op.operands, ha])))) he hw
    | _ => simp [aop] at he
  | makeMap t r => exact tru_run (show SRel P NxRel m (execOp ρ _) (execOp ρ' _) from rel_v (rel_makeMap t (opt_map (by simpa [Op.operands] using hρ)))) he hw
  | makeSlice t a b => exact tru_run (show SRel P NxRel m (execOp ρ _) (execOp ρ' _) from rel_v (rel_makeSlice g.zeros t (hρ a (by simp [Op.operands])) (hρ b (by simp [Op.operands])))) he hw
  | slice t x lo hi mx =>
    have hx := hρ x (by simp [Op.operands])
    have hl : OptRel (VRel m) (lo.map ρ) (lo.map ρ') := opt_map fun y hy => hρ y (by simp only [Op.operands]; simp [hy])
    have hu : OptRel (VRel m) (hi.map ρ) (hi.map ρ') := opt_map fun y hy => hρ y (by simp only [Op.operands]; simp [hy])
    have hm : OptRel (VRel m) (mx.map ρ) (mx.map ρ') := opt_map fun y hy => hρ y (by simp only [Op.operands]; simp [hy])
    unfold aop at he
    dsimp only at he
    split at he
    · rename_i a l c e
      split at he
      · rename_i hc
        exact tru_run (show SRel P NxRel m (execOp ρ _) (execOp ρ' _) from rel_v (rel_slice t hx (.inr ⟨_, l, c, e, hc⟩) hl hu hm)) he hw
      · rename_i hc
        rw [e] at hx
        generalize hX : ρ' x = X at hx
        cases hx with
        | slice _ _ hlt _ => exact absurd hlt hc
        | sliceU _ c' e2 hb h1 h2 h3 =>
          exact tru_h (s := Instr.sliceAt t (ρ' x) (lo.map ρ') (hi.map ρ') (mx.map ρ')) rfl hw he fun v hv => by rw [hX]; exact op_slice hb h1 h2 h3 hl hu hm hv
    · rename_i a l c hne e
      cases a with
      | some a => exact (hne _ rfl).elim
      | none =>
        have hc : c < BIG := by
          rw [e] at hx
          generalize ρ' x = X at hx
          cases hx; assumption
        exact tru_run (show SRel P NxRel m (execOp ρ _) (execOp ρ' _) from rel_v (rel_slice t hx (.inr ⟨_, l, c, e, hc⟩) hl hu hm)) he hw
    · rename_i s e
      exact tru_run (show SRel P NxRel m (execOp ρ _) (execOp ρ' _) from rel_v (rel_slice t hx (.inl ⟨s, e⟩) hl hu hm)) he hw
    · simp at he
  | fieldAddr s x f =>
    unfold aop at he
    dsimp only at he
    split at he
    · rename_i hf
      exact tru_run (show SRel P NxRel m (execOp ρ _) (execOp ρ' _) from rel_v (rel_fieldAt s f hf (hρ x (by simp [Op.operands])))) he hw
    · simp at he
  | field s x f => exact tru_run (show SRel P NxRel m (execOp ρ _) (execOp ρ' _) from rel_v (rel_field s f (hρ x (by simp [Op.operands])))) he hw
  | indexAddr t x i => exact tru_run (show SRel P NxRel m (execOp ρ _) (execOp ρ' _) from rel_v (rel_indexAt t (hρ x (by simp [Op.operands])) (hρ i (by simp [Op.operands])))) he hw
  | index t x i => exact tru_run (show SRel P NxRel m (execOp ρ _) (execOp ρ' _) from rel_v (rel_index t (hρ x (by simp [Op.operands])) (hρ i (by simp [Op.operands])))) he hw
  | lookup t x k ok => exact tru_h (s := Instr.lookup t (ρ' x) (ρ' k) ok) rfl hw he fun v hv => op_lookup g.zeros (hρ x (by simp [Op.operands])) (hρ k (by simp [Op.operands])) ok hw hv
  | mapUpdate t x k y =>
    unfold aop at he
    dsimp only at he
    cases hu : aUpdate P t (ρ x) (ρ k) (ρ y) h with
    | none => rw [hu] at he; simp at he
    | some h2 =>
      rw [hu] at he
      simp only [Option.map_some, Option.some.injEq, Prod.mk.injEq] at he
      obtain ⟨rfl, rfl⟩ := he
      obtain ⟨W', r1, r2⟩ := op_update (hρ x (by simp [Op.operands])) (hρ k (by simp [Op.operands])) (hρ y (by simp [Op.operands])) hw hu
      refine ⟨m, .skip, W', ?_, .skip, r2⟩
      show (do Instr.mapUpdate t (ρ' x) (ρ' k) (ρ' y); pure .skip : Sem Next).run P W = _
      rw [Sem.run_bind, r1]; rfl
  | range t x => exact tru_run (show SRel P NxRel m (execOp ρ _) (execOp ρ' _) from rel_v (rel_range t (hρ x (by simp [Op.operands])))) he hw
  | next it s =>
    unfold aop at he
    dsimp only at he
    cases s with
    | true => exact tru_run (show SRel P NxRel m (execOp ρ _) (execOp ρ' _) from rel_v (rel_nextStr (hρ it (by simp [Op.operands])) ty)) he hw
    | false => exact tru_v (s := Instr.next (ρ' it) false ty) rfl he fun v h2 hr => op_nextMap (hρ it (by simp [Op.operands])) hw ty hr
  | entry it => exact tru_h (s := Instr.entry (ρ' it)) rfl hw he fun v hv => op_entry (hρ it (by simp [Op.operands])) hw hv
  | extract x i => exact tru_run (show SRel P NxRel m (execOp ρ _) (execOp ρ' _) from rel_v (rel_extract (hρ x (by simp [Op.operands])) i)) he hw
  | _ => simp [aop] at he
end Go.Proofs.YtlbipokkdiiaiaaGreatDoor.Exec
