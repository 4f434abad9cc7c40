/- Lemmas for TopTwice: ExecOps8, ExecOps9, ExecOpsA, ExecOpsB, ExecOpsC. -/
import Derived.Test.YtlbipokkdiiaiaaGreatDoorU03
import Derived.Lib.UnsafeStr
import Derived.Laws.BytesString
import Derived.Laws.Externs
import Derived.KernelRfl
import Derived.ChangeKeysEq
import Derived.Laws.StructEq
namespace Go.Proofs.YtlbipokkdiiaiaaGreatDoor.Exec
variable {P : Program} {m : Bij} {h : H} {W : World}
theorem WRel.of_heap {W' : World} (hw : WRel m h W) (e : W'.heap = W.heap) : WRel m h W' :=
 ⟨fun n o hg => by obtain ⟨b, o', h1, h2, h3⟩ := hw.obj n o hg; exact ⟨b, o', h1, by rw [e]; exact h2, h3⟩, hw.fresh, fun n b k => by rw [e]; exact hw.ran n b k, hw.inj, hw.room, hw.le⟩
theorem Snd.of_heap {m' : Bij} {h' : H} {W1 W2 V : World} (k : Snd m h W m' h' W1) (e : W2.heap = W1.heap) (ev : V.heap = W.heap) (er : W2.os = V.os ∧ W2.tape = V.tape ∧ W2.output = V.output) : Snd m h V m' h' W2 :=
 ⟨k.le, k.rel.of_heap e, by rw [e, ev]; exact k.size, fun b hb hn => by rw [e, ev]; exact k.block b (by rw [← ev]; exact hb) hn, k.next, k.lim, k.dead, fun n b hr => by rw [ev]; exact k.new n b hr, er⟩
theorem push_set {α : Type} (a : Array α) (x y : α) : (a.push x).setIfInBounds a.size y = a.push y := by
 apply Array.ext_getElem?
 intro i
 by_cases hi : i = a.size
 ·subst hi; simp
 ·rw [Array.getElem?_setIfInBounds_ne (fun e => hi e.symm), Array.getElem?_push, Array.getElem?_push, if_neg hi, if_neg hi]
theorem op_bytes {src dst e : TypeId} (h1 : P.underlying src = some .string) (h2 : P.underlying dst = some (.slice e)) (s : ByteArray) (hw : WRel m h W) {v : Value} {h' : H} (he : aBytes P e s h = some (v, h')) :
  ∃ m' v' W', (convert src dst (.string s)).run P W = .ok v' W' ∧ VRel m' v v' ∧ Snd m h W m' h' W' := by
 unfold aBytes at he
 split at he
 ·rename_i ei hu hi
  split at he
  ·rename_i hc
   simp only [Bool.and_eq_true, beq_iff_eq, decide_eq_true_eq] at hc
   obtain ⟨⟨hs1, hlim⟩, hsz⟩ := hc
   simp only [Option.some.injEq, Prod.mk.injEq] at he
   obtain ⟨rfl, rfl⟩ := he
   let q : Question := .appendCap s.size 0 e
   let cap := q.cut (W.tape W.drawn q)
   have hcap : s.size ≤ cap ∧ cap < 2 ^ 63 := by
    show s.size ≤ s.size + W.tape W.drawn q % (2 ^ 63 - s.size) ∧ s.size + W.tape W.drawn q % (2 ^ 63 - s.size) < 2 ^ 63
    have := Nat.mod_lt (W.tape W.drawn q) (show 0 < 2 ^ 63 - s.size by omega)
    omega
   let elems : Array Value := s.data.map fun b => .int .u8 b.toNat
   let row := elems ++ Array.replicate (cap - s.size) (.int .u8 0)
   have hds : s.data.size = s.size := rfl
   have hrow : row.size = cap := by simp [row, elems]; omega
   have hrun : (convert src dst (.string s)).run P W = .ok (.slice (some ⟨W.heap.size, 0, none⟩) s.size cap) (({ W with drawn := W.drawn + 1, heap := W.heap.push (.cells row e (0, 0)) } : World).freeze ⟨W.heap.size, row.size, none⟩ 1) := by
    simp only [convert, Sem.run_bind, run_underlying h1, run_underlying h2, run_underlying hu, Result.andThen_ok, Conv.stringToBytes]
    simp [choose, Sem.run, Question.forced, newRow, newObj, markStringish, shape, freeze, World.shape?, Sem.run_bind]
    simp only [World.alloc, World.drew, Array.getElem_push_eq, Sem.run, Result.andThen_ok]
    rfl
   obtain ⟨m', p1, p2, p3⟩ := Snd.push hw hlim cap (o := ⟨.cells elems e (BIG, BIG + 1), true⟩) (o' := .cells row e (cap, cap + 1)) (fun m' hm hg => by
    refine .grow e ⟨fun h => absurd h (by simp), fun _ => ⟨.inr (by omega), ?_⟩⟩ ⟨by simp [row], fun i a b => ?_⟩ (by rw [hg]; exact hrow) (by rw [hrow]; simp only [BIG]; omega)
    ·simp only [BIG]; omega
    ·have : row[i] = elems[i] := by simp [row, a]
     rw [this]; simp only [elems, Array.getElem_map]; exact .int _ _)
   refine ⟨m', _, _, hrun, .sliceU s.size cap 1 p1 hcap.1 (Nat.le_refl _) (by rw [p2]; omega), p3.of_heap ?_ rfl ?_⟩
   ·rw [freeze_eq (c := row) (t := e) (lo := 0) (hi := 0) (by simp) none (by simp)]
    simp only [beq_self_eq_true, if_true, push_set, hrow]
   ·simp [World.freeze]
  ·simp at he
 ·simp at he
theorem add_add (a : Addr) (j : Nat) : (a.add 1).add j = a.add (j + 1) := by
 unfold Addr.add
 by_cases hj : j = 0
 ·subst hj; simp
 ·simp [hj]; omega
def pushes (ns : List Int) (s : ByteArray) : ByteArray := ns.foldl (fun r n => r.push (UInt8.ofNat n.toNat)) s
theorem arun_load {α : Type} (a : Addr) (k : Value → Sem α) : ARun P (load a >>= k) h = match h.cell? a with | some v => ARun P (k v) h | none => none := by
 show ARun P (Sem.load .plain a fun v => (Sem.pure v).bind k) h = _
 simp only [ARun]
 cases h.cell? a <;> rfl
theorem arun_loadBytes : ∀ (n : Nat) (a : Addr) (acc : ByteArray) {s : ByteArray} {h1 : H}, ARun P (loadBytes a acc n) h = some (s, h1) →
  h1 = h ∧ ∃ ns : List Int, ns.length = n ∧ (∀ (j : Nat) x, ns[j]? = some x → h.cell? (a.add j) = some (.int .u8 x)) ∧ s = pushes ns acc
 | 0, a, acc, s, h1, he => by
   simp only [loadBytes] at he
   obtain ⟨rfl, rfl⟩ : acc = s ∧ h = h1 := by simpa [ARun, Pure.pure] using he
   exact ⟨rfl, [], rfl, fun j x hx => by simp at hx, rfl⟩
 | n + 1, a, acc, s, h1, he => by
   unfold loadBytes at he
   rw [arun_load] at he
   cases hc : h.cell? a with
   | none => simp [hc] at he
   | some v =>
     rw [hc] at he
     dsimp only at he
     have hv : ∃ b, v = .int .u8 b := by
      cases v <;> try (simp [stuck, ARun] at he; done)
      rename_i k b
      cases k <;> try (simp [stuck, ARun] at he; done)
      exact ⟨b, rfl⟩
     obtain ⟨b, rfl⟩ := hv
     obtain ⟨h2, ns, h3, h4, h5⟩ := arun_loadBytes n (a.add 1) _ he
     refine ⟨h2, b :: ns, by simp [h3], fun j x hx => ?_, by rw [h5]; rfl⟩
     cases j with
     | zero => simp only [List.getElem?_cons_zero, Option.some.injEq] at hx; subst hx; simpa [Addr.add] using hc
     | succ j => rw [← add_add]; exact h4 j x (by simpa using hx)
theorem run_bytesAt : ∀ (ns : List Int) (a : Addr) (acc : ByteArray), (∀ (j : Nat) x, ns[j]? = some x → W.cell? (a.add j) = some (.int .u8 x)) → (loadBytes a acc ns.length).run P W = .ok (pushes ns acc) W
 | [], a, acc, _ => by simp [loadBytes, pushes]
 | x :: ns, a, acc, hc => by
   have h0 : W.cell? a = some (.int .u8 x) := by simpa [Addr.add] using hc 0 x rfl
   have ih := run_bytesAt ns (a.add 1) (acc.push x.toNat.toUInt8) (fun j y hy => by rw [add_add]; exact hc (j + 1) y (by simpa using hy))
   simp only [List.length_cons, loadBytes, Sem.run_bind, run_load, h0, Result.andThen]
   rw [ih]; rfl
theorem cells_true (hw : WRel m h W) {a a' : Addr} (ha : ARel m a a') {ns : List Int} (hc : ∀ (j : Nat) x, ns[j]? = some x → h.cell? (a.add j) = some (.int .u8 x)) :
  ∀ (j : Nat) x, ns[j]? = some x → W.cell? (a'.add j) = some (.int .u8 x) := fun j x hx => by
 obtain ⟨v', h1, h2⟩ := hw.cell (ha.add j) (hc j x hx)
 cases h2; exact h1
theorem op_string {src dst e : TypeId} (h1 : P.underlying src = some (.slice e)) (h2 : P.underlying dst = some .string) (h3 : P.underlying e = some (.int .u8)) {a a' : Addr} (ha : ARel m a a') (n c : Nat) (hw : WRel m h W)
  {s : ByteArray} {h' : H} (he : ARun P (loadBytes a .empty n) h = some (s, h')) : (convert src dst (.slice (some a') n c)).run P W = .ok (.string s) W := by
 obtain ⟨_, ns, rfl, k1, rfl⟩ := arun_loadBytes n a _ he
 have k2 := cells_true hw ha k1
 rw [run_convert_bytes_string W src dst e _ _ _ h1 h3 h2]
 refine run_bytesToString W a' _ c ns ?_
 have := run_loadCells_list (P := P) W a' (ns.map (Value.int .u8)) (fun j v hv => by
  rw [List.getElem?_map] at hv
  cases hx : ns[j]? with
  | none => rw [hx] at hv; simp at hv
  | some x => rw [hx] at hv; simp only [Option.map_some, Option.some.injEq] at hv; subst hv; exact k2 j x hx)
 simpa using this
theorem op_unsafeString (ts : Array TypeId) (ty : TypeId) {a a' : Array Value} (ha : RowRel m a a') (hw : WRel m h W) {v : Value} {h' : H} (he : aUnsafeString P ts a h = some (v, h')) :
  ∃ m' v' W', (Builtin.unsafeString_ ts ty a').run P W = .ok v' W' ∧ VRel m' v v' ∧ Snd m h W m' h' W' := by
 unfold aUnsafeString at he
 split at he
 ·rename_i pT p k n hts hargs
  have hl := ha.toList
  rw [hargs] at hl
  have hargs' : ∃ p' , a' = #[.pointer p', .int k (Int.ofNat n)] ∧ OptRel (ARel m) p p' := by
   generalize hz : a'.toList = l' at hl
   cases hl with
   | cons q1 q2 => cases q2 with
     | cons q3 q4 => cases q4 with
       | nil =>
         cases q1 with
         | pointer hp => cases q3; exact ⟨_, by rw [← Array.toArray_toList (xs := a'), hz], hp⟩
  obtain ⟨p', rfl, hp⟩ := hargs'
  split at he
  ·rename_i hn
   subst hn
   simp only [Option.some.injEq, Prod.mk.injEq] at he
   obtain ⟨rfl, rfl⟩ := he
   refine ⟨m, .string .empty, W, ?_, .string _, Snd.refl hw⟩
   have hd : ∀ p : Option Addr, Builtin.unsafeString_ ts ty #[.pointer p, .int k (Int.ofNat 0)] = (do
     let n ← asInt (.int k (Int.ofNat 0))
     let some pt := ts[0]? | stuck "unsafe.String: no argument types"
     if n < 0 then runtimePanic (.error "unsafe.String: len out of range")
     if n > IntKind.i64.max then unsupported (.unsafePointer "String: a length above the largest int")
     match p with
     | none =>
       if n = 0 then pure (.string .empty)
       else runtimePanic (.error "unsafe.String: ptr is nil and len is not zero")
     | some a =>
       if n = 0 then pure (.string .empty)
       else if ← variablesAt a (← elemOf pt) n.toNat then do
        let s ← loadBytes a .empty n.toNat
        freeze a n.toNat
        pure (.string s)
       else unsupported (.unsafePointer "String: not so many bytes at ptr")) := fun p => rfl
   rw [hd]
   cases p' <;> simp [hts, asInt, asIntOf]
  ·rename_i hn
   split at he
   ·rename_i a e hpt
    cases hp with
    | some hp =>
    split at he
    ·rename_i hc
     simp only [Bool.and_eq_true, decide_eq_true_eq, beq_iff_eq, Option.isNone_iff_eq_none] at hc
     obtain ⟨⟨c1, c4⟩, c5⟩ := hc
     split at he
     ·rename_i c t lo hi g hg
      split at he
      ·rename_i hc2
       simp only [Bool.and_eq_true, decide_eq_true_eq, beq_iff_eq] at hc2
       obtain ⟨⟨rfl, c6⟩, c7⟩ := hc2
       split at he
       ·rename_i s h1 hs
        simp only [Option.some.injEq, Prod.mk.injEq] at he
        obtain ⟨rfl, rfl⟩ := he
        obtain ⟨_, ns, hlen, k1, rfl⟩ := arun_loadBytes n a _ hs
        have k2 := cells_true hw hp k1
        have k3 := run_bytesAt (P := P) ns _ .empty k2
        rw [hlen] at k3
        cases hp with
        | @mk b b' o sp hb =>
          simp only at hg c5 c6 c7
          subst c5; subst c6
          obtain ⟨o', q1, q2⟩ := hw.at_ hb hg
          obtain ⟨c', ⟨lo', hi'⟩, rfl, q3, q4, q5, q6⟩ := q2.row
          have hp := Snd.put hw hg hb (NRel.of_row (n := b) (t := t) (g := g) q3 (q4.freeze (i := 0) hn) q5 q6)
          refine ⟨m, _, _, ?_, .string _, hp⟩
          have hlies : liesAt P P.depth t (c'.size / P.cellsOf t) 0 t n = true := by
           rw [c4, Nat.div_one]
           exact Lib.liesAt_bytes c4 _ _ (by have := q3.size; omega)
          have hfz := freeze_eq (i := 0) (n := n) q1 none hn
          have hsh : W.shape? b' = some (t, c'.size) := by simp [World.shape?, q1]
          have hd : Builtin.unsafeString_ ts ty #[.pointer (some ⟨b', 0, none⟩), .int k (Int.ofNat n)] = (do
            let n ← asInt (.int k (Int.ofNat n))
            let some pt := ts[0]? | stuck "unsafe.String: no argument types"
            if n < 0 then runtimePanic (.error "unsafe.String: len out of range")
            if n > IntKind.i64.max then unsupported (.unsafePointer "String: a length above the largest int")
            match (some ⟨b', 0, none⟩ : Option Addr) with
            | none =>
              if n = 0 then pure (.string .empty)
              else runtimePanic (.error "unsafe.String: ptr is nil and len is not zero")
            | some a =>
              if n = 0 then pure (.string .empty)
              else if ← variablesAt a (← elemOf pt) n.toNat then do
               let s ← loadBytes a .empty n.toNat
               freeze a n.toNat
               pure (.string s)
              else unsupported (.unsafePointer "String: not so many bytes at ptr")) := rfl
          have hmax' : ¬ (9223372036854775807 < (n : Int)) := by omega
          have hneg : ¬ ((n : Int) < 0) := by omega
          rw [hd]
          simp [hts, asInt, asIntOf, hmax', hneg, hn, variablesAt, hsh, hlies, elemOf, run_underlying hpt, k3, hfz]
       ·simp at he
      ·simp at he
     ·simp at he
    ·simp at he
   ·simp at he
 ·simp at he
end Go.Proofs.YtlbipokkdiiaiaaGreatDoor.Exec
namespace Go.Proofs.YtlbipokkdiiaiaaGreatDoor.Exec
variable {P : Program} {m : Bij} {h : H} {W : World}
theorem row_of_list {a a' : Array Value} (ha : RowRel m a a') {l : List Value} (hl : a.toList = l) : ∃ l', a' = l'.toArray ∧ LRel m l l' := by
 refine ⟨a'.toList, by simp, ?_⟩
 rw [← hl]; exact ha.toList
theorem op_sliceData (ts : Array TypeId) (ty : TypeId) {a a' : Array Value} (ha : RowRel m a a') {v : Value} (he : aSliceData a = some v) :
  ∃ v', (Builtin.unsafeSliceData_ ts ty a').run P W = .ok v' W ∧ VRel m v v' := by
 unfold aSliceData at he
 split at he
 ·rename_i n c hl
  simp only [Option.some.injEq] at he
  subst he
  obtain ⟨l', rfl, hl'⟩ := row_of_list ha hl
  cases hl' with
  | cons q1 q2 => cases q2 with
    | nil => cases q1 with
      | slice _ _ _ hp => cases hp; exact ⟨_, rfl, .pointer .none⟩
 ·rename_i a0 l c hl
  split at he
  ·rename_i hc
   simp only [Bool.or_eq_true, Bool.and_eq_true, decide_eq_true_eq] at hc
   simp only [Option.some.injEq] at he
   subst he
   obtain ⟨l', rfl, hl'⟩ := row_of_list ha hl
   cases hl' with
   | cons q1 q2 => cases q2 with
     | nil => cases q1 with
       | slice _ _ hb hp =>
         cases hp with
         | some hp =>
           have h0 : c ≠ 0 := by omega
           exact ⟨_, Lib.run_unsafeSliceData_row W ts ty _ _ _ h0, .pointer (.some hp)⟩
       | sliceU l c e hb h1 h2 h3 => exact ⟨_, Lib.run_unsafeSliceData_row W ts ty _ _ _ (by omega), .pointer (.some (.mk hb))⟩
  ·simp at he
 ·simp at he
theorem op_unsafe {src dst : TypeId} {sd dd : TypeDesc} (h1 : P.underlying src = some sd) (h2 : P.underlying dst = some dd) {x x' : Value} (hx : VRel m x x') (hw : WRel m h W) {v : Value} (he : aUnsafe P sd dd x h = some v) :
  ∃ v', (convert src dst x').run P W = .ok v' W ∧ VRel m v v' := by
 unfold aUnsafe at he
 split at he
 ·rename_i a
  cases hx with
  | pointer hp => cases hp with
    | @some a a' ha =>
      split at he
      ·rename_i c e fr hg
       split at he
       ·rename_i hc
        simp only [Bool.and_eq_true, decide_eq_true_eq, Option.isNone_iff_eq_none] at hc
        obtain ⟨hsp, hlt⟩ := hc
        cases ha with
        | @mk b b' o s hb =>
          simp only at hsp hlt hg
          subst hsp
          obtain ⟨o', q1, q2⟩ := hw.at_ hb hg
          obtain ⟨c', fr', rfl, q3, q4, q5, q6⟩ := q2.row
          have hsz := q5 rfl
          have hsh : W.shape? b' = some (e, c'.size) := by simp [World.shape?, q1]
          split at he
          ·rename_i t
           split at he
           ·rename_i hi
            simp only [Option.some.injEq] at he
            subst he
            refine ⟨_, ?_, .pointer (.some (.mk hb))⟩
            cases hti : P.info? t with
            | none => rw [hti] at hi; simp at hi
            | some i =>
              rw [hti] at hi
              have hi0 : ¬ i.size = 0 := by simpa using hi
              have hge : ¬ c'.size ≤ o := by omega
              simp [convert, run_underlying h1, run_underlying h2, Conv.unsafePointer, Conv.seenAt, viewAt, hsh, cellsIn, sizeOf, typeInfo, hti, hi0, hge]
           ·simp at he
          ·rename_i u
           split at he
           ·rename_i hl
            simp only [Option.some.injEq] at he
            subst he
            refine ⟨_, ?_, .pointer (.some (.mk hb))⟩
            simp only [Bool.and_eq_true] at hl
            obtain ⟨hsome, hl⟩ := hl
            rw [← hsz] at hl
            cases hui : P.info? u with
            | none => rw [hui] at hsome; simp at hsome
            | some i => simp [convert, run_underlying h1, run_underlying h2, Conv.unsafePointer, Conv.seenAt, viewAt, hsh, sizeOf, typeInfo, variablesAt, hui, hl]
           ·simp at he
          ·simp at he
       ·simp at he
      ·simp at he
 ·simp at he
theorem ext_spec {fn : Func} {n : String} {e : Array Value → Sem Value} (h1 : fn.name = n) (h2 : fn.origin = "") (f1 : (Extern.allNextRows.lookup n).isNone = true) (f2 : (Extern.allNextRows.lookup "").isNone = true)
  (f3 : (Extern.allGenericRows.lookup n).isNone = true) (f4 : (Extern.allTypedRows.lookup n).isNone = true) (f5 : Extern.allRows.lookup n = some e) : Extern.findNext fn = none ∧ Extern.find fn = some e := by
 simp only [Option.isNone_iff_eq_none] at f1 f2 f3 f4
 subst h1
 constructor
 ·simp [Extern.findNext, h2, f1, f2]
 ·simp [Extern.find, f3, f4, f5]
theorem ext_run {f : FuncId} {fn : Func} (hf : P.funcs[f]? = some fn) (hb : fn.body = none) {n : String} {e : Array Value → Sem Value} (h1 : fn.name = n) (hn : (n == "runtime.NumGoroutine") = false) (hx : Extern.findNext fn = none ∧ Extern.find fn = some e)
  {a a' : Array Value} (hs : SRel P VRel m (e a) (e a')) (hw : WRel m h W) {v : Value} {h' : H} (he : ARun P (e a) h = some (v, h')) :
  ∃ m' v' W', (callFunc f a').run P W = .ok (.value v') W' ∧ VRel m' v v' ∧ Snd m h W m' h' W' := by
 obtain ⟨m', v', W', r1, r2, r3⟩ := ARun.sound hs he hw
 refine ⟨m', v', W', ?_, r2, r3⟩
 rw [run_callFunc_extern hf (by rw [h1]; exact hn) (by rw [hb]; rfl) hx.1 hx.2, r1]
 rfl
theorem op_extern {f : FuncId} {fn : Func} (hf : P.funcs[f]? = some fn) (hb : fn.body = none) {a a' : Array Value} (ha : RowRel m a a') (hw : WRel m h W) {v : Value} {h' : H} (he : aExtern P fn a h = some (v, h')) :
  ∃ m' v' W', (callFunc f a').run P W = .ok (.value v') W' ∧ VRel m' v v' ∧ Snd m h W m' h' W' := by
 unfold aExtern at he
 split at he
 ·rename_i ho
  have ho : fn.origin = "" := by simpa using ho
  split at he
  ·rename_i x hl
   obtain ⟨l', rfl, hl'⟩ := row_of_list ha hl
   have hargs : a = #[x] := by rw [← Array.toArray_toList (xs := a), hl]
   subst hargs
   cases hl' with
   | cons q1 q2 => cases q2 with
     | nil =>
       split at he
       ·rename_i hn
        have hn : fn.name = "internal/abi.NoEscape" := by simpa using hn
        exact ext_run (a := #[x]) (e := Extern.AbiNoEscape.same) hf hb hn (by decide) (ext_spec hn ho (by kernel_rfl) (by kernel_rfl) (by kernel_rfl) (by kernel_rfl) (by kernel_rfl)) (.pure q1) hw he
       ·simp at he
  ·rename_i s k c hl
   obtain ⟨l', rfl, hl'⟩ := row_of_list ha hl
   have hargs : a = #[.string s, .int k c] := by rw [← Array.toArray_toList (xs := a), hl]
   subst hargs
   cases hl' with
   | cons q1 q2 => cases q2 with
     | cons q3 q4 => cases q4 with
       | nil =>
         cases q1; cases q3
         split at he
         ·rename_i hn
          have hn : fn.name = "internal/bytealg.IndexByteString" := by simpa using hn
          refine ext_run (e := Extern.BytealgIndexByte.indexByte) hf hb hn (by decide) (ext_spec hn ho (by kernel_rfl) (by kernel_rfl) (by kernel_rfl) (by kernel_rfl) (by kernel_rfl)) ?_ hw he
          cases k <;> first | exact .halt | skip
          have hd : Extern.BytealgIndexByte.indexByte #[.string s, .int .u8 c] = (match (List.range s.size).find? fun i => s[i]! == c.toNat.toUInt8 with | some i => pure (goInt i) | none => pure (goInt (-1))) := rfl
          show SRel P VRel m (Extern.BytealgIndexByte.indexByte #[.string s, .int .u8 c]) (Extern.BytealgIndexByte.indexByte #[.string s, .int .u8 c])
          rw [hd]
          split <;> exact .pure (.int _ _)
         ·split at he
          ·rename_i hn
           have hn : fn.name = "internal/bytealg.CountString" := by simpa using hn
           refine ext_run (e := Extern.BytealgCount.count) hf hb hn (by decide) (ext_spec hn ho (by kernel_rfl) (by kernel_rfl) (by kernel_rfl) (by kernel_rfl) (by kernel_rfl)) ?_ hw he
           cases k <;> first | exact .halt | exact .pure (.int _ _)
          ·simp at he
  ·rename_i s t hl
   obtain ⟨l', rfl, hl'⟩ := row_of_list ha hl
   have hargs : a = #[.string s, .string t] := by rw [← Array.toArray_toList (xs := a), hl]
   subst hargs
   cases hl' with
   | cons q1 q2 => cases q2 with
     | cons q3 q4 => cases q4 with
       | nil =>
         cases q1; cases q3
         split at he
         ·rename_i hn
          have hn : fn.name = "internal/bytealg.abigen_runtime_cmpstring" := by simpa using hn
          refine ext_run (e := Extern.BytealgCompare.compare) hf hb hn (by decide) (ext_spec hn ho (by kernel_rfl) (by kernel_rfl) (by kernel_rfl) (by kernel_rfl) (by kernel_rfl)) ?_ hw he
          exact .pure (.int _ _)
         ·simp at he
  ·simp at he
 ·simp at he
end Go.Proofs.YtlbipokkdiiaiaaGreatDoor.Exec
namespace Go.Proofs.YtlbipokkdiiaiaaGreatDoor.Exec
variable {P : Program} {m : Bij} {h : H} {W : World}
theorem pair_equal {t : TypeId} {x x' y y' : Value} (hx : VRel m x x') (hy : VRel m y y') (hp : pair x y = true) (hi : ¬ ∃ k a b, (∃ j, x = .int k a ∧ y = .int j b)) (hs : ¬ ∃ a b, x = .string a ∧ y = .string b) (hq : ptrs P t x y = true) :
  SRel P EqR m (Op.equal t x y) (Op.equal t x' y') := by
 unfold Op.equal
 rw [show Op.maxDepth = 9999 + 1 from rfl]
 generalize 9999 = N
 simp only [Op.equalIn]
 refine rel_under_bind t fun d hd => ?_
 cases hx with
 | bool a => cases hy with
   | bool b => cases d <;> first | exact .halt | exact rel_eq _
   | _ => simp [pair] at hp
 | int k a => cases hy with
   | int j b => exact absurd ⟨k, a, b, j, rfl, rfl⟩ hi
   | _ => simp [pair] at hp
 | string a => cases hy with
   | string b => exact absurd ⟨a, b, rfl, rfl⟩ hs
   | _ => simp [pair] at hp
 | pointer ha => cases hy with
   | pointer hb => cases ha with
     | none => cases hb with
       | none => cases d <;> first | exact .halt | exact rel_eq _
       | some hb => cases d <;> first | exact .halt | exact rel_eq _
     | some ha => cases hb with
       | none => cases d <;> first | exact .halt | exact rel_eq _
       | some hb =>
         simp only [ptrs, hd] at hq
         cases d with
         | pointer e =>
           cases ha with
           | @mk b0 b0' o s h1 => cases hb with
             | @mk b1 b1' o2 s2 h2 =>
               have hbb : b0 = b1 := by simpa [pair] using hp
               subst hbb
               obtain rfl := m.fn h1 h2
               have e1 : ((⟨b0, o, s⟩ : Addr) == ⟨b0, o2, s2⟩) = ((⟨b0', o, s⟩ : Addr) == ⟨b0', o2, s2⟩) := by
                rw [Bool.eq_iff_iff]; simp
               refine rel_size_bind e fun i hi => ?_
               split
               ·unfold sameAddr
                simp only [beq_self_eq_true, if_true, e1]
                exact rel_eq _
               ·rw [e1]
                split
                ·exact rel_eq _
                ·exact .choose fun hf => by simp [Question.forced] at hf
         | _ => simp at hq
   | _ => cases ha <;> simp [pair] at hp
 | slice l c hc ha => cases hy with
   | slice l2 c2 hc2 hb => cases ha <;> cases hb <;> first | (simp [pair] at hp; done) | (cases d <;> first | exact .halt | exact rel_eq _)
   | sliceU l2 c2 e hb h1 h2 h3 => cases ha <;> first | (simp [pair] at hp; done) | (cases d <;> first | exact .halt | exact rel_eq _)
   | _ => cases ha <;> simp [pair] at hp
 | sliceU l c e hb h1 h2 h3 => cases hy with
   | slice l2 c2 hc2 hb => cases hb <;> first | (simp [pair] at hp; done) | (cases d <;> first | exact .halt | exact rel_eq _)
   | _ => simp [pair] at hp
 | map ha => cases hy with
   | map hb => cases ha <;> cases hb <;> first | (simp [pair] at hp; done) | (cases d <;> first | exact .halt | exact rel_eq _)
   | _ => cases ha <;> simp [pair] at hp
 | func hf h1 h2 h3 h4 => cases hy with
   | nilFunc => cases d <;> first | exact .halt | exact rel_eq _
   | _ => simp [pair] at hp
 | nilFunc => cases hy with
   | nilFunc => cases d <;> first | exact .halt | exact rel_eq _
   | func hf h1 h2 h3 h4 => cases d <;> first | exact .halt | exact rel_eq _
   | _ => simp [pair] at hp
 | iface t hv => cases hy with
   | nilIface => cases d <;> first | exact .halt | exact rel_eq _
   | _ => simp [pair] at hp
 | nilIface => cases hy with
   | nilIface => cases d <;> first | exact .halt | exact rel_eq _
   | iface t hv => cases d <;> first | exact .halt | exact rel_eq _
   | _ => simp [pair] at hp
 | _ => simp [pair] at hp
theorem eqGuard_rel (op : BinOp) (t : TypeId) (xo yo : Operand) {x x' y y' : Value} (hx : VRel m x x') (hy : VRel m y y') (hp : pair x y = true) : SRel P (fun _ _ _ => True) m (eqGuard op t xo yo x y) (eqGuard op t xo yo x' y') := by
 have nn : SRel P (fun _ _ _ => True) m (eqGuard op t xo yo .nilIface .nilIface) (eqGuard op t xo yo .nilIface .nilIface) := by
  have hg : SRel P EqR m (Op.eqGuardIn Op.maxDepth t .nilIface .nilIface) (Op.eqGuardIn Op.maxDepth t .nilIface .nilIface) := by
   rw [show Op.maxDepth = 9999 + 1 from rfl]
   generalize 9999 = N
   simp only [Op.eqGuardIn]
   exact rel_under_bind t fun d hd => by cases d <;> exact rel_eq _
  have hu : SRel P (fun _ _ _ => True) m (do if ← Op.eqGuardIn Op.maxDepth t .nilIface .nilIface then (unsupported (.noEntry "binop/eql: two nil values of an interface type with methods, neither of them the literal nil") : Sem Unit) else pure ())
    (do if ← Op.eqGuardIn Op.maxDepth t .nilIface .nilIface then (unsupported (.noEntry "binop/eql: two nil values of an interface type with methods, neither of them the literal nil") : Sem Unit) else pure ()) :=
   hg.bind fun m1 a b _ e => by
    cases e
    split
    ·exact .halt
    ·exact .pure trivial
  unfold eqGuard
  repeat' split
  all_goals first | exact .pure trivial | exact hu | (exfalso; simp_all; done)
 have other : ∀ a b : Value, (∀ c d, ¬ (a = .agg c ∧ b = .agg d)) → ¬ (a = .nilIface ∧ b = .nilIface) → eqGuard op t xo yo a b = pure () := by
  intro a b h1 h2
  unfold eqGuard
  repeat' split
  all_goals first | rfl | exact absurd ⟨rfl, rfl⟩ h2 | exact absurd ⟨rfl, rfl⟩ (h1 _ _) | simp_all
 by_cases hn : x = .nilIface ∧ y = .nilIface
 ·obtain ⟨rfl, rfl⟩ := hn
  cases hx; cases hy; exact nn
 ·rw [other x y (by rintro c d ⟨rfl, rfl⟩; simp [pair] at hp) hn, other x' y' (by rintro c d ⟨rfl, rfl⟩; cases hx; cases hy; simp [pair] at hp) (by rintro ⟨rfl, rfl⟩; cases hx; cases hy; exact hn ⟨rfl, rfl⟩)]
  exact .pure trivial
theorem bin_eql (t : TypeId) {x y : Value} (hp : pair x y = true) (hi : ¬ ∃ k a b, (∃ j, x = .int k a ∧ y = .int j b)) (hs : ¬ ∃ a b, x = .string a ∧ y = .string b) :
  binOp .eql t x y = (do pure (.bool (← Op.equal t x y))) ∧ binOp .neq t x y = (do pure (.bool (!(← Op.equal t x y)))) := by
 unfold pair at hp
 split at hp <;> first | exact ⟨rfl, rfl⟩ | (exfalso; exact hi ⟨_, _, _, _, rfl, rfl⟩) | (exfalso; exact hs ⟨_, _, rfl, rfl⟩) | (simp at hp; done)
theorem pair_true {x x' y y' : Value} (hx : VRel m x x') (hy : VRel m y y') (hp : pair x y = true) : pair x' y' = true := by
 unfold pair at hp
 split at hp
 ·cases hx; cases hy; rfl
 ·cases hx; cases hy; rfl
 ·cases hx; cases hy; rfl
 ·cases hx with | pointer h1 => cases h1; cases hy; rfl
 ·cases hy with | pointer h1 => cases h1; cases hx with | pointer h2 => cases h2 <;> rfl
 ·cases hx with | pointer h1 => cases h1 with | some h1 => cases h1 with | @mk b0 b0' o s h1 => cases hy with | pointer h2 => cases h2 with | some h2 => cases h2 with | @mk b1 b1' o2 s2 h2 =>
   have e : b0 = b1 := by simpa using hp
   subst e
   have := m.fn h1 h2
   subst this
   simp [pair]
 ·cases hx with | slice _ _ _ h1 => cases h1; cases hy <;> rfl
 ·cases hy with | slice _ _ _ h1 => cases h1; cases hx with
   | slice _ _ _ h2 => cases h2 <;> rfl
   | sliceU _ _ _ _ _ _ _ => rfl
 ·cases hx with | map h1 => cases h1; cases hy; rfl
 ·cases hy with | map h1 => cases h1; cases hx with | map h2 => cases h2 <;> rfl
 ·cases hx; cases hy; rfl
 ·cases hx; cases hy; rfl
 ·cases hx; cases hy; rfl
 ·cases hx; cases hy; rfl
 ·cases hx; cases hy; rfl
 ·cases hx; cases hy; rfl
 ·simp at hp
theorem rel_binOp (op : BinOp) (t : TypeId) {x x' y y' : Value} (hx : VRel m x x') (hy : VRel m y y') (hp : pair x y = true) (hq : ptrs P t x y = true) (ho : plainOp op x y = true) : SRel P VRel m (binOp op t x y) (binOp op t x' y') := by
 by_cases hi : ∃ k a b, (∃ j, x = .int k a ∧ y = .int j b)
 ·obtain ⟨k, a, b, j, rfl, rfl⟩ := hi
  cases hx; cases hy; exact rel_binInt op t _ _ _ _
 ·by_cases hs : ∃ a b, x = .string a ∧ y = .string b
  ·obtain ⟨a, b, rfl, rfl⟩ := hs
   cases hx; cases hy; exact rel_binStr op t _ _
  ·have hp' := pair_true hx hy hp
   have hi' : ¬ ∃ k a b, (∃ j, x' = .int k a ∧ y' = .int j b) := by
    rintro ⟨k, a, b, j, rfl, rfl⟩; cases hx; cases hy; exact hi ⟨_, _, _, _, rfl, rfl⟩
   have hs' : ¬ ∃ a b, x' = .string a ∧ y' = .string b := by
    rintro ⟨a, b, rfl, rfl⟩; cases hx; cases hy; exact hs ⟨_, _, rfl, rfl⟩
   have e1 := bin_eql t hp hi hs
   have e2 := bin_eql t hp' hi' hs'
   have hr := pair_equal (t := t) hx hy hp hi hs hq
   have : op = .eql ∨ op = .neq := by
    unfold plainOp at ho
    split at ho
    ·exact absurd ⟨_, _, _, _, rfl, rfl⟩ hi
    ·exact absurd ⟨_, _, rfl, rfl⟩ hs
    ·cases op <;> simp at ho <;> simp
   rcases this with rfl | rfl
   ·rw [e1.1, e2.1]; exact hr.bind fun _ a b _ e => by cases e; exact .pure (.bool _)
   ·rw [e1.2, e2.2]; exact hr.bind fun _ a b _ e => by cases e; exact .pure (.bool _)
end Go.Proofs.YtlbipokkdiiaiaaGreatDoor.Exec
namespace Go.Proofs.YtlbipokkdiiaiaaGreatDoor.Exec
variable {P : Program} {m : Bij} {h : H} {W : World}
theorem sameInts_true {l l' k k' : List Value} (hl : LRel m l l') (hk : LRel m k k') {r : Bool} (h : sameInts l k = some r) : sameInts l' k' = some r := by
 induction hl generalizing k k' r with
 | nil => cases hk with
   | nil => exact h
   | cons _ _ => simp [sameInts] at h
 | @cons v v' l1 l1' hv hl ih => cases hk with
   | nil => cases hv <;> simp [sameInts] at h
   | @cons u u' k1 k1' hu hk =>
     cases hv <;> cases hu <;> first | (simp [sameInts] at h; done) | skip
     simp only [sameInts] at h ⊢
     split at h
     ·rename_i e
      rw [if_pos e]
      cases hs : sameInts l1 k1 with
      | none => rw [hs] at h; simp at h
      | some r2 => rw [hs] at h; rw [ih hk hs]; exact h
     ·simp at h
theorem part_true (t : TypeId) {c c' : Array Value} (hc : RowRel m c c') (off : Nat) : OptRel (VRel m) (aPart P t c off) (aPart P t c' off) := by
 unfold aPart
 cases P.underlying t with
 | none => exact .none
 | some d => cases P.info? t with
   | none => cases d <;> exact .none
   | some i => cases d <;> first | exact hc.get off | exact .some (.agg (hc.extract _ _).size (hc.extract _ _).at_)
theorem fields_true (eq : TypeId → Value → Value → Option Bool) (heq : ∀ t x x' y y' r, VRel m x x' → VRel m y y' → eq t x y = some r → eq t x' y' = some r) {c c' d d' : Array Value} (hc : RowRel m c c') (hd : RowRel m d d') :
  ∀ (fs : List Field) {r : Bool}, aEqFields P eq c d fs = some r → aEqFields P eq c' d' fs = some r
 | [], r, h => h
 | f :: fs, r, h => by
   simp only [aEqFields] at h ⊢
   split at h
   ·rename_i e; rw [if_pos e]; exact fields_true eq heq hc hd fs h
   ·rename_i e; rw [if_neg e]
    have h1 := part_true (P := P) f.type hc f.offset
    have h2 := part_true (P := P) f.type hd f.offset
    split at h
    ·rename_i x y hx hy
     rw [hx] at h1; rw [hy] at h2
     cases hx' : aPart P f.type c' f.offset <;> rw [hx'] at h1 <;> cases h1
     cases hy' : aPart P f.type d' f.offset <;> rw [hy'] at h2 <;> cases h2
     rename_i q1 _ q2
     simp only
     split at h
     ·rename_i e2; rw [heq _ _ _ _ _ _ q1 q2 e2]; exact fields_true eq heq hc hd fs h
     ·rename_i e2; rw [heq _ _ _ _ _ _ q1 q2 e2]; exact h
     ·simp at h
    ·simp at h
theorem equal_true : ∀ (n : Nat) (t : TypeId) {x x' y y' : Value} {r : Bool}, VRel m x x' → VRel m y y' → aEqual P n t x y = some r → aEqual P n t x' y' = some r
 | 0, _, _, _, _, _, _, _, _, h => by simp [aEqual] at h
 | n + 1, t, x, x', y, y', r, hx, hy, h => by
   simp only [aEqual] at h ⊢
   cases hd : P.underlying t with
   | none => simp [hd] at h
   | some d =>
     rw [hd] at h
     cases d with
     | int k => split at h <;> first | (simp at h; done) | (rename_i e; simp only [Option.some.injEq, reduceCtorEq] at e; done) | (cases hx; cases hy; exact h)
     | string => split at h <;> first | (simp at h; done) | (rename_i e; simp only [Option.some.injEq, reduceCtorEq] at e; done) | (cases hx; cases hy; exact h)
     | bool => split at h <;> first | (simp at h; done) | (rename_i e; simp only [Option.some.injEq, reduceCtorEq] at e; done) | (cases hx; cases hy; exact h)
     | array len e =>
       cases hx with
       | agg hs hc => cases hy with
         | agg hs2 hc2 =>
           simp only at h ⊢
           split at h
           ·rename_i k i h1 h2
            rw [← hs, ← hs2]
            split at h
            ·rename_i e1; rw [if_pos e1]
             exact sameInts_true (RowRel.toList ⟨hs, hc⟩) (RowRel.toList ⟨hs2, hc2⟩) h
            ·simp at h
           ·simp at h
         | _ => simp at h
       | _ => simp at h
     | struct fs =>
       cases hx with
       | agg hs hc => cases hy with
         | agg hs2 hc2 =>
           simp only at h ⊢
           split at h
           ·simp at h
           ·rename_i e; rw [if_neg e]
            exact fields_true _ (fun t x x' y y' r h1 h2 h3 => equal_true n t h1 h2 h3) ⟨hs, hc⟩ ⟨hs2, hc2⟩ _ h
         | _ => simp at h
       | _ => simp at h
     | _ => simp at h
theorem run_aPart {t : TypeId} {c : Array Value} {off : Nat} {v : Value} (hp : aPart P t c off = some v) : (part t c off).run P W = .ok v W := by
 unfold aPart at hp
 cases hd : P.underlying t with
 | none => simp [hd] at hp
 | some d =>
   cases hi : P.info? t with
   | none => cases d <;> simp [hd, hi] at hp
   | some i =>
     cases d <;> simp only [hd, hi] at hp <;> simp [part, isAgg, run_underlying hd, sizeOf, typeInfo, hi] <;> first | (rw [hp]; rfl) | simpa using hp
theorem run_items (N : Nat) {e : TypeId} {k : IntKind} (hd : P.underlying e = some (.int k)) {i : TypeInfo} (hi : P.info? e = some i) (hs : i.size = 1) (xs ys : Array Value) :
  ∀ (n j : Nat) {r : Bool}, j + n = xs.size → xs.size = ys.size → sameInts (xs.toList.drop j) (ys.toList.drop j) = some r → (Op.eqItems (N + 1) e (P.cellsOf e) xs ys (List.range' j n)).run P W = .ok r W
 | 0, j, r, h1, h2, h => by
   rw [List.drop_eq_nil_of_le (by simp; omega), List.drop_eq_nil_of_le (by simp; omega)] at h
   simp only [sameInts, Option.some.injEq] at h
   subst h; simp [Op.eqItems]
 | n + 1, j, r, h1, h2, h => by
   have hx : j < xs.toList.length := by simp; omega
   have hy : j < ys.toList.length := by simp; omega
   rw [List.drop_eq_getElem_cons hx, List.drop_eq_getElem_cons hy] at h
   have hc : P.cellsOf e = 1 := by simp [Program.cellsOf, hi, hs]
   cases ha : xs.toList[j] <;> cases hb : ys.toList[j] <;> rw [ha, hb] at h <;> first | (simp [sameInts] at h; done) | skip
   rename_i k1 a k2 b
   simp only [sameInts] at h
   split at h
   ·rename_i ek
    subst ek
    have p1 : aPart P e xs (j * P.cellsOf e) = some (.int k1 a) := by
     simp only [aPart, hd, hi, hc, Nat.mul_one]
     rw [← Array.getElem?_toList, List.getElem?_eq_getElem hx, ha]
    have p2 : aPart P e ys (j * P.cellsOf e) = some (.int k1 b) := by
     simp only [aPart, hd, hi, hc, Nat.mul_one]
     rw [← Array.getElem?_toList, List.getElem?_eq_getElem hy, hb]
    cases hr : sameInts (xs.toList.drop (j + 1)) (ys.toList.drop (j + 1)) with
    | none => rw [hr] at h; simp at h
    | some r2 =>
      rw [hr] at h
      simp only [Option.map_some, Option.some.injEq] at h
      have ih := run_items N hd hi hs xs ys n (j + 1) (by omega) h2 hr
      simp only [List.range'_succ, Op.eqItems, Sem.run_bind, run_aPart p1, run_aPart p2, Result.andThen_ok, run_equalIn_int W N e k1 k a b hd]
      cases hab : (a == b)
      ·rw [hab] at h; simp only [Bool.false_and] at h; subst h; simp
      ·rw [hab] at h; simp only [Bool.true_and] at h; subst h; simpa using ih
   ·simp at h
theorem run_equal : ∀ (n : Nat) (t : TypeId) {x y : Value} {r : Bool} (N : Nat), n < N → aEqual P n t x y = some r → (Op.equalIn N t x y).run P W = .ok r W
 | 0, _, _, _, _, _, _, h => by simp [aEqual] at h
 | n + 1, t, x, y, r, 0, hN, h => by omega
 | n + 1, t, x, y, r, N + 1, hN, h => by
   simp only [aEqual] at h
   cases hd : P.underlying t with
   | none => simp [hd] at h
   | some d =>
     rw [hd] at h
     cases d with
     | int k =>
       cases x <;> cases y <;> simp only [reduceCtorEq] at h
       rename_i k1 a k2 b
       split at h
       ·rename_i e; subst e
        simp only [Option.some.injEq] at h; subst h
        exact run_equalIn_int W N t k1 k a b hd
       ·simp at h
     | string =>
       cases x <;> cases y <;> simp only [reduceCtorEq] at h
       simp only [Option.some.injEq] at h; subst h
       simp [Op.equalIn, run_underlying hd]
     | bool =>
       cases x <;> cases y <;> simp only [reduceCtorEq] at h
       simp only [Option.some.injEq] at h; subst h
       simp [Op.equalIn, run_underlying hd]
     | array len e =>
       cases x <;> cases y <;> simp only [reduceCtorEq] at h
       rename_i c c'
       split at h
       ·rename_i k i h1 h2
        split at h
        ·rename_i hc
         simp only [Bool.and_eq_true, beq_iff_eq] at hc
         obtain ⟨⟨c1, c2⟩, c3⟩ := hc
         rw [run_equalIn_array (w := W) N c c' hd h2]
         obtain ⟨N, rfl⟩ : ∃ M, N = M + 1 := ⟨N - 1, by omega⟩
         rw [List.range_eq_range']
         exact run_items N h1 h2 c1 c c' len 0 (by omega) (by omega) (by simpa using h)
        ·simp at h
       ·simp at h
     | struct fs =>
       cases x <;> cases y <;> simp only [reduceCtorEq] at h
       rename_i c c'
       split at h
       ·simp at h
       ·rename_i hp
        have hf : P.fieldsOf t = fs := by simp [Program.fieldsOf, hd]
        rw [run_equalIn_struct W N t c c' (by rw [hf]; exact hd) (by simpa using hp), hf]
        have go : ∀ (l : List Field) {r : Bool}, aEqFields P (aEqual P n) c c' l = some r → (Op.eqFields N c c' l).run P W = .ok r W := by
         intro l
         induction l with
         | nil => intro r h; simp only [aEqFields, Option.some.injEq] at h; subst h; simp [Op.eqFields]
         | cons f l ih =>
           intro r h
           simp only [aEqFields] at h
           split at h
           ·rename_i e; simp only [Op.eqFields, e, ne_eq, not_true_eq_false, if_false]; exact ih h
           ·rename_i e
            simp only [Op.eqFields, e, ne_eq, not_false_eq_true, if_true]
            split at h
            ·rename_i u v hu hv
             simp only [Sem.run_bind, run_aPart hu, run_aPart hv, Result.andThen_ok]
             split at h
             ·rename_i e2; rw [run_equal n f.type N (by omega) e2]; simpa using ih h
             ·rename_i e2; rw [run_equal n f.type N (by omega) e2]; simp only [Option.some.injEq] at h; subst h; simp
             ·simp at h
            ·simp at h
        exact go fs.toList h
     | _ => simp at h
end Go.Proofs.YtlbipokkdiiaiaaGreatDoor.Exec
namespace Go.Proofs.YtlbipokkdiiaiaaGreatDoor.Exec
variable {P : Program} {m : Bij} {h : H} {W : World}
theorem key_true {t : TypeId} {k k' : Value} (hk : VRel m k k') (h : aKey P t k = true) : aKey P t k' = true := by
 unfold aKey at h ⊢
 cases hd : P.underlying t with
 | none => simp [hd] at h
 | some d =>
   rw [hd] at h
   cases d with
   | int j => cases hk <;> first | (simp at h; done) | rfl
   | string => cases hk <;> first | (simp at h; done) | rfl
   | array n e => cases hk with
     | agg hs hc => simp only at h ⊢; rw [← hs]; exact h
     | _ => simp at h
   | _ => simp at h
theorem run_items_key (e : TypeId) {j : IntKind} (hd : P.underlying e = some (.int j)) {i : TypeInfo} (hi : P.info? e = some i) (hs : i.size = 1) (b : Bool) (N : Nat) (cs : Array Value) :
  ∀ (l : List Nat), (∀ x ∈ l, x < cs.size) → (forIn l PUnit.unit fun x _ => (do Instr.checkKey b (N + 1) e (← part e cs (x * (← sizeOf e))); pure (ForInStep.yield PUnit.unit) : Sem (ForInStep PUnit))).run P W = .ok PUnit.unit W
 | [], _ => by simp
 | x :: l, hl => by
   have hx : x < cs.size := hl x (by simp)
   have p1 : aPart P e cs x = some cs[x] := by simp [aPart, hd, hi, hx]
   have hck : ∀ v, (Instr.checkKey b (N + 1) e v).run P W = .ok () W := by
    intro v
    unfold Instr.checkKey
    simp only [Sem.run_bind, run_underlying hd, Result.andThen_ok]
    rfl
   have hsz : (sizeOf e).run P W = .ok 1 W := by simp [sizeOf, typeInfo, hi, hs]
   have ih := run_items_key e hd hi hs b N cs l (fun y hy => hl y (by simp [hy]))
   simp only [List.forIn_cons, Sem.run_bind, hsz, Result.andThen_ok, Nat.mul_one, run_aPart p1, hck, Sem.run_pure]
   exact ih
theorem run_key {t : TypeId} {k : Value} (h : aKey P t k = true) (b : Bool) : (Instr.checkKey b 10000 t k).run P W = .ok () W := by
 rw [show (10000 : Nat) = 9998 + 1 + 1 from rfl]
 generalize 9998 = N
 unfold aKey at h
 cases hd : P.underlying t with
 | none => simp [hd] at h
 | some d =>
   rw [hd] at h
   unfold Instr.checkKey
   simp only [Sem.run_bind, run_underlying hd, Result.andThen_ok]
   cases d with
   | int j => cases k <;> first | (simp at h; done) | rfl
   | string => cases k <;> first | (simp at h; done) | rfl
   | array n e => cases k with
     | agg c =>
       simp only at h
       split at h
       ·rename_i j i h1 h2
        simp only [Bool.and_eq_true, beq_iff_eq] at h
        obtain ⟨c1, c2⟩ := h
        have := run_items_key (W := W) e h1 h2 c1 b N c (List.range' 0 n) (by intro x hx; simp at hx; omega)
        simp only [Std.Legacy.Range.forIn_eq_forIn_range', Std.Legacy.Range.size, Nat.sub_zero, Nat.add_one_sub_one, Nat.div_one]
        rw [Sem.run_bind, this]; rfl
       ·simp at h
     | _ => simp at h
   | _ => simp at h
theorem run_equal' {t : TypeId} {x y : Value} {r : Bool} (h : aEqual P 4 t x y = some r) : (Op.equal t x y).run P W = .ok r W := run_equal 4 t 10000 (by omega) h
theorem sameNow_true {t : TypeId} {d : TypeDesc} (hd : P.underlying t = some d) {k x : Value} (hk : aKey P t k = true) {r : Bool} (h : aEqual P 4 t k x = some r) : (∀ n e, d ≠ .array n e) → Instr.sameNow d k x = some r := by
 intro hn
 unfold aKey at hk
 rw [hd] at hk
 simp only [aEqual, hd] at h
 cases d with
 | int j =>
   cases k <;> first | (simp at hk; done) | skip
   cases x <;> simp only [reduceCtorEq] at h
   split at h
   ·rename_i e; simp only [Instr.sameNow, if_pos e]; exact h
   ·simp at h
 | string =>
   cases k <;> first | (simp at hk; done) | skip
   cases x <;> simp only [reduceCtorEq] at h
   exact h
 | array n e => exact absurd rfl (hn n e)
 | _ => simp at hk
theorem run_find {t : TypeId} {k : Value} (hk : aKey P t k = true) {es : List MapEntry} {r : Option (Nat × Value)} (h : aFind P t k es 0 = some r) : (Instr.findKey t k es).run P W = .ok r W := by
 unfold Instr.findKey
 cases hd : P.underlying t with
 | none => simp [aKey, hd] at hk
 | some d =>
   simp only [Sem.run_bind, run_underlying hd, Result.andThen_ok]
   by_cases ha : ∃ n e, d = .array n e
   ·obtain ⟨n, e, rfl⟩ := ha
    have go : ∀ (es : List MapEntry) (i : Nat) {r}, aFind P t k es i = some r → (Instr.findAsking t k es i).run P W = .ok r W := by
     intro es
     induction es with
     | nil => intro i r h; simp only [aFind, Option.some.injEq] at h; subst h; rfl
     | cons x es ih =>
       intro i r h
       simp only [aFind] at h
       simp only [Instr.findAsking, Sem.run_bind]
       split at h
       ·rename_i e2; rw [run_equal' e2]; simp only [Option.some.injEq] at h; subst h; simp
       ·rename_i e2; rw [run_equal' e2]; simpa using ih (i + 1) h
       ·simp at h
    cases es with
    | nil => simp only [aFind, Option.some.injEq] at h; subst h; rfl
    | cons x es =>
      have hnow : Instr.findNow (.array n e) k (x :: es) 0 = none := by
       simp only [Instr.findNow]
       cases k <;> cases hx : x.key <;> rfl
      rw [hnow]
      exact go _ 0 h
   ·have go : ∀ (es : List MapEntry) (i : Nat) {r}, aFind P t k es i = some r → Instr.findNow d k es i = some r := by
     intro es
     induction es with
     | nil => intro i r h; exact h
     | cons x es ih =>
       intro i r h
       simp only [aFind] at h
       simp only [Instr.findNow]
       split at h
       ·rename_i e2; rw [sameNow_true hd hk e2 (fun n e he => ha ⟨n, e, he⟩)]; exact h
       ·rename_i e2; rw [sameNow_true hd hk e2 (fun n e he => ha ⟨n, e, he⟩)]; exact ih (i + 1) h
       ·simp at h
    rw [go es 0 h]; rfl
inductive ELRel (m : Bij) : List MapEntry → List MapEntry → Prop
 | nil : ELRel m [] []
 | cons {e e' : MapEntry} {l l' : List MapEntry} : EntryRel m e e' → ELRel m l l' → ELRel m (e :: l) (e' :: l')
theorem ELRel.of_get : ∀ {l l' : List MapEntry}, l.length = l'.length → (∀ (i : Nat) (h : i < l.length) (h' : i < l'.length), EntryRel m l[i] l'[i]) → ELRel m l l'
 | [], [], _, _ => .nil
 | v :: l, v' :: l', hs, h => .cons (h 0 (by simp) (by simp)) (ELRel.of_get (by simpa using hs) fun i a b => h (i + 1) (by simpa using a) (by simpa using b))
theorem find_true {t : TypeId} {k k' : Value} (hk : VRel m k k') {es es' : List MapEntry} (he : ELRel m es es') : ∀ (i : Nat) {r : Option (Nat × Value)}, aFind P t k es i = some r →
  ∃ r', aFind P t k' es' i = some r' ∧ OptRel (fun a b => a.1 = b.1 ∧ VRel m a.2 b.2) r r' := by
 induction he with
 | nil => intro i r h; simp only [aFind, Option.some.injEq] at h; subst h; exact ⟨none, rfl, .none⟩
 | cons h1 _ ih =>
   intro i r h
   simp only [aFind] at h ⊢
   split at h
   ·rename_i e2
    rw [equal_true 4 t hk h1.key e2]
    simp only [Option.some.injEq] at h; subst h
    exact ⟨_, rfl, .some ⟨rfl, h1.val⟩⟩
   ·rename_i e2
    rw [equal_true 4 t hk h1.key e2]
    exact ih (i + 1) h
   ·simp at h
end Go.Proofs.YtlbipokkdiiaiaaGreatDoor.Exec
