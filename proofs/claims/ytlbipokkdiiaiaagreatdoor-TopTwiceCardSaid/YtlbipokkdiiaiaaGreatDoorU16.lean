/- Lemmas for TopTwice: Builder, RowRef, PackCore, RowCore, NumWalks, W35. -/
import Derived.Test.YtlbipokkdiiaiaaGreatDoorU10
import Derived.Test.YtlbipokkdiiaiaaGreatDoorChecked
import Derived.Shelf.Strings.BuilderK
import Derived.Test.YtlbipokkdiiaiaaGreatDoorU13
import Derived.Test.YtlbipokkdiiaiaaGreatDoorU15
import Derived.Shelf.Strconv.ErrVarParseInt
import Derived.Lib.ItoaLen
import Derived.Test.YtlbipokkdiiaiaaGreatDoorU14
namespace Go.Proofs.YtlbipokkdiiaiaaGreatDoor
open Go.RowKit
theorem builder_size : (Tryz.prog.info? 215).map (·.size) = some 2 := by kernel_rfl
theorem builder_lies : liesAt Tryz.prog Tryz.prog.depth 215 (2 / Tryz.prog.cellsOf 215) 0 215 1 = true := by kernel_rfl
theorem byte_info : (Tryz.prog.info? 5).map (fun i => (i.zero, i.size, i.bytes)) = some (some (.int .u8 0), 1, 1) := by kernel_rfl
set_option maxHeartbeats 1000000 in
set_option maxRecDepth 100000 in
theorem copyCheck_used (b : Nat) (w : World) (h0 : w.cell? ⟨b, 0, none⟩ = some (.pointer (some ⟨b, 0, none⟩))) :
  Calls Tryz.prog 151 #[.pointer (some ⟨b, 0, none⟩)] w fun e w' => e = .returned (.tuple #[]) ∧ w' = w := by
 obtain ⟨j, hj, _⟩ := Option.map_eq_some_iff.1 builder_size
 go_enter Tryz.func151, Tryz.ntmps151
 go_wp2
 rw [Lib.run_neq_ptr_same w _ Tryz.underlying213 hj]
 go_wp2
 go_end0
 exact ⟨rfl, rfl⟩
set_option maxHeartbeats 1000000 in
set_option maxRecDepth 100000 in
theorem copyCheck_fresh (b : Nat) (w : World) (h0 : w.cell? ⟨b, 0, none⟩ = some (.pointer none)) (hsh : w.shape? b = some (215, 2)) (hfz : w.frozen? ⟨b, 0, none⟩ = false) :
  Calls Tryz.prog 151 #[.pointer (some ⟨b, 0, none⟩)] w fun e w' => e = .returned (.tuple #[]) ∧ w' = w.setCell ⟨b, 0, none⟩ (.pointer (some ⟨b, 0, none⟩)) := by
 obtain ⟨j, hj, hjs⟩ := Option.map_eq_some_iff.1 builder_size
 go_enter Tryz.func151, Tryz.ntmps151
 go_wp2
 rw [Lib.run_to_unsafe w ⟨b, 0, none⟩ Tryz.underlying213 Tryz.underlying316 hj (by rw [hjs]; decide) hsh (Nat.zero_lt_succ 1)]
 simp only [Result.andThen]
 rw [Oper.upon_value]
 go_wp2
 rw [run_callFunc_extern Tryz.func191 (by kernel_rfl) (by kernel_rfl) (by kernel_rfl) (e := Extern.AbiNoEscape.same) (by kernel_rfl)]
 rw [Lib.run_noEscape]
 simp only [Result.andThen]
 rw [Oper.upon_value]
 go_wp2
 rw [Lib.run_from_unsafe w ⟨b, 0, none⟩ Tryz.underlying316 Tryz.underlying213 hj hsh builder_lies]
 simp only [Result.andThen]
 rw [Oper.upon_value]
 go_wp2
 go_end0
 exact ⟨rfl, rfl⟩
theorem copyCheck_any (B b : Nat) (xs : List Value) (w : World) (h : Lib.IsBuilderF 215 5 B b xs w) :
  Calls Tryz.prog 151 #[.pointer (some ⟨b, 0, none⟩)] w fun e w' => e = .returned (.tuple #[]) ∧ (Lib.BuilderAtF 215 5 B b (.pointer (some ⟨b, 0, none⟩)) xs w' ∧ Below B w w' ∧ Lib.OthersKept 5 (some b) w w') := by
 rcases h with h | h
 ·refine (copyCheck_fresh b w h.cell0 h.shape h.frozen0).mono ?_
  rintro e w' ⟨rfl, rfl⟩
  exact ⟨rfl, h.used _, (Below.refl B w).setCell (p := ⟨b, 0, none⟩) h.1 _, (Lib.OthersKept.refl _ _ w).setCell ⟨b, 0, none⟩ rfl _⟩
 ·refine (copyCheck_used b w h.cell0).mono ?_
  rintro e w' ⟨rfl, rfl⟩
  exact ⟨rfl, h, Below.refl B _, Lib.OthersKept.refl _ _ _⟩
set_option maxHeartbeats 1000000 in
set_option maxRecDepth 100000 in
theorem writeByte_any (B b : Nat) (xs : List Value) (c : Int) (w : World) (h : Lib.IsBuilderF 215 5 B b xs w) (hlen : xs.length + 1 ≤ 140737488355328) (hBw : B ≤ w.heap.size) :
  Calls Tryz.prog 103 #[.pointer (some ⟨b, 0, none⟩), .int .u8 c] w fun e w' => e = .returned .nilIface ∧ (Lib.IsBuilderF 215 5 B b (xs ++ [.int .u8 c]) w' ∧ Below B w w' ∧ Lib.OthersKept 5 (some b) w w') := by
 obtain ⟨i0, hi, hz0, hz1, hz2⟩ := info_parts byte_info
 go_enter Tryz.func103, Tryz.ntmps103
 go_wp2_with (go_at_call 151; refine (copyCheck_any B b xs _ h).mono ?_)
 rintro e w1 ⟨rfl, h1, hb1, hk1⟩
 obtain ⟨hB, v, hbk, hown, hne⟩ := h1
 have c0 : w1.cell? ⟨b, 0, none⟩ = some (.pointer (some ⟨b, 0, none⟩)) := by rw [Lib.cell_of_heap hbk]; rfl
 have c1 : w1.cell? ⟨b, 1, none⟩ = some v := by rw [Lib.cell_of_heap hbk]; rfl
 go_wp2_with (at_builtin; refine wpList_append_ownF _ rfl _ _ 49 rfl B 5 i0 (.int .u8 0) 1 1 Tryz.underlying49 hi hz0 hz1 hz2 rfl (by decide) _ _ _ rfl (hown.alloc _) ⟨w1.heap.size, 0, none⟩ 1 1 [.int .u8 c] rfl rfl ?c1 ?c2 ?c3 ?c4 ?c5 ?_)
 case c1 =>
  intro j u hj
  match j, hj with
  | 0, hj => simp at hj; subst hj; simp [Addr.add]
 case c2 => intro u hu; simp at hu; subst hu; rfl
 case c3 => unfold maxLen; omega
 case c4 => omega
 case c5 => have := hb1.size; simp; omega
 intro v' w2 hown' hgrow _
 have hlt : b < w1.heap.size := by
  rcases Nat.lt_or_ge b w1.heap.size with h' | h'
  ·exact h'
  ·simp [Array.getElem?_eq_none h'] at hbk
 have hb2 : w2.heap[b]? = some (.cells #[.pointer (some ⟨b, 0, none⟩), v] 215 (0, 0)) := by
  rw [hgrow.block b (by simp; omega) (fun e => hne e.symm), Lib.alloc_old w1 _ b hlt]
  exact hbk
 have d0 : w2.cell? ⟨b, 0, none⟩ = some (.pointer (some ⟨b, 0, none⟩)) := by rw [Lib.cell_of_heap hb2]; rfl
 have d1 : w2.cell? ⟨b, 1, none⟩ = some v := by rw [Lib.cell_of_heap hb2]; rfl
 have f1 : w2.frozen? ⟨b, 1, none⟩ = false := Lib.frozen_of_heap hb2 1
 obtain ⟨g, cap, rfl⟩ : ∃ g cap, v' = .slice (some ⟨g, 0, none⟩) (xs.length + 1) cap := by
  rcases hown'.2 with ⟨_, h0⟩ | ⟨g, cap, cur, fz, hv, _⟩
  ·omega
  ·exact ⟨g, cap, hv⟩
 go_wp2
 go_ret
 refine ⟨rfl, .inr ?_, ?_, ((hk1.alloc _).grown hgrow (Lib.ownsRowF_kind (hown.alloc _))).setCell ⟨b, 1, none⟩ rfl _⟩
 ·exact Lib.BuilderAtF.put (T := 215) (e := 5) hB hb2 (bs' := xs ++ [.int .u8 c]) (by simpa using hown') (by decide)
 ·exact ((hb1.alloc (by have := hb1.size; omega) _).grown hgrow (by have := hb1.size; simp; omega) (fun k hk => (hown.lt k hk).1)).setCell (p := ⟨b, 1, none⟩) hB _
set_option maxHeartbeats 1000000 in
set_option maxRecDepth 100000 in
theorem writeString_any (B b : Nat) (xs : List Value) (s : ByteArray) (w : World) (h : Lib.IsBuilderF 215 5 B b xs w) (hlen : xs.length + s.size ≤ 140737488355328) (hBw : B ≤ w.heap.size) :
  Calls Tryz.prog 101 #[.pointer (some ⟨b, 0, none⟩), .string s] w fun e w' => e = .returned (.tuple #[.int .i64 s.size, .nilIface]) ∧ (Lib.IsBuilderF 215 5 B b (xs ++ Lib.strCells s) w' ∧ Below B w w' ∧ Lib.OthersKept 5 (some b) w w') := by
 obtain ⟨i0, hi, hz0, hz1, hz2⟩ := info_parts byte_info
 go_enter Tryz.func101, Tryz.ntmps101
 go_wp2_with (go_at_call 151; refine (copyCheck_any B b xs _ h).mono ?_)
 rintro e w1 ⟨rfl, h1, hb1, hk1⟩
 obtain ⟨hB, v, hbk, hown, hne⟩ := h1
 have c0 : w1.cell? ⟨b, 0, none⟩ = some (.pointer (some ⟨b, 0, none⟩)) := by rw [Lib.cell_of_heap hbk]; rfl
 have c1 : w1.cell? ⟨b, 1, none⟩ = some v := by rw [Lib.cell_of_heap hbk]; rfl
 go_wp2_with (at_builtin; refine Lib.wpList_append_own_stringF _ rfl _ _ 49 9 rfl B 5 i0 Tryz.underlying49 Tryz.underlying9 hi hz0 hz1 hz2 _ _ _ rfl hown s rfl ?c3 ?c4 ?c5 ?_)
 case c3 => unfold maxLen; omega
 case c4 => omega
 case c5 => have := hb1.size; omega
 intro v' w2 hown' hgrow _
 have hlt : b < w1.heap.size := by
  rcases Nat.lt_or_ge b w1.heap.size with h' | h'
  ·exact h'
  ·simp [Array.getElem?_eq_none h'] at hbk
 have hb2 : w2.heap[b]? = some (.cells #[.pointer (some ⟨b, 0, none⟩), v] 215 (0, 0)) := by
  rw [hgrow.block b hlt (fun e => hne e.symm)]
  exact hbk
 have d0 : w2.cell? ⟨b, 0, none⟩ = some (.pointer (some ⟨b, 0, none⟩)) := by rw [Lib.cell_of_heap hb2]; rfl
 have d1 : w2.cell? ⟨b, 1, none⟩ = some v := by rw [Lib.cell_of_heap hb2]; rfl
 have f1 : w2.frozen? ⟨b, 1, none⟩ = false := Lib.frozen_of_heap hb2 1
 obtain ⟨ao, n', cap, rfl⟩ : ∃ ao n' cap, v' = .slice ao n' cap := by
  rcases hown'.2 with ⟨hv, _⟩ | ⟨g, cap, cur, fz, hv, _⟩
  ·exact ⟨_, _, _, hv⟩
  ·exact ⟨_, _, _, hv⟩
 go_wp2
 go_ret2
 refine ⟨rfl, .inr ?_, ?_, (hk1.grown hgrow (Lib.ownsRowF_kind hown)).setCell ⟨b, 1, none⟩ rfl _⟩
 ·exact Lib.BuilderAtF.put (T := 215) (e := 5) hB hb2 (bs' := xs ++ Lib.strCells s) (by simpa [Lib.strCells_length] using hown') (by decide)
 ·exact (hb1.grown hgrow (by have := hb1.size; omega) (fun k hk => (hown.lt k hk).1)).setCell (p := ⟨b, 1, none⟩) hB _
theorem byteCells_append (l r : List UInt8) : Lib.byteCells (l ++ r) = Lib.byteCells l ++ Lib.byteCells r := by simp [Lib.byteCells]
theorem byteCells_str (l : List UInt8) : Lib.strCells (bs l) = Lib.byteCells l := by
 simp [Lib.strCells, Lib.byteCells, bs]
theorem writeByte_l (B b : Nat) (l : List UInt8) (c : UInt8) (w : World) (h : Lib.IsBuilderF 215 5 B b (Lib.byteCells l) w) (hlen : l.length + 1 ≤ 140737488355328) (hBw : B ≤ w.heap.size) :
  Calls Tryz.prog 103 #[.pointer (some ⟨b, 0, none⟩), .int .u8 c.toNat] w fun e w' => e = .returned .nilIface ∧ (Lib.IsBuilderF 215 5 B b (Lib.byteCells (l ++ [c])) w' ∧ Below B w w' ∧ Lib.OthersKept 5 (some b) w w') := by
 have := writeByte_any B b (Lib.byteCells l) c.toNat w h (by simpa [Lib.byteCells] using hlen) hBw
 rw [byteCells_append]; exact this
theorem writeString_l (B b : Nat) (l r : List UInt8) (w : World) (h : Lib.IsBuilderF 215 5 B b (Lib.byteCells l) w) (hlen : l.length + r.length ≤ 140737488355328) (hBw : B ≤ w.heap.size) :
  Calls Tryz.prog 101 #[.pointer (some ⟨b, 0, none⟩), .string (bs r)] w fun e w' => e = .returned (.tuple #[.int .i64 r.length, .nilIface]) ∧ (Lib.IsBuilderF 215 5 B b (Lib.byteCells (l ++ r)) w' ∧ Below B w w' ∧ Lib.OthersKept 5 (some b) w w') := by
 have := writeString_any B b (Lib.byteCells l) (bs r) w h (by simpa [Lib.byteCells, bs_size] using hlen) hBw
 rw [byteCells_append]; rw [byteCells_str] at this; exact this
theorem isBuilder_fresh (w : World) (B : Nat) (hB : B ≤ w.heap.size) : Lib.IsBuilderF 215 5 B w.heap.size (Lib.byteCells []) (w.alloc (.cells #[.pointer none, .slice none 0 0] 215 (0, 0))) :=
 .inl ⟨hB, .slice none 0 0, heap_alloc_new w _, ⟨by simp [Lib.byteCells], .inl ⟨rfl, by simp [Lib.byteCells]⟩⟩, by simp [Value.ownBlock]⟩
theorem builderAt_below {T e : TypeId} {B b : Nat} {p : Value} {xs : List Value} {w w' : World} (h : Lib.BuilderAtF T e B b p xs w) (hb : Below w.heap.size w w') : Lib.BuilderAtF T e B b p xs w' := by
 obtain ⟨hB, v, hbk, ⟨hl, hown⟩, hne⟩ := h
 refine ⟨hB, v, (hb.block b (Array.getElem?_eq_some_iff.1 hbk).1).trans hbk, ⟨hl, ?_⟩, hne⟩
 rcases hown with h0 | ⟨g, cap, cur, fz, hv, hg, hh, r⟩
 ·exact .inl h0
 ·exact .inr ⟨g, cap, cur, fz, hv, hg, (hb.block g (Array.getElem?_eq_some_iff.1 hh).1).trans hh, r⟩
theorem isBuilder_below {T e : TypeId} {B b : Nat} {xs : List Value} {w w' : World} (h : Lib.IsBuilderF T e B b xs w) (hb : Below w.heap.size w w') : Lib.IsBuilderF T e B b xs w' :=
 h.elim (fun x => .inl (builderAt_below x hb)) (fun x => .inr (builderAt_below x hb))
theorem var?_kept {P : Program} {w w' : World} {n : String} {cs : Array Value} (hv : w.var? P n = some cs) (hb : Below w.heap.size w w') : w'.var? P n = some cs := by
 unfold World.var? at hv ⊢
 cases hg : P.globalNamed n with
 | none => simp [hg] at hv
 | some g =>
   simp only [hg, Option.bind_some] at hv ⊢
   by_cases hlt : g < w.heap.size
   ·rw [hb.block g hlt]; exact hv
   ·rw [Array.getElem?_eq_none (by omega)] at hv; simp at hv
theorem tabIs_below {P : Program} {w w' : World} {n : String} {k : IntKind} {zs : List Int} (h : Lib.TabIs P w n k zs) (hb : Below w.heap.size w w') : Lib.TabIs P w' n k zs := var?_kept h hb
theorem string_l (B b : Nat) (l : List UInt8) (w : World) (h : Lib.IsBuilderF 215 5 B b (Lib.byteCells l) w) (hBw : B ≤ w.heap.size) :
  Calls Tryz.prog 104 #[.pointer (some ⟨b, 0, none⟩)] w fun e w' => e = .returned (.string (bs l)) ∧ Lib.IsBuilderF 215 5 B b (Lib.byteCells l) w' ∧ Below B w w' :=
 (Tryz.Builder_String_any_k B b l w h hBw).mono fun _ _ ⟨h1, h2, h3, _⟩ => ⟨h1, h2, h3⟩
def PowTab (w : World) : Prop := Lib.TabIs Tryz.prog w "internal/strconv.uint64pow10" .u64 Lib.pow10Tab
theorem PowTab.below {w w' : World} (h : PowTab w) (hb : Below w.heap.size w w') : PowTab w' := tabIs_below h hb
theorem grow_below (w : World) (k : Nat) (os : Array Obj) : Below w.heap.size w (Go.Sort.grow (w.drewN k) os) := by
 refine ⟨rfl, rfl, rfl, ?_, fun i hi => ?_⟩
 ·simp [Go.Sort.grow, World.drewN]
 ·simp [Go.Sort.grow, World.drewN, Array.getElem?_append, hi]
end Go.Proofs.YtlbipokkdiiaiaaGreatDoor
namespace Go.Proofs.YtlbipokkdiiaiaaGreatDoor
open Go.RowKit
theorem pstr_info : (Tryz.prog.info? 9).map (fun i => (i.zero, i.size, i.bytes)) = some (some (.string ⟨#[]⟩), 1, 16) := by kernel_rfl
end Go.Proofs.YtlbipokkdiiaiaaGreatDoor
namespace Go.Proofs.YtlbipokkdiiaiaaGreatDoor
open Go.RowKit
def HeadPost (l : List UInt8) (w : World) (e : Ending) (w' : World) : Prop :=
 ∃ (n : Nat) (t : List UInt8) (c : Nat), e = .returned (.tuple #[.int .i64 n, .string (bs t), .int .i64 c]) ∧ headFrom 0 0 l = (n, t, c) ∧ n < 1000000000 ∧ Drawn w w'
set_option maxHeartbeats 400000 in
theorem head_any (l : List UInt8) (w : World) (hs : l.length ≤ maxLen) :
  Calls Tryz.prog 125 #[.string (bs l)] w (HeadPost l w) := by
 unfold maxLen at hs
 go_enter Tryz.func125, Tryz.ntmps125
 go_wp2
 go_loop [5, 10] (fun n i => ∃ (k m : Nat), k ≤ l.length ∧ k ≤ 9 ∧ m < 10 ^ k ∧ i = .int .i64 k ∧ n = .int .i64 m ∧ headFrom 0 0 l = headFrom k m (l.drop k)) (fun _ i => l.length - (intOf i).toNat)
 case atStart => exact ⟨0, 0, by omega, by omega, by omega, rfl, rfl, rfl⟩
 case round =>
  obtain ⟨k, m, hk, hk9, hm, rfl, rfl, hh⟩ := hrel
  have Hh := hid hh; clear hh
  have hm' : m < 1000000000 := Nat.lt_of_lt_of_le hm (by have := Nat.pow_le_pow_right (n := 10) (by omega) hk9; omega)
  have Hm := hid hm; clear hm
  by_cases hlt : k < l.length
  ·have Hd := hid (drop_at l k hlt)
   go_wp2
   any_goals go_quiet (fail)
   any_goals go_wp2
   any_goals go_ret3
   all_goals (try simp only [beq_iff_eq, beq_eq_false_iff_ne] at *)
   all_goals first
    | (refine ⟨0, [], 3, rfl, ?_, by omega, by first | exact Drawn.refl _ | exact ⟨_, rfl⟩⟩
       rw [Hh.out, Hd.out]
       exact headFrom_bad (by omega) (by omega))
    | (refine ⟨m, List.take (l.length - (k + 1)) (List.drop (k + 1) l), 0, rfl, ?_, by omega, ⟨_, rfl⟩⟩
       rw [Hh.out, Hd.out, headFrom_done (by omega) (by omega), List.take_of_length_le (by rw [List.length_drop]; exact Nat.le_refl _)])
    | (refine ⟨⟨k + 1, 10 * m + (l[k].toNat - 48), by omega, by omega, ?_, by go_num, ?_, ?_⟩, by simp [intOf]; omega⟩
       ·rw [Nat.pow_succ]; have := Hm.out; omega
       ·exact congrArg _ (by omega)
       ·rw [Hh.out, Hd.out]; exact headFrom_more (by omega) (by omega))
    | go_goals
  ·go_wp2
   go_ret3
   refine ⟨0, [], 4, rfl, ?_, by omega, Drawn.refl _⟩
   rw [Hh.out, List.drop_eq_nil_of_le (by omega)]; rfl
def TextsPost (l : List UInt8) (w : World) (e : Ending) (w' : World) : Prop :=
 ∃ v, e = .returned (.tuple #[v, .int .i64 (textsL l).2]) ∧ SliceAt w' 1 v (textsL l).1.length (strCells (textsL l).1) ∧ Below w.heap.size w w' ∧ ∀ k, v.ownBlock = some k → w.heap.size ≤ k
def strSize : Value → Nat | .string s => s.size | _ => 0
set_option maxHeartbeats 400000 in
theorem texts_any (l : List UInt8) (w : World) (hs : l.length ≤ 1000000000000) :
  Calls Tryz.prog 84 #[.string (bs l)] w (TextsPost l w) := by
 obtain ⟨i0, hi, hz0, hz1, hz2⟩ := info_parts pstr_info
 go_enter Tryz.func84, Tryz.ntmps84
 go_wp2
 go_loopw [0, 4] (fun s o wr => ∃ (out : List (List UInt8)) (rest : List UInt8), s = .string (bs rest) ∧ textsL l = fin out (textsL rest) ∧ out.length + rest.length ≤ l.length ∧ wr.ownsRow w.heap.size 9 1 o out.length (strCells out) ∧ Below w.heap.size w wr) (fun s _ _ => strSize s)
 case atStart => exact ⟨[], l, rfl, (fin_nil l).symm, by simp, World.ownsRow_nil _ _ _ _, Below.refl _ _⟩
 case round =>
  obtain ⟨out, rest, rfl, ht, hlen, hown, hbw⟩ := hrel
  have Ht := hid ht; clear ht
  have hsz := hbw.size
  by_cases hr : rest = []
  ·subst hr
   go_wp2
   go_ret2
   have hx : textsL l = (out, 0) := by rw [Ht.out, textsL_nil]; simp [fin]
   refine ⟨_, by rw [hx]; rfl, ?_, hbw, fun k hk => (hown.lt k hk).1⟩
   rw [hx]; exact SliceAt.of_owns hown (by show out.length ≤ maxLen; unfold maxLen; omega)
  ·have hr' : rest.isEmpty = false := by simpa using hr
   have hmax : rest.length ≤ maxLen := by unfold maxLen; omega
   obtain ⟨n, t, c, hh⟩ : ∃ n t c, headFrom 0 0 rest = (n, t, c) := ⟨_, _, _, rfl⟩
   have Hh := hid hh; clear hh
   by_cases hc : c = 0
   ·subst hc
    have htl : t.length < rest.length := by have := headFrom_len rest 0 0 (by rw [Hh.out]); rw [Hh.out] at this; exact this
    by_cases hlt : t.length < n
    ·go_wp2_with (go_at_call 125; refine (head_any _ _ hmax).mono ?_; rintro e w' ⟨n', t', c', rfl, hh', hn, d, rfl⟩; obtain ⟨rfl, rfl, rfl⟩ : n = n' ∧ t = t' ∧ 0 = c' := by (rw [Hh.out] at hh'; simpa using hh'))
     go_ret2
     refine ⟨_, by rw [Ht.out, textsL_short Hh.out hr hlt]; rfl, ?_, hbw.trans (Drawn.below ⟨_, rfl⟩), fun k hk => by cases hk⟩
     rw [Ht.out, textsL_short Hh.out hr hlt]; exact SliceAt.nil _ _
    ·have hnt : n ≤ t.length := by omega
     go_wp2_with first
      | (go_at_call 125; refine (head_any _ _ hmax).mono ?_; rintro e w' ⟨n', t', c', rfl, hh', hn, d, rfl⟩; obtain ⟨rfl, rfl, rfl⟩ : n = n' ∧ t = t' ∧ 0 = c' := by (rw [Hh.out] at hh'; simpa using hh'))
      | (at_builtin; go_must (refine wpList_append_own _ rfl _ _ 46 rfl w.heap.size 9 i0 (.string ⟨#[]⟩) 1 16 Tryz.underlying46 hi hz0 hz1 hz2 rfl (by decide) _ _ _ rfl ((ownsRow_drewN hown d).alloc _) ⟨wr.heap.size, 0, none⟩ 1 1 [.string (bs (t.take n))] rfl rfl ?c1 ?c2 ?c3 ?c4 ?c5 ?_))
     case c1 => exact new_cells _ #[_] _ _
     case c2 => intro u hu; simp at hu; subst hu; rfl
     case c3 => unfold maxLen; omega
     case c4 => omega
     case c5 => simp; omega
     intro v1 w1 hown1 hgrow1 _
     have hb1 : Below w.heap.size w w1 := ((hbw.trans (Drawn.below ⟨d, rfl⟩)).alloc (by simp; omega) _).grown hgrow1 (by simp; omega) (fun k hk => (hown.lt k hk).1)
     clear hgrow1
     go_wp2
     refine ⟨⟨out ++ [t.take n], List.drop n t, ?_, ?_, ?_, ?_, hb1⟩, ?_⟩
     ·exact congrArg (fun x => Value.string (bs x)) (List.take_of_length_le (by simp))
     ·rw [Ht.out, textsL_more Hh.out hr hlt, fin_fin]
     ·simp; omega
     ·rw [strCells_append, List.length_append]; exact hown1
     ·simp [strSize, bs_size]; omega
   ·have hc' : ((c : Int) != 0) = true := by simp; omega
    go_wp2_with (go_at_call 125; refine (head_any _ _ hmax).mono ?_; rintro e w' ⟨n', t', c', rfl, hh', hn, d, rfl⟩; obtain ⟨rfl, rfl, rfl⟩ : n = n' ∧ t = t' ∧ c = c' := by (rw [Hh.out] at hh'; simpa using hh'))
    go_ret2
    have hx : textsL l = ([], c) := by rw [Ht.out, textsL_err Hh.out hr hc]; simp [fin, hc]
    refine ⟨_, by rw [hx]; rfl, ?_, hbw.trans (Drawn.below ⟨_, rfl⟩), fun k hk => by cases hk⟩
    rw [hx]; exact SliceAt.nil _ _
end Go.Proofs.YtlbipokkdiiaiaaGreatDoor
namespace Go.Proofs.YtlbipokkdiiaiaaGreatDoor
open Go.RowKit
theorem itoa_any (n : Nat) (w : World) (hn : n ≤ 9223372036854775807) (ht : PowTab w) :
  Calls Tryz.prog 102 #[.int .i64 n] w fun e w' => e = .returned (.string (bs (dig n))) ∧ Below w.heap.size w w' := by
 refine (Tryz.strconv_Itoa n (by omega) (by omega) w ht).mono ?_
 rintro e w' ⟨rfl, k, os, rfl⟩
 exact ⟨by rw [itoa_nat]; rfl, grow_below w k os⟩
set_option maxHeartbeats 400000 in
theorem row_any (v0 : Value) (n0 : Nat) (ss : List (List UInt8)) (w : World) (h0 : SliceAt w 1 v0 n0 (strCells ss)) (ht : PowTab w) (hbig : (rowL ss).length ≤ 1000000000000) :
  Calls Tryz.prog 54 #[v0] w fun e w' => e = .returned (.string (bs (rowL ss))) ∧ Below w.heap.size w w' := by
 have h00 := h0
 obtain ⟨rfl, a0, c0, rfl, hc0, hm0, hx0⟩ := h0.str
 clear h0 hx0
 unfold maxLen at hm0
 go_enter Tryz.func54, Tryz.ntmps54
 go_wp2
 go_loopw [8] (fun i wr => ∃ k : Nat, k ≤ ss.length ∧ i = .int .i64 k ∧ Lib.IsBuilderF 215 5 w.heap.size w.heap.size (Lib.byteCells (rowL (ss.take k))) wr ∧ Below w.heap.size w wr) (fun i _ => ss.length - (intOf i).toNat)
 case atStart => exact ⟨0, by omega, rfl, isBuilder_fresh w _ (Nat.le_refl _), (Below.refl _ _).alloc (Nat.le_refl _) _⟩
 case round =>
  obtain ⟨k, hk, rfl, hbd, hbw⟩ := hrel
  obtain ⟨-, a1, c1, hv, -, -, hx1⟩ := (h00.below hbw (Nat.le_refl _)).str
  have hsz := hbw.size
  by_cases hlt : k < ss.length
  ·obtain ⟨b0, o0, rfl, hb0, hcl0⟩ := hx1 k hlt
   have e0 := hcl0 k hlt
   obtain ⟨rfl, rfl⟩ : a0 = some ⟨b0, o0, none⟩ ∧ c0 = c1 := by simpa using hv
   clear hcl0 hx1 hv
   have hr1 : (rowL (ss.take (k + 1))).length ≤ (rowL ss).length := rowL_take_le _ _
   have Hr := hid (rowL_take_succ ss k hlt)
   have hr2 : (rowL (ss.take k)).length + ((dig ss[k].length).length + 1 + ss[k].length) ≤ (rowL ss).length := by rw [Hr.out] at hr1; simp at hr1; omega
   go_wp2_with (go_at_call 102; refine (itoa_any _ _ (by omega) (ht.below hbw)).mono ?_; rintro e w1 ⟨rfl, hb1⟩)
   have s1 := hb1.size
   refine (writeString_l _ _ _ _ _ (isBuilder_below hbd hb1) (by omega) (by omega)).mono ?_
   rintro e w2 ⟨rfl, hd2, hb2, -⟩
   have s2 := hb2.size
   go_wp2_with fail
   refine (writeByte_l _ _ _ 58 _ hd2 (by simp; omega) (by omega)).mono ?_
   rintro e w3 ⟨rfl, hd3, hb3, -⟩
   have s3 := hb3.size
   go_wp2_with fail
   refine (writeString_l _ _ _ _ _ hd3 (by simp; omega) (by omega)).mono ?_
   rintro e w4 ⟨rfl, hd4, hb4, -⟩
   go_wp2
   refine ⟨⟨k + 1, by omega, by go_num, ?_, ((hbw.trans (hb1.mono hsz)).trans hb2).trans (hb3.trans hb4)⟩, by simp [intOf]; omega⟩
   rw [Hr.out]; simpa using hd4
  ·go_wp2_with fail
   refine (string_l _ _ _ _ hbd hsz).mono ?_
   rintro e w1 ⟨rfl, -, hb1⟩
   go_wp2
   go_ret
   exact ⟨by rw [List.take_of_length_le (by omega)]; rfl, hbw.trans hb1⟩
end Go.Proofs.YtlbipokkdiiaiaaGreatDoor
namespace Go.Proofs.YtlbipokkdiiaiaaGreatDoor
set_option maxRecDepth 100000
open Go.RowKit
theorem num_any (n : Int) (h0 : -9223372036854775808 ≤ n) (h1 : n ≤ 9223372036854775807) (w : World) (ht : PowTab w) :
  Calls Tryz.prog 79 #[.int .i64 n] w fun e w' => e = .returned (.string (bs (Lib.itoa n))) ∧ Below w.heap.size w w' := by
 have Hc : Calls Tryz.prog 121 #[.int .i64 n, .int .i64 10] w fun e w' => e = .returned (.string (bs (Lib.itoa n))) ∧ Below w.heap.size w w' := by
  refine (Tryz.strconv_FormatInt_10 n h0 h1 w ht).mono ?_
  rintro e w' ⟨rfl, k, os, rfl⟩
  exact ⟨rfl, grow_below w k os⟩
 go_enter Tryz.func79, Tryz.ntmps79
 go_wp2_with fail
 refine Hc.mono ?_
 rintro e w1 ⟨rfl, hb1⟩
 go_wp2_with fail
 go_ret
 exact ⟨rfl, hb1⟩
def ErrsAt (w : World) : Prop := (∃ t p, w.var? Tryz.prog "strconv.ErrSyntax" = some #[.iface t p]) ∧ ∃ t p, w.var? Tryz.prog "strconv.ErrRange" = some #[.iface t p]
theorem ErrsAt.below {w w' : World} (h : ErrsAt w) (hb : Below w.heap.size w w') : ErrsAt w' := by
 obtain ⟨⟨t, p, h1⟩, t2, p2, h2⟩ := h
 exact ⟨⟨t, p, var?_kept h1 hb⟩, t2, p2, var?_kept h2 hb⟩
def BadNum (w : World) (e : Ending) (w' : World) : Prop := ∃ n t p, e = .returned (.tuple #[.int .i64 n, .iface t p]) ∧ Below w.heap.size w w'
theorem parse_bad (l : List UInt8) (hl : l.length ≤ 281474976710656) (w : World) (he : ErrsAt w) (h : ∀ v, Lib.parseIntB 64 l ≠ .ok v) :
  Calls Tryz.prog 176 #[.string (bs l), .int .i64 10, .int .i64 64] w (BadNum w) := by
 obtain ⟨⟨t, p, h1⟩, t2, p2, h2⟩ := he
 cases e : Lib.parseIntB 64 l with
 | ok v => exact absurd e (h v)
 | range =>
   refine (Any.strconv_ParseInt_10_at64_range_var Tryz.laysC174 (bs l) hl e t2 p2 w h2).mono ?_
   rintro e w' ⟨N, rfl, -, -, hb⟩
   exact ⟨_, _, _, rfl, hb⟩
 | _ =>
   refine (Any.strconv_ParseInt_10_at64_syntax_var Tryz.laysC174 (bs l) hl e t p w h1).mono ?_
   rintro e w' ⟨N, rfl, -, -, hb⟩
   exact ⟨_, _, _, rfl, hb⟩
set_option maxHeartbeats 400000 in
theorem int_any (l : List UInt8) (hl : l.length ≤ 281474976710656) (v : Int) (b : Bool) (h : intL l = (v, b)) (w : World) (ht : PowTab w) (he : ErrsAt w) :
  Calls Tryz.prog 126 #[.string (bs l)] w fun e w' => e = .returned (.tuple #[.int .i64 v, .bool b]) ∧ Below w.heap.size w w' := by
 by_cases hv : ∃ v0, Lib.parseIntB 64 l = .ok v0
 ·obtain ⟨v0, hv⟩ := hv
  have hb := parse_bounds hv
  have Hc : Calls Tryz.prog 176 #[.string (bs l), .int .i64 10, .int .i64 64] w fun e w' => e = .returned (.tuple #[.int .i64 v0, .nilIface]) ∧ Below w.heap.size w w' := by
   refine (Tryz.strconv_ParseInt_10_at64_ok (bs l) (by rw [bs_size]; omega) v0 hv w).mono ?_
   rintro e w' ⟨rfl, rfl | ⟨t, rfl⟩⟩
   ·exact ⟨rfl, Below.refl _ _⟩
   ·exact ⟨rfl, Lib.bytesWorld_below _ _ _⟩
  have HC := hid Hc
  have Hn := hid (fun W hW => num_any v0 hb.1 hb.2 W (ht.below hW))
  have hl2 : (Lib.itoa v0).length ≤ 100 := by
   have := Lib.itoa_length_le v0 hb.1 hb.2; omega
  unfold intL at h
  rw [hv] at h
  simp only at h
  clear Hc hv
  cases q : (Lib.itoa v0 == l) with
  | true =>
    have hq : Lib.itoa v0 = l := by simpa using q
    rw [if_pos hq] at h
    obtain ⟨rfl, rfl⟩ := Prod.mk.inj h
    clear h hq
    go_enter Tryz.func126, Tryz.ntmps126
    go_wp2_with fail
    refine HC.out.mono ?_
    rintro e w1 ⟨rfl, hb1⟩
    go_wp2_with fail
    refine (Hn.out _ hb1).mono ?_
    rintro e w2 ⟨rfl, hb2⟩
    go_wp2_with fail
    go_ret2
    exact ⟨rfl, Below.chain hb1 hb2⟩
  | false =>
    have hq : ¬ Lib.itoa v0 = l := by simpa using q
    rw [if_neg hq] at h
    obtain ⟨rfl, rfl⟩ := Prod.mk.inj h
    clear h hq
    go_enter Tryz.func126, Tryz.ntmps126
    go_wp2_with fail
    refine HC.out.mono ?_
    rintro e w1 ⟨rfl, hb1⟩
    go_wp2_with fail
    refine (Hn.out _ hb1).mono ?_
    rintro e w2 ⟨rfl, hb2⟩
    go_wp2_with fail
    go_ret2
    exact ⟨rfl, Below.chain hb1 hb2⟩
 ·have hn : ∀ v, Lib.parseIntB 64 l ≠ .ok v := fun v e => hv ⟨v, e⟩
  have HC := hid (parse_bad l hl w he hn)
  have e0 : intL l = (0, false) := by
   unfold intL
   cases e : Lib.parseIntB 64 l with
   | ok v => exact absurd e (hn v)
   | _ => rfl
  rw [e0] at h
  obtain ⟨rfl, rfl⟩ := Prod.mk.inj h
  clear h hv hn e0
  go_enter Tryz.func126, Tryz.ntmps126
  go_wp2_with fail
  refine HC.out.mono ?_
  rintro e w1 ⟨n, t, p, rfl, hb1⟩
  go_wp2_with fail
  go_ret2
  exact ⟨rfl, hb1⟩
end Go.Proofs.YtlbipokkdiiaiaaGreatDoor
namespace Go.Proofs.YtlbipokkdiiaiaaGreatDoor
open Go.RowKit Go.Proofs.YtlbipokkdiiaiaaGreatDoor.Exec
set_option maxRecDepth 100000
theorem conv_range {W : World} {b off cap : Nat} {l : List UInt8} (h : W.rangeAt b off (Lib.byteCells l)) : (convert 49 9 (.slice (some ⟨b, off, none⟩) l.length cap)).run Tryz.prog W = .ok (.string (bs l)) W :=
 run_convert_bytes_back W 49 9 5 ⟨b, off, none⟩ cap l Tryz.underlying49 (by kernel_rfl) (by kernel_rfl) fun j hj => by
  rw [Addr.add_lit]
  exact h j _ (by simp [Lib.byteCells, hj])
theorem conv_slice {W : World} {v : Value} {n : Nat} {l : List UInt8} (h : SliceAt W 1 v n (Lib.byteCells l)) : (convert 49 9 v).run Tryz.prog W = .ok (.string (bs l)) W := by
 obtain ⟨hl, a, c, rfl, hc, hm, hn, hx⟩ := h
 have hll : l.length = n := by simpa [Lib.byteCells] using hl
 subst hll
 by_cases h0 : l = []
 ·subst h0
  cases a with
  | none => exact run_convert_bytes_nil W 49 5 Tryz.underlying49 (by kernel_rfl) _ _ 9 (by kernel_rfl)
  | some a => exact run_convert_bytes_back W 49 9 5 a c [] Tryz.underlying49 (by kernel_rfl) (by kernel_rfl) (fun j hj => by simp at hj)
 ·obtain ⟨b, off, rfl, -, hcell⟩ := hx (by simpa [Lib.byteCells] using h0)
  exact conv_range hcell
theorem conv_dg {W : World} {b : Nat} {cap : Nat} {d : Dg} {t : TypeId} {fr : Nat × Nat} (h : W.heap[b]? = some (.cells (dgc d).toArray t fr)) : (convert 49 9 (.slice (some ⟨b, 0, none⟩) 32 cap)).run Tryz.prog W = .ok (.string (bs d.1)) W := by
 have := conv_range (cap := cap) (l := d.1) (range_of_heap h)
 rw [d.2] at this
 exact this
theorem tsum_any (d : Dg) (w : World) : Calls Tryz.prog 122 #[dgv d] w fun e w' => e = .returned (.string (bs d.1)) ∧ Below w.heap.size w w' := by
 unfold dgv
 go_enter Tryz.func122, Tryz.ntmps122
 go_upto_region 1 with first | (refine wl_box rt31 ?_; intro W0 hb0 hn0 hs0)
 have hc := conv_dg (cap := 32) hn0
 go_wp2_with fail
 go_ret
 exact ⟨rfl, hb0⟩
theorem app_texts {W : World} {base g n : Nat} {v : Value} {l : List (List UInt8)} (ss : List (List UInt8)) (h : W.ownsRow base 9 1 v n (strCells l)) (hg : W.heap[g]? = some (.cells (strCells ss).toArray 9 (0, 0))) (hb : base ≤ W.heap.size) (hn : n + ss.length ≤ 1000000000) (hl : n = l.length) :
  ∃ v' w', (∀ ty, (Builtin.append_ #[46, 46] ty #[v, .slice (some ⟨g, 0, none⟩) ss.length ss.length]).run Tryz.prog W = .ok v' w') ∧ w'.ownsRow base 9 1 v' (n + ss.length) (strCells (l ++ ss)) ∧ Below base W w' ∧ W.grownBy w' v.ownBlock := by
 obtain ⟨i0, hi, hz0, hz1, hz2⟩ := info_parts pstr_info
 have hone : ∀ u ∈ strCells ss, u.oneCell' = true := by
  intro u hu
  simp only [strCells, List.mem_map] at hu
  obtain ⟨s, -, rfl⟩ := hu
  rfl
 have hH := fun ty => run_append_own (P := Tryz.prog) W base 46 ty 9 i0 (.string ⟨#[]⟩) 1 16 Tryz.underlying46 hi hz0 hz1 hz2 rfl (by decide) v n (strCells l) h ⟨g, 0, none⟩ ss.length ss.length (strCells ss) (by simp [strCells]) (fun j u hu => by
   have := range_of_heap hg j u hu
   rw [Addr.add_lit]
   exact this) hone (by unfold maxLen; omega) (by omega) hb
 obtain ⟨v', w', hr, ho, hgr, -⟩ := hH 0
 refine ⟨v', w', fun ty => ?_, by rw [strCells_append]; exact ho, ⟨hgr.os, hgr.tape, hgr.output, hgr.size, fun k hk => hgr.block k (by omega) fun e => ?_⟩, hgr⟩
 ·exact hr
 ·have := (h.lt k e.symm).1; omega
theorem wp_app {o : Oper} {a : Act} {w w' : World} {Q : Exit → Act → World → Prop} {K : Act → World → Prop} {v s v' : Value} {x y : Operand} (h : ∀ ty, (Builtin.append_ #[46, 46] ty #[v, s]).run Tryz.prog w = .ok v' w') (hk : K (a.put o.dst v') w')
  (ho : o.op = .call { callee := .builtin .append, args := #[x, y], argTypes := #[46, 46] } := by rfl) (hx : a.eval x = v := by rfl) (hy : a.eval y = s := by rfl) : Oper.wp Tryz.prog o a w K Q := by
 unfold Oper.wp execOp
 simp only [ho, resolve, invoke, builtin, Sem.run_bind, Sem.run_pure, Result.andThen_ok, List.map_toArray, List.map_cons, List.map_nil, hx, hy, h]
 exact hk
theorem app_one {W : World} {base : Nat} {v : Value} {l : List (List UInt8)} (s : List UInt8) (h : W.ownsRow base 9 1 v l.length (strCells l)) (hb : base ≤ W.heap.size) (hn : l.length ≤ 100000) :
  ∃ v' w', (∀ ty, (Builtin.append_ #[46, 46] ty #[v, .slice (some ⟨W.heap.size, 0, none⟩) 1 1]).run Tryz.prog (W.alloc (.cells #[.string (bs s)] 9)) = .ok v' w') ∧ w'.ownsRow base 9 1 v' (l ++ [s]).length (strCells (l ++ [s])) ∧ Below base W w' := by
 obtain ⟨v', w', h1, h2, h3, -⟩ := app_texts (W := W.alloc (.cells #[.string (bs s)] 9)) (base := base) [s] (h.alloc _) (heap_alloc_new W _) (by rw [World.size_alloc]; omega) (by simp; omega) rfl
 exact ⟨v', w', h1, by rw [List.length_append]; exact h2, (below_new W _).mono hb |>.trans h3⟩
end Go.Proofs.YtlbipokkdiiaiaaGreatDoor
