/- Several texts of one claim, laid as one. -/
import Derived.Test.YtnfjlimecoikpaaGreatDoorBase
import Derived.Test.YtnfjlimecoikpaaGreatDoorChecked
import Derived.Laws.IdiomStrings
import Derived.Laws.BytesArg
import Derived.Lib.UnsafeStr
import Derived.Test.YtnfjlimecoikpaaGreatDoorCells
import Derived.Test.YtnfjlimecoikpaaGreatDoorMPlain
import Derived.Deep.RegionWith
import Derived.Defers
import Derived.Laws.Pointers
import Derived.Laws.LoneSync
import Derived.RegionTactic
import Derived.RegionCalls
import Derived.ChangeAlike
import Derived.LoopN
import Derived.Great.Walk
import Derived.Great.BuildSlice
import Derived.OwnWalk
import Derived.Laws.CopyOwn
/- Bytes in memory of the call's own: as a text; one byte more. -/
namespace Go.Proofs.YtnfjlimecoikpaaGreatDoor
set_option maxRecDepth 100000
open Go.RowKit

theorem u8_info : (Tryz.prog.info? 5).map (fun i => (i.zero, i.size, i.bytes)) = some (some (.int .u8 0), 1, 1) := by kernel_rfl
theorem byteCells_len (l : List UInt8) : (Lib.byteCells l).length = l.length := by simp [Lib.byteCells]
theorem byteCells_one (l : List UInt8) : ∀ u ∈ Lib.byteCells l, u.oneCell' = true := by
  intro u hu
  simp only [Lib.byteCells, List.mem_map] at hu
  obtain ⟨s, _, rfl⟩ := hu; rfl
theorem byteCells_app (a b : List UInt8) : Lib.byteCells (a ++ b) = Lib.byteCells a ++ Lib.byteCells b := by simp [Lib.byteCells]
theorem byteCells_get (l : List UInt8) (k : Nat) (h : k < l.length) : (Lib.byteCells l)[k]? = some (.int .u8 l[k].toNat) := by simp [Lib.byteCells, h]
/-- 'string(b)'. -/
theorem run_conv_at {w : World} {v : Value} {n : Nat} {l : List UInt8} (h : SliceAt w 1 v n (Lib.byteCells l)) :
    (convert 68 9 v).run Tryz.prog w = .ok (.string (bs l)) w := by
  obtain ⟨hl, a, c, rfl, hc, hm, hn, hx⟩ := h
  have hnl : n = l.length := by rw [byteCells_len] at hl; omega
  subst hnl
  cases a with
  | none =>
    have h0 := hn rfl
    have hl0 : l = [] := List.eq_nil_of_length_eq_zero (by omega)
    subst hl0
    exact run_convert_bytes_nil (P := Tryz.prog) (w := w) 68 5 Tryz.underlying68 Tryz.underlying5 _ _ 9 Tryz.underlying9
  | some a =>
    refine run_convert_bytes_back w 68 9 5 a c l Tryz.underlying68 Tryz.underlying5 Tryz.underlying9 fun j hj => ?_
    obtain ⟨b, off, hb, -, hcl⟩ := hx (by intro e; have := byteCells_len l; rw [e] at this; simp at this; omega)
    obtain rfl := Option.some.inj hb
    have hadd : (⟨b, off, none⟩ : Addr).add j = ⟨b, off + j, none⟩ := by unfold Addr.add; split <;> simp_all
    rw [hadd]; exact hcl j _ (byteCells_get l j hj)
/-- The one byte that a call lays. -/
theorem one_byte (W : World) (c : UInt8) : SliceAt (W.alloc (.cells #[.int .u8 c.toNat] 5)) 1 (.slice (some ⟨W.heap.size, 0, none⟩) 1 1) 1 (Lib.byteCells [c]) :=
  ⟨rfl, _, 1, rfl, Nat.le_refl _, by unfold maxLen; omega, fun h => (by cases h), fun _ => ⟨W.heap.size, 0, rfl, by simp, fun j u hu => by rw [Nat.zero_add, World.cell?_alloc_mark]; simpa [Lib.byteCells] using hu⟩⟩
end Go.Proofs.YtnfjlimecoikpaaGreatDoor
/- sync.Once at this dump: the lock, free, is taken; the two calls that 'doSlow' defers. -/
namespace Go.Proofs.YtnfjlimecoikpaaGreatDoor
set_option maxRecDepth 100000
open Go.RowKit

theorem once_disable (w : World) : (callFunc 127 #[]).run Tryz.prog w = .ok (.value (.tuple #[])) w := run_call_mark0 Tryz.func127 (by kernel_rfl) (by kernel_rfl) (by kernel_rfl) .disable (by kernel_rfl) w
theorem once_enable (w : World) : (callFunc 129 #[]).run Tryz.prog w = .ok (.value (.tuple #[])) w := run_call_mark0 Tryz.func129 (by kernel_rfl) (by kernel_rfl) (by kernel_rfl) .enable (by kernel_rfl) w
theorem once_acquire (a : Addr) (w : World) : (callFunc 130 #[.pointer (some a)]).run Tryz.prog w = .ok (.value (.tuple #[])) w := run_call_marked Tryz.func130 (by kernel_rfl) (by kernel_rfl) (by kernel_rfl) .acquire (by kernel_rfl) a w
theorem once_release (a : Addr) (w : World) : (callFunc 132 #[.pointer (some a)]).run Tryz.prog w = .ok (.value (.tuple #[])) w := run_call_marked Tryz.func132 (by kernel_rfl) (by kernel_rfl) (by kernel_rfl) .releaseMerge (by kernel_rfl) a w

theorem b32_true (w : World) : Calls Tryz.prog 124 #[.bool true] w fun e w' => e = .returned (.int .u32 1) ∧ w = w' := by
  go_enter Tryz.func124, Tryz.ntmps124
  go_wp2_with fail
  go_ret
  exact ⟨rfl, rfl⟩

/-- '(*sync/atomic.Bool).Store(true)', entered as a deferred call. -/
theorem store_deferred (a : Addr) (x : Value) (u : FrameMode) (w : World) (hc : w.cell? a = some x) (hz : w.frozen? a = false) :
    CallsD Tryz.prog 110 #[.pointer (some a), .bool true] u w fun e u' w' => u' = u ∧ (e = .returned (.tuple #[]) ∧ w' = w.drew.setCell a (.int .u32 1)) := by
  have hc' : w.drew.cell? a = some x := by go_simp
  have hz' : w.drew.frozen? a = false := by go_simp
  have hst := run_call_store (P := Tryz.prog) Tryz.func123 (by kernel_rfl) (by kernel_rfl) (by kernel_rfl) (by kernel_rfl) (k := .u32) (y := 1) hc' hz'
  go_enter_d Tryz.func110, Tryz.ntmps110
  go_wp2
  go_region_calls
  all_goals (go_end0; exact ⟨rfl, rfl⟩)

/-- The inner lock, free. -/
theorem ilock_free (a : Addr) (w : World) (hc : w.cell? a = some (.int .i32 0)) (hz : w.frozen? a = false) :
    Calls Tryz.prog 121 #[.pointer (some a)] w fun e w' => e = .returned (.tuple #[]) ∧ w' = w.setCell a (.int .i32 1) := by
  have hd := once_disable
  have he := once_enable
  have ha := once_acquire
  have hcas := run_call_cas_hit (P := Tryz.prog) Tryz.func128 (by kernel_rfl) (by kernel_rfl) (by kernel_rfl) .i32 (by kernel_rfl) (y := 1) hc hz
  have hc' : (w.setCell a (.int .i32 1)).cell? a = some (.int .i32 1) := World.cell?_setCell_same w a _ hc
  have hcv := run_convert_to_unsafe (P := Tryz.prog) (src := 174) (dst := 116) Tryz.underlying174 Tryz.underlying116 (by kernel_rfl) hc'
  go_enter Tryz.func121, Tryz.ntmps121
  go_wp2
  first | go_end0 | (simp only [Exit.inBlock, Exit.then]; refine bodyPost_ret (results_none rfl _ _ _) rfl ?_) | refine bodyPost_ret (results_none rfl _ _ _) rfl ?_
  exact ⟨rfl, rfl⟩
/-- The lock, free. -/
theorem lock_free (a : Addr) (w : World) (hc : w.cell? a = some (.int .i32 0)) (hz : w.frozen? a = false) :
    Calls Tryz.prog 108 #[.pointer (some a)] w fun e w' => e = .returned (.tuple #[]) ∧ w' = w.setCell a (.int .i32 1) := by
  go_enter Tryz.func108, Tryz.ntmps108
  go_wp2_with (go_at_call 121; refine (ilock_free _ _ (by assumption) (by assumption)).mono ?_; rintro e w' ⟨rfl, rfl⟩)
  go_end0
  exact ⟨rfl, rfl⟩
/-- The inner unlock, nobody waiting. -/
theorem iunlock_held (a : Addr) (w : World) (hc : w.cell? a = some (.int .i32 1)) (hz : w.frozen? a = false) :
    Calls Tryz.prog 122 #[.pointer (some a)] w fun e w' => e = .returned (.tuple #[]) ∧ w' = w.setCell a (.int .i32 0) := by
  have hd := once_disable
  have he := once_enable
  have hr := once_release
  have hadd := run_call_add (P := Tryz.prog) Tryz.func133 (by kernel_rfl) (by kernel_rfl) (by kernel_rfl) .i32 (by kernel_rfl) (y := -1) (s := 0) hc hz (by simp [go_sem]; rfl)
  have hcv := run_convert_to_unsafe (P := Tryz.prog) (src := 174) (dst := 116) Tryz.underlying174 Tryz.underlying116 (by kernel_rfl) hc
  go_enter Tryz.func122, Tryz.ntmps122
  go_wp2
  go_end0
  exact ⟨rfl, rfl⟩
/-- '(*sync.Mutex).Unlock', entered as a deferred call. -/
theorem unlock_deferred (a : Addr) (u : FrameMode) (w : World) (hc : w.cell? a = some (.int .i32 1)) (hz : w.frozen? a = false) :
    CallsD Tryz.prog 109 #[.pointer (some a)] u w fun e u' w' => u' = u ∧ (e = .returned (.tuple #[]) ∧ w' = w.setCell a (.int .i32 0)) := by
  go_enter_d Tryz.func109, Tryz.ntmps109
  go_wp2_with (go_at_call 122; refine (iunlock_held _ _ (by assumption) (by assumption)).mono ?_; rintro e w' ⟨rfl, rfl⟩)
  go_end0
  exact ⟨rfl, rfl⟩
end Go.Proofs.YtnfjlimecoikpaaGreatDoor
/- strings.NewReplacer at the six texts. -/
namespace Go.Proofs.YtnfjlimecoikpaaGreatDoor
set_option maxRecDepth 100000
open Go.RowKit

theorem str_info : (Tryz.prog.info? 9).map (fun i => (i.zero, i.size, i.bytes)) = some (some (.string ⟨#[]⟩), 1, 16) := by kernel_rfl
def sixT : List (List UInt8) := [[34], [92, 34], [92], [92, 92], [10], [92, 110]]
structure Six (w : World) (b o : Nat) : Prop where
  lt : b < w.heap.size
  s0 : w.cell? ⟨b, o, none⟩ = some (.string (bs [34]))
  s1 : w.cell? ⟨b, o + 1, none⟩ = some (.string (bs [92, 34]))
  s2 : w.cell? ⟨b, o + 2, none⟩ = some (.string (bs [92]))
  s3 : w.cell? ⟨b, o + 3, none⟩ = some (.string (bs [92, 92]))
  s4 : w.cell? ⟨b, o + 4, none⟩ = some (.string (bs [10]))
  s5 : w.cell? ⟨b, o + 5, none⟩ = some (.string (bs [92, 110]))
theorem six_open {w : World} {v : Value} (h : SliceAt w 1 v 6 (strCells sixT)) : ∃ (b o c : Nat), v = .slice (some ⟨b, o, none⟩) 6 c ∧ 6 ≤ c ∧ c ≤ maxLen ∧ Six w b o := by
  obtain ⟨_, a, c, rfl, hc, hm, hx⟩ := h.str
  obtain ⟨b, o, rfl, hlt, hcell⟩ := hx 0 (by decide)
  exact ⟨b, o, c, rfl, hc, hm, hlt, hcell 0 (by decide), hcell 1 (by decide), hcell 2 (by decide), hcell 3 (by decide), hcell 4 (by decide), hcell 5 (by decide)⟩
structure Repl (w : World) (b : Nat) (done st : Int) (r v : Value) : Prop where
  c0 : w.cell? ⟨b, 0, none⟩ = some (.int .u32 done)
  c1 : w.cell? ⟨b, 1, none⟩ = some (.int .i32 st)
  c2 : w.cell? ⟨b, 2, none⟩ = some (.int .u32 0)
  c3 : w.cell? ⟨b, 3, none⟩ = some r
  c4 : w.cell? ⟨b, 4, none⟩ = some v
  fr : Free w b
theorem Repl.past {B : Nat} {w w' : World} {b : Nat} {done st : Int} {r v : Value} (h : Repl w b done st r v) (hb : Below B w w') (hlt : b < B) : Repl w' b done st r v :=
  ⟨(hb.cell (p := ⟨b, 0, none⟩) hlt).trans h.1, (hb.cell (p := ⟨b, 1, none⟩) hlt).trans h.2, (hb.cell (p := ⟨b, 2, none⟩) hlt).trans h.3, (hb.cell (p := ⟨b, 3, none⟩) hlt).trans h.4, (hb.cell (p := ⟨b, 4, none⟩) hlt).trans h.5, h.fr.past hb hlt⟩
theorem repl_new (w : World) (x0 x1 x2 x3 x4 : Value) (e : TypeId) : (w.alloc (.cells #[x0, x1, x2, x3, x4] e)).cell? ⟨w.heap.size, 0, none⟩ = some x0 ∧ (w.alloc (.cells #[x0, x1, x2, x3, x4] e)).cell? ⟨w.heap.size, 1, none⟩ = some x1 ∧ (w.alloc (.cells #[x0, x1, x2, x3, x4] e)).cell? ⟨w.heap.size, 2, none⟩ = some x2 ∧ (w.alloc (.cells #[x0, x1, x2, x3, x4] e)).cell? ⟨w.heap.size, 3, none⟩ = some x3 ∧ (w.alloc (.cells #[x0, x1, x2, x3, x4] e)).cell? ⟨w.heap.size, 4, none⟩ = some x4 :=
  ⟨by rw [World.cell?_alloc_mark]; rfl, by rw [World.cell?_alloc_mark]; rfl, by rw [World.cell?_alloc_mark]; rfl, by rw [World.cell?_alloc_mark]; rfl, by rw [World.cell?_alloc_mark]; rfl⟩
/-- A replacer not yet built, over the six texts. -/
def Unbuilt (w : World) (b : Nat) : Prop := ∃ (v : Value) (w1 : World), Repl w b 0 0 .nilIface v ∧ SliceAt w1 1 v 6 (strCells sixT) ∧ w1.heap.size ≤ b ∧ Below b w1 w

set_option maxHeartbeats 1000000 in
theorem new_any (v : Value) (w : World) (h : SliceAt w 1 v 6 (strCells sixT)) :
    Calls Tryz.prog 59 #[v] w fun e w' => ∃ b, e = .returned (.pointer (some ⟨b, 0, none⟩)) ∧ Unbuilt w' b ∧ w.heap.size ≤ b ∧ b < w'.heap.size ∧ Below w.heap.size w w' := by
  obtain ⟨i0, hi, hz0, hz1, hz2⟩ := info_parts str_info
  obtain ⟨b0, o0, c, rfl, hc, hm, _⟩ := six_open h
  have Hs := hid h
  clear h
  go_enter Tryz.func59, Tryz.ntmps59
  go_wp2_with (at_builtin; go_must (refine wpList_append_src rfl _ _ 23 rfl w.heap.size 9 i0 (.string ⟨#[]⟩) 1 16 Tryz.underlying23 hi hz0 hz1 hz2 rfl (by decide) _ 0 [] rfl ?c1 _ 6 (strCells sixT) rfl ?c2 ?c3 ?c4 ?c5 ?c6 ?_))
  case c1 => exact ⟨rfl, .inl ⟨rfl, rfl⟩⟩
  case c2 => exact Hs.out
  case c3 => exact strCells_one _
  case c4 => unfold maxLen; omega
  case c5 => omega
  case c6 => simp
  intro v' w1 hown hgrow
  have hb1 : Below w.heap.size w w1 := (Below.refl _ w).grown hgrow (by simp) (by intro k hk; simp [Value.ownBlock] at hk)
  have hsl : SliceAt w1 1 v' 6 (strCells sixT) := SliceAt.of_owns (n := 6) (by exact hown) (by decide)
  obtain ⟨b1, o1, c1, rfl, hc1, hm1, _⟩ := six_open hsl
  have Hs1 := hid hsl
  clear hown hsl
  have HR := hid (repl_new w1 (.int .u32 0) (.int .i32 0) (.int .u32 0) .nilIface (.slice (some ⟨b1, o1, none⟩) 6 c1) 104)
  have HF := hid (free_new w1 #[.int .u32 0, .int .i32 0, .int .u32 0, .nilIface, .slice (some ⟨b1, o1, none⟩) 6 c1] 104)
  go_wp2_with fail
  go_ret
  exact ⟨w1.heap.size, rfl, ⟨_, w1, ⟨HR.out.1, HR.out.2.1, HR.out.2.2.1, HR.out.2.2.2.1, HR.out.2.2.2.2, HF.out⟩, Hs1.out, Nat.le_refl _, (Below.refl _ _).alloc (Nat.le_refl _) _⟩, hb1.size, by simp, hb1.trans ((Below.refl _ _).alloc hb1.size _)⟩
end Go.Proofs.YtnfjlimecoikpaaGreatDoor
/- strings.Replacer's build at the six texts: a byteStringReplacer. -/
namespace Go.Proofs.YtnfjlimecoikpaaGreatDoor
set_option maxRecDepth 100000
open Go.RowKit

def nils (v : Value) : Array Value := (List.replicate 256 (Value.slice none 0 0) ++ [v]).toArray
theorem built_nils (a : Option Addr) (l c : Nat) : Tryz.prog.built 146 [(1, .slice a l c)] = some (nils (.slice a l c)) := by kernel_rfl
theorem alloc_nils (w : World) : (Instr.alloc 146 true (.tuple #[])).run Tryz.prog w = .ok (.pointer (some ⟨w.heap.size, 0, none⟩)) (w.alloc (.cells (nils (.slice none 0 0)) 146)) := by kernel_rfl
theorem nils_size (v : Value) : (nils v).size = 257 := rfl
theorem nils_one (a : Option Addr) (l c : Nat) : (nils (.slice a l c)).all (·.oneCell') = true := by kernel_rfl


/-- '[]byte(s)'. -/
theorem wpList_conv_bytes {w : World} {ops : Array Oper} {rest : List Oper} {o : Oper} {a : Act} {Q : Exit → Act → World → Prop} (hg : o.guard = none) (x : Operand)
    (ho : o.op = .convert 9 68 x) (l : List UInt8) (n : Nat) (hn : l.length = n) (hl : n ≤ 1000000000000) (hx : a.eval x = .string (bs l))
    (h : ∀ (k : Nat) (w' : World), n ≤ k → k ≤ maxLen → (∀ j u, (Lib.byteCells l)[j]? = some u → w'.cell? ⟨w.heap.size, j, none⟩ = some u) → w.heap.size < w'.heap.size → Below w.heap.size w w' →
      wpList Tryz.prog ops Q rest (a.put o.dst (.slice (some ⟨w.heap.size, 0, none⟩) n k)) w') : wpList Tryz.prog ops Q (o :: rest) a w := by
  subst hn
  refine wpList_plain hg fun K hK => ?_
  have hrun := run_bytes_of_string (P := Tryz.prog) w 9 68 5 (bs l) Tryz.underlying9 Tryz.underlying68 Tryz.underlying5
  have hk1 := grownCap_ge w (bs l).size 0 5
  have hk2 := grownCap_le_maxLen w (bs l).size 0 5 (by rw [bs_size]; unfold maxLen; omega)
  generalize hk : grownCap w (bs l).size 0 5 = k at hrun hk1 hk2
  have hnew : ∀ j u, (Lib.byteCells l)[j]? = some u → (w.drew.alloc (.cells (bytesRow (bs l) k) 5 ((bytesRow (bs l) k).size, (bytesRow (bs l) k).size + 1))).cell? ⟨w.heap.size, j, none⟩ = some u := by
    intro j u hj
    have e : (w.drew.alloc (.cells (bytesRow (bs l) k) 5 ((bytesRow (bs l) k).size, (bytesRow (bs l) k).size + 1))).heap[w.heap.size]? = some (.cells (bytesRow (bs l) k) 5 ((bytesRow (bs l) k).size, (bytesRow (bs l) k).size + 1)) := by
      show (w.heap.push _)[w.heap.size]? = _
      simp
    have hjl : j < l.length := by
      have := (List.getElem?_eq_some_iff.1 hj).1
      rwa [byteCells_len] at this
    simp only [World.cell?, e]
    rw [← hj]
    simp [bytesRow, Lib.byteCells, Array.getElem?_append, hjl]
    simp [bs, hjl]
    intro hle
    have hle' : l.length ≤ j := hle
    omega
  unfold Oper.wp
  simp only [execOp, ho, hx, Sem.run_bind, hrun, Result.andThen_ok]
  refine hK _ _ (h k _ hk1 hk2 hnew ?_ ?_)
  · show w.heap.size < (w.heap.push _).size
    simp
  · exact ((Below.refl _ w).drew).alloc (Nat.le_refl _) _

/-- The table: for the bytes of D their texts, no slice for all others. -/
structure TabAt (w : World) (r : Nat) (D : List UInt8) : Prop where
  has : ∀ c ∈ D, ∃ g k : Nat, w.cell? ⟨r, c.toNat, none⟩ = some (.slice (some ⟨g, 0, none⟩) 2 k) ∧ 2 ≤ k ∧ k ≤ maxLen ∧ g < w.heap.size ∧ r < g ∧ ∀ j u, (Lib.byteCells (escB c))[j]? = some u → w.cell? ⟨g, j, none⟩ = some u
  non : ∀ c : UInt8, c ∉ D → w.cell? ⟨r, c.toNat, none⟩ = some (.slice none 0 0)
  free : Free w r
  lt : r < w.heap.size
theorem TabAt.past {B : Nat} {w w' : World} {r : Nat} {D : List UInt8} (h : TabAt w r D) (hb : Below B w w') (hlt : w.heap.size ≤ B) : TabAt w' r D := by
  have hr : r < B := Nat.lt_of_lt_of_le h.lt hlt
  refine ⟨fun c hc => ?_, fun c hc => (hb.cell (p := ⟨r, c.toNat, none⟩) hr).trans (h.non c hc), h.free.past hb hr, Nat.lt_of_lt_of_le h.lt hb.size⟩
  obtain ⟨g, k, h1, h2, h3, h4, h5, h6⟩ := h.has c hc
  exact ⟨g, k, (hb.cell (p := ⟨r, c.toNat, none⟩) hr).trans h1, h2, h3, Nat.lt_of_lt_of_le h4 hb.size, h5, fun j u hj => (hb.cell (p := ⟨g, j, none⟩) (Nat.lt_of_lt_of_le h4 hlt)).trans (h6 j u hj)⟩
/-- A store outside the table's 256 cells, in no text. -/
theorem TabAt.store {w : World} {r : Nat} {D : List UInt8} (h : TabAt w r D) (v : Value) : TabAt (w.setCell ⟨r, 256, none⟩ v) r D := by
  have hn : ∀ c : UInt8, (⟨r, 256, none⟩ : Addr) ≠ ⟨r, c.toNat, none⟩ := fun c e => by
    have h1 := congrArg Addr.off e
    have h2 := c.toNat_lt
    simp only at h1
    omega
  refine ⟨fun c hc => ?_, fun c hc => (World.cell?_setCell_other _ _ _ _ (hn c)).trans (h.non c hc), fun j => by rw [World.frozen?_setCell]; exact h.free j, by simpa using h.lt⟩
  obtain ⟨g, k, h1, h2, h3, h4, h5, h6⟩ := h.has c hc
  exact ⟨g, k, (World.cell?_setCell_other _ _ _ _ (hn c)).trans h1, h2, h3, by simpa using h4, h5, fun j u hj => (World.cell?_setCell_other _ _ _ _ (fun e => Nat.ne_of_lt h5 (congrArg Addr.block e))).trans (h6 j u hj)⟩
/-- One text more. -/
theorem TabAt.more {w : World} {r : Nat} {D : List UInt8} (h : TabAt w r D) {x : UInt8} (hx : x ∉ D) (g k : Nat) (h2 : 2 ≤ k) (h3 : k ≤ maxLen) (h4 : g < w.heap.size) (h5 : r < g)
    (h6 : ∀ j u, (Lib.byteCells (escB x))[j]? = some u → w.cell? ⟨g, j, none⟩ = some u) : TabAt (w.setCell ⟨r, x.toNat, none⟩ (.slice (some ⟨g, 0, none⟩) 2 k)) r (D ++ [x]) := by
  have hn : ∀ c : UInt8, c ≠ x → (⟨r, x.toNat, none⟩ : Addr) ≠ ⟨r, c.toNat, none⟩ := fun c hc e => by
    have h1 := congrArg Addr.off e
    simp only at h1
    exact hc (UInt8.toNat_inj.1 h1.symm)
  have hg : ∀ (g' j : Nat), r < g' → (⟨r, x.toNat, none⟩ : Addr) ≠ ⟨g', j, none⟩ := fun g' j h e => Nat.ne_of_lt h (congrArg Addr.block e)
  refine ⟨fun c hc => ?_, fun c hc => ?_, fun j => by rw [World.frozen?_setCell]; exact h.free j, by simpa using h.lt⟩
  · rw [List.mem_append, List.mem_singleton] at hc
    by_cases hcx : c = x
    · subst hcx
      exact ⟨g, k, World.cell?_setCell_same' _ _ _ (by rw [h.non c hx]; rfl), h2, h3, by simpa using h4, h5, fun j u hj => (World.cell?_setCell_other _ _ _ _ (hg _ _ h5)).trans (h6 j u hj)⟩
    · obtain ⟨g', k', q1, q2, q3, q4, q5, q6⟩ := h.has c (hc.resolve_right hcx)
      exact ⟨g', k', (World.cell?_setCell_other _ _ _ _ (hn c hcx)).trans q1, q2, q3, by simpa using q4, q5, fun j u hj => (World.cell?_setCell_other _ _ _ _ (hg _ _ q5)).trans (q6 j u hj)⟩
  · rw [List.mem_append, List.mem_singleton, not_or] at hc
    exact (World.cell?_setCell_other _ _ _ _ (hn c hc.2)).trans (h.non c hc.1)
theorem nils_get (v : Value) (c : UInt8) : (nils v)[c.toNat]? = some (.slice none 0 0) := by
  have h := c.toNat_lt
  unfold nils
  rw [List.getElem?_toArray, List.getElem?_append_left (by simpa using h), List.getElem?_replicate, if_pos (by simpa using h)]
theorem nils_last (v : Value) : (nils v)[256]? = some v := rfl
theorem tab_new (w : World) (r : Nat) (hr : w.heap[r]? = some (.cells (nils (.slice none 0 0)) 146 (0, 0))) (v : Value) :
    TabAt (w.setRow r (nils v)) r [] ∧ (w.setRow r (nils v)).cell? ⟨r, 256, none⟩ = some v := by
  have hc : ∀ j, (w.setRow r (nils v)).cell? ⟨r, j, none⟩ = (nils v)[j]? := fun j => cell_setRow_same w r j _ _ _ _ hr
  have hh := setRow_heap w r _ (nils v) _ _ hr
  refine ⟨⟨fun c hc => (by cases hc), fun c _ => (hc _).trans (nils_get v c), fun j => ?_, ?_⟩, (hc 256).trans (nils_last v)⟩
  · simp [World.frozen?, hh]
  · exact (Array.getElem?_eq_some_iff.1 hh).1
theorem TabAt.grown {w w' : World} {r n : Nat} {D : List UInt8} (h : TabAt w r D) (hg : w.grownBy w' (some n)) (hn : n < r) : TabAt w' r D := by
  have hb : ∀ k, k < w.heap.size → r ≤ k → w'.heap[k]? = w.heap[k]? := fun k hk hr => hg.block k hk (by simp; omega)
  have hc : ∀ k j, k < w.heap.size → r ≤ k → w'.cell? ⟨k, j, none⟩ = w.cell? ⟨k, j, none⟩ := fun k j hk hr => by simp only [World.cell?, hb k hk hr]
  refine ⟨fun c hc' => ?_, fun c hc' => (hc _ _ h.lt (Nat.le_refl _)).trans (h.non c hc'), fun j => ?_, Nat.lt_of_lt_of_le h.lt hg.size⟩
  · obtain ⟨g, k, h1, h2, h3, h4, h5, h6⟩ := h.has c hc'
    exact ⟨g, k, (hc _ _ h.lt (Nat.le_refl _)).trans h1, h2, h3, Nat.lt_of_lt_of_le h4 hg.size, h5, fun j u hj => (hc _ _ h4 (Nat.le_of_lt h5)).trans (h6 j u hj)⟩
  · have := h.free j
    simp only [World.frozen?, hb r h.lt (Nat.le_refl _)] at this ⊢
    exact this
theorem Six.past {B : Nat} {w w' : World} {b o : Nat} (h : Six w b o) (hb : Below B w w') (hB : w.heap.size ≤ B) : Six w' b o := by
  have hlt : b < B := Nat.lt_of_lt_of_le h.lt hB
  exact ⟨Nat.lt_of_lt_of_le h.lt hb.size, (hb.cell (p := ⟨b, o, none⟩) hlt).trans h.s0, (hb.cell (p := ⟨b, o + 1, none⟩) hlt).trans h.s1, (hb.cell (p := ⟨b, o + 2, none⟩) hlt).trans h.s2, (hb.cell (p := ⟨b, o + 3, none⟩) hlt).trans h.s3, (hb.cell (p := ⟨b, o + 4, none⟩) hlt).trans h.s4, (hb.cell (p := ⟨b, o + 5, none⟩) hlt).trans h.s5⟩
/-- Which byte the m-th round takes. -/
def takes (m : Nat) : UInt8 := if m = 0 then 10 else if m = 1 then 92 else 34
def takenB (m : Nat) : List UInt8 := [10, 92, 34].take m
theorem Six.round {w : World} {b o : Nat} (h : Six w b o) (m : Nat) (hm : m < 3) :
    w.cell? ⟨b, o + (4 - 2 * m), none⟩ = some (.string (bs [takes m])) ∧ w.cell? ⟨b, o + (4 - 2 * m + 1), none⟩ = some (.string (bs (escB (takes m)))) ∧ takenB (m + 1) = takenB m ++ [takes m] ∧ takes m ∉ takenB m ∧ (escB (takes m)).length = 2 := by
  obtain rfl | rfl | rfl : m = 0 ∨ m = 1 ∨ m = 2 := by omega
  · exact ⟨h.s4, h.s5, rfl, by decide, rfl⟩
  · exact ⟨h.s2, h.s3, rfl, by decide, rfl⟩
  · exact ⟨h.s0, h.s1, rfl, by decide, rfl⟩
def ones (D : List UInt8) : List (List UInt8) := D.map fun c => [c]

end Go.Proofs.YtnfjlimecoikpaaGreatDoor
/- The walk of strings.Replacer's build at the six texts. -/
namespace Go.Proofs.YtnfjlimecoikpaaGreatDoor
set_option maxRecDepth 100000
open Go.RowKit

/-- What the build hands out. -/
structure Built (w : World) (lo r : Nat) : Prop where
  tab : TabAt w r (takenB 3)
  low : lo ≤ r
  reps : ∃ n c : Nat, w.cell? ⟨r, 256, none⟩ = some (.slice (some ⟨n, 0, none⟩) 3 c) ∧ 3 ≤ c ∧ c ≤ maxLen ∧ lo ≤ n ∧ n < w.heap.size ∧ ∀ j u, (strCells (ones (takenB 3)))[j]? = some u → w.cell? ⟨n, j, none⟩ = some u
theorem Built.agree {w w' : World} {lo r : Nat} (h : Built w lo r) (hs : w.heap.size ≤ w'.heap.size) (hc : ∀ k j, lo ≤ k → k < w.heap.size → w'.cell? ⟨k, j, none⟩ = w.cell? ⟨k, j, none⟩)
    (hf : ∀ k j, lo ≤ k → k < w.heap.size → w'.frozen? ⟨k, j, none⟩ = w.frozen? ⟨k, j, none⟩) : Built w' lo r := by
  have hlr := h.low
  have hrl := h.tab.lt
  refine ⟨⟨fun c hc' => ?_, fun c hc' => (hc _ _ hlr hrl).trans (h.tab.non c hc'), fun j => (hf _ _ hlr hrl).trans (h.tab.free j), Nat.lt_of_lt_of_le hrl hs⟩, hlr, ?_⟩
  · obtain ⟨g, k, h1, h2, h3, h4, h5, h6⟩ := h.tab.has c hc'
    exact ⟨g, k, (hc _ _ hlr hrl).trans h1, h2, h3, Nat.lt_of_lt_of_le h4 hs, h5, fun j u hj => (hc _ _ (by omega) h4).trans (h6 j u hj)⟩
  · obtain ⟨n, c, h1, h2, h3, h4, h5, h6⟩ := h.reps
    exact ⟨n, c, (hc _ _ hlr hrl).trans h1, h2, h3, h4, Nat.lt_of_lt_of_le h5 hs, fun j u hj => (hc _ _ h4 h5).trans (h6 j u hj)⟩
theorem Built.past {B : Nat} {w w' : World} {lo r : Nat} (h : Built w lo r) (hb : Below B w w') (hB : w.heap.size ≤ B) : Built w' lo r :=
  h.agree hb.size (fun k j _ hk => hb.cell (p := ⟨k, j, none⟩) (Nat.lt_of_lt_of_le hk hB)) (fun k j _ hk => hb.frozen (p := ⟨k, j, none⟩) (Nat.lt_of_lt_of_le hk hB))
theorem Built.store {w : World} {lo r b : Nat} (h : Built w lo r) (hb : b < lo) (j : Nat) (v : Value) : Built (w.setCell ⟨b, j, none⟩ v) lo r :=
  h.agree (by simp) (fun k i hk _ => World.cell?_setCell_other _ _ _ _ (fun e => by have := congrArg Addr.block e; simp only at this; omega)) (fun k i _ _ => by rw [World.frozen?_setCell])
theorem one_str (w : World) (o : Obj) (l : List UInt8) (j : Nat) (u : Value) (h : [Value.string (bs l)][j]? = some u) : ((w.alloc o).alloc (.cells #[.string (bs l)] 9)).cell? ((⟨w.heap.size + 1, 0, none⟩ : Addr).add j) = some u := by
  have := new_cells (w.alloc o) #[.string (bs l)] 9 (0, 0) j u h
  rwa [World.size_alloc] at this
set_option maxHeartbeats 4000000 in
theorem build_any (b b1 o1 c1 : Nat) (w : World) (h4 : w.cell? ⟨b, 4, none⟩ = some (.slice (some ⟨b1, o1, none⟩) 6 c1)) (h6 : Six w b1 o1) :
    Calls Tryz.prog 90 #[.pointer (some ⟨b, 0, none⟩)] w fun e w' => ∃ r, e = .returned (.iface 147 (.pointer (some ⟨r, 0, none⟩))) ∧ Built w' w.heap.size r ∧ Below w.heap.size w w' := by
  obtain ⟨i0, hi, hz0, hz1, hz2⟩ := info_parts str_info
  have H6 := hid h6
  obtain ⟨hlt, s0, s1, s2, s3, s4, s5⟩ := h6
  go_enter Tryz.func90, Tryz.ntmps90
  go_wp2_with fail
  refine wp_loop_rounds 4 ?_
  iterate 3 (rw [rounds_succ]; go_wp2_with fail)
  rw [rounds_succ]
  go_wp2_with (at_make; go_must (refine wpList_make_own _ rfl _ _ 23 rfl w.heap.size 9 i0 (.string ⟨#[]⟩) 1 Tryz.underlying23 hi hz0 hz1 .i64 .i64 _ 3 rfl rfl rfl (by rw [hz2]; decide) (by decide) (Nat.le_refl _) ?_); intro w0 hown0 hgrow0; go_must (refine wpList_buildTo rfl 146 _ rfl (some 95) rfl (nils (.slice (some ⟨w.heap.size, 0, none⟩) 0 3)) (by kernel_rfl) ?_); go_must (refine Go.Great.wpList_runTo rfl (some 11) rfl (.pointer (some ⟨w0.heap.size, 0, none⟩)) (w0.alloc (.cells (nils (.slice none 0 0)) 146)) (by kernel_rfl) ?_); go_must (refine wpList_store_rowTo rfl 146 _ _ rfl rfl w0.heap.size (nils (.slice (some ⟨w.heap.size, 0, none⟩) 0 3)) (by kernel_rfl) (by kernel_rfl) 146 (nils (.slice none 0 0)) Array.getElem?_push_size (by kernel_rfl) rfl (nils_one _ _ _) ?_))
  have hnR : w.heap.size < w0.heap.size := (hown0.lt _ rfl).2
  obtain ⟨htab, htv⟩ := tab_new (w0.alloc (.cells (nils (.slice none 0 0)) 146)) w0.heap.size Array.getElem?_push_size (.slice (some ⟨w.heap.size, 0, none⟩) 0 3)
  have hB0 : Below w0.heap.size w0 ((w0.alloc (.cells (nils (.slice none 0 0)) 146)).setRow w0.heap.size (nils (.slice (some ⟨w.heap.size, 0, none⟩) 0 3))) := below_setRow ((Below.refl _ _).alloc (Nat.le_refl _) _) (Nat.le_refl _) _
  have hown := ownsRow_below hown0 hB0
  have hBw : Below w.heap.size w ((w0.alloc (.cells (nils (.slice none 0 0)) 146)).setRow w0.heap.size (nils (.slice (some ⟨w.heap.size, 0, none⟩) 0 3))) := ((Below.refl _ w).grown hgrow0 (Nat.le_refl _) (by intro k hk; cases hk)).trans (hB0.mono (Nat.le_of_lt hnR))
  clear hown0 hgrow0 hB0
  generalize (w0.alloc (.cells (nils (.slice none 0 0)) 146)).setRow w0.heap.size (nils (.slice (some ⟨w.heap.size, 0, none⟩) 0 3)) = W0 at *
  generalize w0.heap.size = R at *
  have HS0 := hid hBw
  have HT0 := hid (And.intro htab (And.intro htv hown))
  clear htab htv hown hBw h4 s0 s1 s2 s3 s4 s5
  go_loopw [12] (fun i wr => ∃ m : Nat, m ≤ 3 ∧ i = .int .i64 (4 - 2 * (m : Int)) ∧ Hid (TabAt wr R (takenB m) ∧ wr.cell? ⟨R, 256, none⟩ = some (.slice (some ⟨w.heap.size, 0, none⟩) m 3) ∧ wr.ownsRow w.heap.size 9 1 (.slice (some ⟨w.heap.size, 0, none⟩) m 3) m (strCells (ones (takenB m)))) ∧ Hid (Below w.heap.size w wr)) (fun i _ => (intOf i + 2).toNat)
  case atStart => exact ⟨0, by omega, rfl, HT0, HS0⟩
  case round =>
    obtain ⟨m, hm3, rfl, HT, HB⟩ := hrel
    obtain ⟨htab, htv, hown⟩ := HT.out
    by_cases hlt3 : m < 3
    · have h6r := H6.out.past HB.out (Nat.le_refl _)
      obtain ⟨t0, t1, e1, e2, e3⟩ := h6r.round m hlt3
      have hnon := htab.non _ e2
      have hfr := htab.free
      have hRl := htab.lt
      have hx256 := (takes m).toNat_lt
      have E1 := hid e1
      have E2 := hid e2
      have hti : ((4 : Int) - 2 * (m : Int)) = ((4 - 2 * m : Nat) : Int) := by omega
      have hi5 : 4 - 2 * m + 1 < 6 := by omega
      have Hm : Hid ((4 - 2 * m : Nat) + 2 * m = 4) := hid (by omega)
      obtain ⟨x, hxe⟩ : ∃ x, takes m = x := ⟨_, rfl⟩
      obtain ⟨tx, htx⟩ : ∃ tx, escB (takes m) = tx := ⟨_, rfl⟩
      rw [htx] at t1 e3
      rw [hxe] at t0 hnon hx256 E1 E2 htx
      have Htx := hid htx
      rw [hti]
      generalize 4 - 2 * m = i at *
      have hi1 : ((i : Int) + 1).toNat = i + 1 := by omega
      have hz256 : wr.frozen? ⟨R, 256, none⟩ = false := hfr 256
      have hzx : wr.frozen? ⟨R, x.toNat, none⟩ = false := hfr x.toNat
      have hcv := run_conv_at (one_byte wr x)
      have HTr := hid htab
      have Hown := hid hown
      clear h6r e1 e2 hxe htx hti hown htab hfr
      have hnil : ∀ W : World, (binOp .eql 68 (.slice none 0 0) (.slice none 0 0)).run Tryz.prog W = .ok (.bool true) W := fun W => by kernel_rfl
      go_wp2_with (at_builtin; go_must (refine wpList_append_fits _ rfl _ _ 23 rfl w.heap.size 9 i0 1 Tryz.underlying23 hi hz1 w.heap.size m 3 (strCells (ones (takenB m))) rfl ?own ⟨wr.heap.size + 1, 0, none⟩ 1 1 [.string (bs [x])] rfl rfl ?hc (by simp [Value.oneCell']) (by omega) ?_))
      case own => exact ((Hown.out.alloc _).alloc _)
      case hc => exact fun j u hj => one_str _ _ _ j u hj
      intro w3 hown3 hgrow3
      have hRne : ∀ j : Nat, w3.cell? ⟨R, j, none⟩ = wr.cell? ⟨R, j, none⟩ := fun j => by
        have h1 : w3.heap[R]? = ((wr.alloc (.cells #[.int .u8 x.toNat] 5)).alloc (.cells #[.string (bs [x])] 9)).heap[R]? := hgrow3.block R (by simp; omega) (by simp; omega)
        have h2 := (((Below.refl wr.heap.size wr).alloc (Nat.le_refl _) (.cells #[.int .u8 x.toNat] 5)).alloc (by simp) (.cells #[.string (bs [x])] 9)).block R hRl
        simp only [World.cell?, h1, h2]
      have htv3 := (hRne 256).trans htv
      have HT3 : Hid (TabAt w3 R (takenB m)) := hid ((HTr.out.past (((Below.refl wr.heap.size wr).alloc (Nat.le_refl _) _).alloc (by simp) _) (Nat.le_refl _)).grown hgrow3 hnR)
      have hz3 : w3.frozen? ⟨R, 256, none⟩ = false := HT3.out.free 256
      have HB3 : Hid (Below w.heap.size w w3) := hid (((HB.out.alloc (HB.out.size) _).alloc (by simp; have := HB.out.size; omega) _).grown hgrow3 (by simp; have := HB.out.size; omega) (by intro k hk; cases hk; exact Nat.le_refl _))
      have Hown3 := hid hown3
      have hR3 := HT3.out.lt
      clear hown3 hgrow3 hRne htv hnon hz256 hzx hcv t0 t1
      go_wp2_with (refine wpList_conv_bytes rfl _ rfl tx 2 e3 (by omega) rfl ?_; intro k5 w5 hk51 hk52 hcell5 hsz5 hb5; have HT5 := hid ((HT3.out.store (.slice (some ⟨w.heap.size, 0, none⟩) (m + 1) 3)).past hb5 (Nat.le_refl _)); have hcx5 := HT5.out.non x E2.out; have hzx5 : w5.frozen? ⟨R, x.toNat, none⟩ = false := HT5.out.free x.toNat)
      have hgt : R < w3.heap.size := hR3
      have HT6 : TabAt (w5.setCell ⟨R, x.toNat, none⟩ (.slice (some ⟨w3.heap.size, 0, none⟩) 2 k5)) R (takenB (m + 1)) := by
        rw [E1.out]
        refine HT5.out.more E2.out _ k5 hk51 hk52 (by simpa using hsz5) hgt ?_
        intro j u hj
        rw [Htx.out] at hj
        simpa using hcell5 j u hj
      have hne : (⟨R, x.toNat, none⟩ : Addr) ≠ ⟨R, 256, none⟩ := fun e => by
        have := congrArg Addr.off e
        simp only at this
        omega
      have htv5 : w5.cell? ⟨R, 256, none⟩ = some (.slice (some ⟨w.heap.size, 0, none⟩) (m + 1) 3) := (hb5.cell (p := ⟨R, 256, none⟩) (by simpa using hgt)).trans (World.cell?_setCell_same' _ _ _ (by rw [htv3]; rfl))
      have hown6 := ownsRow_setCell_other (ownsRow_below (ownsRow_setCell_other Hown3.out (a := ⟨R, 256, none⟩) (by simp [Value.ownBlock]; omega) (.slice (some ⟨w.heap.size, 0, none⟩) (m + 1) 3)) hb5) (a := ⟨R, x.toNat, none⟩) (by simp [Value.ownBlock]; omega) (.slice (some ⟨w3.heap.size, 0, none⟩) 2 k5)
      have hones : strCells (ones (takenB m)) ++ [.string (bs [x])] = strCells (ones (takenB (m + 1))) := by rw [E1.out]; simp [ones, strCells]
      rw [hones] at hown6
      have hHm := Hm.out
      refine ⟨⟨m + 1, by omega, by congr 1; omega, hid ⟨HT6, (World.cell?_setCell_other _ _ _ _ hne).trans htv5, hown6⟩, hid (((HB3.out.setCell (p := ⟨R, 256, none⟩) (Nat.le_of_lt hnR) _).trans (hb5.mono (by simp; omega))).setCell (p := ⟨R, x.toNat, none⟩) (Nat.le_of_lt hnR) _)⟩, by simp [intOf]; omega⟩
    · obtain rfl : m = 3 := by omega
      have HE : Hid (Built wr w.heap.size R) := hid (by
        obtain ⟨hl, a, c, he, hc, hm, _, hx⟩ := SliceAt.of_owns hown (by decide)
        obtain ⟨n, o, rfl, hlt', hcl⟩ := hx (by decide)
        cases he
        exact ⟨htab, Nat.le_of_lt hnR, _, _, htv, hc, hm, Nat.le_refl _, hlt', fun j u hj => by simpa using hcl j u hj⟩)
      clear htab htv hown HT
      go_wp2_with fail
      go_ret
      exact ⟨R, rfl, HE.out, HB.out⟩
end Go.Proofs.YtnfjlimecoikpaaGreatDoor
/- The replacer's build, once: buildOnce, doSlow, Do. -/
namespace Go.Proofs.YtnfjlimecoikpaaGreatDoor
set_option maxRecDepth 100000
open Go.RowKit

theorem Repl.put0 {w : World} {b : Nat} {d st : Int} {r v : Value} (h : Repl w b d st r v) (n : Int) : Repl (w.setCell ⟨b, 0, none⟩ (.int .u32 n)) b n st r v :=
  ⟨World.cell?_setCell_same' _ _ _ (by rw [h.c0]; rfl), (World.cell?_setCell_other _ _ _ _ (by simp)).trans h.c1, (World.cell?_setCell_other _ _ _ _ (by simp)).trans h.c2, (World.cell?_setCell_other _ _ _ _ (by simp)).trans h.c3, (World.cell?_setCell_other _ _ _ _ (by simp)).trans h.c4, fun j => by rw [World.frozen?_setCell]; exact h.fr j⟩
theorem Repl.put1 {w : World} {b : Nat} {d st : Int} {r v : Value} (h : Repl w b d st r v) (n : Int) : Repl (w.setCell ⟨b, 1, none⟩ (.int .i32 n)) b d n r v :=
  ⟨(World.cell?_setCell_other _ _ _ _ (by simp)).trans h.c0, World.cell?_setCell_same' _ _ _ (by rw [h.c1]; rfl), (World.cell?_setCell_other _ _ _ _ (by simp)).trans h.c2, (World.cell?_setCell_other _ _ _ _ (by simp)).trans h.c3, (World.cell?_setCell_other _ _ _ _ (by simp)).trans h.c4, fun j => by rw [World.frozen?_setCell]; exact h.fr j⟩
theorem Repl.put3 {w : World} {b : Nat} {d st : Int} {r v : Value} (h : Repl w b d st r v) (x : Value) : Repl (w.setCell ⟨b, 3, none⟩ x) b d st x v :=
  ⟨(World.cell?_setCell_other _ _ _ _ (by simp)).trans h.c0, (World.cell?_setCell_other _ _ _ _ (by simp)).trans h.c1, (World.cell?_setCell_other _ _ _ _ (by simp)).trans h.c2, World.cell?_setCell_same' _ _ _ (by rw [h.c3]; rfl), (World.cell?_setCell_other _ _ _ _ (by simp)).trans h.c4, fun j => by rw [World.frozen?_setCell]; exact h.fr j⟩
theorem Repl.put4 {w : World} {b : Nat} {d st : Int} {r v : Value} (h : Repl w b d st r v) (x : Value) : Repl (w.setCell ⟨b, 4, none⟩ x) b d st r x :=
  ⟨(World.cell?_setCell_other _ _ _ _ (by simp)).trans h.c0, (World.cell?_setCell_other _ _ _ _ (by simp)).trans h.c1, (World.cell?_setCell_other _ _ _ _ (by simp)).trans h.c2, (World.cell?_setCell_other _ _ _ _ (by simp)).trans h.c3, World.cell?_setCell_same' _ _ _ (by rw [h.c4]; rfl), fun j => by rw [World.frozen?_setCell]; exact h.fr j⟩
/-- A replacer that is built. -/
def Ready (w : World) (b : Nat) (d st : Int) : Prop := ∃ r, Repl w b d st (.iface 147 (.pointer (some ⟨r, 0, none⟩))) (.slice none 0 0) ∧ ∃ lo, b < lo ∧ Built w lo r

set_option maxHeartbeats 1000000 in
theorem buildOnce_any (b b1 o1 c1 : Nat) (d st : Int) (r0 : Value) (w : World) (hr : Repl w b d st r0 (.slice (some ⟨b1, o1, none⟩) 6 c1)) (h6 : Six w b1 o1) :
    Calls Tryz.prog 77 #[.pointer (some ⟨b, 0, none⟩)] w fun e w' => e = .returned (.tuple #[]) ∧ Ready w' b d st ∧ Below b w w' := by
  have hlt : b < w.heap.size := World.block_lt_of_cell? w _ hr.c0
  have Hr := hid hr
  have H6 := hid h6
  clear hr h6
  go_enter Tryz.func77, Tryz.ntmps77
  go_wp2_with (go_at_call 90; refine (build_any b b1 o1 c1 _ Hr.out.c4 H6.out).mono ?_; rintro e w1 ⟨r, rfl, hB, hb1⟩; have HR1 := hid (Hr.out.past hb1 hlt); have HBu := hid hB; have q3 := HR1.out.c3; have q4 := HR1.out.c4; have z3 := HR1.out.fr 3; have z4 := HR1.out.fr 4; clear hB)
  go_end0
  exact ⟨rfl, ⟨r, (HR1.out.put3 _).put4 _, w.heap.size, hlt, (HBu.out.store hlt 3 _).store hlt 4 _⟩, ((hb1.mono (Nat.le_of_lt hlt)).setCell (Nat.le_refl _) _).setCell (Nat.le_refl _) _⟩

theorem bload_any (a : Addr) (x : Int) (w : World) (hc : w.cell? a = some (.int .u32 x)) :
    Calls Tryz.prog 88 #[.pointer (some a)] w fun e w' => e = .returned (.bool (x != 0)) ∧ w' = w := by
  have hl := run_call_load (P := Tryz.prog) Tryz.func107 (by kernel_rfl) (by kernel_rfl) (by kernel_rfl) .u32 (by kernel_rfl) (w := w) (a := a) (x := x) hc
  go_enter Tryz.func88, Tryz.ntmps88
  go_wp2
  go_ret
  exact ⟨rfl, rfl⟩
end Go.Proofs.YtnfjlimecoikpaaGreatDoor
/- sync.Once's Do at the replacer. -/
namespace Go.Proofs.YtnfjlimecoikpaaGreatDoor
set_option maxRecDepth 100000
open Go.RowKit

set_option maxHeartbeats 2000000 in
theorem slow_any (b b1 o1 c1 : Nat) (r0 : Value) (w : World) (hr : Repl w b 0 0 r0 (.slice (some ⟨b1, o1, none⟩) 6 c1)) (h6 : Six w b1 o1) (hb1b : b1 ≠ b) :
    Calls Tryz.prog 89 #[.pointer (some ⟨b, 0, none⟩), .func (.func 77) #[.pointer (some ⟨b, 0, none⟩)] #[]] w fun e w' => e = .returned (.tuple #[]) ∧ Ready w' b 1 0 ∧ Below b w w' := by
  have Hr := hid hr
  have hc1' := hr.c1
  have hz1' := hr.fr 1
  have HrL := hid (hr.put1 1)
  have H6L : Hid (Six (w.setCell ⟨b, 1, none⟩ (.int .i32 1)) b1 o1) := hid (by
    have hn : ∀ j : Nat, (⟨b, 1, none⟩ : Addr) ≠ ⟨b1, j, none⟩ := fun j e => hb1b (congrArg Addr.block e).symm
    exact ⟨by simpa using h6.lt, (World.cell?_setCell_other _ _ _ _ (hn _)).trans h6.s0, (World.cell?_setCell_other _ _ _ _ (hn _)).trans h6.s1, (World.cell?_setCell_other _ _ _ _ (hn _)).trans h6.s2, (World.cell?_setCell_other _ _ _ _ (hn _)).trans h6.s3, (World.cell?_setCell_other _ _ _ _ (hn _)).trans h6.s4, (World.cell?_setCell_other _ _ _ _ (hn _)).trans h6.s5⟩)
  clear hr h6
  have hnot : ∀ (x : Bool) (w : World), (Op.unary .not (.bool x)).run Tryz.prog w = .ok (.bool (!x)) w := fun _ _ => rfl
  go_enter_defers Tryz.func89, Tryz.ntmps89
  go_wp2_with (first
    | (go_at_call 108; refine (lock_free ⟨b, 1, none⟩ _ hc1' hz1').mono ?_; rintro e w' ⟨rfl, rfl⟩)
    | (go_at_call 88; refine (bload_any ⟨b, 0, none⟩ 0 _ HrL.out.c0).mono ?_; rintro e w' ⟨rfl, rfl⟩)
    | (go_at_call 77; refine (buildOnce_any b b1 o1 c1 0 1 r0 _ HrL.out H6L.out).mono ?_; rintro e w2 ⟨rfl, hrd, hb2⟩))
  obtain ⟨r, hR2, lo, hlo, hBu⟩ := hrd
  have hlt2 : b < w2.heap.size := World.block_lt_of_cell? w2 _ hR2.c0
  have hR2d := hR2.past ((Below.refl w2.heap.size w2).drew) hlt2
  have hR3 := hR2d.put0 1
  have hB3 := (hBu.past ((Below.refl w2.heap.size w2).drew) (Nat.le_refl _)).store hlo 0 (.int .u32 1)
  refine leaves_cons (f := 110) (args := #[.pointer (some ⟨b, 0, none⟩), .bool true]) (by simp) (by simp [go_sem]) ?_
  refine (store_deferred ⟨b, 0, none⟩ (.int .u32 0) .returning _ hR2.c0 (hR2.fr 0)).mono ?_
  rintro e u' w'' ⟨rfl, rfl, rfl⟩
  refine leaves_cons (f := 109) (args := #[.pointer (some ⟨b, 1, none⟩)]) (by simp [settle]) (by simp [go_sem]) ?_
  refine (unlock_deferred ⟨b, 1, none⟩ _ _ hR3.c1 (hR3.fr 1)).mono ?_
  rintro e u' w'' ⟨rfl, rfl, rfl⟩
  have HE : Hid (Ready ((w2.drew.setCell ⟨b, 0, none⟩ (.int .u32 1)).setCell ⟨b, 1, none⟩ (.int .i32 0)) b 1 0 ∧ Below b w ((w2.drew.setCell ⟨b, 0, none⟩ (.int .u32 1)).setCell ⟨b, 1, none⟩ (.int .i32 0))) :=
    hid ⟨⟨r, hR3.put1 0, lo, hlo, hB3.store hlo 1 _⟩, (((((Below.refl b w).setCell (p := ⟨b, 1, none⟩) (Nat.le_refl _) _).trans hb2).drew).setCell (p := ⟨b, 0, none⟩) (Nat.le_refl _) _).setCell (p := ⟨b, 1, none⟩) (Nat.le_refl _) _⟩
  simp [Leaves, settle, results, Tryz.f89]
  exact HE.out
set_option maxHeartbeats 1000000 in
theorem do_any (b b1 o1 c1 : Nat) (r0 : Value) (w : World) (hr : Repl w b 0 0 r0 (.slice (some ⟨b1, o1, none⟩) 6 c1)) (h6 : Six w b1 o1) (hb1b : b1 ≠ b) :
    Calls Tryz.prog 76 #[.pointer (some ⟨b, 0, none⟩), .func (.func 77) #[.pointer (some ⟨b, 0, none⟩)] #[]] w fun e w' => e = .returned (.tuple #[]) ∧ Ready w' b 1 0 ∧ Below b w w' := by
  have Hr := hid hr
  have H6 := hid h6
  clear hr h6
  go_enter Tryz.func76, Tryz.ntmps76
  go_wp2_with (first
    | (go_at_call 88; refine (bload_any ⟨b, 0, none⟩ 0 _ Hr.out.c0).mono ?_; rintro e w' ⟨rfl, rfl⟩)
    | (go_at_call 89; refine (slow_any b b1 o1 c1 r0 _ Hr.out H6.out hb1b).mono ?_; rintro e w2 ⟨rfl, hrd, hb2⟩))
  go_end0
  exact ⟨rfl, hrd, hb2⟩
end Go.Proofs.YtnfjlimecoikpaaGreatDoor
/- byteStringReplacer's counts, plain. -/
namespace Go.Proofs.YtnfjlimecoikpaaGreatDoor
set_option maxRecDepth 100000
open Go.RowKit

def hit (c : UInt8) : Bool := decide (c ∈ takenB 3)
theorem hit_iff (c : UInt8) : hit c = true ↔ c.toNat = 10 ∨ c.toNat = 92 ∨ c.toNat = 34 := by
  have h : ∀ d : UInt8, c = d ↔ c.toNat = d.toNat := fun d => UInt8.toNat_inj.symm
  simp [hit, takenB, h]
theorem mem_of_hit {c : UInt8} (h : hit c = true) : c ∈ takenB 3 := of_decide_eq_true h
theorem not_of_hit {c : UInt8} (h : hit c = false) : c ∉ takenB 3 := of_decide_eq_false h
theorem esc_hit {c : UInt8} (h : hit c = true) : (escB c).length = 2 := by
  rcases (hit_iff c).1 h with e | e | e
  · rw [esc_ten e]; rfl
  · rw [esc_two (by omega) (.inr e)]; rfl
  · rw [esc_two (by omega) (.inl e)]; rfl
theorem esc_not {c : UInt8} (h : hit c = false) : escB c = [c] := by
  have h' : ¬ (c.toNat = 10 ∨ c.toNat = 92 ∨ c.toNat = 34) := fun e => by rw [(hit_iff c).2 e] at h; cases h
  exact esc_one (fun e => h' (.inl e)) (fun e => h' (e.elim (fun e => .inr (.inr e)) (fun e => .inr (.inl e))))
theorem esc_hit_len (c : UInt8) : (escB c).length = 1 + (if hit c = true then 1 else 0) := by
  cases h : hit c with
  | true => rw [esc_hit h]; rfl
  | false => rw [esc_not h]; rfl
/-- By bytes. -/
def sizeB (s : List UInt8) (k : Nat) : Nat := s.length + ((s.take k).countP hit)
theorem sizeB_zero (s : List UInt8) : sizeB s 0 = s.length := by simp [sizeB]
theorem sizeB_step {s : List UInt8} {k : Nat} (h : k < s.length) : sizeB s (k + 1) = sizeB s k + (if hit s[k] = true then 1 else 0) := by
  unfold sizeB
  rw [take_at s k h, List.countP_append, List.countP_singleton]
  omega
theorem flat_len (s : List UInt8) : (s.flatMap escB).length = s.length + s.countP hit := by
  induction s with
  | nil => rfl
  | cons c r ih => rw [List.flatMap_cons, List.length_append, ih, esc_hit_len, List.countP_cons, List.length_cons]; omega
theorem sizeB_end (s : List UInt8) : sizeB s s.length = (s.flatMap escB).length := by rw [flat_len, sizeB, List.take_length]
theorem any_step {s : List UInt8} {k : Nat} (h : k < s.length) : (s.take (k + 1)).any hit = ((s.take k).any hit || hit s[k]) := by
  rw [take_at s k h, List.any_append]; simp
theorem flat_same : ∀ {s : List UInt8}, s.any hit = false → s.flatMap escB = s
  | [], _ => rfl
  | c :: r, h => by
    rw [List.any_cons, Bool.or_eq_false_iff] at h
    rw [List.flatMap_cons, esc_not h.1, flat_same h.2]; rfl
/-- By counts. -/
def sizeC (s : List UInt8) (k : Nat) : Nat := s.length + ((takenB k).map (fun x => s.count x)).sum
def anyC (s : List UInt8) (k : Nat) : Bool := (takenB k).any (fun x => s.count x != 0)
theorem count_three (s : List UInt8) : s.countP hit = s.count 10 + s.count 92 + s.count 34 := by
  induction s with
  | nil => rfl
  | cons c r ih =>
    simp only [List.countP_cons, List.count_cons, ih]
    have hb : ∀ d : UInt8, (c == d) = decide (c = d) := fun d => by by_cases h : c = d <;> simp [h]
    simp only [hb]
    by_cases h1 : c = 10
    · subst h1; simp [hit, takenB]; omega
    · by_cases h2 : c = 92
      · subst h2; simp [hit, takenB]; omega
      · by_cases h3 : c = 34
        · subst h3; simp [hit, takenB]; omega
        · simp [hit, takenB, h1, h2, h3]
theorem sizeC_end (s : List UInt8) : sizeC s 3 = (s.flatMap escB).length := by
  rw [flat_len, count_three]; simp [sizeC, takenB]; omega
theorem anyC_end (s : List UInt8) : anyC s 3 = s.any hit := by
  have h := count_three s
  have h1 : s.any hit = (s.countP hit != 0) := by
    cases h2 : s.any hit with
    | false =>
      have : s.countP hit = 0 := List.countP_eq_zero.2 (fun a ha => by
        have := List.any_eq_false.1 h2 a ha
        exact this)
      simp [this]
    | true =>
      obtain ⟨a, ha, hh⟩ := List.any_eq_true.1 h2
      have : 0 < s.countP hit := List.countP_pos_iff.2 ⟨a, ha, hh⟩
      have hne : s.countP hit ≠ 0 := by omega
      simp [hne]
  rw [h1, h]
  have e : anyC s 3 = ((s.count 10 != 0) || ((s.count 92 != 0) || (s.count 34 != 0))) := by simp [anyC, takenB]
  rw [e]
  generalize s.count 10 = a
  generalize s.count 92 = b
  generalize s.count 34 = c
  cases a <;> cases b <;> cases c <;> first | rfl | (simp [bne]; done) | (apply Eq.symm; simp; omega) | (simp; omega)
theorem sizeC_step (s : List UInt8) (k : Nat) (h : k < 3) : sizeC s (k + 1) = sizeC s k + s.count (takes k) ∧ anyC s (k + 1) = (anyC s k || (s.count (takes k) != 0)) := by
  obtain rfl | rfl | rfl : k = 0 ∨ k = 1 ∨ k = 2 := by omega
  · exact ⟨by simp [sizeC, takenB, takes], by simp [anyC, takenB, takes]⟩
  · exact ⟨by simp [sizeC, takenB, takes]; omega, by simp [anyC, takenB, takes]⟩
  · exact ⟨by simp [sizeC, takenB, takes]; omega, by simp [anyC, takenB, takes, Bool.or_assoc]⟩
theorem sizeC_le (s : List UInt8) (k : Nat) (h : k ≤ 3) : sizeC s k ≤ 4 * s.length := by
  have h1 : s.count 10 ≤ s.length := List.count_le_length
  have h2 : s.count 92 ≤ s.length := List.count_le_length
  have h3 : s.count 34 ≤ s.length := List.count_le_length
  obtain rfl | rfl | rfl | rfl : k = 0 ∨ k = 1 ∨ k = 2 ∨ k = 3 := by omega
  all_goals simp [sizeC, takenB]; omega
theorem sizeB_le (s : List UInt8) (k : Nat) : sizeB s k ≤ 2 * s.length := by
  have h1 : (s.take k).countP hit ≤ (s.take k).length := List.countP_le_length
  rw [List.length_take] at h1
  unfold sizeB
  omega
theorem count_le (s : List UInt8) (x : UInt8) : s.count x ≤ s.length := List.count_le_length
theorem flat_step {s : List UInt8} {k : Nat} (h : k < s.length) : (s.take (k + 1)).flatMap escB = (s.take k).flatMap escB ++ escB s[k] := by
  rw [take_at s k h, List.flatMap_append]; simp only [List.flatMap_cons, List.flatMap_nil, List.append_nil]
theorem flat_fit {s : List UInt8} {k : Nat} (h : k < s.length) : ((s.take k).flatMap escB).length + (escB s[k]).length ≤ (s.flatMap escB).length := by
  have h1 : s.flatMap escB = (s.take (k + 1)).flatMap escB ++ (s.drop (k + 1)).flatMap escB := by rw [← List.flatMap_append, List.take_append_drop]
  rw [h1, flat_step h]
  simp only [List.length_append]; omega
theorem own_list {w : World} {base : Nat} {e : TypeId} {a : Addr} {n c : Nat} {xs : List Value} (h : w.ownsRow base e 1 (.slice (some a) n c) n xs) : ∃ L : List Value, w.heap[a.block]? = some (.cells L.toArray e (0, 0)) ∧ L.length = c := by
  obtain ⟨_, h | ⟨g, cap, cur, he, _, hh, _, _, hc, _⟩⟩ := h
  · cases h.1
  · cases he
    exact ⟨cur.toList, by simpa using hh, by simpa using hc⟩
theorem quote_flat {s : List UInt8} (h : s.any badQ = false) : quoteL s = 34 :: (s.flatMap escB ++ [34]) := by
  unfold quoteL; rw [h]; rfl
end Go.Proofs.YtnfjlimecoikpaaGreatDoor
