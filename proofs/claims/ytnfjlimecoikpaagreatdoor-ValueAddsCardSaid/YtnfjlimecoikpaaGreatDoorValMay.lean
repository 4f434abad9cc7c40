/- The program's walk over values: may; one block that is written. -/
import Derived.Test.YtnfjlimecoikpaaGreatDoorValRises
import Derived.Test.YtnfjlimecoikpaaGreatDoorCells
import Derived.RegionTactic
import Derived.Deep.RegionWith
import Derived.Deep.DeepCutAuto
namespace Go.Proofs.YtnfjlimecoikpaaGreatDoor
set_option maxRecDepth 100000
open Go.RowKit

/-- Every block that stood has stayed, but for one. -/
structure But (b : Nat) (w w' : World) : Prop where
  os : w'.os = w.os
  tape : w'.tape = w.tape
  output : w'.output = w.output
  size : w.heap.size ≤ w'.heap.size
  block : ∀ k, k < w.heap.size → k ≠ b → w'.heap[k]? = w.heap[k]?
theorem But.of {b : Nat} {w w' : World} (h : Below w.heap.size w w') : But b w w' := ⟨h.os, h.tape, h.output, h.size, fun k hk _ => h.block k hk⟩
theorem But.trans {b : Nat} {w w1 w2 : World} (h : But b w w1) (k : But b w1 w2) : But b w w2 :=
  ⟨k.os.trans h.os, k.tape.trans h.tape, k.output.trans h.output, Nat.le_trans h.size k.size, fun i hi hn => (k.block i (Nat.lt_of_lt_of_le hi h.size) hn).trans (h.block i hi hn)⟩
theorem But.set {b : Nat} (w : World) (o : Nat) (v : Value) : But b w (w.setCell ⟨b, o, none⟩ v) := by
  have h := (Below.refl b w).setCell (p := ⟨b, o, none⟩) (Nat.le_refl _) v
  exact ⟨h.os, h.tape, h.output, h.size, fun k _ hn => Below.heap_setCell w _ _ k hn⟩
theorem But.cell {b : Nat} {w w' : World} (h : But b w w') {c o : Nat} (hc : c < w.heap.size) (hn : c ≠ b) : w'.cell? ⟨c, o, none⟩ = w.cell? ⟨c, o, none⟩ := World.cell?_of_block (w := w) (h.block c hc hn)
theorem But.below {b : Nat} {w0 w w' : World} (h0 : Below w0.heap.size w0 w) (hb : w0.heap.size ≤ b) (h : But b w w') : Below w0.heap.size w0 w' :=
  ⟨h.os.trans h0.os, h.tape.trans h0.tape, h.output.trans h0.output, Nat.le_trans h0.size h.size, fun k hk => (h.block k (Nat.lt_of_lt_of_le hk h0.size) (by omega)).trans (h0.block k hk)⟩
/-- The cell that counts. -/
structure Left (w : World) (b : Nat) (x : Int) : Prop where
  c : w.cell? ⟨b, 0, none⟩ = some (.int .i64 x)
  f : w.frozen? ⟨b, 0, none⟩ = false
theorem Left.lt {w : World} {b : Nat} {x : Int} (h : Left w b x) : b < w.heap.size := World.block_lt_of_cell? w _ h.c
theorem Left.keep {w w' : World} {b : Nat} {x : Int} (h : Left w b x) (hb : Below w.heap.size w w') : Left w' b x :=
  ⟨keeps_of hb h.c, (hb.frozen (p := ⟨b, 0, none⟩) h.lt).trans h.f⟩
theorem Left.set {w : World} {b : Nat} {x : Int} (h : Left w b x) (y : Int) : Left (w.setCell ⟨b, 0, none⟩ (.int .i64 y)) b y :=
  ⟨World.cell?_setCell_same' _ _ _ (by rw [h.c]; rfl), by rw [World.frozen?_setCell]; exact h.f⟩
def MayRet (r : Option Nat) (b : Nat) (w : World) (e : Ending) (w' : World) : Prop :=
  ∃ x : Int, e = .returned (.bool r.isSome) ∧ (∀ m, r = some m → x = m) ∧ But b w w' ∧ Left w' b x
theorem may_none {v : VM} {k n : Int} {s : List UInt8} {lv kv : Value} {l : List VM} {ks : List (List UInt8)} (hv : v = .mk k n s lv kv l ks) {d m : Nat} (h : 60 < d ∨ m = 0 ∨ nodeB k n s l.length ks = false) : mayR v d m = none := by
  subst hv
  unfold mayR
  rcases h with h | h | h
  · rw [if_pos (.inl h)]
  · rw [if_pos (.inr h)]
  · split
    · rfl
    · rfl
theorem may_three (w : World) (k n : Int) (s : List UInt8) (lv kv : Value) (d b : Nat) (m : Int) (hL : Left w b m) (e1 e2 e3 : TypeId) :
    ∃ W, W = ((w.alloc (.cells #[.int .i64 k, .int .i64 n, .string (bs s), lv, kv] e1)).alloc (.cells #[.int .i64 d] e2)).alloc (.cells #[.pointer (some ⟨b, 0, none⟩)] e3) ∧
      Box W w.heap.size k n s lv kv ∧ W.cell? ⟨w.heap.size + 1, 0, none⟩ = some (.int .i64 d) ∧ W.cell? ⟨w.heap.size + 2, 0, none⟩ = some (.pointer (some ⟨b, 0, none⟩)) ∧ Left W b m ∧ Below w.heap.size w W ∧ W.heap.size = w.heap.size + 3 := by
  refine ⟨_, rfl, ?_⟩
  have h1 := box_new w k n s lv kv e1 (0, 0)
  have b1 := below_new w (.cells #[.int .i64 k, .int .i64 n, .string (bs s), lv, kv] e1)
  generalize hW1 : w.alloc (.cells #[.int .i64 k, .int .i64 n, .string (bs s), lv, kv] e1) = W1 at *
  have z1 : W1.heap.size = w.heap.size + 1 := by rw [← hW1, World.size_alloc]
  have b2 := below_new W1 (.cells #[.int .i64 d] e2)
  have h2 : (W1.alloc (.cells #[.int .i64 d] e2)).cell? ⟨W1.heap.size, 0, none⟩ = some (.int .i64 d) := by rw [World.cell?_alloc_mark]; rfl
  generalize hW2 : W1.alloc (.cells #[.int .i64 d] e2) = W2 at *
  have z2 : W2.heap.size = w.heap.size + 2 := by rw [← hW2, World.size_alloc, z1]
  have b3 := below_new W2 (.cells #[.pointer (some ⟨b, 0, none⟩)] e3)
  have h3 : (W2.alloc (.cells #[.pointer (some ⟨b, 0, none⟩)] e3)).cell? ⟨W2.heap.size, 0, none⟩ = some (.pointer (some ⟨b, 0, none⟩)) := by rw [World.cell?_alloc_mark]; rfl
  rw [z1] at h2
  rw [z2] at h3
  refine ⟨(h1.keeps b2).keeps b3, keeps_of b3 h2, h3, ((hL.keep b1).keep b2).keep b3, Below.chain (Below.chain b1 b2) b3, by rw [World.size_alloc, z2]⟩
/-- .. and behind the store. -/
theorem may_store {W : World} {c b : Nat} {k n m y : Int} {s : List UInt8} {lv kv : Value} {d : Nat} (hc : c < W.heap.size) (hc1 : c + 1 < W.heap.size) (hc2 : c + 2 < W.heap.size) (hb : b < c)
    (h1 : Box W c k n s lv kv) (h2 : W.cell? ⟨c + 1, 0, none⟩ = some (.int .i64 d)) (h3 : W.cell? ⟨c + 2, 0, none⟩ = some (.pointer (some ⟨b, 0, none⟩))) (h4 : Left W b m) :
    ∃ W', W' = W.setCell ⟨b, 0, none⟩ (.int .i64 y) ∧ Box W' c k n s lv kv ∧ W'.cell? ⟨c + 1, 0, none⟩ = some (.int .i64 d) ∧ W'.cell? ⟨c + 2, 0, none⟩ = some (.pointer (some ⟨b, 0, none⟩)) ∧ Left W' b y ∧ But b W W' ∧ W'.heap.size = W.heap.size := by
  have hB := But.set (b := b) W 0 (.int .i64 y)
  refine ⟨_, rfl, ⟨?_, ?_, ?_, ?_, ?_⟩, ?_, ?_, h4.set y, hB, by simp [World.setCell]⟩
  · rw [hB.cell hc (by omega)]; exact h1.c0
  · rw [hB.cell hc (by omega)]; exact h1.c1
  · rw [hB.cell hc (by omega)]; exact h1.c2
  · rw [hB.cell hc (by omega)]; exact h1.c3
  · rw [hB.cell hc (by omega)]; exact h1.c4
  · rw [hB.cell hc1 (by omega)]; exact h2
  · rw [hB.cell hc2 (by omega)]; exact h3
set_option maxHeartbeats 1000000 in
theorem may_early (k n : Int) (s : List UInt8) (lv kv : Value) (l : List VM) (ks : List (List UInt8)) (d m b : Nat) (hdm : d ≤ 1000 ∧ m ≤ 1000000) (h : 60 < d ∨ m = 0) (w : World) (hL : Left w b m) :
    Calls Tryz.prog 37 #[valA k n s lv kv, .int .i64 d, .pointer (some ⟨b, 0, none⟩)] w (MayRet (mayR (.mk k n s lv kv l ks) d m) b w) := by
  rw [may_none rfl (h.elim .inl (fun h => .inr (.inl h)))]
  have hlt := hL.lt
  obtain ⟨W, hW, q1, q2, q3, q4, q5, q6⟩ := may_three w k n s lv kv d b m hL 25 3 46
  obtain ⟨W2, hW2, r1, r2, r3, r4, r5, r6⟩ := may_store (y := (m : Int) - 1) (by omega : w.heap.size < W.heap.size) (by omega) (by omega) hlt q1 q2 q3 q4
  obtain ⟨c0, f0⟩ := q4
  have HL2 := hid r4
  obtain ⟨c1, f1⟩ := r4
  have hBut := (But.of q5).trans r5
  have hd : 60 < (d : Int) ∨ ((d : Int) ≤ 60 ∧ (m : Int) - 1 < 0) := by omega
  clear h hL q1 q5 r1 r5 q6 r6
  rcases hd with hd | ⟨hd, hm⟩
  all_goals
    go_enter Tryz.func37, Tryz.ntmps37
    go_upto_region 1 with fail
    rw [← hW]
    clear hW
    go_upto_region 2 with fail
    rw [← hW2]
    clear hW2
    go_wp2_with fail
    go_ret
    exact ⟨(m : Int) - 1, rfl, (fun _ h => by cases h), hBut, HL2.out⟩
/-- The block of the bare value. -/
theorem may_bare (W : World) (c b d : Nat) (k n y : Int) (s : List UInt8) (lv kv : Value) (e : TypeId) (hc : c + 2 < W.heap.size) (h1 : Box W c k n s lv kv) (h2 : W.cell? ⟨c + 1, 0, none⟩ = some (.int .i64 d)) (h3 : W.cell? ⟨c + 2, 0, none⟩ = some (.pointer (some ⟨b, 0, none⟩))) (h4 : Left W b y) :
    ∃ W' B, W' = W.alloc (.cells #[.int .i64 k, .int .i64 0, .string ⟨#[]⟩, .slice none 0 0, .slice none 0 0] e) ∧ B = W.heap.size ∧ c + 2 < B ∧ b < B ∧ Box W' c k n s lv kv ∧ W'.cell? ⟨c + 1, 0, none⟩ = some (.int .i64 d) ∧ W'.cell? ⟨c + 2, 0, none⟩ = some (.pointer (some ⟨b, 0, none⟩)) ∧ Left W' b y ∧
      Box W' B k 0 [] (.slice none 0 0) (.slice none 0 0) ∧ Free W' B ∧ Below W.heap.size W W' := by
  have hb := below_new W (.cells #[.int .i64 k, .int .i64 0, .string ⟨#[]⟩, .slice none 0 0, .slice none 0 0] e)
  exact ⟨_, _, rfl, rfl, hc, h4.lt, h1.keeps hb, keeps_of hb h2, keeps_of hb h3, h4.keep hb, box_new W k 0 [] _ _ e (0, 0), free_new W _ e, hb⟩
theorem But.past {b : Nat} {w W W' : World} (h : But b w W) (k : Below w.heap.size W W') : But b w W' :=
  ⟨k.os.trans h.os, k.tape.trans h.tape, k.output.trans h.output, Nat.le_trans h.size k.size, fun i hi hn => (k.block i hi).trans (h.block i hi hn)⟩
/-- What the walk knows at the comparison: the value's box at c, two boxes more, the counting cell at b, the bare value at B. -/
structure MSt (w W : World) (b B d : Nat) (k n : Int) (s : List UInt8) (lv kv : Value) (y : Int) (bn : Int) (bS : List UInt8) (bl bk : Value) : Prop where
  a : Box W w.heap.size k n s lv kv
  p : W.cell? ⟨w.heap.size + 1, 0, none⟩ = some (.int .i64 d)
  q : W.cell? ⟨w.heap.size + 2, 0, none⟩ = some (.pointer (some ⟨b, 0, none⟩))
  l : Left W b y
  e : Box W B k bn bS bl bk
  t : But b w W
theorem MSt.go {w W W' : World} {b B d : Nat} {k n : Int} {s : List UInt8} {lv kv : Value} {y : Int} {bn bn' : Int} {bS bS' : List UInt8} {bl bk bl' bk' : Value} (h : MSt w W b B d k n s lv kv y bn bS bl bk) (hb : b < w.heap.size) (hB : w.heap.size + 2 < B)
    (k1 : Below B W W') (k2 : Box W' B k bn' bS' bl' bk') : MSt w W' b B d k n s lv kv y bn' bS' bl' bk' := by
  have e : ∀ c o, c < B → W'.cell? ⟨c, o, none⟩ = W.cell? ⟨c, o, none⟩ := fun c o hc => k1.cell (p := ⟨c, o, none⟩) hc
  exact ⟨⟨(e _ _ (by omega)).trans h.a.c0, (e _ _ (by omega)).trans h.a.c1, (e _ _ (by omega)).trans h.a.c2, (e _ _ (by omega)).trans h.a.c3, (e _ _ (by omega)).trans h.a.c4⟩, (e _ _ (by omega)).trans h.p, (e _ _ (by omega)).trans h.q,
    ⟨(e _ _ (by omega)).trans h.l.c, (k1.frozen (p := ⟨b, 0, none⟩) (by show b < B; omega)).trans h.l.f⟩, k2, h.t.past (k1.mono (by omega))⟩
theorem box_set1 {W : World} {B : Nat} {k n : Int} {s : List UInt8} {lv kv : Value} (h : Box W B k n s lv kv) (y : Int) : Box (W.setCell ⟨B, 1, none⟩ (.int .i64 y)) B k y s lv kv := by
  refine ⟨?_, ?_, ?_, ?_, ?_⟩
  · rw [World.cell?_setCell_other _ _ _ _ (by simp)]; exact h.c0
  · exact World.cell?_setCell_same' _ _ _ (by rw [h.c1]; rfl)
  · rw [World.cell?_setCell_other _ _ _ _ (by simp)]; exact h.c2
  · rw [World.cell?_setCell_other _ _ _ _ (by simp)]; exact h.c3
  · rw [World.cell?_setCell_other _ _ _ _ (by simp)]; exact h.c4
theorem box_set2 {W : World} {B : Nat} {k n : Int} {s : List UInt8} {lv kv : Value} (h : Box W B k n s lv kv) (y : List UInt8) : Box (W.setCell ⟨B, 2, none⟩ (.string (bs y))) B k n y lv kv := by
  refine ⟨?_, ?_, ?_, ?_, ?_⟩
  · rw [World.cell?_setCell_other _ _ _ _ (by simp)]; exact h.c0
  · rw [World.cell?_setCell_other _ _ _ _ (by simp)]; exact h.c1
  · exact World.cell?_setCell_same' _ _ _ (by rw [h.c2]; rfl)
  · rw [World.cell?_setCell_other _ _ _ _ (by simp)]; exact h.c3
  · rw [World.cell?_setCell_other _ _ _ _ (by simp)]; exact h.c4
theorem box_set3 {W : World} {B : Nat} {k n : Int} {s : List UInt8} {lv kv : Value} (h : Box W B k n s lv kv) (y : Value) : Box (W.setCell ⟨B, 3, none⟩ y) B k n s y kv := by
  refine ⟨?_, ?_, ?_, ?_, ?_⟩
  · rw [World.cell?_setCell_other _ _ _ _ (by simp)]; exact h.c0
  · rw [World.cell?_setCell_other _ _ _ _ (by simp)]; exact h.c1
  · rw [World.cell?_setCell_other _ _ _ _ (by simp)]; exact h.c2
  · exact World.cell?_setCell_same' _ _ _ (by rw [h.c3]; rfl)
  · rw [World.cell?_setCell_other _ _ _ _ (by simp)]; exact h.c4
theorem box_set4 {W : World} {B : Nat} {k n : Int} {s : List UInt8} {lv kv : Value} (h : Box W B k n s lv kv) (y : Value) : Box (W.setCell ⟨B, 4, none⟩ y) B k n s lv y := by
  refine ⟨?_, ?_, ?_, ?_, ?_⟩
  · rw [World.cell?_setCell_other _ _ _ _ (by simp)]; exact h.c0
  · rw [World.cell?_setCell_other _ _ _ _ (by simp)]; exact h.c1
  · rw [World.cell?_setCell_other _ _ _ _ (by simp)]; exact h.c2
  · rw [World.cell?_setCell_other _ _ _ _ (by simp)]; exact h.c3
  · exact World.cell?_setCell_same' _ _ _ (by rw [h.c4]; rfl)
theorem Box.drew {W : World} {B : Nat} {k n : Int} {s : List UInt8} {lv kv : Value} (h : Box W B k n s lv kv) : Box W.drew B k n s lv kv := ⟨h.c0, h.c1, h.c2, h.c3, h.c4⟩
theorem below_set {W : World} (B o : Nat) (v : Value) : Below B W (W.setCell ⟨B, o, none⟩ v) := (Below.refl B W).setCell (p := ⟨B, o, none⟩) (Nat.le_refl _) v
/-- What the call below is asked to do. -/
def ConC (lv : Value) (d m b : Nat) (q : Option Nat) (w : World) : Prop :=
  ∀ W c2 c3, But b w W → Left W b ((m : Int) - 1) → W.cell? ⟨c2, 0, none⟩ = some (.int .i64 d) → W.cell? ⟨c3, 0, none⟩ = some (.pointer (some ⟨b, 0, none⟩)) → c2 ≠ b → c3 ≠ b →
      Calls Tryz.prog 47 #[lv, .func (.func 57) #[] #[.pointer (some ⟨c2, 0, none⟩), .pointer (some ⟨c3, 0, none⟩)]] W
        fun e w' => ∃ x : Int, e = .returned (.bool (!q.isSome)) ∧ (∀ m', q = some m' → x = m') ∧ But b W w' ∧ Left w' b x
end Go.Proofs.YtnfjlimecoikpaaGreatDoor
