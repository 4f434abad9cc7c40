/- Lemmas for TopTwice: W47. -/
import Derived.Test.YtlbipokkdiiaiaaGreatDoorU30
import Derived.Test.YtlbipokkdiiaiaaGreatDoorU20
import Derived.Deep.CutBlock
open List renaming setIfInBounds_toArray → sA, set_cons_zero → sB, set_cons_succ → sC
namespace Go.Proofs.YtlbipokkdiiaiaaGreatDoor
open Go.RowKit Go.Proofs.YtlbipokkdiiaiaaGreatDoor.Exec
set_option maxRecDepth 100000
theorem zero34 : (Tryz.prog.info? 34).map (·.zero) = some (some (.agg (msgC 0 0 dg0 [] nilS 0).toArray)) := by kernel_rfl
theorem bodyT_small {m : MsgL} (h : GoodM m) : ∀ s ∈ bodyT m, s.length < 1000000000 := by
 intro s hs
 simp only [bodyT, List.mem_append, List.mem_map] at hs
 have e1 : ∀ y : Int, 0 ≤ y → y ≤ 19 → (Lib.itoa y).length ≤ 2 := fun y h0 h1 => by
  obtain ⟨n, rfl⟩ : ∃ n : Nat, y = n := ⟨y.toNat, by omega⟩
  exact itoa_len n (by omega)
 rcases hs with (((hs | hs) | hs) | ⟨t, ht, rfl⟩) | hs
 ·simp only [List.mem_cons, List.not_mem_nil, or_false] at hs
  rcases hs with rfl | rfl
  ·have := e1 m.kind (by have := h.k1; omega) (by have := h.k8; omega); omega
  ·rw [numB_len]; omega
 ·split at hs
  ·obtain rfl := List.mem_singleton.1 hs; rw [m.sum.2]; omega
  ·cases hs
 ·split at hs
  ·obtain rfl := List.mem_singleton.1 hs; have := h.nd; omega
  ·cases hs
 ·have := traceB_len (goodT (h.tr t ht)); omega
 ·split at hs
  ·obtain rfl := List.mem_singleton.1 hs; have := e1 m.why h.why.1 h.why.2.1; omega
  ·cases hs
theorem GoodM.has {m : MsgL} (h : GoodM m) : ((hasL m.kind).sum = false → m.sum = dg0) ∧ ((hasL m.kind).data = false → m.data = []) ∧ ((hasL m.kind).traces = 0 → m.traces = []) ∧ ((hasL m.kind).why = true → 1 ≤ m.why) ∧ ((hasL m.kind).traces ≠ 0 → (hasL m.kind).why = false ∧ 0 < (hasL m.kind).traces) := by
 have ha := h.arg
 unfold argB at ha
 simp only [Bool.or_eq_false_iff, Bool.and_eq_false_iff, Bool.not_eq_false', decide_eq_false_iff_not, decide_eq_true_eq, beq_eq_false_iff_ne, beq_iff_eq, List.isEmpty_iff] at ha
 obtain ⟨⟨⟨⟨⟨h1, h2⟩, h3⟩, h4⟩, h5⟩, h6⟩ := ha
 refine ⟨fun e => ?_, fun e => ?_, fun e => ?_, fun e => ?_, fun e => ?_⟩
 ·rcases h1 with h1 | h1
  ·rw [e] at h1; cases h1
  ·exact h1
 ·rcases h2 with h2 | h2
  ·rw [e] at h2; cases h2
  ·exact h2
 ·rcases h3 with h3 | h3
  ·exact absurd e h3
  ·exact List.eq_nil_of_length_eq_zero (by omega)
 ·rcases h6 with h6 | h6
  ·rw [e] at h6; cases h6
  ·omega
 ·rcases hasL_cases h.k1 h.k8 with k | k | k | k | k | k | k | k <;> rw [k] at e ⊢ <;> first | exact ⟨rfl, by decide⟩ | exact absurd rfl e
def rest4 (m : MsgL) : List (List UInt8) := if (hasL m.kind).why = true then [Lib.itoa m.why] else []
def rest3 (m : MsgL) : List (List UInt8) := m.traces.map traceB ++ rest4 m
def rest2 (m : MsgL) : List (List UInt8) := (if (hasL m.kind).data = true then [m.data] else []) ++ rest3 m
def rest1 (m : MsgL) : List (List UInt8) := (if (hasL m.kind).sum = true then [m.sum.1] else []) ++ rest2 m
theorem bodyT_eq (m : MsgL) : bodyT m = Lib.itoa m.kind :: numB m.id 8 :: rest1 m := by
 unfold bodyT rest1 rest2 rest3 rest4
 simp only [List.append_assoc, List.cons_append, List.nil_append]
theorem set0 (k _i : Nat) (s : Dg) (d : List UInt8) (t : Value) (y : Int) : (msgC 0 0 s d t y).toArray.setIfInBounds 0 (.int .i64 k) = (msgC k 0 s d t y).toArray := by
 apply Array.ext'
 simp [msgC]
theorem set34 (k : Int) (i : Nat) (s : Dg) (d e : List UInt8) (t : Value) (y : Int) : (msgC k i s d t y).toArray.setIfInBounds 34 (.string (bs e)) = (msgC k i s e t y).toArray := by
 apply Array.ext'
 simp [msgC, dgc_len]
theorem set35 (k : Int) (i : Nat) (s : Dg) (d : List UInt8) (t u : Value) (y : Int) : (msgC k i s d t y).toArray.setIfInBounds 35 u = (msgC k i s d u y).toArray := by
 apply Array.ext'
 simp [msgC, dgc_len]
theorem set36 (k : Int) (i : Nat) (s : Dg) (d : List UInt8) (t : Value) (y z : Int) : (msgC k i s d t y).toArray.setIfInBounds 36 (.int .i64 z) = (msgC k i s d t z).toArray := by
 apply Array.ext'
 simp [msgC, dgc_len]
theorem tr_drop (l : List TcL) (k : Nat) (h : k < l.length) (r : List (List UInt8)) : (l.drop k).map traceB ++ r = traceB l[k] :: ((l.drop (k + 1)).map traceB ++ r) := by
 rw [List.drop_eq_getElem_cons h, List.map_cons]
 rfl
theorem put_cell {W : World} {mb o : Nat} {cs cs' : Array Value} {v : Value} (h : W.heap[mb]? = some (.cells cs 34 (0, 0))) (e : cs.setIfInBounds o v = cs') : (W.setCell ⟨mb, o, none⟩ v).heap[mb]? = some (.cells cs' 34 (0, 0)) ∧ Turned mb W (W.setCell ⟨mb, o, none⟩ v) := by
 have h1 := heap_setCell_same W mb o _ 34 v h
 rw [e] at h1
 exact ⟨h1, turned_cell o v (lx (hid h))⟩
theorem slice_put {w0 : World} {v : Value} {n : Nat} {cs : List Value} (h : SliceAt w0 1 v n cs) {mb : Nat} {o : Obj} (hmb : mb < w0.heap.size) (hne : ∀ k, v.ownBlock = some k → k ≠ mb) : SliceAt (putObj w0 mb o) 1 v n cs := by
 obtain ⟨hl, a, c, rfl, hc, hm, hn, hx⟩ := h
 refine ⟨hl, a, c, rfl, hc, hm, hn, fun hne' => ?_⟩
 obtain ⟨b, off, rfl, hlt, hcl⟩ := hx hne'
 have ht := putObj_turned hmb o
 exact ⟨b, off, rfl, Nat.lt_of_lt_of_le hlt ht.foot.size, fun j u hu => (World.cell?_of_block (ht.foot.block b hlt (hne b rfl))).trans (hcl j u hu)⟩
def TkAt (w : World) (g : Nat) (ss : List (List UInt8)) (wx : World) : Prop := ∃ w0 : World, CurAt (fun k => k ≠ w.heap.size) 189 g w0 ss wx ∧ Below w.heap.size w w0 ∧ w0.heap.size = g ∧ w.heap.size < g
section
variable {w wx wy : World} {g : Nat} {ss : List (List UInt8)}
theorem TkAt.low (h : TkAt w g ss wx) : Below w.heap.size w wx := by
 obtain ⟨w0, h, hb, hz, hlt⟩ := h
 exact hb.trans (h.b.mono (by omega))
theorem TkAt.keep (h : TkAt w g ss wx) (hb : Below wx.heap.size wx wy) : TkAt w g ss wy := by
 obtain ⟨w0, h, h2⟩ := h
 exact ⟨w0, h.keep hb, h2⟩
theorem TkAt.eq {tt : List (List UInt8)} (h : TkAt w g ss wx) (e : ss = tt) : TkAt w g tt wx := e ▸ h
theorem TkAt.left (h : TkAt w g ss wx) : curLen g wx = ss.length := by
 obtain ⟨w0, h, h2⟩ := h
 exact h.left
theorem TkAt.cells (h : TkAt w g ss wx) : ∃ (a : Option Addr) (c : Nat), wx.cell? ⟨g, 0, none⟩ = some (.slice a ss.length c) ∧ wx.cell? ⟨g, 1, none⟩ = some (.bool false) ∧ wx.frozen? ⟨g, 1, none⟩ = false ∧ wx.heap[g]? = some (.cells #[.slice a ss.length c, .bool false] 189 (0, 0)) := by
 obtain ⟨w0, h, h2⟩ := h
 obtain ⟨v, hv, c0, c1, fz, hg⟩ := h.cells
 obtain ⟨-, a, c, rfl, -⟩ := hv
 exact ⟨a, c, c0, c1, fz, hg⟩
theorem TkAt.flag (h : TkAt w g ss wx) : TkAt w g ss (wx.setCell ⟨g, 1, none⟩ (.bool false)) ∧ Foot (fun k => k = g) wx (wx.setCell ⟨g, 1, none⟩ (.bool false)) := by
 obtain ⟨w0, h, h2⟩ := h
 exact ⟨⟨w0, h.flag.1, h2⟩, h.flag.2⟩
theorem TkAt.grow {B : Nat} (h : TkAt w g ss wx) (hb : Below B wx wy) (hB : g < B) : TkAt w g ss wy := by
 obtain ⟨w0, h, hb0, hz, hlt⟩ := h
 obtain ⟨v, h1, h2, h9⟩ := h.v
 exact ⟨w0, ⟨h.b.trans (hb.mono (by omega)), h.lo, v, h1, (hb.block g hB).trans h2, h9⟩, hb0, hz, hlt⟩
theorem TkAt.root (h : TkAt w g ss wx) (ht : Turned w.heap.size wx wy) (hg : w.heap.size < g) : TkAt w g ss wy := by
 obtain ⟨w0, h, hb0, hz, hlt⟩ := h
 obtain ⟨v, h1, h2, h9⟩ := h.v
 have hmb : w.heap.size < w0.heap.size := by omega
 obtain ⟨o, ho⟩ : ∃ o, wy.heap[w.heap.size]? = some o := ⟨_, Array.getElem?_eq_getElem (Nat.lt_of_lt_of_le ht.lt ht.foot.size)⟩
 have hp := putObj_turned hmb o
 have hps : (putObj w0 w.heap.size o).heap.size = w0.heap.size := by simp [putObj]
 refine ⟨putObj w0 w.heap.size o, ⟨⟨ht.foot.os.trans h.b.os, ht.foot.tape.trans h.b.tape, ht.foot.output.trans h.b.output, by rw [hps]; exact Nat.le_trans h.b.size ht.foot.size, fun k hk => ?_⟩, by rw [hps]; exact h.lo, v, slice_put h1 hmb h9, (ht.foot.block g (lx (hid h2)) (by omega)).trans h2, h9⟩, hb0.trans (hp.below (Nat.le_refl _)), by rw [hps]; exact hz, hlt⟩
 rw [hps] at hk
 by_cases e : k = w.heap.size
 ·subst e
  rw [ho, putObj_at hmb]
 ·exact (ht.foot.block k (Nat.lt_of_lt_of_le hk h.b.size) e).trans ((h.b.block k hk).trans (hp.foot.block k hk e).symm)
theorem ttext_t {s : List UInt8} {rest : List (List UInt8)} (h : TkAt w g (s :: rest) wx) :
  Calls Tryz.prog 87 #[.pointer (some ⟨g, 0, none⟩)] wx fun e w' => e = .returned (.string (bs s)) ∧ TkAt w g rest w' ∧ Foot (fun k => k = g) wx w' := by
 obtain ⟨w0, h, h2⟩ := h
 refine (ttext_c h).mono ?_
 rintro e w' ⟨h3, h4, h5⟩
 exact ⟨h3, ⟨w0, h4, h2⟩, h5⟩
theorem tnumber_t {k : Nat} {rest : List (List UInt8)} (h : TkAt w g (Lib.itoa (k : Int) :: rest) wx) (hp : PowTab w) (he : ErrsAt w) (hk : k ≤ 1000) :
  Calls Tryz.prog 85 #[.pointer (some ⟨g, 0, none⟩)] wx fun e w' => e = .returned (.int .i64 (k : Int)) ∧ TkAt w g rest w' ∧ Foot (fun k => k = g) wx w' := by
 obtain ⟨w0, h, h2⟩ := h
 refine (tnumber_c h (hp.below h2.1) (he.below h2.1) hk).mono ?_
 rintro e w' ⟨h3, h4, h5⟩
 exact ⟨h3, ⟨w0, h4, h2⟩, h5⟩
theorem tsized_t {s : List UInt8} {n : Nat} {rest : List (List UInt8)} (h : TkAt w g (s :: rest) wx) (hn : s.length = n) (h1 : n ≤ 1000) :
  Calls Tryz.prog 86 #[.pointer (some ⟨g, 0, none⟩), .int .i64 (n : Int)] wx fun e w' => ∃ b c, e = .returned (.slice (some ⟨b, 0, none⟩) n c) ∧ w'.rangeAt b 0 (Lib.byteCells s) ∧ wx.heap.size ≤ b ∧ b < w'.heap.size ∧ n ≤ c ∧ c ≤ maxLen ∧ TkAt w g rest w' ∧ Foot (fun k => k = g) wx w' := by
 obtain ⟨w0, h, h2⟩ := h
 refine (tsized_c h hn h1).mono ?_
 rintro e w' ⟨b, c, a1, a2, a3, a4, a5, a6, a7, a8⟩
 exact ⟨b, c, a1, a2, a3, a4, a5, a6, ⟨w0, a7, h2⟩, a8⟩
end
theorem r_sap {o : Oper} {a : Act} {w : World} {t n e l c : Nat} {x : Operand} {ad : Addr} (hu : Tryz.prog.underlying t = some (.array n e)) (hl : n ≤ l) (ho : o.op = .sliceToArrayPointer t x) (hx : a.eval x = .slice (some ad) l c) :
  (execOp a.eval o).run Tryz.prog w = .ok (.value (.pointer (some ad))) w := by
 unfold execOp
 have h : ¬ l < n := by omega
 simp [ho, hx, Instr.arrayAt, run_underlying hu, h, Result.andThen]
structure TsOk (B : Nat) (W : World) (v : Value) (ts : List TcM) : Prop where
 rows : RowsOf W 34 TcM.cells v ts
 held : ∀ y ∈ ts, HeldT W y
 own : ∀ b, v.ownBlock = some b → B ≤ b
 ins : ∀ y ∈ ts, InT (fun b => B ≤ b) y
set_option maxHeartbeats 16000000 in
theorem of_any (m : MsgL) (w : World) (hp : PowTab w) (he : ErrsAt w) (hc : checkM m = 0) (hi : m.id < 18446744073709551616) :
  Calls Tryz.prog 39 #[.string (bs (bodyB m))] w fun e w' => ∃ y : MsgM, e = .returned (.tuple #[.agg y.cells.toArray, .bool true]) ∧ y.l = m ∧ HeldM w' y ∧ OwnM (fun b => w.heap.size ≤ b) y ∧ Below w.heap.size w w' := by
 have hg := goodM hc
 have HT := hid (fun (W : World) => texts_of (bodyT m) (bodyT_small hg) (by have := bodyB_len hg; unfold bodyB at this; omega) W)
 have HP := hid (And.intro hp he)
 have HG := hid hg
 have HA := hid hg.has
 have HCK := hid hc
 obtain ⟨k, hk⟩ : ∃ k : Nat, m.kind = k := ⟨m.kind.toNat, by have := hg.k1; omega⟩
 have hk1 : 1 ≤ k := by have := hg.k1; omega
 have hk8 : k ≤ 8 := by have := hg.k8; omega
 have HK := hid hk
 have HBIG := hid (fun (W : World) => show Calls Tryz.prog 38 #[.string (bs (numB m.id 8))] W fun e w' => e = .returned (.int .u64 (m.id : Int)) ∧ w' = W from by
  have h1 := big_any (numB m.id 8) (by rw [numB_len]; omega) W
  rw [big_num, Nat.mod_eq_of_lt (by omega)] at h1
  exact h1)
 have HI := hid hi
 have ek1 : decide ((k : Int) < 1) = false := decide_eq_false (by omega)
 have ek8 : decide (8 < (k : Int)) = false := decide_eq_false (by omega)
 unfold bodyB
 clear hp he hc hg hi hk
 go_enter Tryz.func39, Tryz.ntmps39
 go_upto_region 2 with first | (refine wl_alloc zero34 ?_; intro W0 hb0 hn0 hs0) | (go_at_call 84; refine (HT.out _).mono ?_; rintro e W1 ⟨v, rfl, hsl, hb1, hown⟩)
 obtain ⟨-, va, vc, rfl, -⟩ := hsl.str
 have HSL := hid hsl
 have HOWN := hid (fun (k : Nat) (hk : (Value.slice va (bodyT m).length vc).ownBlock = some k) => show k ≠ w.heap.size from fun e => by have := hown k hk; omega)
 have HB1 := hid (Below.chain hb0 hb1)
 have hn01 := (hb1.block _ (by omega)).trans hn0
 have hz01 : w.heap.size < W1.heap.size := by have := hb1.size; omega
 clear hsl hb0 hn0 hs0 hb1 hown
 go_upto_region 3 with first | (refine wl_run (r_build (built189 _ _ _ _) rfl (by simp only [List.map_toArray, List.map_cons, List.map_nil]; rfl)) ?_) | (refine wl_box rt189 ?_; intro W2 hb2 hn2 hs2)
 have HC2 : Hid (TkAt w W1.heap.size (Lib.itoa (k : Int) :: numB m.id 8 :: rest1 m) W2) := hid ⟨W1, ⟨hb2, Nat.le_refl _, _, by rw [← HK.out, ← bodyT_eq]; exact HSL.out, hn2, HOWN.out⟩, HB1.out, rfl, hz01⟩
 have HN2 := hid ((hb2.block _ hz01).trans hn01)
 have hz12 : W2.heap.size = W1.heap.size + 1 := hs2
 have HF12 := hid (Foot.of_below (D := fun b => b = W1.heap.size) hb2)
 clear hb2 hn2 hs2 hn01
 go_upto_region 4 with (go_at_call 85; refine (tnumber_t HC2.out HP.out.1 HP.out.2 (by omega)).mono ?_; rintro e W3 ⟨rfl, hc3, hf3⟩)
 have HF3 := hid (HF12.out.chain hf3)
 have hn3 := (hf3.block _ (by omega) (by omega)).trans HN2.out
 have hz23 := hf3.size
 obtain ⟨-, -, -, c1, -, -⟩ := hc3.cells
 have HC3 := hid hc3
 clear hf3 hc3
 go_upto_region 6 with fail
 clear c1
 go_upto_region 7 with first | (go_at_call 78; refine (table_any _).mono ?_; rintro e W4 ⟨rfl, hb4⟩) | (refine wl_run (r_idx k hk8 rfl rfl rfl) ?_) | (refine wl_new (xs := (hasC (hasL k)).toArray) rt175 rfl (hasC_one _) ?_; intro V hbV hnV hsV)
 obtain ⟨hb, hhb⟩ : ∃ hb, W4.heap.size = hb := ⟨_, rfl⟩
 rw [hhb] at hnV hsV
 have hz34 := hb4.size
 have hb3V := Below.chain hb4 hbV
 have HCV := hid (HC3.out.keep hb3V)
 have HNV := hid ((hb3V.block _ (lx (hid hn3))).trans hn3)
 have HF1V := hid (HF3.out.then hb3V)
 have HN := hid (show w.heap.size < W1.heap.size ∧ W1.heap.size < hb ∧ hb < V.heap.size from ⟨hz01, by omega, by omega⟩)
 obtain ⟨H, hH⟩ : ∃ H, H = hasL (k : Int) := ⟨_, rfl⟩
 rw [← hH] at hnV
 have HH := hid (show hasL m.kind = H by rw [hH, HK.out])
 have HHV : Hid (∀ W, Foot (fun b => b = w.heap.size ∨ b = W1.heap.size) V W → W.heap[hb]? = some (.cells (hasC H).toArray 175 (0, 0))) := hid (fun W hf => (hf.block hb (lx (hid hnV)) (by have := HN.out; omega)).trans hnV)
 have HA' := HA.out
 rw [HH.out] at HA'
 have HA2 := hid HA'
 clear HA' hz01 hz12 hz23 hz34 hb4 hbV hnV hsV hb3V hn3 hH HC2 HC3 HN2
 have hhbs := hid hhb
 go_upto_region 8 with first | (go_at_call 86; refine (tsized_t (n := 8) HCV.out (numB_len _ _) (by omega)).mono ?_; rintro e W5 ⟨b5, c5, rfl, hr5, hlo5, hlt5, hcl5, hcm5, hc5, hf5⟩; have hcv := conv_range (cap := c5) hr5; rw [numB_len] at hcv; have hn5 := (hf5.block _ (lx HNV) (by have := HN.out; omega)).trans HNV.out; obtain ⟨p0, p1, -, -, -, -⟩ := MsgM.parts hn5; have f0 : W5.frozen? ⟨w.heap.size, 0, none⟩ = false := Lib.frozen_of_heap hn5 0; have f1 : W5.frozen? ⟨w.heap.size, 1, none⟩ = false := Lib.frozen_of_heap hn5 1) | (go_at_call 38; refine (HBIG.out _).mono ?_; rintro e W5' ⟨rfl, hW5⟩; obtain rfl := hW5.symm)
 obtain ⟨hn6, ht6⟩ := put_cell hn5 (set0 k 0 dg0 [] nilS 0)
 generalize W5.setCell ⟨w.heap.size, 0, none⟩ (.int .i64 (k : Int)) = W6 at *
 obtain ⟨hn7, ht7⟩ := put_cell hn6 (id_cells k 0 m.id dg0 [] nilS 0)
 generalize W6.setCell ⟨w.heap.size, 1, none⟩ (.int .u64 (m.id : Int)) = W7 at *
 have HS7 : Hid (W7.heap[w.heap.size]? = some (.cells (msgC k m.id dg0 [] nilS 0).toArray 34 (0, 0)) ∧ TkAt w W1.heap.size (rest1 m) W7 ∧ Foot (fun b => b = w.heap.size ∨ b = W1.heap.size) V W7) := hid ⟨hn7, (hc5.root ht6 (by have := HN.out; omega)).root ht7 (by have := HN.out; omega), ((hf5.mono fun i _ e => .inr e).trans ht6.foot fun i _ e => .inl e).trans ht7.foot fun i _ e => .inl e⟩
 clear hr5 hlo5 hlt5 hcl5 hcm5 hc5 hf5 hcv hn5 p0 p1 f0 f1 hn6 ht6 hn7 ht7 HNV HCV
 obtain ⟨g0, g1, g2, g3, g4⟩ := hasC_parts (HHV.out _ HS7.out.2.2)
 go_upto_if 48 with fail
 clear g0 g1 g2 g3 g4
 go_cut [] (fun wx => wx.heap[w.heap.size]? = some (.cells (msgC k m.id m.sum [] nilS 0).toArray 34 (0, 0)) ∧ TkAt w W1.heap.size (rest2 m) wx ∧ Foot (fun b => b = w.heap.size ∨ b = W1.heap.size) V wx)
 case first =>
  cases hs : H.sum with
  | false =>
    go_wp2_with fail
    go_meet
    have h0 := HA2.out.1 hs
    exact ⟨by rw [h0]; exact HS7.out.1, HS7.out.2.1.eq (by unfold rest1; rw [HH.out, hs]; rfl), HS7.out.2.2⟩
  | true =>
    have HC := hid (HS7.out.2.1.eq (show rest1 m = m.sum.1 :: rest2 m by unfold rest1; rw [HH.out, hs]; rfl))
    go_wp2_with first | (go_at_call 86; refine (tsized_t (n := 32) HC.out m.sum.2 (by omega)).mono ?_; rintro e W8 ⟨b8, c8, rfl, hr8, hlo8, hlt8, hcl8, hcm8, hc8, hf8⟩; have hn8 := (hf8.block _ (lx (hid HS7.out.1)) (by have := HN.out; omega)).trans HS7.out.1) | (refine wl_run (r_sap (t := 31) (n := 32) (e := 5) (by kernel_rfl) (by omega) rfl rfl) ?_) | (refine wl_ld rt31 hr8 (dgc_len _) ?_) | (refine wl_stm [.int .i64 (k : Int), .int .u64 m.id] (dgc dg0) (dgc m.sum) [.string (bs []), nilS, .int .i64 0] rt31 hn8 (dgc_len _) (dgc_len _) (dgc_one _) ?_; intro W9 ht9 hn9 hs9)
    go_meet
    exact ⟨hn9, hc8.root ht9 (by have := HN.out; omega), (HS7.out.2.2.trans hf8 fun i _ e => .inr e).trans ht9.foot fun i _ e => .inl e⟩
 case rest =>
  obtain ⟨hnx, hcx, hfx⟩ := hcut
  obtain ⟨W8, hW8⟩ : ∃ W, W = wc := ⟨_, rfl⟩
  subst hW8
  have HS8 := hid (And.intro hnx (And.intro hcx hfx))
  clear hnx hcx hfx HS7
  obtain ⟨g0, g1, g2, g3, g4⟩ := hasC_parts (HHV.out _ HS8.out.2.2)
  go_upto_if 55 with fail
  clear g0 g1 g2 g3 g4
  go_cut [] (fun wx => wx.heap[w.heap.size]? = some (.cells (msgC k m.id m.sum m.data nilS 0).toArray 34 (0, 0)) ∧ TkAt w W1.heap.size (rest3 m) wx ∧ Foot (fun b => b = w.heap.size ∨ b = W1.heap.size) V wx)
  case first =>
   cases hs : H.data with
   | false =>
     go_wp2_with fail
     go_meet
     have h0 := HA2.out.2.1 hs
     exact ⟨by rw [h0]; exact HS8.out.1, HS8.out.2.1.eq (by unfold rest2; rw [HH.out, hs]; rfl), HS8.out.2.2⟩
   | true =>
     have HC := hid (HS8.out.2.1.eq (show rest2 m = m.data :: rest3 m by unfold rest2; rw [HH.out, hs]; rfl))
     go_wp2_with (go_at_call 87; refine (ttext_t HC.out).mono ?_; rintro e W9 ⟨rfl, hc9, hf9⟩; have hn9 := (hf9.block _ (lx (hid HS8.out.1)) (by have := HN.out; omega)).trans HS8.out.1; have p3 := (MsgM.parts hn9).2.2.2.1; have f3 : W9.frozen? ⟨w.heap.size, 34, none⟩ = false := Lib.frozen_of_heap hn9 34)
     go_meet
     obtain ⟨hn10, ht10⟩ := put_cell hn9 (set34 k m.id m.sum [] m.data nilS 0)
     exact ⟨hn10, hc9.root ht10 (by have := HN.out; omega), (HS8.out.2.2.trans hf9 fun i _ e => .inr e).trans ht10.foot fun i _ e => .inl e⟩
  case rest =>
   obtain ⟨hnx, hcx, hfx⟩ := hcut
   obtain ⟨W9, hW9⟩ : ∃ W, W = wc := ⟨_, rfl⟩
   subst hW9
   have HS9 := hid (And.intro hnx (And.intro hcx hfx))
   clear hnx hcx hfx HS8
   go_upto_block 0 with fail
   go_cut [] (fun wx => ∃ (a : Option Addr) (c : Nat) (ts : List TcM), ts.map (·.t) = m.traces ∧ wx.heap[w.heap.size]? = some (.cells (msgC k m.id m.sum m.data (.slice a ts.length c) 0).toArray 34 (0, 0)) ∧ TkAt w W1.heap.size (rest4 m) wx ∧ TsOk V.heap.size wx (.slice a ts.length c) ts ∧ Foot (fun b => b = w.heap.size ∨ b = W1.heap.size) V wx)
   case first =>
    go_wp2_with fail
    go_loopw [] (fun wr => ∃ (j : Nat) (a : Option Addr) (c : Nat) (ts : List TcM), j ≤ m.traces.length ∧ ts.length = j ∧ TkAt w W1.heap.size ((m.traces.drop j).map traceB ++ rest4 m) wr ∧ wr.heap[w.heap.size]? = some (.cells (msgC k m.id m.sum m.data (.slice a j c) 0).toArray 34 (0, 0)) ∧ ts.map (·.t) = m.traces.take j ∧ wr.ownsRow V.heap.size 44 34 (.slice a j c) j (ts.flatMap TcM.cells) ∧ (∀ y ∈ ts, HeldT wr y ∧ InT (fun b => V.heap.size ≤ b ∧ b < wr.heap.size ∧ (Value.slice a j c).ownBlock ≠ some b) y) ∧ Foot (fun b => b = w.heap.size ∨ b = W1.heap.size) V wr) (fun wr => curLen W1.heap.size wr)
    case atStart => exact ⟨0, none, 0, [], by omega, rfl, HS9.out.2.1, HS9.out.1, rfl, World.ownsRow_nil _ _ _ _, (by intro y hy; cases hy), HS9.out.2.2⟩
    case round =>
     obtain ⟨j, a, c, ts, hj, hjl, hcr, hnr, htm, hor, hhy, hfr⟩ := hrel
     have g4 := (hasC_parts (HHV.out _ hfr)).2.2.2.2
     obtain ⟨a3, k3, c0, c1, -, -⟩ := hcr.cells
     have HLF := hid hcr.left
     have HCR := hid hcr
     have HNR := hid hnr
     have HTM := hid htm
     have HOR := hid hor
     have HHY := hid hhy
     have HFR := hid hfr
     have HJL := hid hjl
     have hzr := hfr.size
     clear hcr hnr htm hor hhy hfr hjl
     by_cases hlt : j < m.traces.length ∧ H.traces ≠ 0
     ·have eT : decide (0 < H.traces) = true := decide_eq_true (HA2.out.2.2.2.2 hlt.2).2
      have hj1 := hlt.1
      have hck : checkT m.traces[j] = 0 := HG.out.tr _ (List.getElem_mem hj1)
      have HC := hid (HCR.out.eq (tr_drop m.traces j hj1 (rest4 m)))
      obtain ⟨n, hn⟩ : ∃ n, ((m.traces.drop j).map traceB ++ rest4 m).length = n := ⟨_, rfl⟩
      have hnn : n = (((m.traces.drop (j + 1)).map traceB ++ rest4 m)).length + 1 := by rw [← hn, tr_drop m.traces j hj1 (rest4 m)]; rfl
      rw [hn] at c0 HLF
      have eN : decide (0 < (n : Int)) = true := decide_eq_true (by omega)
      have eN2 : 0 < n := by omega
      have HNN := hid hnn
      have HTX := hid (take_at m.traces j hj1)
      generalize m.traces[j] = tr at *
      have HCT := hid hck
      have HJ1 := hid hj1
      clear hn hnn hck hlt hj1
      go_upto_region 14 with first | (go_at_call 87; refine (ttext_t HC.out).mono ?_; rintro e W5 ⟨rfl, hc5, hf5⟩) | (go_at_call 88; refine (tread_any tr W5 (HP.out.1.below hc5.low) (HP.out.2.below hc5.low) HCT.out).mono ?_; rintro e W6 ⟨x, rfl, hxt, hxh, hxi, hb6⟩) | (refine wl_new (xs := x.cells.toArray) rt44 (by rw [List.size_toArray]; exact TcM.len _) hxh.one ?_; intro W7 hb7 hn7 hs7)
      have hc7 := (hc5.keep hb6).keep hb7
      have HF57 := hid (And.intro hf5 (And.intro hb6 hb7))
      have HX := hid (And.intro hxt (And.intro hxh hxi))
      have HN7 := hid hn7
      have HZ7 := hid (And.intro hf5.size (And.intro hb6.size hs7))
      have HC7 := hid hc7
      clear hc5 hf5 hb6 hb7 hxt hxh hxi hn7 hs7 hc7 c0 c1 g4
      obtain ⟨-, -, -, c1, fz, -⟩ := HC7.out.cells
      go_upto_region 15 with fail
      obtain ⟨hc8, hf8⟩ := HC7.out.flag
      generalize W7.setCell ⟨W1.heap.size, 1, none⟩ (.bool false) = W8 at *
      have hz8 := hf8.size
      obtain ⟨hz5, hz6, hz7⟩ := HZ7.out
      have hn8 := (hf8.block _ (lx HN7) (by have := HN.out; omega)).trans HN7.out
      have hfw8 : Foot (fun b => b = W1.heap.size) wr W8 := ((HF57.out.1.then HF57.out.2.1).then HF57.out.2.2).chain hf8
      have hm8 := (hfw8.block _ (lx HNR) (by have := HN.out; omega)).trans HNR.out
      have p4 := (MsgM.parts hm8).2.2.2.2.1
      have HC8 := hid hc8
      have HFW8 := hid hfw8
      have HM8 := hid hm8
      have HO8 := hid (owns_keep HOR.out (fun b hb => hfw8.block b (HOR.out.lt b hb).2 (by have := (HOR.out.lt b hb).1; have := HN.out; omega)))
      have HFX8 := hid hf8
      clear c1 fz hc8 hf8 hfw8 hm8
      go_wp2_with first | (refine wl_ld rt44 (range_of_heap hn8) (TcM.len _) ?_) | (refine wl_bs (xs := x.cells.toArray) (e := 44) (sz := 34) (by_ := 80) (by omega) (by omega) (by rw [List.size_toArray]; exact TcM.len _) Tryz.underlying32 (by kernel_rfl) ?_; intro W9b hb9 hn9 hs9; obtain ⟨v10, W10, hap, ho10, hb10, hg10, hat10⟩ := app_row TcM.cells (t := 32) (by_ := 80) Tryz.underlying32 (by kernel_rfl) TcM.len (by omega) (by omega) x HX.out.2.1.one (owns_below HO8.out hb9 (Nat.le_refl _)) hn9 (by have := hb9.size; omega) (by have := HG.out.nt; omega); obtain ⟨a10, c10, rfl⟩ := owns_form ho10; have hm10 := (hb10.block _ (by have := HN.out; have := hb9.size; omega)).trans ((hb9.block _ (lx HM8)).trans HM8.out); have p10 := (MsgM.parts hm10).2.2.2.2.1; have f10 : W10.frozen? ⟨w.heap.size, 35, none⟩ = false := Lib.frozen_of_heap hm10 35) | (at_builtin; refine Lib.wpList_append_run _ rfl _ _ _ _ rfl _ _ rfl rfl _ _ (hap _) ?_)
      obtain ⟨hm11, ht11⟩ := put_cell hm10 (set35 k m.id m.sum m.data (.slice a j c) (.slice a10 (j + 1) c10) 0)
      generalize W10.setCell ⟨w.heap.size, 35, none⟩ (.slice a10 (j + 1) c10) = W11 at *
      have hz9 := hb9.size
      have hz10 := hg10.size
      have hN := HN.out
      have hf910 : Foot (fun b => (Value.slice a j c).ownBlock = some b) W9b W10 := ⟨hg10.os, hg10.tape, hg10.output, hg10.size, fun b hb hne => hg10.block b hb (fun e => hne e.symm)⟩
      have hf811 : Foot (fun b => b = w.heap.size ∨ (Value.slice a j c).ownBlock = some b) W8 W11 := ((Foot.of_below hb9).trans hf910 fun i _ e => .inr e).trans ht11.foot fun i _ e => .inl e
      have hrow : ∀ b, (Value.slice a j c).ownBlock = some b → V.heap.size ≤ b ∧ b < wr.heap.size := fun b hb => HOR.out.lt b hb
      have hfV : Foot (fun b => b = w.heap.size ∨ b = W1.heap.size) V W11 := (HFR.out.trans HFW8.out fun i _ e => .inr e).trans hf811 fun i hi e => by
       rcases e with e | e
       ·exact .inl e
       ·have := (hrow i e).1; omega
      have hc11 : TkAt w W1.heap.size ((m.traces.drop (j + 1)).map traceB ++ rest4 m) W11 := ((HC8.out.keep hb9).grow hb10 (by omega)).root ht11 (by omega)
      have hl11 := hc11.left
      have hlast : curLen W1.heap.size W11 < curLen W1.heap.size wr := by rw [HLF.out, hl11, HNN.out]; exact Nat.lt_succ_self _
      have hne10 : ∀ b, (Value.slice a10 (j + 1) c10).ownBlock = some b → (Value.slice a j c).ownBlock = some b ∨ b = W9b.heap.size := fun b hb => by
       rcases hat10 with h | h
       ·exact .inl (h ▸ hb)
       ·rw [h] at hb; exact .inr (Option.some.inj hb).symm
      have ho11 := owns_keep ho10 (fun b hb => ht11.foot.block b (ho10.lt b hb).2 (by have := (ho10.lt b hb).1; omega))
      have hz11 := ht11.foot.size
      have hys : ∀ y ∈ ts ++ [x], HeldT W11 y ∧ InT (fun b => V.heap.size ≤ b ∧ b < W11.heap.size ∧ (Value.slice a10 (j + 1) c10).ownBlock ≠ some b) y := by
       intro y hy
       rcases List.mem_append.1 hy with hy | hy
       ·obtain ⟨h1, h2⟩ := HHY.out y hy
        have h3 : ∀ b, (y.rv.ownBlock = some b ∨ y.ov.ownBlock = some b) → V.heap.size ≤ b ∧ b < wr.heap.size ∧ (Value.slice a j c).ownBlock ≠ some b := fun b hb => by rcases hb with hb | hb; exact h2.1 b hb; exact h2.2 b hb
        refine ⟨h1.stay (Nat.le_trans HFW8.out.size hf811.size) (fun b hb hl => (hf811.block b (Nat.lt_of_lt_of_le hl HFW8.out.size) (fun e => ?_)).trans (HFW8.out.block b hl (by have := (h3 b hb).1; omega))), ?_⟩
        ·have := h3 b hb
         rcases e with e | e
         ·omega
         ·exact this.2.2 e
        ·have h4 : ∀ b, (y.rv.ownBlock = some b ∨ y.ov.ownBlock = some b) → V.heap.size ≤ b ∧ b < W11.heap.size ∧ (Value.slice a10 (j + 1) c10).ownBlock ≠ some b := fun b hb => by
          have h5 := h3 b hb
          refine ⟨h5.1, by omega, fun e => ?_⟩
          rcases hne10 b e with e | e
          ·exact h5.2.2 e
          ·omega
         exact ⟨fun b hb => h4 b (.inl hb), fun b hb => h4 b (.inr hb)⟩
       ·obtain rfl := List.mem_singleton.1 hy
        obtain ⟨-, h1, h2⟩ := HX.out
        have h3 : ∀ b, (y.rv.ownBlock = some b ∨ y.ov.ownBlock = some b) → W5.heap.size ≤ b ∧ b < W6.heap.size := fun b hb => by rcases hb with hb | hb; exact h2.1 b hb; exact h2.2 b hb
        have hf68 := (Foot.of_below (D := fun b => b = W1.heap.size) HF57.out.2.2).chain HFX8.out
        refine ⟨h1.stay (Nat.le_trans hf68.size hf811.size) (fun b hb hl => (hf811.block b (Nat.lt_of_lt_of_le hl hf68.size) (fun e => ?_)).trans (hf68.block b hl (by have := (h3 b hb).1; omega))), ?_⟩
        ·have := h3 b hb
         rcases e with e | e
         ·omega
         ·have := (hrow b e).2; omega
        ·have h4 : ∀ b, (y.rv.ownBlock = some b ∨ y.ov.ownBlock = some b) → V.heap.size ≤ b ∧ b < W11.heap.size ∧ (Value.slice a10 (j + 1) c10).ownBlock ≠ some b := fun b hb => by
          have h5 := h3 b hb
          refine ⟨by omega, by omega, fun e => ?_⟩
          rcases hne10 b e with e | e
          ·have := (hrow b e).2; omega
          ·omega
         exact ⟨fun b hb => h4 b (.inl hb), fun b hb => h4 b (.inr hb)⟩
      have htm11 : (ts ++ [x]).map (·.t) = m.traces.take (j + 1) := by rw [List.map_append, HTM.out, HTX.out, ← HX.out.1]; rfl
      have HR := hid (And.intro (show (ts ++ [x]).length = j + 1 by rw [List.length_append, HJL.out]; rfl) (And.intro hc11 (And.intro hm11 (And.intro htm11 (And.intro ho11 (And.intro hys hfV))))))
      (first | exact ⟨⟨j + 1, a10, c10, ts ++ [x], HJ1.out, HR.out⟩, hlast⟩ | ((repeat apply Exists.intro); exact ⟨⟨⟨j + 1, a10, c10, ts ++ [x], HJ1.out, HR.out⟩, hlast⟩, rfl⟩))
     ·have hje : j = m.traces.length := by
       by_cases hT : H.traces = 0
       ·have := HA2.out.2.2.1 hT
        rw [this] at hj ⊢
        simpa using hj
       ·have : ¬ j < m.traces.length := fun h => hlt ⟨h, hT⟩
        omega
      have hend : ∃ (a : Option Addr) (c : Nat) (ts : List TcM), ts.map (·.t) = m.traces ∧ wr.heap[w.heap.size]? = some (.cells (msgC k m.id m.sum m.data (.slice a ts.length c) 0).toArray 34 (0, 0)) ∧ TkAt w W1.heap.size (rest4 m) wr ∧ TsOk V.heap.size wr (.slice a ts.length c) ts ∧ Foot (fun b => b = w.heap.size ∨ b = W1.heap.size) V wr := by
       have h1 := HCR.out
       have h2 := HTM.out
       have h3 := HOR.out
       have h4 := HNR.out
       have h5 := HHY.out
       rw [← HJL.out] at h3 h4 h5
       rw [hje, List.drop_length] at h1
       rw [hje, List.take_length] at h2
       exact ⟨a, c, ts, h2, h4, h1, ⟨rows_of_owns h3 (by unfold maxLen; have := HG.out.nt; have := HJL.out; omega), fun y hy => (h5 y hy).1, fun b hb => (h3.lt b hb).1, fun y hy => ⟨fun b hb => ((h5 y hy).2.1 b hb).1, fun b hb => ((h5 y hy).2.2 b hb).1⟩⟩, HFR.out⟩
      have HE := hid hend
      clear hend
      by_cases hT : H.traces = 0
      ·have eT : decide (0 < H.traces) = false := decide_eq_false (by omega)
       clear hlt hje hT
       go_wp2_with fail
       go_meet
       exact HE.out
      ·have eT : decide (0 < H.traces) = true := decide_eq_true (HA2.out.2.2.2.2 hT).2
       have e0 : ((m.traces.drop j).map traceB ++ rest4 m).length = 0 := by
        rw [hje, List.drop_length]
        unfold rest4
        rw [HH.out, (HA2.out.2.2.2.2 hT).1]
        rfl
       rw [e0] at c0
       clear hlt hje hT e0
       go_wp2_with fail
       go_meet
       exact HE.out
   case rest =>
    obtain ⟨a, c, ts, htm, hnx, hcx, hts, hfx⟩ := hcut
    obtain ⟨WA, hWA⟩ : ∃ W, W = wc := ⟨_, rfl⟩
    subst hWA
    have HSA := hid (And.intro hnx (And.intro hcx (And.intro hts hfx)))
    have HTM := hid htm
    clear hnx hcx hts hfx htm HS9
    obtain ⟨g0, g1, g2, g3, g4⟩ := hasC_parts (HHV.out _ HSA.out.2.2.2)
    go_upto_if 101 with fail
    clear g0 g1 g2 g3 g4
    obtain ⟨tv, htv⟩ : ∃ tv, Value.slice a ts.length c = tv := ⟨_, rfl⟩
    rw [htv] at HSA
    have HTV := hid htv
    clear htv
    go_cut [] (fun wx => wx.heap[w.heap.size]? = some (.cells (msgC k m.id m.sum m.data tv m.why).toArray 34 (0, 0)) ∧ TkAt w W1.heap.size [] wx ∧ Foot (fun b => b = w.heap.size ∨ b = W1.heap.size) WA wx)
    case first =>
     cases hs : H.why with
     | false =>
       go_wp2_with fail
       go_meet
       have h0 : m.why = 0 := HG.out.why.2.2 (by rw [HH.out]; exact hs)
       exact ⟨by rw [h0]; exact HSA.out.1, HSA.out.2.1.eq (by unfold rest4; rw [HH.out, hs]; rfl), Foot.refl _ _⟩
     | true =>
       obtain ⟨y, hy⟩ : ∃ y : Nat, m.why = y := ⟨m.why.toNat, by have := HG.out.why.1; omega⟩
       have hy19 : y ≤ 19 := by have := HG.out.why.2.1; omega
       have hy1 : 1 ≤ y := by have := HA2.out.2.2.2.1 hs; omega
       have HC := hid (HSA.out.2.1.eq (show rest4 m = Lib.itoa (y : Int) :: [] by unfold rest4; rw [HH.out, hs, hy]; rfl))
       have HY := hid hy
       have ey1 : decide ((y : Int) < 1) = false := decide_eq_false (by omega)
       have ey19 : decide (19 < (y : Int)) = false := decide_eq_false (by omega)
       clear hy
       go_upto_region 18 with (go_at_call 85; refine (tnumber_t HC.out HP.out.1 HP.out.2 (by omega)).mono ?_; rintro e WB ⟨rfl, hcB, hfB⟩)
       obtain ⟨-, -, -, c1, fz, -⟩ := hcB.cells
       have HCB := hid hcB
       have HFB := hid hfB
       clear hcB hfB
       go_upto_region 19 with fail
       obtain ⟨hcC, hfC⟩ := HCB.out.flag
       generalize WB.setCell ⟨W1.heap.size, 1, none⟩ (.bool false) = WC at *
       have hnC := (hfC.block _ (by have := HFB.out.size; have := lx (hid HSA.out.1); omega) (by have := HN.out; omega)).trans ((HFB.out.block _ (lx (hid HSA.out.1)) (by have := HN.out; omega)).trans HSA.out.1)
       have p5 := (MsgM.parts hnC).2.2.2.2.2
       have f5 : WC.frozen? ⟨w.heap.size, 36, none⟩ = false := Lib.frozen_of_heap hnC 36
       have HCC := hid hcC
       have HNC := hid hnC
       have HFC := hid (HFB.out.chain hfC)
       clear c1 fz hcC hfC hnC
       go_wp2_with fail
       go_meet
       obtain ⟨hnD, htD⟩ := put_cell HNC.out (set36 k m.id m.sum m.data tv 0 (y : Int))
       exact ⟨by rw [HY.out]; exact hnD, HCC.out.root htD (by have := HN.out; omega), ((HFC.out.mono fun i _ e => .inr e).trans htD.foot fun i _ e => .inl e)⟩
    case rest =>
     obtain ⟨hnx, hcx, hfx⟩ := hcut
     obtain ⟨WD, hWD⟩ : ∃ W, W = wc := ⟨_, rfl⟩
     subst hWD
     have hM : HeldM WA ⟨k, m.id, m.sum, m.data, tv, ts, m.why⟩ := ⟨by rw [← HTV.out]; rw [HTV.out]; exact HSA.out.2.2.1.rows, HSA.out.2.2.1.held⟩
     have hO : OwnM (fun b => V.heap.size ≤ b) ⟨k, m.id, m.sum, m.data, tv, ts, m.why⟩ := ⟨HSA.out.2.2.1.own, HSA.out.2.2.1.ins⟩
     have hML : (⟨k, m.id, m.sum, m.data, tv, ts, m.why⟩ : MsgM).l = m := by
      unfold MsgM.l
      simp only [HTM.out, ← HK.out]
     have hMD : HeldM WD ⟨k, m.id, m.sum, m.data, tv, ts, m.why⟩ := hM.stay hfx.size hO (fun b hb hl => hfx.block b hl (by have := HN.out; omega))
     obtain ⟨a0, c0, -, -, -, hg3⟩ := hcx.cells
     have HONE := hid (rows_one hMD.1)
     have HSS := hid (fun (W : World) (hb : Below WD.heap.size WD W) => And.intro ((hb.block _ (lx (hid hnx))).trans hnx) ((hb.block _ (lx (hid hg3))).trans hg3))
     have HMD := hid (And.intro hMD (And.intro hO hML))
     have HCKM : Hid (∀ W, Below WD.heap.size WD W → Calls Tryz.prog 34 #[.agg (msgC k m.id m.sum m.data tv m.why).toArray] W fun e w' => e = .returned (.int .i64 0) ∧ Below W.heap.size W w') := hid (fun W hb => by
      have h1 := checkM_any ⟨k, m.id, m.sum, m.data, tv, ts, m.why⟩ W (HMD.out.1.keep hb) (by simp only; omega) (by simp only; omega) (by simp only; have := HG.out.nd; omega) (fun t ht => smallT (HG.out.tr _ (by rw [← HTM.out]; exact List.mem_map.2 ⟨t, ht, rfl⟩)))
      rw [HMD.out.2.2, HCK.out] at h1
      exact h1)
     have HWD := hid (HSA.out.2.2.2.chain hfx)
     clear hM hO hML hMD hg3 hnx hcx hfx HSA
     go_wp2_with fail
     refine wp_region_wl (fun W => W.heap[w.heap.size]? = some (.cells (msgC k m.id m.sum m.data tv m.why).toArray 34 (0, 0)) ∧ W.heap[W1.heap.size]? = some (.cells #[.slice a0 0 c0, .bool false] 189 (0, 0))) 20 (by kernel_rfl) ?_
     intro Wd hbd
     have hS := HSS.out _ hbd
     refine WL.ld 0 (some 121) rt34 (fun W hW => range_of_heap hW.1) (msgC_len _ _ _ _ _ _) (hi := rfl) hS ?_
     try simp only [Act.put, sA, sB, sC]
     refine WL.tp 1 (some 122) (hi := rfl) (.inr hS) ?_
     apply Exists.intro
     refine ⟨fun W => ?_, ?_⟩
     ·go_simp
      try rfl
     try simp only [Act.put, sA, sB, sC]
     refine WL.tp 2 (some 123) (hi := rfl) (.inr hS) ?_
     apply Exists.intro
     refine ⟨fun W => ?_, ?_⟩
     ·go_simp
      try rfl
     try simp only [Act.put, sA, sB, sC]
     refine WL.tp 3 (some 124) (hi := rfl) (.inr hS) ?_
     apply Exists.intro
     refine ⟨fun W => ?_, ?_⟩
     ·go_simp
      try rfl
     try simp only [Act.put, sA, sB, sC]
     refine WL.te 4 (some 125) (hi := rfl) hS ?_
     apply Exists.intro
     refine ⟨fun W hW => ?_, ?_⟩
     ·obtain ⟨e0, e1⟩ := hW; have f0 := (cell_of_row W W1.heap.size 0 _ _ _ e1).trans rfl; have f1 := (cell_of_row W W1.heap.size 1 _ _ _ e1).trans rfl; clear e0 e1
      go_simp
      try rfl
     try simp only [Act.put, sA, sB, sC]
     refine WL.tp 5 (some 126) (hi := rfl) (.inr hS) ?_
     apply Exists.intro
     refine ⟨fun W => ?_, ?_⟩
     ·go_simp
      try rfl
     try simp only [Act.put, sA, sB, sC]
     refine WL.tp 6 (some 127) (hi := rfl) (.inr hS) ?_
     apply Exists.intro
     refine ⟨fun W => ?_, ?_⟩
     ·go_simp
      try rfl
     try simp only [Act.put, sA, sB, sC]
     refine WL.tp 7 (some 128) (hi := rfl) (.inr hS) ?_
     apply Exists.intro
     refine ⟨fun W => ?_, ?_⟩
     ·go_simp
      try rfl
     try simp only [Act.put, sA, sB, sC]
     refine WL.tp 8 (some 129) (hi := rfl) (.inr hS) ?_
     apply Exists.intro
     refine ⟨fun W => ?_, ?_⟩
     ·go_simp
      try rfl
     try simp only [Act.put, sA, sB, sC]
     refine WL.tp 9 (some 130) (hi := rfl) (.inr hS) ?_
     apply Exists.intro
     refine ⟨fun W => ?_, ?_⟩
     ·go_simp
      try rfl
     try simp only [Act.put, sA, sB, sC]
     refine WL.te 10 (some 131) (hi := rfl) hS ?_
     apply Exists.intro
     refine ⟨fun W hW => ?_, ?_⟩
     ·obtain ⟨e0, e1⟩ := hW; have f0 := (cell_of_row W W1.heap.size 0 _ _ _ e1).trans rfl; have f1 := (cell_of_row W W1.heap.size 1 _ _ _ e1).trans rfl; clear e0 e1
      go_simp
      try rfl
     try simp only [Act.put, sA, sB, sC]
     refine WL.tp 11 (some 132) (hi := rfl) (.inr hS) ?_
     apply Exists.intro
     refine ⟨fun W => ?_, ?_⟩
     ·go_simp
      try rfl
     try simp only [Act.put, sA, sB, sC]
     refine WL.tp 12 (some 133) (hi := rfl) (.inr hS) ?_
     apply Exists.intro
     refine ⟨fun W => ?_, ?_⟩
     ·go_simp
      try rfl
     try simp only [Act.put, sA, sB, sC]
     refine WL.tp 13 (some 134) (hi := rfl) (.inr hS) ?_
     apply Exists.intro
     refine ⟨fun W => ?_, ?_⟩
     ·go_simp
      try rfl
     try simp only [Act.put, sA, sB, sC]
     refine WL.tp 14 (some 135) (hi := rfl) (.inr hS) ?_
     apply Exists.intro
     refine ⟨fun W => ?_, ?_⟩
     ·go_simp
      try rfl
     try simp only [Act.put, sA, sB, sC]
     refine WL.ld 15 (some 136) rt34 (fun W hW => range_of_heap hW.1) (msgC_len _ _ _ _ _ _) (hi := rfl) hS ?_
     try simp only [Act.put, sA, sB, sC]
     refine WL.o 16 (hi := rfl) ?_
     intro K hK
     go_simp
     refine (HCKM.out _ hbd).mono ?_
     rintro e W9 ⟨rfl, hb9⟩
     have hS9 := And.intro ((hb9.block _ (lx (hid hS.1))).trans hS.1) ((hb9.block _ (lx (hid hS.2))).trans hS.2)
     refine hK.out _ _ (.inr hS9) ?_
     clear hK K
     try simp only [Act.put, sA, sB, sC]
     refine WL.tp 17 (some 138) (hi := rfl) (.inr hS9) ?_
     apply Exists.intro
     refine ⟨fun W => ?_, ?_⟩
     ·go_simp
      try rfl
     try simp only [Act.put, sA, sB, sC]
     refine WL.tp 18 (some 139) (hi := rfl) (.inr hS9) ?_
     apply Exists.intro
     refine ⟨fun W => ?_, ?_⟩
     ·go_simp
      try rfl
     try simp only [Act.put, sA, sB, sC]
     refine WL.o 19 (hi := rfl) ?_
     intro K hK
     refine wp_st (xs := (msgC k m.id m.sum m.data tv m.why).toArray) rt34 hS9.1 (by rw [List.size_toArray, msgC_len]) (by rw [List.size_toArray, msgC_len]) (msgC_one HONE.out) ?_
     intro W10 ht10 hn10 hs10
     have hS10 := And.intro hn10 ((ht10.foot.block _ (lx (hid hS9.2)) (by have := HN.out; omega)).trans hS9.2)
     refine hK.out _ _ (.inr hS10) ?_
     clear hK K
     try simp only [Act.put, sA]
     refine WL.o 20 (hi := rfl) ?_
     intro K hK
     go_simp
     refine hK.out _ _ (.inl (by kernel_rfl)) ?_
     clear hK K
     try simp only [Act.put, sA, sB, sC]
     refine WL.d ?_
     have HZ := hid (And.intro hbd (And.intro hb9 ht10))
     have HN10 := hid hn10
     have hM10 : HeldM W10 ⟨k, m.id, m.sum, m.data, tv, ts, m.why⟩ := (HMD.out.1.keep (Below.chain hbd hb9)).stay ht10.foot.size HMD.out.2.1 (fun b hb hl => ht10.foot.block b hl (by have := HN.out; omega))
     go_wp2_with fail
     refine br2 _ HN10.out ⟨⟨k, m.id, m.sum, m.data, tv, ts, m.why⟩, rfl, HMD.out.2.2, hM10, HMD.out.2.1.mono (fun b hb => by have := HN.out; omega), ?_⟩ (hu := Tryz.underlying34) (hi := by rw [List.size_toArray, msgC_len]; kernel_rfl)
     have hN := HN.out
     have hz1 := HB1.out.size
     refine HB1.out.trans ((HF1V.out.below (by omega) (fun i e => by omega)).trans ((HWD.out.below (by omega) (fun i e => by omega)).trans ?_))
     have hzD := HWD.out.size
     exact ((Below.chain hbd hb9).mono (by omega)).trans (ht10.below (Nat.le_refl _))
end Go.Proofs.YtlbipokkdiiaiaaGreatDoor
