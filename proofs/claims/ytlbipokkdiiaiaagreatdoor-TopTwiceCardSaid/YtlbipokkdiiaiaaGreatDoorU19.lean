/- Lemmas for TopTwice: W17, W36, W37, W23, W25, W26. -/
import Derived.Test.YtlbipokkdiiaiaaGreatDoorU18
import Derived.Test.YtlbipokkdiiaiaaGreatDoorU14
import Derived.Test.YtlbipokkdiiaiaaGreatDoorU17
import Derived.Great.BuildSlice
import Derived.Test.YtlbipokkdiiaiaaGreatDoorU16
open List renaming setIfInBounds_toArray → sA, set_cons_zero → sB, set_cons_succ → sC
namespace Go.Proofs.YtlbipokkdiiaiaaGreatDoor
open Go.RowKit Go.Proofs.YtlbipokkdiiaiaaGreatDoor.Exec
set_option maxRecDepth 100000
section
variable {ops : Array Oper} {rest : List Oper} {o : Oper} {a : Act} {w : World} {Q : Exit → Act → World → Prop}
theorem r_bs {t e sz by_ : Nat} {xs : Array Value} (h0 : 0 < sz) (h1 : sz ≤ 1000) (hxs : xs.size = sz) (hu : Tryz.prog.underlying t = some (.slice e)) (hinfo : infoOk e sz by_ = true) (w : World) :
  (Instr.buildSlice t 1 #[(0, .agg xs)]).run Tryz.prog w = .ok (.slice (some ⟨w.heap.size, 0, none⟩) 1 1) (w.alloc (.cells xs e)) := by
 obtain ⟨i, z, hi, hz, hs, -, hzs⟩ := infoOk_out hinfo
 refine run_buildSlice w t e 1 _ xs i z hu hi hz (by rw [hs]; omega) (by rw [hs]; omega) ?_
 have := Great.fill_whole (s := sz) h0 [.agg xs] ((Array.range (1 * sz)).map (z.cells[· % z.cells.size]!)) (by simpa [Value.cells] using hxs) (by simp)
 rw [hs]
 simpa [Value.cells] using this
theorem wl_bs {t e sz by_ : Nat} {xs : Array Value} {p : Operand} (h0 : 0 < sz) (h1 : sz ≤ 1000) (hxs : xs.size = sz) (hu : Tryz.prog.underlying t = some (.slice e)) (hinfo : infoOk e sz by_ = true)
  (h : ∀ W1, Below w.heap.size w W1 → W1.heap[w.heap.size]? = some (.cells xs e (0, 0)) → W1.heap.size = w.heap.size + 1 → wpList Tryz.prog ops Q rest (a.put o.dst (.slice (some ⟨w.heap.size, 0, none⟩) 1 1)) W1)
  (ho : o.op = .buildSlice t 1 #[(0, p)] := by rfl) (hx : a.eval p = .agg xs := by rfl) (hw : Region.wanted o (yielded ops a.tmps) = true := by rfl) :
  wpList Tryz.prog ops Q (o :: rest) a w := by
 refine wl_run (v := .slice (some ⟨w.heap.size, 0, none⟩) 1 1) (w' := w.alloc (.cells xs e)) ?_ (h _ (below_new w _) (heap_alloc_new w _) (by rw [World.size_alloc])) hw
 have hr := r_bs (t := t) (e := e) (sz := sz) (by_ := by_) h0 h1 hxs hu hinfo w
 unfold execOp
 simp only [ho, List.map_toArray, List.map_cons, List.map_nil, hx, Sem.run_bind, hr, Result.andThen_ok, Sem.run_pure]
end
theorem WL.ld {ops : Array Oper} {Q : Exit → Act → World → Prop} {S : World → Prop} {k fuel : Nat} {listed : Array Bool} {a : Act} {w : World} (i : Nat) (dst : Option Tmp) {ty n : Nat} (rt : RowTy ty n) {b off : Nat} {cs : List Value} {x : Operand} {oi : Oper}
  (hr : ∀ W, S W → W.rangeAt b off cs) (hl : cs.length = n) (hi : ops[i]? = some oi) (hS : S w) (h : WL Tryz.prog ops Q S k fuel (listed.setIfInBounds i true) (a.put dst (.agg cs.toArray)) w)
  (ho : oi.op = .load ty x := by rfl) (hx : a.eval x = .pointer (some ⟨b, off, none⟩) := by rfl) (hd : oi.dst = dst := by rfl)
  (hs : Region.noSelect ops = true := by kernel_rfl) (hf : Region.free .any ops listed i = true := by kernel_rfl) (hrd : (Region.ready .any ops listed).contains i = true := by kernel_rfl)
  (hQ : ∀ c a w, Q (.panic c) (a.put oi.dst (.agg cs.toArray)) w → Q (.panic c) a w := by exact fun _ _ _ h => h) (hwt : Region.wanted oi (yielded ops a.tmps) = true := by kernel_rfl) (hw : waits ops k i = true := by kernel_rfl) (hkl : listed.getD k false = false := by kernel_rfl) (hki : k ≠ i := by decide) : WL Tryz.prog ops Q S k (fuel + 1) listed a w :=
 WL.tk i dst _ hS h (fun W hW => r_ld rt (hr W hW) hl ho hx) hi hd hs hf hrd hQ hwt hw hkl hki
def InT (I : Nat → Prop) (x : TcM) : Prop := (∀ k, x.rv.ownBlock = some k → I k) ∧ ∀ k, x.ov.ownBlock = some k → I k
theorem rows_keep {α : Type} {w w' : World} {sz : Nat} {f : α → List Value} {v : Value} {l : List α} (h : RowsOf w sz f v l) (hs : w.heap.size ≤ w'.heap.size) (hk : ∀ k, v.ownBlock = some k → k < w.heap.size → w'.heap[k]? = w.heap[k]?) : RowsOf w' sz f v l := by
 obtain ⟨hl, a, c, rfl, hc, hm, hn, hx⟩ := h
 refine ⟨hl, a, c, rfl, hc, hm, hn, fun hne => ?_⟩
 obtain ⟨b, off, rfl, hlt, hcl⟩ := hx hne
 exact ⟨b, off, rfl, Nat.lt_of_lt_of_le hlt hs, fun j u hu => (World.cell?_of_block (hk b rfl hlt)).trans (hcl j u hu)⟩
theorem HeldT.stay {w w' : World} {x : TcM} (h : HeldT w x) (hs : w.heap.size ≤ w'.heap.size) (hk : ∀ k, (x.rv.ownBlock = some k ∨ x.ov.ownBlock = some k) → k < w.heap.size → w'.heap[k]? = w.heap[k]?) : HeldT w' x :=
 ⟨rows_keep h.1 hs fun k e => hk k (.inl e), rows_keep h.2 hs fun k e => hk k (.inr e)⟩
theorem rows_keepE {α : Type} {w w' : World} {sz : Nat} {f : α → List Value} {v : Value} {l : List α} (h : RowsOf w sz f v l) (hs : w.heap.size ≤ w'.heap.size) (hk : ∀ k, l ≠ [] ∧ v.ownBlock = some k → k < w.heap.size → w'.heap[k]? = w.heap[k]?) : RowsOf w' sz f v l := by
 obtain ⟨hl, a, c, rfl, hc, hm, hn, hx⟩ := h
 refine ⟨hl, a, c, rfl, hc, hm, hn, fun hne => ?_⟩
 obtain ⟨b, off, rfl, hlt, hcl⟩ := hx hne
 exact ⟨b, off, rfl, Nat.lt_of_lt_of_le hlt hs, fun j u hu => (World.cell?_of_block (hk b ⟨(by rintro rfl; exact hne rfl), rfl⟩ hlt)).trans (hcl j u hu)⟩
theorem HeldT.stayE {w w' : World} {x : TcM} (h : HeldT w x) (hs : w.heap.size ≤ w'.heap.size) (hk : ∀ k, ((x.t.reads ≠ [] ∧ x.rv.ownBlock = some k) ∨ (x.t.outs ≠ [] ∧ x.ov.ownBlock = some k)) → k < w.heap.size → w'.heap[k]? = w.heap[k]?) : HeldT w' x :=
 ⟨rows_keepE h.1 hs fun k e => hk k (.inl e), rows_keepE h.2 hs fun k e => hk k (.inr e)⟩
def InE (I : Nat → Prop) (x : TcM) : Prop := ∀ k, ((x.t.reads ≠ [] ∧ x.rv.ownBlock = some k) ∨ (x.t.outs ≠ [] ∧ x.ov.ownBlock = some k)) → I k
def nilS : Value := .slice none 0 0
structure DbIs (B : Nat) (D I : Nat → Prop) (w : World) (dp mb : Nat) (M : Dg → Option Value) (L : Dg → List TcM) : Prop where
 db : w.heap[dp]? = some (.cells #[.int .i64 8, .map (some mb)] 172 (0, 0))
 mp : ∃ o, w.heap[mb]? = some o ∧ MapIs dgv M o
 row : ∀ d, w.ownsRow B 44 34 ((M d).getD nilS) (L d).length (tcs (L d))
 few : ∀ d, (L d).length ≤ 8
 cap : ∀ d a n c, (M d).getD nilS = .slice (some a) n c → 1 ≤ c
 held : ∀ d, ∀ x ∈ L d, HeldT w x ∧ InT I x ∧ checkT x.t = 0 ∧ x.t.key = d
 dd : D dp
 dm : D mb
 dne : dp ≠ mb
 drow : ∀ d k, ((M d).getD nilS).ownBlock = some k → D k ∧ k ≠ mb ∧ k ≠ dp
 apart : ∀ d e k, ((M d).getD nilS).ownBlock = some k → ((M e).getD nilS).ownBlock = some k → d = e
 di : ∀ k, D k → ¬ I k
 db_ : ∀ k, D k → B ≤ k ∧ k < w.heap.size
 ib : ∀ k, I k → k < w.heap.size
theorem DbIs.keep {B : Nat} {D I F : Nat → Prop} {w w' : World} {dp mb : Nat} {M : Dg → Option Value} {L : Dg → List TcM} (h : DbIs B D I w dp mb M L) (hf : Foot F w w') (hF : ∀ k, D k ∨ I k → ¬ F k) : DbIs B D I w' dp mb M L where
 db := (hf.block dp (h.db_ dp h.dd).2 (hF dp (.inl h.dd))).trans h.db
 mp := by
  obtain ⟨o, ho, hm⟩ := h.mp
  exact ⟨o, (hf.block mb (h.db_ mb h.dm).2 (hF mb (.inl h.dm))).trans ho, hm⟩
 row := fun d => owns_keep (h.row d) fun k hk => hf.block k (h.db_ k (h.drow d k hk).1).2 (hF k (.inl (h.drow d k hk).1))
 few := h.few
 cap := h.cap
 held := fun d x hx => by
  obtain ⟨h1, h2, h3⟩ := h.held d x hx
  refine ⟨h1.stay hf.size fun k hk _ => ?_, h2, h3⟩
  have hI : I k := by rcases hk with hk | hk; exact h2.1 k hk; exact h2.2 k hk
  exact hf.block k (h.ib k hI) (hF k (.inr hI))
 dd := h.dd
 dm := h.dm
 dne := h.dne
 drow := h.drow
 apart := h.apart
 di := h.di
 db_ := fun k hk => ⟨(h.db_ k hk).1, Nat.lt_of_lt_of_le (h.db_ k hk).2 hf.size⟩
 ib := fun k hk => Nat.lt_of_lt_of_le (h.ib k hk) hf.size
theorem DbIs.below {B : Nat} {D I : Nat → Prop} {w w' : World} {dp mb : Nat} {M : Dg → Option Value} {L : Dg → List TcM} (h : DbIs B D I w dp mb M L) (hb : Below w.heap.size w w') : DbIs B D I w' dp mb M L :=
 h.keep (Foot.of_below (D := fun _ => False) hb) fun _ _ e => e
end Go.Proofs.YtlbipokkdiiaiaaGreatDoor
namespace Go.Proofs.YtlbipokkdiiaiaaGreatDoor
open Go.RowKit Go.Proofs.YtlbipokkdiiaiaaGreatDoor.Exec
set_option maxRecDepth 100000
theorem owns_some {w : World} {base e sz n : Nat} {v : Value} {xs : List Value} (h : w.ownsRow base e sz v n xs) (hn : n ≠ 0) : ∃ g cap, v = .slice (some ⟨g, 0, none⟩) n cap ∧ base ≤ g := by
 obtain ⟨_, ⟨_, h0⟩ | ⟨g, cap, cur, rfl, hb, _⟩⟩ := h
 ·exact absurd h0 hn
 ·exact ⟨g, cap, rfl, hb⟩
theorem owns_below {w w' : World} {B base e sz n : Nat} {v : Value} {xs : List Value} (h : w.ownsRow base e sz v n xs) (hb : Below B w w') (hB : w.heap.size ≤ B) : w'.ownsRow base e sz v n xs := owns_keep h fun k hk => hb.block k (by have := (h.lt k hk).2; omega)
theorem rdT_count (l : List RdL) : (l.flatMap rdT).length = 2 * l.length := by
 induction l with
 | nil => rfl
 | cons a l ih => rw [List.flatMap_cons, List.length_append, ih]; simp [rdT]; omega
theorem mdT_count (l : List MdL) : (l.flatMap mdT).length = 2 * l.length := by
 induction l with
 | nil => rfl
 | cons a l ih => rw [List.flatMap_cons, List.length_append, ih]; simp [mdT]; omega
theorem rdT_take (l : List RdL) (k : Nat) (h : k < l.length) : (l.take (k + 1)).flatMap rdT = (l.take k).flatMap rdT ++ rdT l[k] := by
 rw [take_at l k h, List.flatMap_append]; simp
theorem mdT_take (l : List MdL) (k : Nat) (h : k < l.length) : (l.take (k + 1)).flatMap mdT = (l.take k).flatMap mdT ++ mdT l[k] := by
 rw [take_at l k h, List.flatMap_append]; simp
def rT (key : Dg) (n : Nat) (l : List RdL) : List (List UInt8) := [key.1, dig n] ++ l.flatMap rdT
theorem rT_len (key : Dg) (n : Nat) (l : List RdL) : (rT key n l).length = 2 + 2 * l.length := by unfold rT; rw [List.length_append, rdT_count]; rfl
set_option maxHeartbeats 4000000 in
theorem tbytes_any (x : TcM) (w : World) (hx : HeldT w x) (hs : SmallT x.t) (ht : PowTab w) (hc : checkT x.t = 0) :
  Calls Tryz.prog 80 #[x.val] w fun e w' => e = .returned (.tuple #[.string (bs (traceB x.t)), .int .i64 0]) ∧ Below w.heap.size w w' := by
 have hg := goodT hc
 have HLB := hid (traceB_len hg)
 have HC := hid (fun (W : World) (hb : Below w.heap.size w W) => show Calls Tryz.prog 15 #[.agg x.cells.toArray] W fun e w' => e = .returned (.int .i64 0) ∧ Below W.heap.size W w' from hc ▸ checkT_any x W (hx.keep hb) hs)
 obtain ⟨ra, rc, hrv, hrc, hrm, -, hrx⟩ := hx.1.out RdL.len (by omega)
 obtain ⟨oa, oc, hov, hoc, hom, -, hox⟩ := hx.2.out MdL.len (by omega)
 have HP := hid ht
 have HG := hid hg
 have HRX := hid hrx
 have HOX := hid hox
 unfold TcM.val
 obtain ⟨⟨key, rds, mds⟩, rv, ov⟩ := x
 simp only at hrv hov
 subst hrv hov
 have hrn : rds.length ≤ 500 := hg.nr
 have hon : mds.length ≤ 1000 := hg.no
 clear hx hs ht hc hg hrx hox hrm hom hrc hoc
 go_enter Tryz.func80, Tryz.ntmps80
 go_upto_region 4 with first | (refine wl_box rt44 ?_; intro W0 hb0 hn0 hs0) | (refine wl_ld rt44 (range_of_heap hn0) (TcM.len _) ?_) | (go_at_call 15; refine (HC.out _ hb0).mono ?_; rintro e W1 ⟨rfl, hb1⟩)
 have HB1 := hid (Below.chain hb0 hb1)
 have HN1 := hid (fun (W : World) (hb : Below W1.heap.size W1 W) => (hb.block w.heap.size (by have := hb1.size; omega)).trans ((hb1.block _ (by omega)).trans hn0))
 have hz0 : w.heap.size < W1.heap.size := by have := hb1.size; omega
 clear hb0 hn0 hs0 hb1
 refine wp_region_wl (fun W => W.heap[w.heap.size]? = some (.cells (TcM.cells ⟨⟨key, rds, mds⟩, .slice ra rds.length rc, .slice oa mds.length oc⟩).toArray 44 (0, 0))) 8 (by kernel_rfl) ?_
 intro Wd hbd
 have hS := HN1.out _ hbd
 refine WL.tp 0 (some 15) (hi := rfl) (.inr hS) ?_
 apply Exists.intro
 refine ⟨fun W => ?_, ?_⟩
 ·go_simp
  try rfl
 try simp only [Act.put, sA, sB, sC]
 refine WL.ld 1 (some 16) rt31 (fun W hW => (TcM.parts0 hW).1) (dgc_len _) (hi := rfl) hS ?_
 try simp only [Act.put, sA, sB, sC]
 refine WL.tp 3 (some 18) (hi := rfl) (.inr hS) ?_
 apply Exists.intro
 refine ⟨fun W => ?_, ?_⟩
 ·go_simp
  try rfl
 try simp only [Act.put, sA, sB, sC]
 refine WL.te 4 (some 19) (hi := rfl) hS ?_
 apply Exists.intro
 refine ⟨fun W hW => ?_, ?_⟩
 ·obtain ⟨-, e1, -⟩ := TcM.parts0 hW
  go_simp
  try rfl
 try simp only [Act.put, sA, sB, sC]
 refine WL.tp 5 (some 20) (hi := rfl) (.inr hS) ?_
 apply Exists.intro
 refine ⟨fun W => ?_, ?_⟩
 ·go_simp
  try rfl
 try simp only [Act.put, sA, sB, sC]
 refine WL.o 2 (hi := rfl) ?_
 intro K hK
 go_simp
 refine (tsum_any key Wd).mono ?_
 rintro e W2 ⟨rfl, hb2⟩
 have hS2 := (hb2.block _ (lx (hid hS))).trans hS
 refine hK.out _ _ (.inr hS2) ?_
 clear hK K
 try simp only [Act.put, sA, sB, sC]
 refine WL.o 6 (hi := rfl) ?_
 intro K hK
 go_simp
 refine (num_any (rds.length : Int) (by omega) (by omega) W2 (HP.out.below (Below.chain HB1.out (Below.chain hbd hb2)))).mono ?_
 rintro e W3 ⟨rfl, hb3⟩
 rw [itoa_nat]
 have hS3 := (hb3.block _ (lx (hid hS2))).trans hS2
 refine hK.out _ _ (.inr hS3) ?_
 clear hK K
 try simp only [Act.put, sA, sB, sC]
 refine WL.o 7 (hi := rfl) ?_
 intro K hK
 go_simp
 obtain ⟨W4, hW4, hb4, hn4⟩ := an0 W3 (.cells #[.string (bs key.1), .string (bs (dig rds.length))] 9)
 rw [← hW4.out]
 clear hW4
 have hS4 := (hb4.block _ (lx (hid hS3))).trans hS3
 refine hK.out _ _ (.inr hS4) ?_
 clear hK K
 try simp only [Act.put, sA, sB, sC]
 refine WL.o 8 (hi := rfl) ?_
 intro K hK
 go_simp
 refine hK.out _ _ (.inl (by kernel_rfl)) ?_
 clear hK K
 try simp only [Act.put, sA, sB, sC]
 refine WL.d ?_
 have HB4 := hid (Below.chain HB1.out (Below.chain hbd (Below.chain hb2 (Below.chain hb3 hb4))))
 have HN4 := hid hS4
 have HO4 : Hid (W4.ownsRow (w.heap.size + 1) 9 1 (.slice (some ⟨W3.heap.size, 0, none⟩) 2 2) 2 (strCells (rT key rds.length []))) := hid ⟨rfl, .inr ⟨W3.heap.size, 2, _, rfl, by have := hbd.size; have := hb2.size; have := hb3.size; omega, hn4, Nat.le_refl _, by unfold maxLen; omega, rfl, rfl⟩⟩
 clear hbd hb2 hb3 hb4 hS hS2 hS3 hS4 hn4
 obtain ⟨-, y1, y2⟩ := TcM.parts0 HN4.out
 go_wp2_with fail
 have HY1 := hid y1
 clear y1 y2
 go_loopw [5, 26] (fun o i wr => ∃ (k : Nat) (v : Value), k ≤ rds.length ∧ i = .int .i64 k ∧ v = o ∧ wr.ownsRow (w.heap.size + 1) 9 1 v (2 + 2 * k) (strCells (rT key rds.length (rds.take k))) ∧ Below w.heap.size w wr ∧ Below (w.heap.size + 1) W4 wr) (fun _ i _ => rds.length - (intOf i).toNat)
 case atStart => exact ⟨0, _, by omega, rfl, rfl, HO4.out, HB4.out, Below.refl _ _⟩
 case round =>
  obtain ⟨k, v5, hk, rfl, rfl, hown, hbr, hb4r⟩ := hrel
  have hszr := hbr.size
  by_cases hlt : k < rds.length
  ·obtain ⟨b, off, rfl, hbw, hcl⟩ := HRX.out k hlt
   have L0 := range_keeps hbr (hcl k hlt)
   have HT := hid (show rT key rds.length (rds.take (k + 1)) = rT key rds.length (rds.take k) ++ rdT rds[k] by unfold rT; rw [rdT_take rds k hlt, List.append_assoc])
   have hlen : 2 + 2 * k = (rT key rds.length (rds.take k)).length := by rw [rT_len, List.length_take, Nat.min_eq_left (by omega)]
   generalize rT key rds.length (rds.take k) = l0 at *
   obtain ⟨r, hr⟩ : ∃ r, r = rds[k] := ⟨_, rfl⟩
   rw [← hr] at L0 HT
   obtain ⟨p, is, d⟩ := r
   clear hr hcl
   have HWR := hid (show w.heap.size + 1 ≤ wr.heap.size by have := HB4.out.size; have := hb4r.size; have := lx (hid HN4.out); omega)
   have HOW := hid hown
   have HBR := hid (And.intro hbr hb4r)
   have HL := hid hlen
   clear hown hbr hb4r hlen
   go_upto_region 8 with first | (refine wl_ld rt100 L0 (RdL.len _) ?_) | (refine wl_new (xs := (RdL.cells ⟨p, is, d⟩).toArray) rt100 (by rw [List.size_toArray]; exact RdL.len _) (RdL.one _) ?_; intro W5 hb5 hn5 hs5)
   have hal := heap_alloc_new W5 (.cells #[.string (bs p), .string (bs [])] 9)
   obtain ⟨v6, W6, happ, hown6, hb6, hg6⟩ := app_texts (W := W5.alloc (.cells #[.string (bs p), .string (bs [])] 9)) (base := w.heap.size + 1) [p, []] ((owns_below HOW.out hb5 (Nat.le_refl _)).alloc _) hal (by rw [World.size_alloc]; have := hb5.size; have := HWR.out; omega) (by simp; omega) HL.out
   have hap : ∀ ty, (Builtin.append_ #[46, 46] ty #[v5, .slice (some ⟨W5.heap.size, 0, none⟩) 2 2]).run Tryz.prog (W5.alloc (.cells #[.string (bs p), .string ⟨#[]⟩] 9)) = .ok v6 W6 := happ
   have hn6 := (hg6.block wr.heap.size (by rw [World.size_alloc]; omega) (fun e => by have := (HOW.out.lt _ e.symm).2; omega)).trans ((heap_alloc_old W5 _ (by omega)).trans hn5)
   obtain ⟨z0, z1, z2⟩ := RdL.parts0 hn5
   obtain ⟨y0, y1, y2⟩ := RdL.parts0 hn6
   have HS5 := hid hs5
   clear happ hal hs5
   have HB6 := hid (show Below (w.heap.size + 1) W5 W6 from (below_new W5 _).mono (by have := hb5.size; have := HWR.out; omega) |>.trans hb6)
   obtain ⟨g, cap, rfl, hgb⟩ := owns_some hown6 (by simp)
   cases is with
   | false =>
     go_wp2_with (at_builtin; refine Lib.wpList_append_run _ rfl _ _ _ _ rfl _ _ rfl rfl _ _ (hap _) ?_)
     refine ⟨⟨k + 1, _, by omega, by go_num, rfl, ?_, HBR.out.1.trans (((hb5.mono hszr).trans (HB6.out.mono (Nat.le_succ _)))), HBR.out.2.trans ((hb5.mono HWR.out).trans HB6.out)⟩, by simp [intOf]; omega⟩
     rw [HT.out]
     exact hown6
   | true =>
     obtain ⟨j, hj⟩ : ∃ j, j = 2 + 2 * k + 1 := ⟨_, rfl⟩
     have HJ := hid hj
     have hj2 : 2 + 2 * k + [p, []].length = j + 1 := by simp; omega
     rw [hj2] at hown6 hap
     have hwr : wrap64 (j : Int) = (j : Int) := by unfold wrap64; omega
     have hc6 := hown6.cellAt j (by omega)
     have hc61 : (strCells (l0 ++ [p, []]))[j]? = some (.string (bs [])) := by
      have hjl : j = (l0 ++ [p]).length := by rw [List.length_append, ← HL.out, HJ.out]; rfl
      rw [strCells_get _ _ (by rw [hjl]; simp)]
      simp [hjl]
     rw [hc61] at hc6
     clear hc61
     clear hj hj2
     go_upto_region 10 with (at_builtin; refine Lib.wpList_append_run _ rfl _ _ _ _ rfl _ _ rfl rfl _ _ (hap _) ?_)
     go_wp2_with first | (refine wl_ld rt31 y2 (dgc_len _) ?_) | (go_at_call 122; refine (tsum_any d W6).mono ?_; rintro e W7 ⟨rfl, hb7⟩; have hown7 := owns_below hown6 hb7 (Nat.le_refl _); have hf7 := hown7.frozenAt j; have hc7 := Below.keeps hb7 hc6)
     obtain ⟨hown8, hg8⟩ := hown7.stored j (.string (bs d.1))
     have hg7 := (hown6.lt g rfl).2
     have hg8' := hb7.size
     have hsz8 : W7.heap.size ≤ (W7.setCell ⟨g, j, none⟩ (.string (bs d.1))).heap.size := by rw [World.size_setCell]; exact Nat.le_refl _
     have hb8 : Below (w.heap.size + 1) W6 (W7.setCell ⟨g, j, none⟩ (.string (bs d.1))) := (hb7.mono (by omega)).trans (Turned.below (turned_cell j _ (by omega)) hgb)
     refine ⟨⟨k + 1, _, by omega, by go_num, rfl, ?_, HBR.out.1.trans (((hb5.mono hszr).trans ((HB6.out.trans hb8).mono (Nat.le_succ _)))), HBR.out.2.trans ((hb5.mono HWR.out).trans (HB6.out.trans hb8))⟩, by simp [intOf]; omega⟩
     have e9 : (strCells (l0 ++ [p, []])).set j (.string (bs d.1)) = strCells (l0 ++ rdT ⟨p, true, d⟩) := by
      have hjl : j = (l0 ++ [p]).length := by rw [List.length_append, ← HL.out, HJ.out]; rfl
      rw [hjl]
      simp [strCells, rdT]
     rw [HT.out, ← e9, show 2 + 2 * (k + 1) = j + 1 by have := HJ.out; omega]
     exact hown8
  ·obtain rfl : k = rds.length := by omega
   rw [List.take_length] at hown
   have HOW := hid hown
   have HBR := hid (And.intro hbr hb4r)
   have hnx := (hb4r.block w.heap.size (Nat.lt_succ_self _)).trans HN4.out
   have HWR := hid (show w.heap.size + 1 ≤ wr.heap.size by have := lx (hid hnx); omega)
   obtain ⟨-, y1, y2⟩ := TcM.parts0 hnx
   clear hown hbr hb4r hnx y1
   generalize HRT : rT key rds.length rds = l0 at *
   have HL0 : Hid (l0.length = 2 + 2 * rds.length) := hid (by rw [← HRT, rT_len])
   have HRT' := hid HRT
   clear HRT
   generalize hnr : 2 + 2 * rds.length = nr at *
   have HNR := hid hnr
   clear hnr
   go_wp2_with fail
   go_loopw [5, 49] (fun o i wq => ∃ (k : Nat) (v : Value), k ≤ mds.length ∧ i = .int .i64 k ∧ v = o ∧ wq.ownsRow (w.heap.size + 1) 9 1 v (nr + 2 * k) (strCells (l0 ++ (mds.take k).flatMap mdT)) ∧ Below w.heap.size w wq ∧ wr.heap.size ≤ wq.heap.size) (fun _ i _ => mds.length - (intOf i).toNat)
   case atStart => exact ⟨0, _, by omega, rfl, rfl, by simpa using HOW.out, HBR.out.1, Nat.le_refl _⟩
   case round =>
    obtain ⟨k, v5, hk, rfl, rfl, hown, hbr, hszw⟩ := hrel
    have hszr := hbr.size
    by_cases hlt : k < mds.length
    ·obtain ⟨b, off, rfl, hbw, hcl⟩ := HOX.out k hlt
     have L0 := range_keeps hbr (hcl k hlt)
     have HT := hid (show l0 ++ (mds.take (k + 1)).flatMap mdT = (l0 ++ (mds.take k).flatMap mdT) ++ mdT mds[k] by rw [mdT_take mds k hlt, List.append_assoc])
     have hlen : nr + 2 * k = (l0 ++ (mds.take k).flatMap mdT).length := by rw [List.length_append, mdT_count, List.length_take, Nat.min_eq_left (by omega), HL0.out]
     generalize l0 ++ (mds.take k).flatMap mdT = l1 at *
     obtain ⟨r, hr⟩ : ∃ r, r = mds[k] := ⟨_, rfl⟩
     rw [← hr] at L0 HT
     obtain ⟨p, d⟩ := r
     clear hr hcl
     have HWR2 := hid (show w.heap.size + 1 ≤ wr.heap.size by have := HWR.out; omega)
     have HOW2 := hid hown
     have HBR2 := hid hbr
     have HL := hid hlen
     clear hown hbr hlen
     go_upto_region 15 with first | (refine wl_ld rt54 L0 (MdL.len _) ?_) | (refine wl_new (xs := (MdL.cells ⟨p, d⟩).toArray) rt54 (by rw [List.size_toArray]; exact MdL.len _) (MdL.one _) ?_; intro W5 hb5 hn5 hs5)
     have HS5 := hid hs5
     have HB5 := hid hb5
     have HN5 := hid (fun (W : World) (hb : Below W5.heap.size W5 W) => (hb.block wr.heap.size (by omega)).trans hn5)
     clear hs5 hb5 hn5
     refine wp_region_wl (fun W => W.heap[wr.heap.size]? = some (.cells (MdL.cells ⟨p, d⟩).toArray 54 (0, 0))) 8 (by kernel_rfl) ?_
     intro Wd hbd
     have hS := HN5.out _ hbd
     refine WL.tp 0 (some 53) (hi := rfl) (.inr hS) ?_
     apply Exists.intro
     refine ⟨fun W => ?_, ?_⟩
     ·go_simp
      try rfl
     try simp only [Act.put, sA, sB, sC]
     refine WL.tp 1 (some 54) (hi := rfl) (.inr hS) ?_
     apply Exists.intro
     refine ⟨fun W => ?_, ?_⟩
     ·go_simp
      try rfl
     try simp only [Act.put, sA, sB, sC]
     refine WL.te 2 (some 55) (hi := rfl) hS ?_
     apply Exists.intro
     refine ⟨fun W hW => ?_, ?_⟩
     ·obtain ⟨e1, -⟩ := MdL.parts0 hW
      go_simp
      try rfl
     try simp only [Act.put, sA, sB, sC]
     refine WL.tp 3 (some 56) (hi := rfl) (.inr hS) ?_
     apply Exists.intro
     refine ⟨fun W => ?_, ?_⟩
     ·go_simp
      try rfl
     try simp only [Act.put, sA, sB, sC]
     refine WL.ld 4 (some 57) rt31 (fun W hW => (MdL.parts0 hW).2) (dgc_len _) (hi := rfl) hS ?_
     try simp only [Act.put, sA, sB, sC]
     refine WL.o 5 (hi := rfl) ?_
     intro K hK
     go_simp
     refine (tsum_any d Wd).mono ?_
     rintro e W6 ⟨rfl, hb6⟩
     have hS6 := (hb6.block _ (lx (hid hS))).trans hS
     refine hK.out _ _ (.inr hS6) ?_
     clear hK K
     try simp only [Act.put, sA, sB, sC]
     refine WL.o 6 (hi := rfl) ?_
     intro K hK
     go_simp
     obtain ⟨W7, hW7, hb7, hn7⟩ := an0 W6 (.cells #[.string (bs p), .string (bs d.1)] 9)
     rw [← hW7.out]
     clear hW7
     have hS7 := (hb7.block _ (lx (hid hS6))).trans hS6
     refine hK.out _ _ (.inr hS7) ?_
     clear hK K
     try simp only [Act.put, sA, sB, sC]
     refine WL.o 7 (hi := rfl) ?_
     intro K hK
     obtain ⟨v8, W8, happ, hown8, hb8, hg8⟩ := app_texts (W := W7) (base := w.heap.size + 1) [p, d.1] (owns_below (owns_below HOW2.out HB5.out (Nat.le_refl _)) (Below.chain hbd (Below.chain hb6 hb7)) (Nat.le_refl _)) hn7 (by have := HWR2.out; have := (Below.chain HB5.out (Below.chain hbd (Below.chain hb6 hb7))).size; omega) (by have := HNR.out; simp; omega) HL.out
     have hS8 := (hg8.block _ (lx (hid hS7)) (fun e => by have := (HOW2.out.lt _ e.symm).2; omega)).trans hS7
     refine wp_app happ ?_
     refine hK.out _ _ (.inr hS8) ?_
     clear hK K
     try simp only [Act.put, sA]
     refine WL.o 8 (hi := rfl) ?_
     intro K hK
     go_simp
     refine hK.out _ _ (.inl (by kernel_rfl)) ?_
     clear hK K
     try simp only [Act.put, sA, sB, sC]
     refine WL.d ?_
     go_wp2_with fail
     refine ⟨⟨k + 1, _, by omega, by go_num, rfl, ?_, HBR2.out.trans ((Below.mono (Below.chain HB5.out (Below.chain hbd (Below.chain hb6 hb7))) hszr).trans (hb8.mono (Nat.le_succ _))), Nat.le_trans hszw (Nat.le_trans (Below.chain HB5.out (Below.chain hbd (Below.chain hb6 hb7))).size hb8.size)⟩, by simp [intOf]; omega⟩
     rw [HT.out]
     exact hown8
    ·obtain rfl : k = mds.length := by omega
     rw [List.take_length] at hown
     have ht0 : l0 ++ mds.flatMap mdT = traceT ⟨key, rds, mds⟩ := by
      rw [← HRT'.out]
      unfold rT traceT
      simp
     rw [ht0] at hown
     have hcnt : nr + 2 * mds.length = (traceT ⟨key, rds, mds⟩).length := by rw [← ht0, List.length_append, mdT_count, HL0.out]
     rw [hcnt] at hown
     have HOW2 := hid (SliceAt.of_owns hown (by rw [← hcnt, ← HNR.out]; unfold maxLen; omega))
     have HBR2 := hid hbr
     clear hown hbr hcnt ht0
     go_wp2_with (go_at_call 54; refine (row_any _ _ _ _ HOW2.out (HP.out.below HBR2.out) (by have := HLB.out; unfold traceB at this; omega)).mono ?_; rintro e W9 ⟨rfl, hb9⟩)
     go_ret2
     exact ⟨rfl, Below.chain HBR2.out hb9⟩
end Go.Proofs.YtlbipokkdiiaiaaGreatDoor
namespace Go.Proofs.YtlbipokkdiiaiaaGreatDoor
open Go.RowKit Go.Proofs.YtlbipokkdiiaiaaGreatDoor.Exec
set_option maxRecDepth 100000
theorem smallT {t : TcL} (h : checkT t = 0) : SmallT t :=
 ⟨fun r hr => Nat.le_trans (may_len ((goodT h).rd r hr).1) (by omega), fun r hr => Nat.le_trans (may_len ((goodT h).ou r hr)) (by omega)⟩
theorem row_app_len (a b : List (List UInt8)) : (rowL (a ++ b)).length = (rowL a).length + (rowL b).length := by rw [rowL_append, List.length_append]
theorem row_one (s : List UInt8) (c k : Nat) (hc : c < 10 ^ (k + 1)) (h : s.length ≤ c) : (rowL [s]).length ≤ c + k + 2 := by
 have h3 := dig_len_le k s.length (by omega)
 rw [row_cons]
 simp only [List.length_append, List.length_cons, show rowL [] = [] from rfl, List.length_nil]
 omega
theorem row_traces : ∀ l : List TcL, (∀ t ∈ l, checkT t = 0) → (rowL (l.map traceB)).length ≤ l.length * 1619008
 | [], _ => by simp [rowL]
 | t :: l, h => by
   have h1 := row_one (traceB t) 1619000 6 (by omega) (traceB_len (goodT (h t (by simp))))
   have h2 := row_traces l fun x hx => h x (by simp [hx])
   rw [List.map_cons, show traceB t :: l.map traceB = [traceB t] ++ l.map traceB from rfl, row_app_len, List.length_cons, Nat.succ_mul]
   omega
theorem itoa_len (n : Nat) (h : n < 100) : (Lib.itoa (n : Int)).length ≤ 2 := by rw [itoa_nat]; exact dig_len_le 1 n (by omega)
theorem hasL_cases {k : Int} (h1 : 1 ≤ k) (h8 : k ≤ 8) : k = 1 ∨ k = 2 ∨ k = 3 ∨ k = 4 ∨ k = 5 ∨ k = 6 ∨ k = 7 ∨ k = 8 := by omega
theorem GoodM.why {m : MsgL} (h : GoodM m) : 0 ≤ m.why ∧ m.why ≤ 19 ∧ ((hasL m.kind).why = false → m.why = 0) := by
 have ha := h.arg
 unfold argB at ha
 simp only [Bool.or_eq_false_iff, Bool.and_eq_false_iff, Bool.not_eq_false', decide_eq_false_iff_not, beq_iff_eq] at ha
 obtain ⟨⟨-, h1⟩, h2⟩ := ha
 cases hw : (hasL m.kind).why
 ·rw [hw] at h1
  simp at h1
  exact ⟨by omega, by omega, fun _ => h1⟩
 ·rw [hw] at h2
  simp at h2
  exact ⟨by omega, by omega, fun h => by simp at h⟩
theorem bodyB_len {m : MsgL} (h : GoodM m) : (bodyB m).length ≤ 13100000 := by
 have h1 : (rowL [Lib.itoa m.kind, numB m.id 8]).length ≤ 20 := by
  obtain ⟨k, hk⟩ : ∃ k : Nat, m.kind = k := ⟨m.kind.toNat, by have := h.k1; omega⟩
  have := h.k8
  have e1 := row_one (Lib.itoa m.kind) 2 1 (by omega) (by rw [hk]; exact itoa_len k (by omega))
  have e2 := row_one (numB m.id 8) 8 0 (by omega) (by rw [numB_len]; omega)
  rw [show [Lib.itoa m.kind, numB m.id 8] = [Lib.itoa m.kind] ++ [numB m.id 8] from rfl, row_app_len]
  omega
 have h2 : (rowL (if (hasL m.kind).sum = true then [m.sum.1] else [])).length ≤ 40 := by
  split
  ·have := row_one m.sum.1 32 1 (by omega) (by rw [m.sum.2]; exact Nat.le_refl _); omega
  ·simp [rowL]
 have h3 : (rowL (if (hasL m.kind).data = true then [m.data] else [])).length ≤ 65550 := by
  split
  ·have := row_one m.data 65536 4 (by omega) h.nd; omega
  ·simp [rowL]
 have h4 := row_traces m.traces h.tr
 have h5 : (rowL (if (hasL m.kind).why = true then [Lib.itoa m.why] else [])).length ≤ 20 := by
  split
  ·obtain ⟨k, hk⟩ : ∃ k : Nat, m.why = k := ⟨m.why.toNat, by have := h.why.1; omega⟩
   have := h.why.2.1
   have e1 := row_one (Lib.itoa m.why) 2 1 (by omega) (by rw [hk]; exact itoa_len k (by omega))
   omega
  ·simp [rowL]
 have h6 := Nat.mul_le_mul_right 1619008 h.nt
 unfold bodyB bodyT
 rw [row_app_len, row_app_len, row_app_len, row_app_len]
 omega
end Go.Proofs.YtlbipokkdiiaiaaGreatDoor
namespace Go.Proofs.YtlbipokkdiiaiaaGreatDoor
open Go.RowKit Go.Proofs.YtlbipokkdiiaiaaGreatDoor.Exec
set_option maxRecDepth 100000
noncomputable def builtInfo (t : TypeId) : Option (Array Value × List (Nat × Nat)) :=
 match Tryz.prog.info? t, Tryz.prog.underlying t with
 | some it, some (.struct fields) =>
   match it.zero, fields.toList.mapM (fun f => (Tryz.prog.info? f.type).map fun i => (f.offset, i.size)) with
   | some z, some places => some (z.cells, places)
   | _, _ => none
 | _, _ => none
theorem built_of {t : TypeId} {Z : Array Value} {pl : List (Nat × Nat)} (h : builtInfo t = some (Z, pl)) (parts : List (Nat × Value)) : Tryz.prog.built t parts = Instr.fill (pl.toArray[·]?) Z parts := by
 unfold builtInfo at h
 unfold Program.built
 cases hi : Tryz.prog.info? t with
 | none => simp [hi] at h
 | some it =>
   cases hu : Tryz.prog.underlying t with
   | none => simp [hi, hu] at h
   | some d =>
     cases d <;> simp only [hi, hu, reduceCtorEq] at h
     rename_i fields
     cases hz : it.zero with
     | none => simp [hz] at h
     | some z =>
       cases hm : fields.toList.mapM (fun f => (Tryz.prog.info? f.type).map fun i => (f.offset, i.size)) with
       | none => simp [hz, hm] at h
       | some places =>
         simp only [hz, hm, Option.some.injEq, Prod.mk.injEq] at h
         obtain ⟨rfl, rfl⟩ := h
         simp only [hz, hm]
theorem splice_fold (A old C xs : List Value) (h : old.length = xs.length) :
  (xs.toArray.zipIdx.foldl (fun cs (x : Value × Nat) => cs.setIfInBounds (A.length + x.2) x.1) (A ++ old ++ C).toArray) = (A ++ xs ++ C).toArray := by
 have hf := Great.foldl_set A.length xs 0 (A ++ old ++ C).toArray
 have e : xs.toArray.zipIdx.foldl (fun cs (x : Value × Nat) => cs.setIfInBounds (A.length + x.2) x.1) (A ++ old ++ C).toArray = (xs.zipIdx 0).foldl (fun cs (x : Value × Nat) => cs.setIfInBounds (A.length + x.2) x.1) (A ++ old ++ C).toArray := by
  rw [← Array.foldl_toList]; simp
 rw [e]
 apply Array.ext_getElem?
 intro k
 rw [hf.2 k]
 simp only [Nat.add_zero, List.size_toArray, List.length_append, List.getElem?_toArray]
 by_cases h1 : A.length ≤ k ∧ k < A.length + xs.length ∧ k < A.length + old.length + C.length
 ·rw [if_pos h1, List.append_assoc, List.getElem?_append_right h1.1, List.getElem?_append_left (by omega)]
 ·rw [if_neg h1]
  rcases Nat.lt_or_ge k A.length with h2 | h2
  ·rw [List.append_assoc, List.append_assoc, List.getElem?_append_left h2, List.getElem?_append_left h2]
  ·rw [List.getElem?_append_right (by rw [List.length_append]; omega), List.getElem?_append_right (by rw [List.length_append]; omega), List.length_append, List.length_append, h]
theorem fill_step {place : Nat → Option (Nat × Nat)} {A old C xs : List Value} {i off size : Nat} {v : Value} {rest : List (Nat × Value)} (hp : place i = some (off, size)) (hv : v.cells = xs.toArray) (hs : xs.length = size) (hA : A.length = off) (ho : old.length = size) :
  Instr.fill place (A ++ old ++ C).toArray ((i, v) :: rest) = Instr.fill place (A ++ xs ++ C).toArray rest := by
 subst hA hs
 have := splice_fold A old C xs ho
 rw [← this]
 conv => lhs; unfold Instr.fill
 simp only [hp, hv, List.size_toArray, List.length_append]
 rw [if_neg (by simp; omega)]
theorem r_build {o : Oper} {a : Act} {w : World} {t : TypeId} {ps : Array (Nat × Operand)} {parts : List (Nat × Value)} {cells : Array Value} (h : Tryz.prog.built t parts = some cells) (ho : o.op = .build t ps) (hp : (ps.map fun (i, x) => (i, a.eval x)) = parts.toArray) :
  (execOp a.eval o).run Tryz.prog w = .ok (.value (.agg cells)) w := by
 have hr := run_build (P := Tryz.prog) w t parts.toArray cells (by simpa using h)
 unfold execOp
 simp only [ho, hp, Sem.run_bind, hr, Result.andThen_ok, Sem.run_pure]
def rowC (d : Dg) (data : List UInt8) (o n : Value) : List Value := dgc d ++ [.string (bs data), o, n]
theorem rowC_len (d : Dg) (data : List UInt8) (o n : Value) : (rowC d data o n).length = 35 := by simp [rowC, dgc_len]
theorem info113 : builtInfo 113 = some ((rowC dg0 [] (.pointer none) (.pointer none)).toArray, [(0, 32), (32, 1), (33, 1), (34, 1)]) := by kernel_rfl
theorem built113 (d : Dg) (data : List UInt8) (p q : Option Addr) : Tryz.prog.built 113 [(0, .agg (dgc d).toArray), (1, .string (bs data)), (2, .pointer p), (3, .pointer q)] = some (rowC d data (.pointer p) (.pointer q)).toArray := by
 rw [built_of info113]
 unfold rowC
 rw [show dgc dg0 ++ [Value.string (bs []), .pointer none, .pointer none] = [] ++ dgc dg0 ++ [Value.string (bs []), .pointer none, .pointer none] by simp,
  fill_step (i := 0) (off := 0) (size := 32) (xs := dgc d) rfl rfl (dgc_len d) rfl (dgc_len dg0),
  show [] ++ dgc d ++ [Value.string (bs []), .pointer none, .pointer none] = dgc d ++ [Value.string (bs [])] ++ [.pointer none, .pointer none] by simp,
  fill_step (i := 1) (off := 32) (size := 1) (xs := [.string (bs data)]) rfl rfl rfl (dgc_len d) rfl,
  show dgc d ++ [Value.string (bs data)] ++ [.pointer none, .pointer none] = (dgc d ++ [Value.string (bs data)]) ++ [.pointer none] ++ [.pointer none] by simp,
  fill_step (i := 2) (off := 33) (size := 1) (xs := [.pointer p]) rfl rfl rfl (by simp [dgc_len]) rfl,
  show (dgc d ++ [Value.string (bs data)]) ++ [.pointer p] ++ [.pointer none] = (dgc d ++ [Value.string (bs data), .pointer p]) ++ [.pointer none] ++ [] by simp,
  fill_step (i := 3) (off := 34) (size := 1) (xs := [.pointer q]) rfl rfl rfl (by simp [dgc_len]) rfl]
 unfold Instr.fill
 simp
end Go.Proofs.YtlbipokkdiiaiaaGreatDoor
namespace Go.Proofs.YtlbipokkdiiaiaaGreatDoor
open Go.RowKit Go.Proofs.YtlbipokkdiiaiaaGreatDoor.Exec
set_option maxRecDepth 100000
structure MsgM where
 kind : Int
 id : Nat
 sum : Dg
 data : List UInt8
 tv : Value
 ts : List TcM
 why : Int
def msgC (k : Int) (i : Nat) (s : Dg) (d : List UInt8) (t : Value) (y : Int) : List Value := [.int .i64 k, .int .u64 i] ++ dgc s ++ [.string (bs d), t, .int .i64 y]
def MsgM.cells (x : MsgM) : List Value := msgC x.kind x.id x.sum x.data x.tv x.why
def MsgM.val (x : MsgM) : Value := .agg x.cells.toArray
def MsgM.l (x : MsgM) : MsgL := ⟨x.kind, x.id, x.sum, x.data, x.ts.map (·.t), x.why⟩
def HeldM (w : World) (x : MsgM) : Prop := RowsOf w 34 TcM.cells x.tv x.ts ∧ ∀ t ∈ x.ts, HeldT w t
def msg0 : MsgM := ⟨0, 0, dg0, [], nilS, [], 0⟩
theorem msgC_len (k : Int) (i : Nat) (s : Dg) (d : List UInt8) (t : Value) (y : Int) : (msgC k i s d t y).length = 37 := by simp [msgC, dgc_len]
theorem MsgM.len (x : MsgM) : x.cells.length = 37 := msgC_len _ _ _ _ _ _
theorem held0 (w : World) : HeldM w msg0 := ⟨⟨rfl, none, 0, rfl, Nat.le_refl _, Nat.zero_le _, fun _ => rfl, fun h => absurd rfl h⟩, by simp [msg0]⟩
theorem HeldM.keep {w w' : World} {x : MsgM} (h : HeldM w x) (hb : Below w.heap.size w w') : HeldM w' x := ⟨h.1.below hb (Nat.le_refl _), fun t ht => (h.2 t ht).keep hb⟩
theorem msgC_one {k : Int} {i : Nat} {s : Dg} {d : List UInt8} {t : Value} {y : Int} (ht : t.oneCell' = true) : ∀ u ∈ msgC k i s d t y, u.oneCell' = true := by
 intro u hu
 simp only [msgC, List.mem_append, List.mem_cons, List.not_mem_nil, or_false] at hu
 rcases hu with ((rfl | rfl) | hu) | rfl | rfl | rfl
 ·rfl
 ·rfl
 ·exact dgc_one _ u hu
 ·rfl
 ·exact ht
 ·rfl
theorem HeldM.one {w : World} {x : MsgM} (h : HeldM w x) : ∀ u ∈ x.cells, u.oneCell' = true := msgC_one (rows_one h.1)
theorem MsgM.parts {w : World} {b : Nat} {k : Int} {i : Nat} {s : Dg} {d : List UInt8} {t : Value} {y : Int} {ty : TypeId} {fr : Nat × Nat} (h : w.heap[b]? = some (.cells (msgC k i s d t y).toArray ty fr)) :
  w.cell? ⟨b, 0, none⟩ = some (.int .i64 k) ∧ w.cell? ⟨b, 1, none⟩ = some (.int .u64 i) ∧ w.rangeAt b 2 (dgc s) ∧ w.cell? ⟨b, 34, none⟩ = some (.string (bs d)) ∧ w.cell? ⟨b, 35, none⟩ = some t ∧ w.cell? ⟨b, 36, none⟩ = some (.int .i64 y) := by
 have h0 := range_of_heap h
 unfold msgC at h0
 rw [List.append_assoc] at h0
 obtain ⟨h1, h2⟩ := range_app h0
 obtain ⟨h3, h4⟩ := range_cons h1
 obtain ⟨h5, h6⟩ := range_app h2
 rw [dgc_len] at h6
 obtain ⟨h7, h8⟩ := range_cons h6
 obtain ⟨h9, h10⟩ := range_cons h8
 exact ⟨h3, by simpa using (range_cons h4).1, by simpa using h5, by simpa using h7, by simpa using h9, by simpa using (range_cons h10).1⟩
theorem info34 : builtInfo 34 = some ((msgC 0 0 dg0 [] nilS 0).toArray, [(0, 1), (1, 1), (2, 32), (34, 1), (35, 1), (36, 1)]) := by kernel_rfl
section
variable {k : Int} {i : Nat} {s : Dg} {d : List UInt8} {t : Value} {y : Int} {r : List (Nat × Value)}
abbrev plc34 : Nat → Option (Nat × Nat) := fun x => (#[(0, 1), (1, 1), (2, 32), (34, 1), (35, 1), (36, 1)] : Array (Nat × Nat))[x]?
theorem fill0 (k' : Int) : Instr.fill plc34 (msgC k i s d t y).toArray ((0, .int .i64 k') :: r) = Instr.fill plc34 (msgC k' i s d t y).toArray r := by
 have h1 : msgC k i s d t y = [] ++ [Value.int .i64 k] ++ ([.int .u64 i] ++ dgc s ++ [.string (bs d), t, .int .i64 y]) := by simp [msgC]
 have h2 : msgC k' i s d t y = [] ++ [Value.int .i64 k'] ++ ([.int .u64 i] ++ dgc s ++ [.string (bs d), t, .int .i64 y]) := by simp [msgC]
 rw [h1, h2]
 exact fill_step (off := 0) (size := 1) rfl rfl rfl rfl rfl
theorem fill2 (s' : Dg) : Instr.fill plc34 (msgC k i s d t y).toArray ((2, .agg (dgc s').toArray) :: r) = Instr.fill plc34 (msgC k i s' d t y).toArray r := by
 exact fill_step (A := [.int .i64 k, .int .u64 i]) (off := 2) (size := 32) rfl rfl (dgc_len s') rfl (dgc_len s)
theorem fill3 (d' : List UInt8) : Instr.fill plc34 (msgC k i s d t y).toArray ((3, .string (bs d')) :: r) = Instr.fill plc34 (msgC k i s d' t y).toArray r := by
 have h1 : ∀ d, msgC k i s d t y = ([.int .i64 k, .int .u64 i] ++ dgc s) ++ [Value.string (bs d)] ++ [t, .int .i64 y] := fun d => by simp [msgC]
 rw [h1, h1]
 exact fill_step (off := 34) (size := 1) rfl rfl rfl (by simp [dgc_len]) rfl
theorem fill4 (a : Option Addr) (n c : Nat) : Instr.fill plc34 (msgC k i s d t y).toArray ((4, .slice a n c) :: r) = Instr.fill plc34 (msgC k i s d (.slice a n c) y).toArray r := by
 have h1 : ∀ t, msgC k i s d t y = ([.int .i64 k, .int .u64 i] ++ dgc s ++ [Value.string (bs d)]) ++ [t] ++ [.int .i64 y] := fun t => by simp [msgC]
 rw [h1, h1]
 exact fill_step (off := 35) (size := 1) rfl rfl rfl (by simp [dgc_len]) rfl
theorem fill5 (y' : Int) : Instr.fill plc34 (msgC k i s d t y).toArray ((5, .int .i64 y') :: r) = Instr.fill plc34 (msgC k i s d t y').toArray r := by
 have h1 : ∀ y, msgC k i s d t y = ([.int .i64 k, .int .u64 i] ++ dgc s ++ [Value.string (bs d), t]) ++ [.int .i64 y] ++ [] := fun y => by simp [msgC]
 rw [h1, h1]
 exact fill_step (off := 36) (size := 1) rfl rfl rfl (by simp [dgc_len]) rfl
end
theorem built34 (parts : List (Nat × Value)) : Tryz.prog.built 34 parts = Instr.fill plc34 (msgC 0 0 dg0 [] nilS 0).toArray parts := built_of info34 parts
theorem built_done : Tryz.prog.built 34 [] = some (msgC 0 0 dg0 [] nilS 0).toArray := by rw [built34]; rfl
theorem built_kind (k : Int) : Tryz.prog.built 34 [(0, .int .i64 k)] = some (msgC k 0 dg0 [] nilS 0).toArray := by rw [built34, fill0]; rfl
theorem built_why (k y : Int) : Tryz.prog.built 34 [(0, .int .i64 k), (5, .int .i64 y)] = some (msgC k 0 dg0 [] nilS y).toArray := by rw [built34, fill0, fill5]; rfl
theorem built_blob (k : Int) (s : Dg) (d : List UInt8) : Tryz.prog.built 34 [(0, .int .i64 k), (2, .agg (dgc s).toArray), (3, .string (bs d))] = some (msgC k 0 s d nilS 0).toArray := by rw [built34, fill0, fill2, fill3]; rfl
theorem built_traces (k : Int) (a : Option Addr) (n c : Nat) : Tryz.prog.built 34 [(0, .int .i64 k), (4, .slice a n c)] = some (msgC k 0 dg0 [] (.slice a n c) 0).toArray := by rw [built34, fill0, fill4]; rfl
theorem br2 {ty : TypeId} {d : TypeDesc} (hu : Tryz.prog.underlying ty = some d) {fn : Func} {p u : Tmp} {R : Ending → World → Prop} {a : Act} {w : World} (g : Nat) {t : TypeId} {cs : Array Value} {fr : Nat × Nat} (hg : w.heap[g]? = some (.cells cs t fr)) (hR : R (.returned (.tuple #[.agg cs, a.tmps.getD u undef])) w) (h : fn.results = #[.cell p ty, .tmp u] := by rfl) (hp : a.tmps.getD p undef = .pointer (some ⟨g, 0, none⟩) := by rfl)
  (hd : (match d with | .struct _ | .array _ _ => true | _ => false) = true := by rfl) (hi : (Tryz.prog.info? ty).map (·.size) = some cs.size := by kernel_rfl) (hf : a.defers = [] := by rfl) : bodyPost Tryz.prog fn R .ret a w := by
 refine bodyPost_ret (v := .tuple #[.agg cs, a.tmps.getD u undef]) ?_ hf hR
 have hp' : a.tmps[p]?.getD undef = .pointer (some ⟨g, 0, none⟩) := by simpa using hp
 cases d <;> simp at hd <;> simp [results, h, hp', asAddr, run_loadVar_row w g t ty cs fr _ hg hu rfl hi]
end Go.Proofs.YtlbipokkdiiaiaaGreatDoor
namespace Go.Proofs.YtlbipokkdiiaiaaGreatDoor
open Go.RowKit Go.Proofs.YtlbipokkdiiaiaaGreatDoor.Exec
set_option maxRecDepth 100000
def hasC (h : HasL) : List Value := [.bool h.sum, .bool h.data, .bool h.why, .int .i64 h.least, .int .i64 h.traces]
def tableC : List Value := tableL.flatMap hasC
theorem rt175 : RowTy 175 5 := ⟨_, Tryz.underlying175, rfl, by kernel_rfl⟩
theorem rt176 : RowTy 176 45 := ⟨_, Tryz.underlying176, rfl, by kernel_rfl⟩
theorem table_one : ∀ u ∈ tableC.toArray.toList, u.oneCell' = true := by
 intro u hu
 have h : tableC.all (·.oneCell') = true := rfl
 exact List.all_eq_true.1 h u hu
set_option maxHeartbeats 2000000 in
theorem table_any (w : World) : Calls Tryz.prog 78 #[] w fun e w' => e = .returned (.agg tableC.toArray) ∧ Below w.heap.size w w' := by
 go_enter Tryz.func78, Tryz.ntmps78
 go_wp2_with first | (refine wl_al rt176 ?_; intro zs W1 hzs hb1 hn1 hs1) | (refine wl_st (xs := tableC.toArray) rt176 hn1 hzs rfl table_one ?_; intro W2 ht2 hn2 hs2)
 exact br w.heap.size hn2 ⟨rfl, hb1.trans (ht2.below (Nat.le_refl _))⟩ (hu := Tryz.underlying176)
theorem table_at (k : Nat) (hk : k ≤ 8) : ((tableC.drop (k * 5)).take 5) = hasC (hasL k) := by
 have : ∀ k : Fin 9, ((tableC.drop (k.1 * 5)).take 5) = hasC (hasL (k.1 : Int)) := by
  intro k
  match k with
  | 0 => rfl
  | 1 => rfl
  | 2 => rfl
  | 3 => rfl
  | 4 => rfl
  | 5 => rfl
  | 6 => rfl
  | 7 => rfl
  | 8 => rfl
 exact this ⟨k, by omega⟩
end Go.Proofs.YtlbipokkdiiaiaaGreatDoor
