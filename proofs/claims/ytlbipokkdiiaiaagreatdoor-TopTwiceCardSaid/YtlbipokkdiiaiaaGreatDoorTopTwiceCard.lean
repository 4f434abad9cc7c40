/- PROVED: for every input bloomerytop.TopTwice answers true, and each argument reads afterwards as before. Under the row's own condition: the listed tables and the two errors of strconv, and the tables of math/bits, hold what their initialisers lay; the card ties that to the program's text. -/
import Derived.Test.YtlbipokkdiiaiaaGreatDoorU44
import Derived.Test.YtlbipokkdiiaiaaGreatDoorU43
import Derived.Test.YtlbipokkdiiaiaaGreatDoorU45
import Derived.Stop.LaidErr
namespace Go.Proofs.YtlbipokkdiiaiaaGreatDoor.topTwice
open Go.ChangeShapes Go.WideShapes Go.ChangeAt Go.RowKit
set_option maxRecDepth 100000
theorem gTab : Tryz.prog.globalNamed "internal/strconv.uint64pow10" = some 1 := by kernel_rfl
theorem powTab {W : World} (h : laidMetH Tryz.prog Rows.topTwiceRow.laid W) : PowTab W := by
 have h0 : laidMet Tryz.prog Rows.topTwiceRow.laid W := h
 exact Lib.tabIs_of_head (rest := [("unicode/utf8.acceptRanges", Rows.laid_unicode_utf8_acceptRanges), ("strconv.ErrRange", Rows.laid_strconv_ErrRange), ("strconv.ErrSyntax", Rows.laid_strconv_ErrSyntax), ("unicode/utf8.first", Rows.laid_unicode_utf8_first)]) gTab (by kernel_rfl) Tryz.underlying390 Tryz.underlying29 (by kernel_rfl) (by kernel_rfl) (laidMet_tail (laidMet_tail h0))
theorem gRng : Tryz.prog.globalNamed "strconv.ErrRange" = some 5 := by kernel_rfl
theorem gRngT : (Tryz.prog.globals[5]?).map (·.type) = some 217 := by kernel_rfl
theorem gSyn : Tryz.prog.globalNamed "strconv.ErrSyntax" = some 4 := by kernel_rfl
theorem gSynT : (Tryz.prog.globals[4]?).map (·.type) = some 217 := by kernel_rfl
theorem cellsE : Tryz.prog.cellsOf 443 = 1 := by kernel_rfl
theorem cellsS : Tryz.prog.cellsOf 9 = 1 := by kernel_rfl
theorem star : "*" ++ "errors.errorString" = "*errors.errorString" := by decide
theorem errRow (u : TypeId) (h : Tryz.prog.typeName? 3 u = some "*errors.errorString") : u = 441 :=
 typeName_ptr_named (nm := "errors.errorString") (by rw [star]; kernel_rfl) (by kernel_rfl) (by decide) u (by rw [star]; exact h)
theorem errsAt {W : World} (h : laidMetH Tryz.prog Rows.topTwiceRow.laid W) : ErrsAt W := by
 have h0 : laidMet Tryz.prog Rows.topTwiceRow.laid W := h
 have h3 := laidMet_tail (laidMet_tail (laidMet_tail (laidMet_tail h0)))
 obtain ⟨a1, s1, hv1, -⟩ := laid_sentinel h3 gRng gRngT Tryz.underlying217 errRow Tryz.underlying441 Tryz.underlying443 rfl rfl Tryz.underlying9 cellsE cellsS
 obtain ⟨a2, s2, hv2, -⟩ := laid_sentinel (laidMet_tail h3) gSyn gSynT Tryz.underlying217 errRow Tryz.underlying441 Tryz.underlying443 rfl rfl Tryz.underlying9 cellsE cellsS
 exact ⟨⟨_, _, hv2⟩, _, _, hv1⟩
theorem contract (H : Type) (enc : TypeId × Value → H) (W : World) (base : Nat) (args : Array Value) (ds gs : List (DataW H)) (before : List MemPlace)
  (hval : ∀ (j : Nat) t v, Tryz.f4.params[j]? = some t → args[j]? = some v → Value.okWide Tryz.prog W .any base t v)
  (hW : DataW.Whole enc Tryz.prog Tryz.f4.params.toList Rows.topTwiceSpec.vars false W args.toList ds gs before)
  (hsz : (DataW.weightsEach Tryz.prog (Tryz.f4.params.toList ++ Rows.topTwiceSpec.plain.varTypes Tryz.prog) (ds ++ gs)).all (· ≤ reachBytes) = true)
  (hL : laidMetH Tryz.prog Rows.topTwiceRow.laid W) :
  Calls Tryz.prog 4 args W fun e W' => ∃ v, e = .returned v ∧ Rows.topTwiceSpec.post enc Tryz.prog Tryz.f4 false true false false W args v W' := by
 have hW' := hW
 obtain ⟨p, q, hA0, hV, rfl, -, -⟩ := hW
 have hA : DataW.TrodAll enc Tryz.prog W 0 (fun _ => true) true Tryz.f4.params.toList args.toList ds p := hA0
 rw [Tryz.params4] at hA hval hsz
 obtain ⟨rfl, rfl⟩ := trodVars_none hV
 obtain ⟨v0, vs0, d0, ds0, p0, q0, hargs, rfl, rfl, h0, r0⟩ := trodAll_cons hA
 obtain ⟨v1, vs1, d1, ds1, p1, q1, rfl, rfl, rfl, h1, r1⟩ := trodAll_cons r0
 obtain ⟨rfl, rfl, rfl⟩ := trodAll_nil r1
 obtain rfl : args = #[v0, v1] := by cases args; simp_all
 obtain ⟨t0, rfl, ht0, hm0⟩ := arg_trace (hval 0 44 v0 rfl rfl) h0 (weights_le hsz (j := 0) rfl rfl)
 obtain ⟨ss1, hs1, hb1, hl1⟩ := arg_strings (hval 1 46 v1 rfl rfl) h1 (weights_le hsz (j := 1) rfl rfl)
 have ht := powTab hL
 have he := errsAt hL
 refine (law_twice t0 v1 ss1 W ht0 hm0 hs1 (fun s hs => by have := hb1 s hs; simp only [reachBytes] at this; omega) ht he).mono fun e W' ⟨he, hb⟩ => ?_
 subst he
 exact ⟨_, rfl, law_post rfl rfl (by kernel_rfl) hW' ⟨rfl, rfl, rfl⟩ hb⟩
def wit : Array Value := #[Value.agg (List.replicate 32 (Value.int .u8 0) ++ [Value.slice none 0 0, Value.slice none 0 0]).toArray, .slice none 0 0]
def witD {H : Type} : List (DataW H) := [.agg [.agg (List.replicate 32 (.lit (.int .u8 0))), .nil, .nil], .nil]
noncomputable def low : Nat := (World.holding Tryz.prog default ⟨#[], #[], []⟩).heap.size
noncomputable def laidWorld (os : Os) : World :=
 { World.holding Tryz.prog os ⟨#[.cells #[.string ⟨#[118, 97, 108, 117, 101, 32, 111, 117, 116, 32, 111, 102, 32, 114, 97, 110, 103, 101]⟩] 443, .cells #[.string ⟨#[105, 110, 118, 97, 108, 105, 100, 32, 115, 121, 110, 116, 97, 120]⟩] 443], #[], []⟩ with heap := (((((((((World.holding Tryz.prog os ⟨#[.cells #[.string ⟨#[118, 97, 108, 117, 101, 32, 111, 117, 116, 32, 111, 102, 32, 114, 97, 110, 103, 101]⟩] 443, .cells #[.string ⟨#[105, 110, 118, 97, 108, 105, 100, 32, 115, 121, 110, 116, 97, 120]⟩] 443], #[], []⟩).heap.modify 6 fun | .cells _ t fr => .cells #[.int .u8 0, .int .u8 1, .int .u8 28, .int .u8 2, .int .u8 29, .int .u8 14, .int .u8 24, .int .u8 3, .int .u8 30, .int .u8 22, .int .u8 20, .int .u8 15, .int .u8 25, .int .u8 17, .int .u8 4, .int .u8 8, .int .u8 31, .int .u8 27, .int .u8 13, .int .u8 23, .int .u8 21, .int .u8 19, .int .u8 16, .int .u8 7, .int .u8 26, .int .u8 12, .int .u8 18, .int .u8 6, .int .u8 11, .int .u8 5, .int .u8 10, .int .u8 9] t fr | o => o).modify 7 fun | .cells _ t fr => .cells #[.int .u8 0, .int .u8 1, .int .u8 56, .int .u8 2, .int .u8 57, .int .u8 49, .int .u8 28, .int .u8 3, .int .u8 61, .int .u8 58, .int .u8 42, .int .u8 50, .int .u8 38, .int .u8 29, .int .u8 17, .int .u8 4, .int .u8 62, .int .u8 47, .int .u8 59, .int .u8 36, .int .u8 45, .int .u8 43, .int .u8 51, .int .u8 22, .int .u8 53, .int .u8 39, .int .u8 33, .int .u8 30, .int .u8 24, .int .u8 18, .int .u8 12, .int .u8 5, .int .u8 63, .int .u8 55, .int .u8 48, .int .u8 27, .int .u8 60, .int .u8 41, .int .u8 37, .int .u8 16, .int .u8 46, .int .u8 35, .int .u8 44, .int .u8 21, .int .u8 52, .int .u8 32, .int .u8 23, .int .u8 11, .int .u8 54, .int .u8 26, .int .u8 40, .int .u8 15, .int .u8 34, .int .u8 20, .int .u8 31, .int .u8 10, .int .u8 25, .int .u8 14, .int .u8 19, .int .u8 9, .int .u8 13, .int .u8 8, .int .u8 7, .int .u8 6] t fr | o => o).modify 1 fun | .cells _ t fr => .cells #[.int .u64 1, .int .u64 10, .int .u64 100, .int .u64 1000, .int .u64 10000, .int .u64 100000, .int .u64 1000000, .int .u64 10000000, .int .u64 100000000, .int .u64 1000000000, .int .u64 10000000000, .int .u64 100000000000, .int .u64 1000000000000, .int .u64 10000000000000, .int .u64 100000000000000, .int .u64 1000000000000000, .int .u64 10000000000000000, .int .u64 100000000000000000, .int .u64 1000000000000000000, .int .u64 10000000000000000000] t fr | o => o)).modify 5 fun | .cells _ t fr => .cells #[.iface 441 (.pointer (some ⟨low, 0, none⟩))] t fr | o => o).modify 4 fun | .cells _ t fr => .cells #[.iface 441 (.pointer (some ⟨low + 1, 0, none⟩))] t fr | o => o).modify 3 fun | .cells _ t fr => .cells #[.int .u8 128, .int .u8 191, .int .u8 160, .int .u8 191, .int .u8 128, .int .u8 159, .int .u8 144, .int .u8 191, .int .u8 128, .int .u8 143, .int .u8 0, .int .u8 0, .int .u8 0, .int .u8 0, .int .u8 0, .int .u8 0, .int .u8 0, .int .u8 0, .int .u8 0, .int .u8 0, .int .u8 0, .int .u8 0, .int .u8 0, .int .u8 0, .int .u8 0, .int .u8 0, .int .u8 0, .int .u8 0, .int .u8 0, .int .u8 0, .int .u8 0, .int .u8 0] t fr | o => o).modify 2 fun | .cells _ t fr => .cells (Go.Pinned.utf8FirstZ.map fun (n : Nat) => Value.int .u8 (Int.ofNat n)).toArray t fr | o => o) }
theorem laid_met (os : Os) : laidMet Tryz.prog Rows.topTwiceRow.laid ((laidWorld os).forCall (fun _ _ => 0) ⟨#[], wit, []⟩).memory :=
 laidMet_of_run' 30 (by kernel_rfl) (by kernel_rfl)
theorem reads (os : Os) {H : Type} (enc : TypeId × Value → H) : ∃ places, DataW.whole enc Tryz.prog ((laidWorld os).forCall (fun _ _ => 0) ⟨#[], wit, []⟩).memory Tryz.f4.params.toList Rows.topTwiceSpec.vars false wit.toList 8 = some (witD, [], places) :=
 ⟨[], by kernel_rfl⟩
theorem lifted (os : Os) (started : os.Started) (H : Type) (enc : TypeId × Value → H) (F : Stop.Interp) :
  ReturnsInHanded {} Tryz.checked os 4 .any ((OpenSpec.ofChange Rows.topTwiceSpec).preRow enc Tryz.prog Tryz.f4 Rows.topTwiceRow.domain false Rows.topTwiceRow.laid) (((OpenSpec.ofChange Rows.topTwiceSpec).at F).post enc Tryz.prog Tryz.f4 false true false false) := by
 obtain ⟨places, hx⟩ := reads os enc
 refine returnsInHanded_of_row (C := Tryz.checked) (s := OpenSpec.ofChange Rows.topTwiceSpec) own started (by kernel_rfl) Tryz.func4
  (witness_row_at (enc := enc) (C := Tryz.checked) false (laidWorld os) wit rfl (by kernel_rfl) (by kernel_rfl) (by kernel_rfl)
   (OpenSpec.preRow_of_cond 8 hx (by kernel_rfl) (fun k hk => by cases hk) (by kernel_rfl) (laid_met os))) ?_
 intro W base args ds gs before hval hW _ _ hsz hL _ _
 exact contract H enc W base args ds gs before hval hW hsz hL
theorem said : Rows.TopTwiceSaid :=
 OpenClaim.holds_of_cond 4 Tryz.f4 rfl rfl rfl rfl rfl rfl rfl ⟨rfl, rfl, rfl, rfl, rfl⟩ rfl rfl rfl rfl rfl named4 Tryz.func4 closed
  (of_decide_eq_true (by kernel_rfl)) (by unfold Func.isWrapper; rw [if_neg (of_decide_eq_false (by kernel_rfl))]; exact ⟨rfl, rfl⟩)
  (fun os started H enc _ F => by rw [OpenClaim.pre_eq_preRow]; exact lifted os started H enc F)
theorem card : Rows.TopTwiceCardSaid :=
 Claim7.holds_tied_plain_at .later [] _ _ _ _ said (fun _ h => by cases h) byText (fun _ h => by cases h) topTwice_row_tie rfl ⟨rfl, rfl⟩ (by kernel_rfl) rfl (plain_of (n := 4) named4 Tryz.func4 looks0 noStand) goes0
end Go.Proofs.YtlbipokkdiiaiaaGreatDoor.topTwice
