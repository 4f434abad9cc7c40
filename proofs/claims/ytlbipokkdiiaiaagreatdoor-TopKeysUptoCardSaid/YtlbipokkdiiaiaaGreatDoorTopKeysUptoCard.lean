/- PROVED: for every input of bulk at most 1048576 bloomerytop.TopKeys answers true, and each argument reads afterwards as before. Under the row's own condition: the listed tables hold what their initialisers lay; the card ties that to the program's text. -/
import Derived.Test.YtlbipokkdiiaiaaGreatDoorK25
import Derived.Test.YtlbipokkdiiaiaaGreatDoorK34
import Derived.Test.YtlbipokkdiiaiaaGreatDoorK35
namespace Go.Proofs.YtlbipokkdiiaiaaGreatDoor.topKeys
open Go.ChangeShapes Go.WideShapes Go.ChangeAt Go.RowKit
set_option maxRecDepth 100000
theorem gTab:Tryz.prog.globalNamed "internal/strconv.uint64pow10"=some 1:=by kernel_rfl
theorem powTab {W:World} (h:laidMetH Tryz.prog Rows.topKeysUptoRow.laid W):eG W:=by
 have h0:laidMet Tryz.prog Rows.topKeysUptoRow.laid W:=h
 exact Lib.tabIs_of_head (rest:=[("unicode/utf8.acceptRanges",Rows.laid_unicode_utf8_acceptRanges),("unicode/utf8.first",Rows.laid_unicode_utf8_first)]) gTab (by kernel_rfl) Tryz.underlying390 Tryz.underlying29 (by kernel_rfl) (by kernel_rfl) (kX (kX h0))
theorem maxAt {W:World} (h:W.ShapedOpen Tryz.prog):bE W:=
 Go.Proofs.cell_of_shapedOpen_int (zero:=#[.int .i64 0]) (t:=3) h (of_decide_eq_true (by kernel_rfl)) (by kernel_rfl) rfl (by kernel_rfl) (by kernel_rfl) Tryz.underlying3
theorem contract (H:Type) (enc:TypeId×Value→H) (W:World) (base:Nat) (args:Array Value) (ds gs:List (DataW H)) (before:List MemPlace)
 (hval:∀(j:Nat) t v,Tryz.f5.params[j]?=some t→args[j]?=some v→Value.okWide Tryz.prog W .any base t v)
 (hW:DataW.Whole enc Tryz.prog Tryz.f5.params.toList Rows.topKeysSpec.vars false W args.toList ds gs before)
 (hsz:(DataW.weightsEach Tryz.prog (Tryz.f5.params.toList++Rows.topKeysSpec.plain.varTypes Tryz.prog) (ds++gs)).all (·≤reachBytes)=true)
 (hcond:∀k,(Rows.OpenSpec.upto Rows.topKeysSpec).cond=some k→k H (ds++gs)=true)
 (hL:laidMetH Tryz.prog Rows.topKeysUptoRow.laid W) (hm:bE W):
 Calls Tryz.prog 5 args W fun e W'=>∃v,e=.returned v∧Rows.topKeysSpec.post enc Tryz.prog Tryz.f5 false true false false W args v W':=by
 have hW':=hW
 obtain⟨p,q,hA0,hV,rfl, -, -⟩:=hW
 have hA:DataW.TrodAll enc Tryz.prog W 0 (fun _=>true) true Tryz.f5.params.toList args.toList ds p:=hA0
 rw[Tryz.params5] at hA hval hsz
 obtain⟨rfl,rfl⟩:=trodVars_none hV
 obtain⟨v0,vs0,d0,ds0,p0,q0,hargs,rfl,rfl,h0,r0⟩:=trodAll_cons hA
 obtain⟨v1,vs1,d1,ds1,p1,q1,rfl,rfl,rfl,h1,r1⟩:=trodAll_cons r0
 obtain⟨v2,vs2,d2,ds2,p2,q2,rfl,rfl,rfl,h2,r2⟩:=trodAll_cons r1
 obtain⟨rfl,rfl,rfl⟩:=trodAll_nil r2
 obtain rfl:args=#[v0,v1,v2]:=by cases args;simp_all
 have hc:Rows.uptoBulkAll ([d0,d1,d2]++[])≤1048576:=of_decide_eq_true (hcond _ rfl)
 have k0:Rows.uptoBulk d0≤1048576:=Nat.le_trans (gO (by simp)) hc
 have k1:Rows.uptoBulk d1≤1048576:=Nat.le_trans (gO (by simp)) hc
 have k2:Rows.uptoBulk d2≤1048576:=Nat.le_trans (gO (by simp)) hc
 obtain⟨x,rfl,hx,hs,ht⟩:=wI (by omega) (hval 0 72 v0 rfl rfl) h0 k0
 obtain⟨y,rfl,hy,gs,gt⟩:=wI (by omega) (hval 1 72 v1 rfl rfl) h1 k1
 obtain⟨fs,hf,hfl,hl⟩:=zf (hval 2 48 v2 rfl rfl) h2 k2
 refine(za8 x y fs v2 W ⟨hx,hs,by omega⟩ ⟨hy,gs,by omega⟩ hf (by omega) (fun f hf=>by have:=hfl f hf;omega) hm (powTab hL) (fun W=>uW W)).mono fun e W' ⟨he,hb⟩=>?_
 subst he
 exact⟨_,rfl,zaP rfl rfl (by kernel_rfl) hW' ⟨rfl,rfl,rfl⟩ hb⟩
def wit:Array Value:=#[.agg #[.string ⟨#[]⟩,.string ⟨#[]⟩,.string ⟨#[]⟩,.slice none 0 0,.slice none 0 0,.slice none 0 0,.slice none 0 0],.agg #[.string ⟨#[]⟩,.string ⟨#[]⟩,.string ⟨#[]⟩,.slice none 0 0,.slice none 0 0,.slice none 0 0,.slice none 0 0],.slice none 0 0]
def witD {H:Type}:List (DataW H):=[.agg [.agg [.lit (.string []),.lit (.string [])],.lit (.string []),.nil,.nil,.nil,.nil],.agg [.agg [.lit (.string []),.lit (.string [])],.lit (.string []),.nil,.nil,.nil,.nil],.nil]
noncomputable def laidWorld (os:Os):World:=
 {World.holding Tryz.prog os ⟨#[],#[],[]⟩ with heap:=(((((((World.holding Tryz.prog os ⟨#[],#[],[]⟩).heap.modify 6 fun|.cells _ t fr=>.cells #[.int .u8 0,.int .u8 1,.int .u8 28,.int .u8 2,.int .u8 29,.int .u8 14,.int .u8 24,.int .u8 3,.int .u8 30,.int .u8 22,.int .u8 20,.int .u8 15,.int .u8 25,.int .u8 17,.int .u8 4,.int .u8 8,.int .u8 31,.int .u8 27,.int .u8 13,.int .u8 23,.int .u8 21,.int .u8 19,.int .u8 16,.int .u8 7,.int .u8 26,.int .u8 12,.int .u8 18,.int .u8 6,.int .u8 11,.int .u8 5,.int .u8 10,.int .u8 9] t fr|o=>o).modify 7 fun|.cells _ t fr=>.cells #[.int .u8 0,.int .u8 1,.int .u8 56,.int .u8 2,.int .u8 57,.int .u8 49,.int .u8 28,.int .u8 3,.int .u8 61,.int .u8 58,.int .u8 42,.int .u8 50,.int .u8 38,.int .u8 29,.int .u8 17,.int .u8 4,.int .u8 62,.int .u8 47,.int .u8 59,.int .u8 36,.int .u8 45,.int .u8 43,.int .u8 51,.int .u8 22,.int .u8 53,.int .u8 39,.int .u8 33,.int .u8 30,.int .u8 24,.int .u8 18,.int .u8 12,.int .u8 5,.int .u8 63,.int .u8 55,.int .u8 48,.int .u8 27,.int .u8 60,.int .u8 41,.int .u8 37,.int .u8 16,.int .u8 46,.int .u8 35,.int .u8 44,.int .u8 21,.int .u8 52,.int .u8 32,.int .u8 23,.int .u8 11,.int .u8 54,.int .u8 26,.int .u8 40,.int .u8 15,.int .u8 34,.int .u8 20,.int .u8 31,.int .u8 10,.int .u8 25,.int .u8 14,.int .u8 19,.int .u8 9,.int .u8 13,.int .u8 8,.int .u8 7,.int .u8 6] t fr|o=>o).modify 1 fun|.cells _ t fr=>.cells #[.int .u64 1,.int .u64 10,.int .u64 100,.int .u64 1000,.int .u64 10000,.int .u64 100000,.int .u64 1000000,.int .u64 10000000,.int .u64 100000000,.int .u64 1000000000,.int .u64 10000000000,.int .u64 100000000000,.int .u64 1000000000000,.int .u64 10000000000000,.int .u64 100000000000000,.int .u64 1000000000000000,.int .u64 10000000000000000,.int .u64 100000000000000000,.int .u64 1000000000000000000,.int .u64 10000000000000000000] t fr|o=>o)).modify 3 fun|.cells _ t fr=>.cells #[.int .u8 128,.int .u8 191,.int .u8 160,.int .u8 191,.int .u8 128,.int .u8 159,.int .u8 144,.int .u8 191,.int .u8 128,.int .u8 143,.int .u8 0,.int .u8 0,.int .u8 0,.int .u8 0,.int .u8 0,.int .u8 0,.int .u8 0,.int .u8 0,.int .u8 0,.int .u8 0,.int .u8 0,.int .u8 0,.int .u8 0,.int .u8 0,.int .u8 0,.int .u8 0,.int .u8 0,.int .u8 0,.int .u8 0,.int .u8 0,.int .u8 0,.int .u8 0] t fr|o=>o).modify 2 fun|.cells _ t fr=>.cells (Go.Pinned.utf8FirstZ.map fun(n:Nat)=>Value.int .u8 (Int.ofNat n)).toArray t fr|o=>o)}
theorem laid_met (os:Os):laidMet Tryz.prog Rows.topKeysUptoRow.laid ((laidWorld os).forCall (fun _ _=>0) ⟨#[],wit,[]⟩).memory:=
 laidMet_of_run' 30 (by kernel_rfl) (by kernel_rfl)
theorem reads (os:Os) {H:Type} (enc:TypeId×Value→H):∃places,DataW.whole enc Tryz.prog ((laidWorld os).forCall (fun _ _=>0) ⟨#[],wit,[]⟩).memory Tryz.f5.params.toList Rows.topKeysSpec.vars false wit.toList 8=some (witD,[],places):=
 ⟨[],by kernel_rfl⟩
theorem lifted (os:Os) (started:os.Started) (H:Type) (enc:TypeId×Value→H) (F:Stop.Interp):
 ReturnsInHanded {} Tryz.checked os 5 .any ((Rows.OpenSpec.upto Rows.topKeysSpec).preRow enc Tryz.prog Tryz.f5 Rows.topKeysUptoRow.domain false Rows.topKeysUptoRow.laid) (((Rows.OpenSpec.upto Rows.topKeysSpec).at F).post enc Tryz.prog Tryz.f5 false true false false):=by
 obtain⟨places,hx⟩:=reads os enc
 refine returnsInHanded_of_row (C:=Tryz.checked) (s:=Rows.OpenSpec.upto Rows.topKeysSpec) own started (by kernel_rfl) Tryz.func5
  (witness_row_at (enc:=enc) (C:=Tryz.checked) false (laidWorld os) wit rfl (by kernel_rfl) (by kernel_rfl) (by kernel_rfl)
   (OpenSpec.preRow_of_cond 8 hx (by kernel_rfl) (fun k hk=>by cases hk;simp[Rows.uptoSmall,Rows.uptoBulkAll,Rows.uptoBulk,witD]) (by kernel_rfl) (laid_met os))) ?_
 intro W base args ds gs before hval hW _ hcond hsz hL hsh _
 exact contract H enc W base args ds gs before hval hW hsz hcond hL (maxAt hsh)
theorem said:Rows.TopKeysUptoSaid:=
 OpenClaim.holds_of_cond 5 Tryz.f5 rfl rfl rfl rfl rfl rfl rfl ⟨rfl,rfl,rfl,rfl,rfl⟩ rfl rfl rfl rfl rfl zbo Tryz.func5 zdS
  (of_decide_eq_true (by kernel_rfl)) (by unfold Func.isWrapper;rw[if_neg (of_decide_eq_false (by kernel_rfl))];exact⟨rfl,rfl⟩)
  (fun os started H enc _ F=>by rw[OpenClaim.pre_eq_preRow];exact lifted os started H enc F)
theorem card:Rows.TopKeysUptoCardSaid:=
 Claim7.holds_tied_plain_at .later [] _ _ _ _ said (fun _ h=>by cases h) zdQ (fun _ h=>by cases h) topKeysUpto_row_tie rfl ⟨rfl,rfl⟩ (by kernel_rfl) rfl (zb4 (n:=5) zbo Tryz.func5 zdT zcP) zeH
end Go.Proofs.YtlbipokkdiiaiaaGreatDoor.topKeys
