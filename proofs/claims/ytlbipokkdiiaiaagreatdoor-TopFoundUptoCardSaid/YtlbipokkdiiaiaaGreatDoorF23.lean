/- Lemmas for TopFoundUpto: F81, F82, F83, F67e, F84. -/
import Derived.Test.YtlbipokkdiiaiaaGreatDoorF22
import Derived.Test.YtlbipokkdiiaiaaGreatDoorF18
open List renaming setIfInBounds_toArray → sA, set_cons_zero → sB, set_cons_succ → sC
namespace Go.Proofs.YtlbipokkdiiaiaaGreatDoor
open Go.RowKit Exec Go.Shelf
set_option maxRecDepth 100000
attribute [local go_sem] Oper.semAt_some
def tG:Txt:=[111,117,116]
theorem zdt (p:Txt) (w:World) (hp:p.length≤1500000):Calls Tryz.prog 137 #[.string (bs p)] w fun e w'=>e=.returned (.bool (!fZ p tG))∧Below w.heap.size w w':=by
 have HU:=hid (qV p tG (by omega) (by decide) w)
 generalize fZ p tG=q at *
 go_enter Tryz.func137,Tryz.ntmps137
 go_wp2_with (go_at_call 89;refine HU.out.mono ?_;rintro e W2 ⟨rfl,hb⟩)
 go_ret
 exact⟨rfl,hb⟩
theorem zdI (p:Txt) (w:World) (hp:p.length≤1500000):Calls Tryz.prog 138 #[.string (bs p)] w fun e w'=>e=.returned (.bool (!dS p))∧Below w.heap.size w w':=by
 have HU:=hid (jn p (by omega) w)
 generalize dS p=q at *
 go_enter Tryz.func138,Tryz.ntmps138
 go_wp2_with (go_at_call 51;refine HU.out.mono ?_;rintro e W2 ⟨rfl,hb⟩)
 go_ret
 exact⟨rfl,hb⟩
theorem zd6 (p:Txt) (w:World) (hp:p.length≤1500000) (hm:bE w):Calls Tryz.prog 139 #[.string (bs p)] w fun e w'=>e=.returned (.bool (!kX p))∧Below w.heap.size w w':=by
 have HU:=hid (uf p w hp hm)
 generalize kX p=q at *
 go_enter Tryz.func139,Tryz.ntmps139
 go_wp2_with (go_at_call 140;refine HU.out.mono ?_;rintro e W2 ⟨rfl,hb⟩)
 go_ret
 exact⟨rfl,hb⟩
set_option maxHeartbeats 8000000 in
theorem yx (x:fy) (w0 w:World) (mb:Nat) (s:List Txt) (hx:fm w0 x) (hs:eE x.l) (ht:x.l.tool.length≤1000000) (hm:bE w0) (hb:Below w0.heap.size w0 w) (hmb:w0.heap.size≤mb) (hset:w.heap[mb]?=some (dM s)):
 Calls Tryz.prog 93 #[.agg x.cells.toArray,.map (some mb)] w fun e w'=>(∃i:Int,e=.returned (.int .i64 i)∧(i=0→∃l,cP x.l.tool=.ok l))∧Below w0.heap.size w0 w':=by
 have HX:=hid hx
 have HS:=hid hs
 have HM:=hid hm
 obtain⟨ai,ci,hiv, -⟩:=hx.ins.out
 obtain⟨aa,ca,hav, -⟩:=hx.asks.out
 obtain⟨ao,co,hov, -, -,hxo⟩:=hx.outs.out
 have HXO:=hid hxo
 have HAO:=hid (fun(W:World) (hW:Below w0.heap.size w0 W)=>gH x.ov x.l.outs 137 #[] (enters_of Tryz.func137 (by kernel_rfl) rfl) (fun p=>!fZ p tG) W (HX.out.outs.below hW) (by have:=HS.out.outs;omega) fun W' hW' p hp=>zdt p W' (HS.out.ol p hp))
 have HAI:=hid (fun(W:World) (hW:Below w0.heap.size w0 W)=>gH x.iv x.l.ins 138 #[] (enters_of Tryz.func138 (by kernel_rfl) rfl) (fun p=>!dS p) W (HX.out.ins.below hW) (by have:=HS.out.ins;omega) fun W' hW' p hp=>zdI p W' (HS.out.il p hp))
 have HAA:=hid (fun(W:World) (hW:Below w0.heap.size w0 W)=>gH x.av x.l.asks 139 #[] (enters_of Tryz.func139 (by kernel_rfl) rfl) (fun p=>!kX p) W (HX.out.asks.below hW) (by have:=HS.out.asks;omega) fun W' hW' p hp=>zd6 p W' (HS.out.al p hp) ((HM.out.below hW).below hW'))
 rw[hov] at HAO
 rw[hiv] at HAI
 rw[hav] at HAA
 clear hx hm hxo
 go_enter Tryz.func93,Tryz.ntmps93
 go_upto_region 1 with(refine df fC ?_;intro W1 hb1 hn1 hs1)
 have k2:W1.cell? ⟨w.heap.size,2,none⟩=some (.string (bs x.l.tool)):=(cell_of_row _ _ 2 _ _ _ hn1).trans rfl
 have k4:W1.cell? ⟨w.heap.size,4,none⟩=some (.slice ai x.l.ins.length ci):=(cell_of_row _ _ 4 _ _ _ hn1).trans (congrArg some hiv)
 have k5:W1.cell? ⟨w.heap.size,5,none⟩=some (.slice aa x.l.asks.length ca):=(cell_of_row _ _ 5 _ _ _ hn1).trans (congrArg some hav)
 have k6:W1.cell? ⟨w.heap.size,6,none⟩=some (.slice ao x.l.outs.length co):=(cell_of_row _ _ 6 _ _ _ hn1).trans (congrArg some hov)
 have HB1:=hid (hb.trans (hb1.mono hb.size))
 have HSET:=hid ((hb1.block _ (lx (hid hset))).trans hset)
 have HLO:=hid (show w0.heap.size≤w.heap.size∧mb<w.heap.size from⟨hb.size,lx (hid hset)⟩)
 have HC:=hid (xZ x.l.tool W1 ht (HM.out.below HB1.out))
 have HK:=hid (And.intro k4 (And.intro k5 k6))
 clear hb hset hb1 hn1 hs1 k4 k5 k6
 go_upto_region 2 with(go_at_call 136;refine HC.out.mono ?_;rintro e W2 ⟨⟨er,k,rfl,her⟩,hb2⟩;have HER:=hid her;clear her)
 by_cases h0:er=0
 ·have e0:((er:Int) !=0)=false:=neF (by omega)
  obtain⟨k4,k5,k6⟩:=HK.out
  have k4:=Below.keeps hb2 k4
  have k5:=Below.keeps hb2 k5
  have k6:=Below.keeps hb2 k6
  have HTL:=hid (HER.out.1 h0)
  have HB2:=hid (HB1.out.trans (hb2.mono HB1.out.size))
  have HSET2:=hid ((hb2.block _ (lx HSET)).trans HSET.out)
  clear hb2 k2
  by_cases ho:x.l.outs.length=0
  ·have e1:((x.l.outs.length:Int)==0)=true:=eqT (by omega)
   go_wp2_with fail
   go_ret
   exact⟨⟨_,rfl,fun e=>absurd e (by decide)⟩,HB2.out⟩
  have e1:((x.l.outs.length:Int)==0)=false:=eqF (by omega)
  cases hq1:x.l.outs.any fun p=>!fZ p tG with
  |true=>
   rw[hq1] at HAO
   clear hq1
   go_wp2_with (go_at_call 141;refine(HAO.out W2 HB2.out).mono ?_;rintro e W3 ⟨rfl,hb3⟩;have HB3:=hid (HB2.out.trans (hb3.mono HB2.out.size));have k4:=Below.keeps hb3 k4;have k5:=Below.keeps hb3 k5;have k6:=Below.keeps hb3 k6;have HSET3:=hid ((hb3.block _ (lx HSET2)).trans HSET2.out);clear hb3)
   go_ret
   exact⟨⟨_,rfl,fun e=>absurd e (by decide)⟩,HB3.out⟩
  |false=>
   rw[hq1] at HAO
   clear hq1
   cases hq2:x.l.ins.any fun p=>!dS p with
   |true=>
    rw[hq2] at HAI
    clear hq2
    go_wp2_with first|(go_at_call 141;refine(HAO.out W2 HB2.out).mono ?_;rintro e W3 ⟨rfl,hb3⟩;have HB3:=hid (HB2.out.trans (hb3.mono HB2.out.size));have k4:=Below.keeps hb3 k4;have k5:=Below.keeps hb3 k5;have k6:=Below.keeps hb3 k6;have HSET3:=hid ((hb3.block _ (lx HSET2)).trans HSET2.out);clear hb3)|(go_at_call 141;refine(HAI.out W3 HB3.out).mono ?_;rintro e W4 ⟨rfl,hb4⟩;have HB4:=hid (HB3.out.trans (hb4.mono HB3.out.size));have k4:=Below.keeps hb4 k4;have k5:=Below.keeps hb4 k5;have k6:=Below.keeps hb4 k6;have HSET4:=hid ((hb4.block _ (lx HSET3)).trans HSET3.out);clear hb4)
    go_ret
    exact⟨⟨_,rfl,fun e=>absurd e (by decide)⟩,HB4.out⟩
   |false=>
    rw[hq2] at HAI
    clear hq2
    cases hq3:x.l.asks.any fun p=>!kX p with
    |true=>
     rw[hq3] at HAA
     clear hq3
     go_wp2_with first|(go_at_call 141;refine(HAO.out W2 HB2.out).mono ?_;rintro e W3 ⟨rfl,hb3⟩;have HB3:=hid (HB2.out.trans (hb3.mono HB2.out.size));have k4:=Below.keeps hb3 k4;have k5:=Below.keeps hb3 k5;have k6:=Below.keeps hb3 k6;have HSET3:=hid ((hb3.block _ (lx HSET2)).trans HSET2.out);clear hb3)|(go_at_call 141;refine(HAI.out W3 HB3.out).mono ?_;rintro e W4 ⟨rfl,hb4⟩;have HB4:=hid (HB3.out.trans (hb4.mono HB3.out.size));have k4:=Below.keeps hb4 k4;have k5:=Below.keeps hb4 k5;have k6:=Below.keeps hb4 k6;have HSET4:=hid ((hb4.block _ (lx HSET3)).trans HSET3.out);clear hb4)|(go_at_call 141;refine(HAA.out W4 HB4.out).mono ?_;rintro e W5 ⟨rfl,hb5⟩;have HB5:=hid (HB4.out.trans (hb5.mono HB4.out.size));have k4:=Below.keeps hb5 k4;have k5:=Below.keeps hb5 k5;have k6:=Below.keeps hb5 k6;have HSET5:=hid ((hb5.block _ (lx HSET4)).trans HSET4.out);clear hb5)
     go_ret
     exact⟨⟨_,rfl,fun e=>absurd e (by decide)⟩,HB5.out⟩
    |false=>
     rw[hq3] at HAA
     clear hq3
     go_upto_region 9 with first|(go_at_call 141;refine(HAO.out W2 HB2.out).mono ?_;rintro e W3 ⟨rfl,hb3⟩;have HB3:=hid (HB2.out.trans (hb3.mono HB2.out.size));have k4:=Below.keeps hb3 k4;have k5:=Below.keeps hb3 k5;have k6:=Below.keeps hb3 k6;have HSET3:=hid ((hb3.block _ (lx HSET2)).trans HSET2.out);clear hb3)|(go_at_call 141;refine(HAI.out W3 HB3.out).mono ?_;rintro e W4 ⟨rfl,hb4⟩;have HB4:=hid (HB3.out.trans (hb4.mono HB3.out.size));have k4:=Below.keeps hb4 k4;have k5:=Below.keeps hb4 k5;have k6:=Below.keeps hb4 k6;have HSET4:=hid ((hb4.block _ (lx HSET3)).trans HSET3.out);clear hb4)|(go_at_call 141;refine(HAA.out W4 HB4.out).mono ?_;rintro e W5 ⟨rfl,hb5⟩;have HB5:=hid (HB4.out.trans (hb5.mono HB4.out.size));have k4:=Below.keeps hb5 k4;have k5:=Below.keeps hb5 k5;have k6:=Below.keeps hb5 k6;have HSET5:=hid ((hb5.block _ (lx HSET4)).trans HSET4.out);clear hb5)
     have hso:=HS.out.outs
     have HSETS:=hid (show ∃s',W5.heap[mb]?=some (dM s') from⟨s,HSET5.out⟩)
     clear HSET HSET2 HSET3 HSET4 HSET5 HK HAO HAI HAA
     go_wp2_with fail
     go_loopw [46] (fun i wr=>∃(k:Nat) (s':List Txt),k≤x.l.outs.length∧i=.int .i64 k∧wr.heap[mb]?=some (dM s')∧Below w0.heap.size w0 wr) (fun i _=>x.l.outs.length-(intOf i).toNat)
     case atStart=>
      obtain⟨s',h⟩:=HSETS.out
      exact⟨0,s',Nat.zero_le _,rfl,h,HB5.out⟩
     case round=>
      obtain⟨k,s',hk,rfl,hset,hbe⟩:=hrel
      by_cases aK:k<x.l.outs.length
      ·obtain⟨b,o,rfl,L0⟩:=HXO.out k aK
       have L1:=Below.keeps hbe L0
       have HBE:=hid hbe
       have HSE:=hid hset
       have HLT:=hid aK
       generalize x.l.outs[k]=p at *
       clear hbe L0
       by_cases hp:p∈s'
       ·have hlk:=kI hset p true (decide_eq_true hp)
        clear hset
        go_wp2_with fail
        go_ret
        exact⟨⟨_,rfl,fun e=>absurd e (by decide)⟩,HBE.out⟩
       ·have hlk:=kI hset p false (decide_eq_false hp)
        obtain⟨W6,hu,ht6,hn6⟩:=wk hset p hp
        have H6:=hid (And.intro hn6 (HBE.out.trans (ht6.below hmb)))
        clear hset ht6 hn6
        go_wp2_with fail
        obtain⟨hn6,hb6⟩:=H6.out
        exact⟨⟨k+1,_,by omega,by go_num,hn6,hb6⟩,by simp[intOf];omega⟩
      ·obtain rfl:k=x.l.outs.length:=by omega
       have HBE:=hid hbe
       clear hbe hset
       go_wp2_with fail
       go_ret
       exact⟨⟨_,rfl,fun _=>HTL.out⟩,HBE.out⟩
 ·have e0:((er:Int) !=0)=true:=neT (by omega)
  go_wp2_with fail
  go_ret
  exact⟨⟨_,rfl,fun e=>absurd e (by omega)⟩,HB1.out.trans (hb2.mono HB1.out.size)⟩
set_option maxHeartbeats 1000000 in
theorem zaH (f:kz) (ahead:List UInt8) (first:Bool) (hf:f.1.length≤1000000000000000) (hf2:f.2.length≤1000000000000000) (w:World):
 Calls Tryz.prog 92 #[.agg #[.string (bs f.1),.string (bs f.2)],.string (bs ahead),.bool first] w fun e w'=>e=.returned (.int .i64 (fM f ahead first))∧Below w.heap.size w w':=by
 obtain⟨p,d⟩:=f
 simp only at hf hf2 ⊢
 obtain⟨bm,hbm⟩:∃bm,dS p=bm:=⟨_,rfl⟩
 obtain⟨bo,hbo⟩:∃bo,(p==zam)=bo:=⟨_,rfl⟩
 obtain⟨bu,hbu⟩:∃bu,fZ p zam=bu:=⟨_,rfl⟩
 have Hm:=hid (ja p hf bm hbm)
 have Hu:=hid (zaf p zam hf (by decide) bu hbu)
 have Hbad:Hid (ng p=(!bm||bo||bu)):=by apply hid;rw[ng,hbm,hbo,hbu]
 have hbo':(p==[111,117,116])=bo:=hbo
 clear hbm hbo hbu
 have fin:Hid (∀W n,Below w.heap.size w W→fM (p,d) ahead first=n→Ending.returned (.int .i64 n)=Ending.returned (.int .i64 (fM (p,d) ahead first))∧Below w.heap.size w W):=by
  apply hid;intro W n hb h;rw[h];exact⟨rfl,hb⟩
 have hb0:Below w.heap.size w (w.alloc (.cells #[.string (bs p),.string (bs d)] 51)):=(Below.refl _ _).alloc (Nat.le_refl _) _
 have hcell:∀w1,Below (w.heap.size+1) (w.alloc (.cells #[.string (bs p),.string (bs d)] 51)) w1→w1.cell? ⟨w.heap.size,0,none⟩=some (.string (bs p))∧w1.cell? ⟨w.heap.size,1,none⟩=some (.string (bs d)):=by
  intro w1 hb1
  exact⟨(hb1.cell (by simp)).trans (by rw[World.cell?_alloc_mark];rfl),(hb1.cell (by simp)).trans (by rw[World.cell?_alloc_mark];rfl)⟩
 have Hb0:=hid hb0;clear hb0
 have Hcell:=hid hcell;clear hcell
 cases bm with
 |false=>
  go_enter Tryz.func92,Tryz.ntmps92
  go_wp2_with fail
  refine(Hm.out _).mono ?_
  rintro e w1 ⟨rfl,hb1⟩
  rw[World.size_alloc] at hb1
  have hb2:=Hb0.out.trans (hb1.mono (by omega))
  go_wp2_with fail
  go_ret
  exact fin.out _ 7 hb2 (by unfold fM;rw[if_pos (by rw[Hbad.out];rfl)])
 |true=>
  cases bo with
  |true=>
   go_enter Tryz.func92,Tryz.ntmps92
   go_wp2_with fail
   refine(Hm.out _).mono ?_
   rintro e w1 ⟨rfl,hb1⟩
   rw[World.size_alloc] at hb1
   obtain⟨d0,d1⟩:=Hcell.out _ hb1
   have hb2:=Hb0.out.trans (hb1.mono (by omega))
   clear hb1
   go_wp2_with fail
   go_ret
   exact fin.out _ 7 hb2 (by unfold fM;rw[if_pos (by rw[Hbad.out];rfl)])
  |false=>
   cases bu with
   |true=>
    go_enter Tryz.func92,Tryz.ntmps92
    go_wp2_with fail
    refine(Hm.out _).mono ?_
    rintro e w1 ⟨rfl,hb1⟩
    rw[World.size_alloc] at hb1
    obtain⟨d0,d1⟩:=Hcell.out _ hb1
    have hs1:=hb1.size
    rw[World.size_alloc] at hs1
    have hb2:=Hb0.out.trans (hb1.mono (by omega))
    go_wp2_with fail
    refine(Hu.out _).mono ?_
    rintro e w2 ⟨rfl,hb3⟩
    have hb4:=hb2.trans (hb3.mono (by omega))
    obtain⟨d0',d1'⟩:=Hcell.out _ (hb1.trans (hb3.mono hs1))
    clear hb1 hb3 d0 d1
    go_wp2_with fail
    go_ret
    exact fin.out _ 7 hb4 (by unfold fM;rw[if_pos (by rw[Hbad.out];rfl)])
   |false=>
    have Hnb:Hid (¬ng p=true):=by apply hid;rw[Hbad.out];simp
    obtain⟨be,hbe⟩:∃be,(p==ahead)=be:=⟨_,rfl⟩
    obtain⟨bl,hbl⟩:∃bl,Op.bytesLess p ahead=bl:=⟨_,rfl⟩
    have Hbe:=hid hbe
    have Hbl:=hid hbl
    by_cases hd:65536<d.length
    all_goals
     cases first<;>cases be<;>cases bl
     all_goals
      go_enter Tryz.func92,Tryz.ntmps92
      go_wp2_with fail
      refine(Hm.out _).mono ?_
      rintro e w1 ⟨rfl,hb1⟩
      rw[World.size_alloc] at hb1
      obtain⟨d0,d1⟩:=Hcell.out _ hb1
      have hs1:=hb1.size
      rw[World.size_alloc] at hs1
      have hb2:=Hb0.out.trans (hb1.mono (by omega))
      go_wp2_with fail
      refine(Hu.out _).mono ?_
      rintro e w2 ⟨rfl,hb3⟩
      have hb4:=hb2.trans (hb3.mono (by omega))
      obtain⟨d0',d1'⟩:=Hcell.out _ (hb1.trans (hb3.mono hs1))
      clear hb1 hb3 d0 d1
      go_wp2_with fail
      go_ret
      first
       |exact fin.out _ 8 hb4 (by unfold fM;rw[if_neg Hnb.out];simp[Hbe.out];done)
       |exact fin.out _ 2 hb4 (by unfold fM;rw[if_neg Hnb.out];simp[Hbe.out,Hbl.out];done)
       |exact fin.out _ 6 hb4 (by unfold fM;rw[if_neg Hnb.out];simp[Hbe.out,Hbl.out,hd];done)
       |exact fin.out _ 0 hb4 (by unfold fM;rw[if_neg Hnb.out];simp[Hbe.out,Hbl.out,hd];done)
       |go_goals
set_option maxHeartbeats 1000000 in
theorem vh (v0:Value) (n0:Nat) (fs:List kz) (w:World) (h0:am w 2 v0 n0 (ed fs)) (hbig:∀f∈fs,f.1.length≤1000000000000000∧f.2.length≤1000000000000000):
 Calls Tryz.prog 49 #[v0] w fun e w'=>e=.returned (.int .i64 (fL fs))∧Below w.heap.size w w':=by
 have h00:=h0
 obtain⟨rfl,a0,c0,rfl,hc0,hm0, -⟩:=h0.files
 clear h0
 unfold maxLen at hm0
 by_cases h1024:1024<fs.length
 ·go_enter Tryz.func49,Tryz.ntmps49
  go_wp2
  go_ret
  exact⟨by rw[fL,if_pos h1024];rfl,Below.refl _ _⟩
 ·have Hcl:Hid (fL fs=eh [] true fs):=by apply hid;rw[fL,if_neg h1024]
  go_enter Tryz.func49,Tryz.ntmps49
  go_wp2
  go_loopw [3,12] (fun ah i wr=>∃(k:Nat) (ahead:List UInt8),k≤fs.length∧i=.int .i64 k∧ah=.string (bs ahead)∧fL fs=eh ahead (k==0) (fs.drop k)∧Below w.heap.size w wr) (fun _ i _=>fs.length-(intOf i).toNat)
  case atStart=>exact⟨0,[],by omega,rfl,rfl,Hcl.out,Below.refl _ _⟩
  case round=>
   obtain⟨k,ahead,hk,rfl,rfl,hg,hbw⟩:=hrel
   have Hg:=hid hg;clear hg
   have hsz:=hbw.size
   by_cases aK:k<fs.length
   ·obtain⟨-,a1,c1,hv, -, -,hx1⟩:=(h00.below hbw (Nat.le_refl _)).files
    obtain⟨b0,o0,rfl,hb0,hcl0⟩:=hx1 k aK
    obtain⟨rfl,rfl⟩:a0=some ⟨b0,o0,none⟩∧c0=c1:=by simpa using hv
    have e0:=(hcl0 k aK).1
    have e1:=(hcl0 k aK).2
    have hl:=hbig fs[k] (List.getElem_mem aK)
    clear hcl0 hx1 hv
    have Hd:=hid (jw fs k aK)
    obtain⟨fst,hfst⟩:∃fst,((k:Int)==0)=fst:=⟨_,rfl⟩
    have Hfst:Hid ((k==0)=fst):=by
     apply hid;rw[←hfst]
     by_cases h:k=0
     ·rw[eqT (by omega)];simp[h]
     ·rw[eqF (by omega)];simp[h]
    obtain⟨r,hr⟩:∃r,fM fs[k] ahead fst=r:=⟨_,rfl⟩
    have Hl:=hid (zaH fs[k] ahead fst hl.1 hl.2)
    rw[hr] at Hl
    have Hr:=hid hr;clear hr
    go_wp2_with fail
    refine(Hl.out _).mono ?_
    rintro e w2 ⟨rfl,hb2⟩
    rw[World.size_alloc] at hb2
    have d0:w2.cell? ⟨wr.heap.size,0,none⟩=some (.string (bs fs[k].1)):=(hb2.cell (by simp)).trans (by rw[World.cell?_alloc_mark];rfl)
    have hb3:=(hbw.alloc hsz _).trans (hb2.mono (by omega))
    clear hb2
    by_cases h0:r=0
    ·subst h0
     go_wp2_with fail
     refine⟨⟨k+1,fs[k].1,by omega,by go_num,rfl,?_,hb3⟩,by simp[intOf];omega⟩
     rw[Hg.out,Hd.out,eh,Hfst.out,if_pos Hr.out,show(k+1==0)=false from by simp]
    ·have hne:((r:Int) !=0)=true:=neT (by omega)
     go_wp2_with fail
     go_ret
     exact⟨by rw[Hg.out,Hd.out,eh,Hfst.out,if_neg (by rw[Hr.out];exact h0),Hr.out];rfl,hb3⟩
   ·go_wp2
    go_ret
    exact⟨by rw[Hg.out,List.drop_eq_nil_of_le (by omega)];rfl,hbw⟩
theorem tW:∀(a b:Txt),Op.bytesLess a b=false→a≠b→Op.bytesLess b a=true
 |[],[],_,h=>absurd rfl h
 |[],_::_,h,_=>by simp[Op.bytesLess] at h
 |_::_,[],_,_=>by simp[Op.bytesLess]
 |x::a,y::b,h,hne=>by
  simp only[Op.bytesLess] at h ⊢
  by_cases h1:y<x
  ·simp[h1]
  ·by_cases h2:x<y
   ·simp[h2] at h
   ·have e:x=y:=UInt8.le_antisymm (by simpa using h1) (by simpa using h2)
    subst e
    simp at h ⊢
    exact tW a b h (fun e=>hne (by rw[e]))
theorem sZ:∀(a b c:Txt),Op.bytesLess a b=true→Op.bytesLess b c=true→Op.bytesLess a c=true
 |_,[],_,h,_=>by cases ‹List UInt8›<;>simp[Op.bytesLess] at h
 |_,_::_,[],_,h=>by simp[Op.bytesLess] at h
 |[],_::_,_::_,_,_=>by simp[Op.bytesLess]
 |x::a,y::b,z::c,h1,h2=>by
  simp only[Op.bytesLess,Bool.or_eq_true,decide_eq_true_eq,Bool.and_eq_true,beq_iff_eq] at h1 h2 ⊢
  rcases h1 with h1|⟨rfl,h1⟩
  ·rcases h2 with h2|⟨rfl,h2⟩
   ·exact .inl (UInt8.lt_trans h1 h2)
   ·exact .inl h1
  ·rcases h2 with h2|⟨rfl,h2⟩
   ·exact .inl h2
   ·exact .inr ⟨rfl,sZ a b c h1 h2⟩
theorem zeb {f:Txt×Txt} {a:Txt} {q:Bool} (h:fM f a q=0):f.2.length≤65536∧(q=false→Op.bytesLess a f.1=true):=by
 unfold fM at h
 split at h
 ·omega
 ·split at h
  ·omega
  ·rename_i h2
   split at h
   ·omega
   ·rename_i h3
    split at h
    ·omega
    ·refine⟨by omega,fun hq=>?_⟩
     subst hq
     simp only[true_and,Bool.not_eq_true,beq_eq_false_iff_ne] at h2 h3
     exact tW _ _ h3 h2
theorem zc2:∀(fs:List (Txt×Txt)) (a:Txt) (q:Bool),eh a q fs=0→(∀f∈fs,f.2.length≤65536∧(q=false→Op.bytesLess a f.1=true))∧(fs.map (·.1)).Nodup
 |[],_,_,_=>⟨fun _ h=>absurd h List.not_mem_nil,List.nodup_nil⟩
 |f::fs,a,q,h=>by
  unfold eh at h
  split at h
  ·rename_i h0
   obtain⟨h1,h2⟩:=zeb h0
   obtain⟨h3,h4⟩:=zc2 fs f.1 false h
   refine⟨fun g hg=>?_,?_⟩
   ·rcases List.mem_cons.1 hg with rfl|hg
    ·exact⟨h1,h2⟩
    ·exact⟨(h3 g hg).1,fun hq=>sZ _ _ _ (h2 hq) ((h3 g hg).2 rfl)⟩
   ·rw[List.map_cons,List.nodup_cons]
    refine⟨fun hm=>?_,h4⟩
    obtain⟨g,hg,e⟩:=List.mem_map.1 hm
    have:=(h3 g hg).2 rfl
    rw[e,lQ] at this
    cases this
  ·rename_i h0
   exact absurd h h0
theorem zbB {fs:List (Txt×Txt)} (h:fL fs=0):fs.length≤1024∧(∀f∈fs,f.2.length≤65536)∧(fs.map (·.1)).Nodup:=by
 unfold fL at h
 split at h
 ·cases h
 ·obtain⟨h1,h2⟩:=zc2 fs [] true h
  exact⟨by omega,fun f hf=>(h1 f hf).1,h2⟩
theorem zK {w:World} {x:fy} (hx:fm w x):∀u∈x.cells,u.oneCell'=true:=by
 obtain⟨ae,ce,hev, -⟩:=aJ.out (sz:=2) (f:=kq) (fun _=>rfl) (by omega) hx.env
 obtain⟨ai,ci,hiv, -⟩:=hx.ins.out
 obtain⟨aa,ca,hav, -⟩:=hx.asks.out
 obtain⟨ao,co,hov, -⟩:=hx.outs.out
 intro u hu
 simp only[fy.cells,hev,hiv,hav,hov,List.mem_cons,List.not_mem_nil,or_false] at hu
 rcases hu with rfl|rfl|rfl|rfl|rfl|rfl|rfl<;>rfl
set_option maxHeartbeats 8000000 in
theorem uI (x:fy) (av:Value) (w:World) (ha:aJ w 7 fy.cells av [x]) (hx:fm w x) (hs:eE x.l) (ht:x.l.tool.length≤1000000) (hm:bE w):
 Calls Tryz.prog 50 #[av] w fun e w'=>(∃i j:Int,e=.returned (.tuple #[.int .i64 i,.int .i64 j])∧(i=0→∃l,cP x.l.tool=.ok l))∧Below w.heap.size w w':=by
 obtain⟨a2,c2,rfl,hc2,hm2, -,hx2⟩:=ha.out iY (by omega)
 obtain⟨b2,o2,rfl,hb2,hcl2⟩:=hx2 0 (by simp)
 have R2:=hid (hcl2 0 (by simp))
 have HONE:=hid (zK hx)
 have hb0:=ab w (.map #[] 0)
 have hn0:=heap_alloc_new w (.map #[] 0)
 have HX:=hid hx
 have hmm:=@run_makeMap Tryz.prog
 clear ha hx2 hcl2 hx
 go_enter Tryz.func50,Tryz.ntmps50
 go_upto_block 0 with fail
 generalize w.alloc (.map #[] 0)=W0 at *
 have HB0:=hid hb0
 have HN0:=hid (show W0.heap[w.heap.size]?=some (dM []) from hn0)
 clear hb0 hn0
 go_wp2_with fail
 go_loopw [14] (fun i wr=>∃(k:Nat),k≤1∧i=.int .i64 k∧Below w.heap.size w wr∧(k=0→wr=W0)∧(k=1→∃l,cP x.l.tool=.ok l)) (fun i _=>1-(intOf i).toNat)
 case atStart=>exact⟨0,by omega,rfl,HB0.out,fun _=>rfl,fun e=>by omega⟩
 case round=>
  obtain⟨k,hk,rfl,hbe,h0,h1⟩:=hrel
  by_cases aK:k<1
  ·obtain rfl:k=0:=by omega
   obtain rfl:=h0 rfl
   have L0:wr.rangeAt b2 (o2+0*7) x.cells:=aQ hbe R2.out
   have HL:=hid (fun(W:World) (hb:Below wr.heap.size wr W)=>yx x w W w.heap.size [] HX.out hs ht hm (Below.chain HB0.out hb) (Nat.le_refl _) ((hb.block _ (lx HN0)).trans HN0.out))
   clear hbe h0 h1
   go_upto_region 8 with first|(refine bX fC L0 (iY _) ?_)|(refine fh fC ?_;intro zz W1 hzz hb1 hn1 hs1;clear hs1)|(refine dQ (xs:=x.cells.toArray) fC hn1 hzz rfl HONE.out ?_;intro W2 ht2 hn2 hs2;clear hs2;have r2:=ak hn2;have HB2:=hid (hb1.trans (ht2.below (Nat.le_refl _)));have HAL:=hid (HL.out _ HB2.out);clear ht2 hn2)|(refine bX fC r2 (iY _) ?_)|(go_at_call 93;refine HAL.out.mono ?_;rintro e W3 ⟨⟨i,rfl,hi⟩,hb3⟩;have HI:=hid (And.intro hi hb3);clear hi hb3)
   by_cases h0:i=0
   ·have e0:(i !=0)=false:=by rw[h0];rfl
    go_wp2_with fail
    obtain⟨hi,hb3⟩:=HI.out
    exact⟨⟨1,by omega,by go_num,hb3,fun e=>by omega,fun _=>hi h0⟩,by simp[intOf]⟩
   ·have e0:(i !=0)=true:=by simpa using h0
    go_wp2_with fail
    go_ret2
    exact⟨⟨_,_,rfl,fun e=>absurd e h0⟩,HI.out.2⟩
  ·obtain rfl:k=1:=by omega
   have HBE:=hid hbe
   have H1:=hid (h1 rfl)
   clear hbe h0 h1
   go_wp2_with fail
   go_ret2
   exact⟨⟨_,_,rfl,fun _=>H1.out⟩,HBE.out⟩
set_option maxHeartbeats 8000000 in
theorem uK (x:fy) (fs:List (Txt×Txt)) (fv av:Value) (w:World) (hf:aJ w 2 cO fv fs) (hfl:∀f∈fs,f.1.length≤1500000∧f.2.length≤1500000) (ha:aJ w 7 fy.cells av [x]) (hx:fm w x) (hs:eE x.l) (ht:x.l.tool.length≤1000000) (hm:bE w):
 Calls Tryz.prog 22 #[.agg (tb fv av).toArray] w fun e w'=>(∃i:Int,e=.returned (.int .i64 i)∧(i=0→fL fs=0∧∃l,cP x.l.tool=.ok l))∧Below w.heap.size w w':=by
 have HF:=hid hf
 have HA:=hid ha
 have HX:=hid hx
 have HM:=hid hm
 obtain⟨a2,c2,rfl, -⟩:=hf.out cD (by omega)
 obtain⟨a3,c3,rfl, -⟩:=ha.out iY (by omega)
 clear hf ha hx hm
 go_enter Tryz.func22,Tryz.ntmps22
 go_upto_region 1 with(refine df zr ?_;intro W1 hb1 hn1 hs1)
 have k0:W1.cell? ⟨w.heap.size,0,none⟩=some (.slice a2 fs.length c2):=(cell_of_row _ _ 0 _ _ _ hn1).trans rfl
 have k1:W1.cell? ⟨w.heap.size,1,none⟩=some (.slice a3 1 c3):=(cell_of_row _ _ 1 _ _ _ hn1).trans rfl
 have k2:W1.cell? ⟨w.heap.size,2,none⟩=some (.slice none 0 0):=(cell_of_row _ _ 2 _ _ _ hn1).trans rfl
 have HB:=hid hb1
 have HT:=hid (vh (.slice a2 fs.length c2) fs.length fs W1 (HF.out.below hb1 (Nat.le_refl _)) fun f h=>by have:=hfl f h;omega)
 have HAC:=hid (fun(W:World) (hb:Below w.heap.size w W)=>uI x (.slice a3 1 c3) W (HA.out.below hb (Nat.le_refl _)) (HX.out.below hb) hs ht (HM.out.below hb))
 have K:=hid (And.intro k1 k2)
 have HCL:=hid (rfl:fL fs=fL fs)
 clear hb1 hn1 hs1 k1 k2
 obtain⟨r,hr⟩:∃r,fL fs=r:=⟨_,rfl⟩
 rw[hr] at HT
 have HR:=hid hr
 clear hr HCL
 by_cases h0:r=0
 ·have e0:((r:Int) !=0)=false:=neF (by omega)
  go_upto_region 4 with(go_at_call 49;refine HT.out.mono ?_;rintro e W2 ⟨rfl,hb2⟩)
  have k1:=Below.keeps hb2 K.out.1
  have k2:=Below.keeps hb2 K.out.2
  have HB2:=hid (Below.chain HB.out hb2)
  have HAC2:=hid (HAC.out W2 HB2.out)
  clear hb2 k0
  go_upto_region 5 with(go_at_call 50;refine HAC2.out.mono ?_;rintro e W3 ⟨⟨i,j,rfl,hi⟩,hb3⟩)
  have k2:=Below.keeps hb3 k2
  have HB3:=hid (Below.chain HB2.out hb3)
  have HI:=hid hi
  clear hb3 hi k1
  by_cases hi0:i=0
  ·have e1:(i !=0)=false:=by rw[hi0];rfl
   go_wp2_with fail
   go_loopw [30] (fun i wr=>i=.int .i64 0∧wr=W3) (fun _ _=>0)
   case atStart=>exact⟨rfl,rfl⟩
   case round=>
    obtain⟨rfl,rfl⟩:=hrel
    go_wp2_with fail
    go_ret
    exact⟨⟨_,rfl,fun _=>⟨by rw[HR.out,h0],HI.out hi0⟩⟩,HB3.out⟩
  ·have e1:(i !=0)=true:=by simpa using hi0
   go_wp2_with fail
   go_ret
   exact⟨⟨_,rfl,fun e=>absurd e hi0⟩,HB3.out⟩
 ·have e0:((r:Int) !=0)=true:=neT (by omega)
  go_wp2_with (go_at_call 49;refine HT.out.mono ?_;rintro e W2 ⟨rfl,hb2⟩)
  go_ret
  exact⟨⟨_,rfl,fun e=>absurd e (by omega)⟩,Below.chain HB.out hb2⟩
end Go.Proofs.YtlbipokkdiiaiaaGreatDoor
namespace Go.Proofs.YtlbipokkdiiaiaaGreatDoor
open Go.RowKit Exec
def zdb (n:Nat) (D:List (List Nat)) (eg:List Nat) (m:List Bool):Option Nat:=(List.range n).find? fun x=>eg.contains x&&!(m.getD x true)&&(D.getD x []).all fun i=>m.getD i false
def zb8 (ops:Array Oper) (listed:Array Bool) (H:List Nat) (D:List (List Nat)) (eg:List Nat):Bool:=
 (yl H.length).all fun m=>m.all id||!(gY D m)||match zdb H.length D eg m with
  |some x=>Region.free .any ops (eu listed H m) (H.getD x 0)&&(Region.ready .any ops (eu listed H m)).contains (H.getD x 0)
  |none=>!(Region.ready .any ops (eu listed H m)).isEmpty&&(Region.ready .any ops (eu listed H m)).all fun j=>(List.range H.length).any fun x=>H.getD x 0==j&&!(m.getD x true)&&((D.getD x []).all fun i=>m.getD i false)
theorem zcb (v:Value):∀(l:List (Option Value)) (y:Nat),l[y]?=some none→((l.set y (some v)).filter Option.isNone).length+1=(l.filter Option.isNone).length:=by
 intro l
 induction l with
 |nil=>intro y hy;cases hy
 |cons c l ih=>
  intro y hy
  cases y with
  |zero=>
   simp only[List.getElem?_cons_zero,Option.some.injEq] at hy
   subst hy
   simp
  |succ y=>
   simp only[List.getElem?_cons_succ] at hy
   have:=ih y hy
   simp only[sC,List.filter_cons]
   split
   ·simp only[List.length_cons];omega
   ·exact this
section
variable {P:Program} {ops:Array Oper} {Q:Exit→Act→World→Prop} {S:World→Prop} {k:Nat}
def zeq (P:Program) (ops:Array Oper) (R:List (Option Value)→World→Prop) (H:List Nat) (ds:List (Option Tmp)) (D:List (List Nat)) (a:Act) (w:World) (k x:Nat):Prop:=
 ∀(st:List (Option Value)) (w':World),st.length=H.length→Below w.heap.size w w'→R st w'→st[x]?=some none→(∀i∈D.getD x [],∃v,st[i]?=some (some v))→
  ∃o v,ops[H.getD x 0]?=some o∧ds.getD x none=o.dst∧k≠H.getD x 0∧Region.wanted o (yielded ops (bN a ds st).tmps)=true∧
   (∀W,(execOp (bN a ds st).eval o).run P W=.ok (.value v) W)∧R (st.set x (some v)) w'
theorem vP (H:List Nat) (ds:List (Option Tmp)) (D:List (List Nat)) (R:List (Option Value)→World→Prop) (fuel:Nat) (listed:Array Bool) (a:Act) (w:World) (hS:∀w',Below w.heap.size w w'→S w')
 (hds:eQ ds) (bY:ds.length=H.length) (hH:H.Nodup) (eg:List Nat) (hok:zb8 ops listed H D eg=true) (hns:Region.noSelect ops=true) (hQ:∀d v c a w,Q (.panic c) (Act.put a d v) w→Q (.panic c) a w)
 (hstep:∀x,x<H.length→x∉eg→zda P ops Q R H ds D a w x) (hpure:∀x,x<H.length→x∈eg→zeq P ops R H ds D a w k x)
 (hfin:∀(st:List (Option Value)) (w':World),st.length=H.length→(∀i,i<H.length→∃v,st[i]?=some (some v))→R st w'→Below w.heap.size w w'→WL P ops Q S k fuel (eu listed H (st.map Option.isSome)) (bN a ds st) w'):
 ∀(n:Nat) (st:List (Option Value)) (w':World),gY D (st.map Option.isSome)=true→st.length=H.length→(st.filter Option.isNone).length=n→Below w.heap.size w w'→R st w'→WL P ops Q S k (fuel+n) (eu listed H (st.map Option.isSome)) (bN a ds st) w'
 |0,st,w',_,hl,hn,hb,hr=>by
  refine hfin st w' hl (fun i hi=>?_) hr hb
  have h0:st.filter Option.isNone=[]:=List.length_eq_zero_iff.1 hn
  have h1:i<st.length:=by omega
  cases hx:st[i] with
  |none=>
   have:=List.filter_eq_nil_iff.1 h0 st[i] (List.getElem_mem h1)
   rw[hx] at this
   exact absurd rfl this
  |some v=>
   have h2:st[i]?=some (some v):=by rw[List.getElem?_eq_getElem h1,hx]
   exact⟨v,h2⟩
 |n+1,st,w',aO,hl,hn,hb,hr=>by
  have hmask:=List.all_eq_true.1 hok (st.map Option.isSome) (by have:=oS (st.map Option.isSome);rwa [List.length_map,hl] at this)
  have hnall:(st.map Option.isSome).all id=false:=by
   cases hc:(st.map Option.isSome).all id with
   |false=>rfl
   |true=>
    exfalso
    have:st.filter Option.isNone=[]:=List.filter_eq_nil_iff.2 fun o ho=>by
     have:=List.all_eq_true.1 hc o.isSome (List.mem_map_of_mem ho)
     cases o with
     |none=>cases this
     |some v=>simp
    rw[this] at hn
    cases hn
  rw[hnall,aO,Bool.false_or,Bool.not_true,Bool.false_or] at hmask
  show WL P ops Q S k (fuel+n+1) _ _ _
  have hdep:∀x,(D.getD x []).all (fun i=>(st.map Option.isSome).getD i false)=true→∀i∈D.getD x [],∃v,st[i]?=some (some v):=fun x h4 i hi=>by
   have h5:=List.all_eq_true.1 h4 i hi
   rw[List.getD_eq_getElem?_getD,List.getElem?_map] at h5
   cases hc:st[i]? with
   |none=>rw[hc] at h5;cases h5
   |some u=>
    rw[hc] at h5
    cases u with
    |none=>cases h5
    |some v=>exact⟨v,rfl⟩
  have hnone:∀x,x<st.length→(st.map Option.isSome).getD x true=false→st[x]?=some none:=fun x hxs h3=>by
   rw[List.getElem?_eq_getElem hxs]
   cases hc:st[x] with
   |none=>rfl
   |some v=>
    rw[List.getD_eq_getElem?_getD,List.getElem?_map,List.getElem?_eq_getElem hxs,hc] at h3
    cases h3
  have hnext:∀x v,x<H.length→st[x]?=some none→(D.getD x []).all (fun i=>(st.map Option.isSome).getD i false)=true→∀(o:Oper),ds.getD x none=o.dst→∀w'',Below w'.heap.size w' w''→R (st.set x (some v)) w''→WL P ops Q S k (fuel+n) ((eu listed H (st.map Option.isSome)).setIfInBounds (H.getD x 0) true) ((bN a ds st).put o.dst v) w'':=fun x v hxl hsx h4 o hd w'' hb2 hRv=>by
   have e1:bN a ds (st.set x (some v))=(bN a ds st).put o.dst v:=iV ds st a x v hds hsx o.dst (by rw[←hd,List.getD_eq_getElem?_getD,List.getElem?_eq_getElem (by omega)];rfl)
   have e2:eu listed H ((st.set x (some v)).map Option.isSome)=(eu listed H (st.map Option.isSome)).setIfInBounds (H.getD x 0) true:=by
    rw[List.map_set]
    refine kL H _ listed x hH ?_ _ ?_
    ·rw[List.getElem?_map,hsx];rfl
    ·rw[List.getD_eq_getElem?_getD,List.getElem?_eq_getElem hxl];rfl
   rw[←e1,←e2]
   have:=zcb v st x hsx
   exact vP H ds D R fuel listed a w hS hds bY hH eg hok hns hQ hstep hpure hfin n (st.set x (some v)) w'' (by rw[List.map_set];exact pD aO x h4) (by rw[List.length_set];exact hl) (by omega) (hb.trans (hb2.mono hb.size)) hRv
  cases hpd:zdb H.length D eg (st.map Option.isSome) with
  |some x=>
   rw[hpd,Bool.and_eq_true] at hmask
   obtain⟨hfr,hrd⟩:=hmask
   have h1:=List.find?_some hpd
   have hxl:=List.mem_range.1 (List.mem_of_find?_eq_some hpd)
   simp only[Bool.and_eq_true,Bool.not_eq_true',List.contains_iff_mem] at h1
   obtain⟨⟨h2,h3⟩,h4⟩:=h1
   have hsx:=hnone x (by omega) h3
   obtain⟨o,v,ho,hd,hki,hw,hK,hRv⟩:=hpure x hxl h2 st w' hl hb hr hsx (hdep x h4)
   exact⟨mq ho (Region.noSelect_spec hns) (fun c a w=>hQ o.dst v c a w) (fuel+n) _ _ w' (Region.free_spec ho hfr) (by simpa using hrd) (.inl ⟨hw,fun W _=>hK W⟩) (.inr (hS w' hb)) hki (hnext x v hxl hsx h4 o hd w' (Below.refl _ _) hRv).out⟩
  |none=>
  rw[hpd,Bool.and_eq_true] at hmask
  obtain⟨hne,hrd⟩:=hmask
  refine WL.mk (And.intro (fun h0=>by rw[h0] at hne;cases hne) (fun j hj=>?_))
  have h1:=List.all_eq_true.1 hrd j hj
  obtain⟨x,hx,h2⟩:=List.any_eq_true.1 h1
  simp only[Bool.and_eq_true,beq_iff_eq,Bool.not_eq_true'] at h2
  obtain⟨⟨rfl,h3⟩,h4⟩:=h2
  have hxl:=List.mem_range.1 hx
  have hsx:=hnone x (by omega) h3
  have hxe:x∉eg:=fun e=>by
   have:=List.find?_eq_none.1 hpd x hx
   rw[h3,h4] at this
   simp[e] at this
  obtain⟨o,ho,hd,hw,hK⟩:=hstep x hxl hxe st w' hl hb hr hsx (hdep x h4)
  refine wpOp_step ho fun K' hK'=>?_
  rw[if_pos hw]
  refine hK K' (fun v w'' hb2 hRv=>?_)
  exact hK' _ _ ⟨.inr (hS w'' (hb.trans (hb2.mono hb.size))),(hnext x v hxl hsx h4 o hd w'' hb2 hRv).out⟩
end
open Go.Shelf
attribute [local go_sem] Oper.semAt_some
set_option maxRecDepth 100000
theorem qN {α:Type} {w:World} {sz:Nat} {f:α→List Value} {a:Option Addr} {n c k:Nat} {l:List α} (hs:∀x,(f x).length=sz) (h:aJ w sz f (.slice a n c) l) (hk:k≤l.length):aJ w sz f (.slice a k c) (l.take k):=by
 obtain⟨hl,a',c',hv,hc,hm,hn,hx⟩:=h
 obtain⟨rfl,rfl,rfl⟩:a=a'∧n=l.length∧c=c':=by simpa using hv
 have bY:(l.take k).length=k:=by rw[List.length_take];omega
 have hpre:∀(l:List α) (k:Nat),∃r,l.flatMap f=(l.take k).flatMap f++r:=fun l k=>⟨(l.drop k).flatMap f,by rw[←List.flatMap_append,List.take_append_drop]⟩
 obtain⟨r,hr⟩:=hpre l k
 refine⟨?_,a,c,by rw[bY],by omega,hm,hn,fun hne=>?_⟩
 ·rw[bY]
  have:∀l:List α,(l.flatMap f).length=l.length*sz:=fun l=>by
   induction l with
   |nil=>simp
   |cons x l ih=>rw[List.flatMap_cons,List.length_append,hs,ih,List.length_cons,Nat.succ_mul];omega
  rw[this,bY]
 ·obtain⟨b,off,rfl,hb,aO⟩:=hx (fun e=>hne (by rw[hr] at e;exact(List.append_eq_nil_iff.1 e).1))
  refine⟨b,off,rfl,hb,fun j u hu=>aO j u ?_⟩
  rw[hr,List.getElem?_append_left (List.getElem?_eq_some_iff.1 hu).1]
  exact hu
theorem zbx {α:Type} (f:α→List Value) {t e sz by_:Nat} (hu:Tryz.prog.underlying t=some (.slice e)) (hinfo:iT e sz by_=true) (_hsz:∀x,(f x).length=sz) (h0:0<sz) (hby:by_≤1000) {W:World} {base b o c n:Nat} {v:Value} {l xs:List α}
 (h1:∀x,∀u∈f x,u.oneCell'=true) (h:W.ownsRow base e sz v n (l.flatMap f)) (hx:aJ W sz f (.slice (some ⟨b,o,none⟩) xs.length c) xs) (hb:base≤W.heap.size) (hn:n+xs.length≤100000):
 ∃v' w',(∀ty,(Builtin.append_ #[t,t] ty #[v,.slice (some ⟨b,o,none⟩) xs.length c]).run Tryz.prog W=.ok v' w')∧w'.ownsRow base e sz v' (n+xs.length) ((l++xs).flatMap f)∧Below base W w':=by
 obtain⟨i0,z,hi,hz,hs,jW,hzs⟩:=dw hinfo
 obtain⟨hl,a',c',hv,hc,hm,hnn,hxx⟩:=hx
 obtain⟨rfl,rfl⟩:a'=some ⟨b,o,none⟩∧c=c':=by simpa[eq_comm] using hv
 have hsrc:∀j u,(xs.flatMap f)[j]?=some u→W.cell? ((⟨b,o,none⟩:Addr).add j)=some u:=fun j u hu=>by
  obtain⟨b',off,e, -,aO⟩:=hxx (fun e=>by rw[e] at hu;simp at hu)
  obtain⟨rfl,rfl⟩:b=b'∧o=off:=by simpa using e
  rw[Addr.add_lit]
  exact aO j u hu
 obtain⟨v',w',hr,ho,hgr, -,hat⟩:=run_append_own_at (P:=Tryz.prog) W base t 0 e i0 z sz by_ hu hi hz hs jW hzs h0 v n (l.flatMap f) h ⟨b,o,none⟩ xs.length c (xs.flatMap f) hl hsrc (fun u hu=>by
  obtain⟨x, -,hu⟩:=List.mem_flatMap.1 hu
  exact h1 x u hu) (by unfold maxLen;omega) (Nat.le_trans (Nat.mul_le_mul (show n+xs.length≤100001 by omega) hby) (by decide)) hb
 refine⟨v',w',fun ty=>hr,by rw[List.flatMap_append];exact ho,⟨hgr.os,hgr.tape,hgr.output,hgr.size,fun k hk=>hgr.block k (by omega) fun e=>?_⟩⟩
 have:=(h.lt k e.symm).1;omega
theorem lY:∀(ds:List (Option Tmp)) (vs:List (Option Value)) (a:Act),(bN a ds vs).tmps.size=a.tmps.size
 |[],vs,a=>by cases vs<;>rfl
 |d::ds,[],a=>rfl
 |d::ds,none::vs,a=>by simp only[bN];exact lY ds vs a
 |d::ds,some v::vs,a=>by
  simp only[bN]
  rw[lY ds vs (a.put d v)]
  cases d<;>simp[Act.put]
theorem mV {ds:List (Option Tmp)} {vs:List (Option Value)} {a:Act} {i t:Nat} {v:Value} (h:eQ ds) (hi:ds[i]?=some (some t)) (hv:vs[i]?=some (some v)) (ht:t<a.tmps.size):(bN a ds vs).tmps[t]?=some v:=by
 have aK:=(List.getElem?_eq_some_iff.1 hv).1
 have h1:=iV ds (vs.set i none) a i v h (List.getElem?_set_self aK) (some t) hi
 rw[List.set_set,show vs.set i (some v)=vs from List.ext_getElem? fun j=>by
  rw[List.getElem?_set]
  split
  ·rename_i e;subst e;simp[aK,(List.getElem?_eq_some_iff.1 hv).2]
  ·rfl] at h1
 rw[h1]
 simp only[Act.put]
 rw[Array.getElem?_setIfInBounds_self_of_lt (by rw[lY];exact ht)]
theorem zaN {o:Oper} {a:Act} {w w':World} {t:Nat} {v s v':Value} {x y:Operand} (h:∀ty,(Builtin.append_ #[t,t] ty #[v,s]).run Tryz.prog w=.ok v' w')
 (ho:o.op=.call {callee:=.builtin .append,args:=#[x,y],argTypes:=#[t,t]}:=by rfl) (hx:a.eval x=v:=by rfl) (hy:a.eval y=s:=by rfl):(execOp a.eval o).run Tryz.prog w=.ok (.value v') w':=by
 unfold execOp
 simp only[ho,resolve,invoke,builtin,Sem.run_bind,Sem.run_pure,Result.andThen_ok,List.map_toArray,List.map_cons,List.map_nil,hx,hy,h]
structure pJ (B:Nat) (cs:List Value) (st:List (Option Value)) (w:World):Prop where
 a:∀i v,i<5→st[i]?=some (some v)→cs[i]?=some v
 b:∀u,st[5]?=some (some u)→∃m zs,u=.pointer (some ⟨m,0,none⟩)∧B≤m∧w.heap[m]?=some (.cells zs 93 (0,0))∧zs.size=3
 c:∀u,st[6]?=some (some u)→∃m zs,u=.pointer (some ⟨m,0,none⟩)∧B≤m∧w.heap[m]?=some (.cells zs 82 (0,0))∧zs.size=4
theorem pJ.val {B i:Nat} {cs:List Value} {st:List (Option Value)} {w w':World} {v:Value} (h:pJ B cs st w) (hb:Below w.heap.size w w') (hn:st[i]?=some none) (hi:i<5) (hv:cs[i]?=some v):pJ B cs (st.set i (some v)) w':=by
 refine⟨fun j u hj hu=>?_,fun u hu=>?_,fun u hu=>?_⟩
 ·rcases aG hn hu with⟨rfl,rfl⟩|⟨-,h1⟩
  ·exact hv
  ·exact h.a j u hj h1
 ·rcases aG hn hu with⟨h1, -⟩|⟨-,h1⟩
  ·omega
  ·obtain⟨m,zs,h2,h3,h4,h5⟩:=h.b u h1
   exact⟨m,zs,h2,h3,(hb.block m (lx (hid h4))).trans h4,h5⟩
 ·rcases aG hn hu with⟨h1, -⟩|⟨-,h1⟩
  ·omega
  ·obtain⟨m,zs,h2,h3,h4,h5⟩:=h.c u h1
   exact⟨m,zs,h2,h3,(hb.block m (lx (hid h4))).trans h4,h5⟩
theorem pJ.al5 {B:Nat} {cs:List Value} {st:List (Option Value)} {w w':World} {zs:Array Value} (h:pJ B cs st w) (hB:B≤w.heap.size) (hb:Below w.heap.size w w') (hn:st[5]?=some none) (hz:zs.size=3) (hh:w'.heap[w.heap.size]?=some (.cells zs 93 (0,0))):pJ B cs (st.set 5 (some (.pointer (some ⟨w.heap.size,0,none⟩)))) w':=by
 refine⟨fun j u hj hu=>?_,fun u hu=>?_,fun u hu=>?_⟩
 ·rcases aG hn hu with⟨h1, -⟩|⟨-,h1⟩
  ·omega
  ·exact h.a j u hj h1
 ·rcases aG hn hu with⟨-,rfl⟩|⟨h1, -⟩
  ·exact⟨_,zs,rfl,hB,hh,hz⟩
  ·exact absurd rfl h1
 ·rcases aG hn hu with⟨h1, -⟩|⟨-,h1⟩
  ·cases h1
  ·obtain⟨m,zs,h2,h3,h4,h5⟩:=h.c u h1
   exact⟨m,zs,h2,h3,(hb.block m (lx (hid h4))).trans h4,h5⟩
theorem pJ.al6 {B:Nat} {cs:List Value} {st:List (Option Value)} {w w':World} {zs:Array Value} (h:pJ B cs st w) (hB:B≤w.heap.size) (hb:Below w.heap.size w w') (hn:st[6]?=some none) (hz:zs.size=4) (hh:w'.heap[w.heap.size]?=some (.cells zs 82 (0,0))):pJ B cs (st.set 6 (some (.pointer (some ⟨w.heap.size,0,none⟩)))) w':=by
 refine⟨fun j u hj hu=>?_,fun u hu=>?_,fun u hu=>?_⟩
 ·rcases aG hn hu with⟨h1, -⟩|⟨-,h1⟩
  ·omega
  ·exact h.a j u hj h1
 ·rcases aG hn hu with⟨h1, -⟩|⟨-,h1⟩
  ·cases h1
  ·obtain⟨m,zs,h2,h3,h4,h5⟩:=h.b u h1
   exact⟨m,zs,h2,h3,(hb.block m (lx (hid h4))).trans h4,h5⟩
 ·rcases aG hn hu with⟨-,rfl⟩|⟨h1, -⟩
  ·exact⟨_,zs,rfl,hB,hh,hz⟩
  ·exact absurd rfl h1
theorem zdq:cZ 90 2:=⟨_,Tryz.underlying90,rfl,by kernel_rfl⟩
def zn (p0 p1:UInt8):List Value:=[.int .u8 p0.toNat,.int .u8 p1.toNat]
def zbz (y:ByL) (l:List bB) (ks:List KnL):Prop:=∀i (hi:i<ks.length),(jY y (knK (ks.take i)) l).over=false∧(jY y (knK (ks.take i)) l).asks=ks[i].path
theorem up {ks:List KnL} (h:∀k∈ks,k.data.length≤65536) (i:Nat):(ks.take i).any (fun x=>(x.is&&decide (65536<x.data.length)))=false∧∀p k,knK (ks.take i) p=some k→k.path=p∧k.data.length≤65536:=by
 refine⟨List.any_eq_false.2 fun x hx=>?_,fun p k hk=>?_⟩
 ·have:=h x (List.mem_of_mem_take hx)
  rw[decide_eq_false (by omega),Bool.and_false]
  simp
 ·unfold knK at hk
  have h1:=List.find?_some hk
  exact⟨by simpa using h1,h k (List.mem_of_mem_take (List.mem_of_find?_eq_some hk))⟩
set_option maxHeartbeats 16000000 in
theorem xY (x:fy) (w:World) (hx:fm w x) (hs:eE x.l) (ht:x.l.tool.length≤1000000) (hm:bE w) (hp:eR w) (l:List bB) (htl:cP x.l.tool=.ok l) (ks:List KnL) (kv:Value) (hk:aJ w 3 knC kv ks) (hkl:ks.length≤1000)
 (hsh:∀k∈ks,k.data.length≤65536) (hask:zbz (byA x.l) l ks) (p0 p1:UInt8):
 Calls Tryz.prog 29 #[.agg x.cells.toArray,kv,.agg (zn p0 p1).toArray] w fun e w'=>e=.returned (.bool true)∧Below w.heap.size w w':=by
 obtain⟨ka,kc,rfl,hkc,hkm, -,hkx⟩:=hk.out eG (by omega)
 have HKX:=hid hkx
 have HK:=hid hk
 have HLEN:=hid (iY x)
 have HTR:=hid (fun(W:World) (hb:Below w.heap.size w W) (i:Nat) (hi:i<ks.length) (v:Value) (hv:aJ W 3 knC v (ks.take i))=>(sx x v (ks.take i) W (hx.below hb) hs ht (hm.below hb) (hp.below hb) l htl hv (by rw[List.length_take];omega) (up hsh i).1 (up hsh i).2).mono (R':=fun e w'=>e=.returned (.tuple #[.agg (ee 1 ks[i].path).toArray,.agg (dV 0 0 gc gc).toArray,.int .i64 0])∧Below W.heap.size W w') (by
  rintro e w' ⟨⟨u,v,rfl,h⟩,hb2⟩
  unfold dH at h
  obtain⟨h1,h2⟩:=hask i hi
  rw[if_neg (by rw[h1];decide),h2] at h
  obtain⟨rfl,rfl⟩:=h
  exact⟨rfl,hb2⟩))
 clear hk hkx hx hm hp hask
 go_enter Tryz.func29,Tryz.ntmps29
 go_upto_region 1 with first|(refine df fC ?_;intro W1 hb1 hn1 hs1)|(refine df zdq ?_;intro W2 hb2 hn2 hs2)
 have HB2:=hid (Below.chain hb1 hb2)
 have HN1:=hid ((hb2.block _ (lx (hid hn1))).trans hn1)
 have kp:W2.cell? ⟨W1.heap.size,0,none⟩=some (.int .u8 p0.toNat):=(cell_of_row _ _ 0 _ _ _ hn2).trans rfl
 rw[hs1] at kp
 clear hb1 hn1 hs1 hb2 hn2 hs2
 by_cases hz:ks.length=0
 ·have e0:((ks.length:Int)==0)=true:=eqT (by omega)
  go_wp2_with fail
  go_ret
  exact⟨rfl,HB2.out⟩
 have e0:((ks.length:Int)==0)=false:=eqF (by omega)
 go_upto_region 4 with fail
 have ea:(wrap64 (p0.toNat:Int)).tmod (ks.length:Int)=((p0.toNat%ks.length:Nat):Int):=by
  have h1:wrap64 (p0.toNat:Int)=p0.toNat:=by have:=p0.toNat_lt;unfold wrap64;omega
  rw[h1]
  rfl
 rw[ea]
 have hat:p0.toNat%ks.length<ks.length:=Nat.mod_lt _ (by omega)
 generalize p0.toNat%ks.length=at_ at *
 clear ea kp
 obtain⟨kb,ko,rfl, -⟩:=HKX.out 0 (by omega)
 have hb3:=ab W2 (.cells #[] 98)
 have ho3:(W2.alloc (.cells #[] 98)).ownsRow W2.heap.size 98 3 (.slice (some ⟨W2.heap.size,0,none⟩) 0 0) 0 (([]:List KnL).flatMap knC):=⟨rfl,.inr ⟨W2.heap.size,0,#[],rfl,Nat.le_refl _,heap_alloc_new W2 _,Nat.le_refl _,Nat.zero_le _,rfl,rfl⟩⟩
 have aK:(ks.take at_).length=at_:=by rw[List.length_take];omega
 have hkt:aJ (W2.alloc (.cells #[] 98)) 3 knC (.slice (some ⟨kb,ko,none⟩) (ks.take at_).length kc) (ks.take at_):=by
  rw[aK]
  exact qN eG ((HK.out.below HB2.out (Nat.le_refl _)).below hb3 (Nat.le_refl _)) (show at_≤ks.length by omega)
 obtain⟨v4,W4,hr4,ho4,hb4⟩:=zbx knC (t:=91) (by_:=40) (xs:=ks.take at_) (l:=[]) Tryz.underlying91 (by kernel_rfl) eG (by omega) (by omega) gZ ho3 hkt hb3.size (by rw[aK];omega)
 rw[aK] at hr4 ho4
 rw[Nat.zero_add,List.nil_append] at ho4
 have HB4:=hid ((Below.chain HB2.out hb3).trans (hb4.mono HB2.out.size))
 obtain⟨a4,c4,rfl⟩:=az ho4
 have HO4:=hid ho4
 have HN4:=hid ((((hb4.block w.heap.size (lx HN1)).trans (hb3.block _ (lx HN1)))).trans HN1.out)
 clear hb3 ho3 hkt ho4 hb4
 have h4c:at_≤c4:=by
  obtain⟨-,⟨h1, -⟩|⟨b,cap,cur,h1, -, -,h2, -⟩⟩:=HO4.out
  ·simp at h1;omega
  ·simp at h1;omega
 have HR4:=hid (show aJ W4 3 knC (.slice a4 at_ c4) (ks.take at_) by
  have:=cG (l:=ks.take at_) (f:=knC) (w:=W4) (v:=.slice a4 at_ c4) (by rw[aK];exact HO4.out) (by rw[aK];unfold maxLen;omega)
  exact this)
 clear HO4
 go_upto_block 0 with(refine gA (zaN (t:=91) hr4) ?_)
 clear hr4
 go_wp2_with fail
 go_loopw [32] (fun i wr=>∃k:Nat,k≤at_∧i=.int .i64 k∧Below W4.heap.size W4 wr) (fun i _=>at_-(intOf i).toNat)
 case atStart=>exact⟨0,Nat.zero_le _,rfl,Below.refl _ _⟩
 case round=>
  obtain⟨k,hk,rfl,hbe⟩:=hrel
  have HBE:=hid hbe
  have HBW:=hid (Below.chain HB4.out hbe)
  have hx0:=(hbe.block _ (lx HN4)).trans HN4.out
  have HX0:=hid hx0
  clear hbe
  by_cases hlk:k<at_
  ·have hkk:k<ks.length:=by omega
   obtain⟨kb',ko',hkk2, -,aO⟩:=HKX.out k hkk
   obtain⟨rfl,rfl⟩:kb=kb'∧ko=ko':=by simpa using hkk2
   have LP:=hid (bF (aQ HBW.out (aO k hkk))).1
   have HTK:=hid (fun(W:World) (hb:Below wr.heap.size wr W)=>HTR.out W (Below.chain HBW.out hb) k hkk (.slice a4 k c4) (by
    have h1:=qN eG ((HR4.out.below HBE.out (Nat.le_refl _)).below hb (Nat.le_refl _)) (show k≤(ks.take at_).length by omega)
    rw[List.take_take,Nat.min_eq_left (by omega)] at h1
    exact h1))
   generalize ks[k].path=p at *
   clear aO hkk2
   go_upto_region 8 with fail
   refine aD (fun W=>W.heap[w.heap.size]?=some (.cells x.cells.toArray 72 (0,0))) 11 (by kernel_rfl) ?_
   intro wq hwq
   have hS:∀W,Below wq.heap.size wq W→W.heap[w.heap.size]?=some (.cells x.cells.toArray 72 (0,0)):=fun W hW=>((Below.chain hwq hW).block _ (lx HX0)).trans HX0.out
   have hS0:=hS wq (Below.refl _ _)
   refine WL.ld 0 (some 36) fC (fun W hW=>ak hW) HLEN.out (hi:=rfl) hS0 ?_
   try simp only[Act.put,sA,sB,sC]
   refine zeZ 1 (some 37) (hi:=rfl) (.inr hS0) ?_
   apply Exists.intro
   refine⟨fun W=>?_,?_⟩
   ·go_simp
    try rfl
   try simp only[Act.put,sA,sB,sC]
   refine zeZ 2 (some 38) (hi:=rfl) (.inr hS0) ?_
   apply Exists.intro
   refine⟨fun W=>?_,?_⟩
   ·go_simp
    try rfl
   try simp only[Act.put,sA,sB,sC]
   refine zeZ 3 (some 39) (hi:=rfl) (.inr hS0) ⟨.slice a4 k c4,fun W=>?_,?_⟩
   ·have e1:k≤c4:=by omega
    go_simp
   try simp only[Act.put,sA,sB,sC]
   refine zf3 ?_
   intro A0 hA
   have hwz:=hwq.size
   refine(show WL Tryz.prog _ _ _ 11 (3+7) (eu _ [4,5,6,7,8,9,10] (([none,none,none,none,none,none,none]:List (Option Value)).map Option.isSome)) (bN A0 [some 40,some 35,some 41,some 42,some 43,some 10,some 11] [none,none,none,none,none,none,none]) wq from
    vP [4,5,6,7,8,9,10] [some 40,some 35,some 41,some 42,some 43,some 10,some 11] [[],[0],[1],[1],[1],[],[]] (pJ wq.heap.size [.tuple #[.agg (ee 1 p).toArray,.agg (dV 0 0 gc gc).toArray,.int .i64 0],.tuple #[.agg (ee 1 p).toArray,.agg (dV 0 0 gc gc).toArray,.int .i64 0],.agg (ee 1 p).toArray,.agg (dV 0 0 gc gc).toArray,.int .i64 0]) 3 _ A0 wq hS (by simp[eQ]) rfl (by decide) [1,2,3,4] (by kernel_rfl) (by kernel_rfl) (fun d _ _ _ _ h=>by cases d<;>exact h) ?step ?pure ?fin 7 [none,none,none,none,none,none,none] wq rfl rfl rfl (Below.refl _ _) ⟨fun i v hi hv=>by
     match i,hi with
     |0,_=>simp at hv
     |1,_=>simp at hv
     |2,_=>simp at hv
     |3,_=>simp at hv
     |4,_=>simp at hv,fun v hv=>by simp at hv,fun v hv=>by simp at hv⟩)
   case step=>
    intro n hn hne st w' hl hb hr hsn hdep
    have hwB:wq.heap.size≤w'.heap.size:=hb.size
    match n,hn,hsn with
    |0,_,hsn=>
     refine⟨_,rfl,rfl,by kernel_rfl,fun K hK=>?_⟩
     have hg:=dL [some 40,some 35,some 41,some 42,some 43,some 10,some 11] st A0 36 (by decide)
     have hg2:=dL [some 40,some 35,some 41,some 42,some 43,some 10,some 11] st A0 39 (by decide)
     have HK:=hid hK
     clear hK
     generalize bN A0 [some 40,some 35,some 41,some 42,some 43,some 10,some 11] st=A at *
     have HC:=hid (HTK.out w' (Below.chain hwq hb))
     rw[hA] at hg hg2
     go_simp
     refine HC.out.mono ?_
     rintro e W5 ⟨rfl,hb5⟩
     exact HK.out _ W5 hb5 (hr.val hb5 hsn (by omega) rfl)
    |1,_,hsn=>exact absurd (by decide) hne
    |2,_,hsn=>exact absurd (by decide) hne
    |3,_,hsn=>exact absurd (by decide) hne
    |4,_,hsn=>exact absurd (by decide) hne
    |5,_,hsn=>
     refine⟨_,rfl,rfl,by kernel_rfl,fun K hK=>?_⟩
     have HK:=hid hK
     clear hK
     generalize bN A0 [some 40,some 35,some 41,some 42,some 43,some 10,some 11] st=A at *
     refine oW jz ?_
     intro zs W5 hzs hb5 hn5 hs5
     exact HK.out _ _ hb5 (hr.al5 hwB hb5 hsn hzs hn5)
    |6,_,hsn=>
     refine⟨_,rfl,rfl,by kernel_rfl,fun K hK=>?_⟩
     have HK:=hid hK
     clear hK
     generalize bN A0 [some 40,some 35,some 41,some 42,some 43,some 10,some 11] st=A at *
     refine oW eB ?_
     intro zs W5 hzs hb5 hn5 hs5
     exact HK.out _ _ hb5 (hr.al6 hwB hb5 hsn hzs hn5)
    |n+7,hn,_=>exact absurd hn (by simp)
   case pure=>
    intro n hn hne st w' hl hb hr hsn hdep
    match n,hn,hsn with
    |0,_,hsn=>exact absurd hne (by decide)
    |1,_,hsn=>
     obtain⟨v,hv⟩:=hdep 0 (by simp)
     have hg:=mV (a:=A0) (ds:=[some 40,some 35,some 41,some 42,some 43,some 10,some 11]) (i:=0) (t:=40) (by simp[eQ]) rfl hv (by rw[hA];exact Nat.le_of_ble_eq_true rfl)
     obtain rfl:=Option.some.inj (hr.a 0 v (by omega) hv)
     generalize bN A0 [some 40,some 35,some 41,some 42,some 43,some 10,some 11] st=A at *
     refine⟨_,_,rfl,rfl,by decide,by kernel_rfl,fun W=>?_,hr.val (Below.refl _ _) hsn (by omega) rfl⟩
     go_simp
     try rfl
    |2,_,hsn=>
     obtain⟨v,hv⟩:=hdep 1 (by simp)
     have hg:=mV (a:=A0) (ds:=[some 40,some 35,some 41,some 42,some 43,some 10,some 11]) (i:=1) (t:=35) (by simp[eQ]) rfl hv (by rw[hA];exact Nat.le_of_ble_eq_true rfl)
     obtain rfl:=Option.some.inj (hr.a 1 v (by omega) hv)
     generalize bN A0 [some 40,some 35,some 41,some 42,some 43,some 10,some 11] st=A at *
     refine⟨_,_,rfl,rfl,by decide,by kernel_rfl,fun W=>?_,hr.val (Below.refl _ _) hsn (by omega) rfl⟩
     go_simp
     try rfl
    |3,_,hsn=>
     obtain⟨v,hv⟩:=hdep 1 (by simp)
     have hg:=mV (a:=A0) (ds:=[some 40,some 35,some 41,some 42,some 43,some 10,some 11]) (i:=1) (t:=35) (by simp[eQ]) rfl hv (by rw[hA];exact Nat.le_of_ble_eq_true rfl)
     obtain rfl:=Option.some.inj (hr.a 1 v (by omega) hv)
     generalize bN A0 [some 40,some 35,some 41,some 42,some 43,some 10,some 11] st=A at *
     refine⟨_,_,rfl,rfl,by decide,by kernel_rfl,fun W=>?_,hr.val (Below.refl _ _) hsn (by omega) rfl⟩
     go_simp
     try rfl
    |4,_,hsn=>
     obtain⟨v,hv⟩:=hdep 1 (by simp)
     have hg:=mV (a:=A0) (ds:=[some 40,some 35,some 41,some 42,some 43,some 10,some 11]) (i:=1) (t:=35) (by simp[eQ]) rfl hv (by rw[hA];exact Nat.le_of_ble_eq_true rfl)
     obtain rfl:=Option.some.inj (hr.a 1 v (by omega) hv)
     generalize bN A0 [some 40,some 35,some 41,some 42,some 43,some 10,some 11] st=A at *
     refine⟨_,_,rfl,rfl,by decide,by kernel_rfl,fun W=>?_,hr.val (Below.refl _ _) hsn (by omega) rfl⟩
     go_simp
     try rfl
    |5,_,hsn=>exact absurd hne (by decide)
    |6,_,hsn=>exact absurd hne (by decide)
    |n+7,hn,_=>exact absurd hn (by simp)
   case fin=>
    intro st w' hl hall hr hb
    obtain⟨s0,s1,s2,s3,s4,s5,s6,rfl⟩:∃s0 s1 s2 s3 s4 s5 s6,st=[s0,s1,s2,s3,s4,s5,s6]:=by
     match st,hl with
     |[a,b,c,d,e,f,g],_=>exact⟨a,b,c,d,e,f,g,rfl⟩
    obtain⟨v0,h0⟩:=hall 0 (by simp)
    obtain⟨v1,h1⟩:=hall 1 (by simp)
    obtain⟨v2,h2⟩:=hall 2 (by simp)
    obtain⟨v3,h3⟩:=hall 3 (by simp)
    obtain⟨v4,h4⟩:=hall 4 (by simp)
    obtain⟨v5,h5⟩:=hall 5 (by simp)
    obtain⟨v6,h6⟩:=hall 6 (by simp)
    simp only[List.getElem?_cons_zero,List.getElem?_cons_succ,Option.some.injEq] at h0 h1 h2 h3 h4 h5 h6
    subst h0 h1 h2 h3 h4 h5 h6
    obtain rfl:=Option.some.inj (hr.a 0 v0 (by omega) rfl)
    obtain rfl:=Option.some.inj (hr.a 1 v1 (by omega) rfl)
    obtain rfl:=Option.some.inj (hr.a 2 v2 (by omega) rfl)
    obtain rfl:=Option.some.inj (hr.a 3 v3 (by omega) rfl)
    obtain rfl:=Option.some.inj (hr.a 4 v4 (by omega) rfl)
    obtain⟨m5,z5,rfl,hm5,hn5,hz5⟩:=hr.b v5 rfl
    obtain⟨m6,z6,rfl,hm6,hn6,hz6⟩:=hr.c v6 rfl
    have hne:m6≠m5:=fun e=>by rw[e,hn5] at hn6;simp at hn6
    have HBQ:=hid (And.intro (Below.chain hwq hb) (And.intro hm5 hm6))
    rw[hA]
    clear hr hall hS hS0 hwq hb hl
    simp only[bN,Act.put,sA,sB,sC]
    refine WL.o 11 (hi:=rfl) ?_
    intro K hK
    refine iM (xs:=(ee 1 p).toArray) jz hn5 hz5 rfl (fq _ _) ?_
    intro W7 ht7 hn7 hs7
    refine hK.out _ _ (.inl (by kernel_rfl)) ?_
    clear hK K
    try simp only[Act.put,sA]
    have hn67:=(ht7.foot.block m6 (lx (hid hn6)) hne).trans hn6
    refine WL.o 12 (hi:=rfl) ?_
    intro K hK
    refine iM (xs:=(dV 0 0 gc gc).toArray) eB hn67 hz6 rfl (dv _ _ _ _ rfl rfl) ?_
    intro W8 ht8 hn8 hs8
    refine hK.out _ _ (.inl (by kernel_rfl)) ?_
    clear hK K
    try simp only[Act.put]
    have hn78:=(ht8.foot.block m5 (lx (hid hn7)) hne.symm).trans hn7
    have HN8:=hid (And.intro hn78 (And.intro ht7 ht8))
    clear hn78 ht7 ht8 hn67 hn5 hn6 hn7 hs7 hs8 hm5 hm6
    refine WL.o 13 (hi:=rfl) ?_
    intro K hK
    go_simp
    refine hK.out _ _ (.inl (by kernel_rfl)) ?_
    clear hK K
    try simp only[Act.put,sA,sB,sC]
    refine WL.d ?_
    obtain⟨hn78,ht7,ht8⟩:=HN8.out
    obtain⟨hbq,hm5,hm6⟩:=HBQ.out
    have hb8:Below wr.heap.size wr W8:=hbq.trans ((ht7.below (by omega)).trans (ht8.below (by omega)))
    have l0:W8.cell? ⟨m5,0,none⟩=some (.int .i64 1):=(cell_of_row _ _ 0 _ _ _ hn78).trans rfl
    have l1:W8.cell? ⟨m5,1,none⟩=some (.string (bs p)):=(cell_of_row _ _ 1 _ _ _ hn78).trans rfl
    have l2:=Below.keeps hb8 LP.out
    have HB8:=hid hb8
    clear hn78 ht7 ht8 hbq hm5 hm6 hb8 hn8 hne
    go_upto_region 9 with fail
    refine aC (by kernel_rfl) (by kernel_rfl) ?_
    repeat(refine WQ.step (fun K hK=>?_);go_simp;first|(refine hK _ ?_;clear hK K)|(apply Exists.intro;refine⟨fun W hW=>?_,hK _ ?_⟩;(first|with_reducible rfl|(have y0:=Below.keeps hW l0;have y1:=Below.keeps hW l1;have y2:=Below.keeps hW l2;go_simp;first|rfl|exact⟨rfl,rfl⟩|(simp;done)));clear hK K))
    refine WQ.nil ?_
    intro wt hwt
    have HWT:=hid hwt
    clear hwt l0 l1 l2
    go_wp2_with fail
    exact⟨⟨k+1,by omega,by go_num,Below.chain HBE.out (Below.chain HB8.out HWT.out)⟩,by simp[intOf];omega⟩
  ·obtain rfl:k=at_:=by omega
   obtain⟨kb',ko',hkk2, -,aO⟩:=HKX.out k hat
   obtain⟨rfl,rfl⟩:kb=kb'∧ko=ko':=by simpa using hkk2
   have LP:=hid (bF (aQ HBW.out (aO k hat))).1
   have HTK:=hid (HTR.out wr HBW.out k hat (.slice a4 k c4) (HR4.out.below HBE.out (Nat.le_refl _)))
   generalize ks[k].path=p at *
   clear aO hkk2
   have r0:=ak hx0
   go_upto_region 13 with first|(refine bX fC r0 HLEN.out ?_)|(go_at_call 28;refine HTK.out.mono ?_;rintro e W6 ⟨rfl,hb6⟩;have HB6:=hid hb6;clear hb6)|(refine fh jz ?_;intro z9 W7 hz9 hb7 hn7 hs7;have HS7:=hid hs7;clear hs7)|(refine fh eB ?_;intro z10 W8 hz10 hb8 hn8 hs8;have HS8:=hid hs8;clear hs8;have hn78:=(hb8.block _ (lx (hid hn7))).trans hn7)|(refine dQ (xs:=(ee 1 p).toArray) jz hn78 hz9 rfl (fq _ _) ?_;intro W9 ht9 hn9 hs9;have hn89:=(ht9.foot.block W7.heap.size (lx (hid hn8)) (by have:=HS7.out;omega)).trans hn8;clear hs9)|(refine dQ (xs:=(dV 0 0 gc gc).toArray) eB hn89 hz10 rfl (dv _ _ _ _ rfl rfl) ?_;intro W10 ht10 hn10 hs10;clear hs10)
   try simp only[Act.put,sA,sB,sC]
   have hn910:=(ht10.foot.block W6.heap.size (lx (hid hn9)) (by have:=HS7.out;omega)).trans hn9
   have l0:W10.cell? ⟨W6.heap.size,0,none⟩=some (.int .i64 1):=(cell_of_row _ _ 0 _ _ _ hn910).trans rfl
   have l1:W10.cell? ⟨W6.heap.size,1,none⟩=some (.string (bs p)):=(cell_of_row _ _ 1 _ _ _ hn910).trans rfl
   have hz7:=hb7.size
   have hb610:Below W6.heap.size W6 W10:=(hb7.trans (hb8.mono hb7.size)).trans ((ht9.below (Nat.le_refl _)).trans (ht10.below hb7.size))
   have hbr:=Below.chain HB6.out hb610
   have l2:=Below.keeps hbr LP.out
   have HB10:=hid (Below.chain HBW.out hbr)
   clear hbr hb610 hn910 ht9 ht10 hn9 hn10 hn78 hn89 hn8 hn7 hb7 hb8 hz7
   refine aC (by kernel_rfl) (by kernel_rfl) ?_
   repeat(refine WQ.step (fun K hK=>?_);go_simp;first|(refine hK _ ?_;clear hK K)|(apply Exists.intro;refine⟨fun W hW=>?_,hK _ ?_⟩;(first|with_reducible rfl|(have y0:=Below.keeps hW l0;have y1:=Below.keeps hW l1;have y2:=Below.keeps hW l2;go_simp;first|rfl|exact⟨rfl,rfl⟩|(simp;done)));clear hK K))
   refine WQ.nil ?_
   intro wt hwt
   have HWT:=hid hwt
   clear hwt l0 l1 l2
   go_wp2_with fail
   go_ret
   exact⟨rfl,Below.chain HB10.out HWT.out⟩
end Go.Proofs.YtlbipokkdiiaiaaGreatDoor
