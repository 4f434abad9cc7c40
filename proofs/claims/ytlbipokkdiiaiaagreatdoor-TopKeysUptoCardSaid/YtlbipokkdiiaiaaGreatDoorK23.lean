/- Lemmas for TopKeysUpto: F81, F82, F83, F67e, F84, K4, K5. -/
import Derived.Test.YtlbipokkdiiaiaaGreatDoorK22
import Derived.Test.YtlbipokkdiiaiaaGreatDoorK18
import Derived.Test.YtlbipokkdiiaiaaGreatDoorK16
namespace Go.Proofs.YtlbipokkdiiaiaaGreatDoor
open Go.RowKit Exec Go.Shelf
set_option maxRecDepth 100000
attribute [local go_sem] Oper.semAt_some
def ub:Txt:=[111,117,116]
theorem zep (p:Txt) (w:World) (hp:p.length≤1500000):Calls Tryz.prog 137 #[.string (bs p)] w fun e w'=>e=.returned (.bool (!gq p ub))∧Below w.heap.size w w':=by
 have HU:=hid (qA p ub (by omega) (by decide) w)
 generalize gq p ub=q at *
 go_enter Tryz.func137,Tryz.ntmps137
 go_wp2_with (go_at_call 89;refine HU.out.mono ?_;rintro e W2 ⟨rfl,hb⟩)
 go_ret
 exact⟨rfl,hb⟩
theorem zeu (p:Txt) (w:World) (hp:p.length≤1500000):Calls Tryz.prog 138 #[.string (bs p)] w fun e w'=>e=.returned (.bool (!dY p))∧Below w.heap.size w w':=by
 have HU:=hid (jq p (by omega) w)
 generalize dY p=q at *
 go_enter Tryz.func138,Tryz.ntmps138
 go_wp2_with (go_at_call 51;refine HU.out.mono ?_;rintro e W2 ⟨rfl,hb⟩)
 go_ret
 exact⟨rfl,hb⟩
theorem zen (p:Txt) (w:World) (hp:p.length≤1500000) (hm:bE w):Calls Tryz.prog 139 #[.string (bs p)] w fun e w'=>e=.returned (.bool (!lu p))∧Below w.heap.size w w':=by
 have HU:=hid (ur p w hp hm)
 generalize lu p=q at *
 go_enter Tryz.func139,Tryz.ntmps139
 go_wp2_with (go_at_call 140;refine HU.out.mono ?_;rintro e W2 ⟨rfl,hb⟩)
 go_ret
 exact⟨rfl,hb⟩
set_option maxHeartbeats 8000000 in
theorem yD (x:dW) (w0 w:World) (mb:Nat) (s:List Txt) (hx:fe w0 x) (hs:dU x.l) (ht:x.l.tool.length≤1000000) (hm:bE w0) (hb:Below w0.heap.size w0 w) (hmb:w0.heap.size≤mb) (hset:w.heap[mb]?=some (dP s)):
 Calls Tryz.prog 93 #[.agg x.cells.toArray,.map (some mb)] w fun e w'=>(∃i:Int,e=.returned (.int .i64 i)∧(i=0→∃l,cJ x.l.tool=.ok l))∧Below w0.heap.size w0 w':=by
 have HX:=hid hx
 have HS:=hid hs
 have HM:=hid hm
 obtain⟨ai,ci,hiv, -⟩:=hx.ins.out
 obtain⟨aa,ca,hav, -⟩:=hx.asks.out
 obtain⟨ao,co,hov, -, -,hxo⟩:=hx.outs.out
 have HXO:=hid hxo
 have HAO:=hid (fun(W:World) (hW:Below w0.heap.size w0 W)=>gL x.ov x.l.outs 137 #[] (enters_of Tryz.func137 (by kernel_rfl) rfl) (fun p=>!gq p ub) W (HX.out.outs.below hW) (by have:=HS.out.outs;omega) fun W' hW' p hp=>zep p W' (HS.out.ol p hp))
 have HAI:=hid (fun(W:World) (hW:Below w0.heap.size w0 W)=>gL x.iv x.l.ins 138 #[] (enters_of Tryz.func138 (by kernel_rfl) rfl) (fun p=>!dY p) W (HX.out.ins.below hW) (by have:=HS.out.ins;omega) fun W' hW' p hp=>zeu p W' (HS.out.il p hp))
 have HAA:=hid (fun(W:World) (hW:Below w0.heap.size w0 W)=>gL x.av x.l.asks 139 #[] (enters_of Tryz.func139 (by kernel_rfl) rfl) (fun p=>!lu p) W (HX.out.asks.below hW) (by have:=HS.out.asks;omega) fun W' hW' p hp=>zen p W' (HS.out.al p hp) ((HM.out.below hW).below hW'))
 rw[hov] at HAO
 rw[hiv] at HAI
 rw[hav] at HAA
 clear hx hm hxo
 go_enter Tryz.func93,Tryz.ntmps93
 go_upto_region 1 with(refine cI dc ?_;intro W1 hb1 hn1 hs1)
 have k2:W1.cell? ⟨w.heap.size,2,none⟩=some (.string (bs x.l.tool)):=(cell_of_row _ _ 2 _ _ _ hn1).trans rfl
 have k4:W1.cell? ⟨w.heap.size,4,none⟩=some (.slice ai x.l.ins.length ci):=(cell_of_row _ _ 4 _ _ _ hn1).trans (congrArg some hiv)
 have k5:W1.cell? ⟨w.heap.size,5,none⟩=some (.slice aa x.l.asks.length ca):=(cell_of_row _ _ 5 _ _ _ hn1).trans (congrArg some hav)
 have k6:W1.cell? ⟨w.heap.size,6,none⟩=some (.slice ao x.l.outs.length co):=(cell_of_row _ _ 6 _ _ _ hn1).trans (congrArg some hov)
 have HB1:=hid (hb.trans (hb1.mono hb.size))
 have HSET:=hid ((hb1.block _ (lx (hid hset))).trans hset)
 have HLO:=hid (show w0.heap.size≤w.heap.size∧mb<w.heap.size from⟨hb.size,lx (hid hset)⟩)
 have HC:=hid (zm x.l.tool W1 ht (HM.out.below HB1.out))
 have HK:=hid (And.intro k4 (And.intro k5 k6))
 clear hb hset hb1 hn1 hs1 k4 k5 k6
 go_upto_region 2 with(go_at_call 136;refine HC.out.mono ?_;rintro e W2 ⟨⟨er,k,rfl,her⟩,hb2⟩;have HER:=hid her;clear her)
 by_cases h0:er=0
 ·have e0:((er:Int) !=0)=false:=neF (by omega)
  obtain⟨k4,k5,k6⟩:=HK.out
  have k4:=Below.keeps hb2 k4
  have k5:=Below.keeps hb2 k5
  have k6:=Below.keeps hb2 k6
  have HTL:=hid (HER.out.1 h0)
  have HB2:=hid (HB1.out.trans (hb2.mono HB1.out.size))
  have HSET2:=hid ((hb2.block _ (lx HSET)).trans HSET.out)
  clear hb2 k2
  by_cases ho:x.l.outs.length=0
  ·have e1:((x.l.outs.length:Int)==0)=true:=eqT (by omega)
   go_wp2_with fail
   go_ret
   exact⟨⟨_,rfl,fun e=>absurd e (by decide)⟩,HB2.out⟩
  have e1:((x.l.outs.length:Int)==0)=false:=eqF (by omega)
  cases hq1:x.l.outs.any fun p=>!gq p ub with
  |true=>
   rw[hq1] at HAO
   clear hq1
   go_wp2_with (go_at_call 141;refine(HAO.out W2 HB2.out).mono ?_;rintro e W3 ⟨rfl,hb3⟩;have HB3:=hid (HB2.out.trans (hb3.mono HB2.out.size));have k4:=Below.keeps hb3 k4;have k5:=Below.keeps hb3 k5;have k6:=Below.keeps hb3 k6;have HSET3:=hid ((hb3.block _ (lx HSET2)).trans HSET2.out);clear hb3)
   go_ret
   exact⟨⟨_,rfl,fun e=>absurd e (by decide)⟩,HB3.out⟩
  |false=>
   rw[hq1] at HAO
   clear hq1
   cases hq2:x.l.ins.any fun p=>!dY p with
   |true=>
    rw[hq2] at HAI
    clear hq2
    go_wp2_with first|(go_at_call 141;refine(HAO.out W2 HB2.out).mono ?_;rintro e W3 ⟨rfl,hb3⟩;have HB3:=hid (HB2.out.trans (hb3.mono HB2.out.size));have k4:=Below.keeps hb3 k4;have k5:=Below.keeps hb3 k5;have k6:=Below.keeps hb3 k6;have HSET3:=hid ((hb3.block _ (lx HSET2)).trans HSET2.out);clear hb3)|(go_at_call 141;refine(HAI.out W3 HB3.out).mono ?_;rintro e W4 ⟨rfl,hb4⟩;have HB4:=hid (HB3.out.trans (hb4.mono HB3.out.size));have k4:=Below.keeps hb4 k4;have k5:=Below.keeps hb4 k5;have k6:=Below.keeps hb4 k6;have HSET4:=hid ((hb4.block _ (lx HSET3)).trans HSET3.out);clear hb4)
    go_ret
    exact⟨⟨_,rfl,fun e=>absurd e (by decide)⟩,HB4.out⟩
   |false=>
    rw[hq2] at HAI
    clear hq2
    cases hq3:x.l.asks.any fun p=>!lu p with
    |true=>
     rw[hq3] at HAA
     clear hq3
     go_wp2_with first|(go_at_call 141;refine(HAO.out W2 HB2.out).mono ?_;rintro e W3 ⟨rfl,hb3⟩;have HB3:=hid (HB2.out.trans (hb3.mono HB2.out.size));have k4:=Below.keeps hb3 k4;have k5:=Below.keeps hb3 k5;have k6:=Below.keeps hb3 k6;have HSET3:=hid ((hb3.block _ (lx HSET2)).trans HSET2.out);clear hb3)|(go_at_call 141;refine(HAI.out W3 HB3.out).mono ?_;rintro e W4 ⟨rfl,hb4⟩;have HB4:=hid (HB3.out.trans (hb4.mono HB3.out.size));have k4:=Below.keeps hb4 k4;have k5:=Below.keeps hb4 k5;have k6:=Below.keeps hb4 k6;have HSET4:=hid ((hb4.block _ (lx HSET3)).trans HSET3.out);clear hb4)|(go_at_call 141;refine(HAA.out W4 HB4.out).mono ?_;rintro e W5 ⟨rfl,hb5⟩;have HB5:=hid (HB4.out.trans (hb5.mono HB4.out.size));have k4:=Below.keeps hb5 k4;have k5:=Below.keeps hb5 k5;have k6:=Below.keeps hb5 k6;have HSET5:=hid ((hb5.block _ (lx HSET4)).trans HSET4.out);clear hb5)
     go_ret
     exact⟨⟨_,rfl,fun e=>absurd e (by decide)⟩,HB5.out⟩
    |false=>
     rw[hq3] at HAA
     clear hq3
     go_upto_region 9 with first|(go_at_call 141;refine(HAO.out W2 HB2.out).mono ?_;rintro e W3 ⟨rfl,hb3⟩;have HB3:=hid (HB2.out.trans (hb3.mono HB2.out.size));have k4:=Below.keeps hb3 k4;have k5:=Below.keeps hb3 k5;have k6:=Below.keeps hb3 k6;have HSET3:=hid ((hb3.block _ (lx HSET2)).trans HSET2.out);clear hb3)|(go_at_call 141;refine(HAI.out W3 HB3.out).mono ?_;rintro e W4 ⟨rfl,hb4⟩;have HB4:=hid (HB3.out.trans (hb4.mono HB3.out.size));have k4:=Below.keeps hb4 k4;have k5:=Below.keeps hb4 k5;have k6:=Below.keeps hb4 k6;have HSET4:=hid ((hb4.block _ (lx HSET3)).trans HSET3.out);clear hb4)|(go_at_call 141;refine(HAA.out W4 HB4.out).mono ?_;rintro e W5 ⟨rfl,hb5⟩;have HB5:=hid (HB4.out.trans (hb5.mono HB4.out.size));have k4:=Below.keeps hb5 k4;have k5:=Below.keeps hb5 k5;have k6:=Below.keeps hb5 k6;have HSET5:=hid ((hb5.block _ (lx HSET4)).trans HSET4.out);clear hb5)
     have hso:=HS.out.outs
     have HSETS:=hid (show ∃s',W5.heap[mb]?=some (dP s') from⟨s,HSET5.out⟩)
     clear HSET HSET2 HSET3 HSET4 HSET5 HK HAO HAI HAA
     go_wp2_with fail
     go_loopw [46] (fun i wr=>∃(k:Nat) (s':List Txt),k≤x.l.outs.length∧i=.int .i64 k∧wr.heap[mb]?=some (dP s')∧Below w0.heap.size w0 wr) (fun i _=>x.l.outs.length-(intOf i).toNat)
     case atStart=>
      obtain⟨s',h⟩:=HSETS.out
      exact⟨0,s',Nat.zero_le _,rfl,h,HB5.out⟩
     case round=>
      obtain⟨k,s',hk,rfl,hset,hbe⟩:=hrel
      by_cases aH:k<x.l.outs.length
      ·obtain⟨b,o,rfl,L0⟩:=HXO.out k aH
       have L1:=Below.keeps hbe L0
       have HBE:=hid hbe
       have HSE:=hid hset
       have HLT:=hid aH
       generalize x.l.outs[k]=p at *
       clear hbe L0
       by_cases hp:p∈s'
       ·have hlk:=kj hset p true (decide_eq_true hp)
        clear hset
        go_wp2_with fail
        go_ret
        exact⟨⟨_,rfl,fun e=>absurd e (by decide)⟩,HBE.out⟩
       ·have hlk:=kj hset p false (decide_eq_false hp)
        obtain⟨W6,hu,ht6,hn6⟩:=wV hset p hp
        have H6:=hid (And.intro hn6 (HBE.out.trans (ht6.below hmb)))
        clear hset ht6 hn6
        go_wp2_with fail
        obtain⟨hn6,hb6⟩:=H6.out
        exact⟨⟨k+1,_,by omega,by go_num,hn6,hb6⟩,by simp[intOf];omega⟩
      ·obtain rfl:k=x.l.outs.length:=by omega
       have HBE:=hid hbe
       clear hbe hset
       go_wp2_with fail
       go_ret
       exact⟨⟨_,rfl,fun _=>HTL.out⟩,HBE.out⟩
 ·have e0:((er:Int) !=0)=true:=neT (by omega)
  go_wp2_with fail
  go_ret
  exact⟨⟨_,rfl,fun e=>absurd e (by omega)⟩,HB1.out.trans (hb2.mono HB1.out.size)⟩
set_option maxHeartbeats 1000000 in
theorem zay (f:kK) (ahead:List UInt8) (first:Bool) (hf:f.1.length≤1000000000000000) (hf2:f.2.length≤1000000000000000) (w:World):
 Calls Tryz.prog 92 #[.agg #[.string (bs f.1),.string (bs f.2)],.string (bs ahead),.bool first] w fun e w'=>e=.returned (.int .i64 (fR f ahead first))∧Below w.heap.size w w':=by
 obtain⟨p,d⟩:=f
 simp only at hf hf2 ⊢
 obtain⟨bm,hbm⟩:∃bm,dY p=bm:=⟨_,rfl⟩
 obtain⟨bo,hbo⟩:∃bo,(p==zbM)=bo:=⟨_,rfl⟩
 obtain⟨bu,hbu⟩:∃bu,gq p zbM=bu:=⟨_,rfl⟩
 have Hm:=hid (i6 p hf bm hbm)
 have Hu:=hid (zax p zbM hf (by decide) bu hbu)
 have Hbad:Hid (nC p=(!bm||bo||bu)):=by apply hid;rw[nC,hbm,hbo,hbu]
 have hbo':(p==[111,117,116])=bo:=hbo
 clear hbm hbo hbu
 have fin:Hid (∀W n,Below w.heap.size w W→fR (p,d) ahead first=n→Ending.returned (.int .i64 n)=Ending.returned (.int .i64 (fR (p,d) ahead first))∧Below w.heap.size w W):=by
  apply hid;intro W n hb h;rw[h];exact⟨rfl,hb⟩
 have hb0:Below w.heap.size w (w.alloc (.cells #[.string (bs p),.string (bs d)] 51)):=(Below.refl _ _).alloc (Nat.le_refl _) _
 have hcell:∀w1,Below (w.heap.size+1) (w.alloc (.cells #[.string (bs p),.string (bs d)] 51)) w1→w1.cell? ⟨w.heap.size,0,none⟩=some (.string (bs p))∧w1.cell? ⟨w.heap.size,1,none⟩=some (.string (bs d)):=by
  intro w1 hb1
  exact⟨(hb1.cell (by simp)).trans (by rw[World.cell?_alloc_mark];rfl),(hb1.cell (by simp)).trans (by rw[World.cell?_alloc_mark];rfl)⟩
 have Hb0:=hid hb0;clear hb0
 have Hcell:=hid hcell;clear hcell
 cases bm with
 |false=>
  go_enter Tryz.func92,Tryz.ntmps92
  go_wp2_with fail
  refine(Hm.out _).mono ?_
  rintro e w1 ⟨rfl,hb1⟩
  rw[World.size_alloc] at hb1
  have hb2:=Hb0.out.trans (hb1.mono (by omega))
  go_wp2_with fail
  go_ret
  exact fin.out _ 7 hb2 (by unfold fR;rw[if_pos (by rw[Hbad.out];rfl)])
 |true=>
  cases bo with
  |true=>
   go_enter Tryz.func92,Tryz.ntmps92
   go_wp2_with fail
   refine(Hm.out _).mono ?_
   rintro e w1 ⟨rfl,hb1⟩
   rw[World.size_alloc] at hb1
   obtain⟨d0,d1⟩:=Hcell.out _ hb1
   have hb2:=Hb0.out.trans (hb1.mono (by omega))
   clear hb1
   go_wp2_with fail
   go_ret
   exact fin.out _ 7 hb2 (by unfold fR;rw[if_pos (by rw[Hbad.out];rfl)])
  |false=>
   cases bu with
   |true=>
    go_enter Tryz.func92,Tryz.ntmps92
    go_wp2_with fail
    refine(Hm.out _).mono ?_
    rintro e w1 ⟨rfl,hb1⟩
    rw[World.size_alloc] at hb1
    obtain⟨d0,d1⟩:=Hcell.out _ hb1
    have hs1:=hb1.size
    rw[World.size_alloc] at hs1
    have hb2:=Hb0.out.trans (hb1.mono (by omega))
    go_wp2_with fail
    refine(Hu.out _).mono ?_
    rintro e w2 ⟨rfl,hb3⟩
    have hb4:=hb2.trans (hb3.mono (by omega))
    obtain⟨d0',d1'⟩:=Hcell.out _ (hb1.trans (hb3.mono hs1))
    clear hb1 hb3 d0 d1
    go_wp2_with fail
    go_ret
    exact fin.out _ 7 hb4 (by unfold fR;rw[if_pos (by rw[Hbad.out];rfl)])
   |false=>
    have Hnb:Hid (¬nC p=true):=by apply hid;rw[Hbad.out];simp
    obtain⟨be,hbe⟩:∃be,(p==ahead)=be:=⟨_,rfl⟩
    obtain⟨bl,hbl⟩:∃bl,Op.bytesLess p ahead=bl:=⟨_,rfl⟩
    have Hbe:=hid hbe
    have Hbl:=hid hbl
    by_cases hd:65536<d.length
    all_goals
     cases first<;>cases be<;>cases bl
     all_goals
      go_enter Tryz.func92,Tryz.ntmps92
      go_wp2_with fail
      refine(Hm.out _).mono ?_
      rintro e w1 ⟨rfl,hb1⟩
      rw[World.size_alloc] at hb1
      obtain⟨d0,d1⟩:=Hcell.out _ hb1
      have hs1:=hb1.size
      rw[World.size_alloc] at hs1
      have hb2:=Hb0.out.trans (hb1.mono (by omega))
      go_wp2_with fail
      refine(Hu.out _).mono ?_
      rintro e w2 ⟨rfl,hb3⟩
      have hb4:=hb2.trans (hb3.mono (by omega))
      obtain⟨d0',d1'⟩:=Hcell.out _ (hb1.trans (hb3.mono hs1))
      clear hb1 hb3 d0 d1
      go_wp2_with fail
      go_ret
      first
       |exact fin.out _ 8 hb4 (by unfold fR;rw[if_neg Hnb.out];simp[Hbe.out];done)
       |exact fin.out _ 2 hb4 (by unfold fR;rw[if_neg Hnb.out];simp[Hbe.out,Hbl.out];done)
       |exact fin.out _ 6 hb4 (by unfold fR;rw[if_neg Hnb.out];simp[Hbe.out,Hbl.out,hd];done)
       |exact fin.out _ 0 hb4 (by unfold fR;rw[if_neg Hnb.out];simp[Hbe.out,Hbl.out,hd];done)
       |go_goals
set_option maxHeartbeats 1000000 in
theorem vN (v0:Value) (n0:Nat) (fs:List kK) (w:World) (h0:ap w 2 v0 n0 (ed fs)) (hbig:∀f∈fs,f.1.length≤1000000000000000∧f.2.length≤1000000000000000):
 Calls Tryz.prog 49 #[v0] w fun e w'=>e=.returned (.int .i64 (fm fs))∧Below w.heap.size w w':=by
 have h00:=h0
 obtain⟨rfl,a0,c0,rfl,hc0,hm0, -⟩:=h0.files
 clear h0
 unfold maxLen at hm0
 by_cases h1024:1024<fs.length
 ·go_enter Tryz.func49,Tryz.ntmps49
  go_wp2
  go_ret
  exact⟨by rw[fm,if_pos h1024];rfl,Below.refl _ _⟩
 ·have Hcl:Hid (fm fs=ef [] true fs):=by apply hid;rw[fm,if_neg h1024]
  go_enter Tryz.func49,Tryz.ntmps49
  go_wp2
  go_loopw [3,12] (fun ah i wr=>∃(k:Nat) (ahead:List UInt8),k≤fs.length∧i=.int .i64 k∧ah=.string (bs ahead)∧fm fs=ef ahead (k==0) (fs.drop k)∧Below w.heap.size w wr) (fun _ i _=>fs.length-(intOf i).toNat)
  case atStart=>exact⟨0,[],by omega,rfl,rfl,Hcl.out,Below.refl _ _⟩
  case round=>
   obtain⟨k,ahead,hk,rfl,rfl,hg,hbw⟩:=hrel
   have Hg:=hid hg;clear hg
   have hsz:=hbw.size
   by_cases aH:k<fs.length
   ·obtain⟨-,a1,c1,hv, -, -,hx1⟩:=(h00.below hbw (Nat.le_refl _)).files
    obtain⟨b0,o0,rfl,hb0,hcl0⟩:=hx1 k aH
    obtain⟨rfl,rfl⟩:a0=some ⟨b0,o0,none⟩∧c0=c1:=by simpa using hv
    have e0:=(hcl0 k aH).1
    have e1:=(hcl0 k aH).2
    have hl:=hbig fs[k] (List.getElem_mem aH)
    clear hcl0 hx1 hv
    have Hd:=hid (jj fs k aH)
    obtain⟨fst,hfst⟩:∃fst,((k:Int)==0)=fst:=⟨_,rfl⟩
    have Hfst:Hid ((k==0)=fst):=by
     apply hid;rw[←hfst]
     by_cases h:k=0
     ·rw[eqT (by omega)];simp[h]
     ·rw[eqF (by omega)];simp[h]
    obtain⟨r,hr⟩:∃r,fR fs[k] ahead fst=r:=⟨_,rfl⟩
    have Hl:=hid (zay fs[k] ahead fst hl.1 hl.2)
    rw[hr] at Hl
    have Hr:=hid hr;clear hr
    go_wp2_with fail
    refine(Hl.out _).mono ?_
    rintro e w2 ⟨rfl,hb2⟩
    rw[World.size_alloc] at hb2
    have d0:w2.cell? ⟨wr.heap.size,0,none⟩=some (.string (bs fs[k].1)):=(hb2.cell (by simp)).trans (by rw[World.cell?_alloc_mark];rfl)
    have hb3:=(hbw.alloc hsz _).trans (hb2.mono (by omega))
    clear hb2
    by_cases h0:r=0
    ·subst h0
     go_wp2_with fail
     refine⟨⟨k+1,fs[k].1,by omega,by go_num,rfl,?_,hb3⟩,by simp[intOf];omega⟩
     rw[Hg.out,Hd.out,ef,Hfst.out,if_pos Hr.out,show(k+1==0)=false from by simp]
    ·have hne:((r:Int) !=0)=true:=neT (by omega)
     go_wp2_with fail
     go_ret
     exact⟨by rw[Hg.out,Hd.out,ef,Hfst.out,if_neg (by rw[Hr.out];exact h0),Hr.out];rfl,hb3⟩
   ·go_wp2
    go_ret
    exact⟨by rw[Hg.out,List.drop_eq_nil_of_le (by omega)];rfl,hbw⟩
theorem uo:∀(a b:Txt),Op.bytesLess a b=false→a≠b→Op.bytesLess b a=true
 |[],[],_,h=>absurd rfl h
 |[],_::_,h,_=>by simp[Op.bytesLess] at h
 |_::_,[],_,_=>by simp[Op.bytesLess]
 |x::a,y::b,h,hne=>by
  simp only[Op.bytesLess] at h ⊢
  by_cases h1:y<x
  ·simp[h1]
  ·by_cases h2:x<y
   ·simp[h2] at h
   ·have e:x=y:=UInt8.le_antisymm (by simpa using h1) (by simpa using h2)
    subst e
    simp at h ⊢
    exact uo a b h (fun e=>hne (by rw[e]))
theorem sW:∀(a b c:Txt),Op.bytesLess a b=true→Op.bytesLess b c=true→Op.bytesLess a c=true
 |_,[],_,h,_=>by cases ‹List UInt8›<;>simp[Op.bytesLess] at h
 |_,_::_,[],_,h=>by simp[Op.bytesLess] at h
 |[],_::_,_::_,_,_=>by simp[Op.bytesLess]
 |x::a,y::b,z::c,h1,h2=>by
  simp only[Op.bytesLess,Bool.or_eq_true,decide_eq_true_eq,Bool.and_eq_true,beq_iff_eq] at h1 h2 ⊢
  rcases h1 with h1|⟨rfl,h1⟩
  ·rcases h2 with h2|⟨rfl,h2⟩
   ·exact .inl (UInt8.lt_trans h1 h2)
   ·exact .inl h1
  ·rcases h2 with h2|⟨rfl,h2⟩
   ·exact .inl h2
   ·exact .inr ⟨rfl,sW a b c h1 h2⟩
theorem zeN {f:Txt×Txt} {a:Txt} {q:Bool} (h:fR f a q=0):f.2.length≤65536∧(q=false→Op.bytesLess a f.1=true):=by
 unfold fR at h
 split at h
 ·omega
 ·split at h
  ·omega
  ·rename_i h2
   split at h
   ·omega
   ·rename_i h3
    split at h
    ·omega
    ·refine⟨by omega,fun hq=>?_⟩
     subst hq
     simp only[true_and,Bool.not_eq_true,beq_eq_false_iff_ne] at h2 h3
     exact uo _ _ h3 h2
theorem zdA:∀(fs:List (Txt×Txt)) (a:Txt) (q:Bool),ef a q fs=0→(∀f∈fs,f.2.length≤65536∧(q=false→Op.bytesLess a f.1=true))∧(fs.map (·.1)).Nodup
 |[],_,_,_=>⟨fun _ h=>absurd h List.not_mem_nil,List.nodup_nil⟩
 |f::fs,a,q,h=>by
  unfold ef at h
  split at h
  ·rename_i h0
   obtain⟨h1,h2⟩:=zeN h0
   obtain⟨h3,h4⟩:=zdA fs f.1 false h
   refine⟨fun g hg=>?_,?_⟩
   ·rcases List.mem_cons.1 hg with rfl|hg
    ·exact⟨h1,h2⟩
    ·exact⟨(h3 g hg).1,fun hq=>sW _ _ _ (h2 hq) ((h3 g hg).2 rfl)⟩
   ·rw[List.map_cons,List.nodup_cons]
    refine⟨fun hm=>?_,h4⟩
    obtain⟨g,hg,e⟩:=List.mem_map.1 hm
    have:=(h3 g hg).2 rfl
    rw[e,lN] at this
    cases this
  ·rename_i h0
   exact absurd h h0
theorem zc4 {fs:List (Txt×Txt)} (h:fm fs=0):fs.length≤1024∧(∀f∈fs,f.2.length≤65536)∧(fs.map (·.1)).Nodup:=by
 unfold fm at h
 split at h
 ·cases h
 ·obtain⟨h1,h2⟩:=zdA fs [] true h
  exact⟨by omega,fun f hf=>(h1 f hf).1,h2⟩
theorem j5 {w:World} {x:dW} (hx:fe w x):∀u∈x.cells,u.oneCell'=true:=by
 obtain⟨ae,ce,hev, -⟩:=aE.out (sz:=2) (f:=fg) (fun _=>rfl) (by omega) hx.env
 obtain⟨ai,ci,hiv, -⟩:=hx.ins.out
 obtain⟨aa,ca,hav, -⟩:=hx.asks.out
 obtain⟨ao,co,hov, -⟩:=hx.outs.out
 intro u hu
 simp only[dW.cells,hev,hiv,hav,hov,List.mem_cons,List.not_mem_nil,or_false] at hu
 rcases hu with rfl|rfl|rfl|rfl|rfl|rfl|rfl<;>rfl
set_option maxHeartbeats 8000000 in
theorem vB (x:dW) (av:Value) (w:World) (ha:aE w 7 dW.cells av [x]) (hx:fe w x) (hs:dU x.l) (ht:x.l.tool.length≤1000000) (hm:bE w):
 Calls Tryz.prog 50 #[av] w fun e w'=>(∃i j:Int,e=.returned (.tuple #[.int .i64 i,.int .i64 j])∧(i=0→∃l,cJ x.l.tool=.ok l))∧Below w.heap.size w w':=by
 obtain⟨a2,c2,rfl,hc2,hm2, -,hx2⟩:=ha.out fi (by omega)
 obtain⟨b2,o2,rfl,hb2,hcl2⟩:=hx2 0 (by simp)
 have R2:=hid (hcl2 0 (by simp))
 have HONE:=hid (j5 hx)
 have hb0:=ab w (.map #[] 0)
 have hn0:=heap_alloc_new w (.map #[] 0)
 have HX:=hid hx
 have hmm:=@run_makeMap Tryz.prog
 clear ha hx2 hcl2 hx
 go_enter Tryz.func50,Tryz.ntmps50
 go_upto_block 0 with fail
 generalize w.alloc (.map #[] 0)=W0 at *
 have HB0:=hid hb0
 have HN0:=hid (show W0.heap[w.heap.size]?=some (dP []) from hn0)
 clear hb0 hn0
 go_wp2_with fail
 go_loopw [14] (fun i wr=>∃(k:Nat),k≤1∧i=.int .i64 k∧Below w.heap.size w wr∧(k=0→wr=W0)∧(k=1→∃l,cJ x.l.tool=.ok l)) (fun i _=>1-(intOf i).toNat)
 case atStart=>exact⟨0,by omega,rfl,HB0.out,fun _=>rfl,fun e=>by omega⟩
 case round=>
  obtain⟨k,hk,rfl,hbe,h0,h1⟩:=hrel
  by_cases aH:k<1
  ·obtain rfl:k=0:=by omega
   obtain rfl:=h0 rfl
   have L0:wr.rangeAt b2 (o2+0*7) x.cells:=ac hbe R2.out
   have HL:=hid (fun(W:World) (hb:Below wr.heap.size wr W)=>yD x w W w.heap.size [] HX.out hs ht hm (Below.chain HB0.out hb) (Nat.le_refl _) ((hb.block _ (lx HN0)).trans HN0.out))
   clear hbe h0 h1
   go_upto_region 8 with first|(refine bC dc L0 (fi _) ?_)|(refine iK dc ?_;intro zz W1 hzz hb1 hn1 hs1;clear hs1)|(refine fp (xs:=x.cells.toArray) dc hn1 hzz rfl HONE.out ?_;intro W2 ht2 hn2 hs2;clear hs2;have r2:=af hn2;have HB2:=hid (hb1.trans (ht2.below (Nat.le_refl _)));have HAL:=hid (HL.out _ HB2.out);clear ht2 hn2)|(refine bC dc r2 (fi _) ?_)|(go_at_call 93;refine HAL.out.mono ?_;rintro e W3 ⟨⟨i,rfl,hi⟩,hb3⟩;have HI:=hid (And.intro hi hb3);clear hi hb3)
   by_cases h0:i=0
   ·have e0:(i !=0)=false:=by rw[h0];rfl
    go_wp2_with fail
    obtain⟨hi,hb3⟩:=HI.out
    exact⟨⟨1,by omega,by go_num,hb3,fun e=>by omega,fun _=>hi h0⟩,by simp[intOf]⟩
   ·have e0:(i !=0)=true:=by simpa using h0
    go_wp2_with fail
    go_ret2
    exact⟨⟨_,_,rfl,fun e=>absurd e h0⟩,HI.out.2⟩
  ·obtain rfl:k=1:=by omega
   have HBE:=hid hbe
   have H1:=hid (h1 rfl)
   clear hbe h0 h1
   go_wp2_with fail
   go_ret2
   exact⟨⟨_,_,rfl,fun _=>H1.out⟩,HBE.out⟩
set_option maxHeartbeats 8000000 in
theorem uS (x:dW) (fs:List (Txt×Txt)) (fv av:Value) (w:World) (hf:aE w 2 bL fv fs) (hfl:∀f∈fs,f.1.length≤1500000∧f.2.length≤1500000) (ha:aE w 7 dW.cells av [x]) (hx:fe w x) (hs:dU x.l) (ht:x.l.tool.length≤1000000) (hm:bE w):
 Calls Tryz.prog 22 #[.agg (qH fv av).toArray] w fun e w'=>(∃i:Int,e=.returned (.int .i64 i)∧(i=0→fm fs=0∧∃l,cJ x.l.tool=.ok l))∧Below w.heap.size w w':=by
 have HF:=hid hf
 have HA:=hid ha
 have HX:=hid hx
 have HM:=hid hm
 obtain⟨a2,c2,rfl, -⟩:=hf.out bF (by omega)
 obtain⟨a3,c3,rfl, -⟩:=ha.out fi (by omega)
 clear hf ha hx hm
 go_enter Tryz.func22,Tryz.ntmps22
 go_upto_region 1 with(refine cI zaW ?_;intro W1 hb1 hn1 hs1)
 have k0:W1.cell? ⟨w.heap.size,0,none⟩=some (.slice a2 fs.length c2):=(cell_of_row _ _ 0 _ _ _ hn1).trans rfl
 have k1:W1.cell? ⟨w.heap.size,1,none⟩=some (.slice a3 1 c3):=(cell_of_row _ _ 1 _ _ _ hn1).trans rfl
 have k2:W1.cell? ⟨w.heap.size,2,none⟩=some (.slice none 0 0):=(cell_of_row _ _ 2 _ _ _ hn1).trans rfl
 have HB:=hid hb1
 have HT:=hid (vN (.slice a2 fs.length c2) fs.length fs W1 (HF.out.below hb1 (Nat.le_refl _)) fun f h=>by have:=hfl f h;omega)
 have HAC:=hid (fun(W:World) (hb:Below w.heap.size w W)=>vB x (.slice a3 1 c3) W (HA.out.below hb (Nat.le_refl _)) (HX.out.below hb) hs ht (HM.out.below hb))
 have K:=hid (And.intro k1 k2)
 have HCL:=hid (rfl:fm fs=fm fs)
 clear hb1 hn1 hs1 k1 k2
 obtain⟨r,hr⟩:∃r,fm fs=r:=⟨_,rfl⟩
 rw[hr] at HT
 have HR:=hid hr
 clear hr HCL
 by_cases h0:r=0
 ·have e0:((r:Int) !=0)=false:=neF (by omega)
  go_upto_region 4 with(go_at_call 49;refine HT.out.mono ?_;rintro e W2 ⟨rfl,hb2⟩)
  have k1:=Below.keeps hb2 K.out.1
  have k2:=Below.keeps hb2 K.out.2
  have HB2:=hid (Below.chain HB.out hb2)
  have HAC2:=hid (HAC.out W2 HB2.out)
  clear hb2 k0
  go_upto_region 5 with(go_at_call 50;refine HAC2.out.mono ?_;rintro e W3 ⟨⟨i,j,rfl,hi⟩,hb3⟩)
  have k2:=Below.keeps hb3 k2
  have HB3:=hid (Below.chain HB2.out hb3)
  have HI:=hid hi
  clear hb3 hi k1
  by_cases hi0:i=0
  ·have e1:(i !=0)=false:=by rw[hi0];rfl
   go_wp2_with fail
   go_loopw [30] (fun i wr=>i=.int .i64 0∧wr=W3) (fun _ _=>0)
   case atStart=>exact⟨rfl,rfl⟩
   case round=>
    obtain⟨rfl,rfl⟩:=hrel
    go_wp2_with fail
    go_ret
    exact⟨⟨_,rfl,fun _=>⟨by rw[HR.out,h0],HI.out hi0⟩⟩,HB3.out⟩
  ·have e1:(i !=0)=true:=by simpa using hi0
   go_wp2_with fail
   go_ret
   exact⟨⟨_,rfl,fun e=>absurd e hi0⟩,HB3.out⟩
 ·have e0:((r:Int) !=0)=true:=neT (by omega)
  go_wp2_with (go_at_call 49;refine HT.out.mono ?_;rintro e W2 ⟨rfl,hb2⟩)
  go_ret
  exact⟨⟨_,rfl,fun e=>absurd e (by omega)⟩,Below.chain HB.out hb2⟩
end Go.Proofs.YtlbipokkdiiaiaaGreatDoor
namespace Go.Proofs.YtlbipokkdiiaiaaGreatDoor
open Go.RowKit Exec
section
variable {P:Program} {ops:Array Oper} {Q:Exit→Act→World→Prop} {S:World→Prop} {k:Nat}
end
open Go.Shelf
attribute [local go_sem] Oper.semAt_some
set_option maxRecDepth 100000
theorem zb3 {α:Type} (f:α→List Value) {t e sz by_:Nat} (hu:Tryz.prog.underlying t=some (.slice e)) (hinfo:gg e sz by_=true) (_hsz:∀x,(f x).length=sz) (h0:0<sz) (hby:by_≤1000) {W:World} {base b o c n:Nat} {v:Value} {l xs:List α}
 (h1:∀x,∀u∈f x,u.oneCell'=true) (h:W.ownsRow base e sz v n (l.flatMap f)) (hx:aE W sz f (.slice (some ⟨b,o,none⟩) xs.length c) xs) (hb:base≤W.heap.size) (hn:n+xs.length≤100000):
 ∃v' w',(∀ty,(Builtin.append_ #[t,t] ty #[v,.slice (some ⟨b,o,none⟩) xs.length c]).run Tryz.prog W=.ok v' w')∧w'.ownsRow base e sz v' (n+xs.length) ((l++xs).flatMap f)∧Below base W w':=by
 obtain⟨i0,z,hi,hz,hs,lS,hzs⟩:=cW hinfo
 obtain⟨hl,a',c',hv,hc,hm,hnn,hxx⟩:=hx
 obtain⟨rfl,rfl⟩:a'=some ⟨b,o,none⟩∧c=c':=by simpa[eq_comm] using hv
 have hsrc:∀j u,(xs.flatMap f)[j]?=some u→W.cell? ((⟨b,o,none⟩:Addr).add j)=some u:=fun j u hu=>by
  obtain⟨b',off,e, -,aX⟩:=hxx (fun e=>by rw[e] at hu;simp at hu)
  obtain⟨rfl,rfl⟩:b=b'∧o=off:=by simpa using e
  rw[Addr.add_lit]
  exact aX j u hu
 obtain⟨v',w',hr,ho,hgr, -,hat⟩:=run_append_own_at (P:=Tryz.prog) W base t 0 e i0 z sz by_ hu hi hz hs lS hzs h0 v n (l.flatMap f) h ⟨b,o,none⟩ xs.length c (xs.flatMap f) hl hsrc (fun u hu=>by
  obtain⟨x, -,hu⟩:=List.mem_flatMap.1 hu
  exact h1 x u hu) (by unfold maxLen;omega) (Nat.le_trans (Nat.mul_le_mul (show n+xs.length≤100001 by omega) hby) (by decide)) hb
 refine⟨v',w',fun ty=>hr,by rw[List.flatMap_append];exact ho,⟨hgr.os,hgr.tape,hgr.output,hgr.size,fun k hk=>hgr.block k (by omega) fun e=>?_⟩⟩
 have:=(h.lt k e.symm).1;omega
def yB (ls:List (Txt×Txt)) (pre:List Nat):List (Txt×Txt):=(pre.map fun k=>ls.getD k ([],[])).foldl iD []
theorem zap (ls:List (Txt×Txt)):yB ls (bk ls.length 0)=kf ls:=by
 unfold yB kf bk
 congr 1
 rw[List.drop_zero,List.map_reverse]
 congr 1
 refine List.ext_getElem (by simp) fun i h1 h2=>?_
 rw[List.getElem_map,List.getElem_range,js ls ([],[]) i h2]
theorem yj (ls:List (Txt×Txt)) (pre:List Nat) (k:Nat):yB ls (pre++[k])=iD (yB ls pre) (ls.getD k ([],[])):=by
 unfold yB
 rw[List.map_append,List.foldl_append]
 rfl
def xQ (ls:List (Txt×Txt)) (m q z:Nat) (w:World) (pre:List Nat) (W:World):Prop:=(∃o,W.heap[m]?=some o∧pJ (yB ls pre) o)∧W.heap[q]?=some (.cells #[.map (some m)] 204 (0,0))∧z≤W.heap.size∧Below w.heap.size w W
theorem xQ.own {ls:List (Txt×Txt)} {m q z B0:Nat} {w:World} (hB:w.heap.size≤B0) (hm:m<B0):OwnFrom B0 (xQ ls m q z w):=by
 rintro pre A W row ⟨⟨o,hmo,ho⟩,hq,hz,hb⟩ hg hr
 refine⟨⟨o,(hg.block m (lx (hid hmo)) fun e=>by have:=(hr m e.symm).1;omega).trans hmo,ho⟩,(hg.block q (lx (hid hq)) fun e=>?_).trans hq,Nat.le_trans hz hg.size,hb.grown hg hb.size fun k e=>Nat.le_trans hB (hr k e).1⟩
 obtain⟨-,o,ho,hc⟩:=hr q e.symm
 rw[hq] at ho
 cases ho
 cases hc
def zav (m q bx c:Nat) (a:Option Addr) (n k q2:Nat) (x:Txt×Txt):Act:=
 {tmps:=#[.slice a n c,undef,.slice none 0 0,.pointer (some ⟨q,0,none⟩),undef,.pointer (some ⟨bx,0,none⟩),undef,undef,undef,.map (some m),.slice a n c,.func (.func 146) #[] #[.pointer (some ⟨q2,0,none⟩)],.int .i64 (k:Int),.agg (fg x).toArray,undef,undef,undef,undef,undef,undef,undef,undef,undef,undef,undef,undef,undef,undef,undef,undef,undef,undef,undef,undef,undef,undef],defers:=[]}
theorem zX {l:List (Txt×Txt)} (hk:∀x∈l,x.1.length≤1000000000):(strKeys (wrD l)).Perm (l.map (·.1)):=by
 unfold wrD strKeys
 refine((Go.WideShapes.sorted_perm _).map _).trans (List.Perm.of_eq ?_)
 rw[List.map_map,show(wrE l).toArray.toList=wrE l from rfl]
 unfold wrE
 rw[List.map_map]
 refine List.ext_getElem (by simp) fun i h1 h2=>?_
 have hi:i<l.length:=by simpa using h2
 simp only[List.getElem_map,List.getElem_zipIdx,Function.comp]
 have hy:=Go.WideMaps.keyOf_string_mk (P:=Tryz.prog) (k:=9) Tryz.underlying9 (s:=bs l[i].1) (by rw[aV];have:=hk l[i] (List.getElem_mem hi);unfold maxLen;omega)
 unfold WideElems.rg WideElems.rd yq
 rw[show cL l[i].1=Value.string (bs l[i].1) from rfl]
 simp only[hy]
 rfl
theorem tf {w:World} {g:Nat} {x y:Txt} (h:w.heap[g]?=some (.cells #[.string (bs x),.string (bs y)] 9 (0,0))):aE w 1 txC (.slice (some ⟨g,0,none⟩) 2 2) [x,y]:=by
 refine⟨rfl,_,_,rfl,Nat.le_refl _,by decide,(fun e=>by cases e),fun _=>⟨g,0,rfl,lx (hid h),fun j u hu=>?_⟩⟩
 have hu':(#[Value.string (bs x),Value.string (bs y)]:Array Value).toList[j]?=some u:=hu
 exact(by simpa using af h j u hu')
theorem zce {ops:Array Oper} {rest:List Oper} {o:Oper} {a:Act} {w w':World} {Q:Exit→Act→World→Prop} {v:Value} {n:Nat} (hr:(execOp a.eval o).run Tryz.prog w=.ok (.value v) w') (h:wpListIn Fence.wide n Tryz.prog ops Q rest (a.put o.dst v) w')
 (hw:Region.wanted o (yielded ops a.tmps)=true:=by rfl) (hd:∀c,o.op≠.defer c:=by intro c h;cases h):wpListIn Fence.wide n Tryz.prog ops Q (o::rest) a w:=by
 unfold wpListIn
 rw[if_pos hw]
 refine⟨fun _ _=>trivial,?_⟩
 rw[Oper.semAt_eq _ _ _ hd,hr]
 exact h
def wM (ls:List (Txt×Txt)) (n:Txt):List Txt:=[n,(bH ls n).getD []]
set_option maxHeartbeats 8000000 in
theorem zai (ls:List (Txt×Txt)) (v:Value) (w:World) (h:aE w 2 fg v ls) (hl:ls.length≤120) (he:∀s∈ls,s.1.length≤1500000∧s.2.length≤1500000):
 Calls Tryz.prog 52 #[v] w fun e w'=>∃v',e=.returned v'∧w'.ownsRow w.heap.size 9 1 v' (jy ls).length ((jy ls).flatMap txC)∧Below w.heap.size w w':=by
 obtain⟨a,c,rfl,hc,hm, -,hx⟩:=aE.out (sz:=2) (f:=fg) (fun _=>rfl) (by omega) h
 have HX:=hid hx
 clear h hx
 have hmm:=@run_makeMap Tryz.prog
 refine(callsIn_wide (n:=9)).1 ?_
 refine callsIn_of_wp_marks Tryz.func52 rfl trivial ?_ rfl
 simp only[Tryz.ntmps52,List.size_toArray,List.length_cons,List.length_nil,Nat.reduceAdd,Nat.reduceSub,Array.replicate_succ,Array.replicate_zero,List.push_toArray,List.append_toArray,List.nil_append,List.cons_append]
 gi_wp2_with fail
 have hb0:=ab w (.map #[] 0)
 have hb1:=Below.chain hb0 (ab (w.alloc (.map #[] 0)) (.cells #[.map (some w.heap.size)] 204))
 have hq1:=heap_alloc_new (w.alloc (.map #[] 0)) (.cells #[.map (some w.heap.size)] 204)
 have hm1:((w.alloc (.map #[] 0)).alloc (.cells #[.map (some w.heap.size)] 204)).heap[w.heap.size]?=some (.map #[] 0):=((ab (w.alloc (.map #[] 0)) _).block _ (by rw[World.size_alloc];omega)).trans (heap_alloc_new w _)
 have hz1:((w.alloc (.map #[] 0)).alloc (.cells #[.map (some w.heap.size)] 204)).heap.size=w.heap.size+1+1:=by rw[World.size_alloc,World.size_alloc]
 rw[World.size_alloc] at hq1
 generalize (w.alloc (.map #[] 0)).alloc (.cells #[.map (some w.heap.size)] 204)=W1 at *
 refine⟨trivial,(callsIn_wide.2 (zem a ls.length c W1)).mono ?_⟩
 rintro e W2 ⟨rfl,hW2⟩
 have hb2:Below W1.heap.size W1 W2:=hW2▸ab W1 _
 have hz2:W2.heap.size=W1.heap.size+1:=by rw[hW2];exact World.size_alloc _ _
 have hq2:W2.cell? ⟨W1.heap.size,0,none⟩=some (.slice a ls.length c):=by rw[hW2];exact(cell_of_row _ _ 0 _ _ _ (heap_alloc_new W1 _)).trans rfl
 have HB2:=hid (Below.chain hb1 hb2)
 rw[hz1] at hq2 hz2
 have hmW:=(hb2.block _ (by rw[hz1];omega)).trans hm1
 have hqW:=(hb2.block _ (by rw[hz1];omega)).trans hq1
 have HQ2:=hid hq2
 have HM:=hid (And.intro hmW hqW)
 clear hW2 hq2 hb2 hb0 hb1 hq1 hm1 hmW hqW hmm
 gi_wp2_with fail
 refine fI (α:=Nat) rfl (by omega) (gf:=146) (lb:=#[.pointer (some ⟨(w.heap.size+1+1),0,none⟩)]) rfl trivial (enters_of Tryz.func146 (by kernel_rfl) rfl) (Kp:=ec (fun j=>j<w.heap.size∨j=(w.heap.size+1+1))) (S:=fun xs=>xs=bk ls.length 0) (Sp:=fun _=>True) (N:=ls.length)
  (yA _ (by omega) (w.heap.size+1+1) (fun j=>j<w.heap.size∨j=(w.heap.size+1+1)) (.inr rfl) ls a c (by omega) W2 HQ2.out (fun k hk=>by
   obtain⟨b,o,h1,h2,h3⟩:=HX.out k hk
   obtain⟨d0,d1⟩:=dT (ac HB2.out (h3 k hk))
   obtain⟨d2, -⟩:=dT d1
   exact⟨b,o,h1,.inl h2,d0,d2⟩))
  (fun h k j hj=>(k j hj).trans (h j hj)) (fun W l o' hl j hj=>World.putObj_heap_other (by rcases hj with e|e<;>omega)) (fun _=>rfl)
  (xQ ls w.heap.size (w.heap.size+1) W2.heap.size w) (fun _ _ _=>False)
  (fun pre x a' W=>∃bx:Nat,a'=zav w.heap.size (w.heap.size+1) bx c a ls.length x (w.heap.size+1+1) (ls.getD x ([],[]))∧W2.heap.size≤bx∧xQ ls w.heap.size (w.heap.size+1) W2.heap.size w pre W∧W.heap[bx]?=some (.cells (fg (ls.getD x ([],[]))).toArray 209 (0,0)))
  (xQ.own (by omega) (by omega)) (fun _ _ _ _ _ h=>h.elim) (fun pre x a' _ A W' row h hg hr=>by
   obtain⟨bx,h1,h2,h3,h4⟩:=h
   refine⟨bx,h1,h2,xQ.own (B0:=W2.heap.size) (by omega) (by omega) pre A W' row h3 hg hr,(hg.block bx (lx (hid h4)) fun e=>?_).trans h4⟩
   obtain⟨-,o,ho,hc⟩:=hr bx e.symm
   rw[h4] at ho
   cases ho
   cases hc) ?start ?assign ?body ?done (fun _ _ _ _ _ _ h=>h.elim)
 case start=>
  exact⟨⟨_,HM.out.1,rfl,List.nodup_nil⟩,HM.out.2,Nat.le_refl _,HB2.out⟩
 case assign=>
  intro l pre x W hI hpl
  unfold bkS
  generalize ls.getD x ([],[])=y at *
  have hb:=ab W (.cells (fg y).toArray 209)
  have hn:=heap_alloc_new W (.cells (fg y).toArray 209)
  have hko:=KeepsOthers.alloc W (.cells (fg y).toArray 209)
  have hsz:W2.heap.size≤W.heap.size:=hI.2.2.1
  have HA:=hid (And.intro hI (And.intro hb (And.intro hn hko)))
  clear hb hn hko hI
  unfold fg at *
  gi_wp2_with fail
  obtain⟨⟨⟨o,hm,ho⟩,hq,hz,hbw⟩,hb,hn,hko⟩:=HA.out
  exact⟨hko.from _,fun j hj=>hb.block j (by rcases hj with e|e<;>omega),W.heap.size,rfl,hsz,⟨⟨o,(hb.block _ (lx (hid hm))).trans hm,ho⟩,(hb.block _ (lx (hid hq))).trans hq,Nat.le_trans hz hb.size,hbw.trans (hb.mono hbw.size)⟩,hn⟩
 case body=>
  rintro l pre x a' W ⟨bx,rfl,hbx,⟨⟨o,hm,ho⟩,hq,hz,hbw⟩,hn⟩ hpl
  unfold zav
  have HS:=hid (yj ls pre x)
  generalize ls.getD x ([],[])=y at *
  have k0:W.cell? ⟨bx,0,none⟩=some (.string (bs y.1)):=(cell_of_row _ _ 0 _ _ _ hn).trans rfl
  have k1:W.cell? ⟨bx,1,none⟩=some (.string (bs y.2)):=(cell_of_row _ _ 1 _ _ _ hn).trans rfl
  have kq:W.cell? ⟨w.heap.size+1,0,none⟩=some (.map (some w.heap.size)):=(cell_of_row _ _ 0 _ _ _ hq).trans rfl
  obtain⟨W5,o5,hup,ht5,hm5,ho5⟩:=zea hm ho y.1 y.2
  have H:=hid (And.intro hq (And.intro hz (And.intro hbw (And.intro ht5 (And.intro hm5 ho5)))))
  clear hm ho hq hz hbw hn ht5 hm5 ho5
  gi_wp2_with fail
  obtain⟨hq,hz,hbw,ht5,hm5,ho5⟩:=H.out
  refine⟨⟨ht5.foot.size,fun k o hk hko _=>(ht5.foot.block k (lx (hid hko)) (by omega)).trans hko⟩,fun j hj=>?_,⟨o5,hm5,?_⟩,(ht5.foot.block _ (lx (hid hq)) (by omega)).trans hq,Nat.le_trans hz ht5.foot.size,hbw.trans (ht5.below (Nat.le_refl _))⟩
  ·have:=hbw.size
   exact ht5.foot.block j (by rcases hj with e|e<;>omega) (by rcases hj with e|e<;>omega)
  ·rw[HS.out]
   exact ho5
 case done=>
  rintro D xs W hD rfl ⟨⟨o,hm,ho⟩,hq,hz,hbw⟩ hdef
  rw[zap] at ho
  have kq:W.cell? ⟨w.heap.size+1,0,none⟩=some (.map (some w.heap.size)):=(cell_of_row _ _ 0 _ _ _ hq).trans rfl
  have HO:=hid (And.intro hm (And.intro ho (And.intro hbw hdef)))
  clear hm ho hbw hdef
  gi_wp2_with fail
  refine⟨trivial,(callsIn_wide.2 (callsIn_wide.1 (zfD (some w.heap.size) W))).mono ?_⟩
  rintro e W3 ⟨rfl,hW3⟩
  have hsub:=iR ls
  obtain⟨hown,hms⟩:=wJ HO.out.1 HO.out.2.1 (by omega) (fun x hx=>by have:=he x (hsub.1 x hx);omega)
  have HKY:=hid (zX (l:=kf ls) (fun x hx=>by have:=he x (hsub.1 x hx);omega))
  have HSR:=hid (zfw _ _ _ _ W hown (by unfold maxLen;omega) (by omega))
  rw[←hW3] at HSR
  have hb3:Below W.heap.size W W3:=hW3▸ab W _
  have HB3:=hid hb3
  clear hown hms hsub hW3 hb3
  gi_wp2_with fail
  refine⟨trivial,(callsIn_wide.2 (callsIn_wide.1 HSR.out)).mono ?_⟩
  rintro e W4 ⟨v4,ss,rfl,hss,ho4, -,hb4⟩
  obtain⟨ns,hns⟩:∃ns,mC ((kf ls).map (·.1))=ns:=⟨_,rfl⟩
  have hn1:ss.mergeSort leB=ns:=(mergeSort_of_perm (hss.trans HKY.out)).trans hns
  have hnl:ss.length=ns.length:=by rw[←hn1,List.length_mergeSort]
  have hn4:ns.length≤120:=by
   rw[←hns,List.length_mergeSort,List.length_map]
   exact Nat.le_trans (iR ls).2 hl
  have hkk:jy ls=ns.flatMap (wM ls):=by unfold jy;rw[hns];rfl
  have ho5:W4.ownsRow W3.heap.size 9 1 v4 ns.length (ns.flatMap txC):=by
   have e:(ss.mergeSort fun x y=>decide (x≤y)).map encStr=ns.flatMap txC:=by
    rw[show(ss.mergeSort fun x y=>decide (x≤y))=ns from hn1]
    exact List.map_eq_flatMap ..
   rw[←hnl,←e]
   exact ho4
  obtain⟨va,vc,rfl,hvc,hvm, -,hxx⟩:=aE.out (sz:=1) (f:=txC) (fun _=>rfl) (by omega) (cV ho5 (by unfold maxLen;omega))
  have hb5:Below W.heap.size W W4:=Below.chain HB3.out hb4
  have kq4:=Below.keeps hb5 kq
  have hm4:=(hb5.block _ (lx (hid HO.out.1))).trans HO.out.1
  have HXX:=hid hxx
  have HB5:=hid (And.intro hb5 hm4)
  have hzw:=HO.out.2.2.1.size
  have hz5:=hb5.size
  have HW:=hid (fun(p:Txt) (W':World) (h:W'.heap[w.heap.size]?=some o)=>show(Instr.lookup 204 (.map (some w.heap.size)) (.string (bs p)) false).run Tryz.prog W'=.ok (.string (bs ((bH ls p).getD []))) W' from by
   have h1:=HO.out.2.1.map.look cn h (show Tryz.prog.underlying 204=some (.map 9 9) by kernel_rfl) (show(zeroValue 9).run Tryz.prog W'=.ok (.string ⟨#[]⟩) W' from rfl) p false
   rw[t8] at h1
   have e:(eQ (kf ls) p).2=(bH ls p).getD []:=by
    rw[←iG ls p]
    rfl
   rw[e] at h1
   exact h1)
  clear ho4 ho5 hb4 hb5 hm4 hxx hss kq
  gi_wp2_with fail
  gi_loopw [6,23] (fun ov iv wr=>∃(k:Nat) (oa:Option Addr) (oc:Nat),k≤ns.length∧iv=.int .i64 k∧ov=.slice oa (2*k) oc∧wr.ownsRow W4.heap.size 9 1 ov (2*k) (((ns.take k).flatMap (wM ls)).flatMap txC)∧Below W4.heap.size W4 wr) (fun _ iv _=>ns.length-(intOf iv).toNat)
  case atStart=>exact⟨0,none,0,Nat.zero_le _,rfl,rfl,⟨rfl,.inl ⟨rfl,rfl⟩⟩,Below.refl _ _⟩
  case round=>
   obtain⟨k,oa,oc,hk,rfl,rfl,hov,hbr⟩:=hrel
   have HBR:=hid hbr
   have HOV:=hid hov
   clear hbr hov
   by_cases aH:k<ns.length
   ·obtain⟨b,off,rfl,hb,aX⟩:=HXX.out k aH
    have L0:=Below.keeps HBR.out (dT (aX k aH)).1
    rw[Nat.mul_one] at L0
    have kqr:=Below.keeps HBR.out kq4
    have hmr:=(HBR.out.block _ (by omega)).trans HB5.out.2
    have hlk:=HW.out ns[k] wr hmr
    have hst:ns.take (k+1)=ns.take k++[ns[k]]:=by rw[List.take_add_one,List.getElem?_eq_getElem aH];rfl
    have HST:=hid hst
    clear aX hmr hst
    generalize ns[k]=x at *
    have HPF:=hid (show wM ls x=[x,(bH ls x).getD []] from rfl)
    generalize (bH ls x).getD []=y at *
    have hb6:=ab wr (.cells #[.string (bs x),.string (bs y)] 9)
    have hn6:=heap_alloc_new wr (.cells #[.string (bs x),.string (bs y)] 9)
    have hz6:=HBR.out.size
    obtain⟨v7,W7,hr7,ho7,hb7⟩:=zb3 txC (t:=46) (by_:=16) (sz:=1) Tryz.underlying46 (by kernel_rfl) (fun _=>rfl) (by omega) (by omega) (xs:=[x,y]) (fun x u hu=>by rw[List.mem_singleton.1 hu];rfl) (aS HOV.out hb6 (Nat.le_refl _)) (tf hn6) (by have:=hb6.size;omega) (by simp only[List.length_cons,List.length_nil];omega)
    simp only[List.length_cons,List.length_nil,Nat.reduceAdd] at hr7 ho7
    obtain⟨a7,c7,rfl⟩:=ax ho7
    have H7:=hid (And.intro ho7 (And.intro (hb6.mono hz6) hb7))
    clear hb6 hn6 ho7 hb7
    gi_wp2_with (gi_at_builtin;refine zce (vl (t:=46) hr7) ?_;clear hr7)
    obtain⟨h1,h2,h3⟩:=H7.out
    refine⟨⟨k+1,a7,c7,by omega,by go_num,rfl,?_,(HBR.out.trans h2).trans h3⟩,by simp[intOf];omega⟩
    rw[HST.out,List.flatMap_append,List.flatMap_cons,List.flatMap_nil,List.append_nil,HPF.out]
    exact h1
   ·obtain rfl:k=ns.length:=by omega
    gi_wp2_with fail
    have hdw:=(HBR.out.block D (by have:=lx (hid HO.out.2.2.2);omega)).trans ((HB5.out.1.block D (lx (hid HO.out.2.2.2))).trans HO.out.2.2.2)
    refine⟨by simp,.inl ⟨_,_,rfl,run_takeDeferred hdw,?_⟩⟩
    refine⟨.slice oa (2*ns.length) oc,by simp[results,Tryz.f52,go_sem],_,rfl,?_,?_⟩
    ·have e:∀l:List Txt,(l.flatMap (wM ls)).length=2*l.length:=by
      intro l
      induction l with
      |nil=>rfl
      |cons x l ih=>
       rw[List.flatMap_cons,List.length_append,ih,List.length_cons]
       show 2+_=_
       omega
     have ho:=HOV.out
     rw[List.take_length] at ho
     rw[hkk,e]
     refine aK (aJ ho fun k hk=>World.putObj_heap_other ?_) (by omega)
     have:=(ho.lt k hk).1
     have:=lx (hid HO.out.2.2.2)
     omega
    ·have hb:=(HO.out.2.2.1.trans (HB5.out.1.mono hzw)).trans (HBR.out.mono (by omega))
     exact hb.grown (grownBy_putObj' wr D _) hb.size fun k e=>by cases e;omega
theorem kL:∀l:List Txt,l.flatMap txC=ag l
 |[]=>rfl
 |s::l=>by
  rw[List.flatMap_cons,kL l]
  rfl
theorem tK (ls:List Txt) (a:Option Addr) (c q:Nat) (w:World) (hc:w.cell? ⟨q,0,none⟩=some (.slice a ls.length c)) (hqs:q<w.heap.size) (hl:ls.length≤65537)
 (hr:∀k,k<ls.length→∃b o,a=some ⟨b,o,none⟩∧b<w.heap.size∧∀j (hj:j<ls.length),w.cell? ⟨b,o+j,none⟩=some (.string (bs ls[j]))):
 Calls Tryz.prog 97 #[.func (.func 150) #[] #[.pointer (some ⟨q,0,none⟩)]] w fun e w'=>∃v,e=.returned v∧w'.ownsRow w.heap.size 9 1 v (mC ls).length (ag (mC ls))∧Below w.heap.size w w':=by
 have hco:Calls Tryz.prog 147 #[.func (.func 150) #[] #[.pointer (some ⟨q,0,none⟩)]] w fun e w'=>∃v,e=.returned v∧w'.ownsRow w.heap.size 9 1 v ls.length (ag ls)∧Below w.heap.size w w':=by
  have h:=zgy ls a c q w hc hqs (by omega) hr
  rw[kL] at h
  go_enter Tryz.func147,Tryz.ntmps147
  go_wp2_with (go_at_call 188;refine h.mono ?_;rintro e W1 ⟨v,rfl,ho,hb⟩)
  go_ret
  exact⟨v,rfl,ho,hb⟩
 go_enter Tryz.func97,Tryz.ntmps97
 go_wp2_with first|(go_at_call 147;refine hco.mono ?_;rintro e W1 ⟨v,rfl,ho,hb⟩)|(go_at_call 148;refine(tB (w0:=w) ho hb hl).mono ?_;rintro e W2 ⟨rfl,ho2,hb2⟩)
 go_ret
 exact⟨v,rfl,ho2,hb2⟩
theorem pk (ls:List Txt) (v:Value) (w:World) (h:aO w v ls) (hl:ls.length≤120):
 Calls Tryz.prog 53 #[v] w fun e w'=>∃v',e=.returned v'∧w'.ownsRow w.heap.size 9 1 v' (fF ls).length (ag (fF ls))∧Below w.heap.size w w':=by
 obtain⟨-,va,vc,rfl, -, -,hx⟩:=ap.str h
 have hb1:=ab w (.cells #[.slice va ls.length vc] 46)
 have hn1:=heap_alloc_new w (.cells #[.slice va ls.length vc] 46)
 have hz1:(w.alloc (.cells #[.slice va ls.length vc] 46)).heap.size=w.heap.size+1:=World.size_alloc _ _
 have HX:=hid (fun(W:World) (hb:Below w.heap.size w W) (k:Nat) (hk:k<ls.length)=>show ∃b o,va=some ⟨b,o,none⟩∧b<W.heap.size∧∀j (hj:j<ls.length),W.cell? ⟨b,o+j,none⟩=some (.string (bs ls[j])) from by
  obtain⟨b,o,h1,h2,h3⟩:=hx k hk
  exact⟨b,o,h1,by have:=hb.size;omega,fun j hj=>Below.keeps hb (h3 j hj)⟩)
 have HSO:=hid (fun(W:World) (hb:Below w.heap.size w W) hc hz=>tK ls va vc w.heap.size W hc hz (by omega) (HX.out W hb))
 have HLN:=hid (show(mC ls).length≤65537 by rw[List.length_mergeSort];omega)
 clear h hx HX
 unfold fF
 generalize mC ls=ss at *
 have HC:=hid (fun(W1 W2:World) (v2:Value) ho hb=>uG (ls:=ss) (w0:=W1) (w:=W2) (v:=v2) ho hb HLN.out)
 generalize Lib.compact ss=cs at *
 go_enter Tryz.func53,Tryz.ntmps53
 go_wp2_with fail
 refine(zcW va ls.length vc w).mono ?_
 rintro e W1 ⟨rfl,hW1⟩
 rw[←hW1] at hb1 hn1 hz1
 have HB1:=hid hb1
 clear hW1 hb1
 go_wp2_with fail
 refine(HSO.out W1 HB1.out ((cell_of_row _ _ 0 _ _ _ hn1).trans rfl) (by omega)).mono ?_
 rintro e W2 ⟨v2,rfl,ho2,hb2⟩
 obtain⟨a2,c2,rfl⟩:=ax ho2
 have HC2:=hid (HC.out W1 W2 _ ho2 hb2)
 clear ho2 hb2
 go_wp2_with fail
 refine HC2.out.mono ?_
 rintro e W3 ⟨v3,rfl,ho3,hb3⟩
 go_wp2_with fail
 go_ret
 exact⟨v3,rfl,aK ho3 (by omega),Below.chain HB1.out hb3⟩
end Go.Proofs.YtlbipokkdiiaiaaGreatDoor
