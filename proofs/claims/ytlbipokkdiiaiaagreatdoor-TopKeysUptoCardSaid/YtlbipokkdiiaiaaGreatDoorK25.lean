/- Lemmas for TopKeysUpto: K10, Frame, W43, F86. -/
import Derived.Test.YtlbipokkdiiaiaaGreatDoorK24
import Derived.Test.YtlbipokkdiiaiaaGreatDoorK22
import Derived.Test.YtlbipokkdiiaiaaGreatDoorK01
import Derived.Test.YtlbipokkdiiaiaaGreatDoorRows
import Derived.Test.YtlbipokkdiiaiaaGreatDoorCards
import Derived.Test.YtlbipokkdiiaiaaGreatDoorTie
import Derived.ProofKit
import Derived.SizedLaws
import Derived.Deep.DeepHandedRow
import Derived.Lib.LaidTab
import Derived.Deep.Slices
import Derived.Test.YtlbipokkdiiaiaaGreatDoorK11
import Derived.Deep.Fields
import Derived.ChangeSame
import Derived.OpenShut
import Derived.Lib.SmallJoins
open List renaming setIfInBounds_toArray → sA, set_cons_zero → sB, set_cons_succ → sC
namespace Go.Proofs.YtlbipokkdiiaiaaGreatDoor
open Go.RowKit Exec Go.Shelf
set_option maxRecDepth 100000
attribute [local go_sem] Oper.semAt_some
section
variable {ops:Array Oper} {rest:List Oper} {o:Oper} {a:Act} {w:World} {Q:Exit→Act→World→Prop}
theorem zfb {t e sz by_:Nat} {xs ys:Array Value} (h0:0<sz) (h1:sz≤1000) (hxs:xs.size=sz) (hys:ys.size=sz) (hu:Tryz.prog.underlying t=some (.slice e)) (hinfo:gg e sz by_=true) (w:World):
 (Instr.buildSlice t 2 #[(0,.agg xs),(1,.agg ys)]).run Tryz.prog w=.ok (.slice (some ⟨w.heap.size,0,none⟩) 2 2) (w.alloc (.cells (xs++ys) e)):=by
 obtain⟨i,z,hi,hz,hs, -,hzs⟩:=cW hinfo
 refine run_buildSlice w t e 2 _ (xs++ys) i z hu hi hz (by rw[hs];omega) (by rw[hs];omega) ?_
 have:=Great.fill_whole (s:=sz) h0 [.agg xs,.agg ys] ((Array.range (2*sz)).map (z.cells[· % z.cells.size]!)) (by simp[Value.cells,hxs,hys]) (by simp)
 rw[hs]
 have e:([Value.agg xs,.agg ys].flatMap fun v=>v.cells.toList).toArray=xs++ys:=by simp[Value.cells]
 rw[e] at this
 exact this
theorem zeh {t e sz by_:Nat} {xs ys zs:Array Value} {p q:Operand} (hzs:xs++ys=zs) (h0:0<sz) (h1:sz≤1000) (hxs:xs.size=sz) (hys:ys.size=sz) (hu:Tryz.prog.underlying t=some (.slice e)) (hinfo:gg e sz by_=true)
 (h:∀W1,Below w.heap.size w W1→W1.heap[w.heap.size]?=some (.cells zs e (0,0))→W1.heap.size=w.heap.size+1→wpList Tryz.prog ops Q rest (a.put o.dst (.slice (some ⟨w.heap.size,0,none⟩) 2 2)) W1)
 (ho:o.op=.buildSlice t 2 #[(0,p),(1,q)]:=by rfl) (hx:a.eval p=.agg xs:=by rfl) (hy:a.eval q=.agg ys:=by rfl) (hw:Region.wanted o (yielded ops a.tmps)=true:=by rfl):
 wpList Tryz.prog ops Q (o::rest) a w:=by
 refine gw (v:=.slice (some ⟨w.heap.size,0,none⟩) 2 2) (w':=w.alloc (.cells zs e)) ?_ (h _ (ab w _) (heap_alloc_new w _) (by rw[World.size_alloc])) hw
 have hr:=zfb (t:=t) (e:=e) (sz:=sz) (by_:=by_) h0 h1 hxs hys hu hinfo w
 rw[hzs] at hr
 unfold execOp
 simp only[ho,List.map_toArray,List.map_cons,List.map_nil,hx,hy,Sem.run_bind,hr,Result.andThen_ok,Sem.run_pure]
end
structure zde (w:World) (x:dW):Prop where
 held:fe w x
 small:dU x.l
 tool:x.l.tool.length≤1500000
def OkK (fs:List (Txt×Txt)) (z:fW):Prop:=(z.tool.length≤8000∧z.env.length+z.ins.length+z.asks.length+z.outs.length≤120)∧fm fs=0∧∃l,cJ z.tool=.ok l
theorem zbc (f a:Value) (hf:f.oneCell'=true) (ha:a.oneCell'=true):∀u∈qH f a,u.oneCell'=true:=by
 intro u hu
 simp only[qH,List.mem_cons,List.not_mem_nil,or_false] at hu
 rcases hu with rfl|rfl|rfl|rfl
 ·exact hf
 ·exact ha
 ·rfl
 ·rfl
noncomputable def rN (b:bG):List (Txt×Txt):=if b.over=true then eL b (strKeys (wrD b.wrote)) else[]
noncomputable def rF (b:bG):List RdL:=if b.over=true then b.reads.map rdK else[]
noncomputable def w7 (b:bG):Int:=if b.over=true then jP b else 0
def zcU (b:bG):Int:=if b.over=true then(b.why:Int) else 0
theorem sI {w:World} {B e sz n:Nat} {v:Value} {xs:List Value} (h:w.ownsRow B e sz v n xs):n≤maxLen:=by
 obtain⟨-,⟨-,rfl⟩|⟨g,cap,cur, -, -, -,h1,h2, -⟩⟩:=h
 ·exact Nat.zero_le _
 ·exact Nat.le_trans h1 h2
theorem zgv {b:bG} {ss tt:List Txt} (h:ss.Perm tt):eL b ss=eL b tt:=by
 unfold eL nJ
 rw[show(ss.mergeSort fun x y=>decide (x≤y))=tt.mergeSort fun x y=>decide (x≤y) from mergeSort_of_perm h]
theorem uJ {B0:Nat} {b:bG} {w':World} {u v:Value} (h:fQ B0 b w' u v):∃fv rv:Value,v=.agg (cT (w7 b) (zcU b) fv rv).toArray∧aE w' 2 bL fv (rN b)∧aE w' 34 RdL.cells rv (rF b)∧fv.oneCell'=true∧rv.oneCell'=true:=by
 unfold fQ at h
 unfold rN rF w7 zcU
 by_cases ho:b.over=true
 ·rw[if_pos ho] at h
  rw[if_pos ho,if_pos ho,if_pos ho,if_pos ho]
  obtain⟨-,fv,rv,rfl,⟨ss,hss,hf⟩,hr⟩:=h
  rw[zgv hss] at hf
  have hl:(b.reads.map rdK).length=b.reads.length:=List.length_map _
  rw[←hl] at hr
  exact⟨fv,rv,rfl,cV hf (sI hf),cV hr (sI hr),gB hf,gB hr⟩
 ·rw[if_neg ho] at h
  rw[if_neg ho,if_neg ho,if_neg ho,if_neg ho]
  exact⟨rV,rV,h.2,ap.nil _ _,ap.nil _ _,rfl,rfl⟩
set_option maxHeartbeats 8000000 in
theorem za8 (x y:dW) (fs:List (Txt×Txt)) (fv:Value) (w:World) (hx:zde w x) (hy:zde w y) (hf:aE w 2 bL fv fs) (hl:fs.length≤1500000) (hfl:∀f∈fs,f.1.length≤1500000∧f.2.length≤1500000) (hm:bE w) (hp:eG w)
 (hsp:∀W,Calls Tryz.prog 7 #[] W fun e W'=>e=.returned (.bool true)∧Below W.heap.size W W'):
 Calls Tryz.prog 5 #[.agg x.cells.toArray,.agg y.cells.toArray,fv] w fun e w'=>e=.returned (.bool true)∧Below w.heap.size w w':=by
 have HX:=hid hx
 have HY:=hid hy
 have HM:=hid (And.intro hm hp)
 have HF:=hid hf
 have HSP:=hid hsp
 have HLX:=hid (fi x)
 have HLY:=hid (fi y)
 have HOX:=hid (j5 hx.held)
 have HOY:=hid (j5 hy.held)
 obtain⟨fa,fc,rfl, -, -, -, -⟩:=hf.out bF (by omega)
 clear hx hy hm hp hf hsp
 go_enter Tryz.func5,Tryz.ntmps5
 go_upto_region 1 with first|(refine cI (xs:=x.cells.toArray) dc ?_;intro W1 hb1 hn1 hs1)|(refine cI (xs:=y.cells.toArray) dc ?_;intro W2 hb2 hn2 hs2)
 rw[hs1] at hn2
 have r1:=ac hb2 (af hn1)
 have r2:=af hn2
 have HN1:=hid ((hb2.block _ (lx (hid hn1))).trans hn1)
 have HN2:=hid hn2
 have HB2:=hid (Below.chain hb1 hb2)
 clear hb1 hn1 hb2 hn2 hs2
 go_wp2_with first|(refine bC dc r1 HLX.out ?_)|(refine bC dc r2 HLY.out ?_)|(refine zeh (xs:=x.cells.toArray) (ys:=y.cells.toArray) (zs:=(x.cells++y.cells).toArray) (e:=72) (sz:=7) (by_:=144) (by simp) (by omega) (by omega) (by rw[List.size_toArray];exact HLX.out) (by rw[List.size_toArray];exact HLY.out) Tryz.underlying73 (by kernel_rfl) ?_;intro W3 hb3 hn3 hs3)
 have hA:∀k,k<2→∃z,[x,y][k]?=some z∧z∈[x,y]∧W3.rangeAt W2.heap.size (k*7) z.cells:=by
  intro k hk
  match k,hk with
  |0,_=>exact⟨x,rfl,by simp,fun r u hr=>af hn3 _ u (by
   rw[List.getElem?_append_left (by have:=(List.getElem?_eq_some_iff.1 hr).1;omega)]
   simpa using hr)⟩
  |1,_=>exact⟨y,rfl,by simp,fun r u hr=>by
   have:=af hn3 (7+r) u (by
    rw[List.getElem?_append_right (by rw[HLX.out];omega),HLX.out]
    simpa using hr)
   simpa[Nat.add_assoc] using this⟩
 have HA:=hid hA
 have HB3:=hid (Below.chain HB2.out hb3)
 have HN13:=hid ((hb3.block _ (lx HN1)).trans HN1.out)
 have HN23:=hid ((hb3.block _ (lx HN2)).trans HN2.out)
 have HAK:=hid (show ∀z∈[x,y],zde w z∧∀u∈z.cells,u.oneCell'=true from by
  intro z hz
  simp only[List.mem_cons,List.not_mem_nil,or_false] at hz
  rcases hz with rfl|rfl
  ·exact⟨HX.out,HOX.out⟩
  ·exact⟨HY.out,HOY.out⟩)
 clear hA hb3 hn3 hs3 HN1 HN2 HB2
 go_loopw [18] (fun i wr=>∃k:Nat,k≤2∧i=.int .i64 k∧(∀z∈[x,y].take k,OkK fs z.l)∧Below W3.heap.size W3 wr) (fun i _=>2-(intOf i).toNat)
 case atStart=>exact⟨0,Nat.zero_le _,rfl,by simp,Below.refl _ _⟩
 case round=>
  obtain⟨k,hk,rfl,hok,hbr⟩:=hrel
  have HOK:=hid hok
  have HBR:=hid hbr
  clear hok hbr
  by_cases aH:k<2
  ·obtain⟨z,hz,hzm,hzr⟩:=HA.out k aH
   have L0:=ac HBR.out hzr
   have HZ:=hid (HAK.out z hzm)
   have HZL:=hid (fi z)
   clear hzr
   go_upto_region 4 with first|(refine bC dc L0 HZL.out ?_)|(refine eB (xs:=z.cells.toArray) dc (by rw[List.size_toArray];exact HZL.out) HZ.out.2 ?_;intro W4 hb4 hn4 hs4)
   try simp only[Act.put,sA,sB,sC]
   have r4:=af hn4
   have HB4:=hid hb4
   have HBW:=hid (Below.chain HB3.out HBR.out)
   clear hb4 hs4 hn4
   go_upto_region 5 with first|(refine bC dc r4 HZL.out ?_)|(refine xu (xs:=z.cells.toArray) (e:=72) (sz:=7) (by_:=144) (by omega) (by omega) (by rw[List.size_toArray];exact HZL.out) Tryz.underlying73 (by kernel_rfl) ?_;intro W5 hb5 hn5 hs5;have HS5:=hid hs5;clear hs5)|(refine eB (xs:=(qH (.slice fa fs.length fc) (.slice (some ⟨W4.heap.size,0,none⟩) 1 1)).toArray) zaW rfl (zbc _ _ rfl rfl) ?_;intro W6 hb6 hn6 hs6;have HS6:=hid hs6;clear hs6)
   try simp only[Act.put,sA,sB,sC]
   have HB6:=hid (Below.chain HBW.out (Below.chain HB4.out (Below.chain hb5 hb6)))
   have HBX:=hid (Below.chain HBR.out (Below.chain HB4.out (Below.chain hb5 hb6)))
   have HAR:=hid (za9 (f:=dW.cells) HZL.out ((hb6.block _ (lx (hid hn5))).trans hn5))
   have r7:=af hn6
   have HGR:=hid (yp z fs (.slice fa fs.length fc) (.slice (some ⟨W4.heap.size,0,none⟩) 1 1) W6 (HF.out.below HB6.out (Nat.le_refl _)) HAR.out (HZ.out.1.held.below HB6.out) HZ.out.1.small HZ.out.1.tool hl hfl)
   have HWL:=hid (show(qH (.slice fa fs.length fc) (.slice (some ⟨W4.heap.size,0,none⟩) 1 1)).length=4 from rfl)
   clear hb5 hb6 hn5 hn6 r4 L0
   generalize W5.heap.size=q7 at *
   generalize W4.heap.size=q3 at *
   go_wp2_with (refine bC zaW r7 HWL.out ?_)
   refine HGR.out.mono ?_
   rintro e W7 ⟨⟨q,rfl,hq⟩,hb7⟩
   have r7:=ac hb7 r7
   have HB7:=hid (Below.chain HB6.out hb7)
   have HBX7:=hid (Below.chain HBX.out hb7)
   have HAR:=hid (HAR.out.below hb7 (Nat.le_refl _))
   clear hb7
   cases q with
   |true=>
    go_wp2_with (go_at_call 7;refine(HSP.out _).mono ?_;rintro e W8 ⟨rfl,hb8⟩)
    go_ret
    exact⟨rfl,Below.chain HB7.out hb8⟩
   |false=>
    have HT8:=hid (hq rfl)
    have HCK:=hid (uS z fs (.slice fa fs.length fc) (.slice (some ⟨q3,0,none⟩) 1 1) W7 (HF.out.below HB7.out (Nat.le_refl _)) hfl HAR.out (HZ.out.1.held.below HB7.out) HZ.out.1.small (by have:=HT8.out;omega) (HM.out.1.below HB7.out))
    clear hq
    go_wp2_with (refine bC zaW r7 HWL.out ?_)
    refine HCK.out.mono ?_
    rintro e W8 ⟨⟨i,rfl,hi⟩,hb8⟩
    have HI:=hid hi
    have HB8:=hid (Below.chain HB7.out hb8)
    have HBX8:=hid (Below.chain HBX7.out hb8)
    clear hb8 hi r7
    by_cases hi0:i=0
    ·have e0:(i !=0)=false:=by rw[hi0];rfl
     have HST:=hid (show[x,y].take (k+1)=[x,y].take k++[z] by rw[List.take_add_one,hz];rfl)
     go_wp2_with fail
     refine⟨⟨k+1,by omega,by go_num,fun z' hz'=>?_,HBX8.out⟩,by simp[intOf];omega⟩
     rw[HST.out,List.mem_append,List.mem_singleton] at hz'
     rcases hz' with h|rfl
     ·exact HOK.out z' h
     ·exact⟨HT8.out,HI.out hi0⟩
    ·have e0:(i !=0)=true:=by simpa using hi0
     go_wp2_with (go_at_call 7;refine(HSP.out _).mono ?_;rintro e W9 ⟨rfl,hb9⟩)
     go_ret
     exact⟨rfl,Below.chain HB8.out hb9⟩
  ·obtain rfl:k=2:=by omega
   have ox:=HOK.out x (by simp)
   have oy:=HOK.out y (by simp)
   have kx:pK w x:=⟨HX.out.held,HX.out.small,HX.out.tool,ox.1.2,HM.out.2⟩
   have ky:pK w y:=⟨HY.out.held,HY.out.small,HY.out.tool,oy.1.2,HM.out.2⟩
   have HBW:=hid (Below.chain HB3.out HBR.out)
   have HTX:=hid (fun(W:World) (hb:Below w.heap.size w W)=>(kx.below hb).text)
   have HTY:=hid (fun(W:World) (hb:Below w.heap.size w W)=>(ky.below hb).text)
   have HOX1:=hid (fun(W:World) (hb:Below w.heap.size w W)=>xb x W (kx.below hb))
   have HOY1:=hid (fun(W:World) (hb:Below w.heap.size w W)=>xb y W (ky.below hb))
   have HSM:=hid (fun(W:World) (hb:Below w.heap.size w W)=>yk x y W (kx.below hb) (ky.below hb))
   have hsx:=kR kx.small kx.tool kx.count
   have hsy:=kR ky.small ky.tool ky.count
   have HLEN:=hid (And.intro (ow hsx) (ow hsy))
   have HEQ:=hid (fun e:ia x.l=ia y.l=>And.intro (wT hsx hsy e).1 (fun ans l=>uX hsx hsy e ans l))
   have HCK:=hid (And.intro ox.2.1 (And.intro ox.2.2 (And.intro ox.1.1 oy.1.1)))
   generalize ia x.l=s at *
   generalize ia y.l=t at *
   have R1:=af ((HBR.out.block _ (lx HN13)).trans HN13.out)
   have R2:=af ((HBR.out.block _ (lx HN23)).trans HN23.out)
   clear ox oy kx ky hsx hsy
   go_upto_region 8 with fail
   refine ar 4 (by kernel_rfl) (by kernel_rfl) ?_
   simp only[List.take_succ_cons,List.take_zero,List.drop_succ_cons,List.drop_zero]
   refine WQ.ld dc (fun W hW=>ac hW R1) HLX.out ?_
   refine WQ.step (fun K hK=>?_)
   go_simp
   apply Exists.intro
   refine⟨fun W hW=>?_,hK _ ?_⟩
   ·go_at_call 23
    exact zfr hW (HTX.out W (Below.chain HBW.out hW))
   clear hK K
   refine WQ.ld dc (fun W hW=>ac hW R2) HLY.out ?_
   refine WQ.step (fun K hK=>?_)
   go_simp
   apply Exists.intro
   refine⟨fun W hW=>?_,hK _ ?_⟩
   ·go_at_call 23
    exact zfr hW (HTY.out W (Below.chain HBW.out hW))
   clear hK K
   refine WQ.nil ?_
   intro wq hwq
   have HWQ:=hid (Below.chain HBW.out hwq)
   replace R1:=ac hwq R1
   replace R2:=ac hwq R2
   clear hwq
   have hb8:=ab wq (.cells #[.string (bs s),.string (bs t)] 9)
   have hn8:=heap_alloc_new wq (.cells #[.string (bs s),.string (bs t)] 9)
   have HAP:=hid (yV (.slice (some ⟨wq.heap.size,0,none⟩) 2 2) 2 [s,t] (wq.alloc (.cells #[.string (bs s),.string (bs t)] 9)) (tf hn8) (by
    intro z hz
    simp only[List.mem_cons,List.not_mem_nil,or_false] at hz
    have:=HLEN.out
    rcases hz with rfl|rfl<;>omega))
   replace R1:=ac hb8 R1
   replace R2:=ac hb8 R2
   have HB8:=hid (Below.chain HWQ.out hb8)
   clear hb8 hn8
   have HQ:=hid (qC [s,t] (fun _=>none))
   generalize dy (fun _=>none) [s,t]=q at *
   go_wp2_with fail
   refine HAP.out.mono ?_
   rintro e W9 ⟨rfl,hb9⟩
   have HB9:=hid (Below.chain HB8.out hb9)
   replace R1:=ac hb9 R1
   replace R2:=ac hb9 R2
   clear hb9
   cases q with
   |false=>
    go_wp2_with (go_at_call 7;refine(HSP.out _).mono ?_;rintro e W10 ⟨rfl,hb10⟩)
    go_ret
    exact⟨rfl,Below.chain HB9.out hb10⟩
   |true=>
    have HQT:=hid (HQ.out rfl).2
    clear HQ
    go_upto_region 10 with fail
    refine aC (by kernel_rfl) (by kernel_rfl) ?_
    refine WQ.ld dc (fun W hW=>ac hW R1) HLX.out ?_
    refine WQ.step (fun K hK=>?_)
    go_simp
    apply Exists.intro
    refine⟨fun W hW=>?_,hK _ ?_⟩
    ·go_at_call 24
     exact zfr hW (HOX1.out W (Below.chain HB9.out hW))
    clear hK K
    refine WQ.ld dc (fun W hW=>ac hW R2) HLY.out ?_
    refine WQ.step (fun K hK=>?_)
    go_simp
    apply Exists.intro
    refine⟨fun W hW=>?_,hK _ ?_⟩
    ·go_at_call 24
     exact zfr hW (HOY1.out W (Below.chain HB9.out hW))
    clear hK K
    refine WQ.neq (zeW _ _) ?_
    refine WQ.nil ?_
    intro wp hwp
    have HB10:=hid (Below.chain HB9.out hwp)
    replace R1:=ac hwp R1
    replace R2:=ac hwp R2
    clear hwp
    by_cases hd:dV s=dV t
    ·rw[decide_eq_true hd]
     obtain rfl:=HQT.out s (by simp) t (by simp) hd
     clear hd
     obtain⟨hte,hfe⟩:=HEQ.out rfl
     obtain⟨hc0,⟨l,htl⟩,htx,hty⟩:=HCK.out
     have htl2:cJ y.l.tool=.ok l:=by rw[←hte];exact htl
     obtain⟨t1,t2, -⟩:=zc4 hc0
     have hak:∀p k,(fun p=>some (fo fs p)) p=some k→k.path=p∧k.data.length≤65536:=fun p k e=>by
      obtain rfl:=Option.some.inj e
      exact⟨vz fs p,ud t2 p⟩
     have hany:fs.any (fun x=>decide (65536<x.2.length))=false:=List.any_eq_false.2 fun f hf=>by have:=t2 f hf;simp;omega
     obtain⟨b,hbe⟩:∃b,iT (byA x.l) (fun p=>some (fo fs p)) l=b:=⟨_,rfl⟩
     have hto:∀(z:dW) (hzt:cJ z.l.tool=.ok l) (h8:z.l.tool.length≤8000) (hk:zde w z) (hzb:iT (byA z.l) (fun p=>some (fo fs p)) l=b) (W:World) (hb:Below w.heap.size w W),Calls Tryz.prog 26 #[.agg z.cells.toArray,.slice fa fs.length fc] W fun e W'=>(∃fv rv:Value,e=.returned (.tuple #[.agg (cT (w7 b) (zcU b) fv rv).toArray,.int .i64 0])∧aE W' 2 bL fv (rN b)∧aE W' 34 RdL.cells rv (rF b)∧fv.oneCell'=true∧rv.oneCell'=true)∧Below W.heap.size W W':=by
      intro z hzt h8 hk hzb W hb
      refine(zbm z (.slice fa fs.length fc) fs W (hk.held.below hb) hk.small (by omega) (HM.out.1.below hb) (HM.out.2.below hb) l hzt (HF.out.below hb (Nat.le_refl _)) (by omega) hany hak).mono ?_
      rintro e W' ⟨⟨u,v,rfl,im⟩,hb'⟩
      rw[hzb] at im
      obtain⟨fv,rv,rfl,h1,h2,h3,h4⟩:=uJ im
      exact⟨⟨fv,rv,rfl,h1,h2,h3,h4⟩,hb'⟩
     have HALX:=hid (hto x htl htx HX.out hbe)
     have HALY:=hid (hto y htl2 hty HY.out (by rw[←hfe];exact hbe))
     clear hto hbe hany hak t1 t2 hc0 htl htl2 htx hty hte hfe HEQ HCK HQT
     generalize w7 b=kk at *
     generalize zcU b=yy at *
     generalize rN b=fl at *
     generalize rF b=rl at *
     have ess:(s==s)=true:=beq_self_eq_true s
     go_upto_region 12 with fail
     try simp only[Act.put,sA,sB,sC]
     go_upto_region 13 with first|(refine bC dc R1 HLX.out ?_)|(go_at_call 26;refine(HALX.out _ HB10.out).mono ?_;rintro e W11 ⟨⟨f1,r1,rfl,hf1,hr1,o1,p1⟩,hb11⟩;have H11:=hid (And.intro hf1 (And.intro hr1 hb11));have HO1:=hid (dR kk yy f1 r1 o1 p1);clear hf1 hr1 hb11 o1 p1)|(refine eB (xs:=(cT kk yy f1 r1).toArray) dX rfl HO1.out ?_;intro W12 hb12 hn12 hs12)
     try simp only[Act.put,sA,sB,sC]
     have HB12:=hid (Below.chain HB10.out (Below.chain H11.out.2.2 hb12))
     replace R1:=ac hb12 (ac H11.out.2.2 R1)
     replace R2:=ac hb12 (ac H11.out.2.2 R2)
     have HF1:=hid (And.intro (H11.out.1.below hb12 (Nat.le_refl _)) (H11.out.2.1.below hb12 (Nat.le_refl _)))
     have HN12:=hid hn12
     clear hb12 hn12 hs12 H11
     generalize W11.heap.size=g1 at *
     go_upto_region 14 with first|(refine bC dc R2 HLY.out ?_)|(go_at_call 26;refine(HALY.out _ HB12.out).mono ?_;rintro e W13 ⟨⟨f2,r2,rfl,hf2,hr2,o2,p2⟩,hb13⟩;have H13:=hid (And.intro hf2 (And.intro hr2 hb13));have HO2:=hid (dR kk yy f2 r2 o2 p2);clear hf2 hr2 hb13 o2 p2)|(refine eB (xs:=(cT kk yy f2 r2).toArray) dX rfl HO2.out ?_;intro W14 hb14 hn14 hs14)
     try simp only[Act.put,sA,sB,sC]
     have hb34:=Below.chain H13.out.2.2 hb14
     have HB14:=hid (Below.chain HB12.out hb34)
     replace R1:=ac hb34 R1
     replace R2:=ac hb34 R2
     have HF2:=hid (And.intro (H13.out.1.below hb14 (Nat.le_refl _)) (H13.out.2.1.below hb14 (Nat.le_refl _)))
     have HF1:=hid (And.intro (HF1.out.1.below hb34 (Nat.le_refl _)) (HF1.out.2.below hb34 (Nat.le_refl _)))
     have q1:=af ((hb34.block _ (lx HN12)).trans HN12.out)
     have q2:=af hn14
     clear hb34 hb14 hn14 hs14 H13 HN12
     generalize W13.heap.size=g2 at *
     have HC1:=hid (show(cT kk yy f1 r1).length=4 from rfl)
     have HC2:=hid (show(cT kk yy f2 r2).length=4 from rfl)
     go_wp2_with first|(go_at_call 7;refine(HSP.out _).mono ?_;rintro e W15 ⟨rfl,hb15⟩;replace R1:=ac hb15 R1;replace R2:=ac hb15 R2;replace q1:=ac hb15 q1;replace q2:=ac hb15 q2;have HB15:=hid (Below.chain HB14.out hb15);have HB45:=hid hb15;clear hb15)|(refine bC dc R1 HLX.out ?_)|(refine bC dc R2 HLY.out ?_)|(go_at_call 25;refine(HSM.out _ HB15.out).mono ?_;rintro e W16 ⟨rfl,hb16⟩;replace q1:=ac hb16 q1;replace q2:=ac hb16 q2;have HB16:=hid (Below.chain HB15.out hb16);have HB46:=hid (Below.chain HB45.out hb16);clear hb16)|(refine bC dX q1 HC1.out ?_)|(refine bC dX q2 HC2.out ?_)|(refine xu (xs:=(cT kk yy f1 r1).toArray) (e:=82) (sz:=4) (by_:=64) (by omega) (by omega) rfl Tryz.underlying86 (by kernel_rfl) ?_;intro W17 hb17 hn17 hs17;replace q2:=ac hb17 q2;have HN17:=hid hn17;have HB17:=hid (Below.chain HB16.out hb17);have HB47:=hid (Below.chain HB46.out hb17);clear hb17 hn17 hs17 q1)|(refine xu (xs:=(cT kk yy f2 r2).toArray) (e:=82) (sz:=4) (by_:=64) (by omega) (by omega) rfl Tryz.underlying86 (by kernel_rfl) ?_;intro W18 hb18 hn18 hs18;have HN18:=hid hn18;have HN78:=hid ((hb18.block _ (lx HN17)).trans HN17.out);have HB18:=hid (Below.chain HB17.out hb18);have HB48:=hid (Below.chain HB47.out hb18);clear hb18 hn18 hs18)
     refine(yi kk yy f1 r1 f2 r2 fl rl _ _ W18 (HF1.out.1.below HB48.out (Nat.le_refl _)) (HF2.out.1.below HB48.out (Nat.le_refl _)) (HF1.out.2.below HB48.out (Nat.le_refl _)) (HF2.out.2.below HB48.out (Nat.le_refl _)) HN78.out HN18.out).mono ?_
     rintro e W19 ⟨rfl,hb19⟩
     have HB19:=hid (Below.chain HB18.out hb19)
     clear hb19
     go_wp2_with fail
     go_ret
     exact⟨rfl,HB19.out⟩
    ·rw[decide_eq_false hd]
     have hst:(s==t)=false:=by
      cases h:s==t with
      |false=>rfl
      |true=>exact absurd (congrArg dV (eq_of_beq h)) hd
     clear hd
     go_wp2_with first|(go_at_call 7;refine(HSP.out _).mono ?_;rintro e W11 ⟨rfl,hb11⟩;replace R1:=ac hb11 R1;replace R2:=ac hb11 R2;have HB11:=hid (Below.chain HB10.out hb11);clear hb11)|(refine bC dc R1 HLX.out ?_)|(refine bC dc R2 HLY.out ?_)|(go_at_call 25;refine(HSM.out _ HB11.out).mono ?_;rintro e W12 ⟨rfl,hb12⟩;have HB12:=hid (Below.chain HB11.out hb12);clear hb12)
     go_ret
     exact⟨rfl,HB12.out⟩
end Go.Proofs.YtlbipokkdiiaiaaGreatDoor
namespace Go.Proofs.YtlbipokkdiiaiaaGreatDoor
open Go.ChangeShapes Go.WideShapes Go.ChangeAt Go.RowKit
set_option maxRecDepth 100000
theorem own:ownKnob Tryz.prog.godebug=none:=by kernel_rfl
theorem zcH:laidOutB Tryz.prog=true:=by kernel_rfl
theorem jJ {H:Type} {enc:TypeId×Value→H} {P:Program} (hl:laidOutB P=true) {W W':World} (hb:Below W.heap.size W W'):
 ∀(ts:List TypeId) (vs:List Value) (ds:List (DataW H)) (p:List MemPlace),(ts.all fun t=>P.readableRec t&&decide (t<P.types.size))=true→
  DataW.TrodAll enc P W 0 (fun _=>true) true ts vs ds p→(∀x∈p,x.block<W.heap.size)→DataW.TrodAll enc P W' 0 (fun b=>decide (b<W.heap.size)) true ts vs ds p
 |[],[],[],_,_,h,_=>h
 |t::ts,v::vs,d::ds,_,hr,h,aH=>by
  obtain⟨p,q,h1,h2,rfl⟩:=h
  simp only[List.all_cons,Bool.and_eq_true,decide_eq_true_eq] at hr
  exact⟨p,q,Below.trod hl hr.1.1 hr.1.2 h1 hb (fun x hx=>aH x (by simp[hx])),jJ hl hb ts vs ds q hr.2 h2 (fun x hx=>aH x (by simp[hx])),rfl⟩
 |[],[],_::_,_,_,h,_=>h.elim
 |[],_::_,_,_,_,h,_=>h.elim
 |_::_,[],_,_,_,h,_=>h.elim
 |_::_,_::_,[],_,_,h,_=>h.elim
theorem zaP {H:Type} {enc:TypeId×Value→H} {s:ChangeSpec} {f:Func} {W W':World} {args:Array Value} {ds gs:List (DataW H)} {before:List MemPlace} (hvars:s.vars=[])
 (hres:f.resultTypes=#[4]) (hr:(f.params.toList.all fun t=>Tryz.prog.readableRec t&&decide (t<Tryz.prog.types.size))=true)
 (hW:DataW.Whole enc Tryz.prog f.params.toList s.vars false W args.toList ds gs before)
 (hfn:(s.fn H (ds++gs)).results=[.lit (.bool true)]∧(s.fn H (ds++gs)).args=ds∧(s.fn H (ds++gs)).vars=[]) (hb:Below W.heap.size W W'):
 s.post enc Tryz.prog f false true false false W args (.bool true) W':=by
 have hW':=hW
 obtain⟨p,q,hA,hV,rfl, -, -⟩:=hW
 have aH:∀x∈p,x.block<W.heap.size:=fun x hx=>hW'.lt x (by simp[hx])
 refine⟨ds,gs,p++q,[]++[],p,[],hW',?_,?_,?_,hb.frame _,fun h=>by cases h⟩
 ·rw[hfn.1,hres];exact trodAll_mk1 (shut_bool Tryz.underlying4 true)
 ·rw[hfn.2.1];exact jJ zcH hb _ _ _ _ hr hA aH
 ·rw[hfn.2.2,hvars];rfl
theorem kX {P:Program} {x:String×DataW Unit} {l:List (String×DataW Unit)} {w:World} (h:laidMet P (x::l) w):laidMet P l w:=by
 obtain⟨ps,⟨g,t,cs,fuel,p,q,_,_,_,_,h2,rfl⟩,hnd,hc⟩:=h
 refine⟨q,h2,(List.nodup_append.1 hnd).2.1,fun b off hm=>hc b off ?_⟩
 exact List.mem_append_right _ hm
theorem zb4 {name:String} {n:FuncId} {f0:Func} (hn:Tryz.prog.funcNamed name=some n) (h0:Tryz.prog.funcs[n]?=some f0) {b:Bool} (hl:b=Tryz.prog.looks []) (hs:(f0.params.toList.all fun t=>!Tryz.prog.wantsStandIn t)=true)
 (f:FuncId) (fn:Func) (hf:Tryz.pinned.checked.prog.funcNamed name=some f) (hfn:Tryz.pinned.checked.prog.funcs[f]?=some fn):
 b=Tryz.pinned.checked.prog.looks []∧∀(j:Nat) t,fn.params[j]?=some t→Tryz.pinned.checked.prog.wantsStandIn t=false:=by
 obtain rfl:f=n:=(Option.some.inj (hn.symm.trans hf)).symm
 obtain rfl:fn=f0:=(Option.some.inj (h0.symm.trans hfn)).symm
 refine⟨hl,fun j t ht=>?_⟩
 have hm:t∈fn.params.toList:=by simpa using Array.mem_of_getElem? ht
 have:=List.all_eq_true.1 hs t hm
 have h2:Tryz.prog.wantsStandIn t=false:=by simpa using this
 exact h2
open Go.Deep Go.Joins Exec
theorem sJ {α:Type} {P:Nat→α→Prop}:∀len,(∀i,i<len→∃x,P i x)→∃l:List α,l.length=len∧∀i (h:i<l.length),P i l[i]
 |0,_=>⟨[],rfl,fun i h=>by simp at h⟩
 |len+1,h=>by
  obtain⟨l,hl,hp⟩:=sJ len (fun i hi=>h i (by omega))
  obtain⟨x,hx⟩:=h len (by omega)
  refine⟨l++[x],by simp[hl],fun i hi=>?_⟩
  by_cases e:i<l.length
  ·rw[List.getElem_append_left e];exact hp i e
  ·have:i=len:=by simp at hi;omega
   subst this
   rw[List.getElem_append_right (by omega)]
   simpa[hl] using hx
section
variable {H:Type} {enc:TypeId×Value→H} {W:World}
end
theorem gO {H:Type} {d:DataW H}:∀{ds:List (DataW H)},d∈ds→Rows.uptoBulk d≤Rows.uptoBulkAll ds
 |x::ds,h=>by
  unfold Rows.uptoBulkAll
  rcases List.mem_cons.1 h with rfl|h
  ·omega
  ·have:=gO h;omega
theorem zbp {H:Type} (d:DataW H):1≤Rows.uptoBulk d:=by
 cases d with
 |lit l=>cases l<;>simp[Rows.uptoBulk]
 |_=>simp[Rows.uptoBulk]
theorem ti {H:Type}:∀(ds:List (DataW H)),ds.length≤Rows.uptoBulkAll ds
 |[]=>Nat.zero_le _
 |x::ds=>by
  unfold Rows.uptoBulkAll
  have:=ti ds
  have:=zbp x
  simp only[List.length_cons]
  omega
section
variable {H:Type} {enc:TypeId×Value→H} {W:World}
theorem jZ {α:Type} {f:α→List Value} {P:α→Prop} {t e:TypeId} {sz N:Nat} (ht:Tryz.prog.underlying t=some (.slice e)) (hc:Tryz.prog.cellsOf e=sz) (h0:0<sz) (hf:∀x,(f x).length=sz)
 (hel:∀(n:Nat) (cs:List Value) (x:DataW H×List MemPlace),DataW.trod enc Tryz.prog W 0 (fun _=>true) true n e cs=some x→Rows.uptoBulk x.1≤N→∃y:α,f y=cs∧P y)
 {n:Nat} {v:Value} {x:DataW H×List MemPlace} (h:DataW.trod enc Tryz.prog W 0 (fun _=>true) true n t [v]=some x) (hw:Rows.uptoBulk x.1≤N):
 ∃l:List α,aE W sz f v l∧(∀y∈l,P y)∧l.length≤N:=by
 rcases open_slice ht h with⟨hcs, -⟩|⟨a,len,cap,m,n3,D,Pl,hcs, -,hl,hm,hmm,hxx,hi⟩
 ·obtain rfl:v=.slice none 0 0:=by simpa using hcs
  exact⟨[],ap.nil _ _,by simp,by simp⟩
 ·obtain rfl:v=.slice (some a) len cap:=by simpa using hcs
  simp only[if_true] at hmm
  rw[hc] at hi
  have hbk:∀i,i<len→Rows.uptoBulk (D i)≤N:=fun i hil=>by
   rw[hxx] at hw
   simp only[Rows.uptoBulk] at hw
   have:=gO (List.mem_map.2 ⟨i,List.mem_range.2 hil,rfl⟩:D i∈(List.range len).map D)
   omega
  have hlN:len≤N:=by
   rw[hxx] at hw
   simp only[Rows.uptoBulk] at hw
   have:=ti ((List.range len).map D)
   simp only[List.length_map,List.length_range] at this
   omega
  have hyi:∀i,i<len→∃y:α,(∀r u,(f y)[r]?=some u→W.cell? (a.add (i*sz+r))=some u)∧P y:=by
   intro i hil
   obtain⟨cs',hc',hf'⟩:=hi i (by omega)
   obtain⟨_,hcl',hat⟩:=World.cells?_some hc'
   obtain⟨y,hy,hP⟩:=hel n3 cs' (D i,Pl i) hf' (hbk i hil)
   refine⟨y,fun r u hr=>?_,hP⟩
   have hr5:r<sz:=by have:=(List.getElem?_eq_some_iff.1 hr).1;rw[hf] at this;exact this
   have:=hat r hr5
   rw[←Go.Deep.add_add,this,←hy,hr]
  obtain⟨l,hll,hp⟩:=sJ (P:=fun i y=>(∀r u,(f y)[r]?=some u→W.cell? (a.add (i*sz+r))=some u)∧P y) len hyi
  refine⟨l,?_,fun y hy=>by obtain⟨i,hi,rfl⟩:=List.getElem_of_mem hy;exact(hp i hi).2,by omega⟩
  have hcell:∀j u,(l.flatMap f)[j]?=some u→W.cell? (a.add j)=some u:=by
   intro j u hu
   have hj:j<l.length*sz:=by rw[←iU f sz hf];exact(List.getElem?_eq_some_iff.1 hu).1
   have hq':j/sz*sz+j%sz=j:=Nat.div_add_mod' j sz
   have hd:j/sz<l.length:=Nat.div_lt_of_lt_mul (by rw[Nat.mul_comm];exact hj)
   have:=rD f sz hf l (j/sz) hd (j%sz) (Nat.mod_lt _ h0)
   rw[hq'] at this
   rw[this] at hu
   have:=(hp (j/sz) hd).1 _ _ hu
   rwa [hq'] at this
  refine⟨iU f sz hf l,some a,cap,by rw[hll],by rw[hll];exact hl,hm,fun h=>(by cases h),fun hne=>?_⟩
  have hl0:0<l.length:=by
   rcases Nat.eq_zero_or_pos l.length with h0|h0
   ·rw[List.length_eq_zero_iff.1 h0] at hne;exact absurd rfl hne
   ·exact h0
  obtain⟨u0,hu0⟩:∃u,(l.flatMap f)[0]?=some u:=⟨_,List.getElem?_eq_getElem (by rw[iU f sz hf];exact Nat.mul_pos hl0 h0)⟩
  obtain⟨b,off,spot⟩:=a
  have hspot:spot=none:=by simpa[Addr.add] using World.cell?_spot (hcell 0 u0 hu0)
  subst hspot
  refine⟨b,off,rfl,?_,fun j u hu=>?_⟩
  ·have:=World.block_lt_of_cell? W _ (hcell 0 u0 hu0);simpa[Addr.add] using this
  ·rw[←add_plain];exact hcell j u hu
theorem cl9:Tryz.prog.cellsOf 9=1:=by kernel_rfl
theorem zeM:Tryz.prog.cellsOf 51=2:=by kernel_rfl
theorem zdI:Tryz.prog.cellsOf 209=2:=by kernel_rfl
theorem zfp:Tryz.prog.cellsOf 72=7:=by kernel_rfl
theorem ze3:Tryz.prog.cellsOf 69=2:=by kernel_rfl
theorem zfm:Tryz.prog.cellsOf 70=1:=by kernel_rfl
theorem zee:Tryz.prog.cellsOf 46=1:=by kernel_rfl
theorem zfk:∃f0 f1:Field,Tryz.prog.underlying 51=some (.struct #[f0,f1])∧(f0.type=9∧f0.offset=0)∧(f1.type=9∧f1.offset=1):=⟨_,_,Tryz.underlying51,⟨rfl,rfl⟩,⟨rfl,rfl⟩⟩
theorem zeA:∃f0 f1:Field,Tryz.prog.underlying 209=some (.struct #[f0,f1])∧(f0.type=9∧f0.offset=0)∧(f1.type=9∧f1.offset=1):=⟨_,_,Tryz.underlying209,⟨rfl,rfl⟩,⟨rfl,rfl⟩⟩
theorem zfo:∃f0 f1:Field,Tryz.prog.underlying 69=some (.struct #[f0,f1])∧(f0.type=9∧f0.offset=0)∧(f1.type=9∧f1.offset=1):=⟨_,_,Tryz.underlying69,⟨rfl,rfl⟩,⟨rfl,rfl⟩⟩
theorem zfn:∃f0 f1 f2 f3 f4 f5:Field,Tryz.prog.underlying 72=some (.struct #[f0,f1,f2,f3,f4,f5])∧(f0.type=69∧f0.offset=0)∧(f1.type=9∧f1.offset=2)∧(f2.type=70∧f2.offset=3)∧(f3.type=46∧f3.offset=4)∧(f4.type=46∧f4.offset=5)∧(f5.type=46∧f5.offset=6):=
 ⟨_,_,_,_,_,_,Tryz.underlying72,⟨rfl,rfl⟩,⟨rfl,rfl⟩,⟨rfl,rfl⟩,⟨rfl,rfl⟩,⟨rfl,rfl⟩,⟨rfl,rfl⟩⟩
theorem lZ {N n:Nat} {c:Value} {y:DataW H×List MemPlace} (h:DataW.trod enc Tryz.prog W 0 (fun _=>true) true n 9 [c]=some y) (hb:Rows.uptoBulk y.1≤N):∃s:Txt,c=.string (bs s)∧s.length≤N:=by
 obtain⟨s,e0,g0, -⟩:=DataW.trod_string Tryz.underlying9 h
 simp only[List.cons.injEq,and_true] at e0
 subst e0
 rw[g0] at hb
 simp only[Rows.uptoBulk] at hb
 exact⟨s.data.toList,rfl,by omega⟩
theorem gc {ys:List (DataW H)} {N j:Nat} {y:DataW H} (h:Rows.uptoBulk (.agg ys)≤N) (hy:ys[j]?=some y):Rows.uptoBulk y≤N:=by
 simp only[Rows.uptoBulk] at h
 have:=gO (List.mem_of_getElem? hy)
 omega
theorem og {t:TypeId} (hun:∃f0 f1:Field,Tryz.prog.underlying t=some (.struct #[f0,f1])∧(f0.type=9∧f0.offset=0)∧(f1.type=9∧f1.offset=1)) (hcl0:Tryz.prog.cellsOf t=2) {N:Nat} (n:Nat) (cs:List Value) (x:DataW H×List MemPlace) (h:DataW.trod enc Tryz.prog W 0 (fun _=>true) true n t cs=some x) (hw:Rows.uptoBulk x.1≤N):
 ∃y:Txt×Txt,bL y=cs∧(y.1.length≤N∧y.2.length≤N):=by
 obtain⟨f0,f1,hu,⟨t0,o0⟩,⟨t1,o1⟩⟩:=hun
 obtain⟨xs,n1, -,hx,aX,bI,hg⟩:=DataW.trod_struct hu h
 rw[hcl0] at aX
 match cs,aX with
 |[c0,c1],_=>
 match xs,bI with
 |[y0,y1],_=>
 have h0:=hg 0 f0 rfl
 have h1:=hg 1 f1 rfl
 rw[t0,o0,cl9] at h0
 rw[t1,o1,cl9] at h1
 replace h0:DataW.trod enc Tryz.prog W 0 (fun _=>true) true n1 9 [c0]=some y0:=h0
 replace h1:DataW.trod enc Tryz.prog W 0 (fun _=>true) true n1 9 [c1]=some y1:=h1
 rw[hx] at hw
 obtain⟨s0,rfl,b0⟩:=lZ h0 (gc hw (j:=0) rfl)
 obtain⟨s1,rfl,b1⟩:=lZ h1 (gc hw (j:=1) rfl)
 exact⟨(s0,s1),rfl,b0,b1⟩
theorem jM:∀l:List Txt,ag l=l.flatMap fun s=>[.string (bs s)]
 |[]=>rfl
 |s::l=>by
  rw[List.flatMap_cons,←jM l]
  rfl
theorem iI {N n:Nat} {v:Value} {x:DataW H×List MemPlace} (h:DataW.trod enc Tryz.prog W 0 (fun _=>true) true n 46 [v]=some x) (hw:Rows.uptoBulk x.1≤N):∃l:List Txt,aO W v l∧(∀s∈l,s.length≤N)∧l.length≤N:=by
 obtain⟨l,h1,h2,h3⟩:=jZ (f:=fun s:Txt=>[.string (bs s)]) (P:=fun s=>s.length≤N) Tryz.underlying46 cl9 (by omega) (fun _=>rfl) (fun m cs y hy hb=>by
  obtain⟨s,rfl,hs⟩:∃s:Txt,cs=[.string (bs s)]∧s.length≤N:=by
   obtain⟨s,e0,g0, -⟩:=DataW.trod_string Tryz.underlying9 hy
   rw[g0] at hb
   simp only[Rows.uptoBulk] at hb
   exact⟨s.data.toList,e0,by omega⟩
  exact⟨s,rfl,hs⟩) h hw
 refine⟨l,?_,h2,h3⟩
 unfold aO
 rw[jM]
 exact h1
theorem zam {N:Nat} (hN:N≤1500000) (n:Nat) (cs:List Value) (x:DataW H×List MemPlace) (h:DataW.trod enc Tryz.prog W 0 (fun _=>true) true n 72 cs=some x) (hw:Rows.uptoBulk x.1≤N):
 ∃y:dW,y.cells=cs∧fe W y∧dU y.l∧y.l.tool.length≤N:=by
 obtain⟨f0,f1,f2,f3,f4,f5,hu,⟨t0,o0⟩,⟨t1,o1⟩,⟨t2,o2⟩,⟨t3,o3⟩,⟨t4,o4⟩,⟨t5,o5⟩⟩:=zfn
 obtain⟨xs,n1, -,hx,aX,bI,hg⟩:=DataW.trod_struct hu h
 rw[zfp] at aX
 match cs,aX with
 |[c0,c1,c2,c3,c4,c5,c6],_=>
 match xs,bI with
 |[y0,y1,y2,y3,y4,y5],_=>
 have h0:=hg 0 f0 rfl
 have h1:=hg 1 f1 rfl
 have h2:=hg 2 f2 rfl
 have h3:=hg 3 f3 rfl
 have h4:=hg 4 f4 rfl
 have h5:=hg 5 f5 rfl
 rw[t0,o0,ze3] at h0
 rw[t1,o1,cl9] at h1
 rw[t2,o2,zfm] at h2
 rw[t3,o3,zee] at h3
 rw[t4,o4,zee] at h4
 rw[t5,o5,zee] at h5
 replace h0:DataW.trod enc Tryz.prog W 0 (fun _=>true) true n1 69 [c0,c1]=some y0:=h0
 replace h1:DataW.trod enc Tryz.prog W 0 (fun _=>true) true n1 9 [c2]=some y1:=h1
 replace h2:DataW.trod enc Tryz.prog W 0 (fun _=>true) true n1 70 [c3]=some y2:=h2
 replace h3:DataW.trod enc Tryz.prog W 0 (fun _=>true) true n1 46 [c4]=some y3:=h3
 replace h4:DataW.trod enc Tryz.prog W 0 (fun _=>true) true n1 46 [c5]=some y4:=h4
 replace h5:DataW.trod enc Tryz.prog W 0 (fun _=>true) true n1 46 [c6]=some y5:=h5
 rw[hx] at hw
 obtain⟨⟨pkg,name⟩,e0, -⟩:=og zfo ze3 _ _ _ h0 (gc hw (j:=0) rfl)
 obtain⟨tool,rfl,b1⟩:=lZ h1 (gc hw (j:=1) rfl)
 obtain⟨env,r2,b2,l2⟩:=jZ (f:=bL) (P:=fun y=>y.1.length≤N∧y.2.length≤N) Tryz.underlying70 zdI (by omega) bF (og zeA zdI) h2 (gc hw (j:=2) rfl)
 obtain⟨ins,r3,b3,l3⟩:=iI h3 (gc hw (j:=3) rfl)
 obtain⟨asks,r4,b4,l4⟩:=iI h4 (gc hw (j:=4) rfl)
 obtain⟨outs,r5,b5,l5⟩:=iI h5 (gc hw (j:=5) rfl)
 obtain⟨rfl,rfl⟩:Value.string (bs pkg)=c0∧Value.string (bs name)=c1:=by simpa[bL] using e0
 refine⟨⟨⟨pkg,name,tool,env,ins,asks,outs⟩,c3,c4,c5,c6⟩,rfl,⟨r2,r3,r4,r5⟩,⟨by simp only;omega,by simp only;omega,by simp only;omega,by simp only;omega,fun s hs=>by have:=b3 s hs;omega,fun s hs=>by have:=b4 s hs;omega,fun s hs=>by have:=b5 s hs;omega,fun s hs=>by have:=(b2 s hs).2;omega,fun s hs=>by have:=(b2 s hs).1;omega⟩,b1⟩
theorem wI {base N:Nat} {v:Value} {d:DataW H} {p:List MemPlace} (hN:N≤1500000)
 (hv:Value.okWide Tryz.prog W .any base 72 v) (h:DataW.Trod enc Tryz.prog W 0 (fun _=>true) true 72 v d p) (hw:Rows.uptoBulk d≤N):
 ∃y:dW,v=.agg y.cells.toArray∧fe W y∧dU y.l∧y.l.tool.length≤N:=by
 obtain⟨cs,rfl, -⟩:=okWide_struct Tryz.underlying72 hv
 obtain⟨fuel,hf⟩:=h
 obtain⟨y,hy,h1,h2,h3⟩:=zam hN fuel cs.toList _ hf hw
 exact⟨y,by rw[hy],h1,h2,h3⟩
theorem zf {base N:Nat} {v:Value} {d:DataW H} {p:List MemPlace}
 (hv:Value.okWide Tryz.prog W .any base 48 v) (h:DataW.Trod enc Tryz.prog W 0 (fun _=>true) true 48 v d p) (hw:Rows.uptoBulk d≤N):
 ∃l:List (Txt×Txt),aE W 2 bL v l∧(∀y∈l,y.1.length≤N∧y.2.length≤N)∧l.length≤N:=by
 obtain⟨a0,len,cap,rfl⟩:=okWide_slice Tryz.underlying48 hv
 obtain⟨fuel,hf⟩:=h
 exact jZ (f:=bL) (v:=.slice a0 len cap) Tryz.underlying48 zeM (by omega) bF (og zfk zeM) hf hw
end
end Go.Proofs.YtlbipokkdiiaiaaGreatDoor
