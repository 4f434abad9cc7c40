/- Lemmas for TopFoundUpto: F10, F85, Frame, W43, F86. -/
import Derived.Test.YtlbipokkdiiaiaaGreatDoorF05
import Derived.Test.YtlbipokkdiiaiaaGreatDoorF23
import Derived.Test.YtlbipokkdiiaiaaGreatDoorF01
import Derived.Test.YtlbipokkdiiaiaaGreatDoorRows
import Derived.Test.YtlbipokkdiiaiaaGreatDoorCards
import Derived.Test.YtlbipokkdiiaiaaGreatDoorTie
import Derived.ProofKit
import Derived.SizedLaws
import Derived.Deep.DeepHandedRow
import Derived.Lib.LaidTab
import Derived.Deep.Slices
import Derived.Test.YtlbipokkdiiaiaaGreatDoorF10
import Derived.Deep.Fields
import Derived.ChangeSame
import Derived.OpenShut
import Derived.Lib.SmallJoins
import Derived.Test.YtlbipokkdiiaiaaGreatDoorF22
open List renaming setIfInBounds_toArray → sA, set_cons_zero → sB, set_cons_succ → sC
namespace Go.Proofs.YtlbipokkdiiaiaaGreatDoor
open Go.RowKit
noncomputable def aI (y:ByL) (l:List bB) (T:Txt→KnL):Nat→bP
 |0=>pN y l
 |i+1=>iL y (aI y l T i) (T (aI y l T i).asks)
noncomputable def bQ (y:ByL) (l:List bB) (T:Txt→KnL) (i:Nat):List KnL:=(List.range i).map fun j=>T (aI y l T j).asks
theorem mG (y:ByL) (l:List bB) (T:Txt→KnL) (i:Nat):bQ y l T (i+1)=bQ y l T i++[T (aI y l T i).asks]:=by
 unfold bQ
 rw[List.range_succ,List.map_append]
 rfl
theorem bU (y:ByL) (l:List bB) (T:Txt→KnL) (i:Nat):(bQ y l T i).length=i:=by simp[bQ]
theorem jh (y:ByL) (l:List bB) (T:Txt→KnL):∀i,(∀j,j<i→(aI y l T j).over=false)→rQ y (aI y l T i)∧(aI y l T i).reads=bQ y l T i
 |0,_=>ox y l
 |i+1,h=>by
  obtain⟨h1,h2⟩:=jh y l T i fun j hj=>h j (by omega)
  obtain⟨h3,h4⟩:=qd y (aI y l T i) (T (aI y l T i).asks) h1 (h i (by omega))
  exact⟨h3,by rw[mG,←h2];exact h4⟩
theorem uZ (y:ByL) (l:List bB) (T:Txt→KnL):∃n,n≤500∧(aI y l T n).over=true∧∀j,j<n→(aI y l T j).over=false:=by
 have h:∀m,(∀j,j<m→(aI y l T j).over=false)∨∃n,n<m∧(aI y l T n).over=true∧∀j,j<n→(aI y l T j).over=false:=by
  intro m
  induction m with
  |zero=>exact .inl fun j hj=>absurd hj (Nat.not_lt_zero _)
  |succ m ih=>
   rcases ih with ih|⟨n,h1,h2,h3⟩
   ·cases ho:(aI y l T m).over with
    |true=>exact .inr ⟨m,by omega,ho,ih⟩
    |false=>
     refine .inl fun j hj=>?_
     by_cases e:j=m
     ·rw[e];exact ho
     ·exact ih j (by omega)
   ·exact .inr ⟨n,by omega,h2,h3⟩
 rcases h 501 with h|⟨n,h1,h2,h3⟩
 ·obtain⟨h1,h2⟩:=jh y l T 500 fun j hj=>h j (by omega)
  have h3:=(h1.ask (h 500 (by omega))).2.2.2.1
  rw[h1.kn,h2,bU] at h3
  omega
 ·exact⟨n,by omega,h2,h3⟩
theorem zc (y:ByL) (l:List bB) (T:Txt→KnL) (_hT:∀p,(T p).path=p) (i:Nat) (h:∀j,j≤i→(aI y l T j).over=false):((bQ y l T i).find? fun k=>decide (k.path=(aI y l T i).asks))=none:=by
 obtain⟨h1,h2⟩:=jh y l T i fun j hj=>h j (by omega)
 have h3:=(h1.ask (h i (Nat.le_refl _))).2.2.1
 unfold au.knows at h3
 rw[h1.kn,h2] at h3
 exact h3
theorem vt (y:ByL) (l:List bB) (T:Txt→KnL) (hT:∀p,(T p).path=p) (i j:Nat) (hj:j<i):((bQ y l T i).find? fun k=>decide (k.path=(aI y l T j).asks))=some (T (aI y l T j).asks):=by
 cases hf:(bQ y l T i).find? fun k=>decide (k.path=(aI y l T j).asks) with
 |none=>
  have h1:=List.find?_eq_none.1 hf (T (aI y l T j).asks) (List.mem_map.2 ⟨j,List.mem_range.2 hj,rfl⟩)
  exact absurd (decide_eq_true (hT _)) h1
 |some k=>
  have h0:=List.find?_some hf
  have h1:k.path=(aI y l T j).asks:=of_decide_eq_true h0
  obtain⟨j', -,rfl⟩:=List.mem_map.1 (List.mem_of_find?_eq_some hf)
  rw[hT] at h1
  rw[h1]
theorem iF (y:ByL) (l:List bB) (T:Txt→KnL) (ans:Txt→Option KnL):∀i,(∀j,j<i→(aI y l T j).over=false∧ans (aI y l T j).asks=some (T (aI y l T j).asks))→bT (gK y ans) (pN y l) (aI y l T i)
 |0,_=>.refl _
 |i+1,h=>by
  refine(iF y l T ans i fun j hj=>h j (by omega)).tail ?_
  obtain⟨h1,h2⟩:=h i (by omega)
  unfold gK
  rw[if_neg (by rw[h1];exact Bool.false_ne_true),h2]
  rfl
theorem yY (y:ByL) (l:List bB) (T:Txt→KnL) (n:Nat) (hn:(aI y l T n).over=true) (h:∀j,j<n→(aI y l T j).over=false):jY y (fun p=>some (T p)) l=aI y l T n:=by
 refine eD (iF y l T _ n fun j hj=>⟨h j hj,rfl⟩) ?_
 unfold gK
 rw[if_pos hn]
theorem ml (y:ByL) (l:List bB) (T:Txt→KnL) (hT:∀p,(T p).path=p) (n:Nat) (hn:(aI y l T n).over=true) (h:∀j,j<n→(aI y l T j).over=false) (i:Nat) (hi:i≤n):
 jY y (fun p=>(bQ y l T i).find? fun k=>decide (k.path=p)) l=aI y l T i:=by
 refine eD (iF y l T _ i fun j hj=>⟨h j (by omega),vt y l T hT i j hj⟩) ?_
 unfold gK
 by_cases e:i=n
 ·rw[if_pos (by rw[e];exact hn)]
 ·rw[if_neg (by rw[h i (by omega)];exact Bool.false_ne_true)]
  have:=zc y l T hT i fun j hj=>h j (by omega)
  show Option.map _ ((bQ y l T i).find? fun k=>decide (k.path=(aI y l T i).asks))=none
  rw[this]
  rfl
open Exec Go.Shelf
attribute [local go_sem] Oper.semAt_some
set_option maxRecDepth 100000
theorem zh {α:Type} {w:World} {sz g e:Nat} {f:α→List Value} {x:α} (hs:(f x).length=sz) (h:w.heap[g]?=some (.cells (f x).toArray e (0,0))):aJ w sz f (.slice (some ⟨g,0,none⟩) 1 1) [x]:=by
 refine⟨by simp[hs],_,_,rfl,Nat.le_refl _,by decide,(fun e=>by cases e),fun _=>⟨g,0,rfl,lx (hid h),fun j u hu=>?_⟩⟩
 rw[List.flatMap_cons,List.flatMap_nil,List.append_nil] at hu
 exact(by simpa using ak h j u hu)
def slN:Value→Nat
 |.slice _ n _=>n
 |_=>0
def mH (p:Txt) (l:List (Txt×Txt)):KnL:=l.foldl (fun k f=>if f.1=p then⟨p,true,f.2⟩ else k) ⟨p,false,[]⟩
theorem sN {p:Txt} {k:KnL}:∀{l:List (Txt×Txt)},(∀f∈l,f.1≠p)→l.foldl (fun k f=>if f.1=p then⟨p,true,f.2⟩ else k) k=k
 |[],_=>rfl
 |f::l,h=>by
  rw[List.foldl_cons,if_neg (h f (List.mem_cons_self ..))]
  exact sN fun g hg=>h g (List.mem_cons_of_mem _ hg)
theorem tS {p:Txt}:∀{l:List (Txt×Txt)},(l.map (·.1)).Nodup→mH p l=bt l p
 |[],_=>rfl
 |f::l,h=>by
  rw[List.map_cons,List.nodup_cons] at h
  unfold mH bt
  by_cases e:f.1=p
  ·rw[List.foldl_cons,if_pos e,List.find?_cons_of_pos (by simpa using e)]
   refine sN fun g hg hh=>h.1 ?_
   rw[e,←hh]
   exact List.mem_map_of_mem hg
  ·rw[List.foldl_cons,if_neg e,List.find?_cons_of_neg (by simpa using e)]
   exact tS h.2
theorem uY (p:Txt) (l:List (Txt×Txt)) (k:Nat) (hk:k<l.length):mH p (l.take (k+1))=if l[k].1=p then⟨p,true,l[k].2⟩ else mH p (l.take k):=by
 unfold mH
 rw[List.take_add_one,List.getElem?_eq_getElem hk,List.foldl_append]
 rfl
theorem fU (fs:List (Txt×Txt)) (p:Txt):(bt fs p).path=p:=by
 unfold bt
 split<;>rfl
theorem mE {fs:List (Txt×Txt)} (h:∀f∈fs,f.2.length≤65536) (p:Txt):(bt fs p).data.length≤65536:=by
 unfold bt
 split
 ·rename_i x hx
  exact h x (List.mem_of_find?_eq_some hx)
 ·exact Nat.zero_le _
theorem vp (p:Txt) (l:List (Txt×Txt)):(mH p l).path=p:=by
 have h:∀(l:List (Txt×Txt)) (k:KnL),k.path=p→(l.foldl (fun k f=>if f.1=p then⟨p,true,f.2⟩ else k) k).path=p:=by
  intro l
  induction l with
  |nil=>exact fun k h=>h
  |cons f l ih=>
   intro k h
   rw[List.foldl_cons]
   refine ih _ ?_
   split
   ·rfl
   ·exact h
 exact h l _ rfl
theorem wC {ks:List KnL} (h:∀k∈ks,k.data.length≤65536):ks.any (fun x=>(x.is&&decide (65536<x.data.length)))=false∧∀p k,knK ks p=some k→k.path=p∧k.data.length≤65536:=by
 have:=up h ks.length
 rwa [List.take_length] at this
theorem iE {y:ByL} {l:List bB} {fs:List (Txt×Txt)} (h:∀f∈fs,f.2.length≤65536) (i:Nat):∀k∈bQ y l (bt fs) i,k.data.length≤65536:=fun k hk=>by
 unfold bQ at hk
 obtain⟨j, -,rfl⟩:=List.mem_map.1 hk
 exact mE h _
theorem qr {y:ByL} {l:List bB} {T:Txt→KnL} {n i:Nat} (hi:i<(bQ y l T n).length):(bQ y l T n)[i]=T (aI y l T i).asks:=by
 have h:∀(n i:Nat) (f:Nat→KnL) (h:i<((List.range n).map f).length),((List.range n).map f)[i]=f i:=fun n i f h=>by simp
 exact h n i _ hi
theorem uo {y:ByL} {l:List bB} {T:Txt→KnL} {n i:Nat} (hi:i≤n):(bQ y l T n).take i=bQ y l T i:=by
 unfold bQ
 rw[←List.map_take,List.take_range,Nat.min_eq_left hi]
set_option maxHeartbeats 16000000 in
theorem xI (x:fy) (fs:List (Txt×Txt)) (fv:Value) (p0 p1:UInt8) (w:World) (hx:fm w x) (hs:eE x.l) (ht:x.l.tool.length≤1500000) (hf:aJ w 2 cO fv fs) (hl:fs.length≤1500000) (hfl:∀f∈fs,f.1.length≤1500000∧f.2.length≤1500000) (hm:bE w) (hp:eR w)
 (hsp:∀W,Calls Tryz.prog 7 #[] W fun e W'=>e=.returned (.bool true)∧Below W.heap.size W W'):
 Calls Tryz.prog 6 #[.agg x.cells.toArray,fv,.agg (zn p0 p1).toArray] w fun e w'=>e=.returned (.bool true)∧Below w.heap.size w w':=by
 have HX:=hid hx
 have HM:=hid (And.intro hm hp)
 have HF:=hid hf
 have HSP:=hid hsp
 have HLEN:=hid (iY x)
 have HONE:=hid (zK hx)
 obtain⟨fa,fc,rfl, -, -, -,hfx⟩:=hf.out cD (by omega)
 have HFX:=hid hfx
 clear hx hm hp hf hsp hfx
 go_enter Tryz.func6,Tryz.ntmps6
 go_upto_region 1 with first|(refine df fC ?_;intro W1 hb1 hn1 hs1)|(refine df zdq ?_;intro W2 hb2 hn2 hs2)
 have HB2:=hid (Below.chain hb1 hb2)
 have hn12:=(hb2.block _ (lx (hid hn1))).trans hn1
 rw[hs1] at hn2
 have HN1:=hid hn12
 have HN2:=hid hn2
 have r1:=ak hn12
 clear hb1 hn1 hs1 hb2 hn2 hs2 hn12
 go_upto_region 2 with first|(refine bX fC r1 HLEN.out ?_)|(refine zbs (xs:=x.cells.toArray) (e:=72) (sz:=7) (by_:=144) (by omega) (by omega) (by rw[List.size_toArray];exact HLEN.out) Tryz.underlying73 (by kernel_rfl) ?_;intro W3 hb3 hn3 hs3;have HS3:=hid hs3;clear hs3)|(refine eS (xs:=(tb (.slice fa fs.length fc) (.slice (some ⟨W2.heap.size,0,none⟩) 1 1)).toArray) zr rfl (by intro u hu;simp only[tb,List.mem_cons,List.not_mem_nil,or_false] at hu;rcases hu with rfl|rfl|rfl|rfl<;>rfl) ?_;intro W4 hb4 hn4 hs4;have HS4:=hid hs4;clear hs4)
 try simp only[Act.put,sA,sB,sC]
 have HB4:=hid (Below.chain HB2.out (Below.chain hb3 hb4))
 have hb34:=Below.chain hb3 hb4
 have HA:=hid (zh (f:=fy.cells) HLEN.out ((hb4.block _ (lx (hid hn3))).trans hn3))
 have HN14:=hid ((hb34.block _ (lx HN1)).trans HN1.out)
 have HN24:=hid ((hb34.block _ (lx HN2)).trans HN2.out)
 have HW4:=hid hn4
 have r7:=ak hn4
 have HSZ:=hid (show w.heap.size+1<W2.heap.size from lx HN2)
 generalize W3.heap.size=q7 at *
 generalize W2.heap.size=q3 at *
 have HGR:=hid (xJ x fs (.slice fa fs.length fc) (.slice (some ⟨q3,0,none⟩) 1 1) W4 (HF.out.below HB4.out (Nat.le_refl _)) HA.out (HX.out.below HB4.out) hs ht hl hfl)
 have HWL:=hid (show(tb (.slice fa fs.length fc) (.slice (some ⟨q3,0,none⟩) 1 1)).length=4 from rfl)
 clear r1 hb3 hb4 hn3 hn4 HS3 HS4 hb34 HN1 HN2
 go_wp2_with (refine bX zr r7 HWL.out ?_)
 refine HGR.out.mono ?_
 rintro e W5 ⟨⟨q,rfl,hq⟩,hb5⟩
 have r7:=aQ hb5 r7
 have HB5:=hid (Below.chain HB4.out hb5)
 have HB45:=hid hb5
 clear hb5
 cases q with
 |true=>
  go_wp2_with (go_at_call 7;refine(HSP.out _).mono ?_;rintro e W6 ⟨rfl,hb6⟩)
  go_ret
  exact⟨rfl,Below.chain HB5.out hb6⟩
 |false=>
 have HT8:=hid (hq rfl).1
 have HCK:=hid (uK x fs (.slice fa fs.length fc) (.slice (some ⟨q3,0,none⟩) 1 1) W5 (HF.out.below HB5.out (Nat.le_refl _)) hfl (HA.out.below HB45.out (Nat.le_refl _)) (HX.out.below HB5.out) hs (by have:=HT8.out;omega) (HM.out.1.below HB5.out))
 clear hq
 go_wp2_with (refine bX zr r7 HWL.out ?_)
 refine HCK.out.mono ?_
 rintro e W6 ⟨⟨i,rfl,hi⟩,hb6⟩
 have HI:=hid hi
 have HB6:=hid (Below.chain HB5.out hb6)
 have HB46:=hid (Below.chain HB45.out hb6)
 clear hb6 hi r7
 by_cases hi0:i=0
 ·have e0:(i !=0)=false:=by rw[hi0];rfl
  obtain⟨hc0,l,htl⟩:=HI.out hi0
  obtain⟨t1,t2,t3⟩:=zbB hc0
  have HT3:=hid (And.intro t2 t3)
  have HTL:=hid htl
  have r1:=ak ((HB46.out.block _ (lx HN14)).trans HN14.out)
  have hak:∀p k,(fun p=>some (bt fs p)) p=some k→k.path=p∧k.data.length≤65536:=fun p k e=>by
   obtain rfl:=Option.some.inj e
   exact⟨fU fs p,mE t2 p⟩
  have HAL:=hid (zba x (.slice fa fs.length fc) fs W6 (HX.out.below HB6.out) hs (by have:=HT8.out;omega) (HM.out.1.below HB6.out) (HM.out.2.below HB6.out) l htl (HF.out.below HB6.out (Nat.le_refl _)) (by omega) (List.any_eq_false.2 fun f hf=>by have:=t2 f hf;simp;omega) hak)
  obtain⟨n,hn5,hn,hj⟩:=uZ (byA x.l) l (bt fs)
  have hall:=yY (byA x.l) l (bt fs) n hn hj
  rw[hall] at HAL
  have HCH:=hid (And.intro hn (And.intro hj hn5))
  clear hc0 htl t1 t2 t3 hak hn hj hn5 hall
  go_upto_block 0 with first|(refine bX fC r1 HLEN.out ?_)|(go_at_call 26;refine HAL.out.mono ?_;rintro e W7 ⟨⟨u,v,rfl,eo⟩,hb7⟩;unfold dH at eo;rw[if_pos HCH.out.1] at eo;obtain⟨-,ofv,orv,rfl,hrows⟩:=eo;have HRO:=hid (And.intro hrows hb7);have HOO:=hid (dv (gi (aI (byA x.l) l (bt fs) n)) (aI (byA x.l) l (bt fs) n).why ofv orv (ft hrows.1.choose_spec.2) (ft hrows.2));clear hrows hb7)|(refine eS (xs:=(dV (gi (aI (byA x.l) l (bt fs) n)) (aI (byA x.l) l (bt fs) n).why ofv orv).toArray) eB rfl HOO.out ?_;intro W8 hb8 hn8 hs8;have HS8:=hid hs8;clear hs8)
  try simp only[Act.put,sA,sB,sC]
  obtain⟨hrows,hb7⟩:=HRO.out
  have hb78:=Below.chain (Below.chain HB6.out hb7) hb8
  have hb48:=Below.chain (Below.chain HB46.out hb7) hb8
  have hfit:=(jh (byA x.l) l (bt fs) n HCH.out.2.1).2
  have hrd:=hrows.2
  rw[hfit,bU] at hrd
  have HRD:=hid (show aJ W8 34 RdL.cells orv ((bQ (byA x.l) l (bt fs) n).map rdK) from(cG (by rw[List.length_map,bU];exact hrd) (by rw[List.length_map,bU];have:=HCH.out.2.2;unfold maxLen;omega)).below hb8 (Nat.le_refl _))
  have HB8:=hid hb78
  have HN18:=hid ((hb48.block _ (lx HN14)).trans HN14.out)
  have HN28:=hid ((hb48.block _ (lx HN24)).trans HN24.out)
  have HN8:=hid hn8
  have HQ8:=hid (lx HN8)
  generalize W7.heap.size=q8 at *
  have HTRY:=hid (fun(W:World) (hb:Below w.heap.size w W) (i:Nat) (hi:i≤n) (kv:Value) (hkv:aJ W 3 knC kv (bQ (byA x.l) l (bt fs) i))=>(sx x kv (bQ (byA x.l) l (bt fs) i) W (HX.out.below hb) hs (by have:=HT8.out;omega) (HM.out.1.below hb) (HM.out.2.below hb) l HTL.out hkv (by rw[bU];have:=HCH.out.2.2;omega) (wC (iE HT3.out.1 i)).1 (wC (iE HT3.out.1 i)).2).mono (R':=fun e w'=>(∃u v,e=.returned (.tuple #[u,v,.int .i64 0])∧dH W.heap.size (aI (byA x.l) l (bt fs) i) w' u v)∧Below W.heap.size W w') (by
   rintro e w' ⟨⟨u,v,rfl,h⟩,hb2⟩
   refine⟨⟨u,v,rfl,?_⟩,hb2⟩
   rw[←ml (byA x.l) l (bt fs) (fU fs) n HCH.out.1 HCH.out.2.1 i hi]
   exact h))
  clear hrows hb7 hb78 hb48 hrd hfit hb8 hn8 HRO HAL r1
  go_wp2_with fail
  go_loopw [10] (fun kv wr=>∃(i:Nat) (ka:Option Addr) (kc:Nat),i≤n∧kv=.slice ka i kc∧wr.ownsRow W8.heap.size 98 3 (.slice ka i kc) i ((bQ (byA x.l) l (bt fs) i).flatMap knC)∧Below W8.heap.size W8 wr) (fun kv _=>n-slN kv)
  case atStart=>exact⟨0,none,0,Nat.zero_le _,rfl,World.ownsRow_nil _ _ _ _,Below.refl _ _⟩
  case round=>
   obtain⟨i,ka,kc,hin,rfl,hkn,hbe⟩:=hrel
   have HBE:=hid hbe
   have HBW:=hid (Below.chain HB8.out hbe)
   have HKN:=hid hkn
   have r1:=ak ((hbe.block _ (lx HN18)).trans HN18.out)
   have n8:=(hbe.block _ (lx HN8)).trans HN8.out
   have HTR:=hid (HTRY.out wr HBW.out i hin (.slice ka i kc) (by
    have:=cG (l:=bQ (byA x.l) l (bt fs) i) (f:=knC) (w:=wr) (v:=.slice ka i kc) (by rw[bU];exact hkn) (by rw[bU];have:=HCH.out.2.2;unfold maxLen;omega)
    exact this))
   have hov:∃k a b c,k=(if i=n then(0:Int) else 1)∧∀B0 w' u v,dH B0 (aI (byA x.l) l (bt fs) i) w' u v→∃(fv rv:Value),u=.agg (ee k a).toArray∧v=.agg (dV b c fv rv).toArray∧fv.oneCell'=true∧rv.oneCell'=true∧(i=n→b=gi (aI (byA x.l) l (bt fs) n))∧(i≠n→a=(aI (byA x.l) l (bt fs) i).asks):=by
    by_cases e:i=n
    ·subst e
     refine⟨0,[],gi (aI (byA x.l) l (bt fs) i),(aI (byA x.l) l (bt fs) i).why,by rw[if_pos rfl],fun B0 w' u v h=>?_⟩
     unfold dH at h
     rw[if_pos HCH.out.1] at h
     obtain⟨h1,fv,rv,h2,⟨ss, -,h3⟩,h4⟩:=h
     exact⟨fv,rv,h1,h2,ft h3,ft h4,fun _=>rfl,fun e=>absurd rfl e⟩
    ·refine⟨1,(aI (byA x.l) l (bt fs) i).asks,0,0,by rw[if_neg e],fun B0 w' u v h=>?_⟩
     unfold dH at h
     rw[if_neg (by rw[HCH.out.2.1 i (by omega)];decide)] at h
     exact⟨gc,gc,h.1,h.2,rfl,rfl,fun h=>absurd h e,fun _=>rfl⟩
   obtain⟨kk,pa,kb,kw,hkk,hov⟩:=hov
   have HOV:=hid hov
   have HKK:=hid hkk
   clear hkk
   have HLEN8:=hid (show(orv=gc∨True) from .inr trivial)
   obtain⟨ra,rc,rfl, -, -, -,hrx⟩:=HRD.out.out RdL.len (by omega)
   rw[List.length_map,bU] at *
   have HRX:=hid hrx
   clear hbe hkn hov HLEN8 hrx
   go_upto_region 9 with first|(refine bX fC r1 HLEN.out ?_)|(go_at_call 28;refine HTR.out.mono ?_;rintro e W9 ⟨⟨u,v,rfl,eo⟩,hb9⟩;obtain⟨fv9,rv9,rfl,rfl,o1,o2,hkb,hpa⟩:=HOV.out _ _ _ _ eo;have HOC:=hid (dv kb kw fv9 rv9 o1 o2);have HB9:=hid hb9;have HKB:=hid (And.intro hkb hpa);clear eo hb9 o1 o2 hkb hpa)|(refine fh jz ?_;intro z9 Wa hz9 hba hna hsa;have HSA:=hid hsa;clear hsa)|(refine fh eB ?_;intro z10 Wb hz10 jW hnb hsb;have HSB:=hid hsb;clear hsb;have hnab:=(jW.block _ (lx (hid hna))).trans hna)|(refine dQ (xs:=(ee kk pa).toArray) jz hnab hz9 rfl (fq _ _) ?_;intro Wc htc hnc hsc;have hnbc:=(htc.foot.block Wa.heap.size (lx (hid hnb)) (by have:=HSA.out;omega)).trans hnb;clear hsc)|(refine dQ (xs:=(dV kb kw fv9 rv9).toArray) eB hnbc hz10 rfl HOC.out ?_;intro Wd htd hnd hsd;clear hsd)
   try simp only[Act.put,sA,sB,sC]
   have hn9d:=(htd.foot.block W9.heap.size (lx (hid hnc)) (by have:=HSA.out;omega)).trans hnc
   have hza:=hba.size
   have hb9d:Below W9.heap.size W9 Wd:=(hba.trans (jW.mono hba.size)).trans ((htc.below (Nat.le_refl _)).trans (htd.below hba.size))
   have hbrd:=Below.chain HB9.out hb9d
   have hlt9:wr.heap.size≤W9.heap.size:=HB9.out.size
   have n8d:=(hbrd.block _ (lx (hid n8))).trans n8
   have u0:Wd.cell? ⟨W9.heap.size,0,none⟩=some (.int .i64 kk):=(cell_of_row _ _ 0 _ _ _ hn9d).trans rfl
   have u1:Wd.cell? ⟨W9.heap.size,1,none⟩=some (.string (bs pa)):=(cell_of_row _ _ 1 _ _ _ hn9d).trans rfl
   have u2:Wd.cell? ⟨Wa.heap.size,0,none⟩=some (.int .i64 kb):=(cell_of_row _ _ 0 _ _ _ hnd).trans rfl
   have u3:Wd.cell? ⟨q8,0,none⟩=some (.int .i64 (gi (aI (byA x.l) l (bt fs) n))):=(cell_of_row _ _ 0 _ _ _ n8d).trans rfl
   have u4:Wd.cell? ⟨q8,3,none⟩=some (.slice ra n rc):=(cell_of_row _ _ 3 _ _ _ n8d).trans rfl
   have HD:=hid hbrd
   have HL9:=hid (And.intro hlt9 (lx (hid hn9d)))
   generalize W9.heap.size=a11 at *
   generalize Wa.heap.size=a12 at *
   clear hn9d hnd hba jW hna hnb hnab hnbc htc htd hnc hza hb9d hbrd hlt9 n8d n8 r1
   have e9:decide ((n:Int)<(i:Int))=false:=decide_eq_false (by omega)
   by_cases hni:i=n
   ·obtain rfl:kk=0:=by rw[HKK.out,if_pos hni]
    obtain rfl:=HKB.out.1 hni
    have hki:aJ wr 3 knC (.slice ka i kc) (bQ (byA x.l) l (bt fs) i):=by
     have:=cG (l:=bQ (byA x.l) l (bt fs) i) (f:=knC) (w:=wr) (v:=.slice ka i kc) (by rw[bU];exact HKN.out) (by rw[bU];have:=HCH.out.2.2;unfold maxLen;omega)
     exact this
    have HBD:=hid (fun(W:World) (hb:Below wr.heap.size wr W)=>xY x W (HX.out.below (Below.chain HBW.out hb)) hs (by have:=HT8.out;omega) (HM.out.1.below (Below.chain HBW.out hb)) (HM.out.2.below (Below.chain HBW.out hb)) l HTL.out (bQ (byA x.l) l (bt fs) i) (.slice ka i kc) (hki.below hb (Nat.le_refl _)) (by rw[bU];have:=HCH.out.2.2;omega) (iE HT3.out.1 i) (by
     intro j hj
     rw[bU] at hj
     have h1:=ml (byA x.l) l (bt fs) (fU fs) n HCH.out.1 HCH.out.2.1 j (by omega)
     have h2:jY (byA x.l) (knK ((bQ (byA x.l) l (bt fs) i).take j)) l=aI (byA x.l) l (bt fs) j:=by
      rw[uo (by omega)]
      exact h1
     rw[h2]
     refine⟨HCH.out.2.1 j (by omega),?_⟩
     rw[qr,fU]) p0 p1)
    have r18:=ak ((HBE.out.block _ (lx HN18)).trans HN18.out)
    have r28:=ak ((HBE.out.block _ (lx HN28)).trans HN28.out)
    have HPL:=hid (show(zn p0 p1).length=2 from rfl)
    clear hki
    subst hni
    go_wp2_with fail
    refine(HSP.out _).mono ?_
    rintro e We ⟨rfl,hbw⟩
    have u2:=Below.keeps hbw u2
    have u3:=Below.keeps hbw u3
    have u4:=Below.keeps hbw u4
    have HBX:=hid (Below.chain HD.out hbw)
    have r18:=aQ HBX.out r18
    have r28:=aQ HBX.out r28
    clear hbw u0 u1
    go_wp2_with first|(refine bX fC r18 HLEN.out ?_)|(refine bX zdq r28 HPL.out ?_)
    refine(HBD.out _ HBX.out).mono ?_
    rintro e Wf ⟨rfl,hbf⟩
    clear u2 u3 u4 r18 r28
    go_wp2_with fail
    go_ret
    exact⟨rfl,Below.chain (Below.chain HBW.out HBX.out) hbf⟩
   ·obtain rfl:kk=1:=by rw[HKK.out,if_neg hni]
    obtain rfl:=HKB.out.2 hni
    go_upto_region 13 with fail
    have HPC:=hid (rfl:(aI (byA x.l) l (bt fs) i).asks=(aI (byA x.l) l (bt fs) i).asks)
    obtain⟨p,hpe⟩:∃p,(aI (byA x.l) l (bt fs) i).asks=p:=⟨_,rfl⟩
    rw[hpe] at u1
    have HPE:=hid hpe
    clear hpe HPC u2 u3 e9
    have HU:=hid (And.intro u0 u4)
    clear u0 u4
    go_upto_block 2 with(refine eS (xs:=(knC ⟨p,false,[]⟩).toArray) eO rfl (gZ _) ?_;intro We hbe2 hne2 hse2)
    try simp only[Act.put,sA,sB,sC]
    have HE0:=hid (And.intro hbe2 hne2)
    have HU1:=hid u1
    have HDW:=hid (Below.chain HBW.out HD.out)
    clear hbe2 hne2 hse2 u1
    generalize wr=w1 at *
    go_wp2_with fail
    go_loopw [84] (fun jv wr=>∃j:Nat,j≤fs.length∧jv=.int .i64 j∧Below Wd.heap.size Wd wr∧wr.heap[Wd.heap.size]?=some (.cells (knC (mH p (fs.take j))).toArray 98 (0,0))) (fun jv _=>fs.length-(intOf jv).toNat)
    case atStart=>exact⟨0,Nat.zero_le _,rfl,HE0.out.1,HE0.out.2⟩
    case round=>
     obtain⟨j,hj,rfl,hbj,hnj⟩:=hrel
     by_cases hlj:j<fs.length
     ·obtain⟨fb,fo,rfl, -,aO⟩:=HFX.out j hlj
      have L0:=aQ (Below.chain HDW.out hbj) (aO j hlj)
      have HSC:=hid (uY p fs j hlj)
      have HSP2:=hid (vp p (fs.take j))
      have u1:=Below.keeps hbj HU1.out
      have HBJ:=hid hbj
      have HNJ:=hid hnj
      generalize fs[j]=f at *
      generalize mH p (fs.take j)=k0 at *
      clear aO hbj hnj
      go_upto_region 17 with first|(refine bX tU L0 (cD _) ?_)|(refine eS (xs:=(cO f).toArray) tU rfl (oN _) ?_;intro W3 hb3 hn3 hs3)
      have f0:W3.cell? ⟨wr.heap.size,0,none⟩=some (.string (bs f.1)):=(cell_of_row _ _ 0 _ _ _ hn3).trans rfl
      have f1:W3.cell? ⟨wr.heap.size,1,none⟩=some (.string (bs f.2)):=(cell_of_row _ _ 1 _ _ _ hn3).trans rfl
      have u1:=Below.keeps hb3 u1
      have hz3:=HBJ.out.size
      have HB3:=hid (HBJ.out.trans (hb3.mono HBJ.out.size))
      have HNK:=hid ((hb3.block _ (lx HNJ)).trans HNJ.out)
      have HLW:=hid (lx HNJ)
      clear hb3 hn3 hs3
      try simp only[Act.put,sA,sB,sC]
      by_cases hfp:f.1=p
      ·have E:(f.1==p)=true:=by rw[hfp];exact beq_self_eq_true _
       have HFP:=hid hfp
       clear hfp
       go_upto_region 18 with fail
       refine aD (fun W=>W.cell? ⟨wr.heap.size,1,none⟩=some (.string (bs f.2))) 5 (by kernel_rfl) ?_
       intro wd hwd
       have hS0:wd.cell? ⟨wr.heap.size,1,none⟩=some (.string (bs f.2)):=Below.keeps hwd f1
       have hnw:=(hwd.block _ (lx HNK)).trans HNK.out
       obtain⟨n1,t1⟩:=aq hnw 1 (.bool true)
       have p1:wd.cell? ⟨Wd.heap.size,1,none⟩=some (.bool k0.is):=(cell_of_row _ _ _ _ _ _ hnw).trans rfl
       have g1:wd.frozen? ⟨Wd.heap.size,1,none⟩=false:=Lib.frozen_of_heap hnw 1
       have hS1:(wd.setCell ⟨Wd.heap.size,1,none⟩ (.bool true)).cell? ⟨wr.heap.size,1,none⟩=some (.string (bs f.2)):=(World.cell?_of_block (t1.foot.block wr.heap.size (lx0 hS0) (by have:=HLW.out;omega))).trans hS0
       obtain⟨n2,t2⟩:=aq n1 2 (.string (bs f.2))
       have p2:(wd.setCell ⟨Wd.heap.size,1,none⟩ (.bool true)).cell? ⟨Wd.heap.size,2,none⟩=some (.string (bs k0.data)):=(cell_of_row _ _ _ _ _ _ n1).trans rfl
       have g2:(wd.setCell ⟨Wd.heap.size,1,none⟩ (.bool true)).frozen? ⟨Wd.heap.size,2,none⟩=false:=Lib.frozen_of_heap n1 2
       have HEND:=hid (And.intro (HB3.out.trans (hwd.mono (by have:=HB3.out.size;omega))) (And.intro t1 (And.intro t2 n2)))
       clear hwd hnw n1 t1 t2 n2
       refine zeZ 0 (some 93) (hi:=rfl) (.inr hS0) ?_
       apply Exists.intro
       refine⟨fun W=>?_,?_⟩
       ·go_simp
        try rfl
       try simp only[Act.put,sA,sB,sC]
       refine ze0 1 (some 94) (hi:=rfl) hS0 ?_
       apply Exists.intro
       refine⟨fun W hW=>?_,?_⟩
       ·have e1:=hW
        go_simp
        try rfl
       try simp only[Act.put,sA,sB,sC]
       refine WL.o 2 (hi:=rfl) ?_
       intro K hK
       go_simp
       refine hK.out _ _ (.inr hS0) ?_
       clear hK K
       try simp only[Act.put,sA,sB,sC]
       refine WL.o 3 (hi:=rfl) ?_
       intro K hK
       go_simp
       refine hK.out _ _ (.inr hS1) ?_
       clear hK K p1 g1
       try simp only[Act.put,sA,sB,sC]
       generalize wd.setCell ⟨Wd.heap.size,1,none⟩ (.bool true)=We at *
       refine WL.o 4 (hi:=rfl) ?_
       intro K hK
       go_simp
       refine hK.out _ _ (.inr hS1) ?_
       clear hK K
       try simp only[Act.put,sA,sB,sC]
       refine WL.o 5 (hi:=rfl) ?_
       intro K hK
       go_simp
       refine hK.out _ _ (.inl (by kernel_rfl)) ?_
       clear hK K
       try simp only[Act.put,sA,sB,sC]
       refine WL.d ?_
       generalize We.setCell ⟨Wd.heap.size,2,none⟩ (.string (bs f.2))=Wf at *
       clear hS0 hS1 p2 g2 f0 f1 u1
       go_wp2_with fail
       obtain⟨hbx,t1,t2,n2⟩:=HEND.out
       refine⟨⟨j+1,by omega,by go_num,hbx.trans ((t1.below (Nat.le_refl _)).trans (t2.below (Nat.le_refl _))),?_⟩,by simp[intOf];omega⟩
       rw[n2,HSC.out,if_pos HFP.out]
       have h1:=HSP2.out
       obtain⟨q1,q2,q3⟩:=k0
       simp only at h1
       subst h1
       rfl
      ·have E:(f.1==p)=false:=by simpa using hfp
       have HFP:=hid hfp
       clear hfp
       go_wp2_with fail
       refine⟨⟨j+1,by omega,by go_num,HB3.out,?_⟩,by simp[intOf];omega⟩
       rw[HSC.out,if_neg HFP.out]
       exact HNK.out
     ·obtain rfl:j=fs.length:=by omega
      rw[List.take_length,tS HT3.out.2] at hnj
      have HBJ:=hid hbj
      have HTP:=hid (fU fs p)
      have HTE:=hid (rfl:bt fs p=bt fs p)
      obtain⟨kt,hkt⟩:∃kt,bt fs p=kt:=⟨_,rfl⟩
      rw[hkt] at hnj HTP
      have HKT:=hid hkt
      have r14:=ak hnj
      clear hbj hkt HTE
      have HKL:=hid (eG kt)
      have HKO:=hid (gZ kt)
      have hkn:=bg (bg HKN.out HD.out (Nat.le_refl _)) HBJ.out (Nat.le_refl _)
      have HKW:=hid hkn
      have HLM:=hid (lx (hid hnj))
      clear hnj hkn
      go_upto_region 21 with first|(refine bX eO r14 HKL.out ?_)|(refine zbs (xs:=(knC kt).toArray) (e:=98) (sz:=3) (by_:=40) (by omega) (by omega) (by rw[List.size_toArray];exact HKL.out) Tryz.underlying91 (by kernel_rfl) ?_;intro W3 hb3 hn3 hs3;obtain⟨v4,W4,hr4,ho4,hb4,hg4,hat4⟩:=mX knC (t:=91) (by_:=40) Tryz.underlying91 (by kernel_rfl) eG (by omega) (by omega) kt HKO.out (bg HKW.out hb3 (Nat.le_refl _)) hn3 (by have:=HBE.out.size;have:=HD.out.size;have:=HBJ.out.size;have:=hb3.size;omega) (by have:=HCH.out.2.2;omega);obtain⟨a4,c4,rfl⟩:=az ho4;have HK4:=hid (And.intro hb3 (And.intro ho4 (And.intro hb4 hg4)));clear hb3 hn3 hs3 ho4 hb4 hg4 hat4)|(refine gA (zaN (t:=91) hr4) ?_;clear hr4)
      try simp only[Act.put,sA,sB,sC]
      obtain⟨hb3,ho4,hb4,hg4⟩:=HK4.out
      have hil:i<n:=by omega
      have hfl2:((bQ (byA x.l) l (bt fs) n).map rdK).length=n:=by rw[List.length_map,bU]
      obtain⟨rb,ro,rfl,hrb,hrc⟩:=HRX.out i (by omega)
      have hpt:=hrc i (by omega)
      rw[List.getElem_map,qr,HPE.out,HKT.out] at hpt
      obtain⟨d0,d1, -⟩:=RdL.parts hpt
      have hb83:=Below.chain (Below.chain (Below.chain HBE.out HD.out) HBJ.out) hb3
      have hb84:=hb83.trans hb4
      have hlm:=HLM.out
      have hown:∀k,Value.ownBlock (.slice ka i kc)=some k→k<w1.heap.size:=fun k hk=>(HKN.out.lt k hk).2
      have hz1:=HD.out.size
      have hz2:=HBJ.out.size
      have hz3:=hb3.size
      have hl9:=HL9.out
      have v0:W4.cell? ⟨rb,ro+i*34,none⟩=some (.string (bs p)):=(World.cell?_of_block (hb84.block rb hrb)).trans (d0.trans (congrArg (fun z=>some (Value.string (bs z))) HTP.out))
      have v1:W4.cell? ⟨rb,ro+i*34+1,none⟩=some (.bool kt.is):=(World.cell?_of_block (hb84.block rb hrb)).trans d1
      have v2:W4.cell? ⟨a11,1,none⟩=some (.string (bs p)):=(World.cell?_of_block ((hg4.block a11 (by omega) (fun e=>by have:=hown a11 e.symm;omega)).trans ((hb3.block a11 (by omega)).trans (HBJ.out.block a11 (by omega))))).trans HU1.out
      have v3:W4.cell? ⟨Wd.heap.size,1,none⟩=some (.bool kt.is):=(World.cell?_of_block ((hg4.block Wd.heap.size (by omega) (fun e=>by have:=hown _ e.symm;omega)).trans (hb3.block Wd.heap.size (by omega)))).trans (r14 1 _ rfl)
      have v4:W4.cell? ⟨q8,3,none⟩=some (.slice (some ⟨rb,ro,none⟩) n rc):=(cell_of_row _ _ _ _ _ _ ((hb84.block q8 HQ8.out).trans HN8.out)).trans rfl
      have e9:decide ((n:Int)<(i:Int)+1)=false:=decide_eq_false (by omega)
      have ew:IntKind.i64.wrap (i:Int)=(i:Int):=by have:=HCH.out.2.2;rw[IntKind.wrap_i64];omega
      have hi500:i<501:=by have:=HCH.out.2.2;omega
      have epp:(p !=p)=false:=bne_self_eq_false _
      have ekk:(kt.is !=kt.is)=false:=bne_self_eq_false _
      have H4:=hid (And.intro ho4 hb84)
      clear hpt d0 d1 hb83 hb84 hlm hown hb3 ho4 hb4 hg4 r14 hrc
      refine aC (by kernel_rfl) (by kernel_rfl) ?_
      repeat(refine WQ.step (fun K hK=>?_);go_simp;first|(refine hK _ ?_;clear hK K)|(apply Exists.intro;refine⟨fun W hW=>?_,hK _ ?_⟩;(first|with_reducible rfl|(have y0:=Below.keeps hW v0;have y1:=Below.keeps hW v1;have y2:=Below.keeps hW v2;have y3:=Below.keeps hW v3;have y4:=Below.keeps hW v4;go_simp;first|rfl|exact⟨rfl,rfl⟩|(simp;done)));clear hK K))
      refine WQ.nil ?_
      intro wt hwt
      have HWT:=hid hwt
      clear hwt v0 v1 v2 v3 v4
      go_wp2_with fail
      obtain⟨ho4,hb84⟩:=H4.out
      refine⟨⟨i+1,a4,c4,by omega,rfl,?_,Below.chain hb84 HWT.out⟩,by show n-(i+1)<n-i;omega⟩
      rw[mG,HPE.out,HKT.out]
      exact bg ho4 HWT.out (Nat.le_refl _)
 ·have e0:(i !=0)=true:=by simpa using hi0
  go_wp2_with (go_at_call 7;refine(HSP.out _).mono ?_;rintro e W7 ⟨rfl,hb7⟩)
  go_ret
  exact⟨rfl,Below.chain HB6.out hb7⟩
end Go.Proofs.YtlbipokkdiiaiaaGreatDoor
namespace Go.Proofs.YtlbipokkdiiaiaaGreatDoor
open Go.ChangeShapes Go.WideShapes Go.ChangeAt Go.RowKit
set_option maxRecDepth 100000
theorem own:ownKnob Tryz.prog.godebug=none:=by kernel_rfl
theorem zbM:laidOutB Tryz.prog=true:=by kernel_rfl
theorem jL {H:Type} {enc:TypeId×Value→H} {P:Program} (hl:laidOutB P=true) {W W':World} (hb:Below W.heap.size W W'):
 ∀(ts:List TypeId) (vs:List Value) (ds:List (DataW H)) (p:List MemPlace),(ts.all fun t=>P.readableRec t&&decide (t<P.types.size))=true→
  DataW.TrodAll enc P W 0 (fun _=>true) true ts vs ds p→(∀x∈p,x.block<W.heap.size)→DataW.TrodAll enc P W' 0 (fun b=>decide (b<W.heap.size)) true ts vs ds p
 |[],[],[],_,_,h,_=>h
 |t::ts,v::vs,d::ds,_,hr,h,aK=>by
  obtain⟨p,q,h1,h2,rfl⟩:=h
  simp only[List.all_cons,Bool.and_eq_true,decide_eq_true_eq] at hr
  exact⟨p,q,Below.trod hl hr.1.1 hr.1.2 h1 hb (fun x hx=>aK x (by simp[hx])),jL hl hb ts vs ds q hr.2 h2 (fun x hx=>aK x (by simp[hx])),rfl⟩
 |[],[],_::_,_,_,h,_=>h.elim
 |[],_::_,_,_,_,h,_=>h.elim
 |_::_,[],_,_,_,h,_=>h.elim
 |_::_,_::_,[],_,_,h,_=>h.elim
theorem zJ {H:Type} {enc:TypeId×Value→H} {s:ChangeSpec} {f:Func} {W W':World} {args:Array Value} {ds gs:List (DataW H)} {before:List MemPlace} (hvars:s.vars=[])
 (hres:f.resultTypes=#[4]) (hr:(f.params.toList.all fun t=>Tryz.prog.readableRec t&&decide (t<Tryz.prog.types.size))=true)
 (hW:DataW.Whole enc Tryz.prog f.params.toList s.vars false W args.toList ds gs before)
 (hfn:(s.fn H (ds++gs)).results=[.lit (.bool true)]∧(s.fn H (ds++gs)).args=ds∧(s.fn H (ds++gs)).vars=[]) (hb:Below W.heap.size W W'):
 s.post enc Tryz.prog f false true false false W args (.bool true) W':=by
 have hW':=hW
 obtain⟨p,q,hA,hV,rfl, -, -⟩:=hW
 have aK:∀x∈p,x.block<W.heap.size:=fun x hx=>hW'.lt x (by simp[hx])
 refine⟨ds,gs,p++q,[]++[],p,[],hW',?_,?_,?_,hb.frame _,fun h=>by cases h⟩
 ·rw[hfn.1,hres];exact trodAll_mk1 (shut_bool Tryz.underlying4 true)
 ·rw[hfn.2.1];exact jL zbM hb _ _ _ _ hr hA aK
 ·rw[hfn.2.2,hvars];rfl
theorem kP {P:Program} {x:String×DataW Unit} {l:List (String×DataW Unit)} {w:World} (h:laidMet P (x::l) w):laidMet P l w:=by
 obtain⟨ps,⟨g,t,cs,fuel,p,q,_,_,_,_,h2,rfl⟩,hnd,hc⟩:=h
 refine⟨q,h2,(List.nodup_append.1 hnd).2.1,fun b off hm=>hc b off ?_⟩
 exact List.mem_append_right _ hm
theorem zaF {name:String} {n:FuncId} {f0:Func} (hn:Tryz.prog.funcNamed name=some n) (h0:Tryz.prog.funcs[n]?=some f0) {b:Bool} (hl:b=Tryz.prog.looks []) (hs:(f0.params.toList.all fun t=>!Tryz.prog.wantsStandIn t)=true)
 (f:FuncId) (fn:Func) (hf:Tryz.pinned.checked.prog.funcNamed name=some f) (hfn:Tryz.pinned.checked.prog.funcs[f]?=some fn):
 b=Tryz.pinned.checked.prog.looks []∧∀(j:Nat) t,fn.params[j]?=some t→Tryz.pinned.checked.prog.wantsStandIn t=false:=by
 obtain rfl:f=n:=(Option.some.inj (hn.symm.trans hf)).symm
 obtain rfl:fn=f0:=(Option.some.inj (h0.symm.trans hfn)).symm
 refine⟨hl,fun j t ht=>?_⟩
 have hm:t∈fn.params.toList:=by simpa using Array.mem_of_getElem? ht
 have:=List.all_eq_true.1 hs t hm
 have h2:Tryz.prog.wantsStandIn t=false:=by simpa using this
 exact h2
open Go.Deep Go.Joins Exec
theorem sE {α:Type} {P:Nat→α→Prop}:∀len,(∀i,i<len→∃x,P i x)→∃l:List α,l.length=len∧∀i (h:i<l.length),P i l[i]
 |0,_=>⟨[],rfl,fun i h=>by simp at h⟩
 |len+1,h=>by
  obtain⟨l,hl,hp⟩:=sE len (fun i hi=>h i (by omega))
  obtain⟨x,hx⟩:=h len (by omega)
  refine⟨l++[x],by simp[hl],fun i hi=>?_⟩
  by_cases e:i<l.length
  ·rw[List.getElem_append_left e];exact hp i e
  ·have:i=len:=by simp at hi;omega
   subst this
   rw[List.getElem_append_right (by omega)]
   simpa[hl] using hx
section
variable {H:Type} {enc:TypeId×Value→H} {W:World}
end
theorem iI {H:Type} {d:DataW H}:∀{ds:List (DataW H)},d∈ds→Rows.uptoBulk d≤Rows.uptoBulkAll ds
 |x::ds,h=>by
  unfold Rows.uptoBulkAll
  rcases List.mem_cons.1 h with rfl|h
  ·omega
  ·have:=iI h;omega
theorem z8 {H:Type} (d:DataW H):1≤Rows.uptoBulk d:=by
 cases d with
 |lit l=>cases l<;>simp[Rows.uptoBulk]
 |_=>simp[Rows.uptoBulk]
theorem tM {H:Type}:∀(ds:List (DataW H)),ds.length≤Rows.uptoBulkAll ds
 |[]=>Nat.zero_le _
 |x::ds=>by
  unfold Rows.uptoBulkAll
  have:=tM ds
  have:=z8 x
  simp only[List.length_cons]
  omega
section
variable {H:Type} {enc:TypeId×Value→H} {W:World}
theorem ke {α:Type} {f:α→List Value} {P:α→Prop} {t e:TypeId} {sz N:Nat} (ht:Tryz.prog.underlying t=some (.slice e)) (hc:Tryz.prog.cellsOf e=sz) (h0:0<sz) (hf:∀x,(f x).length=sz)
 (hel:∀(n:Nat) (cs:List Value) (x:DataW H×List MemPlace),DataW.trod enc Tryz.prog W 0 (fun _=>true) true n e cs=some x→Rows.uptoBulk x.1≤N→∃y:α,f y=cs∧P y)
 {n:Nat} {v:Value} {x:DataW H×List MemPlace} (h:DataW.trod enc Tryz.prog W 0 (fun _=>true) true n t [v]=some x) (hw:Rows.uptoBulk x.1≤N):
 ∃l:List α,aJ W sz f v l∧(∀y∈l,P y)∧l.length≤N:=by
 rcases open_slice ht h with⟨hcs, -⟩|⟨a,len,cap,m,n3,D,Pl,hcs, -,hl,hm,hmm,hxx,hi⟩
 ·obtain rfl:v=.slice none 0 0:=by simpa using hcs
  exact⟨[],am.nil _ _,by simp,by simp⟩
 ·obtain rfl:v=.slice (some a) len cap:=by simpa using hcs
  simp only[if_true] at hmm
  rw[hc] at hi
  have hbk:∀i,i<len→Rows.uptoBulk (D i)≤N:=fun i hil=>by
   rw[hxx] at hw
   simp only[Rows.uptoBulk] at hw
   have:=iI (List.mem_map.2 ⟨i,List.mem_range.2 hil,rfl⟩:D i∈(List.range len).map D)
   omega
  have hlN:len≤N:=by
   rw[hxx] at hw
   simp only[Rows.uptoBulk] at hw
   have:=tM ((List.range len).map D)
   simp only[List.length_map,List.length_range] at this
   omega
  have hyi:∀i,i<len→∃y:α,(∀r u,(f y)[r]?=some u→W.cell? (a.add (i*sz+r))=some u)∧P y:=by
   intro i hil
   obtain⟨cs',hc',hf'⟩:=hi i (by omega)
   obtain⟨_,hcl',hat⟩:=World.cells?_some hc'
   obtain⟨y,hy,hP⟩:=hel n3 cs' (D i,Pl i) hf' (hbk i hil)
   refine⟨y,fun r u hr=>?_,hP⟩
   have hr5:r<sz:=by have:=(List.getElem?_eq_some_iff.1 hr).1;rw[hf] at this;exact this
   have:=hat r hr5
   rw[←Go.Deep.add_add,this,←hy,hr]
  obtain⟨l,hll,hp⟩:=sE (P:=fun i y=>(∀r u,(f y)[r]?=some u→W.cell? (a.add (i*sz+r))=some u)∧P y) len hyi
  refine⟨l,?_,fun y hy=>by obtain⟨i,hi,rfl⟩:=List.getElem_of_mem hy;exact(hp i hi).2,by omega⟩
  have hcell:∀j u,(l.flatMap f)[j]?=some u→W.cell? (a.add j)=some u:=by
   intro j u hu
   have hj:j<l.length*sz:=by rw[←gE f sz hf];exact(List.getElem?_eq_some_iff.1 hu).1
   have hq':j/sz*sz+j%sz=j:=Nat.div_add_mod' j sz
   have hd:j/sz<l.length:=Nat.div_lt_of_lt_mul (by rw[Nat.mul_comm];exact hj)
   have:=nK f sz hf l (j/sz) hd (j%sz) (Nat.mod_lt _ h0)
   rw[hq'] at this
   rw[this] at hu
   have:=(hp (j/sz) hd).1 _ _ hu
   rwa [hq'] at this
  refine⟨gE f sz hf l,some a,cap,by rw[hll],by rw[hll];exact hl,hm,fun h=>(by cases h),fun hne=>?_⟩
  have hl0:0<l.length:=by
   rcases Nat.eq_zero_or_pos l.length with h0|h0
   ·rw[List.length_eq_zero_iff.1 h0] at hne;exact absurd rfl hne
   ·exact h0
  obtain⟨u0,hu0⟩:∃u,(l.flatMap f)[0]?=some u:=⟨_,List.getElem?_eq_getElem (by rw[gE f sz hf];exact Nat.mul_pos hl0 h0)⟩
  obtain⟨b,off,spot⟩:=a
  have hspot:spot=none:=by simpa[Addr.add] using World.cell?_spot (hcell 0 u0 hu0)
  subst hspot
  refine⟨b,off,rfl,?_,fun j u hu=>?_⟩
  ·have:=World.block_lt_of_cell? W _ (hcell 0 u0 hu0);simpa[Addr.add] using this
  ·rw[←add_plain];exact hcell j u hu
theorem cl9:Tryz.prog.cellsOf 9=1:=by kernel_rfl
theorem zee:Tryz.prog.cellsOf 51=2:=by kernel_rfl
theorem zc6:Tryz.prog.cellsOf 209=2:=by kernel_rfl
theorem zeX:Tryz.prog.cellsOf 72=7:=by kernel_rfl
theorem zei:Tryz.prog.cellsOf 69=2:=by kernel_rfl
theorem zeP:Tryz.prog.cellsOf 70=1:=by kernel_rfl
theorem zdn:Tryz.prog.cellsOf 46=1:=by kernel_rfl
theorem zeV:∃f0 f1:Field,Tryz.prog.underlying 51=some (.struct #[f0,f1])∧(f0.type=9∧f0.offset=0)∧(f1.type=9∧f1.offset=1):=⟨_,_,Tryz.underlying51,⟨rfl,rfl⟩,⟨rfl,rfl⟩⟩
theorem zeK:∃f0 f1:Field,Tryz.prog.underlying 209=some (.struct #[f0,f1])∧(f0.type=9∧f0.offset=0)∧(f1.type=9∧f1.offset=1):=⟨_,_,Tryz.underlying209,⟨rfl,rfl⟩,⟨rfl,rfl⟩⟩
theorem zeQ:∃f0 f1:Field,Tryz.prog.underlying 69=some (.struct #[f0,f1])∧(f0.type=9∧f0.offset=0)∧(f1.type=9∧f1.offset=1):=⟨_,_,Tryz.underlying69,⟨rfl,rfl⟩,⟨rfl,rfl⟩⟩
theorem zeO:∃f0 f1 f2 f3 f4 f5:Field,Tryz.prog.underlying 72=some (.struct #[f0,f1,f2,f3,f4,f5])∧(f0.type=69∧f0.offset=0)∧(f1.type=9∧f1.offset=2)∧(f2.type=70∧f2.offset=3)∧(f3.type=46∧f3.offset=4)∧(f4.type=46∧f4.offset=5)∧(f5.type=46∧f5.offset=6):=
 ⟨_,_,_,_,_,_,Tryz.underlying72,⟨rfl,rfl⟩,⟨rfl,rfl⟩,⟨rfl,rfl⟩,⟨rfl,rfl⟩,⟨rfl,rfl⟩,⟨rfl,rfl⟩⟩
theorem lG {N n:Nat} {c:Value} {y:DataW H×List MemPlace} (h:DataW.trod enc Tryz.prog W 0 (fun _=>true) true n 9 [c]=some y) (hb:Rows.uptoBulk y.1≤N):∃s:Txt,c=.string (bs s)∧s.length≤N:=by
 obtain⟨s,e0,g0, -⟩:=DataW.trod_string Tryz.underlying9 h
 simp only[List.cons.injEq,and_true] at e0
 subst e0
 rw[g0] at hb
 simp only[Rows.uptoBulk] at hb
 exact⟨s.data.toList,rfl,by omega⟩
theorem gq {ys:List (DataW H)} {N j:Nat} {y:DataW H} (h:Rows.uptoBulk (.agg ys)≤N) (hy:ys[j]?=some y):Rows.uptoBulk y≤N:=by
 simp only[Rows.uptoBulk] at h
 have:=iI (List.mem_of_getElem? hy)
 omega
theorem oM {t:TypeId} (hun:∃f0 f1:Field,Tryz.prog.underlying t=some (.struct #[f0,f1])∧(f0.type=9∧f0.offset=0)∧(f1.type=9∧f1.offset=1)) (hcl0:Tryz.prog.cellsOf t=2) {N:Nat} (n:Nat) (cs:List Value) (x:DataW H×List MemPlace) (h:DataW.trod enc Tryz.prog W 0 (fun _=>true) true n t cs=some x) (hw:Rows.uptoBulk x.1≤N):
 ∃y:Txt×Txt,cO y=cs∧(y.1.length≤N∧y.2.length≤N):=by
 obtain⟨f0,f1,hu,⟨t0,o0⟩,⟨t1,o1⟩⟩:=hun
 obtain⟨xs,n1, -,hx,aO,bY,hg⟩:=DataW.trod_struct hu h
 rw[hcl0] at aO
 match cs,aO with
 |[c0,c1],_=>
 match xs,bY with
 |[y0,y1],_=>
 have h0:=hg 0 f0 rfl
 have h1:=hg 1 f1 rfl
 rw[t0,o0,cl9] at h0
 rw[t1,o1,cl9] at h1
 replace h0:DataW.trod enc Tryz.prog W 0 (fun _=>true) true n1 9 [c0]=some y0:=h0
 replace h1:DataW.trod enc Tryz.prog W 0 (fun _=>true) true n1 9 [c1]=some y1:=h1
 rw[hx] at hw
 obtain⟨s0,rfl,b0⟩:=lG h0 (gq hw (j:=0) rfl)
 obtain⟨s1,rfl,b1⟩:=lG h1 (gq hw (j:=1) rfl)
 exact⟨(s0,s1),rfl,b0,b1⟩
theorem jO:∀l:List Txt,ac l=l.flatMap fun s=>[.string (bs s)]
 |[]=>rfl
 |s::l=>by
  rw[List.flatMap_cons,←jO l]
  rfl
theorem jb {N n:Nat} {v:Value} {x:DataW H×List MemPlace} (h:DataW.trod enc Tryz.prog W 0 (fun _=>true) true n 46 [v]=some x) (hw:Rows.uptoBulk x.1≤N):∃l:List Txt,bn W v l∧(∀s∈l,s.length≤N)∧l.length≤N:=by
 obtain⟨l,h1,h2,h3⟩:=ke (f:=fun s:Txt=>[.string (bs s)]) (P:=fun s=>s.length≤N) Tryz.underlying46 cl9 (by omega) (fun _=>rfl) (fun m cs y hy hb=>by
  obtain⟨s,rfl,hs⟩:∃s:Txt,cs=[.string (bs s)]∧s.length≤N:=by
   obtain⟨s,e0,g0, -⟩:=DataW.trod_string Tryz.underlying9 hy
   rw[g0] at hb
   simp only[Rows.uptoBulk] at hb
   exact⟨s.data.toList,e0,by omega⟩
  exact⟨s,rfl,hs⟩) h hw
 refine⟨l,?_,h2,h3⟩
 unfold bn
 rw[jO]
 exact h1
theorem zaC {N:Nat} (hN:N≤1500000) (n:Nat) (cs:List Value) (x:DataW H×List MemPlace) (h:DataW.trod enc Tryz.prog W 0 (fun _=>true) true n 72 cs=some x) (hw:Rows.uptoBulk x.1≤N):
 ∃y:fy,y.cells=cs∧fm W y∧eE y.l∧y.l.tool.length≤N:=by
 obtain⟨f0,f1,f2,f3,f4,f5,hu,⟨t0,o0⟩,⟨t1,o1⟩,⟨t2,o2⟩,⟨t3,o3⟩,⟨t4,o4⟩,⟨t5,o5⟩⟩:=zeO
 obtain⟨xs,n1, -,hx,aO,bY,hg⟩:=DataW.trod_struct hu h
 rw[zeX] at aO
 match cs,aO with
 |[c0,c1,c2,c3,c4,c5,c6],_=>
 match xs,bY with
 |[y0,y1,y2,y3,y4,y5],_=>
 have h0:=hg 0 f0 rfl
 have h1:=hg 1 f1 rfl
 have h2:=hg 2 f2 rfl
 have h3:=hg 3 f3 rfl
 have h4:=hg 4 f4 rfl
 have h5:=hg 5 f5 rfl
 rw[t0,o0,zei] at h0
 rw[t1,o1,cl9] at h1
 rw[t2,o2,zeP] at h2
 rw[t3,o3,zdn] at h3
 rw[t4,o4,zdn] at h4
 rw[t5,o5,zdn] at h5
 replace h0:DataW.trod enc Tryz.prog W 0 (fun _=>true) true n1 69 [c0,c1]=some y0:=h0
 replace h1:DataW.trod enc Tryz.prog W 0 (fun _=>true) true n1 9 [c2]=some y1:=h1
 replace h2:DataW.trod enc Tryz.prog W 0 (fun _=>true) true n1 70 [c3]=some y2:=h2
 replace h3:DataW.trod enc Tryz.prog W 0 (fun _=>true) true n1 46 [c4]=some y3:=h3
 replace h4:DataW.trod enc Tryz.prog W 0 (fun _=>true) true n1 46 [c5]=some y4:=h4
 replace h5:DataW.trod enc Tryz.prog W 0 (fun _=>true) true n1 46 [c6]=some y5:=h5
 rw[hx] at hw
 obtain⟨⟨pkg,name⟩,e0, -⟩:=oM zeQ zei _ _ _ h0 (gq hw (j:=0) rfl)
 obtain⟨tool,rfl,b1⟩:=lG h1 (gq hw (j:=1) rfl)
 obtain⟨env,r2,b2,l2⟩:=ke (f:=cO) (P:=fun y=>y.1.length≤N∧y.2.length≤N) Tryz.underlying70 zc6 (by omega) cD (oM zeK zc6) h2 (gq hw (j:=2) rfl)
 obtain⟨ins,r3,b3,l3⟩:=jb h3 (gq hw (j:=3) rfl)
 obtain⟨asks,r4,b4,l4⟩:=jb h4 (gq hw (j:=4) rfl)
 obtain⟨outs,r5,b5,l5⟩:=jb h5 (gq hw (j:=5) rfl)
 obtain⟨rfl,rfl⟩:Value.string (bs pkg)=c0∧Value.string (bs name)=c1:=by simpa[cO] using e0
 refine⟨⟨⟨pkg,name,tool,env,ins,asks,outs⟩,c3,c4,c5,c6⟩,rfl,⟨r2,r3,r4,r5⟩,⟨by simp only;omega,by simp only;omega,by simp only;omega,by simp only;omega,fun s hs=>by have:=b3 s hs;omega,fun s hs=>by have:=b4 s hs;omega,fun s hs=>by have:=b5 s hs;omega,fun s hs=>by have:=(b2 s hs).2;omega,fun s hs=>by have:=(b2 s hs).1;omega⟩,b1⟩
theorem zcZ {base N:Nat} {v:Value} {d:DataW H} {p:List MemPlace} (hN:N≤1500000)
 (hv:Value.okWide Tryz.prog W .any base 72 v) (h:DataW.Trod enc Tryz.prog W 0 (fun _=>true) true 72 v d p) (hw:Rows.uptoBulk d≤N):
 ∃y:fy,v=.agg y.cells.toArray∧fm W y∧eE y.l∧y.l.tool.length≤N:=by
 obtain⟨cs,rfl, -⟩:=okWide_struct Tryz.underlying72 hv
 obtain⟨fuel,hf⟩:=h
 obtain⟨y,hy,h1,h2,h3⟩:=zaC hN fuel cs.toList _ hf hw
 exact⟨y,by rw[hy],h1,h2,h3⟩
theorem zb {base N:Nat} {v:Value} {d:DataW H} {p:List MemPlace}
 (hv:Value.okWide Tryz.prog W .any base 48 v) (h:DataW.Trod enc Tryz.prog W 0 (fun _=>true) true 48 v d p) (hw:Rows.uptoBulk d≤N):
 ∃l:List (Txt×Txt),aJ W 2 cO v l∧(∀y∈l,y.1.length≤N∧y.2.length≤N)∧l.length≤N:=by
 obtain⟨a0,len,cap,rfl⟩:=okWide_slice Tryz.underlying48 hv
 obtain⟨fuel,hf⟩:=h
 exact ke (f:=cO) (v:=.slice a0 len cap) Tryz.underlying48 zee (by omega) cD (oM zeV zee) hf hw
theorem zb3 {cs:List Value} {k:Nat} (hk:k<cs.length) {n:Nat} {y:DataW H×List MemPlace} (h:DataW.trod enc Tryz.prog W 0 (fun _=>true) true n 5 [cs[k]]=some y):∃b:UInt8,cs[k]=.int .u8 (b.toNat:Int):=by
 have hi5:Tryz.prog.underlying 5=some (.int .u8):=by kernel_rfl
 obtain⟨a,ha, -,hw⟩:=DataW.trod_int hi5 h
 simp only[List.cons.injEq,and_true] at ha
 have k1:IntKind.u8.min=0:=rfl
 have k2:IntKind.u8.max=255:=rfl
 simp only[Lit.wf,Bool.and_eq_true,decide_eq_true_eq,k1,k2] at hw
 refine⟨UInt8.ofNat a.toNat,?_⟩
 rw[ha]
 have:(UInt8.ofNat a.toNat).toNat=a.toNat:=by simp;omega
 rw[this]
 congr 1
 omega
theorem zat {base:Nat} {v:Value} {d:DataW H} {p:List MemPlace} (hv:Value.okWide Tryz.prog W .any base 90 v) (h:DataW.Trod enc Tryz.prog W 0 (fun _=>true) true 90 v d p):∃p0 p1:UInt8,v=.agg #[.int .u8 p0.toNat,.int .u8 p1.toNat]:=by
 have hu:Tryz.prog.underlying 90=some (.array 2 5):=Tryz.underlying90
 have hc:Tryz.prog.cellsOf 90=2:=by kernel_rfl
 have hc5:Tryz.prog.cellsOf 5=1:=by kernel_rfl
 obtain⟨cs,rfl⟩:∃cs,v=.agg cs:=by
  simp only[Value.okWide,hu] at hv
  obtain⟨cs,h1, -⟩:=hv
  exact⟨cs,h1⟩
 obtain⟨fuel,hf⟩:=h
 obtain⟨xs,m, -, -,aO,hxl,hat⟩:=DataW.trod_array hu (cs:=cs.toList) hf
 rw[hc] at aO
 have hone:∀i (hi:i<cs.toList.length),∃b:UInt8,cs.toList[i]=.int .u8 (b.toNat:Int):=by
  intro i hi
  have h1:=hat i (by omega)
  rw[hc5,Nat.mul_one,List.drop_eq_getElem_cons hi] at h1
  simp only[List.take_succ_cons,List.take_zero] at h1
  rw[List.getElem?_eq_getElem (show i<xs.length by omega)] at h1
  exact zb3 hi h1
 obtain⟨p0,h0⟩:=hone 0 (by omega)
 obtain⟨p1,h1⟩:=hone 1 (by omega)
 refine⟨p0,p1,?_⟩
 congr 1
 apply Array.ext'
 refine List.ext_getElem (by simpa using aO) fun i h2 h3=>?_
 match i,h3 with
 |0,_=>simpa using h0
 |1,_=>simpa using h1
end
end Go.Proofs.YtlbipokkdiiaiaaGreatDoor
