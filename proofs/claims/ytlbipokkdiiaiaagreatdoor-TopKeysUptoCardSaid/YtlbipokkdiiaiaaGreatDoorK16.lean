/- Lemmas for TopKeysUpto: F34a, F34, F35a, F35, F36, F37, F38, F39, F39b, F40, F49. -/
import Derived.Test.YtlbipokkdiiaiaaGreatDoorK15
namespace Go.Proofs.YtlbipokkdiiaiaaGreatDoor
open Go.RowKit Exec Go.Shelf
set_option maxRecDepth 100000
attribute [local go_sem] Oper.semAt_some
theorem yT (s x:Txt) (bx:Nat) (w:World) (hs:s.length≤1000000) (hc:w.cell? ⟨bx,0,none⟩=some (.string (bs x))) (hm:bE w):Calls Tryz.prog 247 #[.string (bs s),.pointer (some ⟨bx,0,none⟩)] w fun e w'=>e=.returned (.bool (Lib.contains s x))∧w'=w:=by
 obtain⟨m,hm⟩:=hm
 have HC:=hid (Tryz.strings_Contains (bs s) (bs x) m w (by rw[aV];omega) hm)
 simp only[bs] at HC
 rw[show(⟨s.toArray⟩:ByteArray)=bs s from rfl,show(⟨x.toArray⟩:ByteArray)=bs x from rfl] at HC
 go_enter Tryz.func247,Tryz.ntmps247
 go_wp2_with (go_at_call 248;refine HC.out.mono ?_;rintro e W2 ⟨rfl,rfl⟩)
 go_ret
 exact⟨rfl,rfl⟩
set_option maxHeartbeats 4000000 in
theorem zaM (x:Txt) (bx:Nat) (a:Option Addr) (c:Nat) (ls:List Txt) (w:World) (hk:rW w a ls) (hn:ls.length≤65537) (hs:∀s∈ls,s.length≤1000000) (hc:w.cell? ⟨bx,0,none⟩=some (.string (bs x))) (hm:bE w):
 Calls Tryz.prog 182 #[.slice a ls.length c,.func (.func 247) #[] #[.pointer (some ⟨bx,0,none⟩)]] w fun e w'=>∃i:Int,e=.returned (.int .i64 i)∧decide (0≤i)=ls.any (fun s=>Lib.contains s x)∧w'=w:=by
 have HK:=hid hk
 have HF:=hid (fun(s:Txt) (h:s∈ls)=>yT s x bx w (hs s h) hc hm)
 clear hk hs hc hm
 go_enter Tryz.func182,Tryz.ntmps182
 go_wp2_with fail
 go_loopw [8] (fun i wr=>∃k:Nat,k≤ls.length∧i=.int .i64 k∧(∀j (hj:j<ls.length),j<k→Lib.contains ls[j] x=false)∧wr=w) (fun i _=>ls.length-(intOf i).toNat)
 case atStart=>exact⟨0,Nat.zero_le _,rfl,fun j _ h=>absurd h (Nat.not_lt_zero _),rfl⟩
 case round=>
  obtain⟨k,hk,rfl,hall,rfl⟩:=hrel
  have HA:=hid hall
  clear hall
  by_cases aH:k<ls.length
  ·obtain⟨b,o,rfl, -,aX⟩:=HK.out k aH
   have L0:=aX k aH
   have HC:=hid (HF.out _ (List.getElem_mem aH))
   have HM:=hid (List.getElem_mem aH)
   clear aX
   cases hq:Lib.contains ls[k] x with
   |true=>
    rw[hq] at HC
    have HQ:=hid hq
    clear hq
    go_wp2_with (go_at_call 247;refine HC.out.mono ?_;rintro e W2 ⟨rfl,rfl⟩)
    go_ret
    exact⟨(k:Int),rfl,(decide_eq_true (by omega)).trans (List.any_eq_true.2 ⟨_,HM.out,HQ.out⟩).symm,rfl⟩
   |false=>
    rw[hq] at HC
    have HQ:=hid hq
    clear hq
    go_wp2_with (go_at_call 247;refine HC.out.mono ?_;rintro e W2 ⟨rfl,rfl⟩)
    exact⟨⟨k+1,by omega,by go_num,fun j hj hjk=>by
     by_cases e:j=k
     ·subst e;exact HQ.out
     ·exact HA.out j hj (by omega),trivial⟩,by simp[intOf];omega⟩
  ·obtain rfl:k=ls.length:=by omega
   go_wp2_with fail
   go_ret
   refine⟨-1,rfl,?_,rfl⟩
   refine Eq.symm (List.any_eq_false.2 fun s hs=>?_)
   obtain⟨i,hi,rfl⟩:=List.getElem_of_mem hs
   rw[HA.out i hi hi]
   simp
theorem ta (x:Txt) (bx:Nat) (a:Option Addr) (c:Nat) (ls:List Txt) (w:World) (hk:rW w a ls) (hn:ls.length≤65537) (hs:∀s∈ls,s.length≤1000000) (hc:w.cell? ⟨bx,0,none⟩=some (.string (bs x))) (hm:bE w):
 Calls Tryz.prog 141 #[.slice a ls.length c,.func (.func 247) #[] #[.pointer (some ⟨bx,0,none⟩)]] w fun e w'=>e=.returned (.bool (ls.any (fun s=>Lib.contains s x)))∧w'=w:=by
 have HI:=hid (zaM x bx a c ls w hk hn hs hc hm)
 clear hk hs hc hm
 generalize ls.any (fun s=>Lib.contains s x)=q at *
 go_enter Tryz.func141,Tryz.ntmps141
 go_wp2_with (go_at_call 182;refine HI.out.mono ?_;rintro e W2 ⟨i,rfl,hi,rfl⟩)
 go_ret
 exact⟨rfl,rfl⟩
section
variable {B g km mb:Nat} {D:Nat→Prop} {env:List (Txt×Txt)} {r:aw} {w W:World} {tv ev:Value} {vs cs:List Value}
set_option maxHeartbeats 8000000 in
theorem uu (h:aN B D g env r w tv ev km mb vs cs) (hg:aM B w) (rest a:Txt) (wv:Value) (hw:ap w 1 wv 2 (ag [fG,a])) (hq:(aq r.buffer).any (fun s=>Lib.contains s a)=true):
 Calls Tryz.prog 194 #[.pointer (some ⟨g,0,none⟩),.agg #[wv,.string (bs rest)]] w fun e w2=>e=.returned (.tuple #[])∧aD B D g env (r) w w2:=by
 obtain⟨hb,hz,q0,q1,q2⟩:=cw w g wv rest
 have H3:=hid (h.below hb)
 have HG3:=hid (hg.below hb)
 have HW3:=hid (aP hw hb)
 have HB3:=hid hb
 have H0:=hid h
 have HG0:=hid hg
 have HW0:=hid hw
 have hzz:=hz
 obtain⟨-,va,vc,hv,hvc,hvm,hx⟩:=(aP hw hb).str
 subst hv
 have hsl:r.buffer.length≤65536:=h.sm.buf
 clear h hg hw
 go_enter Tryz.func194,Tryz.ntmps194
 unfold doW at *
 go_upto_region 2 with fail
 generalize ((w.alloc (.cells #[.pointer (some ⟨g,0,none⟩)] 275)).alloc (.cells #[.slice va 2 vc,.string (bs rest)] 328)).alloc (.cells #[.string ⟨#[]⟩] 9)=W3 at *
 obtain⟨wb,wo,rfl,hwb,aX⟩:=hx 0 (by simp)
 have L0:=aX 0 (by simp)
 have L1:=aX 1 (by simp)
 simp only[List.getElem_cons_zero,List.getElem_cons_succ,Nat.add_zero] at L0 L1
 clear aX hx
 have c10:W3.cell? ⟨w.heap.size+1,0,none⟩=some (.slice (some ⟨wb,wo,none⟩) 2 vc):=(cell_of_row _ _ 0 _ _ _ q1).trans rfl
 have c11:W3.cell? ⟨w.heap.size+1,1,none⟩=some (.string (bs rest)):=(cell_of_row _ _ 1 _ _ _ q1).trans rfl
 have c2:W3.cell? ⟨w.heap.size+1+1,0,none⟩=some (.string (bs [])):=(cell_of_row _ _ 0 _ _ _ q2).trans rfl
 have f2:W3.frozen? ⟨w.heap.size+1+1,0,none⟩=false:=Lib.frozen_of_heap q2 0
 go_upto_region 4 with fail
 obtain⟨n4,t4⟩:=au q2 0 (.string (bs a))
 have hne:∀b,b≠w.heap.size+1+1→∀j v,W3.cell? ⟨b,j,none⟩=some v→(W3.setCell ⟨w.heap.size+1+1,0,none⟩ (.string (bs a))).cell? ⟨b,j,none⟩=some v:=fun b hb j v hc=>(dS _ (fun e=>hb e.1.symm)).trans hc
 have hb4:Below w.heap.size w (W3.setCell ⟨w.heap.size+1+1,0,none⟩ (.string (bs a))):=HB3.out.trans (t4.below (by omega))
 have q0':=hne w.heap.size (by omega) 0 _ q0
 have c10':=hne _ (by omega) _ _ c10
 have c11':=hne _ (by omega) _ _ c11
 have c2':(W3.setCell ⟨w.heap.size+1+1,0,none⟩ (.string (bs a))).cell? ⟨w.heap.size+1+1,0,none⟩=some (.string (bs a)):=(cell_of_row _ _ 0 _ _ _ n4).trans rfl
 have hwbz:wb≠w.heap.size+1+1:=fun e=>by
  obtain⟨-,a9,c9,hv9, -, -,hx9⟩:=HW0.out.str
  simp only[Value.slice.injEq] at hv9
  obtain⟨e9, -, -⟩:=hv9
  obtain⟨b9,o9,h9,hlt9, -⟩:=hx9 0 (by simp)
  rw[←e9] at h9
  cases h9
  omega
 have L0':=hne _ hwbz _ _ L0
 have L1':=hne _ hwbz _ _ L1
 clear q0 c10 c11 c2 f2 L0 L1 hne n4 t4 q1 q2
 generalize W3.setCell ⟨w.heap.size+1+1,0,none⟩ (.string (bs a))=W4 at *
 have HR4:=hid (H0.out.below hb4)
 have HG4:=hid (HG0.out.below hb4)
 have cg2:=(aA HR4.out.at_).2.2.1
 go_upto_region 5 with(go_at_call 219;refine(bJ r.buffer W4 (by omega) HG4.out.max).mono ?_;rintro e W5 ⟨v,rfl,ho,hb5⟩)
 obtain⟨la,lc,rfl⟩:=ax ho
 have hbw:=Below.chain hb4 hb5
 have HO:=hid (show dv w W5 (aq r.buffer) (.slice la (aq r.buffer).length lc) from⟨aK ho hb4.size,hbw,by have:=bt r.buffer;omega,fun s hs=>Nat.le_trans (bf r.buffer s hs) hsl⟩)
 have HR5:=hid (HR4.out.below hb5)
 have HG5:=hid (HG4.out.below hb5)
 have HB5:=hid hbw
 have d0:=Below.keeps hb5 q0'
 have d10:=Below.keeps hb5 c10'
 have d11:=Below.keeps hb5 c11'
 have d2:=Below.keeps hb5 c2'
 have K0:=Below.keeps hb5 L0'
 have K1:=Below.keeps hb5 L1'
 clear hb hz q0' c10' c11' c2' cg2 L0' L1' hb5 ho hbw hb4
 unfold fG at *
 obtain⟨a8,c8,hv8, -, -, -, -,hx8⟩:=cp HO.out.row (by have:=HO.out.few;omega)
 simp only[Value.slice.injEq] at hv8
 obtain⟨rfl, -,rfl⟩:=hv8
 have HC:=hid (ta a (w.heap.size+1+1) la lc (aq r.buffer) W5 hx8 HO.out.few (fun s hs=>Nat.le_trans (HO.out.each s hs) (by omega)) d2 HG5.out.max)
 clear hx8
 rw[hq] at HC
 clear hq
 go_wp2_with (go_at_call 141;refine HC.out.mono ?_;rintro e W6 ⟨rfl,rfl⟩)
 go_end0
 exact⟨rfl,D,fun j e=>.inl e,az.of_below HB5.out,_,_,_,_,_,_,HR5.out⟩
set_option maxHeartbeats 8000000 in
theorem wi (h:aN B D g env r w tv ev km mb vs cs) (hg:aM B w) (rest a:Txt) (wv:Value) (hw:ap w 1 wv 2 (ag [fG,a])) (hq:(aq r.buffer).any (fun s=>Lib.contains s a)=false):
 Calls Tryz.prog 194 #[.pointer (some ⟨g,0,none⟩),.agg #[wv,.string (bs rest)]] w fun e w2=>e=.returned (.tuple #[])∧aD B D g env (cK r 15) w w2:=by
 obtain⟨hb,hz,q0,q1,q2⟩:=cw w g wv rest
 have H3:=hid (h.below hb)
 have HG3:=hid (hg.below hb)
 have HW3:=hid (aP hw hb)
 have HB3:=hid hb
 have H0:=hid h
 have HG0:=hid hg
 have HW0:=hid hw
 have hzz:=hz
 obtain⟨-,va,vc,hv,hvc,hvm,hx⟩:=(aP hw hb).str
 subst hv
 have hsl:r.buffer.length≤65536:=h.sm.buf
 clear h hg hw
 go_enter Tryz.func194,Tryz.ntmps194
 unfold doW at *
 go_upto_region 2 with fail
 generalize ((w.alloc (.cells #[.pointer (some ⟨g,0,none⟩)] 275)).alloc (.cells #[.slice va 2 vc,.string (bs rest)] 328)).alloc (.cells #[.string ⟨#[]⟩] 9)=W3 at *
 obtain⟨wb,wo,rfl,hwb,aX⟩:=hx 0 (by simp)
 have L0:=aX 0 (by simp)
 have L1:=aX 1 (by simp)
 simp only[List.getElem_cons_zero,List.getElem_cons_succ,Nat.add_zero] at L0 L1
 clear aX hx
 have c10:W3.cell? ⟨w.heap.size+1,0,none⟩=some (.slice (some ⟨wb,wo,none⟩) 2 vc):=(cell_of_row _ _ 0 _ _ _ q1).trans rfl
 have c11:W3.cell? ⟨w.heap.size+1,1,none⟩=some (.string (bs rest)):=(cell_of_row _ _ 1 _ _ _ q1).trans rfl
 have c2:W3.cell? ⟨w.heap.size+1+1,0,none⟩=some (.string (bs [])):=(cell_of_row _ _ 0 _ _ _ q2).trans rfl
 have f2:W3.frozen? ⟨w.heap.size+1+1,0,none⟩=false:=Lib.frozen_of_heap q2 0
 go_upto_region 4 with fail
 obtain⟨n4,t4⟩:=au q2 0 (.string (bs a))
 have hne:∀b,b≠w.heap.size+1+1→∀j v,W3.cell? ⟨b,j,none⟩=some v→(W3.setCell ⟨w.heap.size+1+1,0,none⟩ (.string (bs a))).cell? ⟨b,j,none⟩=some v:=fun b hb j v hc=>(dS _ (fun e=>hb e.1.symm)).trans hc
 have hb4:Below w.heap.size w (W3.setCell ⟨w.heap.size+1+1,0,none⟩ (.string (bs a))):=HB3.out.trans (t4.below (by omega))
 have q0':=hne w.heap.size (by omega) 0 _ q0
 have c10':=hne _ (by omega) _ _ c10
 have c11':=hne _ (by omega) _ _ c11
 have c2':(W3.setCell ⟨w.heap.size+1+1,0,none⟩ (.string (bs a))).cell? ⟨w.heap.size+1+1,0,none⟩=some (.string (bs a)):=(cell_of_row _ _ 0 _ _ _ n4).trans rfl
 have hwbz:wb≠w.heap.size+1+1:=fun e=>by
  obtain⟨-,a9,c9,hv9, -, -,hx9⟩:=HW0.out.str
  simp only[Value.slice.injEq] at hv9
  obtain⟨e9, -, -⟩:=hv9
  obtain⟨b9,o9,h9,hlt9, -⟩:=hx9 0 (by simp)
  rw[←e9] at h9
  cases h9
  omega
 have L0':=hne _ hwbz _ _ L0
 have L1':=hne _ hwbz _ _ L1
 clear q0 c10 c11 c2 f2 L0 L1 hne n4 t4 q1 q2
 generalize W3.setCell ⟨w.heap.size+1+1,0,none⟩ (.string (bs a))=W4 at *
 have HR4:=hid (H0.out.below hb4)
 have HG4:=hid (HG0.out.below hb4)
 have cg2:=(aA HR4.out.at_).2.2.1
 go_upto_region 5 with(go_at_call 219;refine(bJ r.buffer W4 (by omega) HG4.out.max).mono ?_;rintro e W5 ⟨v,rfl,ho,hb5⟩)
 obtain⟨la,lc,rfl⟩:=ax ho
 have hbw:=Below.chain hb4 hb5
 have HO:=hid (show dv w W5 (aq r.buffer) (.slice la (aq r.buffer).length lc) from⟨aK ho hb4.size,hbw,by have:=bt r.buffer;omega,fun s hs=>Nat.le_trans (bf r.buffer s hs) hsl⟩)
 have HR5:=hid (HR4.out.below hb5)
 have HG5:=hid (HG4.out.below hb5)
 have HB5:=hid hbw
 have d0:=Below.keeps hb5 q0'
 have d10:=Below.keeps hb5 c10'
 have d11:=Below.keeps hb5 c11'
 have d2:=Below.keeps hb5 c2'
 have K0:=Below.keeps hb5 L0'
 have K1:=Below.keeps hb5 L1'
 clear hb hz q0' c10' c11' c2' cg2 L0' L1' hb5 ho hbw hb4
 unfold fG at *
 obtain⟨a8,c8,hv8, -, -, -, -,hx8⟩:=cp HO.out.row (by have:=HO.out.few;omega)
 simp only[Value.slice.injEq] at hv8
 obtain⟨rfl, -,rfl⟩:=hv8
 have HC:=hid (ta a (w.heap.size+1+1) la lc (aq r.buffer) W5 hx8 HO.out.few (fun s hs=>Nat.le_trans (HO.out.each s hs) (by omega)) d2 HG5.out.max)
 clear hx8
 rw[hq] at HC
 clear hq
 have HA:=hid (eR (bA.below ⟨_,_,_,_,_,_,HR5.out⟩ (Below.refl _ _)) 15)
 go_wp2_with first|(go_at_call 141;refine HC.out.mono ?_;rintro e W6 ⟨rfl,rfl⟩)|(go_at_call 246;refine HA.out.mono ?_;rintro e W7 ⟨rfl,hg7⟩)
 go_end0
 exact⟨rfl,hg7.ahead HB5.out⟩
end
theorem zdN:cY 209 2:=⟨_,Tryz.underlying209,rfl,by kernel_rfl⟩
theorem gR (x:Txt×Txt):(fg x).length=2:=rfl
theorem zbh (x:Txt×Txt) (a:Txt) (bx:Nat) (w:World) (hc:w.cell? ⟨bx,0,none⟩=some (.string (bs a))) (q:Bool) (hq:decide (x.1=a)=q):Calls Tryz.prog 245 #[.agg #[.string (bs x.1),.string (bs x.2)],.pointer (some ⟨bx,0,none⟩)] w fun e w'=>e=.returned (.bool q)∧Below w.heap.size w w':=by
 have hb:=ab w (.cells #[.string (bs x.1),.string (bs x.2)] 209)
 have hn:=heap_alloc_new w (.cells #[.string (bs x.1),.string (bs x.2)] 209)
 have c0:(w.alloc (.cells #[.string (bs x.1),.string (bs x.2)] 209)).cell? ⟨w.heap.size,0,none⟩=some (.string (bs x.1)):=(cell_of_row _ _ 0 _ _ _ hn).trans rfl
 have c1:=Below.keeps hb hc
 have HB:=hid hb
 have E:(x.1==a)=q:=by
  rw[←hq]
  by_cases h:x.1=a
  ·simp[h]
  ·simp[h]
 clear hb hn hc hq
 go_enter Tryz.func245,Tryz.ntmps245
 go_wp2_with fail
 go_ret
 exact⟨by first|rfl|(simp[E]),HB.out⟩
set_option maxHeartbeats 4000000 in
theorem uh (a:Txt) (bx:Nat) (v:Value) (l:List (Txt×Txt)) (w:World) (hk:aE w 2 fg v l) (hc:w.cell? ⟨bx,0,none⟩=some (.string (bs a))) (o:Option (Txt×Txt)) (ho:l.find? (fun x=>decide (x.1=a))=o):
 Calls Tryz.prog 244 #[v,.func (.func 245) #[] #[.pointer (some ⟨bx,0,none⟩)]] w fun e w'=>Below w.heap.size w w'∧((o=none∧e=.returned (.int .i64 (-1)))∨∃x,o=some x∧∃k:Nat,∃h:k<l.length,e=.returned (.int .i64 (k:Int))∧l[k]=x):=by
 obtain⟨a0,c0,rfl,hc0,hm0, -,hx⟩:=hk.out gR (by omega)
 unfold maxLen at hm0
 have HX:=hid hx
 have HO:=hid ho
 have HC:=hid hc
 clear hk hx ho hc
 go_enter Tryz.func244,Tryz.ntmps244
 go_wp2_with fail
 go_loopw [8] (fun i wr=>∃k:Nat,k≤l.length∧i=.int .i64 k∧(∀j (hj:j<l.length),j<k→l[j].1≠a)∧Below w.heap.size w wr) (fun i _=>l.length-(intOf i).toNat)
 case atStart=>exact⟨0,Nat.zero_le _,rfl,fun j _ h=>absurd h (Nat.not_lt_zero _),Below.refl _ _⟩
 case round=>
  obtain⟨k,hk,rfl,hall,hbe⟩:=hrel
  have HA:=hid hall
  have HB:=hid hbe
  clear hall
  by_cases aH:k<l.length
  ·obtain⟨b,off,rfl, -,aX⟩:=HX.out k aH
   have L0:=ac hbe (aX k aH)
   have HS:=hid (zbh l[k] a bx wr (Below.keeps hbe HC.out))
   clear aX hbe
   by_cases hq:l[k].1=a
   ·have HT:=hid (HS.out true (decide_eq_true hq))
    have HF:=hid (show l.find? (fun x=>decide (x.1=a))=some l[k] from by
     rw[List.find?_eq_some_iff_getElem]
     exact⟨by simpa using hq,k,aH,rfl,fun j hj=>by simpa using HA.out j (by omega) hj⟩)
    clear hq HS
    have HE:=hid (show ∀x,l[k]=x→l[k]=x from fun _ e=>e)
    generalize hxx:l[k]=xk at L0 HT HF
    go_wp2_with first|(refine bC zdN L0 (gR _) ?_)|(go_at_call 245;refine HT.out.mono ?_;rintro e W2 ⟨rfl,hb2⟩)
    go_ret
    have e1:o=some xk:=HO.out.symm.trans HF.out
    exact⟨Below.chain HB.out hb2,.inr ⟨xk,e1,k,aH,rfl,hxx⟩⟩
   ·have HT:=hid (HS.out false (decide_eq_false hq))
    have HQ:=hid hq
    clear hq HS
    generalize hxx:l[k]=xk at L0 HT
    have HXX:=hid hxx
    clear hxx
    go_wp2_with first|(refine bC zdN L0 (gR _) ?_)|(go_at_call 245;refine HT.out.mono ?_;rintro e W2 ⟨rfl,hb2⟩)
    exact⟨⟨k+1,by omega,by go_num,fun j hj hjk=>by
     by_cases e:j=k
     ·subst e;exact HQ.out
     ·exact HA.out j hj (by omega),Below.chain HB.out hb2⟩,by simp[intOf];omega⟩
  ·obtain rfl:k=l.length:=by omega
   go_wp2_with fail
   go_ret
   have e1:o=none:=HO.out.symm.trans (List.find?_eq_none.2 fun x hx=>by
    obtain⟨i,hi,rfl⟩:=List.getElem_of_mem hx
    simpa using HA.out i hi hi)
   exact⟨HB.out,.inl ⟨e1,rfl⟩⟩
section
variable {B g km mb:Nat} {D:Nat→Prop} {env:List (Txt×Txt)} {r:aw} {w W:World} {tv ev:Value} {vs cs:List Value}
set_option maxHeartbeats 8000000 in
theorem zy (h:aN B D g env r w tv ev km mb vs cs) (hg:aM B w) (rest a:Txt) (wv:Value) (hw:ap w 1 wv 2 (ag [j7,a])) (hq:env.find? (fun x=>decide (x.1=a))=none):
 Calls Tryz.prog 194 #[.pointer (some ⟨g,0,none⟩),.agg #[wv,.string (bs rest)]] w fun e w2=>e=.returned (.tuple #[])∧aD B D g env (cK r 10) w w2:=by
 obtain⟨hb,hz,q0,q1,q2⟩:=cw w g wv rest
 have H3:=hid (h.below hb)
 have HG3:=hid (hg.below hb)
 have HW3:=hid (aP hw hb)
 have HB3:=hid hb
 have H0:=hid h
 have HG0:=hid hg
 have HW0:=hid hw
 have hzz:=hz
 obtain⟨-,va,vc,hv,hvc,hvm,hx⟩:=(aP hw hb).str
 subst hv
 have hsl:r.buffer.length≤65536:=h.sm.buf
 clear h hg hw
 go_enter Tryz.func194,Tryz.ntmps194
 unfold doW at *
 go_upto_region 2 with fail
 generalize ((w.alloc (.cells #[.pointer (some ⟨g,0,none⟩)] 275)).alloc (.cells #[.slice va 2 vc,.string (bs rest)] 328)).alloc (.cells #[.string ⟨#[]⟩] 9)=W3 at *
 obtain⟨wb,wo,rfl,hwb,aX⟩:=hx 0 (by simp)
 have L0:=aX 0 (by simp)
 have L1:=aX 1 (by simp)
 simp only[List.getElem_cons_zero,List.getElem_cons_succ,Nat.add_zero] at L0 L1
 clear aX hx
 have c10:W3.cell? ⟨w.heap.size+1,0,none⟩=some (.slice (some ⟨wb,wo,none⟩) 2 vc):=(cell_of_row _ _ 0 _ _ _ q1).trans rfl
 have c11:W3.cell? ⟨w.heap.size+1,1,none⟩=some (.string (bs rest)):=(cell_of_row _ _ 1 _ _ _ q1).trans rfl
 have c2:W3.cell? ⟨w.heap.size+1+1,0,none⟩=some (.string (bs [])):=(cell_of_row _ _ 0 _ _ _ q2).trans rfl
 have f2:W3.frozen? ⟨w.heap.size+1+1,0,none⟩=false:=Lib.frozen_of_heap q2 0
 go_upto_region 4 with fail
 obtain⟨n4,t4⟩:=au q2 0 (.string (bs a))
 have hne:∀b,b≠w.heap.size+1+1→∀j v,W3.cell? ⟨b,j,none⟩=some v→(W3.setCell ⟨w.heap.size+1+1,0,none⟩ (.string (bs a))).cell? ⟨b,j,none⟩=some v:=fun b hb j v hc=>(dS _ (fun e=>hb e.1.symm)).trans hc
 have hb4:Below w.heap.size w (W3.setCell ⟨w.heap.size+1+1,0,none⟩ (.string (bs a))):=HB3.out.trans (t4.below (by omega))
 have q0':=hne w.heap.size (by omega) 0 _ q0
 have c10':=hne _ (by omega) _ _ c10
 have c11':=hne _ (by omega) _ _ c11
 have c2':(W3.setCell ⟨w.heap.size+1+1,0,none⟩ (.string (bs a))).cell? ⟨w.heap.size+1+1,0,none⟩=some (.string (bs a)):=(cell_of_row _ _ 0 _ _ _ n4).trans rfl
 have hwbz:wb≠w.heap.size+1+1:=fun e=>by
  obtain⟨-,a9,c9,hv9, -, -,hx9⟩:=HW0.out.str
  simp only[Value.slice.injEq] at hv9
  obtain⟨e9, -, -⟩:=hv9
  obtain⟨b9,o9,h9,hlt9, -⟩:=hx9 0 (by simp)
  rw[←e9] at h9
  cases h9
  omega
 have L0':=hne _ hwbz _ _ L0
 have L1':=hne _ hwbz _ _ L1
 clear q0 c10 c11 c2 f2 L0 L1 hne n4 t4 q1 q2
 generalize W3.setCell ⟨w.heap.size+1+1,0,none⟩ (.string (bs a))=W4 at *
 have HR4:=hid (H0.out.below hb4)
 have HG4:=hid (HG0.out.below hb4)
 have cg2:=(aA HR4.out.at_).2.2.1
 go_upto_region 5 with(go_at_call 219;refine(bJ r.buffer W4 (by omega) HG4.out.max).mono ?_;rintro e W5 ⟨v,rfl,ho,hb5⟩)
 obtain⟨la,lc,rfl⟩:=ax ho
 have hbw:=Below.chain hb4 hb5
 have HO:=hid (show dv w W5 (aq r.buffer) (.slice la (aq r.buffer).length lc) from⟨aK ho hb4.size,hbw,by have:=bt r.buffer;omega,fun s hs=>Nat.le_trans (bf r.buffer s hs) hsl⟩)
 have HR5:=hid (HR4.out.below hb5)
 have HG5:=hid (HG4.out.below hb5)
 have HB5:=hid hbw
 have d0:=Below.keeps hb5 q0'
 have d10:=Below.keeps hb5 c10'
 have d11:=Below.keeps hb5 c11'
 have d2:=Below.keeps hb5 c2'
 have K0:=Below.keeps hb5 L0'
 have K1:=Below.keeps hb5 L1'
 clear hb hz q0' c10' c11' c2' cg2 L0' L1' hb5 ho hbw hb4
 unfold j7 at *
 have HI:=hid (uh a (w.heap.size+1+1) ev env W5 HR5.out.env d2 _ hq)
 have e1:=(aA HR5.out.at_).2.1
 have HEV:=hid HR5.out.env
 have hev0:=HR5.out.env
 obtain⟨a0,c0,rfl,hc0,hm0, -,hx0⟩:=hev0.out gR (by omega)
 unfold maxLen at hm0
 have HX:=hid hx0
 clear hx0 hev0
 go_wp2_with first|(go_at_call 244;refine HI.out.mono ?_;rintro e W6 ⟨hb6,⟨-,rfl⟩|⟨x,hx, -⟩⟩;(rotate_left;cases hx);have k0:=Below.keeps hb6 d0;have HA:=hid (eR (bA.below ⟨_,_,_,_,_,_,HR5.out⟩ hb6) 10))|(go_at_call 246;refine HA.out.mono ?_;rintro e W7 ⟨rfl,hg7⟩)
 refine bodyPost_ret (results_none rfl _ _ _) rfl ?_
 exact⟨rfl,hg7.ahead (Below.chain HB5.out hb6)⟩
set_option maxHeartbeats 8000000 in
theorem vt (h:aN B D g env r w tv ev km mb vs cs) (hg:aM B w) (rest a:Txt) (wv:Value) (hw:ap w 1 wv 2 (ag [j7,a])) (p:Txt×Txt) (hq:env.find? (fun x=>decide (x.1=a))=some p) (hev:p.2.length≤1000000000000000):
 Calls Tryz.prog 194 #[.pointer (some ⟨g,0,none⟩),.agg #[wv,.string (bs rest)]] w fun e w2=>e=.returned (.tuple #[])∧aD B D g env (cZ r p.2) w w2:=by
 obtain⟨hb,hz,q0,q1,q2⟩:=cw w g wv rest
 have H3:=hid (h.below hb)
 have HG3:=hid (hg.below hb)
 have HW3:=hid (aP hw hb)
 have HB3:=hid hb
 have H0:=hid h
 have HG0:=hid hg
 have HW0:=hid hw
 have hzz:=hz
 obtain⟨-,va,vc,hv,hvc,hvm,hx⟩:=(aP hw hb).str
 subst hv
 have hsl:r.buffer.length≤65536:=h.sm.buf
 clear h hg hw
 go_enter Tryz.func194,Tryz.ntmps194
 unfold doW at *
 go_upto_region 2 with fail
 generalize ((w.alloc (.cells #[.pointer (some ⟨g,0,none⟩)] 275)).alloc (.cells #[.slice va 2 vc,.string (bs rest)] 328)).alloc (.cells #[.string ⟨#[]⟩] 9)=W3 at *
 obtain⟨wb,wo,rfl,hwb,aX⟩:=hx 0 (by simp)
 have L0:=aX 0 (by simp)
 have L1:=aX 1 (by simp)
 simp only[List.getElem_cons_zero,List.getElem_cons_succ,Nat.add_zero] at L0 L1
 clear aX hx
 have c10:W3.cell? ⟨w.heap.size+1,0,none⟩=some (.slice (some ⟨wb,wo,none⟩) 2 vc):=(cell_of_row _ _ 0 _ _ _ q1).trans rfl
 have c11:W3.cell? ⟨w.heap.size+1,1,none⟩=some (.string (bs rest)):=(cell_of_row _ _ 1 _ _ _ q1).trans rfl
 have c2:W3.cell? ⟨w.heap.size+1+1,0,none⟩=some (.string (bs [])):=(cell_of_row _ _ 0 _ _ _ q2).trans rfl
 have f2:W3.frozen? ⟨w.heap.size+1+1,0,none⟩=false:=Lib.frozen_of_heap q2 0
 go_upto_region 4 with fail
 obtain⟨n4,t4⟩:=au q2 0 (.string (bs a))
 have hne:∀b,b≠w.heap.size+1+1→∀j v,W3.cell? ⟨b,j,none⟩=some v→(W3.setCell ⟨w.heap.size+1+1,0,none⟩ (.string (bs a))).cell? ⟨b,j,none⟩=some v:=fun b hb j v hc=>(dS _ (fun e=>hb e.1.symm)).trans hc
 have hb4:Below w.heap.size w (W3.setCell ⟨w.heap.size+1+1,0,none⟩ (.string (bs a))):=HB3.out.trans (t4.below (by omega))
 have q0':=hne w.heap.size (by omega) 0 _ q0
 have c10':=hne _ (by omega) _ _ c10
 have c11':=hne _ (by omega) _ _ c11
 have c2':(W3.setCell ⟨w.heap.size+1+1,0,none⟩ (.string (bs a))).cell? ⟨w.heap.size+1+1,0,none⟩=some (.string (bs a)):=(cell_of_row _ _ 0 _ _ _ n4).trans rfl
 have hwbz:wb≠w.heap.size+1+1:=fun e=>by
  obtain⟨-,a9,c9,hv9, -, -,hx9⟩:=HW0.out.str
  simp only[Value.slice.injEq] at hv9
  obtain⟨e9, -, -⟩:=hv9
  obtain⟨b9,o9,h9,hlt9, -⟩:=hx9 0 (by simp)
  rw[←e9] at h9
  cases h9
  omega
 have L0':=hne _ hwbz _ _ L0
 have L1':=hne _ hwbz _ _ L1
 clear q0 c10 c11 c2 f2 L0 L1 hne n4 t4 q1 q2
 generalize W3.setCell ⟨w.heap.size+1+1,0,none⟩ (.string (bs a))=W4 at *
 have HR4:=hid (H0.out.below hb4)
 have HG4:=hid (HG0.out.below hb4)
 have cg2:=(aA HR4.out.at_).2.2.1
 go_upto_region 5 with(go_at_call 219;refine(bJ r.buffer W4 (by omega) HG4.out.max).mono ?_;rintro e W5 ⟨v,rfl,ho,hb5⟩)
 obtain⟨la,lc,rfl⟩:=ax ho
 have hbw:=Below.chain hb4 hb5
 have HO:=hid (show dv w W5 (aq r.buffer) (.slice la (aq r.buffer).length lc) from⟨aK ho hb4.size,hbw,by have:=bt r.buffer;omega,fun s hs=>Nat.le_trans (bf r.buffer s hs) hsl⟩)
 have HR5:=hid (HR4.out.below hb5)
 have HG5:=hid (HG4.out.below hb5)
 have HB5:=hid hbw
 have d0:=Below.keeps hb5 q0'
 have d10:=Below.keeps hb5 c10'
 have d11:=Below.keeps hb5 c11'
 have d2:=Below.keeps hb5 c2'
 have K0:=Below.keeps hb5 L0'
 have K1:=Below.keeps hb5 L1'
 clear hb hz q0' c10' c11' c2' cg2 L0' L1' hb5 ho hbw hb4
 unfold j7 at *
 have HI:=hid (uh a (w.heap.size+1+1) ev env W5 HR5.out.env d2 _ hq)
 have e1:=(aA HR5.out.at_).2.1
 have HEV:=hid HR5.out.env
 have hev0:=HR5.out.env
 obtain⟨a0,c0,rfl,hc0,hm0, -,hx0⟩:=hev0.out gR (by omega)
 unfold maxLen at hm0
 have HX:=hid hx0
 clear hx0 hev0
 go_wp2_with (go_at_call 244;refine HI.out.mono ?_;rintro e W6 ⟨hb6,⟨hx, -⟩|⟨x,hx,k,hk,rfl,hxk⟩⟩;(cases hx);cases hx;have E9:decide ((k:Int)<0)=false:=decide_eq_false (by omega))
 obtain⟨b9,o9,rfl, -,aX⟩:=HX.out k hk
 have M0:=ac hb6 (aX k hk)
 rw[hxk] at M0
 have M1:=M0 1 (.string (bs p.2)) rfl
 have k0:=Below.keeps hb6 d0
 have k1:=Below.keeps hb6 e1
 have HA:=hid (fun(W:World) (hb:Below W6.heap.size W6 W)=>eZ (bA.below ⟨_,_,_,_,_,_,HR5.out⟩ (Below.chain hb6 hb)) p.2 hev)
 clear M0 aX
 go_wp2_with fail
 refine ar 9 (by kernel_rfl) (by kernel_rfl) ?_
 simp only[List.take_succ_cons,List.take_zero,List.drop_succ_cons,List.drop_zero]
 repeat(refine WQ.step (fun K hK=>?_);go_simp;first|(refine hK _ ?_;clear hK K)|(apply Exists.intro;refine⟨fun W hW=>?_,hK _ ?_⟩;(first|with_reducible rfl|(have y0:=Below.keeps hW k0;have y1:=Below.keeps hW k1;have y2:=Below.keeps hW M1;go_simp;first|rfl|exact⟨rfl,rfl⟩));clear hK K))
 refine WQ.nil ?_
 intro wq hwq
 go_wp2_with (go_at_call 241;refine(HA.out _ hwq).mono ?_;rintro e W7 ⟨rfl,hg7⟩)
 go_end0
 exact⟨rfl,hg7.ahead (Below.chain HB5.out (Below.chain hb6 hwq))⟩
end
end Go.Proofs.YtlbipokkdiiaiaaGreatDoor
namespace Go.Proofs.YtlbipokkdiiaiaaGreatDoor
open Go.RowKit Exec Go.Shelf
set_option maxRecDepth 100000
section
variable {B g km mb:Nat} {D:Nat→Prop} {env:List (Txt×Txt)} {r:aw} {w W:World} {tv ev:Value} {vs cs:List Value}
def bH (env:List (Txt×Txt)) (a:Txt):Option Txt:=(env.find? fun x=>decide (x.1=a)).map (·.2)
theorem yF (h:aN B D g env r w tv ev km mb vs cs) (hg:aM B w) (c:bS) (hok:lp c) (wv:Value) (hw:ap w 1 wv c.words.length (ag c.words)) (ht:r.top=[]) (hev:∀x∈env,x.2.length≤1000000000000000) (hfit:dp (doL (bH env) r c)):
 Calls Tryz.prog 194 #[.pointer (some ⟨g,0,none⟩),.agg (gN (c,wv)).toArray] w fun e w2=>e=.returned (.tuple #[])∧aD B D g env (doL (bH env) r c) w w2:=by
 have h0:0<w.heap.size:=by
  have:=(h.db g h.dg).2
  omega
 obtain⟨words,rest⟩:=c
 have hrl:=hok.rl
 simp only[gN] at *
 rcases hok.shape with⟨n,hn,hc⟩|⟨n,hn,a,hc⟩|⟨a,x,hc⟩
 ·simp only at hc
  subst hc
  simp only[zeR,List.mem_cons,List.not_mem_nil,or_false] at hn
  rcases hn with rfl|rfl|rfl|rfl|rfl|rfl
  ·exact zcn h hg rest wv hw hrl
  ·exact zdu h hg rest wv hw h0
  ·exact zcp h hg rest wv hw h0
  ·exact zbr h hg rest wv hw h0
  ·exact zbs h hg rest wv hw h0
  ·exact zcv h hg rest wv hw
 ·simp only at hc
  subst hc
  simp only[zfa,List.mem_cons,List.not_mem_nil,or_false] at hn
  rcases hn with rfl|rfl|rfl|rfl|rfl|rfl
  ·exact zc1 h hg rest a wv hw hfit
  ·exact zdR h hg rest a wv hw hfit
  ·exact zab h hg rest a wv hw
  ·have e:doL (bH env) r ⟨[j7,a],rest⟩=match bH env a with|none=>cK r 10|some v=>cZ r v:=rfl
   rw[e]
   cases hq:env.find? (fun x=>decide (x.1=a)) with
   |none=>
    have e2:bH env a=none:=by unfold bH;rw[hq];rfl
    rw[e2]
    exact zy h hg rest a wv hw hq
   |some p=>
    have e2:bH env a=some p.2:=by unfold bH;rw[hq];rfl
    rw[e2]
    exact vt h hg rest a wv hw p hq (hev p (List.mem_of_find?_eq_some hq))
  ·exact zcu h hg rest a wv hw h0
  ·have e:doL (bH env) r ⟨[fG,a],rest⟩=if(aq r.buffer).any (fun s=>Lib.contains s a)=true then r else cK r 15:=rfl
   rw[e]
   cases hq:(aq r.buffer).any (fun s=>Lib.contains s a) with
   |true=>
    rw[if_pos rfl]
    exact uu h hg rest a wv hw hq
   |false=>
    rw[if_neg (by simp)]
    exact wi h hg rest a wv hw hq
 ·simp only at hc
  subst hc
  exact zcD h hg rest a x wv hw ht hfit
end
attribute [local go_sem] Oper.semAt_some
section
variable {B g km mb:Nat} {D:Nat→Prop} {env:List (Txt×Txt)} {r:aw} {w W:World} {tv ev:Value} {vs cs:List Value}
theorem uM (h:aN B D g env r w tv ev km mb vs cs) (hg:aM B w) (c:bS) (hok:lp c) (v:Value) (hv:dr B D g w c v) (ht:r.top=[]) (hev:∀x∈env,x.2.length≤1000000000000000) (hfit:dp (doL (bH env) r c)):
 ∃b0 b1,v=.func (.func 193) #[] #[.pointer (some ⟨b0,0,none⟩),.pointer (some ⟨b1,0,none⟩)]∧Calls Tryz.prog 193 #[.pointer (some ⟨b0,0,none⟩),.pointer (some ⟨b1,0,none⟩)] w fun e w2=>e=.returned (.tuple #[])∧aD B D g env (doL (bH env) r c) w w2:=by
 obtain⟨b0,b1,wv,rfl,p0,⟨-,p1⟩,hsl, -⟩:=hv
 refine⟨b0,b1,rfl,?_⟩
 have HD:=hid (yF h hg c hok wv hsl ht hev hfit)
 have c0:=p0.2.2
 have HP:=hid p1
 clear h hg hok p0 p1 hsl ht hfit
 generalize doL (bH env) r c=R at *
 go_enter Tryz.func193,Tryz.ntmps193
 go_wp2_with first|(refine bC zdE (af HP.out) (lw _) ?_)|(go_at_call 194;refine HD.out.mono ?_;rintro e W2 ⟨rfl,hg⟩)
 go_end0
 exact⟨rfl,hg⟩
theorem up {w:World} {B e n:Nat} {a:Option Addr} {c:Nat} {xs:List Value} {x:Value} (h:w.ownsRow B e 1 (.slice a (n+1) c) (n+1) (xs++[x])):w.ownsRow B e 1 (.slice a n c) n xs∧∃b,a=some ⟨b,0,none⟩∧w.cell? ⟨b,n,none⟩=some x:=by
 obtain⟨hl,⟨h0, -⟩|⟨b,cap,C,hv,hb,hg,hn,hm,hs,ht⟩⟩:=h
 ·cases h0
 ·have hxl:xs.length=n:=by
   have:=hl
   rw[List.length_append] at this
   simp only[List.length_cons,List.length_nil] at this
   omega
  simp only[Value.slice.injEq] at hv
  obtain⟨rfl, -,rfl⟩:=hv
  refine⟨⟨by omega,.inr ⟨b,c,C,rfl,hb,hg,by omega,hm,hs,?_⟩⟩,b,rfl,?_⟩
  ·have e1:=congrArg (List.take n) ht
   rw[List.take_take,Nat.min_eq_left (by omega),List.take_left' hxl] at e1
   rw[Nat.mul_one]
   exact e1
  ·rw[cell_of_row _ _ _ _ _ _ hg]
   have e1:=congrArg (·[n]?) ht
   simp only[List.getElem?_take] at e1
   rw[if_pos (by omega),List.getElem?_append_right (by omega),hxl,Nat.sub_self] at e1
   simpa using e1
end
end Go.Proofs.YtlbipokkdiiaiaaGreatDoor
namespace Go.Proofs.YtlbipokkdiiaiaaGreatDoor
open Go.RowKit Exec Go.Shelf
set_option maxRecDepth 100000
section
variable {B g km mb:Nat} {D:Nat→Prop} {env:List (Txt×Txt)} {r r':aw} {w W:World} {ev:Value} {vs cs vs' cs':List Value}
theorem aN.pop {a:Option Addr} {c n:Nat} {v:Value} (h:aN B D g env r w (.slice a (n+1) c) ev km mb vs cs) (hn:vs'.length+cs'.length=n) (hvs:vs++cs=v::(vs'++cs'))
 (e1:r'.buffer=r.buffer∧r'.asks=r.asks∧r'.waits=r.waits∧r'.over=r.over∧r'.known=r.known∧r'.word=r.word∧r'.seen=r.seen) (htop:jB (fH D g mb r.word w) r'.top vs') (hcmd:jB (dr B D g w) r'.cmds cs') (hs:r'.top.any fy=true→r.top.any fy=true) (hfit:dp r'):
 aN B D g env r' (w.setCell ⟨g,0,none⟩ (.slice a n c)) (.slice a n c) ev km mb vs' cs'∧bg g w (w.setCell ⟨g,0,none⟩ (.slice a n c)):=by
 obtain⟨n3,t3⟩:=au h.at_ 0 (.slice a n c)
 have hf:az D w (w.setCell ⟨g,0,none⟩ (.slice a n c)):=t3.foot.mono fun _ _ e=>e▸h.dg
 have hD:∀j,D j→D j∨w.heap.size≤j:=fun j e=>.inl e
 have bI:vs.length+cs.length=n+1:=by
  have:=congrArg List.length hvs
  simp only[List.length_append,List.length_cons] at this
  omega
 have hrow:=h.row
 rw[bI,hvs,List.reverse_cons] at hrow
 obtain⟨hrow2,b,rfl, -⟩:=up hrow
 have hgk:=iQ h.row h.at_
 have hbg:b≠g:=hgk b rfl
 generalize w.setCell ⟨g,0,none⟩ (.slice (some ⟨b,0,none⟩) n c)=W3 at *
 obtain⟨a1,a2,a3,a4,a5,a6,a7⟩:=e1
 refine⟨?_,t3⟩
 exact
  {at_:=by
    rw[n3]
    unfold iF
    rw[a1,a2,a3,a4]
    rfl
   row:=by
    rw[hn]
    exact aJ hrow2 fun k hk=>t3.foot.block k (hrow2.lt k hk).2 (fun e=>hgk k hk e)
   top:=by rw[a6];exact htop.imp fun _ _ k=>k.go hf hD
   cmd:=hcmd.imp fun _ _ k=>k.go hf hD
   env:=eP h.env hf.size fun k hk hl=>hf.block k hl (h.eno k hk).1
   eno:=fun k hk=>⟨(h.eno k hk).1,Nat.lt_of_lt_of_le (h.eno k hk).2 hf.size⟩
   kn:=by
    rw[a5]
    exact(t3.foot.block km (lx (hid h.kn)) (fun e=>by have:=h.kn;rw[e,h.at_] at this;cases this)).trans h.kn
   seen:=fun e=>by
    obtain⟨s1,s2,s3⟩:=h.seen (hs e)
    rw[a7]
    exact⟨(t3.foot.block mb (lx (hid s1)) (fun e=>by rw[e,h.at_] at s1;cases s1)).trans s1,s2,s3⟩
   dg:=h.dg
   dk:=h.dk
   dt:=fun k hk=>h.dt k hk
   db:=fun k hk=>⟨(h.db k hk).1,Nat.lt_of_lt_of_le (h.db k hk).2 hf.size⟩
   sm:=hfit
   eb:=h.eb}
end
structure fh (r:aw):Prop where
 buf:r.buffer.length≤65536
 kn:∀k∈r.known,k.data.length≤65536
 ln:∀s,.line s∈r.top→s.length≤65536
 cm:∀c∈r.cmds,lp c
 nd:(r.known.map (·.path)).Nodup
theorem zda (l:List KnL) (t:gm):1≤twL l t:=by
 cases t with
 |line s=>exact Nat.le_refl _
 |told p t=>exact Nat.le_add_right _ _
theorem zeG (r:aw):r.top.length+r.cmds.length≤muL r:=by
 have h1:r.top.length≤fV r.known r.top:=by
  unfold fV
  induction r.top with
  |nil=>exact Nat.le_refl _
  |cons t l ih=>
   have:=zda r.known t
   simp only[List.length_cons,List.map_cons,List.sum_cons]
   omega
 have h2:r.cmds.length≤r.cmds.length*(mK r.known+2):=Nat.le_mul_of_pos_right _ (by omega)
 unfold muL nuL
 omega
theorem fh.r {r:aw} (h:fh r) (hm:muL r≤1000000000000):dp r:=⟨h.buf,h.kn,h.ln,h.cm,Nat.le_trans (zeG r) hm,h.nd⟩
theorem gU {r:aw} (h:fh r) (e:Nat):fh (cK r e):=⟨h.buf,h.kn,h.ln,h.cm,h.nd⟩
theorem ii {r:aw} (h:fh r) (s:Txt):fh (cZ r s):=by
 unfold cZ
 split
 ·exact gU h 6
 ·exact⟨by simp only[List.length_append];omega,h.kn,h.ln,h.cm,h.nd⟩
theorem xC {r:aw} (h:fh r) (t:cR) (k:KnL) (hk:k.data.length≤65536):fh (bn r t k):=by
 cases t with
 |read=>simp only[bn];split;exact ii h _;exact gU h _
 |try_=>simp only[bn];split;exact ii h _;exact h
 |scan=>
  simp only[bn]
  split
  ·exact⟨h.buf,h.kn,fun s hs=>by
    rcases List.mem_append.1 hs with e|e
    ·obtain⟨x,hx,e2⟩:=List.mem_map.1 e
     rw[←gm.line.inj e2]
     exact Nat.le_trans (bf k.data x hx) hk
    ·exact h.ln s e,h.cm,h.nd⟩
  ·exact gU h _
theorem za4 {r:aw} (h:fh r) (p:Txt):((r.knows p).getD ⟨[],false,[]⟩).data.length≤65536:=by
 unfold aw.knows
 cases hf:r.known.find? (fun k=>decide (k.path=p)) with
 |none=>exact Nat.zero_le _
 |some k=>exact h.kn k (List.mem_of_find?_eq_some hf)
theorem se {r:aw} (h:fh r) (p:Txt) (t:cR):fh (cy r p t):=by
 unfold cy
 split
 ·rename_i k hk
  exact xC h t k (h.kn k (List.mem_of_find?_eq_some hk))
 ·split
  ·exact gU h _
  ·exact⟨h.buf,h.kn,fun s hs=>by
    rcases List.mem_cons.1 hs with e|e
    ·cases e
    ·exact h.ln s e,h.cm,h.nd⟩
theorem zcS {r:aw} (h:fh r) (s:Txt):fh (fS r s):=by
 unfold fS
 split
 ·split
  ·exact ii h _
  ·split
   ·exact h
   ·exact se (r:={r with seen:=_::r.seen}) ⟨h.buf,h.kn,h.ln,h.cm,h.nd⟩ _ _
 ·exact ii h _
theorem oP {r:aw} (h:fh r) (s:Txt) (hs:s.length≤65536):fh {r with buffer:=s}:=⟨hs,h.kn,h.ln,h.cm,h.nd⟩
theorem zfd (env:Txt→Option Txt) {r:aw} (h:fh r) (c:bS):fh (doL env r c):=by
 unfold doL doA
 by_cases h1:c.words.getD 0 []=iA
 ·rw[if_pos h1];exact se h _ _
 rw[if_neg h1]
 by_cases h1:c.words.getD 0 []=mS
 ·rw[if_pos h1];exact se h _ _
 rw[if_neg h1]
 by_cases h1:c.words.getD 0 []=iq
 ·rw[if_pos h1];exact se (r:={r with word:=c.words.getD 2 [],seen:=[c.words.getD 1 []]}) ⟨h.buf,h.kn,h.ln,h.cm,h.nd⟩ _ _
 rw[if_neg h1]
 by_cases h1:c.words.getD 0 []=eK
 ·rw[if_pos h1];exact ii h _
 rw[if_neg h1]
 by_cases h1:c.words.getD 0 []=j7
 ·rw[if_pos h1]
  cases env (c.words.getD 1 []) with
  |none=>exact gU h _
  |some v=>exact ii h _
 rw[if_neg h1]
 by_cases h1:c.words.getD 0 []=fj
 ·rw[if_pos h1];exact⟨Nat.zero_le _,h.kn,h.ln,h.cm,h.nd⟩
 rw[if_neg h1]
 by_cases h1:c.words.getD 0 []=fG
 ·rw[if_pos h1]
  split
  ·exact h
  ·exact gU h _
 rw[if_neg h1]
 by_cases h1:c.words.getD 0 []=iu
 ·rw[if_pos h1];exact gU h _
 rw[if_neg h1]
 by_cases h1:c.words.getD 0 []=dO
 ·rw[if_pos h1];exact ii (oP h [] (Nat.zero_le _)) _
 rw[if_neg h1]
 by_cases h1:c.words.getD 0 []=dM
 ·rw[if_pos h1];exact ii (oP h [] (Nat.zero_le _)) _
 rw[if_neg h1]
 by_cases h1:c.words.getD 0 []=cH
 ·rw[if_pos h1];exact oP h _ (by rw[List.length_map];exact h.buf)
 rw[if_neg h1]
 by_cases h1:c.words.getD 0 []=cG
 ·rw[if_pos h1]
  refine oP h _ ?_
  have e:Lib.itoa ((aq r.buffer).length:Int)=dig (aq r.buffer).length:=o7 _
  have h2:=xi (aq r.buffer).length (by have:=bt r.buffer;have:=h.buf;omega)
  rw[e,List.length_append]
  simp only[List.length_cons,List.length_nil]
  omega
 rw[if_neg h1]
 by_cases h1:c.words.getD 0 []=dN
 ·rw[if_pos h1];exact ii (oP h [] (Nat.zero_le _)) _
 rw[if_neg h1]
 exact h
theorem jk (env:Txt→Option Txt) {r r':aw} (h:fh r) (hs:bO env r=some r'):fh r':=by
 unfold bO at hs
 split at hs
 ·cases hs
 ·split at hs
  ·rename_i s t ht
   simp only[Option.some.injEq] at hs
   subst hs
   exact zcS (r:={r with top:=t}) ⟨h.buf,h.kn,fun x hx=>h.ln x (by rw[ht];exact List.mem_cons_of_mem _ hx),h.cm,h.nd⟩ s
  ·rename_i p k t ht
   simp only[Option.some.injEq] at hs
   subst hs
   exact xC (r:={r with top:=t}) ⟨h.buf,h.kn,fun x hx=>h.ln x (by rw[ht];exact List.mem_cons_of_mem _ hx),h.cm,h.nd⟩ k _ (za4 h p)
  ·split at hs
   ·rename_i c l hc
    simp only[Option.some.injEq] at hs
    subst hs
    exact zfd env (r:={r with cmds:=l}) ⟨h.buf,h.kn,h.ln,fun x hx=>h.cm x (by rw[hc];exact List.mem_cons_of_mem _ hx),h.nd⟩ c
   ·simp only[Option.some.injEq] at hs
    subst hs
    exact⟨h.buf,h.kn,h.ln,h.cm,h.nd⟩
section
variable {B g km mb:Nat} {D:Nat→Prop} {env:List (Txt×Txt)} {r:aw} {w:World} {ev:Value} {vs cs:List Value}
theorem zaS {a:Option Addr} {c n:Nat} {v:Value} {l:List Value} (h:aN B D g env r w (.slice a (n+1) c) ev km mb vs cs) (hg:aM B w) (hg0:¬(r.over.kind≠0∨r.waits=true)) (hvl:vs++cs=v::l) (hn:l.length=n) (hev:∀x∈env,x.2.length≤1000000000000000) (hc:fh r) (hmu:muL r≤1000000000000):
 ∃r',bO (bH env) r=some r'∧bg g w (w.setCell ⟨g,0,none⟩ (.slice a n c))∧∃f fs,v=.func (.func f) #[] fs∧(f=298∨f=294∨f=193)∧Calls Tryz.prog f fs (w.setCell ⟨g,0,none⟩ (.slice a n c)) fun e w2=>e=.returned (.tuple #[])∧aD B D g env r' (w.setCell ⟨g,0,none⟩ (.slice a n c)) w2:=by
 have hfitS:∀r',bO (bH env) r=some r'→dp r':=fun r' hs=>(jk _ hc hs).r (Nat.le_trans (Nat.le_of_lt (nD _ _ _ hs)) hmu)
 have hD:∀j,D j→D j∨w.heap.size≤j:=fun j e=>.inl e
 have hpos:=hg.pos
 have hseen3:∀W3:World,bg g w W3→r.top.any fy=true→W3.heap[mb]?=some (dP r.seen.reverse)∧D mb∧mb≠km:=fun W3 t3 e=>by
  obtain⟨s1,s2,s3⟩:=h.seen e
  exact⟨(t3.foot.block mb (lx (hid s1)) (fun e=>by rw[e,h.at_] at s1;cases s1)).trans s1,s2,s3⟩
 cases ht:r.top with
 |nil=>
  have hvs:vs=[]:=by
   have:=h.top.len
   rw[ht] at this
   exact List.length_eq_zero_iff.1 this.symm
  subst hvs
  have hcs:cs=v::l:=hvl
  subst hcs
  have hcmd:=h.cmd
  cases hcm:r.cmds with
  |nil=>rw[hcm] at hcmd;exact hcmd.elim
  |cons c0 cl=>
   rw[hcm] at hcmd
   have hs:bO (bH env) r=some (doL (bH env) {r with cmds:=cl} c0):=by unfold bO;rw[if_neg hg0,ht,hcm]
   have hq:dp {r with cmds:=cl}:=⟨h.sm.buf,h.sm.kn,h.sm.ln,fun x hx=>h.sm.cm x (by rw[hcm];exact List.mem_cons_of_mem _ hx),by
    have:=h.sm.tl
    rw[hcm,List.length_cons] at this
    show r.top.length+cl.length≤_
    omega,h.sm.nd⟩
   obtain⟨hp,t3⟩:=h.pop (r':={r with cmds:=cl}) (vs':=[]) (cs':=l) (v:=v) (by simpa using hn) rfl ⟨rfl,rfl,rfl,rfl,rfl,rfl,rfl⟩ (by show jB _ r.top [];rw[ht];trivial) hcmd.2 (fun e=>e) hq
   have hf:az D w (w.setCell ⟨g,0,none⟩ (.slice a n c)):=t3.foot.mono fun _ _ e=>e▸h.dg
   obtain⟨b0,b1,hv,hcall⟩:=uM hp (hg.go hf fun j e=>(h.db j e).1) c0 (h.sm.cm c0 (by rw[hcm];exact List.mem_cons_self ..)) v (hcmd.1.go hf hD) ht hev (hfitS _ hs)
   exact⟨_,hs,t3,193,_,hv,.inr (.inr rfl),hcall⟩
 |cons t0 tl=>
  have htop:=h.top
  rw[ht] at htop
  cases vs with
  |nil=>exact htop.elim
  |cons v0 vs2=>
   obtain⟨rfl,hl2⟩:=List.cons.inj hvl
   have hq:dp {r with top:=tl}:=⟨h.sm.buf,h.sm.kn,fun x hx=>h.sm.ln x (by rw[ht];exact List.mem_cons_of_mem _ hx),h.sm.cm,by
    have:=h.sm.tl
    rw[ht,List.length_cons] at this
    show tl.length+r.cmds.length≤_
    omega,h.sm.nd⟩
   obtain⟨hp,t3⟩:=h.pop (r':={r with top:=tl}) (vs':=vs2) (cs':=cs) (v:=v0) (by rw[←hn,←hl2];exact List.length_append.symm) rfl ⟨rfl,rfl,rfl,rfl,rfl,rfl,rfl⟩ htop.2 h.cmd (fun e=>by rw[ht,List.any_cons];exact Bool.or_eq_true _ _▸.inr e) hq
   have hf:az D w (w.setCell ⟨g,0,none⟩ (.slice a n c)):=t3.foot.mono fun _ _ e=>e▸h.dg
   have hg3:=hg.go hf fun j e=>(h.db j e).1
   have hta:=htop.1.go hf hD
   have hsn:=hseen3 _ t3
   generalize w.setCell ⟨g,0,none⟩ (.slice a n c)=W3 at *
   cases t0 with
   |line s=>
    have hs:bO (bH env) r=some (fS {r with top:=tl} s):=by unfold bO;rw[if_neg hg0,ht]
    obtain⟨b0,b1,b2,b3,rfl,p0,p1,p2,p3⟩:=hta
    exact⟨_,hs,t3,298,_,rfl,.inl rfl,zS hp s b0 b1 b2 b3 p0 p1 p2 p3 (hsn (by rw[ht];rfl)) (h.sm.ln s (by rw[ht];exact List.mem_cons_self ..)) hpos hg3.max (hfitS _ hs)⟩
   |told p t=>
    have hs:bO (bH env) r=some (bn {r with top:=tl} t ((r.knows p).getD ⟨[],false,[]⟩)):=by unfold bO;rw[if_neg hg0,ht]
    obtain⟨b0,b1,b2,tv2,rfl,p0,h1,p1,p2⟩:=hta
    exact⟨_,hs,t3,294,_,rfl,.inr (.inl rfl),zbq hp t b0 b1 b2 tv2 p0 p1 p p2 h1 (fun e=>hsn (by rw[ht,List.any_cons,e];rfl)) hg3.max (hfitS _ hs)⟩
end
attribute [local go_sem] Oper.semAt_some
section
variable {B g:Nat} {D:Nat→Prop} {env:List (Txt×Txt)} {r:aw} {w:World}
set_option maxHeartbeats 8000000 in
theorem nH (h:bA B D g env r w) (hg:aM B w) (hc:fh r) (hmu:muL r≤1000000000000) (hev:∀x∈env,x.2.length≤1000000000000000):
 Calls Tryz.prog 201 #[.pointer (some ⟨g,0,none⟩)] w fun e w2=>e=.returned (.tuple #[])∧∃r',bY (bO (bH env)) r r'∧bO (bH env) r'=none∧fh r'∧aD B D g env r' w w2:=by
 have H:=hid h
 have HG:=hid hg
 have HC:=hid hc
 clear h hg hc
 go_enter Tryz.func201,Tryz.ntmps201
 go_wp2_with fail
 go_loopg [] (muL r) (fun gk wr=>∃r1:aw,gk=muL r1∧bY (bO (bH env)) r r1∧aD B D g env r1 w wr∧fh r1∧muL r1≤muL r∧aM B wr)
 case atStart=>exact⟨r,rfl,.refl _,⟨D,fun j e=>.inl e,az.refl _ _,H.out⟩,HC.out,Nat.le_refl _,HG.out⟩
 case round=>
  obtain⟨r1,rfl,hst,hgo,hc1,hm1,hg1⟩:=hrel
  obtain⟨D1,hd1,hf1,tv,ev,km,mb,vs,cs,hR⟩:=hgo
  have HR:=hid hR
  obtain⟨c0, -, -, -, -,c5,c6,c7,c8,c9⟩:=aA hR.at_
  have hfz:∀k,wr.frozen? ⟨g,k,none⟩=false:=fun k=>Lib.frozen_of_heap hR.at_ k
  have g6:=hfz 6
  have g7:=hfz 7
  have g8:=hfz 8
  have g9:=hfz 9
  have HD1:=hid (And.intro hd1 hf1)
  have HST:=hid hst
  have HC1:=hid hc1
  have HG1:=hid hg1
  clear hR hfz hd1 hf1 hst hc1 hg1
  by_cases hk:r1.over.kind=0
  ·cases hw:r1.waits with
   |true=>
    have hnone:bO (bH env) r1=none:=by unfold bO;rw[if_pos (.inr hw)]
    rw[hw] at c5
    rw[hk] at c6
    have HN:=hid hnone
    clear hnone hw hk
    go_wp2_with fail
    go_end0
    exact⟨rfl,r1,HST.out,HN.out,HC1.out,D1,HD1.out.1,HD1.out.2,_,_,_,_,_,_,HR.out⟩
   |false=>
    rw[hw] at c5
    rw[hk] at c6
    have hg0:¬(r1.over.kind≠0∨r1.waits=true):=by rw[hk,hw];simp
    obtain⟨la,lc,rfl⟩:=ax HR.out.row
    have aX:=HR.out.cmd.len
    have htl:=HR.out.top.len
    cases hv:vs++cs with
    |nil=>
     obtain⟨rfl,rfl⟩:=List.append_eq_nil_iff.1 hv
     have ht0:r1.top=[]:=List.length_eq_zero_iff.1 htl
     have hc0:r1.cmds=[]:=List.length_eq_zero_iff.1 aX
     have hs1:bO (bH env) r1=some {r1 with over:=⟨3,[],[],0⟩}:=by unfold bO;rw[if_neg hg0,ht0,hc0]
     have hs2:bO (bH env) {r1 with over:=⟨3,[],[],0⟩}=none:=by unfold bO;rw[if_pos (.inl (by simp))]
     have HS:=hid (And.intro hs1 hs2)
     clear hs1 hs2 hv hg0 ht0 hc0 aX htl hw hk
     go_wp2_with fail
     refine bodyPost_ret (results_none rfl _ _ _) rfl ?_
     obtain⟨n1,t1⟩:=au HR.out.at_ 6 (.int .i64 3)
     obtain⟨n2,t2⟩:=au n1 7 (.string ⟨#[]⟩)
     obtain⟨n3,t3⟩:=au n2 8 (.string ⟨#[]⟩)
     obtain⟨n4,t4⟩:=au n3 9 (.int .i64 0)
     have hgo:=HR.out.go (r':={r1 with over:=⟨3,[],[],0⟩}) (((t1.trans t2).trans t3).trans t4) (n4.trans rfl) rfl rfl rfl rfl rfl ⟨HR.out.sm.buf,HR.out.sm.kn,HR.out.sm.ln,HR.out.sm.cm,HR.out.sm.tl,HR.out.sm.nd⟩
     exact⟨rfl,_,HST.out.tail HS.out.1,HS.out.2,jk _ HC1.out HS.out.1,aD.then HD1.out.1 HD1.out.2 hgo⟩
    |cons v l=>
     have bI:vs.length+cs.length=l.length+1:=by
      have:=congrArg List.length hv
      simpa using this
     have hsm:=HR.out.sm.tl
     rw[bI] at HR c0
     have hrow:=HR.out.row
     rw[bI,hv,List.reverse_cons] at hrow
     obtain⟨-,b,rfl,L0⟩:=up hrow
     have hll:l.length≤1000000000000:=by omega
     have hlc:l.length+1≤lc∧lc≤9223372036854775807:=by
      obtain⟨-,⟨h1, -⟩|⟨b2,cap2,C2,h1, -, -,h2,h3, -⟩⟩:=HR.out.row
      ·cases h1
      ·simp only[Value.slice.injEq] at h1
       unfold maxLen at h3
       omega
     have HT:=hid (fun(W:World) (hb:Below wr.heap.size wr W)=>zaS (n:=l.length) (HR.out.below hb) (HG1.out.below hb) hg0 hv rfl hev HC1.out (Nat.le_trans hm1 hmu))
     clear hrow bI aX htl hsm hw hk hg0 hv g6 g7 g8 g9 c7 c8 c9
     generalize l.length=n at *
     have E2:(((n:Int)+1)==0)=false:=eqF (by omega)
     have EW:IntKind.i64.wrap (n:Int)=(n:Int):=by rw[IntKind.wrap_i64];omega
     go_wp2_with fail
     refine aC (by kernel_rfl) (by kernel_rfl) ?_
     repeat(refine WQ.step (fun K hK=>?_);go_simp;first|(refine hK _ ?_;clear hK K)|(apply Exists.intro;refine⟨fun W hW=>?_,hK _ ?_⟩;(first|with_reducible rfl|(have y0:=Below.keeps hW c0;have y1:=Below.keeps hW L0;go_simp;first|rfl|exact⟨rfl,rfl⟩|(rw[if_neg (by omega)];exact⟨rfl,rfl⟩)|(rw[if_pos (by omega)];exact⟨rfl,rfl⟩)|(simp;done)));clear hK K))
     refine WQ.nil ?_
     intro wq hwq
     have k0:=Below.keeps hwq c0
     go_wp2_with fail
     refine ar 14 (by kernel_rfl) (by kernel_rfl) ?_
     simp only[List.take_succ_cons,List.take_zero,List.drop_succ_cons,List.drop_zero]
     repeat(refine WQ.step (fun K hK=>?_);go_simp;first|(refine hK _ ?_;clear hK K)|(apply Exists.intro;refine⟨fun W hW=>?_,hK _ ?_⟩;(first|with_reducible rfl|(have y0:=Below.keeps hW k0;go_simp;first|rfl|exact⟨rfl,rfl⟩|(rw[if_neg (by omega)];exact⟨rfl,rfl⟩)|(rw[if_pos (by omega)];exact⟨rfl,rfl⟩)|(simp;done)));clear hK K))
     refine WQ.nil ?_
     intro wt hwt
     have k2:=Below.keeps hwt k0
     have hb3:=Below.chain hwq hwt
     obtain⟨r2,hs2,t3,f,fs,rfl,hf,hcall⟩:=HT.out _ hb3
     have fz2:wt.frozen? ⟨g,0,none⟩=false:=Lib.frozen_of_heap (HR.out.below hb3).at_ 0
     have HCL:=hid hcall
     clear hcall
     have hmu2:=nD _ _ _ hs2
     have hfin:∀W6,aD B D1 g env r2 (wt.setCell ⟨g,0,none⟩ (.slice (some ⟨b,0,none⟩) n lc)) W6→aD B D g env r2 w W6∧aM B W6:=fun W6 hg6=>by
      have hf3:az D1 wr (wt.setCell ⟨g,0,none⟩ (.slice (some ⟨b,0,none⟩) n lc)):=(az.of_below hb3).trans (t3.foot.mono fun _ _ e=>e▸HR.out.dg) fun _ _ e=>e
      have h1:aD B D1 g env r2 wr W6:=aD.then (fun j e=>.inl e) hf3 hg6
      refine⟨aD.then HD1.out.1 HD1.out.2 h1,?_⟩
      obtain⟨D2, -,hf2, -⟩:=h1
      exact HG1.out.go hf2 fun j e=>(HR.out.db j e).1
     have HFIN:=hid hfin
     clear hfin
     rcases hf with rfl|rfl|rfl
     ·go_wp2_with (go_at_call 298;refine HCL.out.mono ?_;rintro e W6 ⟨rfl,hg6⟩)
      go_roundg (muL r2)
      case measure=>exact hmu2
      case rel=>exact⟨r2,rfl,HST.out.tail hs2,(HFIN.out _ hg6).1,jk _ HC1.out hs2,Nat.le_trans (Nat.le_of_lt hmu2) hm1,(HFIN.out _ hg6).2⟩
     ·go_wp2_with (go_at_call 294;refine HCL.out.mono ?_;rintro e W6 ⟨rfl,hg6⟩)
      go_roundg (muL r2)
      case measure=>exact hmu2
      case rel=>exact⟨r2,rfl,HST.out.tail hs2,(HFIN.out _ hg6).1,jk _ HC1.out hs2,Nat.le_trans (Nat.le_of_lt hmu2) hm1,(HFIN.out _ hg6).2⟩
     ·go_wp2_with (go_at_call 193;refine HCL.out.mono ?_;rintro e W6 ⟨rfl,hg6⟩)
      go_roundg (muL r2)
      case measure=>exact hmu2
      case rel=>exact⟨r2,rfl,HST.out.tail hs2,(HFIN.out _ hg6).1,jk _ HC1.out hs2,Nat.le_trans (Nat.le_of_lt hmu2) hm1,(HFIN.out _ hg6).2⟩
  ·have hnone:bO (bH env) r1=none:=by unfold bO;rw[if_pos (.inl hk)]
   have E:((r1.over.kind:Int)==0)=false:=eqF (by omega)
   have HN:=hid hnone
   clear hnone hk
   go_wp2_with fail
   go_end0
   exact⟨rfl,r1,HST.out,HN.out,HC1.out,D1,HD1.out.1,HD1.out.2,_,_,_,_,_,_,HR.out⟩
end
def aO (w:World) (v:Value) (ls:List Txt):Prop:=ap w 1 v ls.length (ag ls)
theorem aO.below {w w':World} {v:Value} {ls:List Txt} (h:aO w v ls) (hb:Below w.heap.size w w'):aO w' v ls:=aP h hb
theorem aO.out {w:World} {v:Value} {ls:List Txt} (h:aO w v ls):∃a c,v=.slice a ls.length c∧ls.length≤c∧c≤maxLen∧∀k (hk:k<ls.length),∃b o,a=some ⟨b,o,none⟩∧w.cell? ⟨b,o+k,none⟩=some (.string (bs ls[k])):=by
 obtain⟨-,a,c,hv,hc,hm,hx⟩:=ap.str h
 refine⟨a,c,hv,hc,hm,fun k hk=>?_⟩
 obtain⟨b,o,rfl, -,aX⟩:=hx k hk
 exact⟨b,o,rfl,aX k hk⟩
set_option maxHeartbeats 4000000 in
theorem zt (v:Value) (ls:List Txt) (s:Txt) (w:World) (h:aO w v ls) (hl:ls.length≤2000000):
 Calls Tryz.prog 202 #[v,.string (bs s)] w fun e w'=>∃i:Int,e=.returned (.int .i64 i)∧decide (0≤i)=decide (s∈ls)∧w'=w:=by
 obtain⟨a,c,rfl, -, -,hx⟩:=h.out
 have HX:=hid hx
 clear h hx
 go_enter Tryz.func202,Tryz.ntmps202
 go_wp2_with fail
 go_loopw [8] (fun i wr=>∃k:Nat,k≤ls.length∧i=.int .i64 k∧(∀j (hj:j<ls.length),j<k→ls[j]≠s)∧wr=w) (fun i _=>ls.length-(intOf i).toNat)
 case atStart=>exact⟨0,Nat.zero_le _,rfl,fun j _ h=>absurd h (Nat.not_lt_zero _),rfl⟩
 case round=>
  obtain⟨k,hk,rfl,hall,rfl⟩:=hrel
  have HA:=hid hall
  clear hall
  by_cases aH:k<ls.length
  ·obtain⟨b,o,rfl,L0⟩:=HX.out k aH
   have HM:=hid (List.getElem_mem aH)
   by_cases hq:ls[k]=s
   ·have E:(s==ls[k])=true:=by rw[hq];exact beq_self_eq_true _
    have HQ:=hid hq
    clear hq
    go_wp2_with fail
    go_ret
    exact⟨(k:Int),rfl,(decide_eq_true (by omega)).trans (decide_eq_true (HQ.out▸HM.out)).symm,rfl⟩
   ·have E:(s==ls[k])=false:=by simpa using fun e=>hq e.symm
    have HQ:=hid hq
    clear hq
    go_wp2_with fail
    exact⟨⟨k+1,by omega,by go_num,fun j hj hjk=>by
     by_cases e:j=k
     ·subst e;exact HQ.out
     ·exact HA.out j hj (by omega),trivial⟩,by simp[intOf];omega⟩
  ·obtain rfl:k=ls.length:=by omega
   go_wp2_with fail
   go_ret
   refine⟨-1,rfl,?_,rfl⟩
   refine Eq.symm (decide_eq_false fun hs=>?_)
   obtain⟨i,hi,e⟩:=List.getElem_of_mem hs
   exact HA.out i hi hi e
theorem ip (v:Value) (ls:List Txt) (s:Txt) (w:World) (h:aO w v ls) (hl:ls.length≤2000000):
 Calls Tryz.prog 163 #[v,.string (bs s)] w fun e w'=>e=.returned (.bool (decide (s∈ls)))∧w'=w:=by
 have HI:=hid (zt v ls s w h hl)
 obtain⟨a,c,rfl, -, -, -⟩:=h.out
 clear h
 generalize decide (s∈ls)=q at *
 go_enter Tryz.func163,Tryz.ntmps163
 go_wp2_with (go_at_call 202;refine HI.out.mono ?_;rintro e W2 ⟨i,rfl,hi,rfl⟩)
 go_ret
 exact⟨rfl,rfl⟩
def qG (w:World) (nf:Nat) (caps:Array Value) (ls:List Txt) (P:Txt→Bool):Prop:=∀W,Below w.heap.size w W→∀s∈ls,Calls Tryz.prog nf (#[.string (bs s)]++caps) W fun e W'=>e=.returned (.bool (P s))∧Below W.heap.size W W'
set_option maxHeartbeats 4000000 in
theorem uQ (v:Value) (ls:List Txt) (nf:Nat) (caps:Array Value) (eg:∀args w,(callFunc nf args).run Tryz.prog w=.ok (.enter nf args) w) (P:Txt→Bool) (w:World) (h:aO w v ls) (hl:ls.length≤2000000) (hf:qG w nf caps ls P):
 Calls Tryz.prog 182 #[v,.func (.func nf) #[] caps] w fun e w'=>∃i:Int,e=.returned (.int .i64 i)∧decide (0≤i)=ls.any P∧Below w.heap.size w w':=by
 obtain⟨a,c,rfl, -, -,hx⟩:=h.out
 have HX:=hid hx
 have HF:=hid hf
 clear h hx hf
 go_enter Tryz.func182,Tryz.ntmps182
 go_wp2_with fail
 go_loopw [8] (fun i wr=>∃k:Nat,k≤ls.length∧i=.int .i64 k∧(∀j (hj:j<ls.length),j<k→P ls[j]=false)∧Below w.heap.size w wr) (fun i _=>ls.length-(intOf i).toNat)
 case atStart=>exact⟨0,Nat.zero_le _,rfl,fun j _ h=>absurd h (Nat.not_lt_zero _),Below.refl _ _⟩
 case round=>
  obtain⟨k,hk,rfl,hall,hbw⟩:=hrel
  have HA:=hid hall
  have HB:=hid hbw
  clear hall
  by_cases aH:k<ls.length
  ·obtain⟨b,o,rfl,L0⟩:=HX.out k aH
   have L1:=Below.keeps hbw L0
   have HC:=hid (HF.out wr HB.out _ (List.getElem_mem aH))
   have HM:=hid (List.getElem_mem aH)
   clear hbw L0
   cases hq:P ls[k] with
   |true=>
    rw[hq] at HC
    have HQ:=hid hq
    clear hq
    go_wp2_with (refine HC.out.mono ?_;rintro e W2 ⟨rfl,hb2⟩)
    go_ret
    exact⟨(k:Int),rfl,(decide_eq_true (by omega)).trans (List.any_eq_true.2 ⟨_,HM.out,HQ.out⟩).symm,Below.chain HB.out hb2⟩
   |false=>
    rw[hq] at HC
    have HQ:=hid hq
    clear hq
    go_wp2_with (refine HC.out.mono ?_;rintro e W2 ⟨rfl,hb2⟩)
    exact⟨⟨k+1,by omega,by go_num,fun j hj hjk=>by
     by_cases e:j=k
     ·subst e;exact HQ.out
     ·exact HA.out j hj (by omega),Below.chain HB.out hb2⟩,by simp[intOf];omega⟩
  ·obtain rfl:k=ls.length:=by omega
   go_wp2_with fail
   go_ret
   refine⟨-1,rfl,?_,HB.out⟩
   refine Eq.symm (List.any_eq_false.2 fun s hs=>?_)
   obtain⟨i,hi,rfl⟩:=List.getElem_of_mem hs
   rw[HA.out i hi hi]
   simp
theorem gL (v:Value) (ls:List Txt) (nf:Nat) (caps:Array Value) (eg:∀args w,(callFunc nf args).run Tryz.prog w=.ok (.enter nf args) w) (P:Txt→Bool) (w:World) (h:aO w v ls) (hl:ls.length≤2000000) (hf:qG w nf caps ls P):
 Calls Tryz.prog 141 #[v,.func (.func nf) #[] caps] w fun e w'=>e=.returned (.bool (ls.any P))∧Below w.heap.size w w':=by
 have HI:=hid (uQ v ls nf caps eg P w h hl hf)
 obtain⟨a,c,rfl, -, -, -⟩:=h.out
 clear h hf eg
 generalize ls.any P=q at *
 go_enter Tryz.func141,Tryz.ntmps141
 go_wp2_with (go_at_call 182;refine HI.out.mono ?_;rintro e W2 ⟨i,rfl,hi,hb⟩)
 go_ret
 exact⟨rfl,hb⟩
set_option maxHeartbeats 1000000 in
theorem kQ (v0:Value) (l:List Txt) (w:World) (h0:aO w v0 l) (bI:l.length≤2000000):
 Calls Tryz.prog 155 #[v0] w fun e w'=>∃v,e=.returned v∧w'.ownsRow w.heap.size 9 1 v l.length (ag l)∧Below w.heap.size w w':=by
 obtain⟨i0,z,hi,hz,hs,hby,hzs⟩:=cW (E:=9) (sz:=1) (by_:=16) (by kernel_rfl)
 have h00:=h0
 obtain⟨-,a0,c0,rfl,hc0,hm0,hnone, -⟩:=h0
 have q22:∀(w:World) (a:Option Addr) (n c n' c':Nat),(binOp .eql 46 (.slice a n c) (.slice none n' c')).run Tryz.prog w=.ok (.bool a.isNone) w:=fun w a n c n' c'=>Lib.run_eql_slice_nil w _ _ a n c n' c' Tryz.underlying46
 cases a0 with
 |none=>
  have hc:=hnone rfl
  subst hc
  obtain rfl:l=[]:=List.eq_nil_of_length_eq_zero (by omega)
  go_enter Tryz.func155,Tryz.ntmps155
  go_wp2_with fail
  go_ret
  exact⟨_,rfl,⟨rfl,.inl ⟨rfl,rfl⟩⟩,Below.refl _ _⟩
 |some ad=>
  have Hs:=hid h00
  clear hnone h00
  go_enter Tryz.func155,Tryz.ntmps155
  go_wp2_with (at_builtin;go_must (refine eH rfl _ _ 46 rfl w.heap.size 9 i0 z 1 16 Tryz.underlying46 hi hz hs hby hzs (by decide) _ 0 [] rfl ?c1 _ l.length (ag l) rfl ?c2 ?c3 ?c4 ?c5 ?c6 ?_))
  case c1=>exact World.ownsRow_made w #[] 0 (Nat.le_refl _) (Nat.zero_le _) (by simp)
  case c2=>exact ap.below Hs.out ((Below.refl _ w).alloc (Nat.le_refl _) _) (Nat.le_refl _)
  case c3=>intro u hu;simp only[ag,List.mem_map] at hu;obtain⟨_,_,rfl⟩:=hu;rfl
  case c4=>unfold maxLen;omega
  case c5=>omega
  case c6=>simp
  intro v' w1 hown hgrow
  go_wp2_with fail
  go_ret
  exact⟨v',rfl,by simpa using hown,((Below.refl _ w).alloc (Nat.le_refl _) _).grown hgrow (by simp) (by intro k hk;simp[Value.ownBlock] at hk;omega)⟩
end Go.Proofs.YtlbipokkdiiaiaaGreatDoor
