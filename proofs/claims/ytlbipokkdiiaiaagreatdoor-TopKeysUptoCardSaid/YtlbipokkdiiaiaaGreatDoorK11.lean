/- Lemmas for TopKeysUpto: W30, W31, W18, W19, W32, W33, W34, W40, W41, W45, F8, F9, F11, F12, F13, F14, F15. -/
import Derived.Test.YtlbipokkdiiaiaaGreatDoorK10
import Derived.Test.YtlbipokkdiiaiaaGreatDoorK08
import Derived.Deep.LoopGhost
import Derived.Maps.AppendAt
import Derived.Test.YtlbipokkdiiaiaaGreatDoorK07
import Derived.RangeFuncWrites
namespace Go.Proofs.YtlbipokkdiiaiaaGreatDoor
open Go.RowKit Exec
set_option maxRecDepth 100000
def zff (d:Dg) (l:List (Dg×List UInt8)):List (Dg×List UInt8):=l.filter fun r=>!decide (r.1=d)
theorem br1 {ty:TypeId} {d:TypeDesc} (hu:Tryz.prog.underlying ty=some d) {fn:Func} {p:Tmp} {R:Ending→World→Prop} {a:Act} {w:World} (g:Nat) {t:TypeId} {cs:Array Value} {fr:Nat×Nat} (hg:w.heap[g]?=some (.cells cs t fr)) (hR:R (.returned (.agg cs)) w) (h:fn.results=#[.cell p ty]:=by rfl) (hp:a.tmps.getD p undef=.pointer (some ⟨g,0,none⟩):=by rfl)
 (hd:(match d with|.struct _|.array _ _=>true|_=>false)=true:=by rfl) (hi:(Tryz.prog.info? ty).map (·.size)=some cs.size:=by kernel_rfl) (hf:a.defers=[]:=by rfl):bodyPost Tryz.prog fn R .ret a w:=by
 refine bodyPost_ret (v:=.agg cs) ?_ hf hR
 have hp':a.tmps[p]?.getD undef=.pointer (some ⟨g,0,none⟩):=by simpa using hp
 cases d<;>simp at hd<;>simp[results,h,hp',asAddr,run_loadVar_row w g t ty cs fr _ hg hu rfl hi]
theorem zec {ops:Array Oper} {Q:Exit→Act→World→Prop} {rest:List Oper} {o:Oper} {a:Act} {w:World} {ty n r:Nat} (A old xs C:List Value) {x y:Operand} {t:TypeId} (rt:cY ty n) (hr:w.heap[r]?=some (.cells (A++old++C).toArray t (0,0))) (hold:old.length=n) (hs:xs.length=n) (h1:∀u∈xs,u.oneCell'=true)
 (h:∀W1,bg r w W1→W1.heap[r]?=some (.cells (A++xs++C).toArray t (0,0))→W1.heap.size=w.heap.size→wpList Tryz.prog ops Q rest (a.put o.dst undef) W1)
 (ho:o.op=.store ty x y:=by rfl) (hx:a.eval x=.pointer (some ⟨r,A.length,none⟩):=by rfl) (hy:a.eval y=.agg xs.toArray:=by rfl) (hw:Region.wanted o (yielded ops a.tmps)=true:=by rfl):
 wpList Tryz.prog ops Q (o::rest) a w:=by
 obtain⟨d,_,_,h3⟩:=rt.out
 have aH:r<w.heap.size:=(Array.getElem?_eq_some_iff.1 hr).1
 have hst:=run_storeCells_at Tryz.prog r A.length t xs 0 _ w hr (by rw[List.size_toArray,List.length_append,List.length_append];omega) h1
 have e1:(A++old++C).toArray.toList.take (A.length+0)=A:=by rw[List.append_assoc];simp
 have e2:(A++old++C).toArray.toList.drop (A.length+0+xs.length)=C:=by
  rw[hs,←hold]
  show List.drop _ (A++old++C)=C
  exact List.drop_left' (by rw[List.length_append];omega)
 rw[e1,e2] at hst
 have hsv:(storeVar ty ⟨r,A.length,none⟩ (.agg xs.toArray)).run Tryz.prog w=.ok () (w.setRow r (A++xs++C).toArray):=by
  cases hq:Tryz.prog.info? ty with
  |none=>rw[hq] at h3;cases h3
  |some i=>
   have hi:i.size=n:=by rw[hq] at h3;simpa using h3
   simp[storeVar,sizeOf,typeInfo,hq,Value.cells,hi,hs]
   simpa using hst
 refine sf (w':=w.setRow r (A++xs++C).toArray) ?_ (h _ ⟨aH,rfl,rfl,rfl,by simp,fun k _ hne=>setRow_other _ _ _ _ hne⟩ (setRow_heap _ _ _ _ _ _ hr) (by simp)) hw
 unfold execOp
 simp only[ho,hx,hy,Instr.storeAt,Instr.sureAddr,Sem.run_bind,Sem.run_pure,Result.andThen_ok,hsv]
theorem zdo:lF 100=some ((RdL.cells ⟨[],false,dg0⟩).toArray,[(0,1),(1,1),(2,32)]):=by kernel_rfl
theorem mt (l:List UInt8) (n:Nat) (j:Nat) (v:Value) (h:(Lib.byteCells l)[j]?=some v):(bytesRow (bs l) n)[j]?=some v:=by
 have hj:j<l.length:=by have:=(List.getElem?_eq_some_iff.1 h).1;rwa [Lib.byteCells_length] at this
 unfold bytesRow
 simp only[Lib.byteCells,List.getElem?_map] at h
 rw[Array.getElem?_append_left (by simpa[bs] using hj)]
 simpa[bs] using h
section
variable {o:Oper} {a:Act} {w w':World} {Q:Exit→Act→World→Prop} {K:Act→World→Prop}
theorem za6 {t e sz by_:Nat} {xs:Array Value} {p:Operand} (h0:0<sz) (h1:sz≤1000) (hxs:xs.size=sz) (hu:Tryz.prog.underlying t=some (.slice e)) (hinfo:gg e sz by_=true)
 (h:∀W1,Below w.heap.size w W1→W1.heap[w.heap.size]?=some (.cells xs e (0,0))→W1.heap.size=w.heap.size+1→K (a.put o.dst (.slice (some ⟨w.heap.size,0,none⟩) 1 1)) W1)
 (ho:o.op=.buildSlice t 1 #[(0,p)]:=by rfl) (hx:a.eval p=.agg xs:=by rfl):Oper.wp Tryz.prog o a w K Q:=by
 have hr:=zeY (t:=t) (e:=e) (sz:=sz) (by_:=by_) h0 h1 hxs hu hinfo w
 unfold Oper.wp execOp
 simp only[ho,List.map_toArray,List.map_cons,List.map_nil,hx,Sem.run_bind,hr,Result.andThen_ok,Sem.run_pure]
 exact h _ (ab w _) (heap_alloc_new w _) (by rw[World.size_alloc])
theorem jg {t:Nat} {v s v':Value} {x y:Operand} (h:∀ty,(Builtin.append_ #[t,t] ty #[v,s]).run Tryz.prog w=.ok v' w') (hk:K (a.put o.dst v') w')
 (ho:o.op=.call {callee:=.builtin .append,args:=#[x,y],argTypes:=#[t,t]}:=by rfl) (hx:a.eval x=v:=by rfl) (hy:a.eval y=s:=by rfl):Oper.wp Tryz.prog o a w K Q:=by
 unfold Oper.wp execOp
 simp only[ho,resolve,invoke,builtin,Sem.run_bind,Sem.run_pure,Result.andThen_ok,List.map_toArray,List.map_cons,List.map_nil,hx,hy,h]
 exact hk
end
theorem lg {α:Type} (f:α→List Value) {t e sz by_:Nat} (hu:Tryz.prog.underlying t=some (.slice e)) (hinfo:gg e sz by_=true) (hsz:∀x,(f x).length=sz) (h0:0<sz) (hby:by_≤1000) {W:World} {base g n:Nat} {v:Value} {l:List α} (x:α)
 (h1:∀u∈f x,u.oneCell'=true) (h:W.ownsRow base e sz v n (l.flatMap f)) (hg:W.heap[g]?=some (.cells (f x).toArray e (0,0))) (hb:base≤W.heap.size) (hn:n≤100000):
 ∃v' w',(∀ty,(Builtin.append_ #[t,t] ty #[v,.slice (some ⟨g,0,none⟩) 1 1]).run Tryz.prog W=.ok v' w')∧w'.ownsRow base e sz v' (n+1) ((l++[x]).flatMap f)∧Below base W w'∧W.grownBy w' v.ownBlock∧(v'.ownBlock=v.ownBlock∨v'.ownBlock=some W.heap.size):=by
 obtain⟨i0,z,hi,hz,hs,lS,hzs⟩:=cW hinfo
 have hsrc:∀j u,(f x)[j]?=some u→W.cell? ((⟨g,0,none⟩:Addr).add j)=some u:=fun j u hu=>by
  have:=af hg j u hu
  rw[Addr.add_lit]
  exact this
 obtain⟨v',w',hr,ho,hgr, -,hat⟩:=run_append_own_at (P:=Tryz.prog) W base t 0 e i0 z sz by_ hu hi hz hs lS hzs h0 v n (l.flatMap f) h ⟨g,0,none⟩ 1 1 (f x) (by rw[hsz];omega) hsrc h1 (by unfold maxLen;omega) (Nat.le_trans (Nat.mul_le_mul (show n+1≤100001 by omega) hby) (by decide)) hb
 refine⟨v',w',fun ty=>hr,by rw[List.flatMap_append];simpa using ho,⟨hgr.os,hgr.tape,hgr.output,hgr.size,fun k hk=>hgr.block k (by omega) fun e=>?_⟩,hgr,hat⟩
 have:=(h.lt k e.symm).1;omega
theorem dE {w w':World} {sz:Nat} {v:Value} {n:Nat} {cs:List Value} (h:ap w sz v n cs) (hs:w.heap.size≤w'.heap.size) (hk:∀k,v.ownBlock=some k→k<w.heap.size→w'.heap[k]?=w.heap[k]?):ap w' sz v n cs:=by
 obtain⟨hl,a,c,rfl,hc,hm,hn,hx⟩:=h
 refine⟨hl,a,c,rfl,hc,hm,hn,fun hne=>?_⟩
 obtain⟨b,off,rfl,aH,aX⟩:=hx hne
 exact⟨b,off,rfl,Nat.lt_of_lt_of_le aH hs,fun j u hu=>(World.cell?_of_block (hk b rfl aH)).trans (aX j u hu)⟩
theorem ga.keep {B:Nat} {w w':World} {l:List Txt} {v:Value} (h:ga B w l v) (hs:w.heap.size≤w'.heap.size) (hk:∀k,v.ownBlock=some k→k<w.heap.size→w'.heap[k]?=w.heap[k]?):ga B w' l v:=⟨dE h.at_ hs hk,fun k e=>⟨(h.own k e).1,Nat.lt_of_lt_of_le (h.own k e).2 hs⟩⟩
theorem ga.form {B:Nat} {w:World} {l:List Txt} {v:Value} (h:ga B w l v):∃a n c,v=.slice a n c:=by
 obtain⟨_,a,c,rfl,_⟩:=h.at_
 exact⟨_,_,_,rfl⟩
theorem lw (x:bS×Value):(gN x).length=2:=rfl
theorem zaQ (x:bS×Value) (h:x.2.oneCell'=true):∀u∈gN x,u.oneCell'=true:=by
 intro u hu
 simp only[gN,List.mem_cons,List.not_mem_nil,or_false] at hu
 rcases hu with rfl|rfl
 ·exact h
 ·rfl
structure gx (B:Nat) (w:World) (v:Value) (ps:List (bS×Value)):Prop where
 row:w.ownsRow B 328 2 v ps.length (ps.flatMap gN)
 words:∀p∈ps,ga B w p.1.words p.2
 apart:∀p∈ps,∀k,p.2.ownBlock=some k→v.ownBlock≠some k
theorem gx.below {B:Nat} {w w':World} {v:Value} {ps:List (bS×Value)} (h:gx B w v ps) (hb:Below w.heap.size w w'):gx B w' v ps:=
 ⟨aS h.row hb (Nat.le_refl _),fun p hp=>(h.words p hp).keep hb.size fun k _ hk=>hb.block k hk,h.apart⟩
theorem gx.base {B B':Nat} {w:World} {v:Value} {ps:List (bS×Value)} (h:gx B w v ps) (hb:B'≤B):gx B' w v ps:=
 ⟨aK h.row hb,fun p hp=>⟨(h.words p hp).at_,fun k hk=>⟨Nat.le_trans hb ((h.words p hp).own k hk).1,((h.words p hp).own k hk).2⟩⟩,h.apart⟩
theorem qV (i:Nat) (s:Txt) (l:List Txt):dL i (s::l)=match gE s with
 |none=>([],some (i+1))
 |some none=>dL (i+1) l
 |some (some c)=>(c::(dL (i+1) l).1,(dL (i+1) l).2):=by
 rw[dL]
 cases gE s with
 |none=>rfl
 |some oc=>cases oc<;>rfl
def zek (B:Nat) (w:World):Except Nat (List bS)→Ending→Prop
 |.ok l,e=>∃v ps,e=.returned (.tuple #[v,.int .i64 0,.int .i64 0])∧gx B w v ps∧ps.map (·.1)=l
 |.error er,e=>∃k:Nat,e=.returned (.tuple #[.slice none 0 0,.int .i64 (er:Int),.int .i64 (k:Int)])
theorem gY (sep:ByteArray):∀(k:Nat) (s:ByteArray),∀x∈Lib.splitB sep 0 k s,x.size≤s.size
 |0,s,x,hx=>by
  rw[Lib.splitB_zero,List.mem_singleton] at hx
  rw[hx];exact Nat.le_refl _
 |k+1,s,x,hx=>by
  unfold Lib.splitB at hx
  split at hx
  ·rw[List.mem_singleton] at hx
   rw[hx];exact Nat.le_refl _
  ·rw[List.mem_cons] at hx
   rcases hx with rfl|hx
   ·rw[ByteArray.size_extract];omega
   ·have:=gY sep k _ x hx
    rw[ByteArray.size_extract] at this
    omega
theorem bf (s:Txt):∀x∈aq s,x.length≤s.length:=by
 intro x hx
 unfold aq at hx
 split at hx
 ·cases hx
 ·obtain⟨y,hy,rfl⟩:=List.mem_map.1 hx
  have h:=gY (bs [10]) _ _ y hy
  rw[aV] at h
  exact Nat.le_trans h (oH s)
set_option maxHeartbeats 8000000 in
theorem lq (s:Txt) (w:World) (hs:s.length≤1000000) (hm:bE w):
 Calls Tryz.prog 178 #[.string (bs s)] w fun e w'=>zek w.heap.size w' (cJ s) e∧Below w.heap.size w w':=by
 have HL:=hid (bJ s w hs hm)
 have HM:=hid hm
 have hll:=bt s
 have HSH:=hid (bf s)
 clear hm
 by_cases hbig:s.length>65536∨(aq s).length>400
 ·have ht:cJ s=.error 6:=by unfold cJ;rw[if_pos hbig]
  rw[ht]
  obtain⟨b1,b2,e1,e2⟩:∃b1 b2:Bool,decide (65536<(s.length:Int))=b1∧decide (400<((aq s).length:Int))=b2:=⟨_,_,rfl,rfl⟩
  have hor:b1=true∨b2=true:=by
   rcases hbig with h|h
   ·exact .inl (by rw[←e1];exact decide_eq_true (by omega))
   ·exact .inr (by rw[←e2];exact decide_eq_true (by omega))
  generalize aq s=ls at *
  clear hbig ht
  cases b1 with
  |true=>
   go_enter Tryz.func178,Tryz.ntmps178
   go_wp2_with (go_at_call 219;refine(HL.out).mono ?_;rintro e w1 ⟨v,rfl,ho,hb⟩;obtain⟨a,c,rfl, -⟩:=cp ho (by omega))
   go_ret3
   exact⟨⟨0,rfl⟩,hb⟩
  |false=>
   obtain rfl:b2=true:=by simpa using hor
   go_enter Tryz.func178,Tryz.ntmps178
   go_wp2_with (go_at_call 219;refine(HL.out).mono ?_;rintro e w1 ⟨v,rfl,ho,hb⟩;obtain⟨a,c,rfl, -⟩:=cp ho (by omega))
   go_ret3
   exact⟨⟨0,rfl⟩,hb⟩
 ·have ht:cJ s=match(dL 0 (aq s)).2 with|none=>.ok (dL 0 (aq s)).1|some _=>.error 3:=by
   unfold cJ
   rw[if_neg hbig]
   cases(dL 0 (aq s)).2<;>rfl
  have h1:s.length≤65536:=by omega
  have h2:(aq s).length≤400:=by omega
  have e1:decide (65536<(s.length:Int))=false:=decide_eq_false (by omega)
  have e2:decide (400<((aq s).length:Int))=false:=decide_eq_false (by omega)
  obtain⟨R,hR⟩:∃R:Except Nat (List bS),R=cJ s:=⟨_,rfl⟩
  rw[←hR]
  have HR:=hid (hR.trans ht)
  clear ht hbig hR
  generalize aq s=ls at *
  go_enter Tryz.func178,Tryz.ntmps178
  go_upto_region 4 with(go_at_call 219;refine(HL.out).mono ?_;rintro e w1 ⟨v,rfl,ho,hb⟩;obtain⟨a,c,rfl,hvc,hvm, -,hown,hxx⟩:=cp ho (by omega))
  have HB:=hid hb
  have HX:=hid hxx
  have hz1:=hb.size
  clear ho hown hxx hb e1 e2
  go_wp2_with fail
  go_loopw [23,6] (fun i so wr=>∃(k:Nat) (a:Option Addr) (q:Nat) (ps:List (bS×Value)),k≤ls.length∧i=.int .i64 k∧so=.slice a ps.length q∧gx w1.heap.size wr (.slice a ps.length q) ps∧ps.length≤k∧dL 0 ls=(ps.map (·.1)++(dL k (ls.drop k)).1,(dL k (ls.drop k)).2)∧Below w1.heap.size w1 wr) (fun i _ _=>ls.length-(intOf i).toNat)
  case atStart=>exact⟨0,none,0,[],by omega,rfl,rfl,⟨World.ownsRow_nil _ _ _ _,fun p hp=>(by cases hp),fun p hp=>(by cases hp)⟩,Nat.le_refl _,rfl,Below.refl _ _⟩
  case round=>
   obtain⟨k,oa,q,ps,hk,rfl,rfl,hcm,hpk,aX,hbr⟩:=hrel
   have HC:=hid hcm
   have HCL:=hid aX
   have HBR:=hid hbr
   have hzr:=hbr.size
   clear hcm aX hbr
   by_cases aH:k<ls.length
   ·obtain⟨b0,o0,rfl,hb0,hcx⟩:=HX.out k aH
    have L0:=Below.keeps HBR.out (hcx k aH)
    have hxl:=HSH.out ls[k] (List.getElem_mem aH)
    have HDR:=hid (List.drop_eq_getElem_cons aH)
    generalize ls[k]=x at *
    have HST:=hid (HCL.out.trans (by rw[HDR.out,qV]))
    have HRD:=hid (zbt x wr (by omega) (HM.out.below (HB.out.trans (HBR.out.mono hz1))))
    clear hcx
    cases hr:gE x with
    |none=>
     rw[hr] at HST HRD
     have h2:(dL 0 ls).2=some (k+1):=by rw[HST.out]
     have HE:=hid h2
     go_wp2_with (go_at_call 220;refine(HRD.out).mono ?_;rintro e w2 ⟨v,ok,rfl,⟨rfl,rfl⟩,hb2⟩)
     go_ret3
     refine⟨?_,HB.out.trans ((HBR.out.mono hz1).trans (hb2.mono (by omega)))⟩
     rw[HR.out,HE.out]
     exact⟨k+1,rfl⟩
    |some oc=>
     cases oc with
     |none=>
      rw[hr] at HST HRD
      have HE:=hid HST.out
      go_wp2_with (go_at_call 220;refine(HRD.out).mono ?_;rintro e w2 ⟨v,ok,rfl,⟨rfl,rfl⟩,hb2⟩)
      refine⟨?_,by simp[intOf];omega⟩
      exact⟨k+1,_,_,ps,by omega,by go_num,rfl,HC.out.below hb2,by omega,HE.out,Below.chain HBR.out hb2⟩
     |some c=>
      rw[hr] at HST HRD
      have HE:=hid HST.out
      go_upto_region 12 with(go_at_call 220;refine(HRD.out).mono ?_;rintro e w2 ⟨v,ok,rfl,⟨rfl,rb,wv,rfl,hrb,hnb,hwd⟩,hb2⟩)
      obtain⟨wa,wn,wq,rfl⟩:=hwd.form
      have HWD:=hid hwd
      have hz2:=hb2.size
      have p0:=(cell_of_row w2 rb 0 _ _ _ hnb).trans rfl
      have p1:=(cell_of_row w2 rb 1 _ _ _ hnb).trans rfl
      have HRW:=hid (aS HC.out.row hb2 (Nat.le_refl _))
      go_wp2_with first|(refine bC zdE (af hnb) (lw _) ?_)|(refine xu (xs:=(gN (c,.slice wa wn wq)).toArray) (e:=328) (sz:=2) (by_:=40) (by omega) (by omega) rfl Tryz.underlying304 (by kernel_rfl) ?_;intro W4 hb4 hn4 hs4;obtain⟨v5,W5,hap,ho5,hb5,hg5,hat5⟩:=lg gN (t:=304) (by_:=40) Tryz.underlying304 (by kernel_rfl) lw (by omega) (by omega) (c,.slice wa wn wq) (zaQ _ rfl) (aS HRW.out hb4 (Nat.le_refl _)) hn4 (by have:=hb4.size;have:=HBR.out.size;omega) (by omega);obtain⟨a5,q5,rfl⟩:=ax ho5)|(at_builtin;refine Lib.wpList_append_run _ rfl _ _ _ _ rfl _ _ rfl rfl _ _ (hap _) ?_)
      have hz4:=hb4.size
      have hz5:=hg5.size
      have hb24:Below wr.heap.size wr W4:=Below.chain hb2 hb4
      have hzr':=HBR.out.size
      have hold:∀k,(Value.slice oa ps.length q).ownBlock=some k→k<wr.heap.size:=fun k hk=>(HC.out.row.lt k hk).2
      have hnew:(Value.slice a5 (ps.length+1) q5).ownBlock=(Value.slice oa ps.length q).ownBlock∨(Value.slice a5 (ps.length+1) q5).ownBlock=some W4.heap.size:=hat5
      have HF:=hid (show gx w1.heap.size W5 (.slice a5 (ps++[(c,Value.slice wa wn wq)]).length q5) (ps++[(c,.slice wa wn wq)]) from by
       rw[List.length_append,List.length_singleton]
       refine⟨by rw[List.length_append,List.length_singleton];exact ho5,fun p hp=>?_,fun p hp k hk=>?_⟩
       ·rw[List.mem_append,List.mem_singleton] at hp
        rcases hp with hp|rfl
        ·have h0:=(HC.out.words p hp).keep hb24.size (fun k _ hk=>hb24.block k hk)
         exact h0.keep hz5 fun k hk hl=>hg5.block k hl (fun e=>HC.out.apart p hp k hk e.symm)
        ·have h0:=HWD.out.keep hz4 (fun k _ hk=>hb4.block k hk)
         have h1:=h0.keep hz5 fun k hk hl=>hg5.block k hl (fun e=>by have:=hold k e.symm;have:=(HWD.out.own k hk).1;omega)
         exact⟨h1.at_,fun k hk=>⟨by have:=(h1.own k hk).1;omega,(h1.own k hk).2⟩⟩
       ·rw[List.mem_append,List.mem_singleton] at hp
        rcases hp with hp|rfl
        ·rcases hnew with e|e
         ·rw[e];exact HC.out.apart p hp k hk
         ·rw[e]
          have:=((HC.out.words p hp).own k hk).2
          intro e2
          have:=Option.some.inj e2
          omega
        ·intro e2
         have h0:=HWD.out.own k hk
         rcases hnew with e|e
         ·have:=hold k (e▸e2);omega
         ·rw[e] at e2
          have:=Option.some.inj e2
          omega)
      have bI:(ps++[(c,Value.slice wa wn wq)]).length=ps.length+1:=by simp
      refine⟨?_,by simp[intOf];omega⟩
      refine⟨k+1,a5,q5,ps++[(c,.slice wa wn wq)],by omega,by go_num,by rw[bI],HF.out,by omega,?_,HBR.out.trans ((hb24.mono hzr').trans (hb5.mono (by omega)))⟩
      rw[HE.out,List.map_append,List.append_assoc]
      rfl
   ·obtain rfl:k=ls.length:=by omega
    have aX:=HCL.out
    rw[List.drop_length] at aX
    have h2:(dL 0 ls).2=none:=by rw[aX];rfl
    have h3:(dL 0 ls).1=ps.map (·.1):=by rw[aX];exact List.append_nil _
    have HE:=hid (And.intro h2 h3)
    clear aX h2 h3
    go_wp2_with fail
    go_ret3
    refine⟨?_,HB.out.trans (HBR.out.mono hz1)⟩
    rw[HR.out,HE.out.1]
    exact⟨_,ps,rfl,HC.out.base hz1,HE.out.2.symm⟩
set_option maxHeartbeats 1000000 in
theorem zm (s:Txt) (w:World) (hs:s.length≤1000000) (hm:bE w):
 Calls Tryz.prog 136 #[.string (bs s)] w fun e w'=>(∃(er k:Nat),e=.returned (.tuple #[.int .i64 (er:Int),.int .i64 (k:Int)])∧(er=0↔∃l,cJ s=.ok l))∧Below w.heap.size w w':=by
 have HC:=hid (lq s w hs hm)
 cases ht:cJ s with
 |ok l=>
  rw[ht] at HC
  go_enter Tryz.func136,Tryz.ntmps136
  go_wp2_with (go_at_call 178;refine(HC.out).mono ?_;rintro e w' ⟨⟨v,ps,rfl, -, -⟩,hb⟩)
  go_ret2
  exact⟨⟨0,0,rfl,fun _=>⟨l,rfl⟩,fun _=>rfl⟩,hb⟩
 |error er=>
  rw[ht] at HC
  have her:er≠0:=by
   unfold cJ at ht
   split at ht
   ·cases ht;decide
   ·split at ht
    ·cases ht
    ·cases ht;decide
  go_enter Tryz.func136,Tryz.ntmps136
  go_wp2_with (go_at_call 178;refine(HC.out).mono ?_;rintro e w' ⟨⟨k,rfl⟩,hb⟩)
  go_ret2
  exact⟨⟨er,k,rfl,fun e=>absurd e her,fun⟨l,h⟩=>by cases h⟩,hb⟩
def jB {α β:Type} (R:α→β→Prop):List α→List β→Prop
 |[],[]=>True
 |a::l,b::m=>R a b∧jB R l m
 |_,_=>False
theorem jB.imp {α β:Type} {R S:α→β→Prop} (h:∀a b,R a b→S a b):∀{l:List α} {m:List β},jB R l m→jB S l m
 |[],[],_=>trivial
 |_::_,_::_,k=>⟨h _ _ k.1,jB.imp h k.2⟩
theorem jB.len {α β:Type} {R:α→β→Prop}:∀{l:List α} {m:List β},jB R l m→l.length=m.length
 |[],[],_=>rfl
 |_::_,_::_,k=>by rw[List.length_cons,List.length_cons,jB.len k.2]
def aI (D:Nat→Prop) (w:World) (b:Nat) (v:Value):Prop:=b<w.heap.size∧¬D b∧w.cell? ⟨b,0,none⟩=some v
theorem aI.go {D D':Nat→Prop} {w w':World} {b:Nat} {v:Value} (h:aI D w b v) (hf:az D w w') (hD:∀j,D' j→D j∨w.heap.size≤j):aI D' w' b v:=
 ⟨Nat.lt_of_lt_of_le h.1 hf.size,fun e=>by
  rcases hD b e with e|e
  ·exact h.2.1 e
  ·have:=h.1;omega,(World.cell?_of_block (hf.block b h.1 h.2.1)).trans h.2.2⟩
def dm (D:Nat→Prop) (g mb:Nat) (word:Txt) (w:World):cR→Value→Prop
 |.read,v=>∃b1 b2,v=.func (.func 295) #[] #[.pointer (some ⟨b1,0,none⟩),.pointer (some ⟨b2,0,none⟩)]∧aI D w b1 (.pointer (some ⟨g,0,none⟩))∧aI D w b2 (.func (.func 241) #[.pointer (some ⟨g,0,none⟩)] #[])
 |.try_,v=>∃b1,v=.func (.func 242) #[] #[.pointer (some ⟨b1,0,none⟩)]∧aI D w b1 (.pointer (some ⟨g,0,none⟩))
 |.scan,v=>∃b1 b2 b3 b4 b5,v=.func (.func 295) #[] #[.pointer (some ⟨b1,0,none⟩),.pointer (some ⟨b2,0,none⟩)]∧aI D w b1 (.pointer (some ⟨g,0,none⟩))∧aI D w b2 (.func (.func 296) #[] #[.pointer (some ⟨b3,0,none⟩),.pointer (some ⟨b4,0,none⟩),.pointer (some ⟨b5,0,none⟩)])∧aI D w b3 (.pointer (some ⟨g,0,none⟩))∧aI D w b4 (.string (bs word))∧aI D w b5 (.map (some mb))
def fH (D:Nat→Prop) (g mb:Nat) (word:Txt) (w:World):gm→Value→Prop
 |.line s,v=>∃b0 b1 b2 b3,v=.func (.func 298) #[] #[.pointer (some ⟨b0,0,none⟩),.pointer (some ⟨b1,0,none⟩),.pointer (some ⟨b2,0,none⟩),.pointer (some ⟨b3,0,none⟩)]∧aI D w b0 (.string (bs s))∧aI D w b1 (.string (bs word))∧aI D w b2 (.pointer (some ⟨g,0,none⟩))∧aI D w b3 (.map (some mb))
 |.told p t,v=>∃b0 b1 b2 tv,v=.func (.func 294) #[] #[.pointer (some ⟨b0,0,none⟩),.pointer (some ⟨b1,0,none⟩),.pointer (some ⟨b2,0,none⟩)]∧aI D w b0 tv∧dm D g mb word w t tv∧aI D w b1 (.pointer (some ⟨g,0,none⟩))∧aI D w b2 (.string (bs p))
def dr (B:Nat) (D:Nat→Prop) (g:Nat) (w:World) (c:bS) (v:Value):Prop:=
 ∃b0 b1 wv,v=.func (.func 193) #[] #[.pointer (some ⟨b0,0,none⟩),.pointer (some ⟨b1,0,none⟩)]∧aI D w b0 (.pointer (some ⟨g,0,none⟩))∧(¬D b1∧w.heap[b1]?=some (.cells (gN (c,wv)).toArray 328 (0,0)))∧ap w 1 wv c.words.length (ag c.words)∧(∀k,wv.ownBlock=some k→¬D k∧k<w.heap.size)∧∀k,wv.ownBlock=some k→k<B
section
variable {D D':Nat→Prop} {w w':World} {g mb:Nat} {word:Txt}
theorem dm.go {t:cR} {v:Value} (h:dm D g mb word w t v) (hf:az D w w') (hD:∀j,D' j→D j∨w.heap.size≤j):dm D' g mb word w' t v:=by
 cases t with
 |read=>
  obtain⟨b1,b2,rfl,h1,h2⟩:=h
  exact⟨b1,b2,rfl,h1.go hf hD,h2.go hf hD⟩
 |try_=>
  obtain⟨b1,rfl,h1⟩:=h
  exact⟨b1,rfl,h1.go hf hD⟩
 |scan=>
  obtain⟨b1,b2,b3,b4,b5,rfl,h1,h2,h3,h4,h5⟩:=h
  exact⟨b1,b2,b3,b4,b5,rfl,h1.go hf hD,h2.go hf hD,h3.go hf hD,h4.go hf hD,h5.go hf hD⟩
theorem fH.go {t:gm} {v:Value} (h:fH D g mb word w t v) (hf:az D w w') (hD:∀j,D' j→D j∨w.heap.size≤j):fH D' g mb word w' t v:=by
 cases t with
 |line s=>
  obtain⟨b0,b1,b2,b3,rfl,h0,h1,h2,h3⟩:=h
  exact⟨b0,b1,b2,b3,rfl,h0.go hf hD,h1.go hf hD,h2.go hf hD,h3.go hf hD⟩
 |told p t=>
  obtain⟨b0,b1,b2,tv,rfl,h0,h1,h2,h3⟩:=h
  exact⟨b0,b1,b2,tv,rfl,h0.go hf hD,h1.go hf hD,h2.go hf hD,h3.go hf hD⟩
theorem dr.go {B:Nat} {c:bS} {v:Value} (h:dr B D g w c v) (hf:az D w w') (hD:∀j,D' j→D j∨w.heap.size≤j):dr B D' g w' c v:=by
 obtain⟨b0,b1,wv,rfl,h0,⟨h1,h2⟩,h3,h4,h5⟩:=h
 have aH:=lx (hid h2)
 have hn:∀b,b<w.heap.size→¬D b→¬D' b:=fun b hb hd e=>by
  rcases hD b e with e|e
  ·exact hd e
  ·omega
 exact⟨b0,b1,wv,rfl,h0.go hf hD,⟨hn b1 aH h1,(hf.block b1 aH h1).trans h2⟩,dE h3 hf.size fun k hk hl=>hf.block k hl (h4 k hk).1,fun k hk=>⟨hn k (h4 k hk).2 (h4 k hk).1,Nat.lt_of_lt_of_le (h4 k hk).2 hf.size⟩,h5⟩
end
def fg (x:Txt×Txt):List Value:=[.string (bs x.1),.string (bs x.2)]
def knV (k:KnL):Value:=.agg #[.string (bs k.path),.bool k.is,.string (bs k.data)]
def knE (l:List KnL):List MapEntry:=l.zipIdx.map fun x=>⟨cL x.1.path,knV x.1,x.2⟩
def knO (l:List KnL):Obj:=.map (knE l).toArray l.length
def iF (tv ev:Value) (km:Nat) (r:aw):List Value:=[tv,ev,.string (bs r.buffer),.map (some km),.string (bs r.asks),.bool r.waits,.int .i64 (r.over.kind:Int),.string (bs r.over.path),.string (bs r.over.data),.int .i64 (r.over.why:Int)]
def fy:gm→Bool
 |.line _=>true
 |.told _ t=>decide (t=.scan)
def zeR:List Txt:=[eK,dO,dM,cH,cG,iu]
def zfa:List Txt:=[iA,mS,fj,j7,dN,fG]
structure lp (c:bS):Prop where
 shape:(∃n∈zeR,c.words=[n])∨(∃n∈zfa,∃a,c.words=[n,a])∨∃a x,c.words=[iq,a,x]
 wl:∀x∈c.words,x.length≤65536
 rl:c.rest.length≤65536
structure dp (r:aw):Prop where
 buf:r.buffer.length≤65536
 kn:∀k∈r.known,k.data.length≤65536
 ln:∀s,.line s∈r.top→s.length≤65536
 cm:∀c∈r.cmds,lp c
 tl:r.top.length+r.cmds.length≤1000000000000
 nd:(r.known.map (·.path)).Nodup
structure aN (B:Nat) (D:Nat→Prop) (g:Nat) (env:List (Txt×Txt)) (r:aw) (w:World) (tv ev:Value) (km mb:Nat) (vs cs:List Value):Prop where
 at_:w.heap[g]?=some (.cells (iF tv ev km r).toArray 323 (0,0))
 row:w.ownsRow B 1 1 tv (vs.length+cs.length) (vs++cs).reverse
 top:jB (fH D g mb r.word w) r.top vs
 cmd:jB (dr B D g w) r.cmds cs
 env:aE w 2 fg ev env
 eno:∀k,ev.ownBlock=some k→¬D k∧k<w.heap.size
 kn:w.heap[km]?=some (knO r.known)
 seen:r.top.any fy=true→w.heap[mb]?=some (dP r.seen.reverse)∧D mb∧mb≠km
 dg:D g
 dk:D km
 dt:∀k,tv.ownBlock=some k→D k
 db:∀k,D k→B≤k∧k<w.heap.size
 sm:dp r
 eb:∀k,ev.ownBlock=some k→k<B
def bA (B:Nat) (D:Nat→Prop) (g:Nat) (env:List (Txt×Txt)) (r:aw) (w:World):Prop:=∃tv ev km mb vs cs,aN B D g env r w tv ev km mb vs cs
def aD (B:Nat) (D:Nat→Prop) (g:Nat) (env:List (Txt×Txt)) (r:aw) (w w':World):Prop:=∃D':Nat→Prop,(∀j,D' j→D j∨w.heap.size≤j)∧az D w w'∧bA B D' g env r w'
section
variable {B g km mb:Nat} {D D':Nat→Prop} {env:List (Txt×Txt)} {r:aw} {w w':World} {tv ev:Value} {vs cs:List Value}
theorem aN.below (h:aN B D g env r w tv ev km mb vs cs) (hb:Below w.heap.size w w'):aN B D g env r w' tv ev km mb vs cs:=by
 have hf:az D w w':=az.of_below hb
 have hd:∀j,D j→D j∨w.heap.size≤j:=fun j e=>.inl e
 exact⟨(hb.block _ (lx (hid h.at_))).trans h.at_,aS h.row hb (Nat.le_refl _),h.top.imp fun _ _ k=>k.go hf hd,h.cmd.imp fun _ _ k=>k.go hf hd,h.env.below hb (Nat.le_refl _),fun k hk=>⟨(h.eno k hk).1,Nat.lt_of_lt_of_le (h.eno k hk).2 hb.size⟩,(hb.block _ (lx (hid h.kn))).trans h.kn,fun e=>⟨(hb.block _ (lx (hid (h.seen e).1))).trans (h.seen e).1,(h.seen e).2⟩,h.dg,h.dk,h.dt,fun k hk=>⟨(h.db k hk).1,Nat.lt_of_lt_of_le (h.db k hk).2 hb.size⟩,h.sm,h.eb⟩
theorem bA.below (h:bA B D g env r w) (hb:Below w.heap.size w w'):bA B D g env r w':=by
 obtain⟨tv,ev,km,mb,vs,cs,h⟩:=h
 exact⟨tv,ev,km,mb,vs,cs,h.below hb⟩
theorem aD.ahead {w0:World} (hb:Below w0.heap.size w0 w) (h:aD B D g env r w w'):aD B D g env r w0 w':=by
 obtain⟨D',h1,h2,h3⟩:=h
 exact⟨D',fun j hj=>by
  rcases h1 j hj with e|e
  ·exact .inl e
  ·exact .inr (Nat.le_trans hb.size e),(az.of_below hb).chain h2,h3⟩
theorem aD.then {r2:aw} {w2:World} (h1:∀j,D' j→D j∨w.heap.size≤j) (h2:az D w w') (h:aD B D' g env r2 w' w2):aD B D g env r2 w w2:=by
 obtain⟨D2,k1,k2,k3⟩:=h
 have:=h2.size
 exact⟨D2,fun j hj=>by
  rcases k1 j hj with e|e
  ·exact h1 j e
  ·exact .inr (by omega),h2.trans k2 fun j hj e=>by
  rcases h1 j e with e|e
  ·exact e
  ·omega,k3⟩
theorem aN.cells {r':aw} (h:aN B D g env r w tv ev km mb vs cs) (ht:bg g w w') (hn:w'.heap[g]?=some (.cells (iF tv ev km r').toArray 323 (0,0)))
 (e1:r'.cmds=r.cmds) (e2:r'.top=r.top) (e3:r'.word=r.word) (e4:r'.seen=r.seen) (e5:r'.known=r.known) (hs:dp r'):aN B D g env r' w' tv ev km mb vs cs:=by
 have hf:az D w w':=ht.foot.mono fun i _ e=>e▸h.dg
 have hd:∀j,D j→D j∨w.heap.size≤j:=fun j e=>.inl e
 have hgk:∀k,tv.ownBlock=some k→k≠g:=fun k hk e=>by
  subst e
  obtain⟨-,⟨h1, -⟩|⟨b,cap,cur,h1, -,h2, -⟩⟩:=h.row
  ·rw[h1] at hk;cases hk
  ·rw[h1] at hk
   have:b=k:=Option.some.inj hk
   subst this
   rw[h.at_] at h2
   have:=Option.some.inj h2
   simp at this
 have hkm:km≠g:=fun e=>by
  have h1:=h.kn
  rw[e,h.at_] at h1
  cases h1
 refine⟨hn,aJ h.row fun k hk=>ht.foot.block k (h.row.lt k hk).2 (hgk k hk),?_,?_,eP h.env hf.size fun k hk hl=>hf.block k hl (h.eno k hk).1,fun k hk=>⟨(h.eno k hk).1,Nat.lt_of_lt_of_le (h.eno k hk).2 hf.size⟩,?_,fun e=>?_,h.dg,h.dk,h.dt,fun k hk=>⟨(h.db k hk).1,Nat.lt_of_lt_of_le (h.db k hk).2 hf.size⟩,hs,h.eb⟩
 ·rw[e2,e3];exact h.top.imp fun _ _ k=>k.go hf hd
 ·rw[e1];exact h.cmd.imp fun _ _ k=>k.go hf hd
 ·rw[e5];exact(ht.foot.block _ (lx (hid h.kn)) hkm).trans h.kn
 ·rw[e2] at e
  rw[e4]
  have h1:=h.seen e
  exact⟨(ht.foot.block _ (lx (hid h1.1)) (fun e=>by have:=h1.1;rw[e,h.at_] at this;cases this)).trans h1.1,h1.2⟩
end
theorem aA {w:World} {g km:Nat} {tv ev:Value} {r:aw} (h:w.heap[g]?=some (.cells (iF tv ev km r).toArray 323 (0,0))):
 w.cell? ⟨g,0,none⟩=some tv∧w.cell? ⟨g,1,none⟩=some ev∧w.cell? ⟨g,2,none⟩=some (.string (bs r.buffer))∧w.cell? ⟨g,3,none⟩=some (.map (some km))∧w.cell? ⟨g,4,none⟩=some (.string (bs r.asks))∧w.cell? ⟨g,5,none⟩=some (.bool r.waits)∧w.cell? ⟨g,6,none⟩=some (.int .i64 (r.over.kind:Int))∧w.cell? ⟨g,7,none⟩=some (.string (bs r.over.path))∧w.cell? ⟨g,8,none⟩=some (.string (bs r.over.data))∧w.cell? ⟨g,9,none⟩=some (.int .i64 (r.over.why:Int)):=by
 refine⟨?_,?_,?_,?_,?_,?_,?_,?_,?_,?_⟩<;>exact(cell_of_row _ _ _ _ _ _ h).trans rfl
theorem um {r:aw} (h:dp r) (e:Nat):dp (cK r e):=⟨h.buf,h.kn,h.ln,h.cm,h.tl,h.nd⟩
theorem zdg {r:aw} (h:dp r) (s:Txt):dp (cZ r s):=by
 unfold cZ
 split
 ·exact um h 6
 ·exact⟨by simp only[List.length_append];omega,h.kn,h.ln,h.cm,h.tl,h.nd⟩
theorem au {w:World} {g:Nat} {cs:Array Value} {t:TypeId} (h:w.heap[g]?=some (.cells cs t (0,0))) (k:Nat) (v:Value):(w.setCell ⟨g,k,none⟩ v).heap[g]?=some (.cells (cs.setIfInBounds k v) t (0,0))∧bg g w (w.setCell ⟨g,k,none⟩ v):=
 ⟨heap_setCell_same w g k _ t v h,mD k v (lx (hid h))⟩
theorem aN.go {B g km mb:Nat} {D:Nat→Prop} {env:List (Txt×Txt)} {r r':aw} {w w':World} {tv ev:Value} {vs cs:List Value} (h:aN B D g env r w tv ev km mb vs cs) (ht:bg g w w') (hn:w'.heap[g]?=some (.cells (iF tv ev km r').toArray 323 (0,0)))
 (e1:r'.cmds=r.cmds) (e2:r'.top=r.top) (e3:r'.word=r.word) (e4:r'.seen=r.seen) (e5:r'.known=r.known) (hs:dp r'):aD B D g env r' w w':=
 ⟨D,fun _ e=>.inl e,ht.foot.mono fun _ _ e=>e▸h.dg,tv,ev,km,mb,vs,cs,h.cells ht hn e1 e2 e3 e4 e5 hs⟩
set_option maxHeartbeats 1000000 in
theorem eR {B g:Nat} {D:Nat→Prop} {env:List (Txt×Txt)} {r:aw} {w:World} (h:bA B D g env r w) (er:Nat):
 Calls Tryz.prog 246 #[.pointer (some ⟨g,0,none⟩),.int .i64 (er:Int)] w fun e w'=>e=.returned (.tuple #[])∧aD B D g env (cK r er) w w':=by
 obtain⟨tv,ev,km,mb,vs,cs,h⟩:=h
 have H:=hid h
 have hn:=h.at_
 obtain⟨-, -, -, -, -, -,c6,c7,c8,c9⟩:=aA hn
 have f6:∀k,w.frozen? ⟨g,k,none⟩=false:=fun k=>Lib.frozen_of_heap hn k
 have g6:=f6 6
 have g7:=f6 7
 have g8:=f6 8
 have g9:=f6 9
 clear h f6
 go_enter Tryz.func246,Tryz.ntmps246
 go_wp2_with fail
 go_end0
 have hn:=H.out.at_
 obtain⟨n1,t1⟩:=au hn 6 (.int .i64 4)
 obtain⟨n2,t2⟩:=au n1 7 (.string ⟨#[]⟩)
 obtain⟨n3,t3⟩:=au n2 8 (.string ⟨#[]⟩)
 obtain⟨n4,t4⟩:=au n3 9 (.int .i64 (er:Int))
 exact⟨rfl,H.out.go (((t1.trans t2).trans t3).trans t4) (n4.trans rfl) rfl rfl rfl rfl rfl (um H.out.sm er)⟩
set_option maxHeartbeats 1000000 in
theorem eZ {B g:Nat} {D:Nat→Prop} {env:List (Txt×Txt)} {r:aw} {w:World} (h:bA B D g env r w) (s:Txt) (hs:s.length≤1000000000000000):
 Calls Tryz.prog 241 #[.pointer (some ⟨g,0,none⟩),.string (bs s)] w fun e w'=>e=.returned (.tuple #[])∧aD B D g env (cZ r s) w w':=by
 have HF:=hid (eR h 6)
 obtain⟨tv,ev,km,mb,vs,cs,h⟩:=h
 have H:=hid h
 have hn:=h.at_
 have hb:=h.sm.buf
 obtain⟨-, -,c2, -, -, -, -, -, -, -⟩:=aA hn
 have f2:w.frozen? ⟨g,2,none⟩=false:=Lib.frozen_of_heap hn 2
 clear h
 by_cases hbig:65536<r.buffer.length+s.length
 ·have e:cZ r s=cK r 6:=by unfold cZ;rw[if_pos hbig]
  rw[e]
  have E:decide (65536<(r.buffer.length:Int)+(s.length:Int))=true:=decide_eq_true (by omega)
  clear e
  go_enter Tryz.func241,Tryz.ntmps241
  go_wp2_with (go_at_call 246;refine(HF.out).mono ?_;rintro e w1 ⟨rfl,hg⟩)
  refine bodyPost_ret (results_none rfl _ _ _) rfl ?_
  exact⟨rfl,hg⟩
 ·have e:cZ r s={r with buffer:=r.buffer++s}:=by unfold cZ;rw[if_neg hbig]
  have hsm:dp {r with buffer:=r.buffer++s}:=e▸zdg H.out.sm s
  rw[e]
  have E:decide (65536<(r.buffer.length:Int)+(s.length:Int))=false:=decide_eq_false (by omega)
  clear e
  have HS:=hid hsm
  clear hsm
  go_enter Tryz.func241,Tryz.ntmps241
  go_wp2_with fail
  go_end0
  obtain⟨n1,t1⟩:=au H.out.at_ 2 (.string (bs (r.buffer++s)))
  exact⟨rfl,H.out.go t1 (n1.trans rfl) rfl rfl rfl rfl rfl HS.out⟩
open Go.Shelf
attribute [local go_sem] Oper.semAt_some
section
variable {P:Program} {ops:Array Oper} {Q:Exit→Act→World→Prop} {n l:Nat}
theorem zbL {row:String} {args:Array Value} {w:World} {R:Value→World→Prop} (h:Rows P row args w R):RowsIn (Fence.wide.inRound l) n P row args w R:=
 fun c cs _=>let⟨v,w',r,s⟩:=h c cs;⟨v,w',r,stepsIn_wide.2 s⟩
theorem xB {o:Oper} {a:Act} {w:World} {K:Act→World→Prop} (hd:∀c,o.op≠.defer c) (h:Oper.wp P o a w K Q):Oper.wpIn (Fence.wide.inRound l) n P o a w K Q:=by
 refine⟨fun _ _=>trivial,?_⟩
 rw[Oper.semAt_eq _ _ _ hd]
 unfold Oper.wp at h
 generalize (execOp a.eval o).run P w=R at h
 unfold Oper.upon at h
 unfold Oper.uponIn
 split at h
 ·exact h
 ·exact h
 ·exact h
 ·exact⟨fun e=>(by cases e),callsIn_wide.2 h⟩
 ·exact⟨fun e=>(by cases e),zbL h⟩
 ·exact h
 ·exact h.elim
theorem su (hno:¬LetsOut Q) (hd:∀(i:Nat) (o:Oper),ops[i]?=some o→∀c,o.op≠.defer c):∀(fuel:Nat) (listed:Array Bool) (a:Act) (w:World),wpAny P .any ops Q fuel listed a w→wpAnyIn (Fence.wide.inRound l) n P .any ops Q fuel listed a w
 |0,_,_,_,h=>h
 |fuel+1,listed,a,w,h=>by
  refine⟨h.1,fun i hi=>?_⟩
  have h1:=h.2 i hi
  unfold wpOp at h1
  unfold wpOpIn
  cases ho:ops[i]? with
  |none=>
   rw[ho] at h1
   exact su hno hd fuel _ a w h1
  |some o=>
   rw[ho] at h1
   simp only at h1 ⊢
   by_cases hw:Region.wanted o (yielded ops a.tmps)=true
   ·rw[if_pos hw] at h1 ⊢
    rcases h1 with h1|h1
    ·exact xB (hd i o ho) (Oper.wp_mono (fun a' w' h2=>su hno hd fuel _ a' w' h2) h1)
    ·exact absurd h1.2 hno
   ·rw[if_neg hw] at h1 ⊢
    exact⟨fun _ _=>trivial,su hno hd fuel _ _ w h1⟩
def xj (ops:List Oper):Bool:=ops.all fun o=>match o.op with|.defer _=>false|_=>true
theorem lm {id:Nat} {l0:List Oper} {a:Act} {w:World} (S:World→Prop) (k:Nat) (hm:P.follows .mixedOrders=true) (hno:¬LetsOut Q) (hd:xj l0=true)
 (h:∀W,Below w.heap.size w W→WL P l0.toArray Q S k l0.length (Array.replicate l0.length false) a W):(Code.region id l0.toArray true).wpIn (Fence.wide.inRound l) n P Q a w:=
 wpIn_region_any hm (su hno (fun i o ho c hc=>by
  unfold xj at hd
  have h1:=List.all_eq_true.1 hd o (by
   have:=List.mem_of_getElem? (l:=l0) (i:=i) (by simpa using ho)
   exact this)
  rw[hc] at h1
  cases h1) _ _ _ _ (gi _ _ _ _ (by simpa using(h w.drew (kU.below ⟨1,rfl⟩)).out)))
end
def bk (n k:Nat):List Nat:=((List.range n).drop k).reverse
theorem vS (n:Nat):bk n n=[]:=by unfold bk;rw[List.drop_of_length_le (by simp)];rfl
theorem rL (n k:Nat) (h:k<n):bk n k=bk n (k+1)++[k]:=by
 unfold bk
 rw[List.drop_eq_getElem_cons (by simpa using h),List.reverse_cons]
 simp
theorem zgB (n k:Nat):(bk n k).length=n-k:=by unfold bk;simp
def ec (E:Nat→Prop) (W W':World):Prop:=∀k,E k→W'.heap[k]?=W.heap[k]?
theorem js {α:Type} (l:List α) (d:α) (k:Nat) (h:k<l.length):l.getD k d=l[k]:=by
 rw[List.getD_eq_getElem?_getD,List.getElem?_eq_getElem h];rfl
def bkC (ls:List Txt) (k:Nat):Array Value:=#[.int .i64 (k:Int),.string (bs (ls.getD k []))]
set_option maxHeartbeats 2000000 in
theorem zbU (n:Nat) (hn:1≤n) (l q:Nat) (E:Nat→Prop) (hq:E q) (ls:List Txt) (a:Option Addr) (c N:Nat) (hN:ls.length≤N) (hl:ls.length≤1000000) (J Jx:List Nat→World→Prop) (W:World)
 (hY:∀pre x W1,J pre W1→pre.length<N→YieldAt Fence.wide (n-1) Tryz.prog l (bkC ls x) W1 fun e W'=>
  (e=.returned (.bool true)∧J (pre++[x]) W'∧ec E W1 W')∨(e=.returned (.bool false)∧Jx (pre++[x]) W'))
 (hc:W.cell? ⟨q,0,none⟩=some (.slice a ls.length c)) (hr:∀k,k<ls.length→∃b o,a=some ⟨b,o,none⟩∧E b∧∀j (hj:j<ls.length),W.cell? ⟨b,o+j,none⟩=some (.string (bs ls[j]))) (h0:J [] W):
 CallsIn Fence.wide n Tryz.prog 320 #[.func (.yield l) #[] #[],.pointer (some ⟨q,0,none⟩)] W fun e W'=>(∃v,e=.returned v)∧((∃ys,ys=bk ls.length 0∧J ys W')∨(∃pre,True∧Jx pre W')):=by
 have HR:=hid hr
 clear hr
 refine callsIn_of_wp Tryz.func320 rfl trivial ?_ rfl
 simp only[Tryz.ntmps320,List.size_toArray,List.length_cons,List.length_nil,Nat.reduceAdd,Nat.reduceSub,Array.replicate_succ,Array.replicate_zero,List.push_toArray,List.append_toArray,List.nil_append,List.cons_append]
 gi_wp2
 gi_loopw [3] (fun i wr=>∃k:Nat,k≤ls.length∧i=.int .i64 ((k:Int)-1)∧J (bk ls.length k) wr∧ec E W wr) (fun i _=>(intOf i+1).toNat)
 case atStart=>exact⟨ls.length,Nat.le_refl _,rfl,by rw[vS];exact h0,fun k _=>rfl⟩
 case round=>
  obtain⟨k,hk,rfl,hj,hke⟩:=hrel
  have HK:=hid hke
  have hcq:wr.cell? ⟨q,0,none⟩=some (.slice a ls.length c):=(World.cell?_of_block (hke q hq)).trans hc
  clear hke
  match k,hk with
  |0,_=>
   gi_wp2
   go_end0
   exact⟨⟨_,rfl⟩,.inl ⟨_,rfl,hj⟩⟩
  |k+1,hk=>
   obtain⟨b,o,rfl,hb,aX⟩:=HR.out k (by omega)
   have L0:wr.cell? ⟨b,o+k,none⟩=some (.string (bs ls[k])):=(World.cell?_of_block (HK.out b hb)).trans (aX k (by omega))
   have hst:=rL ls.length k (by omega)
   have hpl:(bk ls.length (k+1)).length<N:=by rw[zgB];omega
   obtain⟨fn,tmps,assign,body,hy,hR⟩:=hY (bk ls.length (k+1)) k wr hj hpl
   unfold bkC at hy
   rw[js ls [] k (by omega)] at hy
   have HS:=hid hst
   clear aX hst
   generalize ls[k]=x at *
   gi_wp2_with fail
   refine hR.mono ?_
   rintro e W' (⟨rfl,hj',hk'⟩|⟨rfl,hjx⟩)
   ·have HE:=hid (show ec E W W' from fun j ej=>(hk' j ej).trans (HK.out j ej))
    clear hk'
    gi_wp2
    refine⟨⟨k,by omega,by go_num,?_,HE.out⟩,by simp[intOf]⟩
    rw[HS.out]
    exact hj'
   ·gi_wp2
    refine bodyPost_ret (results_none rfl _ _ _) rfl ?_
    exact⟨⟨_,rfl⟩,.inr ⟨_,trivial,hjx⟩⟩
theorem xM (n:Nat) (hn:1≤n) (q:Nat) (E:Nat→Prop) (hq:E q) (ls:List Txt) (a:Option Addr) (c:Nat) (hl:ls.length≤1000000) (w:World)
 (hc:w.cell? ⟨q,0,none⟩=some (.slice a ls.length c)) (hr:∀k,k<ls.length→∃b o,a=some ⟨b,o,none⟩∧E b∧∀j (hj:j<ls.length),w.cell? ⟨b,o+j,none⟩=some (.string (bs ls[j]))):
 SeqStopsK Fence.wide n Tryz.prog 320 #[.pointer (some ⟨q,0,none⟩)] (bkC ls) (ec E) (fun xs=>xs=bk ls.length 0) (fun _=>True) ls.length w:=by
 intro l J Jx W hb _ _ hY h0
 refine(zbU n hn l q E hq ls a c ls.length (Nat.le_refl _) hl J Jx W hY ?_ ?_ h0).mono ?_
 ·exact Below.keeps hb hc
 ·intro k hk
  obtain⟨b,o,h1,h2,h3⟩:=hr k hk
  exact⟨b,o,h1,h2,fun j hj=>Below.keeps hb (h3 j hj)⟩
 ·rintro e W' ⟨h1,h2⟩
  exact⟨h1,h2⟩
section
variable {A W:World} {row:Option Nat} (hg:A.grownBy W row) (hr:∀x,row=some x→∃o:Obj,A.heap[x]?=some o∧o.isCells=false)
include hg hr
theorem sO {sz n:Nat} {v:Value} {cs:List Value} (h:ap A sz v n cs):ap W sz v n cs:=by
 obtain⟨hl,a,c,rfl,hc,hm,hn,hx⟩:=h
 refine⟨hl,a,c,rfl,hc,hm,hn,fun hne=>?_⟩
 obtain⟨b,off,rfl,aH,aX⟩:=hx hne
 exact⟨b,off,rfl,Nat.lt_of_lt_of_le aH hg.size,fun j u hu=>cell_kept (aX j u hu) hg hr⟩
theorem lR {k:Nat} {cs:Array Value} {t:TypeId} {fr:Nat×Nat} (h:A.heap[k]?=some (.cells cs t fr)):W.heap[k]?=some (.cells cs t fr):=(grownBy_keeps_cells hg hr h rfl).trans h
theorem wA {B e sz n:Nat} {v:Value} {xs:List Value} (h:A.ownsRow B e sz v n xs):W.ownsRow B e sz v n xs:=by
 obtain⟨hl,h0|⟨g,cap,cur,hv,hb,hh,r⟩⟩:=h
 ·exact⟨hl,.inl h0⟩
 ·exact⟨hl,.inr ⟨g,cap,cur,hv,hb,lR hg hr hh,r⟩⟩
theorem aI.grown {D:Nat→Prop} {b:Nat} {v:Value} (h:aI D A b v):aI D W b v:=⟨Nat.lt_of_lt_of_le h.1 hg.size,h.2.1,cell_kept h.2.2 hg hr⟩
theorem dm.grown {D:Nat→Prop} {g mb:Nat} {word:Txt} {t:cR} {v:Value} (h:dm D g mb word A t v):dm D g mb word W t v:=by
 cases t with
 |read=>
  obtain⟨b1,b2,rfl,h1,h2⟩:=h
  exact⟨b1,b2,rfl,h1.grown hg hr,h2.grown hg hr⟩
 |try_=>
  obtain⟨b1,rfl,h1⟩:=h
  exact⟨b1,rfl,h1.grown hg hr⟩
 |scan=>
  obtain⟨b1,b2,b3,b4,b5,rfl,h1,h2,h3,h4,h5⟩:=h
  exact⟨b1,b2,b3,b4,b5,rfl,h1.grown hg hr,h2.grown hg hr,h3.grown hg hr,h4.grown hg hr,h5.grown hg hr⟩
theorem fH.grown {D:Nat→Prop} {g mb:Nat} {word:Txt} {t:gm} {v:Value} (h:fH D g mb word A t v):fH D g mb word W t v:=by
 cases t with
 |line s=>
  obtain⟨b0,b1,b2,b3,rfl,h0,h1,h2,h3⟩:=h
  exact⟨b0,b1,b2,b3,rfl,h0.grown hg hr,h1.grown hg hr,h2.grown hg hr,h3.grown hg hr⟩
 |told p t=>
  obtain⟨b0,b1,b2,tv,rfl,h0,h1,h2,h3⟩:=h
  exact⟨b0,b1,b2,tv,rfl,h0.grown hg hr,h1.grown hg hr,h2.grown hg hr,h3.grown hg hr⟩
theorem dr.grown {B:Nat} {D:Nat→Prop} {g:Nat} {c:bS} {v:Value} (h:dr B D g A c v):dr B D g W c v:=by
 obtain⟨b0,b1,wv,rfl,h0,⟨h1,h2⟩,h3,h4,h5⟩:=h
 exact⟨b0,b1,wv,rfl,h0.grown hg hr,⟨h1,lR hg hr h2⟩,sO hg hr h3,fun k hk=>⟨(h4 k hk).1,Nat.lt_of_lt_of_le (h4 k hk).2 hg.size⟩,h5⟩
theorem aN.grown {B g km mb:Nat} {D:Nat→Prop} {env:List (Txt×Txt)} {r:aw} {tv ev:Value} {vs cs:List Value} (h:aN B D g env r A tv ev km mb vs cs) (hkm:row≠some km) (hmb:r.top.any fy=true→row≠some mb):aN B D g env r W tv ev km mb vs cs:=
 ⟨lR hg hr h.at_,wA hg hr h.row,h.top.imp fun _ _ k=>k.grown hg hr,h.cmd.imp fun _ _ k=>k.grown hg hr,sO hg hr h.env,fun k hk=>⟨(h.eno k hk).1,Nat.lt_of_lt_of_le (h.eno k hk).2 hg.size⟩,
  (hg.block km (lx (hid h.kn)) (fun e=>hkm e.symm)).trans h.kn,fun e=>⟨(hg.block mb (lx (hid (h.seen e).1)) (fun k=>hmb e k.symm)).trans (h.seen e).1,(h.seen e).2⟩,h.dg,h.dk,h.dt,fun k hk=>⟨(h.db k hk).1,Nat.lt_of_lt_of_le (h.db k hk).2 hg.size⟩,h.sm,h.eb⟩
end
end Go.Proofs.YtlbipokkdiiaiaaGreatDoor
namespace Go.Proofs.YtlbipokkdiiaiaaGreatDoor
open Go.RowKit Exec Go.Shelf
set_option maxRecDepth 100000
theorem iQ {w:World} {B g n:Nat} {v:Value} {xs:List Value} {cs:Array Value} (h:w.ownsRow B 1 1 v n xs) (hg:w.heap[g]?=some (.cells cs 323 (0,0))) (k:Nat) (hk:v.ownBlock=some k):k≠g:=fun e=>by
 subst e
 obtain⟨-,⟨h1, -⟩|⟨b,cap,cur,h1, -,h2, -⟩⟩:=h
 ·rw[h1] at hk;cases hk
 ·rw[h1] at hk
  have:b=k:=Option.some.inj hk
  subst this
  rw[hg] at h2
  have:=Option.some.inj h2
  simp at this
theorem we {w:World} {B m n:Nat} {v:Value} {xs:List Value} {es:Array MapEntry} {cl:Nat} (h:w.ownsRow B 1 1 v n xs) (hm:w.heap[m]?=some (.map es cl)) (k:Nat) (hk:v.ownBlock=some k):k≠m:=fun e=>by
 subst e
 obtain⟨-,⟨h1, -⟩|⟨b,cap,cur,h1, -,h2, -⟩⟩:=h
 ·rw[h1] at hk;cases hk
 ·rw[h1] at hk
  have:b=k:=Option.some.inj hk
  subst this
  rw[hm] at h2
  cases h2
theorem aN.push {B g km mb mb':Nat} {D:Nat→Prop} {env:List (Txt×Txt)} {r r':aw} {W1 W2:World} {tv ev v v':Value} {vs cs vs' cs':List Value} (h:aN B D g env r W1 tv ev km mb vs cs)
 (ho:W2.ownsRow B 1 1 v' (vs.length+cs.length+1) ((vs++cs).reverse++[v])) (hgr:W1.grownBy W2 tv.ownBlock) (hat:v'.ownBlock=tv.ownBlock∨v'.ownBlock=some W1.heap.size) (hvs:vs'++cs'=v::(vs++cs))
 (e1:r'.buffer=r.buffer∧r'.asks=r.asks∧r'.waits=r.waits∧r'.over=r.over∧r'.known=r.known) (hs:dp r')
 (hseen:r'.top.any fy=true→W1.heap[mb']?=some (dP r'.seen.reverse)∧D mb'∧mb'≠km)
 (htop:∀(W3:World) (D':Nat→Prop),az D W1 W3→(∀j,D' j→D j∨W1.heap.size≤j)→jB (fH D' g mb' r'.word W3) r'.top vs') (hcmd:∀(W3:World) (D':Nat→Prop),az D W1 W3→(∀j,D' j→D j∨W1.heap.size≤j)→jB (dr B D' g W3) r'.cmds cs'):
 ∃D':Nat→Prop,(∀j,D' j→D j∨W1.heap.size≤j)∧az D W1 (W2.setCell ⟨g,0,none⟩ v')∧aN B D' g env r' (W2.setCell ⟨g,0,none⟩ v') v' ev km mb' vs' cs':=by
 have hgne:=iQ h.row h.at_
 have hg2:W2.heap[g]?=some (.cells (iF tv ev km r).toArray 323 (0,0)):=(hgr.block g (lx (hid h.at_)) (fun e=>hgne g e.symm rfl)).trans h.at_
 obtain⟨n3,t3⟩:=au hg2 0 v'
 have hf2:az D W1 W2:=⟨hgr.os,hgr.tape,hgr.output,hgr.size,fun k hk hd=>hgr.block k hk (fun e=>hd (h.dt k e.symm))⟩
 have hf:az D W1 (W2.setCell ⟨g,0,none⟩ v'):=hf2.trans t3.foot fun i _ e=>e▸h.dg
 have hD:∀j,(D j∨v'.ownBlock=some j)→D j∨W1.heap.size≤j:=fun j hj=>by
  rcases hj with hj|hj
  ·exact .inl hj
  ·rcases hat with e|e
   ·exact .inl (h.dt j (e▸hj))
   ·rw[e] at hj
    have:=Option.some.inj hj
    exact .inr (by omega)
 generalize W2.setCell ⟨g,0,none⟩ v'=W3 at *
 have hkm2:W3.heap[km]?=some (knO r.known):=by
  have h1:W2.heap[km]?=some (knO r.known):=(hgr.block km (lx (hid h.kn)) (fun e=>we h.row h.kn km e.symm rfl)).trans h.kn
  exact(t3.foot.block km (lx (hid h1)) (fun e=>by rw[e,hg2] at h1;cases h1)).trans h1
 refine⟨fun j=>D j∨v'.ownBlock=some j,hD,hf,?_⟩
 exact
  {at_:=by
    rw[n3]
    obtain⟨a1,a2,a3,a4, -⟩:=e1
    unfold iF
    rw[a1,a2,a3,a4]
    rfl
   row:=by
    have hl:vs'.length+cs'.length=vs.length+cs.length+1:=by
     have:=congrArg List.length hvs
     simpa using this
    rw[hl,hvs,List.reverse_cons]
    exact aJ ho fun k hk=>t3.foot.block k (ho.lt k hk).2 (iQ ho hg2 k hk)
   top:=htop W3 _ hf hD
   cmd:=hcmd W3 _ hf hD
   env:=eP h.env hf.size fun k hk hl=>hf.block k hl (h.eno k hk).1
   eno:=fun k hk=>⟨fun e=>by
    rcases hD k e with e|e
    ·exact(h.eno k hk).1 e
    ·have:=(h.eno k hk).2;omega,Nat.lt_of_lt_of_le (h.eno k hk).2 hf.size⟩
   kn:=by rw[e1.2.2.2.2];exact hkm2
   seen:=fun e=>by
    obtain⟨s1,s2,s3⟩:=hseen e
    have h1:W2.heap[mb']?=some (dP r'.seen.reverse):=(hgr.block mb' (lx (hid s1)) (fun e=>we h.row s1 mb' e.symm rfl)).trans s1
    exact⟨(t3.foot.block mb' (lx (hid h1)) (fun e=>by rw[e,hg2] at h1;cases h1)).trans h1,.inl s2,s3⟩
   dg:=.inl h.dg
   dk:=.inl h.dk
   dt:=fun k hk=>.inr hk
   db:=fun k hk=>by
    rcases hk with hk|hk
    ·exact⟨(h.db k hk).1,Nat.lt_of_lt_of_le (h.db k hk).2 hf.size⟩
    ·exact⟨(ho.lt k hk).1,Nat.lt_of_lt_of_le (ho.lt k hk).2 t3.foot.size⟩
   sm:=hs
   eb:=h.eb}
theorem uI {W:World} {base g n:Nat} {v:Value} {l:List Value} (x:Value) (hx:x.oneCell'=true) (h:W.ownsRow base 1 1 v n l) (hg:W.heap[g]?=some (.cells #[x] 1 (0,0))) (hb:base≤W.heap.size) (hn:n≤1000000000000):
 ∃v' w',(∀ty,(Builtin.append_ #[319,319] ty #[v,.slice (some ⟨g,0,none⟩) 1 1]).run Tryz.prog W=.ok v' w')∧w'.ownsRow base 1 1 v' (n+1) (l++[x])∧W.grownBy w' v.ownBlock∧(v'.ownBlock=v.ownBlock∨v'.ownBlock=some W.heap.size):=by
 obtain⟨i0,z,hi,hz,hs,lS,hzs⟩:=cW (E:=1) (sz:=1) (by_:=8) (by kernel_rfl)
 have hsrc:∀j u,[x][j]?=some u→W.cell? ((⟨g,0,none⟩:Addr).add j)=some u:=fun j u hu=>by
  have:=af (cs:=[x]) hg j u hu
  rw[Addr.add_lit]
  exact this
 obtain⟨v',w',hr,ho,hgr, -,hat⟩:=run_append_own_at (P:=Tryz.prog) W base 319 0 1 i0 z 1 8 Tryz.underlying319 hi hz hs lS hzs (by decide) v n l h ⟨g,0,none⟩ 1 1 [x] rfl hsrc (fun u hu=>by rw[List.mem_singleton.1 hu];exact hx) (by unfold maxLen;omega) (by omega) hb
 exact⟨v',w',fun ty=>hr,ho,hgr,hat⟩
variable {F:Fence} {n:Nat} {P:Program}
theorem fI {α:Type} {g:Operand} {ps:Array Tmp} {assign body:Code} {Q:Exit→Act→World→Prop} {a:Act} {w:World}
 (hro:F.round=none) (h1:1≤n) {gf:Nat} {lb:Array Value} (hg:a.eval g=.func (.func gf) #[] lb) (hFg:F.fn gf) (eg:∀args w,(callFunc gf args).run P w=.ok (.enter gf args) w)
 {encs:α→Array Value} {Kp:World→World→Prop} {S Sp:List α→Prop} {N:Nat} (hseq:SeqStopsK F (n-1) P gf lb encs Kp S Sp N w)
 (hKt:∀{A B C:World},Kp A B→Kp B C→Kp A C) (hKp:∀(W:World) (l:Nat) (o':Obj),w.heap.size≤l→Kp W (W.putObj l o')) (hps:∀x,(encs x).size=ps.size)
 (I:List α→World→Prop) (Ix:Code→List α→World→Prop) (Ia:List α→α→Act→World→Prop) (hI:OwnFrom w.heap.size I) (hIx:∀c,OwnFrom w.heap.size (Ix c)) (hIa:∀pre x a',OwnFrom w.heap.size (fun(_:Unit) W=>Ia pre x a' W)) (h0:I [] w)
 (hround:∀(l:Nat) (pre:List α) (x:α) (W:World),I pre W→pre.length<N→
  assign.wpIn (F.inRound l) (n-1-1) P (Exit.then (fun a' W'=>KeepsFrom w.heap.size W W'∧Kp W W'∧Ia pre x a' W') (fun _ _ _=>False)) {tmps:=(ps.zip (encs x)).foldl (fun t (p,v)=>t.setIfInBounds p v) a.tmps,defers:=[]} W)
 (hbody:∀(l:Nat) (pre:List α) (x:α) (a':Act) (W:World),Ia pre x a' W→pre.length<N→body.wpIn (F.inRound l) (n-1-1) P (ownPostG w.heap.size Kp I Ix (pre++[x]) W) a' W)
 (hdone:∀(D:Nat) (xs:List α) (W:World),w.heap.size≤D→S xs→I xs W→W.heap[D]?=some (.deferred (some []))→Q .normal {a with defers:={target:=.collected D,args:=#[]}::a.defers} W)
 (hstop:∀(D:Nat) (c:Code) (pre:List α) (W:World),w.heap.size≤D→Sp pre→Ix c pre W→W.heap[D]?=some (.deferred (some []))→c.wpIn F n P Q {a with defers:={target:=.collected D,args:=#[]}::a.defers} W):
 (Code.rangeFunc g ps assign body).wpIn F n P Q a w:=by
 refine wpIn_rangeFunc fun fn hfn=>?_
 rw[hro]
 obtain⟨rec,hrec⟩:∃rec:LoopState→Option Code→Loop,rec=fun st pe=>{state:=st,pending:=pe,fn,tmps:=a.tmps,params:=ps,assign,body,defers:=w.heap.size}:=⟨_,rfl⟩
 obtain⟨W1,hW1⟩:∃W1,(w.alloc (.deferred (some []))).alloc (.loop (rec .ready none))=W1:=⟨_,rfl⟩
 have hbelow:Below w.heap.size w W1:=by rw[←hW1];exact((Below.refl _ w).alloc (Nat.le_refl _) _).alloc (by simp) _
 have hL1:W1.heap[w.heap.size+1]?=some (.loop (rec .ready none)):=by
  have:=World.alloc_heap_new (w.alloc (.deferred (some []))) (.loop (rec .ready none))
  rw[World.size_alloc] at this
  rw[←hW1];exact this
 have hD1:W1.heap[w.heap.size]?=some (.deferred (some [])):=by
  rw[←hW1];exact(Below.heap_alloc _ _ _ (by simp)).trans (World.alloc_heap_new w _)
 have hI1:I [] W1:=by rw[←hW1];exact hI.alloc _ (hI.alloc _ h0)
 have hsize1:w.heap.size+2≤W1.heap.size:=by rw[←hW1];simp
 refine⟨w.heap.size+1,[{target:=.collected w.heap.size,args:=#[]}],W1,{target:=.fn (.func gf) lb,args:=#[.func (.yield (w.heap.size+1)) #[] #[]]},W1,gf,
  #[.func (.yield (w.heap.size+1)) #[] #[]]++lb,W1,?_,?_,?_,?_,fun _=>h1,?_⟩
 ·rw[←hW1,hrec];exact run_enterLoop_outer _ _ _ _ _
 ·simp only[resolve,hg];simp[go_sem]
 ·intro f' hf';simp[Target.leads] at hf';subst hf';exact hFg
 ·simp[invoke,go_sem,eg]
 have far:∀{A:World} {row:Option Nat},(∀r,row=some r→W1.heap.size≤r∧∃o:Obj,A.heap[r]?=some o∧o.isWalk=true)→∀r,row=some r→w.heap.size≤r∧∃o:Obj,A.heap[r]?=some o∧o.isCells=false:=
  fun hr r e=>by obtain⟨hB,o,ho,hw⟩:=hr r e;exact⟨by omega,o,ho,Obj.not_cells_of_walk hw⟩
 have kept:∀{A B:World} {row:Option Nat} {k:Nat} {o:Obj},A.grownBy B row→(∀r,row=some r→W1.heap.size≤r∧∃o:Obj,A.heap[r]?=some o∧o.isWalk=true)→A.heap[k]?=some o→o.isWalk=false→B.heap[k]?=some o:=
  fun hg' hr hk ho=>(grownBy_keeps hg' (fun r e=>(hr r e).2) hk ho).trans hk
 refine(hseq (w.heap.size+1)
  (fun pre W=>I pre W∧W.heap[w.heap.size+1]?=some (.loop (rec .ready none))∧W.heap[w.heap.size]?=some (.deferred (some [])))
  (fun pre W=>∃c,Ix c pre W∧W.heap[w.heap.size+1]?=some (.loop (rec .done (some c)))∧W.heap[w.heap.size]?=some (.deferred (some [])))
  W1 hbelow
  (fun s A B row hs hg' hr=>⟨hI s A B row hs.1 hg' (far hr),kept hg' hr hs.2.1 rfl,kept hg' hr hs.2.2 rfl⟩)
  (fun s A B row hs hg' hr=>by obtain⟨c,hc,hl,hk⟩:=hs;exact⟨c,hIx c s A B row hc hg' (far hr),kept hg' hr hl rfl,kept hg' hr hk rfl⟩)
  ?_ ⟨hI1,hL1,hD1⟩).mono ?_
 ·
  rintro pre x W0 ⟨hi',hl0,hk0⟩ hpl
  have hy:=run_yield (P:=P) (args:=encs x) hl0 (by rw[hrec];exact hps x)
  rw[hrec] at hy
  refine⟨fn,_,assign,body,hy,roundIn_of_wpIn hfn (wpIn_mono (hround _ pre x W0 hi' hpl) ?_)⟩
  intro ea a' W hpa
  cases ea with
  |ret=>exact hpa.elim
  |exit id=>exact hpa.elim
  |goto t=>exact hpa.elim
  |panic ch=>exact hpa.elim
  |outgrown=>exact hpa.elim
  |normal=>
  obtain⟨hkA,hkpA,hia⟩:=hpa
  have hl:=hkA.same _ _ (by omega) hl0 rfl
  have hk:=hkA.same _ _ (Nat.le_refl _) hk0 rfl
  have aH:w.heap.size+1<W.heap.size:=(Array.getElem?_eq_some_iff.1 hl).1
  refine⟨_,run_beginRound hl (by rw[hrec]),?_⟩
  have hl2:(W.putObj (w.heap.size+1) (.loop {rec .ready none with state:=.busy})).heap[w.heap.size+1]?=some (.loop {rec .ready none with state:=.busy}):=World.putObj_heap_same aH
  have hk2:(W.putObj (w.heap.size+1) (.loop {rec .ready none with state:=.busy})).heap[w.heap.size]?=some (.deferred (some [])):=(World.putObj_heap_other (by omega)).trans hk
  refine wpIn_mono (hbody _ pre x a' _ ((hIa pre x a').putObj (s:=()) _ hia (by omega) hl rfl) hpl) ?_
  have fin:∀(jump:Option Code) (W3:World),KeepsFrom w.heap.size (W.putObj (w.heap.size+1) (.loop {rec .ready none with state:=.busy})) W3→
   (Instr.endRound (w.heap.size+1) jump).run P W3=.ok (.bool jump.isNone) (W3.putObj (w.heap.size+1) (.loop (rec (if jump.isNone then .ready else .done) jump)))∧
   W3.heap[w.heap.size+1]?=some (.loop {rec .ready none with state:=.busy})∧
   (W3.putObj (w.heap.size+1) (.loop (rec (if jump.isNone then .ready else .done) jump))).heap[w.heap.size+1]?=some (.loop (rec (if jump.isNone then .ready else .done) jump))∧
   (W3.putObj (w.heap.size+1) (.loop (rec (if jump.isNone then .ready else .done) jump))).heap[w.heap.size]?=some (.deferred (some [])):=by
   intro jump W3 hk3
   have hl3:=hk3.same _ _ (by omega) hl2 rfl
   have hend:=run_endRound (P:=P) jump hl3
   rw[hrec] at hend ⊢
   exact⟨hend,by rw[hrec] at hl3;exact hl3,World.putObj_heap_same (Array.getElem?_eq_some_iff.1 hl3).1,(World.putObj_heap_other (by omega)).trans (hk3.same _ _ (Nat.le_refl _) hk2 rfl)⟩
  have leave:∀(c:Code) (W3:World),KeepsFrom w.heap.size (W.putObj (w.heap.size+1) (.loop {rec .ready none with state:=.busy})) W3→Ix c (pre++[x]) W3→
   (Instr.endRound (w.heap.size+1) (some c)).run P W3=.ok (.bool false) (W3.putObj (w.heap.size+1) (.loop (rec .done (some c))))∧
   (∃c',Ix c' (pre++[x]) (W3.putObj (w.heap.size+1) (.loop (rec .done (some c))))∧(W3.putObj (w.heap.size+1) (.loop (rec .done (some c)))).heap[w.heap.size+1]?=some (.loop (rec .done (some c')))∧
    (W3.putObj (w.heap.size+1) (.loop (rec .done (some c)))).heap[w.heap.size]?=some (.deferred (some []))):=by
   intro c W3 hk3 hx3
   obtain⟨hr,hl3,hl4,hk4⟩:=fin (some c) W3 hk3
   exact⟨hr,c,(hIx c).putObj _ hx3 (by omega) hl3 rfl,hl4,hk4⟩
  rintro e a3 W3 hp
  cases e with
  |normal=>
   obtain⟨hk3,hkp3,hi3⟩:=hp
   obtain⟨hr,hl3,hl4,hk4⟩:=fin none W3 hk3
   exact⟨_,_,hr,.inl ⟨rfl,⟨hI.putObj _ hi3 (by omega) hl3 rfl,hl4,hk4⟩,hKt hkpA (hKt (hKt (hKp W _ _ (by omega)) hkp3) (hKp W3 _ _ (by omega)))⟩⟩
  |ret=>obtain⟨hr,hx⟩:=leave .ret W3 hp.1 hp.2;exact⟨_,_,hr,.inr ⟨rfl,hx⟩⟩
  |exit id=>obtain⟨hr,hx⟩:=leave (.exit id) W3 hp.1 hp.2;exact⟨_,_,hr,.inr ⟨rfl,hx⟩⟩
  |goto t=>obtain⟨hr,hx⟩:=leave (.goto t) W3 hp.1 hp.2;exact⟨_,_,hr,.inr ⟨rfl,hx⟩⟩
  |panic ch=>exact hp.elim
  |outgrown=>exact hp.elim
 ·
  rintro e W2 ⟨⟨v,rfl⟩,(⟨xs,hS,hi',hl,hk⟩|⟨pre,hSp,c,hi',hl,hk⟩)⟩
  ·have hend:=run_endLoop (P:=P) hl (by rw[hrec];simp)
   rw[hrec] at hend
   exact⟨none,_,hend,hdone _ xs _ (Nat.le_refl _) hS (hI.putObj _ hi' (by omega) hl rfl) ((World.putObj_heap_other (by omega)).trans hk)⟩
  ·have hend:=run_endLoop (P:=P) hl (by rw[hrec];simp)
   rw[hrec] at hend
   exact⟨some c,_,hend,hstop _ c pre _ (Nat.le_refl _) hSp ((hIx c).putObj _ hi' (by omega) hl rfl) ((World.putObj_heap_other (by omega)).trans hk)⟩
theorem eM {α:Type} {g:Operand} {ps:Array Tmp} {assign body:Code} {Q:Exit→Act→World→Prop} {a:Act} {w:World}
 (hro:F.round=none) (h1:1≤n) {gf:Nat} {lb:Array Value} (hg:a.eval g=.func (.func gf) #[] lb) (hFg:F.fn gf) (eg:∀args w,(callFunc gf args).run P w=.ok (.enter gf args) w)
 {encs:α→Array Value} {Kp:World→World→Prop} {S Sp:List α→Prop} {N:Nat} (hseq:SeqStopsK F (n-1) P gf lb encs Kp S Sp N w)
 (hKt:∀{A B C:World},Kp A B→Kp B C→Kp A C) (hKp:∀(W:World) (l:Nat) (o':Obj),w.heap.size≤l→Kp W (W.putObj l o')) (hps:∀x,(encs x).size=ps.size)
 (I:List α→World→Prop) (Ix:Code→List α→World→Prop) (Ia:List α→α→Act→World→Prop) (hI:OwnFrom w.heap.size I) (hIx:∀c,OwnFrom w.heap.size (Ix c)) (hIa:∀pre x a',OwnFrom w.heap.size (fun(_:Unit) W=>Ia pre x a' W)) (h0:I [] w)
 (hround:∀(l:Nat) (pre:List α) (x:α) (W:World),I pre W→pre.length<N→
  assign.wpIn (F.inRound l) (n-1-1) P (Exit.then (fun a' W'=>KeepsOthers W W'∧Kp W W'∧Ia pre x a' W') (fun _ _ _=>False)) {tmps:=(ps.zip (encs x)).foldl (fun t (p,v)=>t.setIfInBounds p v) a.tmps,defers:=[]} W)
 (hbody:∀(l:Nat) (pre:List α) (x:α) (a':Act) (W:World),Ia pre x a' W→pre.length<N→body.wpIn (F.inRound l) (n-1-1) P (ownPostK Kp I Ix (pre++[x]) W) a' W)
 (hdone:∀(D:Nat) (xs:List α) (W:World),w.heap.size≤D→S xs→I xs W→W.heap[D]?=some (.deferred (some []))→Q .normal {a with defers:={target:=.collected D,args:=#[]}::a.defers} W)
 (hstop:∀(D:Nat) (c:Code) (pre:List α) (W:World),w.heap.size≤D→Sp pre→Ix c pre W→W.heap[D]?=some (.deferred (some []))→c.wpIn F n P Q {a with defers:={target:=.collected D,args:=#[]}::a.defers} W):
 (Code.rangeFunc g ps assign body).wpIn F n P Q a w:=
 fI hro h1 hg hFg eg hseq (fun h k=>hKt h k) hKp hps I Ix Ia hI hIx hIa h0 (fun l pre x W hi hl=>wpIn_mono (hround l pre x W hi hl) (fun e a' W' h=>by cases e<;>first|exact⟨h.1.from _,h.2⟩|exact h)) (fun l pre x a' W ha hl=>wpIn_mono (hbody l pre x a' W ha hl) ownPostG_of_ownPostK) hdone hstop
end Go.Proofs.YtlbipokkdiiaiaaGreatDoor
