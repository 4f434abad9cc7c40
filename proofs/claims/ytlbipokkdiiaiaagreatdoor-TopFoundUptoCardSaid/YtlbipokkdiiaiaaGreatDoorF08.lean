/- Lemmas for TopFoundUpto: W23, F7, Builder, RowRef, PackCore, RowCore, NumWalks, W35, W36, W37, W25, W26, W27, W28, W38, ShaTurn, ShaWord, ShaProg, ShaSpread. -/
import Derived.Test.YtlbipokkdiiaiaaGreatDoorF07
import Derived.Test.YtlbipokkdiiaiaaGreatDoorF06
import Derived.Test.YtlbipokkdiiaiaaGreatDoorF01
import Derived.Test.YtlbipokkdiiaiaaGreatDoorChecked
import Derived.Shelf.Strings.BuilderK
import Derived.Test.YtlbipokkdiiaiaaGreatDoorF05
import Derived.Shelf.Strconv.ErrVarParseInt
import Derived.Lib.ItoaLen
import Derived.Deep.DeepCutAuto
import Derived.Deep.QuietTactic
import Derived.Deep.AppendLies
import Derived.Deep.RegionWith
import Derived.Laws.Tables
import Derived.Laws.Rows
open List renaming setIfInBounds_toArray → sA, set_cons_zero → sB, set_cons_succ → sC
namespace Go.Proofs.YtlbipokkdiiaiaaGreatDoor
open Go.RowKit Exec
set_option maxRecDepth 100000
noncomputable def lM (t:TypeId):Option (Array Value×List (Nat×Nat)):=
 match Tryz.prog.info? t,Tryz.prog.underlying t with
 |some it,some (.struct fields)=>
  match it.zero,fields.toList.mapM (fun f=>(Tryz.prog.info? f.type).map fun i=>(f.offset,i.size)) with
  |some z,some places=>some (z.cells,places)
  |_,_=>none
 |_,_=>none
theorem zbt {t:TypeId} {Z:Array Value} {pl:List (Nat×Nat)} (h:lM t=some (Z,pl)) (parts:List (Nat×Value)):Tryz.prog.built t parts=Instr.fill (pl.toArray[·]?) Z parts:=by
 unfold lM at h
 unfold Program.built
 cases hi:Tryz.prog.info? t with
 |none=>simp[hi] at h
 |some it=>
  cases hu:Tryz.prog.underlying t with
  |none=>simp[hi,hu] at h
  |some d=>
   cases d<;>simp only[hi,hu,reduceCtorEq] at h
   rename_i fields
   cases hz:it.zero with
   |none=>simp[hz] at h
   |some z=>
    cases hm:fields.toList.mapM (fun f=>(Tryz.prog.info? f.type).map fun i=>(f.offset,i.size)) with
    |none=>simp[hz,hm] at h
    |some places=>
     simp only[hz,hm,Option.some.injEq,Prod.mk.injEq] at h
     obtain⟨rfl,rfl⟩:=h
     simp only[hz,hm]
theorem tK (A old C xs:List Value) (h:old.length=xs.length):
 (xs.toArray.zipIdx.foldl (fun cs (x:Value×Nat)=>cs.setIfInBounds (A.length+x.2) x.1) (A++old++C).toArray)=(A++xs++C).toArray:=by
 have hf:=Great.foldl_set A.length xs 0 (A++old++C).toArray
 have e:xs.toArray.zipIdx.foldl (fun cs (x:Value×Nat)=>cs.setIfInBounds (A.length+x.2) x.1) (A++old++C).toArray=(xs.zipIdx 0).foldl (fun cs (x:Value×Nat)=>cs.setIfInBounds (A.length+x.2) x.1) (A++old++C).toArray:=by
  rw[←Array.foldl_toList];simp
 rw[e]
 apply Array.ext_getElem?
 intro k
 rw[hf.2 k]
 simp only[Nat.add_zero,List.size_toArray,List.length_append,List.getElem?_toArray]
 by_cases h1:A.length≤k∧k<A.length+xs.length∧k<A.length+old.length+C.length
 ·rw[if_pos h1,List.append_assoc,List.getElem?_append_right h1.1,List.getElem?_append_left (by omega)]
 ·rw[if_neg h1]
  rcases Nat.lt_or_ge k A.length with h2|h2
  ·rw[List.append_assoc,List.append_assoc,List.getElem?_append_left h2,List.getElem?_append_left h2]
  ·rw[List.getElem?_append_right (by rw[List.length_append];omega),List.getElem?_append_right (by rw[List.length_append];omega),List.length_append,List.length_append,h]
theorem qU {place:Nat→Option (Nat×Nat)} {A old C xs:List Value} {i off size:Nat} {v:Value} {rest:List (Nat×Value)} (hp:place i=some (off,size)) (hv:v.cells=xs.toArray) (hs:xs.length=size) (hA:A.length=off) (ho:old.length=size):
 Instr.fill place (A++old++C).toArray ((i,v)::rest)=Instr.fill place (A++xs++C).toArray rest:=by
 subst hA hs
 have:=tK A old C xs ho
 rw[←this]
 conv=>lhs;unfold Instr.fill
 simp only[hp,hv,List.size_toArray,List.length_append]
 rw[if_neg (by simp;omega)]
theorem wg {o:Oper} {a:Act} {w:World} {t:TypeId} {ps:Array (Nat×Operand)} {parts:List (Nat×Value)} {cells:Array Value} (h:Tryz.prog.built t parts=some cells) (ho:o.op=.build t ps) (hp:(ps.map fun(i,x)=>(i,a.eval x))=parts.toArray):
 (execOp a.eval o).run Tryz.prog w=.ok (.value (.agg cells)) w:=by
 have hr:=run_build (P:=Tryz.prog) w t parts.toArray cells (by simpa using h)
 unfold execOp
 simp only[ho,hp,Sem.run_bind,hr,Result.andThen_ok,Sem.run_pure]
def pp (b:Nat):Value:=.pointer (some ⟨b,0,none⟩)
theorem zdi:cZ 328 2:=⟨_,Tryz.underlying328,rfl,by kernel_rfl⟩
theorem zch {c d:UInt8} (h:c≠d):((c.toNat:Int)==(d.toNat:Int))=false:=eqF (fun e=>h (UInt8.toNat_inj.1 (by omega)))
def gQ (x:bB×Value):List Value:=[x.2,.string (bs x.1.rest)]
structure gm (B:Nat) (w:World) (l:List Txt) (v:Value):Prop where
 at_:am w 1 v l.length (ac l)
 own:∀k,v.ownBlock=some k→B≤k∧k<w.heap.size
def zdw (B:Nat) (w:World):Option (Option bB)→Value→Bool→Prop
 |none,v,ok=>v=.pointer none∧ok=false
 |some none,v,ok=>v=.pointer none∧ok=true
 |some (some c),v,ok=>ok=true∧∃b wv,v=.pointer (some ⟨b,0,none⟩)∧B≤b∧w.heap[b]?=some (.cells (gQ (c,wv)).toArray 328 (0,0))∧gm B w c.words wv
theorem qo (s x:Txt) (l:List Txt) (h:bZ s=x::l):gO s=if x.headD 0=35 then some none else if x=eK then some (some ⟨[x],qg s⟩)
 else if(bR x).1≠(x::l).length∨(bR x).1=0∨(bR x).2=true∧dS (l.headD [])=false then none else some (some ⟨x::l,[]⟩):=by
 unfold gO
 rw[h]
theorem yX {w:World} {B n:Nat} {v:Value} {ls:List Txt} (h:w.ownsRow B 9 1 v n (ac ls)) (hn:ls.length≤1000001):∃a c,v=.slice a ls.length c∧am w 1 v ls.length (ac ls):=by
 have hl:=h.1
 simp only[ac,List.length_map,Nat.mul_one] at hl
 subst hl
 obtain⟨a,c,rfl⟩:∃a c,v=.slice a ls.length c:=by
  rcases h.2 with⟨rfl,h0⟩|⟨g,cap,cur,rfl,_⟩
  ·exact⟨none,0,by rw[h0]⟩
  ·exact⟨_,_,rfl⟩
 exact⟨a,c,rfl,am.of_owns h (by unfold maxLen;omega)⟩
theorem cp {w:World} {B n:Nat} {v:Value} {ls:List Txt} (h:w.ownsRow B 9 1 v n (ac ls)) (hn:ls.length≤1000001):∃a c,v=.slice a ls.length c∧ls.length≤c∧c≤9223372036854775807∧am w 1 (.slice a ls.length c) ls.length (ac ls)∧(∀k,(Value.slice a ls.length c).ownBlock=some k→B≤k∧k<w.heap.size)∧
 ∀k,k<ls.length→∃b o,a=some ⟨b,o,none⟩∧b<w.heap.size∧∀j (hj:j<ls.length),w.cell? ⟨b,o+j,none⟩=some (.string (bs ls[j])):=by
 obtain⟨a,c,rfl,hs⟩:=yX h hn
 obtain⟨-,va,vc,hv,hvc,hvm,hx⟩:=hs.str
 simp only[Value.slice.injEq] at hv
 obtain⟨rfl, -,rfl⟩:=hv
 exact⟨a,c,rfl,hvc,by unfold maxLen at hvm;omega,hs,fun k hk=>h.lt k hk,hx⟩
set_option maxHeartbeats 400000 in
theorem yO (s:Txt) (w:World) (hs:s.length≤1000000000):Calls Tryz.prog 280 #[.string (bs s)] w fun e w'=>e=.returned (.string (bs s))∧Below w.heap.size w w':=by
 have HC:=hid (Tryz.stringslite_Clone (bs s) w (by rw[bf];omega))
 go_enter Tryz.func280,Tryz.ntmps280
 go_wp2_with (go_at_call 311;refine(HC.out).mono ?_;rintro e w' ⟨rfl,hb⟩)
 go_ret
 exact⟨rfl,hb⟩
set_option maxHeartbeats 4000000 in
theorem zaG (s:Txt) (w:World) (hs:s.length≤1000000) (hm:bE w):
 Calls Tryz.prog 220 #[.string (bs s)] w fun e w'=>∃v ok,e=.returned (.tuple #[v,.bool ok])∧zdw w.heap.size w' (gO s) v ok∧Below w.heap.size w w':=by
 have HW:=hid (fG s w hs)
 have HM:=hid hm
 clear hm
 cases hl:bZ s with
 |nil=>
  have hr:gO s=some none:=by unfold gO;rw[hl]
  rw[hl] at HW
  rw[hr]
  go_enter Tryz.func220,Tryz.ntmps220
  go_wp2_with (go_at_call 279;refine(HW.out).mono ?_;rintro e w1 ⟨v,rfl,ho,hb⟩;obtain⟨a,c,rfl, -⟩:=cp ho (by simp))
  go_ret2
  exact⟨_,_,rfl,⟨rfl,rfl⟩,hb⟩
 |cons x l=>
  have hr:=qo s x l hl
  have hx:=fp s x (by rw[hl];exact List.mem_cons_self)
  have hll:(bZ s).length≤1000001:=by have:=qL s;omega
  rw[hl] at HW hll
  obtain⟨c0,x',rfl⟩:∃c0 x',x=c0::x':=by
   cases x with
   |nil=>exact absurd rfl hx.1
   |cons c0 x'=>exact⟨c0,x',rfl⟩
  have hhd:(c0::x').headD 0=c0:=rfl
  rw[hhd] at hr
  by_cases hc:c0=35
  ·subst hc
   rw[if_pos rfl] at hr
   rw[hr]
   go_enter Tryz.func220,Tryz.ntmps220
   go_upto_region 2 with(go_at_call 279;refine(HW.out).mono ?_;rintro e w1 ⟨v,rfl,ho,hb⟩;obtain⟨a,c,rfl,hvc,hvm, -, -,hxx⟩:=cp ho hll)
   obtain⟨b0,o0,rfl, -,aO⟩:=hxx 0 (Nat.succ_pos _)
   have k0:w1.cell? ⟨b0,o0,none⟩=some (.string (bs (35::x'))):=aO 0 (Nat.succ_pos _)
   have hb1:=hb
   clear hxx aO ho
   go_wp2_with fail
   go_ret2
   exact⟨_,_,rfl,⟨rfl,rfl⟩,hb1⟩
  ·have e35:((c0.toNat:Int)==35)=false:=zch hc
   rw[if_neg hc] at hr
   by_cases ht:(c0::x')=eK
   ·rw[if_pos ht] at hr
    rw[hr]
    have hs4:4≤s.length:=by have:=hx.2;rw[ht] at this;exact this
    unfold eK at ht
    obtain⟨rfl,rfl⟩:=List.cons.inj ht
    obtain⟨m,hm⟩:=HM.out
    obtain⟨i,hi,hi0,hi1⟩:∃i:Int,Lib.index s eK=i∧-1≤i∧i+4≤s.length:=by
     rcases qm eK (by decide) s with h|⟨i,h,hi⟩
     ·exact⟨-1,h,by omega,by omega⟩
     ·exact⟨i,h,by omega,by have:eK.length=4:=rfl
                            omega⟩
    obtain⟨j,hj⟩:∃j:Nat,i+4=j:=⟨(i+4).toNat,by omega⟩
    have hij:i=(j:Int)-4:=by omega
    subst hij
    have hrest:qg s=(s.drop j).tail:=by unfold qg;rw[hi,hj,List.drop_one];rfl
    rw[hrest]
    have hjl:j≤s.length:=by omega
    have HI:=hid (fun(W:World) (hw:W.cell? ⟨0,0,none⟩=some (.int .i64 m))=>show Calls Tryz.prog 185 #[.string (bs s),.string ⟨#[116,101,120,116]⟩] W fun e w'=>e=.returned (.int .i64 ((j:Int)-4))∧w'=W from hi▸Tryz.strings_Index (bs s) (bs eK) m W (by rw[bf];omega) hw)
    clear hi hj hrest hi0 hi1 hr
    go_enter Tryz.func220,Tryz.ntmps220
    go_upto_region 2 with(go_at_call 279;refine(HW.out).mono ?_;rintro e w1 ⟨v,rfl,ho,hb⟩;obtain⟨a,c,rfl,hvc,hvm,hsl,hown,hxx⟩:=cp ho hll)
    obtain⟨b0,o0,rfl,hb0,aO⟩:=hxx 0 (Nat.succ_pos _)
    have k0:w1.cell? ⟨b0,o0,none⟩=some (.string (bs [116,101,120,116])):=aO 0 (Nat.succ_pos _)
    have hm1:=Below.keeps hb hm
    have HOWN:=hid hown
    have HB:=hid hb
    have HX:=hid aO
    clear hsl hxx aO ho hown hb
    go_upto_region 6 with(go_at_call 185;refine(HI.out _ hm1).mono ?_;rintro e w2 ⟨rfl,rfl⟩)
    have hu:(s.drop j).take (s.length-j)=s.drop j:=List.take_of_length_le (by rw[List.length_drop];exact Nat.le_refl _)
    rw[hu]
    have hrl:(s.drop j).length≤s.length:=by rw[List.length_drop];omega
    obtain⟨r,hr⟩:∃r,s.drop j=r:=⟨_,rfl⟩
    rw[hr]
    rw[hr] at hrl
    have HR:=hid hr
    clear hu hr
    obtain⟨mn,hmin,hmn,hdr⟩:∃mn:Nat,min (1:Int) (r.length:Int)=(mn:Int)∧mn≤r.length∧(r.drop mn).take (r.length-mn)=r.drop 1:=by
     cases r with
     |nil=>exact⟨0,by decide,Nat.le_refl _,rfl⟩
     |cons a r=>exact⟨1,by simp;omega,by simp,by simp⟩
    have HDR:=hid hdr
    clear hdr
    have hc1:(1:Int)≤(c:Int):=by rw[List.length_cons] at hvc;omega
    go_wp2_with fail
    refine aD (fun W=>True) 11 (by kernel_rfl) ?_
    intro Wd hbd
    have hS:=trivial
    refine zeZ 0 (some 29) (hi:=rfl) (.inr hS) ?_
    apply Exists.intro
    refine⟨fun W=>?_,?_⟩
    ·go_simp
     try rfl
    try simp only[Act.put,sA,sB,sC]
    refine zeZ 1 (some 30) (hi:=rfl) (.inr hS) ?_
    apply Exists.intro
    refine⟨fun W=>?_,?_⟩
    ·go_simp
     try rfl
    try simp only[Act.put,sA,sB,sC]
    refine zeZ 2 (some 31) (hi:=rfl) (.inr hS) ?_
    apply Exists.intro
    refine⟨fun W=>?_,?_⟩
    ·go_simp
     try rfl
    try simp only[Act.put,sA,sB,sC]
    refine zeZ 3 (some 32) (hi:=rfl) (.inr hS) ?_
    apply Exists.intro
    refine⟨fun W=>?_,?_⟩
    ·go_simp
     try rfl
    try simp only[Act.put,sA,sB,sC]
    refine zeZ 4 (some 33) (hi:=rfl) (.inr hS) ?_
    apply Exists.intro
    refine⟨fun W=>?_,?_⟩
    ·go_simp
     try rfl
    try simp only[Act.put,sA,sB,sC]
    refine zeZ 5 (some 34) (hi:=rfl) (.inr hS) ?_
    apply Exists.intro
    refine⟨fun W=>?_,?_⟩
    ·go_simp
     try rfl
    try simp only[Act.put,sA,sB,sC]
    refine zeZ 6 (some 35) (hi:=rfl) (.inr hS) ?_
    apply Exists.intro
    refine⟨fun W=>?_,?_⟩
    ·go_simp
     try rfl
    try simp only[Act.put,sA,sB,sC]
    refine WL.o 7 (hi:=rfl) ?_
    intro K hK
    go_simp
    rw[HDR.out]
    refine(yO (r.drop 1) _ (by rw[List.length_drop];omega)).mono ?_
    rintro e W3 ⟨rfl,hb3⟩
    refine hK.out _ _ (.inr trivial) ?_
    clear hK K
    try simp only[Act.put,sA,sB,sC]
    refine zeZ 8 (some 37) (hi:=rfl) (.inr hS) ?_
    apply Exists.intro
    refine⟨fun W=>?_,?_⟩
    ·go_simp
     try rfl
    try simp only[Act.put,sA,sB,sC]
    refine WL.o 9 (hi:=rfl) ?_
    intro K hK
    go_simp
    refine hK.out _ _ (.inr trivial) ?_
    clear hK K
    try simp only[Act.put,sA,sB,sC]
    refine WL.o 10 (hi:=rfl) ?_
    intro K hK
    go_simp
    refine hK.out _ _ (.inr trivial) ?_
    clear hK K
    try simp only[Act.put,sA,sB,sC]
    refine WL.o 11 (hi:=rfl) ?_
    intro K hK
    go_simp
    refine hK.out _ _ (.inr trivial) ?_
    clear hK K
    try simp only[Act.put,sA,sB,sC]
    refine WL.d ?_
    go_wp2_with fail
    go_ret2
    have hb03:=Below.chain HB.out (Below.chain hbd hb3)
    have hn4:=heap_alloc_new W3 (.cells #[.slice (some ⟨b0,o0,none⟩) 1 c,.string (bs r.tail)] 328)
    have hb4:=ab W3 (.cells #[.slice (some ⟨b0,o0,none⟩) 1 c,.string (bs r.tail)] 328)
    have hz3:=(Below.chain hbd hb3).size
    have hz4:=hb4.size
    have kx:=Below.keeps (Below.chain (Below.chain hbd hb3) hb4) k0
    refine⟨_,_,rfl,⟨rfl,W3.heap.size,.slice (some ⟨b0,o0,none⟩) 1 c,rfl,hb03.size,?_,?_⟩,Below.chain hb03 hb4⟩
    ·rw[HR.out];exact hn4
    ·exact⟨⟨rfl,_,_,rfl,by rw[List.length_cons] at hvc;simp;omega,by unfold maxLen;omega,fun e=>(by cases e),fun _=>⟨b0,o0,rfl,by omega,fun q u hu=>by
      match q,hu with
      |0,hu=>rw[←Option.some.inj hu];exact kx⟩⟩,fun k hk=>⟨(HOWN.out k hk).1,by have:=(HOWN.out k hk).2;omega⟩⟩
   ·rw[if_neg ht] at hr
    have et:(c0::x'==eK)=false:=beq_eq_false_iff_ne.2 ht
    have HT:=hid (fun(W:World)=>yg (c0::x') W)
    obtain⟨tn,tp,htk⟩:∃tn tp,bR (c0::x')=(tn,tp):=⟨_,_,rfl⟩
    rw[htk] at hr
    rw[htk] at HT
    simp only at hr HT
    have htn:tn≤3∧(tp=true→2≤tn):=by
     have h:(bR (c0::x')).1≤3∧((bR (c0::x')).2=true→2≤(bR (c0::x')).1):=by
      unfold bR
      split
      ·decide
      ·split
       ·decide
       ·split
        ·decide
        ·split<;>decide
     rw[htk] at h
     exact h
    unfold eK at et
    clear ht htk
    by_cases hn:tn=l.length+1
    ·subst hn
     have en:(((l.length:Int)+1) !=(l.length:Int)+1)=false:=neF rfl
     have e0:(((l.length:Int)+1)==0)=false:=eqF (by omega)
     cases tp with
     |false=>
      rw[if_neg (by simp)] at hr
      rw[hr]
      clear hr
      go_enter Tryz.func220,Tryz.ntmps220
      go_upto_region 2 with(go_at_call 279;refine(HW.out).mono ?_;rintro e w1 ⟨v,rfl,ho,hb⟩;obtain⟨a,c,rfl,hvc,hvm,hsl,hown,hxx⟩:=cp ho hll)
      obtain⟨b0,o0,rfl,hb0,aO⟩:=hxx 0 (Nat.succ_pos _)
      have k0:w1.cell? ⟨b0,o0,none⟩=some (.string (bs (c0::x'))):=aO 0 (Nat.succ_pos _)
      have HOWN:=hid (And.intro hown hsl)
      have HB:=hid hb
      clear hsl hxx aO ho hown hb
      go_wp2_with first|(go_at_call 281;refine(HT.out _).mono ?_;rintro e w2 ⟨rfl,rfl⟩)
      go_ret2
      have hn4:=heap_alloc_new w2 (.cells #[.slice (some ⟨b0,o0,none⟩) (l.length+1) c,.string ⟨#[]⟩] 328)
      have hb4:=ab w2 (.cells #[.slice (some ⟨b0,o0,none⟩) (l.length+1) c,.string ⟨#[]⟩] 328)
      exact⟨_,_,rfl,⟨rfl,w2.heap.size,.slice (some ⟨b0,o0,none⟩) (l.length+1) c,rfl,HB.out.size,hn4,⟨HOWN.out.2.below (Below.chain (Below.refl _ _) hb4) (Nat.le_refl _),fun k hk=>⟨(HOWN.out.1 k hk).1,by have:=(HOWN.out.1 k hk).2;have:=hb4.size;omega⟩⟩⟩,Below.chain HB.out hb4⟩
     |true=>
      obtain⟨y,l',rfl⟩:∃y l',l=y::l':=by
       cases l with
       |nil=>exact absurd (htn.2 rfl) (by simp)
       |cons y l'=>exact⟨y,l',rfl⟩
      have hyl:y.length≤1000000:=by have:=(fp s y (by rw[hl];simp)).2;omega
      cases hmy:dS y with
      |false=>
       rw[if_pos (.inr (.inr ⟨rfl,hmy⟩))] at hr
       rw[hr]
       clear hr
       have HMY:=hid (fun(W:World)=>ja y (by omega) false hmy W)
       go_enter Tryz.func220,Tryz.ntmps220
       go_upto_region 2 with(go_at_call 279;refine(HW.out).mono ?_;rintro e w1 ⟨v,rfl,ho,hb⟩;obtain⟨a,c,rfl,hvc,hvm,hsl,hown,hxx⟩:=cp ho hll)
       obtain⟨b0,o0,rfl,hb0,aO⟩:=hxx 0 (Nat.succ_pos _)
       have k0:w1.cell? ⟨b0,o0,none⟩=some (.string (bs (c0::x'))):=aO 0 (Nat.succ_pos _)
       have HOWN:=hid (And.intro hown hsl)
       have HB:=hid hb
       have k1:w1.cell? ⟨b0,o0+1,none⟩=some (.string (bs y)):=aO 1 (by simp)
       clear hsl hxx aO ho hown hb
       go_wp2_with first|(go_at_call 281;refine(HT.out _).mono ?_;rintro e w2 ⟨rfl,rfl⟩)|(go_at_call 51;refine(HMY.out _).mono ?_;rintro e w3 ⟨rfl,hb3⟩)
       go_ret2
       exact⟨_,_,rfl,⟨rfl,rfl⟩,Below.chain HB.out hb3⟩
      |true=>
       rw[if_neg (by simp[hmy])] at hr
       rw[hr]
       clear hr
       have HMY:=hid (fun(W:World)=>ja y (by omega) true hmy W)
       go_enter Tryz.func220,Tryz.ntmps220
       go_upto_region 2 with(go_at_call 279;refine(HW.out).mono ?_;rintro e w1 ⟨v,rfl,ho,hb⟩;obtain⟨a,c,rfl,hvc,hvm,hsl,hown,hxx⟩:=cp ho hll)
       obtain⟨b0,o0,rfl,hb0,aO⟩:=hxx 0 (Nat.succ_pos _)
       have k0:w1.cell? ⟨b0,o0,none⟩=some (.string (bs (c0::x'))):=aO 0 (Nat.succ_pos _)
       have HOWN:=hid (And.intro hown hsl)
       have HB:=hid hb
       have k1:w1.cell? ⟨b0,o0+1,none⟩=some (.string (bs y)):=aO 1 (by simp)
       clear hsl hxx aO ho hown hb
       go_wp2_with first|(go_at_call 281;refine(HT.out _).mono ?_;rintro e w2 ⟨rfl,rfl⟩)|(go_at_call 51;refine(HMY.out _).mono ?_;rintro e w3 ⟨rfl,hb3⟩)
       go_ret2
       have hn4:=heap_alloc_new w3 (.cells #[.slice (some ⟨b0,o0,none⟩) ((y::l').length+1) c,.string ⟨#[]⟩] 328)
       have hb4:=ab w3 (.cells #[.slice (some ⟨b0,o0,none⟩) ((y::l').length+1) c,.string ⟨#[]⟩] 328)
       exact⟨_,_,rfl,⟨rfl,w3.heap.size,.slice (some ⟨b0,o0,none⟩) ((y::l').length+1) c,rfl,(Below.chain HB.out hb3).size,hn4,⟨HOWN.out.2.below (Below.chain hb3 hb4) (Nat.le_refl _),fun k hk=>⟨(HOWN.out.1 k hk).1,Nat.lt_of_lt_of_le (HOWN.out.1 k hk).2 (Below.chain hb3 hb4).size⟩⟩⟩,Below.chain (Below.chain HB.out hb3) hb4⟩
    ·have en:((tn:Int) !=(l.length:Int)+1)=true:=neT (by omega)
     rw[if_pos (.inl (by simp only[List.length_cons];exact hn))] at hr
     rw[hr]
     clear hr
     go_enter Tryz.func220,Tryz.ntmps220
     go_upto_region 2 with(go_at_call 279;refine(HW.out).mono ?_;rintro e w1 ⟨v,rfl,ho,hb⟩;obtain⟨a,c,rfl,hvc,hvm,hsl,hown,hxx⟩:=cp ho hll)
     obtain⟨b0,o0,rfl,hb0,aO⟩:=hxx 0 (Nat.succ_pos _)
     have k0:w1.cell? ⟨b0,o0,none⟩=some (.string (bs (c0::x'))):=aO 0 (Nat.succ_pos _)
     have HOWN:=hid (And.intro hown hsl)
     have HB:=hid hb
     clear hsl hxx aO ho hown hb
     go_wp2_with first|(go_at_call 281;refine(HT.out _).mono ?_;rintro e w2 ⟨rfl,rfl⟩)
     go_ret2
     exact⟨_,_,rfl,⟨rfl,rfl⟩,HB.out⟩
theorem kM:(Tryz.prog.info? 215).map (·.size)=some 2:=by kernel_rfl
theorem rj:liesAt Tryz.prog Tryz.prog.depth 215 (2/Tryz.prog.cellsOf 215) 0 215 1=true:=by kernel_rfl
theorem za:(Tryz.prog.info? 5).map (fun i=>(i.zero,i.size,i.bytes))=some (some (.int .u8 0),1,1):=by kernel_rfl
set_option maxHeartbeats 1000000 in
set_option maxRecDepth 100000 in
theorem oQ (b:Nat) (w:World) (h0:w.cell? ⟨b,0,none⟩=some (.pointer (some ⟨b,0,none⟩))):
 Calls Tryz.prog 151 #[.pointer (some ⟨b,0,none⟩)] w fun e w'=>e=.returned (.tuple #[])∧w'=w:=by
 obtain⟨j,hj,_⟩:=Option.map_eq_some_iff.1 kM
 go_enter Tryz.func151,Tryz.ntmps151
 go_wp2
 rw[Lib.run_neq_ptr_same w _ Tryz.underlying213 hj]
 go_wp2
 go_end0
 exact⟨rfl,rfl⟩
set_option maxHeartbeats 1000000 in
set_option maxRecDepth 100000 in
theorem mS (b:Nat) (w:World) (h0:w.cell? ⟨b,0,none⟩=some (.pointer none)) (hsh:w.shape? b=some (215,2)) (hfz:w.frozen? ⟨b,0,none⟩=false):
 Calls Tryz.prog 151 #[.pointer (some ⟨b,0,none⟩)] w fun e w'=>e=.returned (.tuple #[])∧w'=w.setCell ⟨b,0,none⟩ (.pointer (some ⟨b,0,none⟩)):=by
 obtain⟨j,hj,hjs⟩:=Option.map_eq_some_iff.1 kM
 go_enter Tryz.func151,Tryz.ntmps151
 go_wp2
 rw[Lib.run_to_unsafe w ⟨b,0,none⟩ Tryz.underlying213 Tryz.underlying316 hj (by rw[hjs];decide) hsh (Nat.zero_lt_succ 1)]
 simp only[Result.andThen]
 rw[Oper.upon_value]
 go_wp2
 rw[run_callFunc_extern Tryz.func191 (by kernel_rfl) (by kernel_rfl) (by kernel_rfl) (e:=Extern.AbiNoEscape.same) (by kernel_rfl)]
 rw[Lib.run_noEscape]
 simp only[Result.andThen]
 rw[Oper.upon_value]
 go_wp2
 rw[Lib.run_from_unsafe w ⟨b,0,none⟩ Tryz.underlying316 Tryz.underlying213 hj hsh rj]
 simp only[Result.andThen]
 rw[Oper.upon_value]
 go_wp2
 go_end0
 exact⟨rfl,rfl⟩
theorem pK (B b:Nat) (xs:List Value) (w:World) (h:Lib.IsBuilderF 215 5 B b xs w):
 Calls Tryz.prog 151 #[.pointer (some ⟨b,0,none⟩)] w fun e w'=>e=.returned (.tuple #[])∧(Lib.BuilderAtF 215 5 B b (.pointer (some ⟨b,0,none⟩)) xs w'∧Below B w w'∧Lib.OthersKept 5 (some b) w w'):=by
 rcases h with h|h
 ·refine(mS b w h.cell0 h.shape h.frozen0).mono ?_
  rintro e w' ⟨rfl,rfl⟩
  exact⟨rfl,h.used _,(Below.refl B w).setCell (p:=⟨b,0,none⟩) h.1 _,(Lib.OthersKept.refl _ _ w).setCell ⟨b,0,none⟩ rfl _⟩
 ·refine(oQ b w h.cell0).mono ?_
  rintro e w' ⟨rfl,rfl⟩
  exact⟨rfl,h,Below.refl B _,Lib.OthersKept.refl _ _ _⟩
set_option maxHeartbeats 1000000 in
set_option maxRecDepth 100000 in
theorem mQ (B b:Nat) (xs:List Value) (s:ByteArray) (w:World) (h:Lib.IsBuilderF 215 5 B b xs w) (bY:xs.length+s.size≤140737488355328) (hBw:B≤w.heap.size):
 Calls Tryz.prog 101 #[.pointer (some ⟨b,0,none⟩),.string s] w fun e w'=>e=.returned (.tuple #[.int .i64 s.size,.nilIface])∧(Lib.IsBuilderF 215 5 B b (xs++Lib.strCells s) w'∧Below B w w'∧Lib.OthersKept 5 (some b) w w'):=by
 obtain⟨i0,hi,hz0,hz1,hz2⟩:=info_parts za
 go_enter Tryz.func101,Tryz.ntmps101
 go_wp2_with (go_at_call 151;refine(pK B b xs _ h).mono ?_)
 rintro e w1 ⟨rfl,h1,hb1,hk1⟩
 obtain⟨hB,v,hbk,hown,hne⟩:=h1
 have c0:w1.cell? ⟨b,0,none⟩=some (.pointer (some ⟨b,0,none⟩)):=by rw[Lib.cell_of_heap hbk];rfl
 have c1:w1.cell? ⟨b,1,none⟩=some v:=by rw[Lib.cell_of_heap hbk];rfl
 go_wp2_with (at_builtin;refine Lib.wpList_append_own_stringF _ rfl _ _ 49 9 rfl B 5 i0 Tryz.underlying49 Tryz.underlying9 hi hz0 hz1 hz2 _ _ _ rfl hown s rfl ?c3 ?c4 ?c5 ?_)
 case c3=>unfold maxLen;omega
 case c4=>omega
 case c5=>have:=hb1.size;omega
 intro v' w2 hown' hgrow _
 have aK:b<w1.heap.size:=by
  rcases Nat.lt_or_ge b w1.heap.size with h'|h'
  ·exact h'
  ·simp[Array.getElem?_eq_none h'] at hbk
 have hb2:w2.heap[b]?=some (.cells #[.pointer (some ⟨b,0,none⟩),v] 215 (0,0)):=by
  rw[hgrow.block b aK (fun e=>hne e.symm)]
  exact hbk
 have d0:w2.cell? ⟨b,0,none⟩=some (.pointer (some ⟨b,0,none⟩)):=by rw[Lib.cell_of_heap hb2];rfl
 have d1:w2.cell? ⟨b,1,none⟩=some v:=by rw[Lib.cell_of_heap hb2];rfl
 have f1:w2.frozen? ⟨b,1,none⟩=false:=Lib.frozen_of_heap hb2 1
 obtain⟨ao,n',cap,rfl⟩:∃ao n' cap,v'=.slice ao n' cap:=by
  rcases hown'.2 with⟨hv,_⟩|⟨g,cap,cur,fz,hv,_⟩
  ·exact⟨_,_,_,hv⟩
  ·exact⟨_,_,_,hv⟩
 go_wp2
 go_ret2
 refine⟨rfl,.inr ?_,?_,(hk1.grown hgrow (Lib.ownsRowF_kind hown)).setCell ⟨b,1,none⟩ rfl _⟩
 ·exact Lib.BuilderAtF.put (T:=215) (e:=5) hB hb2 (bs':=xs++Lib.strCells s) (by simpa[Lib.strCells_length] using hown') (by decide)
 ·exact(hb1.grown hgrow (by have:=hb1.size;omega) (fun k hk=>(hown.lt k hk).1)).setCell (p:=⟨b,1,none⟩) hB _
theorem mc (l r:List UInt8):Lib.byteCells (l++r)=Lib.byteCells l++Lib.byteCells r:=by simp[Lib.byteCells]
theorem p8 (l:List UInt8):Lib.strCells (bs l)=Lib.byteCells l:=by
 simp[Lib.strCells,Lib.byteCells,bs]
theorem pS (B b:Nat) (l r:List UInt8) (w:World) (h:Lib.IsBuilderF 215 5 B b (Lib.byteCells l) w) (bY:l.length+r.length≤140737488355328) (hBw:B≤w.heap.size):
 Calls Tryz.prog 101 #[.pointer (some ⟨b,0,none⟩),.string (bs r)] w fun e w'=>e=.returned (.tuple #[.int .i64 r.length,.nilIface])∧(Lib.IsBuilderF 215 5 B b (Lib.byteCells (l++r)) w'∧Below B w w'∧Lib.OthersKept 5 (some b) w w'):=by
 have:=mQ B b (Lib.byteCells l) (bs r) w h (by simpa[Lib.byteCells,bf] using bY) hBw
 rw[mc];rw[p8] at this;exact this
theorem mM (w:World) (B:Nat) (hB:B≤w.heap.size):Lib.IsBuilderF 215 5 B w.heap.size (Lib.byteCells []) (w.alloc (.cells #[.pointer none,.slice none 0 0] 215 (0,0))):=
 .inl ⟨hB,.slice none 0 0,heap_alloc_new w _,⟨by simp[Lib.byteCells],.inl ⟨rfl,by simp[Lib.byteCells]⟩⟩,by simp[Value.ownBlock]⟩
theorem var?_kept {P:Program} {w w':World} {n:String} {cs:Array Value} (hv:w.var? P n=some cs) (hb:Below w.heap.size w w'):w'.var? P n=some cs:=by
 unfold World.var? at hv ⊢
 cases hg:P.globalNamed n with
 |none=>simp[hg] at hv
 |some g=>
  simp only[hg,Option.bind_some] at hv ⊢
  by_cases aK:g<w.heap.size
  ·rw[hb.block g aK];exact hv
  ·rw[Array.getElem?_eq_none (by omega)] at hv;simp at hv
theorem sc {P:Program} {w w':World} {n:String} {k:IntKind} {zs:List Int} (h:Lib.TabIs P w n k zs) (hb:Below w.heap.size w w'):Lib.TabIs P w' n k zs:=var?_kept h hb
theorem zaK (B b:Nat) (l:List UInt8) (w:World) (h:Lib.IsBuilderF 215 5 B b (Lib.byteCells l) w) (hBw:B≤w.heap.size):
 Calls Tryz.prog 104 #[.pointer (some ⟨b,0,none⟩)] w fun e w'=>e=.returned (.string (bs l))∧Lib.IsBuilderF 215 5 B b (Lib.byteCells l) w'∧Below B w w':=
 (Tryz.Builder_String_any_k B b l w h hBw).mono fun _ _ ⟨h1,h2,h3,_⟩=>⟨h1,h2,h3⟩
def eR (w:World):Prop:=Lib.TabIs Tryz.prog w "internal/strconv.uint64pow10" .u64 Lib.pow10Tab
theorem eR.below {w w':World} (h:eR w) (hb:Below w.heap.size w w'):eR w':=sc h hb
theorem vA (w:World) (k:Nat) (os:Array Obj):Below w.heap.size w (Go.Sort.grow (w.drewN k) os):=by
 refine⟨rfl,rfl,rfl,?_,fun i hi=>?_⟩
 ·simp[Go.Sort.grow,World.drewN]
 ·simp[Go.Sort.grow,World.drewN,Array.getElem?_append,hi]
theorem zG (n:Nat) (w:World) (hn:n≤9223372036854775807) (ht:eR w):
 Calls Tryz.prog 102 #[.int .i64 n] w fun e w'=>e=.returned (.string (bs (dig n)))∧Below w.heap.size w w':=by
 refine(Tryz.strconv_Itoa n (by omega) (by omega) w ht).mono ?_
 rintro e w' ⟨rfl,k,os,rfl⟩
 exact⟨by rw[ow];rfl,vA w k os⟩
def uC (w:World):Prop:=(∃t p,w.var? Tryz.prog "strconv.ErrSyntax"=some #[.iface t p])∧∃t p,w.var? Tryz.prog "strconv.ErrRange"=some #[.iface t p]
theorem uC.below {w w':World} (h:uC w) (hb:Below w.heap.size w w'):uC w':=by
 obtain⟨⟨t,p,h1⟩,t2,p2,h2⟩:=h
 exact⟨⟨t,p,var?_kept h1 hb⟩,t2,p2,var?_kept h2 hb⟩
theorem oU {W:World} {b off cap:Nat} {l:List UInt8} (h:W.rangeAt b off (Lib.byteCells l)):(convert 49 9 (.slice (some ⟨b,off,none⟩) l.length cap)).run Tryz.prog W=.ok (.string (bs l)) W:=
 run_convert_bytes_back W 49 9 5 ⟨b,off,none⟩ cap l Tryz.underlying49 (by kernel_rfl) (by kernel_rfl) fun j hj=>by
  rw[Addr.add_lit]
  exact h j _ (by simp[Lib.byteCells,hj])
theorem bg {w w':World} {B base e sz n:Nat} {v:Value} {xs:List Value} (h:w.ownsRow base e sz v n xs) (hb:Below B w w') (hB:w.heap.size≤B):w'.ownsRow base e sz v n xs:=aU h fun k hk=>hb.block k (by have:=(h.lt k hk).2;omega)
theorem zc3.why {m:zcf} (h:zc3 m):0≤m.why∧m.why≤19∧((tP m.kind).why=false→m.why=0):=by
 have ha:=h.arg
 unfold zed at ha
 simp only[Bool.or_eq_false_iff,Bool.and_eq_false_iff,Bool.not_eq_false',decide_eq_false_iff_not,beq_iff_eq] at ha
 obtain⟨⟨-,h1⟩,h2⟩:=ha
 cases hw:(tP m.kind).why
 ·rw[hw] at h1
  simp at h1
  exact⟨by omega,by omega,fun _=>h1⟩
 ·rw[hw] at h2
  simp at h2
  exact⟨by omega,by omega,fun h=>by simp at h⟩
structure iO where
 kind:Int
 id:Nat
 sum:Dg
 data:List UInt8
 tv:Value
 ts:List TcM
 why:Int
def vb (k:Int) (i:Nat) (s:Dg) (d:List UInt8) (t:Value) (y:Int):List Value:=[.int .i64 k,.int .u64 i]++dgc s++[.string (bs d),t,.int .i64 y]
def iO.cells (x:iO):List Value:=vb x.kind x.id x.sum x.data x.tv x.why
def iO.val (x:iO):Value:=.agg x.cells.toArray
def iO.l (x:iO):zcf:=⟨x.kind,x.id,x.sum,x.data,x.ts.map (·.t),x.why⟩
def lz (w:World) (x:iO):Prop:=aJ w 34 TcM.cells x.tv x.ts∧∀t∈x.ts,gR w t
theorem zbb (k:Int) (i:Nat) (s:Dg) (d:List UInt8) (t:Value) (y:Int):(vb k i s d t y).length=37:=by simp[vb,eX]
theorem iO.len (x:iO):x.cells.length=37:=zbb _ _ _ _ _ _
theorem lz.keep {w w':World} {x:iO} (h:lz w x) (hb:Below w.heap.size w w'):lz w' x:=⟨h.1.below hb (Nat.le_refl _),fun t ht=>(h.2 t ht).keep hb⟩
theorem za6 {k:Int} {i:Nat} {s:Dg} {d:List UInt8} {t:Value} {y:Int} (ht:t.oneCell'=true):∀u∈vb k i s d t y,u.oneCell'=true:=by
 intro u hu
 simp only[vb,List.mem_append,List.mem_cons,List.not_mem_nil,or_false] at hu
 rcases hu with((rfl|rfl)|hu)|rfl|rfl|rfl
 ·rfl
 ·rfl
 ·exact kV _ u hu
 ·rfl
 ·exact ht
 ·rfl
theorem lz.one {w:World} {x:iO} (h:lz w x):∀u∈x.cells,u.oneCell'=true:=za6 (o6 h.1)
theorem iO.parts {w:World} {b:Nat} {k:Int} {i:Nat} {s:Dg} {d:List UInt8} {t:Value} {y:Int} {ty:TypeId} {fr:Nat×Nat} (h:w.heap[b]?=some (.cells (vb k i s d t y).toArray ty fr)):
 w.cell? ⟨b,0,none⟩=some (.int .i64 k)∧w.cell? ⟨b,1,none⟩=some (.int .u64 i)∧w.rangeAt b 2 (dgc s)∧w.cell? ⟨b,34,none⟩=some (.string (bs d))∧w.cell? ⟨b,35,none⟩=some t∧w.cell? ⟨b,36,none⟩=some (.int .i64 y):=by
 have h0:=ak h
 unfold vb at h0
 rw[List.append_assoc] at h0
 obtain⟨h1,h2⟩:=lZ h0
 obtain⟨h3,h4⟩:=bF h1
 obtain⟨h5,h6⟩:=lZ h2
 rw[eX] at h6
 obtain⟨h7,h8⟩:=bF h6
 obtain⟨h9,h10⟩:=bF h8
 exact⟨h3,by simpa using(bF h4).1,by simpa using h5,by simpa using h7,by simpa using h9,by simpa using(bF h10).1⟩
section
variable {k:Int} {i:Nat} {s:Dg} {d:List UInt8} {t:Value} {y:Int} {r:List (Nat×Value)}
end
theorem br2 {ty:TypeId} {d:TypeDesc} (hu:Tryz.prog.underlying ty=some d) {fn:Func} {p u:Tmp} {R:Ending→World→Prop} {a:Act} {w:World} (g:Nat) {t:TypeId} {cs:Array Value} {fr:Nat×Nat} (hg:w.heap[g]?=some (.cells cs t fr)) (hR:R (.returned (.tuple #[.agg cs,a.tmps.getD u undef])) w) (h:fn.results=#[.cell p ty,.tmp u]:=by rfl) (hp:a.tmps.getD p undef=.pointer (some ⟨g,0,none⟩):=by rfl)
 (hd:(match d with|.struct _|.array _ _=>true|_=>false)=true:=by rfl) (hi:(Tryz.prog.info? ty).map (·.size)=some cs.size:=by kernel_rfl) (hf:a.defers=[]:=by rfl):bodyPost Tryz.prog fn R .ret a w:=by
 refine bodyPost_ret (v:=.tuple #[.agg cs,a.tmps.getD u undef]) ?_ hf hR
 have hp':a.tmps[p]?.getD undef=.pointer (some ⟨g,0,none⟩):=by simpa using hp
 cases d<;>simp at hd<;>simp[results,h,hp',asAddr,run_loadVar_row w g t ty cs fr _ hg hu rfl hi]
section
variable {o:Oper} {a:Act} {w:World} {Q:Exit→Act→World→Prop} {K:Act→World→Prop}
theorem oW {ty n:Nat} (_:cZ ty n)
 (h:∀(zs:Array Value) (W1:World),zs.size=n→Below w.heap.size w W1→W1.heap[w.heap.size]?=some (.cells zs ty (0,0))→W1.heap.size=w.heap.size+1→K (a.put o.dst (.pointer (some ⟨w.heap.size,0,none⟩))) W1)
 (ho:o.op=.alloc ty:=by rfl) (hz:nL ty n=true:=by kernel_rfl):Oper.wp Tryz.prog o a w K Q:=by
 obtain⟨zs,hzs,hz⟩:=jV hz
 unfold Oper.wp execOp
 simp only[ho,Sem.run_bind,ff w hz,Result.andThen_ok,Sem.run_pure]
 exact h zs _ hzs (ab w _) (heap_alloc_new w _) (by rw[World.size_alloc])
theorem iM {ty n r:Nat} {xs old:Array Value} {x y:Operand} {t:TypeId} (rt:cZ ty n) (hr:w.heap[r]?=some (.cells old t (0,0))) (hold:old.size=n) (hs:xs.size=n) (h1:∀u∈xs.toList,u.oneCell'=true)
 (h:∀W1,aX r w W1→W1.heap[r]?=some (.cells xs t (0,0))→W1.heap.size=w.heap.size→K (a.put o.dst undef) W1)
 (ho:o.op=.store ty x y:=by rfl) (hx:a.eval x=.pointer (some ⟨r,0,none⟩):=by rfl) (hy:a.eval y=.agg xs:=by rfl):Oper.wp Tryz.prog o a w K Q:=by
 obtain⟨d,_,_,h3⟩:=rt.out
 have aK:r<w.heap.size:=(Array.getElem?_eq_some_iff.1 hr).1
 have hst:=run_storeVar_row (P:=Tryz.prog) w r t ty old xs hr (by rw[h3,hs]) (by rw[hold,hs]) (by rw[←Array.toArray_toList (xs:=xs)];exact all_oneCell_toArray h1)
 unfold Oper.wp execOp
 simp only[ho,hx,hy,Instr.storeAt,Instr.sureAddr,Sem.run_bind,Sem.run_pure,Result.andThen_ok,hst]
 exact h _ ⟨aK,rfl,rfl,rfl,by simp,fun k _ hne=>setRow_other _ _ _ _ hne⟩ (setRow_heap _ _ _ _ _ _ hr) (by simp)
end
theorem zef (m:Int) (h1:0≤m) (h2:m<32):bits .and .u64 m 31=m:=by
 obtain⟨k,rfl⟩:=Int.eq_ofNat_of_zero_le h1
 have:=u64_and_nat k 31 (by omega) (by omega)
 rw[show((31:Nat):Int)=31 from rfl] at this
 rw[this,show(31:Nat)=2^5-1 from rfl,Nat.and_two_pow_sub_one_eq_mod,Nat.mod_eq_of_lt (by omega)]
set_option maxHeartbeats 400000 in
theorem za9 (x m:Int) (h1:0≤m) (h2:m<32) (w:World):Calls Tryz.prog 216 #[.int .u32 x,.int .i64 m] w fun e w'=>e=.returned (.int .u32 (j8 x (32-m)))∧w'=w:=by
 have hm:=zef m h1 h2
 have hw:m%18446744073709551616=m:=by omega
 have hw2:(32-m)%18446744073709551616=32-m:=by omega
 have h4:0≤32-m:=by omega
 have e:j8 x (32-m)=bits .or .u32 (x*2^m.toNat%4294967296) (x/2^(32-m).toNat):=by
  unfold j8
  rw[rE,show 32-(32-m)=m by omega]
 rw[e]
 clear e
 go_enter Tryz.func216,Tryz.ntmps216
 go_wp2_with fail
 go_ret
 exact⟨rfl,rfl⟩
def af (ws:List Int):List Value:=ws.map (.int .u32)
theorem aF (ws:List Int):(af ws).length=ws.length:=by simp[af]
theorem cI (ws:List Int) (k:Nat) (h:k<ws.length):(af ws)[k]?=some (.int .u32 (ws.getD k 0)):=by simp[af,h]
theorem jM (ws:List Int):∀u∈af ws,u.oneCell'=true:=by
 intro u hu
 simp only[af,List.mem_map] at hu
 obtain⟨s,_,rfl⟩:=hu;rfl
theorem am.words {w:World} {v:Value} {n:Nat} {ws:List Int} (h:am w 1 v n (af ws)) (hp:0<ws.length):n=ws.length∧∃b off c,v=.slice (some ⟨b,off,none⟩) ws.length c∧ws.length≤c∧c≤maxLen∧b<w.heap.size∧
 ∀j,j<ws.length→w.cell? ⟨b,off+j,none⟩=some (.int .u32 (ws.getD j 0)):=by
 obtain⟨hl,a,c,rfl,hc,hm, -,hx⟩:=h
 have hn:n=ws.length:=by rw[aF] at hl;omega
 subst hn
 obtain⟨b,off,rfl,hb,aO⟩:=hx (by intro e;have:=aF ws;rw[e] at this;simp at this;omega)
 exact⟨rfl,b,off,c,rfl,hc,hm,hb,fun j hj=>aO j _ (cI ws j hj)⟩
theorem am.bytes {w:World} {v:Value} {n:Nat} {l:List UInt8} (h:am w 1 v n (Lib.byteCells l)) (hp:0<l.length):n=l.length∧∃b off c,v=.slice (some ⟨b,off,none⟩) l.length c∧l.length≤c∧c≤maxLen∧b<w.heap.size∧
 ∀j,j<l.length→w.cell? ⟨b,off+j,none⟩=some (.int .u8 (dh l j)):=by
 obtain⟨hl,a,c,rfl,hc,hm, -,hx⟩:=h
 have hn:n=l.length:=by rw[aW] at hl;omega
 subst hn
 obtain⟨b,off,rfl,hb,aO⟩:=hx (by intro e;have:=aW l;rw[e] at this;simp at this;omega)
 refine⟨rfl,b,off,c,rfl,hc,hm,hb,fun j hj=>?_⟩
 rw[aO j _ (jP l j hj)]
 simp[dh,hj]
theorem xL (l:List UInt8) (j:Nat):0≤dh l j∧dh l j<256:=by
 unfold dh
 have:=(l.getD j 0).toNat_lt
 omega
set_option maxHeartbeats 400000 in
theorem oV (x n:Int) (h1:0<n) (h2:n<32) (w:World):Calls Tryz.prog 175 #[.int .u32 x,.int .i64 n] w fun e w'=>e=.returned (.int .u32 (j8 x n))∧w'=w:=by
 have H:=hid (za9 x (32-n) (by omega) (by omega) w)
 have e1:32-(32-n)=n:=by omega
 rw[e1] at H
 have hw:wrap64 (32-n)=32-n:=by unfold wrap64;omega
 clear e1
 go_enter Tryz.func175,Tryz.ntmps175
 go_wp2_with (refine(H.out).mono ?_;rintro e w1 ⟨rfl,rfl⟩)
 go_ret
 exact⟨rfl,rfl⟩
def kA:Array Value:=(af br).toArray
theorem gh:kA.size=64:=rfl
theorem cv:(Tryz.prog.info? 298).map (·.size)=some 64:=by kernel_rfl
theorem jU:kA.all (·.oneCell')=true:=by kernel_rfl
set_option maxHeartbeats 1000000 in
theorem fN (w:World):Calls Tryz.prog 173 #[] w fun e w'=>e=.returned (.agg kA)∧Below w.heap.size w w':=by
 go_enter Tryz.func173,Tryz.ntmps173
 go_wp2_with first
  |(refine wpList_build rfl 298 _ rfl (by kernel_rfl) ?_)
  |(refine wpList_store_row rfl 298 _ _ rfl w.heap.size kA rfl (by kernel_rfl) 298 _ (heap_alloc_new w _) (by rw[gh];exact cv) rfl jU ?_)
 refine bodyPost_ret (results_cell_row rfl _ _ w.heap.size _ _ _ _ rfl (setRow_heap _ _ _ _ _ _ (heap_alloc_new w _)) Tryz.underlying298 rfl (by rw[gh];exact cv)) rfl ⟨rfl,?_⟩
 exact⟨rfl,rfl,rfl,by simp,fun k hk=>by rw[setRow_other _ _ _ _ (by omega),Below.heap_alloc _ _ _ hk]⟩
theorem zj (ws:List Int):(fu ws).all (·.oneCell')=true:=by
 rw[Array.all_eq_true_iff_forall_mem]
 intro x hx
 simp only[fu,List.mem_toArray,List.mem_map] at hx
 obtain⟨i,_,rfl⟩:=hx
 rfl
set_option maxHeartbeats 4000000 in
theorem uU (bv:Value) (b:List UInt8) (w:World) (jW:am w 1 bv 64 (Lib.byteCells b)):Calls Tryz.prog 174 #[bv] w fun e w'=>e=.returned (.agg (af (j5 b)).toArray)∧Below w.heap.size w w':=by
 have hl64:b.length=64:=by have:=jW.1;rw[aW] at this;omega
 obtain⟨-,ba,bo,bc,rfl,hbc,hbm,hba,hbx⟩:=jW.bytes (by omega)
 rw[hl64] at hbc hbx
 have HBX:=hid hbx
 unfold maxLen at hbm
 rw[hl64]
 clear hl64 jW hbx
 go_enter Tryz.func174,Tryz.ntmps174
 go_upto_region 2 with fail
 obtain⟨Z,hZ⟩:∃Z:Obj,Z=(Obj.cells (gM [] 0) 298):=⟨_,rfl⟩
 rw[show(Obj.cells #[.int .u32 0,.int .u32 0,.int .u32 0,.int .u32 0,.int .u32 0,.int .u32 0,.int .u32 0,.int .u32 0,.int .u32 0,.int .u32 0,.int .u32 0,.int .u32 0,.int .u32 0,.int .u32 0,.int .u32 0,.int .u32 0,.int .u32 0,.int .u32 0,.int .u32 0,.int .u32 0,.int .u32 0,.int .u32 0,.int .u32 0,.int .u32 0,.int .u32 0,.int .u32 0,.int .u32 0,.int .u32 0,.int .u32 0,.int .u32 0,.int .u32 0,.int .u32 0,.int .u32 0,.int .u32 0,.int .u32 0,.int .u32 0,.int .u32 0,.int .u32 0,.int .u32 0,.int .u32 0,.int .u32 0,.int .u32 0,.int .u32 0,.int .u32 0,.int .u32 0,.int .u32 0,.int .u32 0,.int .u32 0,.int .u32 0,.int .u32 0,.int .u32 0,.int .u32 0,.int .u32 0,.int .u32 0,.int .u32 0,.int .u32 0,.int .u32 0,.int .u32 0,.int .u32 0,.int .u32 0,.int .u32 0,.int .u32 0,.int .u32 0,.int .u32 0] 298)=Z by rw[hZ];rfl]
 obtain⟨W0,hW0⟩:∃W0,W0=(w.alloc Z).alloc Z:=⟨_,rfl⟩
 have hR0:W0.heap[w.heap.size]?=some Z:=by
  rw[hW0,Below.heap_alloc _ _ _ (by simp)]
  exact heap_alloc_new w Z
 have hR1:W0.heap[w.heap.size+1]?=some (.cells (gM b 0) 298 (0,0)):=by
  have:(.cells (gM b 0) 298 (0,0))=Z:=by rw[hZ];unfold gM;rw[show((List.range 64).map fun j=>Value.int .u32 (lh b j (min 4 (0-4*j))))=((List.range 64).map fun j=>Value.int .u32 (lh [] j (min 4 (0-4*j)))) from by simp[lh]]
  rw[this,hW0]
  have e:w.heap.size+1=(w.alloc Z).heap.size:=by simp
  rw[e]
  exact heap_alloc_new _ Z
 have hb0:Below w.heap.size w W0:=by rw[hW0];exact((ab w Z).alloc (by simp) _)
 have hs0:W0.heap.size=w.heap.size+2:=by rw[hW0];simp
 rw[←hW0]
 have HR0:=hid hR0
 have HR1:=hid hR1
 have HSZ:=hid hs0
 clear hW0 hR0 hR1 hs0
 go_wp2_with fail
 go_loopw [13] (fun i wr=>∃(k:Nat),k≤64∧i=.int .i64 k∧wr.heap[w.heap.size+1]?=some (.cells (gM b k) 298 (0,0))∧Below (w.heap.size+1) W0 wr) (fun i _=>64-(intOf i).toNat)
 case atStart=>exact⟨0,by omega,rfl,HR1.out,Below.refl _ _⟩
 case round=>
  obtain⟨k,hk,rfl,hg,hbr⟩:=hrel
  by_cases h64:k<64
  ·obtain⟨q,hq⟩:∃q,q=k/4:=⟨_,rfl⟩
   have ck:wr.cell? ⟨w.heap.size+1,q,none⟩=(gM b k)[q]?:=cell_of_row wr _ q _ _ _ hg
   rw[hq,zbX b k h64,←hq] at ck
   have fk:wr.frozen? ⟨w.heap.size+1,q,none⟩=false:=frozen_of_row wr _ q _ _ hg
   have hbk:=(hbr.cell (p:=⟨ba,bo+k,none⟩) (show ba<w.heap.size+1 by omega)).trans (bA hb0 (HBX.out k h64))
   have HD:Hid ((gM b k).setIfInBounds q (.int .u32 (bits .or .u32 (lh b q (k%4)*256%4294967296) (dh b k)))=gM b (k+1)):=hid (by rw[hq];exact w7 b k)
   have HN:=hid (heap_setCell_same wr (w.heap.size+1) q (gM b k) 298 (.int .u32 (bits .or .u32 (lh b q (k%4)*256%4294967296) (dh b k))) hg)
   have q1:Int.tdiv (k:Int) 4=(q:Int):=by rw[Int.tdiv_eq_ediv_of_nonneg (by omega)];omega
   have q3:(k:Int)/4=(q:Int):=by omega
   have hq16:q<64:=by omega
   have hby:=xL b k
   generalize lh b q (k%4)=x at *
   generalize dh b k=y at *
   clear hq
   go_wp2_with fail
   refine⟨⟨k+1,by omega,by go_num,by rw[←HD.out];exact HN.out,hbr.setCell (p:=⟨w.heap.size+1,q,none⟩) (Nat.le_refl _) _⟩,by simp[intOf];omega⟩
  ·obtain rfl:k=64:=by omega
   obtain⟨wo,rfl⟩:∃wo:World,wo=wr:=⟨_,rfl⟩
   have hg':wo.heap[w.heap.size+1]?=some (.cells (fu (aS b 16)) 298 (0,0)):=by rw[hg,zL]
   have HG:=hid hg'
   have HBO:=hid hbr
   clear hg hg' h64 HR1 hbr
   go_wp2_with fail
   go_loopw [6] (fun i wr=>∃(k:Nat),16≤k∧k≤64∧i=.int .i64 k∧wr.heap[w.heap.size+1]?=some (.cells (fu (aS b k)) 298 (0,0))∧Below (w.heap.size+1) wo wr) (fun i _=>64-(intOf i).toNat)
   case atStart=>exact⟨16,by omega,by omega,rfl,HG.out,Below.refl _ _⟩
   case round=>
    obtain⟨k,hk16,hk,rfl,hg,hbr⟩:=hrel
    have HSL:=hid (dY b k)
    clear HG
    by_cases h64:k<64
    ·obtain⟨p,hp⟩:∃p,k=p+16:=⟨k-16,by omega⟩
     obtain⟨p1,hp1⟩:∃q,q=p+1:=⟨_,rfl⟩
     obtain⟨p9,hp9⟩:∃q,q=p+9:=⟨_,rfl⟩
     obtain⟨p14,hp14⟩:∃q,q=p+14:=⟨_,rfl⟩
     have HX:Hid (aS b (k+1)=aS b k++[vQ ((aS b k).getD p 0) ((aS b k).getD p1 0) ((aS b k).getD p9 0) ((aS b k).getD p14 0)]):=hid (by subst hp hp1 hp9 hp14;rw[aS,if_neg (by omega)];rfl)
     have cell:=fun j (hj:j<64)=>(cell_of_row wr (w.heap.size+1) j _ _ _ hg).trans (zc1 (aS b k) j hj)
     have c0:=cell p (by omega)
     have c1:=cell p1 (by omega)
     have c9:=cell p9 (by omega)
     have c14:=cell p14 (by omega)
     have ck:=cell k (by omega)
     clear cell
     have HN:=hid (fun x=>(heap_setCell_same wr (w.heap.size+1) k (fu (aS b k)) 298 (.int .u32 x) hg).trans (by rw[qW (aS b k) x k HSL.out]))
     have fk:wr.frozen? ⟨w.heap.size+1,k,none⟩=false:=frozen_of_row wr _ k _ _ hg
     generalize (aS b k).getD p 0=x0 at *
     generalize (aS b k).getD p1 0=x1 at *
     generalize (aS b k).getD p9 0=x9 at *
     generalize (aS b k).getD p14 0=x14 at *
     generalize (aS b k).getD k 0=xk at *
     have e0:(k:Int)-16=(p:Int):=by omega
     have e1:(k:Int)-15=(p1:Int):=by omega
     have e9:(k:Int)-7=(p9:Int):=by omega
     have e14:(k:Int)-2=(p14:Int):=by omega
     have v0:IntKind.i64.wrap (p:Int)=(p:Int):=IntWalk.i64_in _ (by omega)
     have v1:IntKind.i64.wrap (p1:Int)=(p1:Int):=IntWalk.i64_in _ (by omega)
     have v9:IntKind.i64.wrap (p9:Int)=(p9:Int):=IntWalk.i64_in _ (by omega)
     have v14:IntKind.i64.wrap (p14:Int)=(p14:Int):=IntWalk.i64_in _ (by omega)
     have hpk0:p<64:=by omega
     have hpk1:p1<64:=by omega
     have hpk9:p9<64:=by omega
     have hpk14:p14<64:=by omega
     have hg2:Hid (wr.heap[w.heap.size+1]?=some (.cells (fu (aS b k)) 298 (0,0))):=hid hg
     clear hp hp1 hp9 hp14 hg
     go_upto_region 10 with fail
     go_quiet (fail)
     have HT:=hid (fun n (h1:0<n) (h2:n<32) x W=>oV x n h1 h2 W)
     go_upto_region 13 with first
      |(go_at_call_of 175 (Value.int .i64 7);refine(HT.out 7 ?n7 ?m7 _ _).mono ?_;(decide);(decide);rintro e w3 ⟨rfl,rfl⟩)
      |(go_at_call_of 175 (Value.int .i64 18);refine(HT.out 18 ?n18 ?m18 _ _).mono ?_;(decide);(decide);rintro e w3 ⟨rfl,rfl⟩)
      |(go_at_call_of 175 (Value.int .i64 17);refine(HT.out 17 ?n17 ?m17 _ _).mono ?_;(decide);(decide);rintro e w3 ⟨rfl,rfl⟩)
      |(go_at_call_of 175 (Value.int .i64 19);refine(HT.out 19 ?n19 ?m19 _ _).mono ?_;(decide);(decide);rintro e w3 ⟨rfl,rfl⟩)
     obtain⟨W1,hW1⟩:∃W1,W1=wr.drewN nq:=⟨_,rfl⟩
     have d0:W1.cell? ⟨w.heap.size+1,p,none⟩=some (.int .u32 x0):=by rw[hW1];exact c0
     have d9:W1.cell? ⟨w.heap.size+1,p9,none⟩=some (.int .u32 x9):=by rw[hW1];exact c9
     have dk:W1.cell? ⟨w.heap.size+1,k,none⟩=some (.int .u32 xk):=by rw[hW1];exact ck
     have hb1:Below (w.heap.size+1) wo W1:=by rw[hW1];exact hbr.trans (eP.below ⟨nq,rfl⟩)
     have hz1:w.heap.size+1<W1.heap.size:=by have:=hb1.size;have:=HBO.out.size;have:=HSZ.out;omega
     have HG1:Hid (W1.heap[w.heap.size+1]?=some (.cells (fu (aS b k)) 298 (0,0))):=hid (by rw[hW1];exact hg2.out)
     rw[←hW1]
     have i0:(p:Int)<64:=by omega
     have i9:(p9:Int)<64:=by omega
     have ik:(k:Int)<64:=by omega
     clear hW1 c0 c1 c9 c14 ck fk hbr hg2 HN HT
     refine ar 15 (by kernel_rfl) (by kernel_rfl) ?_
     simp only[List.take_succ_cons,List.take_zero,List.drop_succ_cons,List.drop_zero]
     repeat(refine WQ.step (fun K hK=>?_);go_simp;first|(refine hK _ ?_;clear hK K)|(apply Exists.intro;refine⟨fun W hW=>?_,hK _ ?_⟩;(first|(first|with_reducible rfl|(have zz0:=Below.keeps hW d0;have zz1:=Below.keeps hW d9;go_simp;first|rfl|exact⟨rfl,rfl⟩|(rw[if_neg (by omega)];exact⟨rfl,rfl⟩))));clear hK K))
     refine WQ.nil ?_
     intro wq hwq
     have hgq:wq.heap[w.heap.size+1]?=some (.cells (fu (aS b k)) 298 (0,0)):=by rw[hwq.block _ hz1];exact HG1.out
     have ek:wq.cell? ⟨w.heap.size+1,k,none⟩=some (.int .u32 xk):=bA hwq dk
     have fk:wq.frozen? ⟨w.heap.size+1,k,none⟩=false:=frozen_of_row wq _ k _ _ hgq
     have HN:=hid ((heap_setCell_same wq (w.heap.size+1) k (fu (aS b k)) 298 (.int .u32 ((x0+zbr x1+x9+zal x14)%4294967296)) hgq).trans (by rw[qW (aS b k) _ k HSL.out]))
     have hbq:Below (w.heap.size+1) wo wq:=hb1.trans (hwq.mono (by omega))
     clear hgq hwq hb1 hz1
     go_wp2_with fail
     refine⟨?_,by simp[intOf];omega⟩
     (repeat apply Exists.intro)
     exact⟨⟨k+1,by omega,by omega,by go_num,by rw[HX.out,ut];exact HN.out,hbq.setCell (p:=⟨w.heap.size+1,k,none⟩) (Nat.le_refl _) _⟩,rfl⟩
    ·obtain rfl:k=64:=by omega
     have hz:w.heap.size+1≠w.heap.size:=by omega
     have hgr:wr.heap[w.heap.size]?=some Z:=by rw[hbr.block _ (by omega),HBO.out.block _ (by omega)];exact HR0.out
     rw[hZ] at hgr
     have HBo:=hid (hb0.trans ((HBO.out.trans hbr).mono (by omega)))
     have e64:af (j5 b)=(j5 b).map (.int .u32):=rfl
     go_wp2_with first
      |(refine wpList_load_row rfl 298 _ rfl (w.heap.size+1) rfl _ _ _ _ hg Tryz.underlying298 rfl (by rw[fF];exact cv) ?_)
      |(refine wpList_store_row rfl 298 _ _ rfl w.heap.size (fu (aS b 64)) rfl rfl 298 _ hgr (by rw[fF];exact cv) (by rw[lO,fF]) (zj _) ?_)
     refine bodyPost_ret (results_cell_row rfl _ _ w.heap.size _ _ _ _ rfl (setRow_heap _ _ _ _ _ _ hgr) Tryz.underlying298 rfl (by rw[fF];exact cv)) rfl ⟨?_,?_⟩
     ·rw[zW _ (dY b 64)];rfl
     ·exact⟨HBo.out.os,HBo.out.tape,HBo.out.output,by rw[setRow_size];exact HBo.out.size,fun k hk=>by rw[setRow_other _ _ _ _ (by omega)];exact HBo.out.block k hk⟩
end Go.Proofs.YtlbipokkdiiaiaaGreatDoor
