/- Lemmas for TopKeysUpto: F25, F26, F27, F28, F29, F30. -/
import Derived.Test.YtlbipokkdiiaiaaGreatDoorK13
import Derived.Lib.OwnBridge
import Derived.Test.YtlbipokkdiiaiaaGreatDoorK08
import Derived.Test.YtlbipokkdiiaiaaGreatDoorK11
import Derived.Lib.SliceRun
namespace Go.Proofs.YtlbipokkdiiaiaaGreatDoor
open Go.RowKit Exec Go.Shelf
set_option maxRecDepth 100000
attribute [local go_sem] Oper.semAt_some
section
variable {B g km mb:Nat} {D:Nat→Prop} {env:List (Txt×Txt)} {r:aw} {w0 w W:World} {tv ev:Value} {vs cs:List Value}
theorem nh (ls:List Txt):ag ls=ls.map encStr:=rfl
structure dv (w0 w:World) (ls:List Txt) (v:Value):Prop where
 row:w.ownsRow w0.heap.size 9 1 v ls.length (ag ls)
 below:Below w0.heap.size w0 w
 few:ls.length≤65537
 each:∀s∈ls,s.length≤65536
theorem zdw {ls:List Txt} (h1:ls.length≤65537) (h2:∀s∈ls,s.length≤65536):(nlL ls).length≤4295098369:=by
 have h3:(nlL ls).length≤ls.length*65537:=by
  clear h1
  induction ls with
  |nil=>exact Nat.le_refl _
  |cons x l ih=>
   have h4:=ih fun s hs=>h2 s (List.mem_cons_of_mem _ hs)
   have h5:=h2 x (List.mem_cons_self ..)
   unfold nlL at h4 ⊢
   rw[List.flatMap_cons,List.length_append,List.length_append]
   simp only[List.length_cons,List.length_nil]
   omega
 omega
theorem dv.next {ls:List Txt} {v:Value} (h:dv w0 w ls v) (hb:Below w.heap.size w W):dv w0 W ls v:=⟨aS h.row hb (Nat.le_refl _),Below.chain h.below hb,h.few,h.each⟩
theorem oU (h:bA B D g env r w0) {ls:List Txt} {v:Value} (hl:dv w0 w ls v):Calls Tryz.prog 299 #[.pointer (some ⟨g,0,none⟩),v] w fun e w2=>e=.returned (.tuple #[])∧aD B D g env (jx r ls) w0 w2:=by
 obtain⟨a,c,rfl,hvc,hvm, -, -,hx⟩:=cp hl.row (by have:=hl.few;omega)
 refine(rQ (h.below hl.below) ls a c hx (by have:=hl.few;omega) (Nat.le_trans (zdw hl.few hl.each) (by omega))).mono ?_
 rintro e w2 ⟨rfl,hg⟩
 exact⟨rfl,hg.ahead hl.below⟩
open Go.Sort in
theorem tB {ls:List Txt} {v:Value} (h:w.ownsRow w0.heap.size 9 1 v ls.length (ag ls)) (hbw:Below w0.heap.size w0 w) (hf:ls.length≤65537):
 Calls Tryz.prog 148 #[v] w fun e w'=>e=.returned (.tuple #[])∧w'.ownsRow w0.heap.size 9 1 v (ls.mergeSort fun x y=>decide (x≤y)).length (ag (ls.mergeSort fun x y=>decide (x≤y)))∧Below w0.heap.size w0 w':=by
 have bI:(ls.mergeSort fun x y=>decide (x≤y)).length=ls.length:=List.length_mergeSort _
 by_cases hv:v=.slice none 0 0
 ·subst hv
  have h0:ls=[]:=by
   obtain⟨-,⟨-,h1⟩|⟨b,cap,cur,h1, -⟩⟩:=h
   ·exact List.length_eq_zero_iff.1 h1
   ·cases h1
  subst h0
  refine(Tryz.slices_Sort_string_none none 0 w).mono ?_
  rintro e w' ⟨rfl,rfl⟩
  have e:([]:List Txt).mergeSort (fun x y=>decide (x≤y))=[]:=List.length_eq_zero_iff.1 (List.length_mergeSort _)
  rw[e]
  exact⟨rfl,h,hbw⟩
 ·rw[nh] at h
  obtain⟨b,cap,rfl,hb,aH,hnc,hcm, -,hH⟩:=Lib.holds_of_ownsRow h hv
  refine(Tryz.slices_Sort_string b 0 cap ls w hH aH (by omega)).mono ?_
  rintro e w' ⟨rfl,n,os,rfl⟩
  have h1:=Lib.ownsRow_putRow (q:=n) (k:=ls.length) h bI (Nat.le_refl _)
  rw[List.take_of_length_le (by omega),←nh] at h1
  have hbl:=Lib.below_putRow (enc:=encStr) (q:=n) (d:=(ls.mergeSort fun x y=>decide (x≤y)).toArray) hbw hb
  have hgr0:∀X:World,Below X.heap.size X (grow X os):=fun X=>⟨rfl,rfl,rfl,by simp[grow],fun i hi=>by simp[grow,Array.getElem?_append,hi]⟩
  have hgr:Below (putRow encStr (Sort.ahead w n) b 0 (ls.mergeSort fun x y=>decide (x≤y)).toArray).heap.size (putRow encStr (Sort.ahead w n) b 0 (ls.mergeSort fun x y=>decide (x≤y)).toArray) (grow (putRow encStr (Sort.ahead w n) b 0 (ls.mergeSort fun x y=>decide (x≤y)).toArray) os):=
   hgr0 _
  rw[bI]
  exact⟨rfl,aS h1 hgr (Nat.le_refl _),Below.chain hbl hgr⟩
theorem zaL {ls:List Txt} {v:Value} (h:dv w0 w ls v):Calls Tryz.prog 148 #[v] w fun e w'=>e=.returned (.tuple #[])∧dv w0 w' (ls.mergeSort fun x y=>decide (x≤y)) v:=by
 refine(tB h.row h.below h.few).mono ?_
 rintro e w' ⟨rfl,h1,h2⟩
 exact⟨rfl,h1,h2,by rw[List.length_mergeSort];exact h.few,fun s hs=>h.each s ((List.mergeSort_perm ls _).mem_iff.1 hs)⟩
theorem uB (l:List Txt):(Lib.compact l).Sublist l:=by
 unfold Lib.compact Lib.compactUpTo
 have h1:((List.range l.length).filter (Lib.keeps l.toArray)).Sublist (List.range l.length):=List.filter_sublist
 have h2:=h1.map (fun j=>l.toArray[j]!)
 have h3:(List.range l.length).map (fun j=>l.toArray[j]!)=l:=by
  refine List.ext_getElem (by simp) fun i h4 h5=>?_
  simp[h5]
 rw[h3] at h2
 exact h2
open Go.Sort in
theorem uG {ls:List Txt} {v:Value} (h:w.ownsRow w0.heap.size 9 1 v ls.length (ag ls)) (hbw:Below w0.heap.size w0 w) (hf:ls.length≤65537):
 Calls Tryz.prog 99 #[v] w fun e w'=>∃v',e=.returned v'∧w'.ownsRow w0.heap.size 9 1 v' (Lib.compact ls).length (ag (Lib.compact ls))∧Below w0.heap.size w0 w':=by
 have hle:=Lib.compact_length_le ls
 by_cases hv:v=.slice none 0 0
 ·subst hv
  have h0:ls=[]:=by
   obtain⟨-,⟨-,h1⟩|⟨b,cap,cur,h1, -⟩⟩:=h
   ·exact List.length_eq_zero_iff.1 h1
   ·cases h1
  subst h0
  refine(Tryz.slices_Compact_string_empty none 0 w).mono ?_
  rintro e w' ⟨rfl,rfl⟩
  have e:Lib.compact ([]:List Txt)=[]:=List.length_eq_zero_iff.1 (by simpa using hle)
  rw[e]
  exact⟨_,rfl,h,hbw⟩
 ·rw[nh] at h
  obtain⟨b,cap,rfl,hb,aH,hnc,hcm, -,hH⟩:=Lib.holds_of_ownsRow h hv
  refine(Tryz.slices_Compact_string b 0 cap ls w hH (by omega) hnc).mono ?_
  rintro e w' ⟨rfl,n,rfl⟩
  have h1:=Lib.ownsRow_putRow (q:=n) (k:=(Lib.compact ls).length) (ys:=Lib.compact ls++List.replicate (ls.length-(Lib.compact ls).length) []) h (by simp;omega) hle
  rw[List.take_left' rfl,←nh] at h1
  exact⟨_,rfl,h1,Lib.below_putRow hbw hb⟩
theorem zaE {ls:List Txt} {v:Value} (h:dv w0 w ls v):Calls Tryz.prog 99 #[v] w fun e w'=>∃v',e=.returned v'∧dv w0 w' (Lib.compact ls) v':=by
 refine(uG h.row h.below h.few).mono ?_
 rintro e w' ⟨v',rfl,h1,h2⟩
 exact⟨v',rfl,h1,h2,Nat.le_trans (Lib.compact_length_le ls) h.few,fun s hs=>h.each s ((uB ls).subset hs)⟩
def aM (B:Nat) (w:World):Prop:=∃wb:World,wb.heap.size≤B∧bE wb∧eG wb∧Below wb.heap.size wb w
theorem aM.max {B:Nat} {w:World} (h:aM B w):bE w:=by
 obtain⟨wb, -,h1, -,h2⟩:=h
 exact h1.below h2
theorem aM.pow {B:Nat} {w:World} (h:aM B w):eG w:=by
 obtain⟨wb, -, -,h1,h2⟩:=h
 exact h1.below h2
theorem aM.pos {B:Nat} {w:World} (h:aM B w):0<B:=by
 obtain⟨wb,h0,⟨m,h1⟩, -, -⟩:=h
 have:=World.block_lt_of_cell? wb _ h1
 simp only at this
 omega
theorem aM.below {B:Nat} {w W:World} (h:aM B w) (hb:Below w.heap.size w W):aM B W:=by
 obtain⟨wb,h0,h1,h2,h3⟩:=h
 exact⟨wb,h0,h1,h2,Below.chain h3 hb⟩
theorem aM.go {B:Nat} {D:Nat→Prop} {w W:World} (h:aM B w) (hf:az D w W) (hd:∀j,D j→B≤j):aM B W:=by
 obtain⟨wb,h0,h1,h2,h3⟩:=h
 exact⟨wb,h0,h1,h2,hf.os.trans h3.os,hf.tape.trans h3.tape,hf.output.trans h3.output,Nat.le_trans h3.size hf.size,fun k hk=>(hf.block k (Nat.lt_of_lt_of_le hk h3.size) (fun e=>by have:=hd k e;omega)).trans (h3.block k hk)⟩
end
section
variable {B g km mb:Nat} {D:Nat→Prop} {env:List (Txt×Txt)} {r:aw} {w0 w W:World} {tv ev:Value} {vs cs:List Value}
theorem fb {ls:List Txt} {v:Value} (h:dv w0 w ls v):∃a c,v=.slice a ls.length c:=ax h.row
theorem zb (h:bA B D g env r w0) {ls:List Txt} {v:Value} (hl:dv w0 w ls v) (x:Txt):Calls Tryz.prog 249 #[.pointer (some ⟨g,0,none⟩),.string (bs dO),.string (bs x),v] w fun e w2=>e=.returned (.tuple #[])∧aD B D g env (jx r (ls.mergeSort fun x y=>decide (x≤y))) w0 w2:=by
 have HL:=hid (zaL (hl.next (ab w (.cells #[.string (bs x)] 9))))
 have HS:=hid (fun(w':World) (v:Value) (h':dv w0 w' (ls.mergeSort fun x y=>decide (x≤y)) v)=>oU h h')
 obtain⟨a,c,rfl⟩:=fb hl
 clear h hl
 generalize (ls.mergeSort fun x y=>decide (x≤y))=ls' at *
 unfold dO
 go_enter Tryz.func249,Tryz.ntmps249
 go_wp2_with first|(go_at_call 148;refine HL.out.mono ?_;rintro e W2 ⟨rfl,h2⟩)|(go_at_call 299;refine(HS.out _ _ h2).mono ?_;rintro e W3 ⟨rfl,hg⟩)
 go_end0
 exact⟨rfl,hg⟩
theorem zo (h:bA B D g env r w0) {ls:List Txt} {v:Value} (hl:dv w0 w ls v) (x:Txt):Calls Tryz.prog 249 #[.pointer (some ⟨g,0,none⟩),.string (bs dM),.string (bs x),v] w fun e w2=>e=.returned (.tuple #[])∧aD B D g env (jx r (Lib.compact ls)) w0 w2:=by
 have HL:=hid (zaE (hl.next (ab w (.cells #[.string (bs x)] 9))))
 have HS:=hid (fun(w':World) (v:Value) (h':dv w0 w' (Lib.compact ls) v)=>oU h h')
 obtain⟨a,c,rfl⟩:=fb hl
 clear h hl
 generalize Lib.compact ls=ls' at *
 unfold dM
 go_enter Tryz.func249,Tryz.ntmps249
 go_wp2_with first|(go_at_call 99;refine HL.out.mono ?_;rintro e W2 ⟨v2,rfl,h2⟩;obtain⟨a2,c2,rfl⟩:=fb h2)|(go_at_call 299;refine(HS.out _ _ h2).mono ?_;rintro e W3 ⟨rfl,hg⟩)
 go_end0
 exact⟨rfl,hg⟩
theorem zcz {r:aw} (h:dp r) (s:Txt) (hs:s.length≤65536):dp {r with buffer:=s}:=⟨hs,h.kn,h.ln,h.cm,h.tl,h.nd⟩
theorem bA.buf (h:bA B D g env r w0) (hb:Below w0.heap.size w0 w) (s:Txt) (hs:s.length≤65536):aD B D g env {r with buffer:=s} w0 (w.setCell ⟨g,2,none⟩ (.string (bs s))):=by
 obtain⟨tv,ev,km,mb,vs,cs,h⟩:=h
 have h2:=h.below hb
 obtain⟨n1,t1⟩:=au h2.at_ 2 (.string (bs s))
 exact(h2.go (r':={r with buffer:=s}) t1 (n1.trans rfl) rfl rfl rfl rfl rfl (zcz h2.sm s hs)).ahead hb
theorem zau (h:bA B D g env r w0) (hb:Below w0.heap.size w0 w):w.cell? ⟨g,2,none⟩=some (.string (bs r.buffer))∧w.frozen? ⟨g,2,none⟩=false:=by
 obtain⟨tv,ev,km,mb,vs,cs,h⟩:=h
 have h2:=h.below hb
 exact⟨(aA h2.at_).2.2.1,Lib.frozen_of_heap h2.at_ 2⟩
theorem xi (n:Nat) (h:n≤65537):(dig n).length≤20:=by
 have h1:∀(k n:Nat),n<10^(k+1)→(dig n).length≤k+1:=by
  intro k
  induction k with
  |zero=>
   intro n hn
   unfold dig
   rw[if_pos (by omega)]
   simp
  |succ k ih=>
   intro n hn
   unfold dig
   split
   ·simp
   ·rw[List.length_append]
    have:=ih (n/10) (by rw[Nat.pow_succ] at hn;omega)
    simp only[List.length_cons,List.length_nil]
    omega
 have:=h1 5 n (by omega)
 omega
theorem vA (h:bA B D g env r w0) {ls:List Txt} {v:Value} (hl:dv w0 w ls v) (hg:aM B w) (x:Txt):Calls Tryz.prog 249 #[.pointer (some ⟨g,0,none⟩),.string (bs cG),.string (bs x),v] w fun e w2=>e=.returned (.tuple #[])∧aD B D g env {r with buffer:=Lib.itoa (ls.length:Int)++[10]} w0 w2:=by
 have e:Lib.itoa (ls.length:Int)=dig ls.length:=o7 _
 rw[e]
 have hdl:=xi ls.length hl.few
 have hb1:=ab w (.cells #[.string (bs x)] 9)
 have HI:=hid (s8 ls.length (w.alloc (.cells #[.string (bs x)] 9)) (by have:=hl.few;omega) (hg.below hb1).pow)
 have HS:=hid (fun(w':World) (hb:Below (w.alloc (.cells #[.string (bs x)] 9)).heap.size (w.alloc (.cells #[.string (bs x)] 9)) w')=>And.intro (zau h (Below.chain (Below.chain hl.below hb1) hb)) (bA.buf h (Below.chain (Below.chain hl.below hb1) hb) (dig ls.length++[10]) (by simp;omega)))
 obtain⟨a,c,rfl⟩:=fb hl
 clear h hl hg e hb1
 unfold cG
 go_enter Tryz.func249,Tryz.ntmps249
 go_wp2_with (go_at_call 102;refine HI.out.mono ?_;rintro e W2 ⟨rfl,hb2⟩;obtain⟨⟨c2,f2⟩,hg2⟩:=HS.out _ hb2)
 go_end0
 exact⟨rfl,hg2⟩
theorem xW (h:bA B D g env r w0) {ls:List Txt} {v:Value} (hl:dv w0 w ls v) (n x:Txt) (h1:n≠dO) (h2:n≠dM) (h3:n≠cH) (h4:n≠cG) (h5:n≠dN):Calls Tryz.prog 249 #[.pointer (some ⟨g,0,none⟩),.string (bs n),.string (bs x),v] w fun e w2=>e=.returned (.tuple #[])∧aD B D g env r w0 w2:=by
 have hb1:=ab w (.cells #[.string (bs x)] 9)
 have HG:=hid (show aD B D g env r w0 (w.alloc (.cells #[.string (bs x)] 9)) from⟨D,fun j e=>.inl e,az.of_below (Below.chain hl.below hb1),h.below (Below.chain hl.below hb1)⟩)
 have e1:=beq_eq_false_iff_ne.2 h1
 have e2:=beq_eq_false_iff_ne.2 h2
 have e3:=beq_eq_false_iff_ne.2 h3
 have e4:=beq_eq_false_iff_ne.2 h4
 have e5:=beq_eq_false_iff_ne.2 h5
 obtain⟨a,c,rfl⟩:=fb hl
 clear h hl hb1 h1 h2 h3 h4 h5
 unfold dO dM cH cG dN at *
 go_enter Tryz.func249,Tryz.ntmps249
 go_wp2_with fail
 go_end0
 exact⟨rfl,HG.out⟩
end
theorem zcT (w:World) (s:Txt) (hs:s.length≤1000000000):∃c W,(convert 9 49 (.string (bs s))).run Tryz.prog w=.ok (.slice (some ⟨w.heap.size,0,none⟩) s.length c) W∧W.rangeAt w.heap.size 0 (Lib.byteCells s)∧s.length≤c∧c≤maxLen∧(∀j,j<s.length→W.frozen? ⟨w.heap.size,j,none⟩=false)∧Below w.heap.size w W:=by
 have h:=run_bytes_of_string (P:=Tryz.prog) w 9 49 5 (bs s) (by kernel_rfl) Tryz.underlying49 (by kernel_rfl)
 have hz:(bs s).size=s.length:=aV s
 rw[hz] at h
 have hb:=ab w.drew (.cells (bytesRow (bs s) (grownCap w s.length 0 5)) 5 ((bytesRow (bs s) (grownCap w s.length 0 5)).size,(bytesRow (bs s) (grownCap w s.length 0 5)).size+1))
 have hn:=heap_alloc_new w.drew (.cells (bytesRow (bs s) (grownCap w s.length 0 5)) 5 ((bytesRow (bs s) (grownCap w s.length 0 5)).size,(bytesRow (bs s) (grownCap w s.length 0 5)).size+1))
 refine⟨_,_,h,fun j v hv=>?_,grownCap_ge _ _ _ _,grownCap_le_maxLen _ _ _ _ (by unfold maxLen;omega),fun j hj=>?_,hb.os,hb.tape,hb.output,hb.size,hb.block⟩
 ·refine(cell_of_row _ w.drew.heap.size (0+j) _ _ _ hn).trans ?_
  rw[Nat.zero_add]
  exact mt s _ j v hv
 ·have h1:=mt s (grownCap w s.length 0 5) j (.int .u8 (s[j].toNat:Int)) (by simp[Lib.byteCells,hj])
  have h2:j<(bytesRow (bs s) (grownCap w s.length 0 5)).size:=(Array.getElem?_eq_some_iff.1 h1).1
  have h3:∀X:World,X.heap[w.heap.size]?=some (.cells (bytesRow (bs s) (grownCap w s.length 0 5)) 5 ((bytesRow (bs s) (grownCap w s.length 0 5)).size,(bytesRow (bs s) (grownCap w s.length 0 5)).size+1))→X.frozen? ⟨w.heap.size,j,none⟩=false:=fun X hX=>by
   unfold World.frozen?
   rw[hX]
   simp
   omega
  exact h3 _ hn
def kG (s:Txt) (k:Nat):Txt:=(s.take k).map upB++s.drop k
theorem kz (s:Txt) (k:Nat):(kG s k).length=s.length:=by
 unfold kG
 simp only[List.length_append,List.length_map,List.length_take,List.length_drop]
 omega
theorem zcg (s:Txt) (k:Nat) (h:k<s.length):(kG s k)[k]'(by rw[kz];exact h)=s[k]:=by
 unfold kG
 rw[List.getElem_append_right (by simp;omega)]
 simp[Nat.min_eq_left (Nat.le_of_lt h)]
theorem zK (s:Txt) (k:Nat) (h:k<s.length):kG s (k+1)=(kG s k).set k (upB s[k]):=by
 unfold kG
 have e:((s.take k).map upB).length=k:=by simp;omega
 rw[List.take_succ_eq_append_getElem h,List.map_append,List.map_cons,List.map_nil,List.append_assoc,List.set_append_right _ _ (by omega),e,Nat.sub_self]
 congr 1
 rw[List.drop_eq_getElem_cons h]
 rfl
theorem zc9 {c:UInt8} (h:¬(97≤c.toNat∧c.toNat≤122)):upB c=c:=by
 unfold upB
 rw[if_neg]
 rintro⟨h1,h2⟩
 exact h ⟨by simpa using UInt8.le_iff_toNat_le.1 h1,by simpa using UInt8.le_iff_toNat_le.1 h2⟩
theorem zcF {c:UInt8} (h:97≤c.toNat∧c.toNat≤122):(upB c).toNat=c.toNat-32:=by
 have h1:(97:UInt8)≤c:=UInt8.le_iff_toNat_le.2 (by simpa using h.1)
 have h2:c≤(122:UInt8):=UInt8.le_iff_toNat_le.2 (by simpa using h.2)
 unfold upB
 rw[if_pos ⟨h1,h2⟩,UInt8.toNat_sub_of_le _ _ (UInt8.le_iff_toNat_le.2 (by simp;omega))]
 rfl
theorem yf {W:World} {b k:Nat} {l:Txt} {c:UInt8} (h:W.rangeAt b 0 (Lib.byteCells l)) (hk:k<l.length):(W.setCell ⟨b,k,none⟩ (.int .u8 (c.toNat:Int))).rangeAt b 0 (Lib.byteCells (l.set k c)):=by
 intro j v hv
 have hj:j<l.length:=by
  have:=(List.getElem?_eq_some_iff.1 hv).1
  rwa [Lib.byteCells_length,List.length_set] at this
 simp only[Lib.byteCells,List.getElem?_map,List.getElem?_set] at hv
 rw[Nat.zero_add]
 by_cases e:k=j
 ·subst e
  have h1:=h k (.int .u8 (l[k].toNat:Int)) (by simp[Lib.byteCells,hk])
  rw[Nat.zero_add] at h1
  rw[if_pos rfl,if_pos hk] at hv
  simp only[Option.map_some,Option.some.injEq] at hv
  rw[World.cell?_setCell_same _ _ _ h1,hv]
 ·rw[dS _ (fun e2=>e e2.2)]
  rw[if_neg e] at hv
  have h1:=h j v (by simp only[Lib.byteCells,List.getElem?_map];exact hv)
  rwa [Nat.zero_add] at h1
section
variable {B g km mb:Nat} {D:Nat→Prop} {env:List (Txt×Txt)} {r:aw} {w0 w W:World} {tv ev:Value} {vs cs:List Value}
set_option maxHeartbeats 4000000 in
theorem vd (h:bA B D g env r w0) {ls:List Txt} {v:Value} (hl:dv w0 w ls v) (x:Txt):Calls Tryz.prog 249 #[.pointer (some ⟨g,0,none⟩),.string (bs cH),.string (bs x),v] w fun e w2=>e=.returned (.tuple #[])∧aD B D g env {r with buffer:=r.buffer.map upB} w0 w2:=by
 have hb1:=ab w (.cells #[.string (bs x)] 9)
 have hsl:r.buffer.length≤65536:=by obtain⟨_,_,_,_,_,_,h0⟩:=h;exact h0.sm.buf
 have HS:=hid (fun(w':World) (hb:Below (w.alloc (.cells #[.string (bs x)] 9)).heap.size (w.alloc (.cells #[.string (bs x)] 9)) w')=>And.intro (zau h (Below.chain (Below.chain hl.below hb1) hb)) (bA.buf h (Below.chain (Below.chain hl.below hb1) hb) (r.buffer.map upB) (by simpa using hsl)))
 obtain⟨c2,f2⟩:=(HS.out _ (Below.refl _ _)).1
 obtain⟨a,c,rfl⟩:=fb hl
 clear h hl hb1
 obtain⟨cc,W2,hcv,hrg,hc1,hc2,hfz,hb2⟩:=zcT (w.alloc (.cells #[.string (bs x)] 9)) r.buffer (by omega)
 have hz:(w.alloc (.cells #[.string (bs x)] 9)).heap.size=w.heap.size+1:=World.size_alloc _ _
 rw[hz] at hcv hrg hfz
 have HRG:=hid hrg
 have HFZ:=hid hfz
 have HB2:=hid hb2
 have hcm:cc≤9223372036854775807:=by unfold maxLen at hc2;omega
 clear hrg hfz hb2 hc2
 generalize r.buffer=s at *
 unfold cH
 go_enter Tryz.func249,Tryz.ntmps249
 go_wp2_with fail
 go_loopw [34] (fun i wr=>∃k:Nat,k≤s.length∧i=.int .i64 k∧wr.rangeAt (w.heap.size+1) 0 (Lib.byteCells (kG s k))∧(∀j,j<s.length→wr.frozen? ⟨w.heap.size+1,j,none⟩=false)∧Below (w.alloc (.cells #[.string (bs x)] 9)).heap.size (w.alloc (.cells #[.string (bs x)] 9)) wr) (fun i _=>s.length-(intOf i).toNat)
 case atStart=>exact⟨0,Nat.zero_le _,rfl,HRG.out,HFZ.out,HB2.out⟩
 case round=>
  obtain⟨k,hk,rfl,hrg,hfz,hbe⟩:=hrel
  have HRK:=hid hrg
  have HFK:=hid hfz
  have HBK:=hid hbe
  by_cases aH:k<s.length
  ·have e0:(kG s k)[k]?=some s[k]:=by rw[List.getElem?_eq_getElem (by rw[kz];exact aH),zcg s k aH]
   have L0:=hrg k (.int .u8 (s[k].toNat:Int)) (by simp only[Lib.byteCells,List.getElem?_map,e0,Option.map_some])
   rw[Nat.zero_add] at L0
   have F0:=hfz k aH
   have HN:=hid (zK s k aH)
   have HE:=hid e0
   have hc256:=s[k].toNat_lt
   clear hrg hfz hbe e0
   generalize s[k]=ch at *
   by_cases hup:97≤ch.toNat∧ch.toNat≤122
   ·have E1:decide (97≤(ch.toNat:Int))=true:=decide_eq_true (by omega)
    have E2:decide ((ch.toNat:Int)≤122)=true:=decide_eq_true (by omega)
    go_wp2_with fail
    refine⟨⟨k+1,by omega,by go_num,?_,fun j hj=>?_,HBK.out.setCell (p:=⟨w.heap.size+1,k,none⟩) (by rw[World.size_alloc];exact Nat.le_refl _) _⟩,by simp[intOf];omega⟩
    ·have e:(ch.toNat:Int)-32=((upB ch).toNat:Int):=by rw[zcF hup];omega
     rw[HN.out,e]
     exact yf HRK.out (by rw[kz];exact aH)
    ·rw[World.frozen?_setCell]
     exact HFK.out j hj
   ·have hsame:=zc9 hup
    have HR2:=hid (show wr.rangeAt (w.heap.size+1) 0 (Lib.byteCells (kG s (k+1))) from by
     have e:(kG s k).set k ch=kG s k:=by
      refine List.ext_getElem? fun i=>?_
      rw[List.getElem?_set]
      by_cases h:k=i
      ·subst h
       rw[if_pos rfl,if_pos (by rw[kz];exact aH),HE.out]
      ·rw[if_neg h]
     rw[HN.out,hsame,e]
     exact HRK.out)
    by_cases h97:97≤ch.toNat
    ·have E1:decide (97≤(ch.toNat:Int))=true:=decide_eq_true (by omega)
     have E2:decide ((ch.toNat:Int)≤122)=false:=decide_eq_false (by omega)
     go_wp2_with fail
     exact⟨⟨k+1,by omega,by go_num,HR2.out,HFK.out,HBK.out⟩,by simp[intOf];omega⟩
    ·have E1:decide (97≤(ch.toNat:Int))=false:=decide_eq_false (by omega)
     go_wp2_with fail
     exact⟨⟨k+1,by omega,by go_num,HR2.out,HFK.out,HBK.out⟩,by simp[intOf];omega⟩
  ·obtain rfl:k=s.length:=by omega
   have e:kG s s.length=s.map upB:=by unfold kG;simp
   rw[e] at hrg
   have hcb:=nI (cap:=cc) hrg
   rw[List.length_map] at hcb
   obtain⟨⟨c2,f2⟩,hg2⟩:=HS.out _ hbe
   have HG2:=hid hg2
   clear hrg hfz hbe hg2
   go_wp2_with fail
   go_end0
   exact⟨rfl,HG2.out⟩
end
theorem qn (s x:Txt) (bx:Nat) (w:World) (hs:s.length≤1000000) (hc:w.cell? ⟨bx,0,none⟩=some (.string (bs x))) (hm:bE w):Calls Tryz.prog 301 #[.string (bs s),.pointer (some ⟨bx,0,none⟩)] w fun e w'=>e=.returned (.bool (!Lib.contains s x))∧w'=w:=by
 obtain⟨m,hm⟩:=hm
 have HC:=hid (Tryz.strings_Contains (bs s) (bs x) m w (by rw[aV];omega) hm)
 simp only[bs] at HC
 rw[show(⟨s.toArray⟩:ByteArray)=bs s from rfl,show(⟨x.toArray⟩:ByteArray)=bs x from rfl] at HC
 go_enter Tryz.func301,Tryz.ntmps301
 go_wp2_with (go_at_call 248;refine HC.out.mono ?_;rintro e W2 ⟨rfl,rfl⟩)
 go_ret
 exact⟨rfl,rfl⟩
structure gX (b cap:Nat) (w:World) (cur:List Txt):Prop where
 out:∃C:Array Value,w.heap[b]?=some (.cells C 9 (0,0))∧C.size=cap∧C.toList.take cur.length=ag cur
theorem gX.cell {b cap:Nat} {w:World} {cur:List Txt} (h:gX b cap w cur) (p:Nat) (hp:p<cur.length):w.cell? ⟨b,p,none⟩=some (.string (bs cur[p]))∧w.frozen? ⟨b,p,none⟩=false:=by
 obtain⟨C,h1,h2,h3⟩:=h.out
 refine⟨?_,Lib.frozen_of_heap h1 p⟩
 rw[cell_of_row _ _ _ _ _ _ h1]
 have e:=congrArg (·[p]?) h3
 simp only[List.getElem?_take,if_pos hp,Array.getElem?_toList] at e
 rw[e]
 simp[ag,hp]
theorem gX.set {b cap:Nat} {w:World} {cur:List Txt} (h:gX b cap w cur) (p:Nat) (_hp:p<cur.length) (s:Txt):gX b cap (w.setCell ⟨b,p,none⟩ (.string (bs s))) (cur.set p s):=by
 obtain⟨C,h1,h2,h3⟩:=h.out
 obtain⟨n1, -⟩:=au h1 p (.string (bs s))
 refine⟨_,n1,by rw[Array.size_setIfInBounds];exact h2,?_⟩
 rw[Array.toList_setIfInBounds,List.length_set,List.take_set,h3]
 unfold ag
 rw[List.map_set]
theorem gX.lt {b cap:Nat} {w:World} {cur:List Txt} (h:gX b cap w cur):b<w.heap.size:=by
 obtain⟨C,h1, -⟩:=h.out
 exact lx (hid h1)
theorem gX.own {b cap base k:Nat} {w:World} {cur:List Txt} (h:gX b cap w cur) (hb:base≤b) (hc:cap≤maxLen) (hk:k≤cur.length) (hk2:cur.length≤cap):w.ownsRow base 9 1 (.slice (some ⟨b,0,none⟩) k cap) k (ag (cur.take k)):=by
 obtain⟨C,h1,h2,h3⟩:=h.out
 refine⟨by simp[ag];omega,.inr ⟨b,cap,C,rfl,hb,h1,by omega,hc,by omega,?_⟩⟩
 have e:=congrArg (List.take k) h3
 rw[List.take_take,Nat.min_eq_left hk] at e
 rw[Nat.mul_one,e]
 unfold ag
 rw[List.map_take]
theorem gX.clear {b cap:Nat}:∀(m i:Nat) (w:World) (cur:List Txt),gX b cap w cur→i+m≤cur.length→∃cur',gX b cap (w.setCells b i (List.replicate m (.string (bs [])))) cur'∧cur'.length=cur.length∧cur'.take i=cur.take i∧bg b w (w.setCells b i (List.replicate m (.string (bs []))))
 |0,i,w,cur,h,_=>⟨cur,h,rfl,rfl,h.lt,az.refl _ _⟩
 |m+1,i,w,cur,h,hi=>by
  obtain⟨C,h1, -⟩:=h.out
  obtain⟨-,t1⟩:=au h1 i (.string (bs []))
  obtain⟨cur',k1,k2,k3,k4⟩:=gX.clear m (i+1) _ _ (h.set i (by omega) []) (by rw[List.length_set];omega)
  refine⟨cur',k1,by rw[k2,List.length_set],?_,t1.trans k4⟩
  have e:=congrArg (List.take i) k3
  rw[List.take_take,List.take_take,Nat.min_eq_left (by omega),List.take_set] at e
  exact e.trans (List.set_eq_of_length_le (by rw[List.length_take];exact Nat.min_le_left _ _))
def zed (x:Txt) (ls:List Txt) (o:Option Nat):Prop:=match o with
 |none=>∀s∈ls,Lib.contains s x=true
 |some j=>∃h:j<ls.length,Lib.contains ls[j] x=false∧∀i (hi:i<j),Lib.contains (ls[i]'(by omega)) x=true
set_option maxHeartbeats 4000000 in
theorem zcG (x:Txt) (bx b cap:Nat) (ls:List Txt) (w:World) (hk:gX b cap w ls) (hn:ls.length≤65537) (hs:∀s∈ls,s.length≤1000000) (hc:w.cell? ⟨bx,0,none⟩=some (.string (bs x))) (hm:bE w):
 Calls Tryz.prog 182 #[.slice (some ⟨b,0,none⟩) ls.length cap,.func (.func 301) #[] #[.pointer (some ⟨bx,0,none⟩)]] w fun e w'=>∃o,e=.returned (.int .i64 (match o with|none=> -1|some j=>(j:Int)))∧zed x ls o∧w'=w:=by
 have HK:=hid hk
 have HF:=hid (fun(s:Txt) (h:s∈ls)=>qn s x bx w (hs s h) hc hm)
 clear hk hs hc hm
 go_enter Tryz.func182,Tryz.ntmps182
 go_wp2_with fail
 go_loopw [8] (fun i wr=>∃k:Nat,k≤ls.length∧i=.int .i64 k∧(∀j (hj:j<ls.length),j<k→Lib.contains ls[j] x=true)∧wr=w) (fun i _=>ls.length-(intOf i).toNat)
 case atStart=>exact⟨0,Nat.zero_le _,rfl,fun j _ h=>absurd h (Nat.not_lt_zero _),rfl⟩
 case round=>
  obtain⟨k,hk,rfl,hall,rfl⟩:=hrel
  have HA:=hid hall
  clear hall
  by_cases aH:k<ls.length
  ·have L0:=(HK.out.cell k aH).1
   have HC:=hid (HF.out _ (List.getElem_mem aH))
   cases hq:Lib.contains ls[k] x with
   |true=>
    rw[hq] at HC
    have HQ:=hid hq
    clear hq
    go_wp2_with (go_at_call 301;refine HC.out.mono ?_;rintro e W2 ⟨rfl,rfl⟩)
    exact⟨⟨k+1,by omega,by go_num,fun j hj hjk=>by
     by_cases e:j=k
     ·subst e;exact HQ.out
     ·exact HA.out j hj (by omega),trivial⟩,by simp[intOf];omega⟩
   |false=>
    rw[hq] at HC
    have HQ:=hid hq
    clear hq
    go_wp2_with (go_at_call 301;refine HC.out.mono ?_;rintro e W2 ⟨rfl,rfl⟩)
    go_ret
    exact⟨some k,rfl,⟨aH,HQ.out,fun i hi=>HA.out i (by omega) hi⟩,rfl⟩
  ·obtain rfl:k=ls.length:=by omega
   go_wp2_with fail
   go_ret
   exact⟨none,rfl,fun s hs=>by
    obtain⟨i,hi,rfl⟩:=List.getElem_of_mem hs
    exact HA.out i hi hi,rfl⟩
set_option maxHeartbeats 8000000 in
theorem zcQ (x:Txt) (bx b cap:Nat) (ls:List Txt) (w:World) (hk:gX b cap w ls) (hn:ls.length≤65537) (hcap:ls.length≤cap) (hcm:cap≤9223372036854775807) (hs:∀s∈ls,s.length≤1000000) (hc:w.cell? ⟨bx,0,none⟩=some (.string (bs x))) (hbx:bx≠b) (hb:0<b) (hm:bE w):
 Calls Tryz.prog 300 #[.slice (some ⟨b,0,none⟩) ls.length cap,.func (.func 301) #[] #[.pointer (some ⟨bx,0,none⟩)]] w fun e w'=>∃k cur,e=.returned (.slice (some ⟨b,0,none⟩) k cap)∧gX b cap w' cur∧cur.length=ls.length∧k≤ls.length∧cur.take k=ls.filter (fun s=>Lib.contains s x)∧bg b w w':=by
 have HI:=hid (zcG x bx b cap ls w hk hn hs hc hm)
 have HK:=hid hk
 have HF:=hid (fun(s:Txt) (h:s∈ls) (W:World) (ht:bg b w W)=>qn s x bx W (hs s h) ((World.cell?_of_block (ht.foot.block bx (World.block_lt_of_cell? w _ hc) hbx)).trans hc) (by
  obtain⟨m,hm⟩:=hm
  exact⟨m,(World.cell?_of_block (ht.foot.block 0 (World.block_lt_of_cell? w _ hm) (by omega))).trans hm⟩))
 clear hk hs hc hm
 go_enter Tryz.func300,Tryz.ntmps300
 go_wp2_with (go_at_call 182;refine HI.out.mono ?_;rintro e W2 ⟨o,rfl,hfirst,rfl⟩;rcases o with _|j0)
 ·go_wp2_with fail
  go_ret
  refine⟨_,ls,rfl,HK.out,rfl,Nat.le_refl _,?_,HK.out.lt,az.refl _ _⟩
  rw[List.take_length]
  exact(List.filter_eq_self.2 hfirst).symm
 ·obtain⟨hj0,hno,hall⟩:=hfirst
  have E1:((j0:Int)== -1)=false:=eqF (by omega)
  have HST:=hid (show ls.take j0=(ls.take (j0+1)).filter (fun s=>Lib.contains s x) from by
   rw[List.take_succ_eq_append_getElem hj0,List.filter_append,List.filter_cons,hno]
   simp only[Bool.false_eq_true,if_false,List.filter_nil,List.append_nil]
   refine(List.filter_eq_self.2 fun s hs=>?_).symm
   obtain⟨i,hi,rfl⟩:=List.getElem_of_mem hs
   have hi2:i<j0:=by have h3:=hi;rw[List.length_take] at h3;omega
   rw[List.getElem_take]
   exact hall i hi2)
  clear hno hall
  go_wp2_with fail
  go_loopw [5,6] (fun vi vj wr=>∃(i j:Nat) (cur:List Txt),i<j∧j≤ls.length∧vi=.int .i64 i∧vj=.int .i64 j∧gX b cap wr cur∧cur.length=ls.length∧cur.take i=(ls.take j).filter (fun s=>Lib.contains s x)∧cur.drop j=ls.drop j∧bg b W2 wr) (fun _ vj _=>ls.length-(intOf vj).toNat)
  case atStart=>exact⟨j0,j0+1,ls,by omega,by omega,rfl,congrArg _ (show wrap64 ((j0:Int)+1)=((j0+1:Nat):Int) from by unfold wrap64;omega),HK.out,rfl,HST.out,rfl,HK.out.lt,az.refl _ _⟩
  case round=>
   obtain⟨i,j,cur,hij,hj,rfl,rfl,hkr,aX,htk,hdr,htu⟩:=hrel
   have HKR:=hid hkr
   have HTU:=hid htu
   by_cases aH:j<ls.length
   ·have hjc:j<cur.length:=by omega
    have e1:cur[j]=ls[j]:=by
     have h1:=congrArg (·[0]?) hdr
     simp only[List.getElem?_drop,Nat.add_zero] at h1
     rw[List.getElem?_eq_getElem hjc,List.getElem?_eq_getElem aH] at h1
     exact Option.some.inj h1
    have L0:=(hkr.cell j hjc).1
    rw[e1] at L0
    have hic:i<cur.length:=by omega
    obtain⟨L1,F1⟩:=hkr.cell i hic
    have HC:=hid (HF.out _ (List.getElem_mem aH) wr htu)
    have HT:=hid (show(ls.take (j+1)).filter (fun s=>Lib.contains s x)=(ls.take j).filter (fun s=>Lib.contains s x)++if Lib.contains ls[j] x=true then[ls[j]] else[] from by
     rw[List.take_succ_eq_append_getElem aH,List.filter_append,List.filter_cons,List.filter_nil])
    have HD:=hid (And.intro htk hdr)
    have HDJ:=hid (show cur.drop (j+1)=ls.drop (j+1) from by
     have:=congrArg (List.drop 1) hdr
     rwa [List.drop_drop,List.drop_drop] at this)
    clear hkr htu htk hdr e1
    cases hq:Lib.contains ls[j] x with
    |true=>
     rw[hq] at HC HT
     have HKS:=hid (HKR.out.set i hic ls[j])
     have HSET:=hid (fun(v:Value)=>show bg b wr (wr.setCell ⟨b,i,none⟩ v) from mD i v HKR.out.lt)
     clear hq
     generalize ls[j]=lj at *
     go_wp2_with (go_at_call 301;refine HC.out.mono ?_;rintro e W3 ⟨rfl,rfl⟩)
     refine⟨?_,by simp[intOf];omega⟩
     (repeat apply Exists.intro)
     exact⟨⟨i+1,j+1,cur.set i lj,by omega,by omega,by go_num,by go_num,HKS.out,by rw[List.length_set];exact aX,by rw[HT.out,if_pos trivial,←HD.out.1];exact tG _ (by omega),by rw[List.drop_set_of_lt (by omega)];exact HDJ.out,HTU.out.trans (HSET.out _)⟩,rfl⟩
    |false=>
     rw[hq] at HC HT
     clear hq
     generalize ls[j]=lj at *
     go_wp2_with (go_at_call 301;refine HC.out.mono ?_;rintro e W3 ⟨rfl,rfl⟩)
     refine⟨?_,by simp[intOf];omega⟩
     (repeat apply Exists.intro)
     exact⟨⟨i,j+1,cur,by omega,by omega,rfl,by go_num,HKR.out,aX,by rw[HT.out,if_neg (by simp),List.append_nil];exact HD.out.1,HDJ.out,HTU.out⟩,rfl⟩
   ·obtain rfl:j=ls.length:=by omega
    rw[List.take_length] at htk
    obtain⟨cur',k1,k2,k3,k4⟩:=gX.clear (ls.length-i) i wr cur hkr (by omega)
    have hcl2:∀ty,(Builtin.clear_ #[46] ty #[.slice (some ⟨b,i,none⟩) (ls.length-i) (cap-i)]).run Tryz.prog wr=.ok (.tuple #[]) (wr.setCells b i (List.replicate (ls.length-i) (.string (bs [])))):=fun ty=>
     Lib.run_clear_slice wr 46 9 ty (.string (bs [])) Tryz.underlying46 (fun w=>rfl) rfl rfl b i (ls.length-i) (cap-i) (by omega) (fun j hj=>by rw[(hkr.cell (i+j) (by omega)).1];rfl) (fun j hj=>(hkr.cell (i+j) (by omega)).2)
    have HTK:=hid htk
    have HEND:=hid (And.intro k1 (And.intro k2 (And.intro k3 k4)))
    clear hkr htk hdr htu k1 k2 k3 k4
    go_wp2_with fail
    go_ret
    exact⟨i,cur',rfl,HEND.out.1,by rw[HEND.out.2.1];exact aX,by omega,by rw[HEND.out.2.2.1,HTK.out],HTU.out.trans HEND.out.2.2.2⟩
section
variable {B g km mb:Nat} {D:Nat→Prop} {env:List (Txt×Txt)} {r:aw} {w0 w W:World} {tv ev:Value} {vs cs:List Value}
theorem zdc (bx:Nat) (w:World):Calls Tryz.prog 182 #[.slice none 0 0,.func (.func 301) #[] #[.pointer (some ⟨bx,0,none⟩)]] w fun e w'=>e=.returned (.int .i64 (-1))∧w'=w:=by
 go_enter Tryz.func182,Tryz.ntmps182
 go_wp2_with fail
 go_loopw [8] (fun i wr=>i=.int .i64 0∧wr=w) (fun i _=>0)
 case atStart=>exact⟨rfl,rfl⟩
 case round=>
  obtain⟨rfl,rfl⟩:=hrel
  go_wp2_with fail
  go_ret
  exact⟨rfl,rfl⟩
theorem zc6 (bx:Nat) (w:World):Calls Tryz.prog 300 #[.slice none 0 0,.func (.func 301) #[] #[.pointer (some ⟨bx,0,none⟩)]] w fun e w'=>e=.returned (.slice none 0 0)∧w'=w:=by
 have HI:=hid (zdc bx w)
 go_enter Tryz.func300,Tryz.ntmps300
 go_wp2_with (go_at_call 182;refine HI.out.mono ?_;rintro e W2 ⟨rfl,rfl⟩)
 go_ret
 exact⟨rfl,rfl⟩
theorem zb9 {ls:List Txt} {v:Value} (h:dv w0 w ls v) (x:Txt) (bx:Nat) (hc:w.cell? ⟨bx,0,none⟩=some (.string (bs x))) (hv:∀k,v.ownBlock=some k→k≠bx) (hm:bE w) (h0:0<w0.heap.size):
 Calls Tryz.prog 300 #[v,.func (.func 301) #[] #[.pointer (some ⟨bx,0,none⟩)]] w fun e w'=>∃v',e=.returned v'∧dv w0 w' (ls.filter fun s=>Lib.contains s x) v':=by
 have hls:∀s∈ls,s.length≤1000000:=fun s hs=>Nat.le_trans (h.each s hs) (by omega)
 obtain⟨hl,⟨rfl,he⟩|⟨b,cap,C,rfl,hb,hg,hn,hcm,hsz,htk⟩⟩:=h.row
 ·have e0:ls=[]:=List.length_eq_zero_iff.1 he
  subst e0
  refine(zc6 bx w).mono ?_
  rintro e w' ⟨rfl,rfl⟩
  exact⟨_,rfl,h⟩
 ·rw[Nat.mul_one] at hsz htk
  have hk:gX b cap w ls:=⟨C,hg,hsz,htk⟩
  refine(zcQ x bx b cap ls w hk h.few hn (by unfold maxLen at hcm;omega) hls hc (fun e=>hv b rfl e.symm) (by omega) hm).mono ?_
  rintro e w' ⟨k,cur,rfl,hk2,aX,hkl,hcur,ht⟩
  have h2:=(List.filter_sublist (p:=fun s=>Lib.contains s x) (l:=ls)).length_le
  have h3:=hk2.own hb hcm (by omega) (by omega) (k:=k)
  have h4:(ls.filter fun s=>Lib.contains s x).length=k:=by rw[←hcur,List.length_take];omega
  rw[hcur] at h3
  exact⟨_,rfl,⟨by rw[h4];exact h3,h.below.trans (ht.below hb),Nat.le_trans h2 h.few,fun s hs=>h.each s ((List.mem_filter.1 hs).1)⟩⟩
theorem zD (h:bA B D g env r w0) {ls:List Txt} {v:Value} (hl:dv w0 w ls v) (hg:aM B w) (h0:0<w0.heap.size) (x:Txt):Calls Tryz.prog 249 #[.pointer (some ⟨g,0,none⟩),.string (bs dN),.string (bs x),v] w fun e w2=>e=.returned (.tuple #[])∧aD B D g env (jx r (ls.filter fun s=>Lib.contains s x)) w0 w2:=by
 have hb1:=ab w (.cells #[.string (bs x)] 9)
 have HL:=hid (zb9 (hl.next hb1) x w.heap.size ((cell_of_row _ _ 0 _ _ _ (heap_alloc_new w (.cells #[.string (bs x)] 9))).trans rfl) (fun k hk=>by have:=(hl.row.lt k hk).2;omega) (hg.below hb1).max h0)
 have HS:=hid (fun(w':World) (v:Value) (h':dv w0 w' (ls.filter fun s=>Lib.contains s x) v)=>oU h h')
 obtain⟨a,c,rfl⟩:=fb hl
 clear h hl hg h0 hb1
 generalize (ls.filter fun s=>Lib.contains s x)=ls' at *
 unfold dN
 go_enter Tryz.func249,Tryz.ntmps249
 go_wp2_with first|(go_at_call 300;refine HL.out.mono ?_;rintro e W2 ⟨v2,rfl,h2⟩;obtain⟨a2,c2,rfl⟩:=fb h2)|(go_at_call 299;refine(HS.out _ _ h2).mono ?_;rintro e W3 ⟨rfl,hg⟩)
 go_end0
 exact⟨rfl,hg⟩
def nQ (r:aw) (n a:Txt) (l:List Txt):aw:=
 if n=dO then jx r (l.mergeSort fun x y=>decide (x≤y))
 else if n=dM then jx r (Lib.compact l)
 else if n=cH then{r with buffer:=r.buffer.map upB}
 else if n=cG then{r with buffer:=Lib.itoa (l.length:Int)++[10]}
 else if n=dN then jx r (l.filter fun s=>Lib.contains s a)
 else r
theorem i8 (h:bA B D g env r w0) {ls:List Txt} {v:Value} (hl:dv w0 w ls v) (hg:aM B w) (h0:0<w0.heap.size) (n x:Txt):Calls Tryz.prog 249 #[.pointer (some ⟨g,0,none⟩),.string (bs n),.string (bs x),v] w fun e w2=>e=.returned (.tuple #[])∧aD B D g env (nQ r n x ls) w0 w2:=by
 unfold nQ
 by_cases h1:n=dO
 ·rw[if_pos h1,h1]
  exact zb h hl x
 rw[if_neg h1]
 by_cases h2:n=dM
 ·rw[if_pos h2,h2]
  exact zo h hl x
 rw[if_neg h2]
 by_cases h3:n=cH
 ·rw[if_pos h3,h3]
  exact vd h hl x
 rw[if_neg h3]
 by_cases h4:n=cG
 ·rw[if_pos h4,h4]
  exact vA h hl hg x
 rw[if_neg h4]
 by_cases h5:n=dN
 ·rw[if_pos h5,h5]
  exact zD h hl hg h0 x
 rw[if_neg h5]
 exact xW h hl n x h1 h2 h3 h4 h5
end
end Go.Proofs.YtlbipokkdiiaiaaGreatDoor
