/- Lemmas and walks that the statement needs: Base, Frame, PackPlain, NumPlain, LexPlain, LexBytes, LexPass, BytesOwn, LexQuoted, Cells. -/
import Derived.WalkKit
import Derived.WalkSpells
import Derived.WalkLawsBesides
import Derived.Deep.QuietTactic
import Derived.BigQuiet
import Derived.WalkSmall
import Derived.Laws.AppendOwnNone
import Derived.Test.YtfgiihpopngbkaaGreatDoorRows
import Derived.Test.YtfgiihpopngbkaaGreatDoorCards
import Derived.Test.YtfgiihpopngbkaaGreatDoorTie
import Derived.ProofKit
import Derived.SizedLaws
import Derived.Deep.DeepHandedRow
import Derived.Lib.LaidTab
import Derived.Deep.Slices
import Derived.Lib.ItoaNum
import Derived.Lib.ParseIntBCases
import Derived.Test.YtfgiihpopngbkaaGreatDoorChecked
import Derived.Test.YtfgiihpopngbkaaGreatDoorShelf
import Derived.Deep.RegionWith
import Derived.Laws.IdiomStrings
import Derived.Laws.BytesArg
import Derived.Lib.UnsafeStr
namespace Go.Proofs.YtfgiihpopngbkaaGreatDoor
set_option maxRecDepth 100000
set_option maxHeartbeats 8000000
open Go.RowKit
open Nat renaming lt_of_lt_of_le→nL
open List renaming length_append→lAp,length_cons→lCo
open Nat renaming le_refl→nRe
open Go.World renaming size_alloc→wSz
open _root_.Bool renaming and_eq_true→bAe
open _root_.Array renaming getElem?_eq_some_iff→aGe
theorem hid {p:Prop} (h:p):Hid p:=h
theorem eqT {a b:Int} (h:a=b):(a == b)=true:=beq_iff_eq.2 h
theorem eqF {a b:Int} (h:a≠b):(a == b)=false:=beq_eq_false_iff_ne.2 h
theorem neT {a b:Int} (h:a≠b):(a != b)=true:=bne_iff_ne.2 h
theorem neF {a b:Int} (h:a=b):(a != b)=false:=by subst h;exact bne_self_eq_false _
def bs (l:List UInt8):ByteArray:=⟨l.toArray⟩
theorem vr (s:ByteArray):bs s.data.toList=s:=rfl
theorem yj {s t:ByteArray} (h:s.data.toList=t.data.toList):s=t:=by
 rw [← vr s,← vr t,h]
theorem kt (l:List UInt8):(bs l).size=l.length:=rfl
theorem ww (l:List UInt8):(bs l).toList=l:=by rw [ByteArray.toList_eq];rfl
theorem mo (l r:List UInt8):bs l++bs r=bs (l++r):=by
 apply yj;show (bs l++bs r).data.toList=l++r;rw [ByteArray.data_append,Array.toList_append];rfl
theorem qX (l:List UInt8) (a:Array UInt8):bs l++ByteArray.mk a=bs (l++a.toList):=mo l a.toList
theorem qB (l:List UInt8) (a:Array UInt8):ByteArray.mk a++bs l=bs (a.toList++l):=mo a.toList l
theorem yV {l:List UInt8} {k:Nat} (h:k<(bs l).size):k<l.length:=h
theorem zcc (l:List UInt8) (k:Nat) (h:k<(bs l).size):(bs l)[k]=l[k]'(yV h):=rfl
theorem uu (l:List UInt8) (j k:Nat):(bs l).extract j k=bs ((l.drop j).take (k - j)):=by
 apply yj;show _=(l.drop j).take (k - j);rw [ByteArray.data_extract,Array.toList_extract,List.extract_eq_take_drop];rfl
attribute [go_sem] kt ww mo qX qB zcc uu
def dS (w w':World):Prop:=∃ d,w'=w.drewN d
theorem dS.refl (w:World):dS w w:=⟨0,rfl⟩
theorem dS.drewN {w w':World} (h:dS w w') (n:Nat):dS w (w'.drewN n):=by
 obtain ⟨d,rfl⟩:=h;exact ⟨d+n,by simp [World.drewN,Nat.add_assoc]⟩
theorem dS.trans {a b c:World} (h:dS a b) (k:dS b c):dS a c:=by
 obtain ⟨d,rfl⟩:=k;exact h.drewN d
theorem dS.below {B:Nat} {w w':World} (h:dS w w'):Below B w w':=by
 obtain ⟨d,rfl⟩:=h;exact ⟨rfl,rfl,rfl,nRe _,fun _ _=>rfl⟩
theorem zdy {w w1 w2:World} (h:Below w.heap.size w w1) (k:Below w1.heap.size w1 w2):Below w.heap.size w w2:=h.trans (k.mono h.size)
def a9 (w:World) (size:Nat) (v:Value) (n:Nat) (xs:List Value):Prop :=
 xs.length=n * size∧∃ a c,v=.slice a n c∧n≤c∧c≤maxLen∧(a=none→c=0) ∧
  (xs≠[]→∃ b off,a=some ⟨b,off,none⟩∧b<w.heap.size∧∀ j u,xs[j]? = some u→w.cell? ⟨b,off+j,none⟩=some u)
theorem a9.below {w w':World} {B size:Nat} {v:Value} {n:Nat} {xs:List Value} (h:a9 w size v n xs) (hb:Below B w w') (hB:w.heap.size≤B):a9 w' size v n xs:=by
 obtain ⟨hl,a,c,rfl,hc,hm,hn,hx⟩:=h;refine ⟨hl,a,c,rfl,hc,hm,hn,fun hne=>?_⟩;obtain ⟨b,off,rfl,aL,hcell⟩:=hx hne;refine ⟨b,off,rfl,nL aL hb.size,fun j u hu=>?_⟩;rw [← hcell j u hu];exact World.cell?_of_block (w:=w) (hb.block b (by omega))
theorem zdK {w:World} {base e size:Nat} {v:Value} {n:Nat} {xs:List Value} (h:w.ownsRow base e size v n xs) (hn:n≤maxLen):a9 w size v n xs:=by
 obtain ⟨hl,h⟩:=h;refine ⟨hl,?_⟩;rcases h with ⟨rfl,rfl⟩ | ⟨g,cap,cur,rfl,hb,hg,hc,hm,hs,ht⟩
 ·refine ⟨none,0,rfl,nRe _,Nat.zero_le _,fun _=>rfl,fun hne=>?_⟩;rw [Nat.zero_mul] at hl;exact absurd (List.eq_nil_of_length_eq_zero hl) hne
 ·refine ⟨_,cap,rfl,hc,hm,fun h=>(by cases h),fun _=>⟨g,0,rfl,(aGe.1 hg).1,fun j u hu=>?_⟩⟩;have:=World.ownsRow.cells (w:=w) (base:=base) (e:=e) (size:=size) (v:=.slice (some ⟨g,0,none⟩) n cap) (n:=n) (xs:=xs) ⟨hl,.inr ⟨g,cap,cur,rfl,hb,hg,hc,hm,hs,ht⟩⟩ (g:=g) rfl j u hu;have hadd:(⟨g,0,none⟩:Addr).add j=⟨g,0+j,none⟩:=by unfold Addr.add;split <;> simp_all
  rwa [hadd] at this
theorem ml (w:World) (xs:Array Value) (e:TypeId) (fr:Nat × Nat):∀ j u,xs.toList[j]? = some u→(w.alloc (.cells xs e fr)).cell? ((⟨w.heap.size,0,none⟩:Addr).add j)=some u:=by
 intro j u h;have hadd:(⟨w.heap.size,0,none⟩:Addr).add j=⟨w.heap.size,j,none⟩:=by unfold Addr.add;split <;> simp_all
 rw [hadd,World.cell?_alloc_mark];simpa using h
theorem a9.nil (w:World) (size:Nat):a9 w size (.slice none 0 0) 0 []:=⟨by simp,none,0,rfl,nRe _,Nat.zero_le _,fun _=>rfl,fun h=>absurd rfl h⟩
def cb (ss:List (List UInt8)):List Value:=ss.map fun l=>Value.string (bs l)
theorem lL (ss:List (List UInt8)) (k:Nat) (h:k<ss.length):(cb ss)[k]? = some (.string (bs ss[k])):=by
 simp [cb,h]
theorem a9.str {w:World} {v:Value} {n:Nat} {ss:List (List UInt8)} (h:a9 w 1 v n (cb ss)):n=ss.length∧∃ a c,v=.slice a ss.length c∧ss.length≤c∧c≤maxLen ∧
  (∀ k,k<ss.length→∃ b off,a=some ⟨b,off,none⟩∧b<w.heap.size∧∀ j (hj:j<ss.length),w.cell? ⟨b,off+j,none⟩=some (.string (bs ss[j]))):=by
 obtain ⟨hl,a,c,rfl,hc,hm,-,hx⟩:=h;have hn:n=ss.length:=by simpa [cb] using hl.symm
 subst hn;refine ⟨rfl,a,c,rfl,hc,hm,fun k hk=>?_⟩;obtain ⟨b,off,rfl,aL,hcell⟩:=hx (by intro e;simp [cb] at e;subst e;simp at hk);exact ⟨b,off,rfl,aL,fun j hj=>hcell j _ (lL ss j hj)⟩
theorem eo {α:Type} (l:List α) (k:Nat) (h:k<l.length):l.drop k=l[k]::l.drop (k+1):=List.drop_eq_getElem_cons h
theorem iR {α:Type} (l:List α) (k:Nat) (h:k<l.length):l.take (k+1)=l.take k++[l[k]]:=List.take_succ_eq_append_getElem h
theorem cg {P:Program} {w:World} {ops:Array Oper} {rest:List Oper} {o:Oper} {a:Act} {Q:Exit→Act→World→Prop} (hgd:o.guard=none) (s x:Operand) (t:TypeId)
  (ho:o.op=.call { callee:=.builtin .append,args:=#[s,x],argTypes:=#[t,t] })
  (base:Nat) (e:TypeId) (i:TypeInfo) (z:Value) (size bytes:Nat) (ht:P.underlying t=some (.slice e)) (hi:P.info? e=some i) (hz:i.zero=some z)
  (hsize:i.size=size) (hby:i.bytes=bytes) (hzs:z.cells.size=size) (hsz:0<size)
  (v:Value) (n:Nat) (xs:List Value) (hs:a.eval s=v) (hown:w.ownsRow base e size v n xs)
  (vx:Value) (m:Nat) (news:List Value) (hx:a.eval x=vx) (hsrc:a9 w size vx m news) (h1:∀ u ∈ news,u.oneCell'=true)
  (h63:n+m≤maxLen) (hbytes:(n+m) * bytes≤140737488355328) (hbase:base≤w.heap.size)
  (h:∀ v' w',w'.ownsRow base e size v' (n+m) (xs++news)→w.grownBy w' v.ownBlock→wpList P ops Q rest (a.put o.dst v') w'):wpList P ops Q (o::rest) a w:=by
 obtain ⟨hl,ad,c,rfl,hc,hm,hn,hcell⟩:=hsrc;cases ad with
 | none =>
   have h0:c=0:=hn rfl;subst h0;obtain rfl:m=0:=by omega
   have hnil:news=[]:=List.eq_nil_of_length_eq_zero (by simpa using hl);subst hnil;exact wpList_append_own_none hgd s x t ho base e i size ht hi v n xs hs hown hx (h v w (by simpa using hown) (World.grownBy.refl _ _))
 | some ad =>
   refine wpList_append_own w hgd s x t ho base e i z size bytes ht hi hz hsize hby hzs hsz v n xs hs hown ad m c news hx hl ?_ h1 h63 hbytes hbase (fun v' w' a b _=>h v' w' a b);intro j u hu;by_cases hne:news=[]
   ·subst hne;simp at hu
   ·obtain ⟨b,off,hb,_,cw⟩:=hcell hne;obtain rfl:=Option.some.inj hb;have hadd:(⟨b,off,none⟩:Addr).add j=⟨b,off+j,none⟩:=by unfold Addr.add;split <;> simp_all
    rw [hadd];exact cw j u hu
theorem qz (ss:List (List UInt8)):∀ u ∈ cb ss,u.oneCell'=true:=by
 intro u hu;simp only [cb,List.mem_map] at hu;obtain ⟨s,_,rfl⟩:=hu;rfl
def uC (w:World) (v:Value) (a:List (List (List UInt8))):Prop :=
 ∃ vs:List Value,vs.length=a.length∧a9 w 1 v a.length vs∧∀ i (h1:i<vs.length) (h2:i<a.length),a9 w 1 vs[i] a[i].length (cb a[i])
theorem uC.below {w w':World} {B:Nat} {v:Value} {a:List (List (List UInt8))} (h:uC w v a) (hb:Below B w w') (hB:w.heap.size≤B):uC w' v a:=by
 obtain ⟨vs,hl,h1,h2⟩:=h;exact ⟨vs,hl,h1.below hb hB,fun i a b=>(h2 i a b).below hb hB⟩
theorem a9.one {w:World} {v:Value} {n:Nat} {xs:List Value} (h:a9 w 1 v n xs):n=xs.length∧∃ a c,v=.slice a xs.length c∧xs.length≤c∧c≤maxLen ∧
  (∀ k,k<xs.length→∃ b off,a=some ⟨b,off,none⟩∧b<w.heap.size∧∀ j (hj:j<xs.length),w.cell? ⟨b,off+j,none⟩=some xs[j]):=by
 obtain ⟨hl,a,c,rfl,hc,hm,-,hx⟩:=h;have hn:n=xs.length:=by simpa using hl.symm
 subst hn;refine ⟨rfl,a,c,rfl,hc,hm,fun k hk=>?_⟩;obtain ⟨b,off,rfl,aL,hcell⟩:=hx (by intro e;subst e;simp at hk);exact ⟨b,off,rfl,aL,fun j hj=>hcell j _ (List.getElem?_eq_getElem hj)⟩
theorem dA {w w':World} {base:Nat} {e:TypeId} {size:Nat} {v:Value} {n:Nat} {xs:List Value} (h:w.ownsRow base e size v n xs) (hb:Below w.heap.size w w'):w'.ownsRow base e size v n xs:=by
 obtain ⟨hl,h⟩:=h;refine ⟨hl,?_⟩;rcases h with h | ⟨g,cap,cur,hv,hg,hh,r⟩
 ·exact .inl h
 ·exact .inr ⟨g,cap,cur,hv,hg,(hb.block g (aGe.1 hh).1).trans hh,r⟩
theorem ag (w:World) (o:Obj):Below w.heap.size w (w.alloc o):=(Below.refl _ _).alloc (nRe _) _
theorem gd {w W:World} (hW:Below w.heap.size w W) {a:Addr} {v:Value} (h:w.cell? a=some v):W.cell? a=some v:=(hW.cell (World.block_lt_of_cell? w _ h)).trans h
section
open Go.ChangeShapes Go.WideShapes Go.ChangeAt Go.RowKit
theorem own:ownKnob Tryz.prog.godebug=none:=by kernel_rfl
theorem za7:laidOutB Tryz.prog=true:=by kernel_rfl
theorem kC {H:Type} {enc:TypeId × Value→H} {P:Program} (hl:laidOutB P=true) {W W':World} (hb:Below W.heap.size W W') :
  ∀ (ts:List TypeId) (vs:List Value) (ds:List (DataW H)) (p:List MemPlace),(ts.all fun t=>P.readableRec t && decide (t<P.types.size))=true →
    DataW.TrodAll enc P W 0 (fun _=>true) true ts vs ds p→(∀ x ∈ p,x.block<W.heap.size)→DataW.TrodAll enc P W' 0 (fun b=>decide (b<W.heap.size)) true ts vs ds p
 | [],[],[],_,_,h,_=>h
 | t::ts,v::vs,d::ds,_,hr,h,aL=>by
   obtain ⟨p,q,h1,h2,rfl⟩:=h;simp only [List.all_cons,bAe,decide_eq_true_eq] at hr;exact ⟨p,q,Below.trod hl hr.1.1 hr.1.2 h1 hb (fun x hx=>aL x (by simp [hx])),kC hl hb ts vs ds q hr.2 h2 (fun x hx=>aL x (by simp [hx])),rfl⟩
 | [],[],_::_,_,_,h,_=>h.elim
 | [],_::_,_,_,_,h,_=>h.elim
 | _::_,[],_,_,_,h,_=>h.elim
 | _::_,_::_,[],_,_,h,_=>h.elim
theorem yg {H:Type} {enc:TypeId × Value→H} {s:ChangeSpec} {f:Func} {W W':World} {args:Array Value} {ds gs:List (DataW H)} {before:List MemPlace} (hvars:s.vars=[])
  (hres:f.resultTypes=#[4]) (hr:(f.params.toList.all fun t=>Tryz.prog.readableRec t && decide (t<Tryz.prog.types.size))=true)
  (hW:DataW.Whole enc Tryz.prog f.params.toList s.vars false W args.toList ds gs before)
  (hfn:(s.fn H (ds++gs)).results=[.lit (.bool true)]∧(s.fn H (ds++gs)).args=ds∧(s.fn H (ds++gs)).vars=[]) (hb:Below W.heap.size W W') :
  s.post enc Tryz.prog f false true false false W args (.bool true) W':=by
 have hW':=hW;obtain ⟨p,q,hA,hV,rfl,-,-⟩:=hW;have aL:∀ x ∈ p,x.block<W.heap.size:=fun x hx=>hW'.lt x (by simp [hx])
 refine ⟨ds,gs,p++q,[]++[],p,[],hW',?_,?_,?_,hb.frame _,fun h=>by cases h⟩
 ·rw [hfn.1,hres];exact trodAll_mk1 (shut_bool Tryz.underlying4 true)
 ·rw [hfn.2.1];exact kC za7 hb _ _ _ _ hr hA aL
 ·rw [hfn.2.2,hvars];rfl
theorem ow {H:Type} {P:Program} {ts:List TypeId} {ds:List (DataW H)} (h:(DataW.weightsEach P ts ds).all (·≤reachBytes)=true) {j:Nat} {t:TypeId} {d:DataW H} (ht:ts[j]? = some t) (hd:ds[j]? = some d) :
  ∀ n ∈ d.weights P t,n≤reachBytes:=fun n hn=>by simpa using List.all_eq_true.1 h n (DataW.weights_mem_each ht hd n hn)
theorem fN {P:Program} {x:String × DataW Unit} {l:List (String × DataW Unit)} {w:World} (h:laidMet P (x::l) w):laidMet P l w:=by
 obtain ⟨ps,⟨g,t,cs,fuel,p,q,_,_,_,_,h2,rfl⟩,hnd,hc⟩:=h;refine ⟨q,h2,(List.nodup_append.1 hnd).2.1,fun b off hm=>hc b off ?_⟩;exact List.mem_append_right _ hm
theorem yo {name:String} {n:FuncId} {f0:Func} (hn:Tryz.prog.funcNamed name=some n) (h0:Tryz.prog.funcs[n]? = some f0) {b:Bool} (hl:b=Tryz.prog.looks []) (hs:(f0.params.toList.all fun t=>!Tryz.prog.wantsStandIn t)=true)
  (f:FuncId) (fn:Func) (hf:Tryz.pinned.checked.prog.funcNamed name=some f) (hfn:Tryz.pinned.checked.prog.funcs[f]? = some fn) :
  b=Tryz.pinned.checked.prog.looks []∧∀ (j:Nat) t,fn.params[j]? = some t→Tryz.pinned.checked.prog.wantsStandIn t=false:=by
 obtain rfl:f=n:=(Option.some.inj (hn.symm.trans hf)).symm;obtain rfl:fn=f0:=(Option.some.inj (h0.symm.trans hfn)).symm;refine ⟨hl,fun j t ht=>?_⟩;have hm:t ∈ fn.params.toList:=by simpa using Array.mem_of_getElem? ht
 have:=List.all_eq_true.1 hs t hm;have h2:Tryz.prog.wantsStandIn t=false:=by simpa using this
 exact h2
end
def dig (n:Nat):List UInt8:=if n<10 then [UInt8.ofNat (48+n)] else dig (n / 10)++[UInt8.ofNat (48+n % 10)]
theorem iB {n:Nat} (h:n<10):dig n=[UInt8.ofNat (48+n)]:=by rw [dig,if_pos h]
theorem mc {n:Nat} (h:¬ n<10):dig n=dig (n / 10)++[UInt8.ofNat (48+n % 10)]:=by rw [dig,if_neg h]
theorem yY (k:Nat):∀ n,n≤k→dig n=Lib.decDigits n:=by
 induction k with
 | zero=>intro n h;obtain rfl:n=0:=by omega
         rw [iB (by omega),Lib.decDigits,dif_pos (by omega)]
 | succ k ih =>
   intro n h;by_cases hn:n<10
   ·rw [iB hn,Lib.decDigits,dif_pos hn]
   ·rw [mc hn,Lib.decDigits,dif_neg hn,ih (n / 10) (by omega)]
theorem og (n:Nat):Lib.itoa n=dig n:=by
 rw [Lib.itoa,if_neg (by omega),yY n n (nRe _)];rfl
def aS (c:UInt8):Bool:=48≤c.toNat && c.toNat≤57
def eS (a:Nat):List UInt8→Nat
 | []=>a
 | c::r=>eS (10 * a+(c.toNat - 48)) r
theorem j3 (x y:List UInt8):∀ a,eS a (x++y)=eS (eS a x) y:=by
 induction x with
 | nil=>intro a;rfl
 | cons c x ih=>intro a;exact ih _
theorem zbd (x:List UInt8):∀ a,a≤eS a x:=by
 induction x with
 | nil=>intro a;exact nRe _
 | cons c x ih=>intro a;have:=ih (10 * a+(c.toNat - 48));show a≤eS _ x;omega
def fw (l:List UInt8):Bool:=l.all aS
theorem qY {n:Nat} (h:n<10):(UInt8.ofNat (48+n)).toNat=48+n:=by
 rw [UInt8.toNat_ofNat'];omega
theorem n9 {n:Nat} (h:n<10):aS (UInt8.ofNat (48+n))=true:=by
 unfold aS;rw [qY h];simp only [bAe,decide_eq_true_eq];omega
theorem pY {n:Nat} (h:n<10):(UInt8.ofNat (48+n)).toNat - 48=n:=by
 rw [qY h];omega
theorem qu (k:Nat):∀ n,n≤k→fw (dig n)=true:=by
 induction k with
 | zero=>intro n h;rw [iB (by omega)];simp only [fw,List.all_cons,List.all_nil,n9 (show n<10 by omega),Bool.and_true]
 | succ k ih =>
   intro n h;by_cases hn:n<10
   ·rw [iB hn];simp only [fw,List.all_cons,List.all_nil,n9 hn,Bool.and_true]
   ·have:=ih (n / 10) (by omega);rw [mc hn];unfold fw at *;rw [List.all_append,this];simp only [List.all_cons,List.all_nil,n9 (show n % 10<10 by omega),Bool.and_true]
theorem ra (k:Nat):∀ n,n≤k→eS 0 (dig n)=n:=by
 induction k with
 | zero=>intro n h;obtain rfl:n=0:=by omega
         rw [iB (by omega)];rfl
 | succ k ih =>
   intro n h;by_cases hn:n<10
   ·rw [iB hn];show 10 * 0+_=n;rw [pY hn];omega
   ·rw [mc hn,j3,ih (n / 10) (by omega)];show 10 * (n / 10)+_=n;rw [pY (show n % 10<10 by omega)];omega
theorem tE (n:Nat):dig n≠[]:=by
 by_cases hn:n<10
 ·rw [iB hn];simp
 ·rw [mc hn];simp
theorem itoa_neg' (u:Nat) (h:1≤u):Lib.itoa (-(u:Int))=45::dig u:=by
 unfold Lib.itoa;rw [if_pos (by omega),yY u u (nRe _)];simp
theorem tt (v:Int):(∃ u:Nat,v=u∧Lib.itoa v=dig u)∨(∃ u:Nat,1≤u∧v=-(u:Int)∧Lib.itoa v=45::dig u):=by
 rcases Int.lt_or_le v 0 with h | h
 ·refine .inr ⟨v.natAbs,by omega,by omega,?_⟩;have e:v=-(v.natAbs:Int):=by omega
  rw [e,itoa_neg' _ (by omega)];simp
 ·refine .inl ⟨v.toNat,by omega,?_⟩;have e:v=(v.toNat:Int):=by omega
  rw [e,og];rfl
theorem mC (M:Nat) (hM:M<18446744073709551616):∀ (l:List UInt8) (a:Nat),fw l=true→eS a l≤M→Lib.parseUintM M a l=.ok (eS a l)
 | [],a,_,_=>rfl
 | c::r,a,h,hv=>by
   have hc:aS c=true:=by unfold fw at h;simp only [List.all_cons,bAe] at h;exact h.1
   have hr:fw r=true:=by unfold fw at *;simp only [List.all_cons,bAe] at h;exact h.2
   have hcd:48≤c.toNat∧c.toNat≤57:=by simp [aS] at hc;omega
   have hv':eS (10 * a+(c.toNat - 48)) r≤M:=hv;have hle:=zbd r (10 * a+(c.toNat - 48));rw [Lib.parseUintM,if_pos hcd,if_neg (by omega),if_neg (by omega),Nat.mul_comm a 10];exact mC M hM r _ hr hv'
theorem tY {v:Int} (h1:-9223372036854775808≤v) (h2:v≤9223372036854775807):Lib.parseIntB 64 (Lib.itoa v)=.ok v:=by
 have pd:∀ u:Nat,u≤9223372036854775808→Lib.parseUintB 64 (dig u)=.ok u:=fun u hu=>by
  have:=mC (2 ^ 64 - 1) (by decide) (dig u) 0 (qu u u (nRe _)) (by rw [ra u u (nRe _)];omega);rw [ra u u (nRe _)] at this;rw [Lib.parseUintB,if_neg (tE u),this]
 rcases tt v with ⟨u,rfl,e⟩ | ⟨u,hu,rfl,e⟩
 ·rw [e];have hp:=pd u (by omega);cases hd:dig u with
  | nil=>exact absurd hd (tE u)
  | cons c r =>
    have hall:=qu u u (nRe _);rw [hd] at hall;have hc:aS c=true:=by unfold fw at hall;simp only [List.all_cons,bAe] at hall;exact hall.1
    have hcd:48≤c.toNat∧c.toNat≤57:=by simp [aS] at hc;omega
    rw [hd] at hp;rw [Lib.parseIntB_plain 64 c r (by omega) (by omega),hp];unfold Lib.signlessC;simp only;rw [if_neg (by omega)]
 ·rw [e,Lib.parseIntB_minus,pd u (by omega)];unfold Lib.signedC;simp only;rw [if_neg (by omega)]
def nW (s:List UInt8):Int × Bool:=match Lib.parseIntB 64 s with
 | .ok v=>if Lib.itoa v=s then (v,true) else (0,false)
 | _=>(0,false)
theorem lX {s:List UInt8} {v:Int} (h:Lib.parseIntB 64 s=.ok v):-9223372036854775808≤v∧v≤9223372036854775807:=by
 cases s with
 | nil=>simp [Lib.parseIntB] at h
 | cons c r =>
   unfold Lib.parseIntB at h;simp only at h;split at h
   ·cases h
   ·cases h
   ·rename_i u hu;split at h
    ·cases h
    ·split at h
     ·cases h
     ·rename_i k1 k2;by_cases hc:c.toNat=45
      ·simp [hc] at h k1 k2;omega
      ·simp [hc] at h k1 k2;omega
theorem vJ {v:Int} (h1:-9223372036854775808≤v) (h2:v≤9223372036854775807):nW (Lib.itoa v)=(v,true):=by
 unfold nW;rw [tY h1 h2];simp
theorem pM {s:List UInt8} (h:(nW s).2=true):Lib.itoa (nW s).1=s∧-9223372036854775808≤(nW s).1∧(nW s).1≤9223372036854775807:=by
 unfold nW at *;cases e:Lib.parseIntB 64 s with
 | ok v =>
   rw [e] at h;simp only at h ⊢;by_cases hv:Lib.itoa v=s
   ·rw [if_pos hv];exact ⟨hv,lX e⟩
   ·rw [if_neg hv] at h;cases h
 | _=>rw [e] at h;cases h
def dE (c:UInt8):Bool:=(97≤c.toNat && c.toNat≤122) || (65≤c.toNat && c.toNat≤90) || c.toNat == 95
def bp (c:UInt8):Bool:=c.toNat == 32 || c.toNat == 9 || c.toNat == 10 || c.toNat == 13
def bq (c:UInt8):Bool:=dE c || aS c
def bv (c:UInt8):Bool:=c.toNat != 10
def aZ (p:UInt8→Bool):List UInt8→Nat
 | []=>0
 | c::r=>if p c=true then aZ p r+1 else 0
theorem ix (p:UInt8→Bool):∀ s,aZ p s≤s.length
 | []=>nRe _
 | c::r=>by unfold aZ;have:=ix p r;split <;> simp;omega
theorem eQ {p:UInt8→Bool} {c:UInt8} {r:List UInt8} (h:p c=true):aZ p (c::r)=aZ p r+1:=by rw [aZ,if_pos h]
theorem f8 {p:UInt8→Bool} {c:UInt8} {r:List UInt8} (h:p c=false):aZ p (c::r)=0:=by rw [aZ,if_neg (by rw [h];simp)]
theorem nD (p:UInt8→Bool):∀ s:List UInt8,(s.take (aZ p s)).all p=true
 | []=>rfl
 | c::r=>by
   by_cases h:p c=true
   ·rw [eQ h,List.take_succ_cons,List.all_cons,h,nD p r];rfl
   ·rw [f8 (by simpa using h)];rfl
theorem ld {p:UInt8→Bool}:∀ (s t:List UInt8),s.all p=true→aZ p (s++t)=s.length+aZ p t
 | [],t,_=>by simp
 | c::r,t,h=>by
   simp only [List.all_cons,bAe] at h;show aZ p (c::(r++t))=_;rw [eQ h.1,ld r t h.2,lCo];omega
theorem yB {p:UInt8→Bool} {s:List UInt8} (h:s.all p=true):aZ p s=s.length:=by
 have:=ld s [] h;simpa [aZ] using this
def qGo:List UInt8→Option (List UInt8 × Nat)
 | []=>none
 | c::r =>
   if c.toNat=34 then some ([],1)
   else if c.toNat<32∨c.toNat=127 then none
   else if c.toNat=92 then
    match r with
    | []=>none
    | d::r =>
      if d.toNat=34∨d.toNat=92 then (qGo r).map fun x=>(d::x.1,x.2+2)
      else if d.toNat=110 then (qGo r).map fun x=>(10::x.1,x.2+2)
      else none
   else (qGo r).map fun x=>(c::x.1,x.2+1)
theorem fb (c:UInt8) (r:List UInt8):qGo (c::r) =
  if c.toNat=34 then some ([],1)
  else if c.toNat<32∨c.toNat=127 then none
  else if c.toNat=92 then
   match r with
   | []=>none
   | d::r =>
     if d.toNat=34∨d.toNat=92 then (qGo r).map fun x=>(d::x.1,x.2+2)
     else if d.toNat=110 then (qGo r).map fun x=>(10::x.1,x.2+2)
     else none
  else (qGo r).map fun x=>(c::x.1,x.2+1):=by
 cases r with
 | nil=>rw [qGo.eq_def]
 | cons d r=>rw [qGo.eq_def]
def ci:List UInt8:=[61,43,40,41,91,93,123,125,44,58,59]
def mI (s:List UInt8):Nat × List UInt8 × Nat × Nat :=
 if 1<aZ aS s∧s.head? = some 48 then (0,[],0,3)
 else if 9223372036854775807<eS 0 (s.take (aZ aS s)) then (0,[],0,2)
 else (2,s.take (aZ aS s),aZ aS s,0)
def c7:List UInt8→Nat × List UInt8 × Nat × Nat
 | []=>(0,[],0,3)
 | c::r =>
   if bp c=true then (0,[],1,0)
   else if c.toNat=35 then (0,[],aZ bv (c::r),0)
   else if dE c=true then (1,(c::r).take (aZ bq (c::r)),aZ bq (c::r),0)
   else if aS c=true then mI (c::r)
   else if c.toNat=34 then (match qGo r with | none=>(0,[],0,3) | some x=>(3,x.1,x.2+1,0))
   else if (c.toNat=61∨c.toNat=33)∧r.head? = some 61 then (4,[c,61],2,0)
   else if c ∈ ci then (4,[c],1,0)
   else (0,[],0,3)
theorem ej (c:UInt8) (r:List UInt8):c7 (c::r) =
  if bp c=true then (0,[],1,0)
  else if c.toNat=35 then (0,[],aZ bv (c::r),0)
  else if dE c=true then (1,(c::r).take (aZ bq (c::r)),aZ bq (c::r),0)
  else if aS c=true then mI (c::r)
  else if c.toNat=34 then (match qGo r with | none=>(0,[],0,3) | some x=>(3,x.1,x.2+1,0))
  else if (c.toNat=61∨c.toNat=33)∧r.head? = some 61 then (4,[c,61],2,0)
  else if c ∈ ci then (4,[c],1,0)
  else (0,[],0,3):=rfl
abbrev Pl:=Nat × Nat
abbrev Tok:=Nat × List UInt8 × Pl
def adv (p:Pl) (c:UInt8):Pl:=if c.toNat=10 then (p.1+1,1) else (p.1,p.2+1)
def cA (p:Pl) (s:List UInt8):Pl:=s.foldl adv p
theorem hI (p:Pl) (s t:List UInt8):cA p (s++t)=cA (cA p s) t:=List.foldl_append ..
theorem kg (p:Pl) (c:UInt8) (t:List UInt8):cA p (c::t)=cA (adv p c) t:=rfl
theorem nG:∀ (k:Nat) (s t:List UInt8) (n:Nat),s.length≤k→qGo s=some (t,n)→1≤n∧n≤s.length∧t.length+1≤n
 | _,[],t,n,_,h=>by simp [qGo] at h
 | 0,c::r,t,n,hk,_=>by simp at hk
 | k+1,c::r,t,n,hk,h=>by
   have hr:r.length≤k:=by simpa using hk
   rw [fb] at h;by_cases h1:c.toNat=34
   ·rw [if_pos h1] at h;simp only [Option.some.injEq,Prod.mk.injEq] at h;obtain ⟨rfl,rfl⟩:=h;simp
   ·rw [if_neg h1] at h;by_cases h2:c.toNat<32∨c.toNat=127
    ·rw [if_pos h2] at h;cases h
    ·rw [if_neg h2] at h;by_cases h3:c.toNat=92
     ·rw [if_pos h3] at h;cases r with
      | nil=>cases h
      | cons d r =>
        simp only at h;have hr':r.length≤k:=by simp at hr;omega
        by_cases h4:d.toNat=34∨d.toNat=92
        ·rw [if_pos h4] at h;cases e:qGo r with
         | none=>rw [e] at h;cases h
         | some x =>
           obtain ⟨t',n'⟩:=x;rw [e] at h;simp only [Option.map_some,Option.some.injEq,Prod.mk.injEq] at h;obtain ⟨rfl,rfl⟩:=h;have:=nG k r t' n' hr' e;simp;omega
        ·rw [if_neg h4] at h;by_cases h5:d.toNat=110
         ·rw [if_pos h5] at h;cases e:qGo r with
          | none=>rw [e] at h;cases h
          | some x =>
            obtain ⟨t',n'⟩:=x;rw [e] at h;simp only [Option.map_some,Option.some.injEq,Prod.mk.injEq] at h;obtain ⟨rfl,rfl⟩:=h;have:=nG k r t' n' hr' e;simp;omega
         ·rw [if_neg h5] at h;cases h
     ·rw [if_neg h3] at h;cases e:qGo r with
      | none=>rw [e] at h;cases h
      | some x =>
        obtain ⟨t',n'⟩:=x;rw [e] at h;simp only [Option.map_some,Option.some.injEq,Prod.mk.injEq] at h;obtain ⟨rfl,rfl⟩:=h;have:=nG k r t' n' hr e;simp;omega
theorem gS {c:UInt8} {r t:List UInt8} {k n:Nat} (h:c7 (c::r)=(k,t,n,0)):1≤n∧n≤(c::r).length∧t.length≤n:=by
 rw [ej] at h;by_cases h1:bp c=true
 ·rw [if_pos h1] at h;simp only [Prod.mk.injEq] at h;obtain ⟨rfl,rfl,rfl,-⟩:=h;simp
 rw [if_neg h1] at h;by_cases h2:c.toNat=35
 ·rw [if_pos h2] at h;simp only [Prod.mk.injEq] at h;obtain ⟨rfl,rfl,rfl,-⟩:=h;have:=ix bv (c::r);rw [eQ (by simp [bv,h2])] at *;simp at *;omega
 rw [if_neg h2] at h;by_cases h3:dE c=true
 ·rw [if_pos h3] at h;simp only [Prod.mk.injEq] at h;obtain ⟨rfl,rfl,rfl,-⟩:=h;have:=ix bq (c::r);refine ⟨?_,this,List.length_take_le _ _⟩;rw [eQ (by simp [bq,h3])];omega
 rw [if_neg h3] at h;by_cases h4:aS c=true
 ·rw [if_pos h4] at h;unfold mI at h;have:=ix aS (c::r);have h1:1≤aZ aS (c::r):=by rw [eQ h4];omega
  split at h
  ·simp at h
  ·split at h
   ·simp at h
   ·simp only [Prod.mk.injEq] at h;obtain ⟨rfl,rfl,rfl,-⟩:=h;exact ⟨h1,this,List.length_take_le _ _⟩
 rw [if_neg h4] at h;by_cases h5:c.toNat=34
 ·rw [if_pos h5] at h;cases e:qGo r with
  | none=>rw [e] at h;simp at h
  | some x =>
    rw [e] at h;simp only [Prod.mk.injEq] at h;obtain ⟨rfl,rfl,rfl,-⟩:=h;have:=nG r.length r x.1 x.2 (nRe _) e;simp;omega
 rw [if_neg h5] at h;by_cases h6:(c.toNat=61∨c.toNat=33)∧r.head? = some 61
 ·rw [if_pos h6] at h;simp only [Prod.mk.injEq] at h;obtain ⟨rfl,rfl,rfl,-⟩:=h;cases r with
  | nil=>simp at h6
  | cons d r=>simp
 rw [if_neg h6] at h;by_cases h7:c ∈ ci
 ·rw [if_pos h7] at h;simp only [Prod.mk.injEq] at h;obtain ⟨rfl,rfl,rfl,-⟩:=h;simp
 ·rw [if_neg h7] at h;simp at h
abbrev nf:=List Tok × Nat × Pl
def fR (a:List Tok) (x:nf):nf:=if x.2.1=0 then (a++x.1,0,(0,0)) else ([],x.2.1,x.2.2)
def iQ:Nat→Pl→List UInt8→nf
 | _,_,[]=>([],0,(0,0))
 | 0,_,_::_=>([],0,(0,0))
 | f+1,p,c::r =>
   if (c7 (c::r)).2.2.2=0 then
    fR (if (c7 (c::r)).1=0 then [] else [((c7 (c::r)).1,(c7 (c::r)).2.1,p)]) (iQ f (cA p ((c::r).take (c7 (c::r)).2.2.1)) ((c::r).drop (c7 (c::r)).2.2.1))
   else ([],(c7 (c::r)).2.2.2,p)
def eW (p:Pl) (s:List UInt8):nf:=iQ s.length p s
theorem nO:∀ (f g:Nat) (p:Pl) (s:List UInt8),s.length≤f→s.length≤g→iQ f p s=iQ g p s
 | f,g,p,[],_,_=>by cases f <;> cases g <;> rfl
 | 0,_,_,_::_,h,_=>by simp at h
 | _,0,_,_::_,_,h=>by simp at h
 | f+1,g+1,p,c::r,hf,hg=>by
   unfold iQ;by_cases h:(c7 (c::r)).2.2.2=0
   ·rw [if_pos h,if_pos h];have hs:=gS (c:=c) (r:=r) (k:=(c7 (c::r)).1) (t:=(c7 (c::r)).2.1) (n:=(c7 (c::r)).2.2.1) (by rw [← h]);rw [nO f g _ _ (by simp at hf ⊢;omega) (by simp at hg ⊢;omega)]
   ·rw [if_neg h,if_neg h]
theorem qq (p:Pl):eW p []=([],0,(0,0)):=rfl
theorem nC {p:Pl} {c:UInt8} {r t:List UInt8} {k n e:Nat} (h:c7 (c::r)=(k,t,n,e)) (he:e≠0):eW p (c::r)=([],e,p):=by
 show iQ (r.length+1) p (c::r)=_;rw [iQ,h];simp [he]
theorem iv {p:Pl} {c:UInt8} {r t:List UInt8} {k n:Nat} (h:c7 (c::r)=(k,t,n,0)) :
  eW p (c::r)=fR (if k=0 then [] else [(k,t,p)]) (eW (cA p ((c::r).take n)) ((c::r).drop n)):=by
 have hs:=gS h;show iQ (r.length+1) p (c::r)=_;rw [iQ,h];simp only [if_true];rw [nO r.length ((c::r).drop n).length _ _ (by simp;omega) (nRe _)];rfl
theorem l4 (p:Pl) (s:List UInt8):fR [] (eW p s)=eW p s:=by
 have:∀ (f:Nat) (p:Pl) (s:List UInt8),fR [] (iQ f p s)=iQ f p s:=by
  intro f p s;have hz:∀ (a:List Tok) (x:nf),fR [] (fR a x)=fR a x:=by
   intro a x;unfold fR;by_cases h:x.2.1=0 <;> simp [h]
  cases f with
  | zero=>cases s <;> simp [iQ,fR]
  | succ f =>
    cases s with
    | nil=>simp [iQ,fR]
    | cons c r =>
      unfold iQ;split
      ·exact hz _ _
      ·rename_i h;unfold fR;simp [h]
 exact this _ _ _
theorem pU (a b:List Tok) (x:nf):fR a (fR b x)=fR (a++b) x:=by
 unfold fR;by_cases h:x.2.1=0 <;> simp [h]
theorem vB {p:Pl} {c:UInt8} {r:List UInt8} (h:bp c=true):eW p (c::r)=eW (adv p c) r:=by
 have hp:c7 (c::r)=(0,[],1,0):=by rw [ej,if_pos h]
 rw [iv hp,if_pos rfl,l4];rfl
theorem yZ {s:List UInt8}:∀ (p:Pl),eW p s=eW (cA p (s.take (aZ bp s))) (s.drop (aZ bp s)):=by
 induction s with
 | nil=>intro p;rfl
 | cons c r ih =>
   intro p;by_cases h:bp c=true
   ·rw [vB h,eQ h,ih];rfl
   ·rw [f8 (by simpa using h)];rfl
def eg (s:List UInt8):nf:=if 65536<s.length then ([],6,(1,1)) else eW (1,1) s
def bS (c:UInt8):List UInt8:=if c.toNat=10 then [92,110] else if c.toNat=34∨c.toNat=92 then [92,c] else [c]
def ft (c:UInt8):Bool:=(decide (c.toNat<32) && c.toNat != 10) || c.toNat == 127
def dR (s:List UInt8):List UInt8:=if s.any ft=true then [] else 34::(s.flatMap bS++[34])
section
theorem ii {a b:Bool} (h:a=b):Ending.returned (.bool a)=.returned (.bool b):=by rw [h]
def lm (f:FuncId) (p:UInt8→Bool):Prop:=∀ (c:UInt8) (w:World),Calls Tryz.prog f #[.int .u8 c.toNat] w fun e w'=>e=.returned (.bool (p c))∧w=w'
theorem lm.is {f:FuncId} {p:UInt8→Bool} (h:lm f p) (c:UInt8) (b:Bool) (hb:p c=b) (w:World):Calls Tryz.prog f #[.int .u8 c.toNat] w fun e w'=>e=.returned (.bool b)∧w=w':=by
 rw [← hb];exact h c w
set_option maxHeartbeats 1000000
theorem eG:lm 52 aS:=by
 intro c w;go_enter Tryz.func52,Tryz.ntmps52
 go_wp2
 all_goals (go_ret;refine ⟨ii ?_,rfl⟩;rw [Bool.eq_iff_iff];simp [aS];omega)
theorem dN:lm 50 dE:=by
 intro c w;go_enter Tryz.func50,Tryz.ntmps50
 go_wp2
 all_goals (go_ret;refine ⟨ii ?_,rfl⟩;rw [Bool.eq_iff_iff];simp [dE];omega)
theorem eP:lm 47 bp:=by
 intro c w;go_enter Tryz.func47,Tryz.ntmps47
 go_wp2
 all_goals (go_ret;refine ⟨ii ?_,rfl⟩;rw [Bool.eq_iff_iff];simp [bp];omega)
theorem tL:lm 49 bv:=by
 intro c w;go_enter Tryz.func49,Tryz.ntmps49
 go_wp2
 all_goals (go_ret;refine ⟨ii ?_,rfl⟩;rw [Bool.eq_iff_iff];simp [bv];omega)
theorem s9:lm 51 bq:=by
 intro c w;cases hl:dE c with
 | true =>
   go_enter Tryz.func51,Tryz.ntmps51
   go_wp2_with fail;refine (dN.is c true hl _).mono ?_;rintro e w' ⟨rfl,rfl⟩;go_wp2_with fail;go_ret;exact ⟨ii (by simp [bq,hl]),rfl⟩
 | false =>
   go_enter Tryz.func51,Tryz.ntmps51
   go_wp2_with fail;refine (dN.is c false hl _).mono ?_;rintro e w' ⟨rfl,rfl⟩;go_wp2_with fail;refine (eG c _).mono ?_;rintro e w' ⟨rfl,rfl⟩;go_wp2_with fail;go_ret;exact ⟨ii (by simp [bq,hl]),rfl⟩
theorem g7 {p:UInt8→Bool} {s:List UInt8} {k:Nat} (hk:k<s.length) (hc:p s[k]=true):k+aZ p (s.drop k)=k+1+aZ p (s.drop (k+1)):=by
 rw [eo s k hk,eQ hc];omega
theorem pV (s:List UInt8) (hs:s.length≤1000000000000) (w:World) :
  Calls Tryz.prog 48 #[.string (bs s),.func (.func 52) #[] #[]] w fun e w'=>e=.returned (.int .i64 (aZ aS s))∧w=w':=by
 have HT:=hid eG;go_enter Tryz.func48,Tryz.ntmps48
 go_wp2_with fail
 go_loop [5] (fun i=>∃ k:Nat,k≤s.length∧i=.int .i64 k∧Hid (aZ aS s=k+aZ aS (s.drop k))) (fun i=>s.length - (intOf i).toNat)
 case atStart=>exact ⟨0,by omega,rfl,hid (by simp)⟩
 case round =>
  obtain ⟨k,hk,rfl,HR⟩:=hrel;by_cases aL:k<s.length
  ·cases hc:aS s[k] with
   | true =>
     have HN:Hid (aZ aS s=(k+1)+aZ aS (s.drop (k+1))):=hid (by rw [HR.out,g7 aL hc]);have HC:=hid (HT.out.is s[k] true hc);clear hc HR;go_wp2_with fail;refine (HC.out _).mono ?_;rintro e w' ⟨rfl,rfl⟩;go_wp2_with fail
     go_round
     case rel=>exact ⟨k+1,by omega,by go_num,HN⟩
     case measure=>simp [intOf];omega
   | false =>
     have HN:Hid (aZ aS s=k):=hid (by rw [HR.out,eo s k aL,f8 hc];rfl);have HC:=hid (HT.out.is s[k] false hc);clear hc HR;go_wp2_with fail;refine (HC.out _).mono ?_;rintro e w' ⟨rfl,rfl⟩;go_wp2_with fail;go_ret;exact ⟨by rw [HN.out];rfl,rfl⟩
  ·have HN:Hid (aZ aS s=k):=hid (by rw [HR.out,List.drop_eq_nil_of_le (by omega)];rfl);have hd:decide (k<s.length)=false:=decide_eq_false aL;clear HR;go_wp2_with fail;go_ret;exact ⟨by rw [HN.out];rfl,rfl⟩
theorem zbp (s:List UInt8) (hs:s.length≤1000000000000) (w:World) :
  Calls Tryz.prog 48 #[.string (bs s),.func (.func 47) #[] #[]] w fun e w'=>e=.returned (.int .i64 (aZ bp s))∧w=w':=by
 have HT:=hid eP;go_enter Tryz.func48,Tryz.ntmps48
 go_wp2_with fail
 go_loop [5] (fun i=>∃ k:Nat,k≤s.length∧i=.int .i64 k∧Hid (aZ bp s=k+aZ bp (s.drop k))) (fun i=>s.length - (intOf i).toNat)
 case atStart=>exact ⟨0,by omega,rfl,hid (by simp)⟩
 case round =>
  obtain ⟨k,hk,rfl,HR⟩:=hrel;by_cases aL:k<s.length
  ·cases hc:bp s[k] with
   | true =>
     have HN:Hid (aZ bp s=(k+1)+aZ bp (s.drop (k+1))):=hid (by rw [HR.out,g7 aL hc]);have HC:=hid (HT.out.is s[k] true hc);clear hc HR;go_wp2_with fail;refine (HC.out _).mono ?_;rintro e w' ⟨rfl,rfl⟩;go_wp2_with fail
     go_round
     case rel=>exact ⟨k+1,by omega,by go_num,HN⟩
     case measure=>simp [intOf];omega
   | false =>
     have HN:Hid (aZ bp s=k):=hid (by rw [HR.out,eo s k aL,f8 hc];rfl);have HC:=hid (HT.out.is s[k] false hc);clear hc HR;go_wp2_with fail;refine (HC.out _).mono ?_;rintro e w' ⟨rfl,rfl⟩;go_wp2_with fail;go_ret;exact ⟨by rw [HN.out];rfl,rfl⟩
  ·have HN:Hid (aZ bp s=k):=hid (by rw [HR.out,List.drop_eq_nil_of_le (by omega)];rfl);have hd:decide (k<s.length)=false:=decide_eq_false aL;clear HR;go_wp2_with fail;go_ret;exact ⟨by rw [HN.out];rfl,rfl⟩
theorem y7 (s:List UInt8) (hs:s.length≤1000000000000) (w:World) :
  Calls Tryz.prog 48 #[.string (bs s),.func (.func 49) #[] #[]] w fun e w'=>e=.returned (.int .i64 (aZ bv s))∧w=w':=by
 have HT:=hid tL;go_enter Tryz.func48,Tryz.ntmps48
 go_wp2_with fail
 go_loop [5] (fun i=>∃ k:Nat,k≤s.length∧i=.int .i64 k∧Hid (aZ bv s=k+aZ bv (s.drop k))) (fun i=>s.length - (intOf i).toNat)
 case atStart=>exact ⟨0,by omega,rfl,hid (by simp)⟩
 case round =>
  obtain ⟨k,hk,rfl,HR⟩:=hrel;by_cases aL:k<s.length
  ·cases hc:bv s[k] with
   | true =>
     have HN:Hid (aZ bv s=(k+1)+aZ bv (s.drop (k+1))):=hid (by rw [HR.out,g7 aL hc]);have HC:=hid (HT.out.is s[k] true hc);clear hc HR;go_wp2_with fail;refine (HC.out _).mono ?_;rintro e w' ⟨rfl,rfl⟩;go_wp2_with fail
     go_round
     case rel=>exact ⟨k+1,by omega,by go_num,HN⟩
     case measure=>simp [intOf];omega
   | false =>
     have HN:Hid (aZ bv s=k):=hid (by rw [HR.out,eo s k aL,f8 hc];rfl);have HC:=hid (HT.out.is s[k] false hc);clear hc HR;go_wp2_with fail;refine (HC.out _).mono ?_;rintro e w' ⟨rfl,rfl⟩;go_wp2_with fail;go_ret;exact ⟨by rw [HN.out];rfl,rfl⟩
  ·have HN:Hid (aZ bv s=k):=hid (by rw [HR.out,List.drop_eq_nil_of_le (by omega)];rfl);have hd:decide (k<s.length)=false:=decide_eq_false aL;clear HR;go_wp2_with fail;go_ret;exact ⟨by rw [HN.out];rfl,rfl⟩
theorem xM (s:List UInt8) (hs:s.length≤1000000000000) (w:World) :
  Calls Tryz.prog 48 #[.string (bs s),.func (.func 51) #[] #[]] w fun e w'=>e=.returned (.int .i64 (aZ bq s))∧w=w':=by
 have HT:=hid s9;go_enter Tryz.func48,Tryz.ntmps48
 go_wp2_with fail
 go_loop [5] (fun i=>∃ k:Nat,k≤s.length∧i=.int .i64 k∧Hid (aZ bq s=k+aZ bq (s.drop k))) (fun i=>s.length - (intOf i).toNat)
 case atStart=>exact ⟨0,by omega,rfl,hid (by simp)⟩
 case round =>
  obtain ⟨k,hk,rfl,HR⟩:=hrel;by_cases aL:k<s.length
  ·cases hc:bq s[k] with
   | true =>
     have HN:Hid (aZ bq s=(k+1)+aZ bq (s.drop (k+1))):=hid (by rw [HR.out,g7 aL hc]);have HC:=hid (HT.out.is s[k] true hc);clear hc HR;go_wp2_with fail;refine (HC.out _).mono ?_;rintro e w' ⟨rfl,rfl⟩;go_wp2_with fail
     go_round
     case rel=>exact ⟨k+1,by omega,by go_num,HN⟩
     case measure=>simp [intOf];omega
   | false =>
     have HN:Hid (aZ bq s=k):=hid (by rw [HR.out,eo s k aL,f8 hc];rfl);have HC:=hid (HT.out.is s[k] false hc);clear hc HR;go_wp2_with fail;refine (HC.out _).mono ?_;rintro e w' ⟨rfl,rfl⟩;go_wp2_with fail;go_ret;exact ⟨by rw [HN.out];rfl,rfl⟩
  ·have HN:Hid (aZ bq s=k):=hid (by rw [HR.out,List.drop_eq_nil_of_le (by omega)];rfl);have hd:decide (k<s.length)=false:=decide_eq_false aL;clear HR;go_wp2_with fail;go_ret;exact ⟨by rw [HN.out];rfl,rfl⟩
end
def plV (l c:Nat):Value:=.agg #[.int .i64 l,.int .i64 c]
theorem vX (p:Pl) (s:List UInt8) (c:UInt8):cA p (s++[c])=adv (cA p s) c:=by rw [hI];rfl
theorem p9 (p:Pl):∀ s:List UInt8,(cA p s).1=p.1+s.count 10
 | []=>by simp [cA]
 | c::s=>by
   rw [kg,p9 (adv p c) s,List.count_cons];unfold adv;by_cases h:c.toNat=10
   ·have:c=10:=UInt8.toNat_inj.1 (h.trans rfl);subst this;simp;omega
   ·have:(c == 10)=false:=by rw [beq_eq_false_iff_ne];intro e;apply h;rw [e];rfl
    rw [if_neg h,this];simp
theorem mK (p:Pl):∀ s:List UInt8,s.count 10=0→(cA p s).2=p.2+s.length
 | [],_=>by simp [cA]
 | c::s,hc=>by
   rw [List.count_cons] at hc;have h:¬ c.toNat=10:=fun h=>by
    have:c=10:=UInt8.toNat_inj.1 (h.trans rfl);subst this;simp at hc
   rw [kg,mK _ s (by omega)];unfold adv;rw [if_neg h];simp;omega
theorem wU (p:Pl) (s:List UInt8) (i:Nat) (hi:i<s.length) (h1:s[i].toNat=10) (h2:∀ j,i<j→(hj:j<s.length)→s[j].toNat≠10):(cA p s).2=s.length - i:=by
 have e:s=s.take i++s[i]::s.drop (i+1):=by rw [← eo s i hi,List.take_append_drop]
 have hz:(s.drop (i+1)).count 10=0:=by
  rw [List.count_eq_zero];intro hm;obtain ⟨j,hj,he⟩:=List.getElem_of_mem hm;rw [List.getElem_drop] at he;exact h2 (i+1+j) (by omega) (by rw [List.length_drop] at hj;omega) (by rw [he];rfl)
 have h3:=mK (adv (cA p (s.take i)) s[i]) (s.drop (i+1)) hz;have h4:cA p s=cA (adv (cA p (s.take i)) s[i]) (s.drop (i+1)):=by
  conv=>lhs;rw [e]
  rw [hI,kg]
 rw [h4,h3];unfold adv;rw [if_pos h1,List.length_drop];simp;omega
theorem zbc (s:List UInt8) (h:0<s.count 10) (p:Pl):((cA p s).2:Int)=s.length - Lib.lastIndexByte (bs s) 10∧Lib.lastIndexByte (bs s) 10≤s.length∧0≤Lib.lastIndexByte (bs s) 10:=by
 have hg:∀ j,j<s.length→((bs s).data[j]!)=s[j]!:=fun j hj=>by simp [bs]
 rcases Lib.lastIdx_spec (bs s) 10 (bs s).size with ⟨-,h2⟩ | ⟨i,hi,h1,h2,h3⟩
 ·exfalso;have:s.count 10=0:=by
   rw [List.count_eq_zero];intro hm;obtain ⟨j,hj,he⟩:=List.getElem_of_mem hm;have:=h2 j hj;rw [hg j hj,getElem!_pos s j hj,he] at this;exact this rfl
  omega
 ·have hi':i<s.length:=hi;rw [hg i hi',getElem!_pos s i hi'] at h2;have ht:=wU p s i hi' (by omega) (fun j hj hjl=>by
   have:=h3 j hj hjl;rw [hg j hjl,getElem!_pos s j hjl] at this;omega)
  have e:Lib.lastIndexByte (bs s) 10=i:=h1;rw [ht,e];exact ⟨by omega,by omega,by omega⟩
theorem xI (s:List UInt8) (W:World):Calls Tryz.prog 57 #[.string (bs s),.string ⟨#[10]⟩] W fun e w'=>e=.returned (.int .i64 (s.count 10:Nat))∧W=w':=by
 refine (Tryz.strings_Count_one (bs s) 10 W).mono ?_;rintro e w' ⟨rfl,rfl⟩;exact ⟨rfl,rfl⟩
theorem rJ {w:World} {tmps:Array Value} {b:Nat} {x y:Int} (h4:tmps[4]?.getD undef=.pointer (some ⟨b,0,none⟩)) (h0:w.cell? ⟨b,0,none⟩=some (.int .i64 x)) (h1:w.cell? ⟨b,1,none⟩=some (.int .i64 y)) :
  (results Tryz.f30 tmps).run Tryz.prog w=.ok (.agg #[.int .i64 x,.int .i64 y]) w:=by
 simp [results,Tryz.f30,go_sem,h4,h0,h1]
theorem wN (w:World) (A:Obj) (x y:Value) (e:TypeId):((w.alloc A).alloc (.cells #[x,y] e)).cell? ⟨w.heap.size+1,0,none⟩=some x∧((w.alloc A).alloc (.cells #[x,y] e)).cell? ⟨w.heap.size+1,1,none⟩=some y:=by
 have h:=fun j=>World.cell?_alloc_mark (w.alloc A) #[x,y] e (0,0) j
 simp only [wSz] at h;exact ⟨(h 0).trans rfl,(h 1).trans rfl⟩
theorem gx (w:World) (A B:Obj):Below w.heap.size w ((w.alloc A).alloc B):=((Below.refl _ _).alloc (nRe _) _).alloc (by simp) _
theorem tA {a b:Int} {x:Pl} (h1:(x.1:Int)=a) (h2:(x.2:Int)=b):Ending.returned (.agg #[.int .i64 a,.int .i64 b])=.returned (.agg #[.int .i64 x.1,.int .i64 x.2]):=by rw [h1,h2]
theorem yi (s:List UInt8) (hs:s.length≤1000000000000) (p:Pl) (hp:p.1≤1000000000000∧p.2≤1000000000000) (w:World) :
  Calls Tryz.prog 30 #[plV p.1 p.2,.string (bs s)] w fun e w'=>e=.returned (plV (cA p s).1 (cA p s).2)∧Below w.heap.size w w':=by
 obtain ⟨l,c⟩:=p;simp only at hp;obtain ⟨hp1,hp2⟩:=hp;have HC:=hid (xI s);have hl1:=p9 (l,c) s;have cw:s.count 10≤s.length:=List.count_le_length;unfold plV;by_cases hz:s.count 10=0
 ·have hl2:=mK (l,c) s hz;rw [hz] at HC hl1;simp only at hl1 hl2;have H1:=hid hl1;have H2:=hid hl2;clear hl1 hl2 hz cw;go_enter Tryz.func30,Tryz.ntmps30
  go_wp2_with fail;refine (HC.out _).mono ?_;rintro e wx ⟨rfl,rfl⟩;go_wp2_with fail;refine bodyPost_ret (rJ rfl (wN w _ _ _ _).1 (wN w _ _ _ _).2) rfl ⟨tA ?_ ?_,gx w _ _⟩
  ·rw [H1.out];simp
  ·rw [H2.out];simp
 ·have hlast:=zbc s (by omega) (l,c);obtain ⟨h2,h3,h4⟩:=hlast;have HL:=hid (Tryz.strings_LastIndexByte (bs s) 10 (by rw [kt];omega));simp only at hl1;generalize Lib.lastIndexByte (bs s) 10=v at *;have H1:=hid hl1;have H2:=hid h2;have hn:(0:Int)<(s.count 10:Int):=by omega
  generalize s.count 10=n at *;clear hl1 h2;go_enter Tryz.func30,Tryz.ntmps30
  go_wp2_with fail;refine (HC.out _).mono ?_;rintro e wx ⟨rfl,rfl⟩;go_wp2_with fail
  go_region_with (go_at_call 58;refine (HL.out _).mono ?_;rintro e wx ⟨rfl,rfl⟩)
  all_goals (try go_wp2_with fail)
  all_goals
   refine bodyPost_ret (rJ rfl (wN w _ _ _ _).1 (wN w _ _ _ _).2) rfl ⟨tA ?_ ?_,(gx w _ _).drew⟩
   ·rw [H1.out,IntKind.wrap_i64];omega
   ·rw [H2.out,IntKind.wrap_i64];omega
theorem qD:(Tryz.prog.info? 5).map (fun i=>(i.zero,i.size,i.bytes))=some (some (.int .u8 0),1,1):=by kernel_rfl
theorem bU (l:List UInt8):(Lib.byteCells l).length=l.length:=by simp [Lib.byteCells]
theorem du (l:List UInt8):∀ u ∈ Lib.byteCells l,u.oneCell'=true:=by
 intro u hu;simp only [Lib.byteCells,List.mem_map] at hu;obtain ⟨s,_,rfl⟩:=hu;rfl
theorem dt (a b:List UInt8):Lib.byteCells (a++b)=Lib.byteCells a++Lib.byteCells b:=by simp [Lib.byteCells]
theorem po (l:List UInt8) (k:Nat) (h:k<l.length):(Lib.byteCells l)[k]? = some (.int .u8 l[k].toNat):=by simp [Lib.byteCells,h]
theorem ib {w:World} {v:Value} {n:Nat} {l:List UInt8} (h:a9 w 1 v n (Lib.byteCells l)) :
  (convert 41 9 v).run Tryz.prog w=.ok (.string (bs l)) w:=by
 obtain ⟨hl,a,c,rfl,hc,hm,hn,hx⟩:=h;have hnl:n=l.length:=by rw [bU] at hl;omega
 subst hnl;cases a with
 | none =>
   have h0:=hn rfl;have hl0:l=[]:=List.eq_nil_of_length_eq_zero (by omega);subst hl0;exact run_convert_bytes_nil (P:=Tryz.prog) (w:=w) 41 5 Tryz.underlying41 Tryz.underlying5 _ _ 9 Tryz.underlying9
 | some a =>
   refine run_convert_bytes_back w 41 9 5 a c l Tryz.underlying41 Tryz.underlying5 Tryz.underlying9 fun j hj=>?_
   obtain ⟨b,off,hb,-,cw⟩:=hx (by intro e;have:=bU l;rw [e] at this;simp at this;omega);obtain rfl:=Option.some.inj hb;have hadd:(⟨b,off,none⟩:Addr).add j=⟨b,off+j,none⟩:=by unfold Addr.add;split <;> simp_all
   rw [hadd];exact cw j _ (po l j hj)
theorem i7 (W:World) (c:UInt8):a9 (W.alloc (.cells #[.int .u8 c.toNat] 5)) 1 (.slice (some ⟨W.heap.size,0,none⟩) 1 1) 1 (Lib.byteCells [c]) :=
 ⟨rfl,_,1,rfl,nRe _,by unfold maxLen;omega,fun h=>(by cases h),fun _=>⟨W.heap.size,0,rfl,by simp,fun j u hu=>by rw [Nat.zero_add,World.cell?_alloc_mark];simpa [Lib.byteCells] using hu⟩⟩
def d8 (s:List UInt8):List UInt8 × Nat:=match qGo (s.drop 1) with | none=>([],0) | some x=>(x.1,x.2+1)
def qSh (out:List UInt8) (k:Nat) (x:Option (List UInt8 × Nat)):Option (List UInt8 × Nat):=x.map fun y=>(out++y.1,k+y.2)
theorem sS (x:Option (List UInt8 × Nat)):x=qSh [] 0 x:=by cases x <;> simp [qSh]
theorem qR (out:List UInt8) (k j:Nat) (d:List UInt8) (x:Option (List UInt8 × Nat)):qSh out k (x.map fun y=>(d++y.1,y.2+j))=qSh (out++d) (k+j) x:=by
 cases x with
 | none=>rfl
 | some y=>simp [qSh];omega
theorem zbt {s out:List UInt8} {k:Nat} (h:k+1<s.length) (hc:s[k+1].toNat=34) (hq:qGo (s.drop 1)=qSh out k (qGo (s.drop (k+1)))):d8 s=(out,k+2):=by
 rw [eo s (k+1) h,fb,if_pos hc] at hq;unfold d8;rw [hq];simp [qSh]
theorem zbz {s out:List UInt8} {k:Nat} (h:k+1<s.length) (hc:s[k+1].toNat<32∨s[k+1].toNat=127) (hq:qGo (s.drop 1)=qSh out k (qGo (s.drop (k+1)))):d8 s=([],0):=by
 rw [eo s (k+1) h,fb,if_neg (by omega),if_pos hc] at hq;unfold d8;rw [hq];rfl
theorem zD {s out:List UInt8} {k:Nat} (h:s.length≤k+1) (hq:qGo (s.drop 1)=qSh out k (qGo (s.drop (k+1)))):d8 s=([],0):=by
 rw [List.drop_eq_nil_of_le h] at hq;unfold d8;rw [hq];rfl
theorem vA {s out:List UInt8} {k:Nat} (h:k+1<s.length) (h1:s[k+1].toNat≠34) (h2:¬ (s[k+1].toNat<32∨s[k+1].toNat=127)) (h3:s[k+1].toNat≠92) (hq:qGo (s.drop 1)=qSh out k (qGo (s.drop (k+1)))) :
  qGo (s.drop 1)=qSh (out++[s[k+1]]) (k+1) (qGo (s.drop (k+1+1))):=by
 rw [eo s (k+1) h,fb,if_neg h1,if_neg h2,if_neg h3] at hq;rw [hq];exact qR out k 1 [s[k+1]] _
theorem yH {s out:List UInt8} {k:Nat} (h:k+1<s.length) (h3:s[k+1].toNat=92) (hl:s.length≤k+2) (hq:qGo (s.drop 1)=qSh out k (qGo (s.drop (k+1)))):d8 s=([],0):=by
 rw [eo s (k+1) h,fb,if_neg (by omega),if_neg (by omega),if_pos h3,List.drop_eq_nil_of_le (show s.length≤k+1+1 from hl)] at hq;unfold d8;rw [hq];rfl
theorem pI {s out:List UInt8} {k:Nat} (h:k+1<s.length) (h3:s[k+1].toNat=92) (h':k+2<s.length) (d:UInt8) (hd:((s[k+2].toNat=34∨s[k+2].toNat=92)∧d=s[k+2])∨(s[k+2].toNat=110∧d=10)) (hq:qGo (s.drop 1)=qSh out k (qGo (s.drop (k+1)))) :
  qGo (s.drop 1)=qSh (out++[d]) (k+2) (qGo (s.drop (k+2+1))):=by
 rw [eo s (k+1) h,fb,if_neg (by omega),if_neg (by omega),if_pos h3,show k+1+1=k+2 from rfl,eo s (k+2) h'] at hq;simp only at hq;rcases hd with ⟨h4,rfl⟩ | ⟨h4,rfl⟩
 ·rw [if_pos h4] at hq;rw [hq];exact qR out k 2 [s[k+2]] _
 ·rw [if_neg (by omega),if_pos h4] at hq;rw [hq];exact qR out k 2 [10] _
theorem yy {s out:List UInt8} {k:Nat} (h:k+1<s.length) (h3:s[k+1].toNat=92) (h':k+2<s.length) (hd:s[k+2].toNat≠34∧s[k+2].toNat≠92∧s[k+2].toNat≠110) (hq:qGo (s.drop 1)=qSh out k (qGo (s.drop (k+1)))):d8 s=([],0):=by
 rw [eo s (k+1) h,fb,if_neg (by omega),if_neg (by omega),if_pos h3,show k+1+1=k+2 from rfl,eo s (k+2) h'] at hq;simp only at hq;rw [if_neg (by omega),if_neg (by omega)] at hq;unfold d8;rw [hq];rfl
theorem kl (d:UInt8):Lib.indexByte [34,92,110] d=if d.toNat=34 then 0 else if d.toNat=92 then 1 else if d.toNat=110 then 2 else -1:=by
 have e:∀ a:UInt8,(a == d)=decide (d.toNat=a.toNat):=fun a=>by
  rw [Bool.eq_iff_iff];simp only [beq_iff_eq,decide_eq_true_eq];exact ⟨fun h=>by rw [h],fun h=>(UInt8.toNat_inj.1 h).symm⟩
 simp only [Lib.indexByte,e];have e1:(34:UInt8).toNat=34:=rfl;have e2:(92:UInt8).toNat=92:=rfl;have e3:(110:UInt8).toNat=110:=rfl;rw [e1,e2,e3];by_cases h1:d.toNat=34
 ·simp [h1]
 ·by_cases h2:d.toNat=92
  ·simp [h2]
  ·by_cases h3:d.toNat=110
   ·simp [h3]
   ·simp [h1,h2,h3]
theorem zbu {c d:UInt8} (h:c.toNat=d.toNat):d=c:=(UInt8.toNat_inj.1 h).symm
theorem nz (d:UInt8) (v:Int) (hv:Lib.indexByte [34,92,110] d=v) (W:World) :
  Calls Tryz.prog 56 #[.string ⟨#[34,92,110]⟩,.int .u8 d.toNat] W fun e w'=>e=.returned (.int .i64 v)∧W=w':=by
 refine (Tryz.strings_IndexByte ⟨#[34,92,110]⟩ d.toNat W).mono ?_;rintro e w' ⟨rfl,rfl⟩;have:((d.toNat:Int).toNat.toUInt8)=d:=by simp
 exact ⟨by rw [this];show Ending.returned (.int .i64 (Lib.indexByte [34,92,110] d))=_;rw [hv],rfl⟩
theorem oL (s:List UInt8) (hs:s.length≤1000000000000) (t:List UInt8) (n:Nat) (ht:d8 s=(t,n)) (w:World) :
  Calls Tryz.prog 54 #[.string (bs s)] w fun e w'=>e=.returned (.tuple #[.string (bs t),.int .i64 n])∧Below w.heap.size w w':=by
 obtain ⟨i0,hi,hz0,hz1,hz2⟩:=info_parts qD;have HT:=hid ht;clear ht;go_enter Tryz.func54,Tryz.ntmps54
 go_wp2_with fail;go_loopw [4,5] (fun v i wr=>∃ (k:Nat) (out:List UInt8),k≤s.length∧out.length≤k∧i=.int .i64 (k+1:Nat)∧wr.ownsRow w.heap.size 5 1 v out.length (Lib.byteCells out)∧Hid (qGo (s.drop 1)=qSh out k (qGo (s.drop (k+1))))∧Below w.heap.size w wr) (fun _ i _=>s.length+1 - (intOf i).toNat)
 case atStart=>exact ⟨0,[],by omega,by simp,rfl,⟨rfl,.inl ⟨rfl,rfl⟩⟩,hid (sS _),Below.refl _ _⟩
 case round =>
  obtain ⟨k,out,hk,hol,rfl,hown,HQ,hbw⟩:=hrel;by_cases aL:k+1<s.length
  ·have hcv:=ib (zdK hown (by unfold maxLen;omega));have Hown:=hid hown;have htn:((k:Int)+1).toNat=k+1:=by omega
   have hsz:=hbw.size;by_cases c1:s[k+1].toNat=34
   ·have q0:((s[k+1].toNat:Int) == 34)=true:=eqT (by omega);have e0:=zbt aL c1 HQ.out;rw [HT.out] at e0;obtain ⟨rfl,rfl⟩:=Prod.mk.inj e0;clear e0 HQ hown c1;go_wp2_with fail
    go_ret2
    exact ⟨rfl,hbw⟩
   ·have q0:((s[k+1].toNat:Int) == 34)=false:=eqF (by omega);by_cases c2:s[k+1].toNat<32∨s[k+1].toNat=127
    ·have e0:=zbz aL c2 HQ.out;rw [HT.out] at e0;obtain ⟨rfl,rfl⟩:=Prod.mk.inj e0;by_cases c3:s[k+1].toNat<32
     ·have c3':(s[k+1].toNat:Int)<32:=by omega
      clear e0 HQ hown c1 c2;go_wp2_with fail
      go_ret2
      exact ⟨rfl,hbw⟩
     ·have c3':¬ (s[k+1].toNat:Int)<32:=by omega
      have q1:((s[k+1].toNat:Int) == 127)=true:=eqT (by omega);clear e0 HQ hown c1 c2 c3;go_wp2_with fail
      go_ret2
      exact ⟨rfl,hbw⟩
    ·have c3':¬ (s[k+1].toNat:Int)<32:=by omega
     have q1:((s[k+1].toNat:Int) == 127)=false:=eqF (by omega);by_cases c4:s[k+1].toNat=92
     ·have q2:((s[k+1].toNat:Int) == 92)=true:=eqT (by omega);have htn2:((k:Int)+1+1).toNat=k+2:=by omega
      by_cases hl2:k+2<s.length
      ·by_cases c5:s[k+2].toNat=34∨s[k+2].toNat=92∨s[k+2].toNat=110
       ·rcases c5 with c5 | c5 | c5
        ·have HI:=hid (nz s[k+2] 0 (by rw [kl,if_pos c5]));have HN:=hid (pI aL c4 hl2 34 (.inl ⟨.inl c5,zbu c5⟩) HQ.out);clear HQ hown c1 c2 c4 c5;go_wp2_with fail;refine (HI.out _).mono ?_;rintro e wx ⟨rfl,rfl⟩;go_wp2_with (at_builtin;go_must (refine cg rfl _ _ 41 rfl w.heap.size 5 i0 (.int .u8 0) 1 1 Tryz.underlying41 hi hz0 hz1 hz2 rfl (by decide) _ out.length (Lib.byteCells out) rfl ?a1 _ 1 (Lib.byteCells [34]) rfl ?a2 ?a3 ?a4 ?a5 ?a6 ?_))
         case a1=>exact Hown.out.alloc _
         case a2=>exact i7 _ _
         case a3=>exact du _
         case a4=>unfold maxLen;omega
         (try case a5=>omega)
         (try case a6=>simp;omega)
         intro v' w' hown' hgrow;have hbx:=(hbw.alloc hbw.size _).grown hgrow (by simp;omega) (by first | exact fun q hq=>((Hown.out.alloc _).lt q hq).1 | exact fun q hq=>(Hown.out.lt q hq).1);have ho2:w'.ownsRow w.heap.size 5 1 v' (out++[34]).length (Lib.byteCells (out++[34])):=by rw [dt,lAp];exact hown'
         clear hown' hgrow;go_wp2_with fail;exact ⟨⟨k+2,out++[34],by omega,by simp;omega,by go_num,ho2,HN,hbx⟩,by simp [intOf];omega⟩
        ·have HI:=hid (nz s[k+2] 1 (by rw [kl,if_neg (by omega),if_pos c5]));have HN:=hid (pI aL c4 hl2 92 (.inl ⟨.inr c5,zbu c5⟩) HQ.out);clear HQ hown c1 c2 c4 c5;go_wp2_with fail;refine (HI.out _).mono ?_;rintro e wx ⟨rfl,rfl⟩;go_wp2_with (at_builtin;go_must (refine cg rfl _ _ 41 rfl w.heap.size 5 i0 (.int .u8 0) 1 1 Tryz.underlying41 hi hz0 hz1 hz2 rfl (by decide) _ out.length (Lib.byteCells out) rfl ?b1 _ 1 (Lib.byteCells [92]) rfl ?b2 ?b3 ?b4 ?b5 ?b6 ?_))
         case b1=>exact Hown.out.alloc _
         case b2=>exact i7 _ _
         case b3=>exact du _
         case b4=>unfold maxLen;omega
         (try case b5=>omega)
         (try case b6=>simp;omega)
         intro v' w' hown' hgrow;have hbx:=(hbw.alloc hbw.size _).grown hgrow (by simp;omega) (by first | exact fun q hq=>((Hown.out.alloc _).lt q hq).1 | exact fun q hq=>(Hown.out.lt q hq).1);have ho2:w'.ownsRow w.heap.size 5 1 v' (out++[92]).length (Lib.byteCells (out++[92])):=by rw [dt,lAp];exact hown'
         clear hown' hgrow;go_wp2_with fail;exact ⟨⟨k+2,out++[92],by omega,by simp;omega,by go_num,ho2,HN,hbx⟩,by simp [intOf];omega⟩
        ·have HI:=hid (nz s[k+2] 2 (by rw [kl,if_neg (by omega),if_neg (by omega),if_pos c5]));have HN:=hid (pI aL c4 hl2 10 (.inr ⟨c5,rfl⟩) HQ.out);clear HQ hown c1 c2 c4 c5;go_wp2_with fail;refine (HI.out _).mono ?_;rintro e wx ⟨rfl,rfl⟩;go_wp2_with (at_builtin;go_must (refine cg rfl _ _ 41 rfl w.heap.size 5 i0 (.int .u8 0) 1 1 Tryz.underlying41 hi hz0 hz1 hz2 rfl (by decide) _ out.length (Lib.byteCells out) rfl ?c1 _ 1 (Lib.byteCells [10]) rfl ?c2 ?c3 ?c4 ?c5 ?c6 ?_))
         case c1=>exact Hown.out.alloc _
         case c2=>exact i7 _ _
         case c3=>exact du _
         case c4=>unfold maxLen;omega
         (try case c5=>omega)
         (try case c6=>simp;omega)
         intro v' w' hown' hgrow;have hbx:=(hbw.alloc hbw.size _).grown hgrow (by simp;omega) (by first | exact fun q hq=>((Hown.out.alloc _).lt q hq).1 | exact fun q hq=>(Hown.out.lt q hq).1);have ho2:w'.ownsRow w.heap.size 5 1 v' (out++[10]).length (Lib.byteCells (out++[10])):=by rw [dt,lAp];exact hown'
         clear hown' hgrow;go_wp2_with fail;exact ⟨⟨k+2,out++[10],by omega,by simp;omega,by go_num,ho2,HN,hbx⟩,by simp [intOf];omega⟩
       ·have HI:=hid (nz s[k+2] (-1) (by rw [kl,if_neg (by omega),if_neg (by omega),if_neg (by omega)]));have e0:=yy aL c4 hl2 (by omega) HQ.out;rw [HT.out] at e0;obtain ⟨rfl,rfl⟩:=Prod.mk.inj e0;clear e0 HQ hown c1 c2 c4 c5;go_wp2_with fail;refine (HI.out _).mono ?_;rintro e wx ⟨rfl,rfl⟩;go_wp2_with fail
        go_ret2
        exact ⟨rfl,hbw⟩
      ·have e0:=yH aL c4 (by omega) HQ.out;rw [HT.out] at e0;obtain ⟨rfl,rfl⟩:=Prod.mk.inj e0;clear e0 HQ hown c1 c2 c4;go_wp2_with fail
       go_ret2
       exact ⟨rfl,hbw⟩
     ·have q2:((s[k+1].toNat:Int) == 92)=false:=eqF (by omega);have HN:=hid (vA aL c1 c2 c4 HQ.out);clear HQ hown c1 c2 c4;go_wp2_with (at_builtin;go_must (refine cg rfl _ _ 41 rfl w.heap.size 5 i0 (.int .u8 0) 1 1 Tryz.underlying41 hi hz0 hz1 hz2 rfl (by decide) _ out.length (Lib.byteCells out) rfl ?d1 _ 1 (Lib.byteCells [s[k+1]]) rfl ?d2 ?d3 ?d4 ?d5 ?d6 ?_))
      case d1=>exact Hown.out.alloc _
      case d2=>exact i7 _ _
      case d3=>exact du _
      case d4=>unfold maxLen;omega
      (try case d5=>omega)
      (try case d6=>simp;omega)
      intro v' w' hown' hgrow;have hbx:=(hbw.alloc hbw.size _).grown hgrow (by simp;omega) (by first | exact fun q hq=>((Hown.out.alloc _).lt q hq).1 | exact fun q hq=>(Hown.out.lt q hq).1);have ho2:w'.ownsRow w.heap.size 5 1 v' (out++[s[k+1]]).length (Lib.byteCells (out++[s[k+1]])):=by rw [dt,lAp];exact hown'
      clear hown' hgrow;go_wp2_with fail;exact ⟨⟨k+1,out++[s[k+1]],by omega,by simp;omega,by go_num,ho2,HN,hbx⟩,by simp [intOf];omega⟩
  ·have e0:=zD (by omega) HQ.out;rw [HT.out] at e0;obtain ⟨rfl,rfl⟩:=Prod.mk.inj e0;clear e0 HQ hown;go_wp2_with fail
   go_ret2
   exact ⟨rfl,hbw⟩
def um (k:Nat) (t:List UInt8) (l c:Nat):Value:=.agg #[.int .i64 k,.string (bs t),.int .i64 l,.int .i64 c]
def jm (w:World) (b:Nat) (x0 x1 x2 x3:Value):Prop :=
 w.cell? ⟨b,0,none⟩=some x0∧w.cell? ⟨b,1,none⟩=some x1∧w.cell? ⟨b,2,none⟩=some x2∧w.cell? ⟨b,3,none⟩=some x3
def ny (w:World) (b:Nat):Prop:=∀ j,w.frozen? ⟨b,j,none⟩=false
theorem bO (w:World) (x0 x1 x2 x3:Value) (e:TypeId) (fr:Nat × Nat):jm (w.alloc (.cells #[x0,x1,x2,x3] e fr)) w.heap.size x0 x1 x2 x3 :=
 ⟨by rw [World.cell?_alloc_mark];rfl,by rw [World.cell?_alloc_mark];rfl,by rw [World.cell?_alloc_mark];rfl,by rw [World.cell?_alloc_mark];rfl⟩
theorem jq {w w':World} {b:Nat} {x0 x1 x2 x3:Value} (h:jm w b x0 x1 x2 x3) (hb:Below w.heap.size w w'):jm w' b x0 x1 x2 x3:=by
 have aL:=World.block_lt_of_cell? w _ h.1;exact ⟨(hb.cell (p:=⟨b,0,none⟩) aL).trans h.1,(hb.cell (p:=⟨b,1,none⟩) aL).trans h.2.1,(hb.cell (p:=⟨b,2,none⟩) aL).trans h.2.2.1,(hb.cell (p:=⟨b,3,none⟩) aL).trans h.2.2.2⟩
theorem fZ (w:World) (C:Array Value) (e:TypeId):ny (w.alloc (.cells C e)) w.heap.size:=fun j=>by
 have h:(w.alloc (.cells C e)).heap[w.heap.size]? = some (.cells C e):=Array.getElem?_push_size;unfold World.frozen?;simp only [h];simp
theorem kO {w w':World} {b:Nat} (h:ny w b) (aL:b<w.heap.size) (hb:Below w.heap.size w w'):ny w' b:=fun j=>(hb.frozen (p:=⟨b,j,none⟩) aL).trans (h j)
theorem dl {w:World} {b:Nat} {x0 x1 x2 x3:Value} (h:jm w b x0 x1 x2 x3) (y0 y1 y2 y3:Value) :
  jm ((((w.setCell ⟨b,0,none⟩ y0).setCell ⟨b,1,none⟩ y1).setCell ⟨b,2,none⟩ y2).setCell ⟨b,3,none⟩ y3) b y0 y1 y2 y3:=by
 obtain ⟨h0,h1,h2,h3⟩:=h;refine ⟨?_,?_,?_,?_⟩
 ·rw [World.cell?_setCell_other _ _ _ _ (by simp),World.cell?_setCell_other _ _ _ _ (by simp),World.cell?_setCell_other _ _ _ _ (by simp)];exact World.cell?_setCell_same' _ _ _ (by rw [h0];rfl)
 ·rw [World.cell?_setCell_other _ _ _ _ (by simp),World.cell?_setCell_other _ _ _ _ (by simp)];exact World.cell?_setCell_same' _ _ _ (by rw [World.cell?_setCell_other _ _ _ _ (by simp),h1];rfl)
 ·rw [World.cell?_setCell_other _ _ _ _ (by simp)];exact World.cell?_setCell_same' _ _ _ (by rw [World.cell?_setCell_other _ _ _ _ (by simp),World.cell?_setCell_other _ _ _ _ (by simp),h2];rfl)
 ·exact World.cell?_setCell_same' _ _ _ (by rw [World.cell?_setCell_other _ _ _ _ (by simp),World.cell?_setCell_other _ _ _ _ (by simp),World.cell?_setCell_other _ _ _ _ (by simp),h3];rfl)
theorem b8 {B:Nat} {a w:World} {b:Nat} (h:Below B a w) (hb:B≤b) (y0 y1 y2 y3:Value) :
  Below B a ((((w.setCell ⟨b,0,none⟩ y0).setCell ⟨b,1,none⟩ y1).setCell ⟨b,2,none⟩ y2).setCell ⟨b,3,none⟩ y3) :=
 (((h.setCell (p:=⟨b,0,none⟩) hb _).setCell (p:=⟨b,1,none⟩) hb _).setCell (p:=⟨b,2,none⟩) hb _).setCell (p:=⟨b,3,none⟩) hb _
structure Two (w:World) (b:Nat) (x y:Value):Prop where
 c0:w.cell? ⟨b,0,none⟩=some x
 c1:w.cell? ⟨b,1,none⟩=some y
 f0:w.frozen? ⟨b,0,none⟩=false
 f1:w.frozen? ⟨b,1,none⟩=false
theorem Two.below {w w':World} {b:Nat} {x y:Value} (h:Two w b x y) (hb:Below w.heap.size w w'):Two w' b x y:=by
 have aL:=World.block_lt_of_cell? w _ h.c0;exact ⟨(hb.cell (p:=⟨b,0,none⟩) aL).trans h.c0,(hb.cell (p:=⟨b,1,none⟩) aL).trans h.c1,(hb.frozen (p:=⟨b,0,none⟩) aL).trans h.f0,(hb.frozen (p:=⟨b,1,none⟩) aL).trans h.f1⟩
theorem Two.past {B:Nat} {w w':World} {b:Nat} {x y:Value} (h:Two w b x y) (hb:Below B w w') (aL:b<B):Two w' b x y :=
 ⟨(hb.cell (p:=⟨b,0,none⟩) aL).trans h.c0,(hb.cell (p:=⟨b,1,none⟩) aL).trans h.c1,(hb.frozen (p:=⟨b,0,none⟩) aL).trans h.f0,(hb.frozen (p:=⟨b,1,none⟩) aL).trans h.f1⟩
theorem Two.drew {w:World} {b:Nat} {x y:Value} (h:Two w b x y):Two w.drew b x y:=⟨h.c0,h.c1,h.f0,h.f1⟩
theorem Two.set {w:World} {b:Nat} {x y:Value} (h:Two w b x y) (u v:Value):Two ((w.setCell ⟨b,0,none⟩ u).setCell ⟨b,1,none⟩ v) b u v:=by
 have e1:(w.setCell ⟨b,0,none⟩ u).cell? ⟨b,1,none⟩=some y:=by rw [World.cell?_setCell_other _ _ _ _ (by simp)];exact h.c1
 refine ⟨?_,?_,?_,?_⟩
 ·rw [World.cell?_setCell_other _ _ _ _ (by simp)];exact World.cell?_setCell_same' _ _ _ (by rw [h.c0];rfl)
 ·exact World.cell?_setCell_same' _ _ _ (by rw [e1];rfl)
 ·rw [World.frozen?_setCell,World.frozen?_setCell];exact h.f0
 ·rw [World.frozen?_setCell,World.frozen?_setCell];exact h.f1
theorem Two.other {w:World} {b c:Nat} {x y:Value} (h:Two w b x y) (hne:c≠b) (u v:Value):Two ((w.setCell ⟨c,0,none⟩ u).setCell ⟨c,1,none⟩ v) b x y:=by
 have hn:∀ i j:Nat,(⟨c,i,none⟩:Addr)≠⟨b,j,none⟩:=fun i j e=>hne (congrArg Addr.block e)
 refine ⟨?_,?_,?_,?_⟩
 ·rw [World.cell?_setCell_other _ _ _ _ (hn _ _),World.cell?_setCell_other _ _ _ _ (hn _ _)];exact h.c0
 ·rw [World.cell?_setCell_other _ _ _ _ (hn _ _),World.cell?_setCell_other _ _ _ _ (hn _ _)];exact h.c1
 ·rw [World.frozen?_setCell,World.frozen?_setCell];exact h.f0
 ·rw [World.frozen?_setCell,World.frozen?_setCell];exact h.f1
theorem Two.lt {w:World} {b:Nat} {x y:Value} (h:Two w b x y):b<w.heap.size:=World.block_lt_of_cell? w _ h.c0
theorem iP (w:World) (x y:Value) (e:TypeId):Two (w.alloc (.cells #[x,y] e)) w.heap.size x y :=
 ⟨by rw [World.cell?_alloc_mark];rfl,by rw [World.cell?_alloc_mark];rfl,fZ w _ _ 0,fZ w _ _ 1⟩
theorem lR {w:World} {base e size n:Nat} {v:Value} {xs:List Value} (h:w.ownsRow base e size v n xs) {b:Nat} (hb:b<base) (x y:Value):((w.setCell ⟨b,0,none⟩ x).setCell ⟨b,1,none⟩ y).ownsRow base e size v n xs:=by
 obtain ⟨hl,h⟩:=h;refine ⟨hl,?_⟩;rcases h with h | ⟨g,cap,cur,hv,hg,hh,r⟩
 ·exact .inl h
 ·refine .inr ⟨g,cap,cur,hv,hg,?_,r⟩;have hne:g≠b:=by omega
  rw [Below.heap_setCell _ _ _ _ hne,Below.heap_setCell _ _ _ _ hne];exact hh
theorem jm.past {B:Nat} {w w':World} {b:Nat} {x0 x1 x2 x3:Value} (h:jm w b x0 x1 x2 x3) (hb:Below B w w') (aL:b<B):jm w' b x0 x1 x2 x3 :=
 ⟨(hb.cell (p:=⟨b,0,none⟩) aL).trans h.1,(hb.cell (p:=⟨b,1,none⟩) aL).trans h.2.1,(hb.cell (p:=⟨b,2,none⟩) aL).trans h.2.2.1,(hb.cell (p:=⟨b,3,none⟩) aL).trans h.2.2.2⟩
theorem ny.past {B:Nat} {w w':World} {b:Nat} (h:ny w b) (hb:Below B w w') (aL:b<B):ny w' b:=fun j=>(hb.frozen (p:=⟨b,j,none⟩) aL).trans (h j)
end Go.Proofs.YtfgiihpopngbkaaGreatDoor
