/- Lemmas and walks that the statement needs: Base, Frame, Builder, PackPlain, NumPlain, LexPlain, ParsePlain, LexBytes, LexPass. -/
import Derived.WalkKit
import Derived.WalkSpells
import Derived.WalkLawsBesides
import Derived.Deep.QuietTactic
import Derived.BigQuiet
import Derived.WalkSmall
import Derived.Laws.AppendOwnNone
import Derived.Test.YtfgiihpopngbkaaGreatDoorRows
import Derived.Test.YtfgiihpopngbkaaGreatDoorCards
import Derived.Test.YtfgiihpopngbkaaGreatDoorTie
import Derived.ProofKit
import Derived.SizedLaws
import Derived.Deep.DeepHandedRow
import Derived.Lib.LaidTab
import Derived.Deep.Slices
import Derived.Test.YtfgiihpopngbkaaGreatDoorChecked
import Derived.Shelf.Strings.BuilderK
import Derived.Test.YtfgiihpopngbkaaGreatDoorShelf
import Derived.Lib.ItoaNum
import Derived.Lib.ParseIntBCases
import Derived.Deep.RegionWith
namespace Go.Proofs.YtfgiihpopngbkaaGreatDoor
set_option maxRecDepth 100000
open Go.RowKit
open Nat renaming lt_of_lt_of_le→nL,le_trans→nT
theorem hid {p:Prop} (h:p):Hid p:=h
theorem eqT {a b:Int} (h:a=b):(a == b)=true:=beq_iff_eq.2 h
theorem eqF {a b:Int} (h:a≠b):(a == b)=false:=beq_eq_false_iff_ne.2 h
theorem neT {a b:Int} (h:a≠b):(a != b)=true:=bne_iff_ne.2 h
theorem neF {a b:Int} (h:a=b):(a != b)=false:=by subst h;exact bne_self_eq_false _
def bs (l:List UInt8):ByteArray:=⟨l.toArray⟩
theorem bs_list (s:ByteArray):bs s.data.toList=s:=rfl
theorem bs_inj {s t:ByteArray} (h:s.data.toList=t.data.toList):s=t:=by
 rw [← bs_list s,← bs_list t,h]
theorem bs_size (l:List UInt8):(bs l).size=l.length:=rfl
theorem bs_toList (l:List UInt8):(bs l).toList=l:=by rw [ByteArray.toList_eq];rfl
theorem bs_append (l r:List UInt8):bs l++bs r=bs (l++r):=by
 apply bs_inj;show (bs l++bs r).data.toList=l++r;rw [ByteArray.data_append,Array.toList_append];rfl
theorem bs_append_mk (l:List UInt8) (a:Array UInt8):bs l++ByteArray.mk a=bs (l++a.toList):=bs_append l a.toList
theorem mk_append_bs (l:List UInt8) (a:Array UInt8):ByteArray.mk a++bs l=bs (a.toList++l):=bs_append a.toList l
theorem lt_of_bs {l:List UInt8} {k:Nat} (h:k<(bs l).size):k<l.length:=h
theorem bs_get (l:List UInt8) (k:Nat) (h:k<(bs l).size):(bs l)[k]=l[k]'(lt_of_bs h):=rfl
theorem bs_extract (l:List UInt8) (j k:Nat):(bs l).extract j k=bs ((l.drop j).take (k - j)):=by
 apply bs_inj;show _=(l.drop j).take (k - j);rw [ByteArray.data_extract,Array.toList_extract,List.extract_eq_take_drop];rfl
attribute [go_sem] bs_size bs_toList bs_append bs_append_mk mk_append_bs bs_get bs_extract
def Drawn (w w':World):Prop:=∃ d,w'=w.drewN d
theorem Drawn.refl (w:World):Drawn w w:=⟨0,rfl⟩
theorem Drawn.drewN {w w':World} (h:Drawn w w') (n:Nat):Drawn w (w'.drewN n):=by
 obtain ⟨d,rfl⟩:=h;exact ⟨d+n,by simp [World.drewN,Nat.add_assoc]⟩
theorem Drawn.trans {a b c:World} (h:Drawn a b) (k:Drawn b c):Drawn a c:=by
 obtain ⟨d,rfl⟩:=k;exact h.drewN d
theorem Drawn.below {B:Nat} {w w':World} (h:Drawn w w'):Below B w w':=by
 obtain ⟨d,rfl⟩:=h;exact ⟨rfl,rfl,rfl,Nat.le_refl _,fun _ _=>rfl⟩
theorem Below.chain {w w1 w2:World} (h:Below w.heap.size w w1) (k:Below w1.heap.size w1 w2):Below w.heap.size w w2:=h.trans (k.mono h.size)
def SliceAt (w:World) (size:Nat) (v:Value) (n:Nat) (xs:List Value):Prop :=
 xs.length=n * size∧∃ a c,v=.slice a n c∧n≤c∧c≤maxLen∧(a=none→c=0) ∧
  (xs≠[]→∃ b off,a=some ⟨b,off,none⟩∧b<w.heap.size∧∀ j u,xs[j]? = some u→w.cell? ⟨b,off+j,none⟩=some u)
theorem SliceAt.below {w w':World} {B size:Nat} {v:Value} {n:Nat} {xs:List Value} (h:SliceAt w size v n xs) (hb:Below B w w') (hB:w.heap.size≤B):SliceAt w' size v n xs:=by
 obtain ⟨hl,a,c,rfl,hc,hm,hn,hx⟩:=h;refine ⟨hl,a,c,rfl,hc,hm,hn,fun hne=>?_⟩;obtain ⟨b,off,rfl,hlt,hcell⟩:=hx hne;refine ⟨b,off,rfl,nL hlt hb.size,fun j u hu=>?_⟩;rw [← hcell j u hu];exact World.cell?_of_block (w:=w) (hb.block b (by omega))
theorem SliceAt.of_owns {w:World} {base e size:Nat} {v:Value} {n:Nat} {xs:List Value} (h:w.ownsRow base e size v n xs) (hn:n≤maxLen):SliceAt w size v n xs:=by
 obtain ⟨hl,h⟩:=h;refine ⟨hl,?_⟩;rcases h with ⟨rfl,rfl⟩ | ⟨g,cap,cur,rfl,hb,hg,hc,hm,hs,ht⟩
 ·refine ⟨none,0,rfl,Nat.le_refl _,Nat.zero_le _,fun _=>rfl,fun hne=>?_⟩;rw [Nat.zero_mul] at hl;exact absurd (List.eq_nil_of_length_eq_zero hl) hne
 ·refine ⟨_,cap,rfl,hc,hm,fun h=>(by cases h),fun _=>⟨g,0,rfl,(Array.getElem?_eq_some_iff.1 hg).1,fun j u hu=>?_⟩⟩;have:=World.ownsRow.cells (w:=w) (base:=base) (e:=e) (size:=size) (v:=.slice (some ⟨g,0,none⟩) n cap) (n:=n) (xs:=xs) ⟨hl,.inr ⟨g,cap,cur,rfl,hb,hg,hc,hm,hs,ht⟩⟩ (g:=g) rfl j u hu;have hadd:(⟨g,0,none⟩:Addr).add j=⟨g,0+j,none⟩:=by unfold Addr.add;split <;> simp_all
  rwa [hadd] at this
theorem new_cells (w:World) (xs:Array Value) (e:TypeId) (fr:Nat × Nat):∀ j u,xs.toList[j]? = some u→(w.alloc (.cells xs e fr)).cell? ((⟨w.heap.size,0,none⟩:Addr).add j)=some u:=by
 intro j u h;have hadd:(⟨w.heap.size,0,none⟩:Addr).add j=⟨w.heap.size,j,none⟩:=by unfold Addr.add;split <;> simp_all
 rw [hadd,World.cell?_alloc_mark];simpa using h
theorem SliceAt.nil (w:World) (size:Nat):SliceAt w size (.slice none 0 0) 0 []:=⟨by simp,none,0,rfl,Nat.le_refl _,Nat.zero_le _,fun _=>rfl,fun h=>absurd rfl h⟩
def strCells (ss:List (List UInt8)):List Value:=ss.map fun l=>Value.string (bs l)
theorem strCells_get (ss:List (List UInt8)) (k:Nat) (h:k<ss.length):(strCells ss)[k]? = some (.string (bs ss[k])):=by
 simp [strCells,h]
theorem SliceAt.str {w:World} {v:Value} {n:Nat} {ss:List (List UInt8)} (h:SliceAt w 1 v n (strCells ss)):n=ss.length∧∃ a c,v=.slice a ss.length c∧ss.length≤c∧c≤maxLen ∧
  (∀ k,k<ss.length→∃ b off,a=some ⟨b,off,none⟩∧b<w.heap.size∧∀ j (hj:j<ss.length),w.cell? ⟨b,off+j,none⟩=some (.string (bs ss[j]))):=by
 obtain ⟨hl,a,c,rfl,hc,hm,-,hx⟩:=h;have hn:n=ss.length:=by simpa [strCells] using hl.symm
 subst hn;refine ⟨rfl,a,c,rfl,hc,hm,fun k hk=>?_⟩;obtain ⟨b,off,rfl,hlt,hcell⟩:=hx (by intro e;simp [strCells] at e;subst e;simp at hk);exact ⟨b,off,rfl,hlt,fun j hj=>hcell j _ (strCells_get ss j hj)⟩
theorem drop_at {α:Type} (l:List α) (k:Nat) (h:k<l.length):l.drop k=l[k]::l.drop (k+1):=List.drop_eq_getElem_cons h
theorem take_at {α:Type} (l:List α) (k:Nat) (h:k<l.length):l.take (k+1)=l.take k++[l[k]]:=List.take_succ_eq_append_getElem h
theorem wpList_append_src {P:Program} {w:World} {ops:Array Oper} {rest:List Oper} {o:Oper} {a:Act} {Q:Exit→Act→World→Prop} (hgd:o.guard=none) (s x:Operand) (t:TypeId)
  (ho:o.op=.call { callee:=.builtin .append,args:=#[s,x],argTypes:=#[t,t] })
  (base:Nat) (e:TypeId) (i:TypeInfo) (z:Value) (size bytes:Nat) (ht:P.underlying t=some (.slice e)) (hi:P.info? e=some i) (hz:i.zero=some z)
  (hsize:i.size=size) (hby:i.bytes=bytes) (hzs:z.cells.size=size) (hsz:0<size)
  (v:Value) (n:Nat) (xs:List Value) (hs:a.eval s=v) (hown:w.ownsRow base e size v n xs)
  (vx:Value) (m:Nat) (news:List Value) (hx:a.eval x=vx) (hsrc:SliceAt w size vx m news) (h1:∀ u ∈ news,u.oneCell'=true)
  (h63:n+m≤maxLen) (hbytes:(n+m) * bytes≤140737488355328) (hbase:base≤w.heap.size)
  (h:∀ v' w',w'.ownsRow base e size v' (n+m) (xs++news)→w.grownBy w' v.ownBlock→wpList P ops Q rest (a.put o.dst v') w'):wpList P ops Q (o::rest) a w:=by
 obtain ⟨hl,ad,c,rfl,hc,hm,hn,hcell⟩:=hsrc;cases ad with
 | none =>
   have h0:c=0:=hn rfl;subst h0;obtain rfl:m=0:=by omega
   have hnil:news=[]:=List.eq_nil_of_length_eq_zero (by simpa using hl);subst hnil;exact wpList_append_own_none hgd s x t ho base e i size ht hi v n xs hs hown hx (h v w (by simpa using hown) (World.grownBy.refl _ _))
 | some ad =>
   refine wpList_append_own w hgd s x t ho base e i z size bytes ht hi hz hsize hby hzs hsz v n xs hs hown ad m c news hx hl ?_ h1 h63 hbytes hbase (fun v' w' a b _=>h v' w' a b);intro j u hu;by_cases hne:news=[]
   ·subst hne;simp at hu
   ·obtain ⟨b,off,hb,_,hcl⟩:=hcell hne;obtain rfl:=Option.some.inj hb;have hadd:(⟨b,off,none⟩:Addr).add j=⟨b,off+j,none⟩:=by unfold Addr.add;split <;> simp_all
    rw [hadd];exact hcl j u hu
theorem strCells_one (ss:List (List UInt8)):∀ u ∈ strCells ss,u.oneCell'=true:=by
 intro u hu;simp only [strCells,List.mem_map] at hu;obtain ⟨s,_,rfl⟩:=hu;rfl
def RowsAt (w:World) (v:Value) (a:List (List (List UInt8))):Prop :=
 ∃ vs:List Value,vs.length=a.length∧SliceAt w 1 v a.length vs∧∀ i (h1:i<vs.length) (h2:i<a.length),SliceAt w 1 vs[i] a[i].length (strCells a[i])
theorem RowsAt.below {w w':World} {B:Nat} {v:Value} {a:List (List (List UInt8))} (h:RowsAt w v a) (hb:Below B w w') (hB:w.heap.size≤B):RowsAt w' v a:=by
 obtain ⟨vs,hl,h1,h2⟩:=h;exact ⟨vs,hl,h1.below hb hB,fun i a b=>(h2 i a b).below hb hB⟩
theorem SliceAt.one {w:World} {v:Value} {n:Nat} {xs:List Value} (h:SliceAt w 1 v n xs):n=xs.length∧∃ a c,v=.slice a xs.length c∧xs.length≤c∧c≤maxLen ∧
  (∀ k,k<xs.length→∃ b off,a=some ⟨b,off,none⟩∧b<w.heap.size∧∀ j (hj:j<xs.length),w.cell? ⟨b,off+j,none⟩=some xs[j]):=by
 obtain ⟨hl,a,c,rfl,hc,hm,-,hx⟩:=h;have hn:n=xs.length:=by simpa using hl.symm
 subst hn;refine ⟨rfl,a,c,rfl,hc,hm,fun k hk=>?_⟩;obtain ⟨b,off,rfl,hlt,hcell⟩:=hx (by intro e;subst e;simp at hk);exact ⟨b,off,rfl,hlt,fun j hj=>hcell j _ (List.getElem?_eq_getElem hj)⟩
theorem ownsRow_below {w w':World} {base:Nat} {e:TypeId} {size:Nat} {v:Value} {n:Nat} {xs:List Value} (h:w.ownsRow base e size v n xs) (hb:Below w.heap.size w w'):w'.ownsRow base e size v n xs:=by
 obtain ⟨hl,h⟩:=h;refine ⟨hl,?_⟩;rcases h with h | ⟨g,cap,cur,hv,hg,hh,r⟩
 ·exact .inl h
 ·exact .inr ⟨g,cap,cur,hv,hg,(hb.block g (Array.getElem?_eq_some_iff.1 hh).1).trans hh,r⟩
theorem below_new (w:World) (o:Obj):Below w.heap.size w (w.alloc o):=(Below.refl _ _).alloc (Nat.le_refl _) _
theorem keeps_of {w W:World} (hW:Below w.heap.size w W) {a:Addr} {v:Value} (h:w.cell? a=some v):W.cell? a=some v:=(hW.cell (World.block_lt_of_cell? w _ h)).trans h
end Go.Proofs.YtfgiihpopngbkaaGreatDoor
namespace Go.Proofs.YtfgiihpopngbkaaGreatDoor
open Nat renaming lt_of_lt_of_le→nL,le_trans→nT
open Go.ChangeShapes Go.WideShapes Go.ChangeAt Go.RowKit
set_option maxRecDepth 100000
theorem own:ownKnob Tryz.prog.godebug=none:=by kernel_rfl
theorem laidOut:laidOutB Tryz.prog=true:=by kernel_rfl
theorem trodAll_below {H:Type} {enc:TypeId × Value→H} {P:Program} (hl:laidOutB P=true) {W W':World} (hb:Below W.heap.size W W') :
  ∀ (ts:List TypeId) (vs:List Value) (ds:List (DataW H)) (p:List MemPlace),(ts.all fun t=>P.readableRec t && decide (t<P.types.size))=true →
    DataW.TrodAll enc P W 0 (fun _=>true) true ts vs ds p→(∀ x ∈ p,x.block<W.heap.size)→DataW.TrodAll enc P W' 0 (fun b=>decide (b<W.heap.size)) true ts vs ds p
 | [],[],[],_,_,h,_=>h
 | t::ts,v::vs,d::ds,_,hr,h,hlt=>by
   obtain ⟨p,q,h1,h2,rfl⟩:=h;simp only [List.all_cons,Bool.and_eq_true,decide_eq_true_eq] at hr;exact ⟨p,q,Below.trod hl hr.1.1 hr.1.2 h1 hb (fun x hx=>hlt x (by simp [hx])),trodAll_below hl hb ts vs ds q hr.2 h2 (fun x hx=>hlt x (by simp [hx])),rfl⟩
 | [],[],_::_,_,_,h,_=>h.elim
 | [],_::_,_,_,_,h,_=>h.elim
 | _::_,[],_,_,_,h,_=>h.elim
 | _::_,_::_,[],_,_,h,_=>h.elim
theorem law_post {H:Type} {enc:TypeId × Value→H} {s:ChangeSpec} {f:Func} {W W':World} {args:Array Value} {ds gs:List (DataW H)} {before:List MemPlace} (hvars:s.vars=[])
  (hres:f.resultTypes=#[4]) (hr:(f.params.toList.all fun t=>Tryz.prog.readableRec t && decide (t<Tryz.prog.types.size))=true)
  (hW:DataW.Whole enc Tryz.prog f.params.toList s.vars false W args.toList ds gs before)
  (hfn:(s.fn H (ds++gs)).results=[.lit (.bool true)]∧(s.fn H (ds++gs)).args=ds∧(s.fn H (ds++gs)).vars=[]) (hb:Below W.heap.size W W') :
  s.post enc Tryz.prog f false true false false W args (.bool true) W':=by
 have hW':=hW;obtain ⟨p,q,hA,hV,rfl,-,-⟩:=hW;have hlt:∀ x ∈ p,x.block<W.heap.size:=fun x hx=>hW'.lt x (by simp [hx])
 refine ⟨ds,gs,p++q,[]++[],p,[],hW',?_,?_,?_,hb.frame _,fun h=>by cases h⟩
 ·rw [hfn.1,hres];exact trodAll_mk1 (shut_bool Tryz.underlying4 true)
 ·rw [hfn.2.1];exact trodAll_below laidOut hb _ _ _ _ hr hA hlt
 ·rw [hfn.2.2,hvars];rfl
theorem weights_le {H:Type} {P:Program} {ts:List TypeId} {ds:List (DataW H)} (h:(DataW.weightsEach P ts ds).all (·≤reachBytes)=true) {j:Nat} {t:TypeId} {d:DataW H} (ht:ts[j]? = some t) (hd:ds[j]? = some d) :
  ∀ n ∈ d.weights P t,n≤reachBytes:=fun n hn=>by simpa using List.all_eq_true.1 h n (DataW.weights_mem_each ht hd n hn)
theorem arg_string {H:Type} {enc:TypeId × Value→H} {W:World} {base:Nat} {v:Value} {d:DataW H} {p:List MemPlace}
  (hv:Value.okWide Tryz.prog W .any base 9 v) (h:DataW.Trod enc Tryz.prog W 0 (fun _=>true) true 9 v d p) (hw:∀ n ∈ d.weights Tryz.prog 9,n≤reachBytes) :
  ∃ l:List UInt8,v=.string (bs l)∧l.length≤reachBytes:=by
 obtain ⟨s,rfl,rfl,rfl,hs⟩:=ChangeMaps.open_string Tryz.underlying9 hv h;exact ⟨s.data.toList,rfl,hw _ (by simp [DataW.weights])⟩
theorem laidMet_tail {P:Program} {x:String × DataW Unit} {l:List (String × DataW Unit)} {w:World} (h:laidMet P (x::l) w):laidMet P l w:=by
 obtain ⟨ps,⟨g,t,cs,fuel,p,q,_,_,_,_,h2,rfl⟩,hnd,hc⟩:=h;refine ⟨q,h2,(List.nodup_append.1 hnd).2.1,fun b off hm=>hc b off ?_⟩;exact List.mem_append_right _ hm
theorem plain_of {name:String} {n:FuncId} {f0:Func} (hn:Tryz.prog.funcNamed name=some n) (h0:Tryz.prog.funcs[n]? = some f0) {b:Bool} (hl:b=Tryz.prog.looks []) (hs:(f0.params.toList.all fun t=>!Tryz.prog.wantsStandIn t)=true)
  (f:FuncId) (fn:Func) (hf:Tryz.pinned.checked.prog.funcNamed name=some f) (hfn:Tryz.pinned.checked.prog.funcs[f]? = some fn) :
  b=Tryz.pinned.checked.prog.looks []∧∀ (j:Nat) t,fn.params[j]? = some t→Tryz.pinned.checked.prog.wantsStandIn t=false:=by
 obtain rfl:f=n:=(Option.some.inj (hn.symm.trans hf)).symm;obtain rfl:fn=f0:=(Option.some.inj (h0.symm.trans hfn)).symm;refine ⟨hl,fun j t ht=>?_⟩;have hm:t ∈ fn.params.toList:=by simpa using Array.mem_of_getElem? ht
 have:=List.all_eq_true.1 hs t hm;have h2:Tryz.prog.wantsStandIn t=false:=by simpa using this
 exact h2
end Go.Proofs.YtfgiihpopngbkaaGreatDoor
namespace Go.Proofs.YtfgiihpopngbkaaGreatDoor
set_option maxRecDepth 100000
open Go.RowKit
open Nat renaming lt_of_lt_of_le→nL,le_trans→nT
theorem builder_size:(Tryz.prog.info? 64).map (·.size)=some 2:=by kernel_rfl
theorem byte_info:(Tryz.prog.info? 5).map (fun i=>(i.zero,i.size,i.bytes))=some (some (.int .u8 0),1,1):=by kernel_rfl
set_option maxHeartbeats 1000000 in
set_option maxRecDepth 100000 in
theorem copyCheck_used (b:Nat) (w:World) (h0:w.cell? ⟨b,0,none⟩=some (.pointer (some ⟨b,0,none⟩))) :
  Calls Tryz.prog 84 #[.pointer (some ⟨b,0,none⟩)] w fun e w'=>e=.returned (.tuple #[])∧w'=w:=by
 obtain ⟨j,hj,_⟩:=Option.map_eq_some_iff.1 builder_size;go_enter Tryz.func84,Tryz.ntmps84
 go_wp2
 rw [Lib.run_neq_ptr_same w _ Tryz.underlying62 hj]
 go_wp2
 go_end0
 exact ⟨rfl,rfl⟩
theorem byteCells_append (l r:List UInt8):Lib.byteCells (l++r)=Lib.byteCells l++Lib.byteCells r:=by simp [Lib.byteCells]
theorem byteCells_str (l:List UInt8):Lib.strCells (bs l)=Lib.byteCells l:=by
 simp [Lib.strCells,Lib.byteCells,bs]
theorem var?_kept {P:Program} {w w':World} {n:String} {cs:Array Value} (hv:w.var? P n=some cs) (hb:Below w.heap.size w w'):w'.var? P n=some cs:=by
 unfold World.var? at hv ⊢;cases hg:P.globalNamed n with
 | none=>simp [hg] at hv
 | some g =>
   simp only [hg,Option.bind_some] at hv ⊢;by_cases hlt:g<w.heap.size
   ·rw [hb.block g hlt];exact hv
   ·rw [Array.getElem?_eq_none (by omega)] at hv;simp at hv
theorem tabIs_below {P:Program} {w w':World} {n:String} {k:IntKind} {zs:List Int} (h:Lib.TabIs P w n k zs) (hb:Below w.heap.size w w'):Lib.TabIs P w' n k zs:=var?_kept h hb
def PowTab (w:World):Prop:=Lib.TabIs Tryz.prog w "internal/strconv.uint64pow10" .u64 Lib.pow10Tab
theorem PowTab.below {w w':World} (h:PowTab w) (hb:Below w.heap.size w w'):PowTab w':=tabIs_below h hb
theorem grow_below (w:World) (k:Nat) (os:Array Obj):Below w.heap.size w (Go.Sort.grow (w.drewN k) os):=by
 refine ⟨rfl,rfl,rfl,?_,fun i hi=>?_⟩
 ·simp [Go.Sort.grow,World.drewN]
 ·simp [Go.Sort.grow,World.drewN,Array.getElem?_append,hi]
def dig (n:Nat):List UInt8:=if n<10 then [UInt8.ofNat (48+n)] else dig (n / 10)++[UInt8.ofNat (48+n % 10)]
theorem dig_lt {n:Nat} (h:n<10):dig n=[UInt8.ofNat (48+n)]:=by rw [dig,if_pos h]
theorem dig_ge {n:Nat} (h:¬ n<10):dig n=dig (n / 10)++[UInt8.ofNat (48+n % 10)]:=by rw [dig,if_neg h]
theorem dig_eq (k:Nat):∀ n,n≤k→dig n=Lib.decDigits n:=by
 induction k with
 | zero=>intro n h;obtain rfl:n=0:=by omega
         rw [dig_lt (by omega),Lib.decDigits,dif_pos (by omega)]
 | succ k ih =>
   intro n h;by_cases hn:n<10
   ·rw [dig_lt hn,Lib.decDigits,dif_pos hn]
   ·rw [dig_ge hn,Lib.decDigits,dif_neg hn,ih (n / 10) (by omega)]
theorem itoa_nat (n:Nat):Lib.itoa n=dig n:=by
 rw [Lib.itoa,if_neg (by omega),dig_eq n n (Nat.le_refl _)];rfl
def isDig (c:UInt8):Bool:=48≤c.toNat && c.toNat≤57
def valD (a:Nat):List UInt8→Nat
 | []=>a
 | c::r=>valD (10 * a+(c.toNat - 48)) r
theorem valD_append (x y:List UInt8):∀ a,valD a (x++y)=valD (valD a x) y:=by
 induction x with
 | nil=>intro a;rfl
 | cons c x ih=>intro a;exact ih _
theorem valD_le (x:List UInt8):∀ a,a≤valD a x:=by
 induction x with
 | nil=>intro a;exact Nat.le_refl _
 | cons c x ih=>intro a;have:=ih (10 * a+(c.toNat - 48));show a≤valD _ x;omega
def allDig (l:List UInt8):Bool:=l.all isDig
theorem ofNat48 {n:Nat} (h:n<10):(UInt8.ofNat (48+n)).toNat=48+n:=by
 rw [UInt8.toNat_ofNat'];omega
theorem isDig_of {n:Nat} (h:n<10):isDig (UInt8.ofNat (48+n))=true:=by
 unfold isDig;rw [ofNat48 h];simp only [Bool.and_eq_true,decide_eq_true_eq];omega
theorem ofNat_val {n:Nat} (h:n<10):(UInt8.ofNat (48+n)).toNat - 48=n:=by
 rw [ofNat48 h];omega
theorem dig_all (k:Nat):∀ n,n≤k→allDig (dig n)=true:=by
 induction k with
 | zero=>intro n h;rw [dig_lt (by omega)];simp only [allDig,List.all_cons,List.all_nil,isDig_of (show n<10 by omega),Bool.and_true]
 | succ k ih =>
   intro n h;by_cases hn:n<10
   ·rw [dig_lt hn];simp only [allDig,List.all_cons,List.all_nil,isDig_of hn,Bool.and_true]
   ·have:=ih (n / 10) (by omega);rw [dig_ge hn];unfold allDig at *;rw [List.all_append,this];simp only [List.all_cons,List.all_nil,isDig_of (show n % 10<10 by omega),Bool.and_true]
theorem dig_val (k:Nat):∀ n,n≤k→valD 0 (dig n)=n:=by
 induction k with
 | zero=>intro n h;obtain rfl:n=0:=by omega
         rw [dig_lt (by omega)];rfl
 | succ k ih =>
   intro n h;by_cases hn:n<10
   ·rw [dig_lt hn];show 10 * 0+_=n;rw [ofNat_val hn];omega
   ·rw [dig_ge hn,valD_append,ih (n / 10) (by omega)];show 10 * (n / 10)+_=n;rw [ofNat_val (show n % 10<10 by omega)];omega
theorem dig_ne (n:Nat):dig n≠[]:=by
 by_cases hn:n<10
 ·rw [dig_lt hn];simp
 ·rw [dig_ge hn];simp
theorem itoa_neg' (u:Nat) (h:1≤u):Lib.itoa (-(u:Int))=45::dig u:=by
 unfold Lib.itoa;rw [if_pos (by omega),dig_eq u u (Nat.le_refl _)];simp
theorem itoa_cases (v:Int):(∃ u:Nat,v=u∧Lib.itoa v=dig u)∨(∃ u:Nat,1≤u∧v=-(u:Int)∧Lib.itoa v=45::dig u):=by
 rcases Int.lt_or_le v 0 with h | h
 ·refine .inr ⟨v.natAbs,by omega,by omega,?_⟩;have e:v=-(v.natAbs:Int):=by omega
  rw [e,itoa_neg' _ (by omega)];simp
 ·refine .inl ⟨v.toNat,by omega,?_⟩;have e:v=(v.toNat:Int):=by omega
  rw [e,itoa_nat];rfl
theorem parse_dig (M:Nat) (hM:M<18446744073709551616):∀ (l:List UInt8) (a:Nat),allDig l=true→valD a l≤M→Lib.parseUintM M a l=.ok (valD a l)
 | [],a,_,_=>rfl
 | c::r,a,h,hv=>by
   have hc:isDig c=true:=by unfold allDig at h;simp only [List.all_cons,Bool.and_eq_true] at h;exact h.1
   have hr:allDig r=true:=by unfold allDig at *;simp only [List.all_cons,Bool.and_eq_true] at h;exact h.2
   have hcd:48≤c.toNat∧c.toNat≤57:=by simp [isDig] at hc;omega
   have hv':valD (10 * a+(c.toNat - 48)) r≤M:=hv;have hle:=valD_le r (10 * a+(c.toNat - 48));rw [Lib.parseUintM,if_pos hcd,if_neg (by omega),if_neg (by omega),Nat.mul_comm a 10];exact parse_dig M hM r _ hr hv'
theorem parse_itoa {v:Int} (h1:-9223372036854775808≤v) (h2:v≤9223372036854775807):Lib.parseIntB 64 (Lib.itoa v)=.ok v:=by
 have pd:∀ u:Nat,u≤9223372036854775808→Lib.parseUintB 64 (dig u)=.ok u:=fun u hu=>by
  have:=parse_dig (2 ^ 64 - 1) (by decide) (dig u) 0 (dig_all u u (Nat.le_refl _)) (by rw [dig_val u u (Nat.le_refl _)];omega);rw [dig_val u u (Nat.le_refl _)] at this;rw [Lib.parseUintB,if_neg (dig_ne u),this]
 rcases itoa_cases v with ⟨u,rfl,e⟩ | ⟨u,hu,rfl,e⟩
 ·rw [e];have hp:=pd u (by omega);cases hd:dig u with
  | nil=>exact absurd hd (dig_ne u)
  | cons c r =>
    have hall:=dig_all u u (Nat.le_refl _);rw [hd] at hall;have hc:isDig c=true:=by unfold allDig at hall;simp only [List.all_cons,Bool.and_eq_true] at hall;exact hall.1
    have hcd:48≤c.toNat∧c.toNat≤57:=by simp [isDig] at hc;omega
    rw [hd] at hp;rw [Lib.parseIntB_plain 64 c r (by omega) (by omega),hp];unfold Lib.signlessC;simp only;rw [if_neg (by omega)]
 ·rw [e,Lib.parseIntB_minus,pd u (by omega)];unfold Lib.signedC;simp only;rw [if_neg (by omega)]
def intL (s:List UInt8):Int × Bool:=match Lib.parseIntB 64 s with
 | .ok v=>if Lib.itoa v=s then (v,true) else (0,false)
 | _=>(0,false)
theorem parse_bounds {s:List UInt8} {v:Int} (h:Lib.parseIntB 64 s=.ok v):-9223372036854775808≤v∧v≤9223372036854775807:=by
 cases s with
 | nil=>simp [Lib.parseIntB] at h
 | cons c r =>
   unfold Lib.parseIntB at h;simp only at h;split at h
   ·cases h
   ·cases h
   ·rename_i u hu;split at h
    ·cases h
    ·split at h
     ·cases h
     ·rename_i k1 k2;by_cases hc:c.toNat=45
      ·simp [hc] at h k1 k2;omega
      ·simp [hc] at h k1 k2;omega
theorem intL_itoa {v:Int} (h1:-9223372036854775808≤v) (h2:v≤9223372036854775807):intL (Lib.itoa v)=(v,true):=by
 unfold intL;rw [parse_itoa h1 h2];simp
theorem intL_true {s:List UInt8} (h:(intL s).2=true):Lib.itoa (intL s).1=s∧-9223372036854775808≤(intL s).1∧(intL s).1≤9223372036854775807:=by
 unfold intL at *;cases e:Lib.parseIntB 64 s with
 | ok v =>
   rw [e] at h;simp only at h ⊢;by_cases hv:Lib.itoa v=s
   ·rw [if_pos hv];exact ⟨hv,parse_bounds e⟩
   ·rw [if_neg hv] at h;cases h
 | _=>rw [e] at h;cases h
def isLet (c:UInt8):Bool:=(97≤c.toNat && c.toNat≤122) || (65≤c.toNat && c.toNat≤90) || c.toNat == 95
def isGap (c:UInt8):Bool:=c.toNat == 32 || c.toNat == 9 || c.toNat == 10 || c.toNat == 13
def isWord (c:UInt8):Bool:=isLet c || isDig c
def notLine (c:UInt8):Bool:=c.toNat != 10
def runL (p:UInt8→Bool):List UInt8→Nat
 | []=>0
 | c::r=>if p c=true then runL p r+1 else 0
theorem run_le (p:UInt8→Bool):∀ s,runL p s≤s.length
 | []=>Nat.le_refl _
 | c::r=>by unfold runL;have:=run_le p r;split <;> simp;omega
theorem run_cons {p:UInt8→Bool} {c:UInt8} {r:List UInt8} (h:p c=true):runL p (c::r)=runL p r+1:=by rw [runL,if_pos h]
theorem run_stop {p:UInt8→Bool} {c:UInt8} {r:List UInt8} (h:p c=false):runL p (c::r)=0:=by rw [runL,if_neg (by rw [h];simp)]
theorem run_all (p:UInt8→Bool):∀ s:List UInt8,(s.take (runL p s)).all p=true
 | []=>rfl
 | c::r=>by
   by_cases h:p c=true
   ·rw [run_cons h,List.take_succ_cons,List.all_cons,h,run_all p r];rfl
   ·rw [run_stop (by simpa using h)];rfl
theorem run_append {p:UInt8→Bool}:∀ (s t:List UInt8),s.all p=true→runL p (s++t)=s.length+runL p t
 | [],t,_=>by simp
 | c::r,t,h=>by
   simp only [List.all_cons,Bool.and_eq_true] at h;show runL p (c::(r++t))=_;rw [run_cons h.1,run_append r t h.2,List.length_cons];omega
theorem run_full {p:UInt8→Bool} {s:List UInt8} (h:s.all p=true):runL p s=s.length:=by
 have:=run_append s [] h;simpa [runL] using this
theorem run_end {p:UInt8→Bool}:∀ (s:List UInt8) (x:UInt8) (t:List UInt8),p x=false→runL p (s++x::t)=runL p s
 | [],x,t,h=>run_stop h
 | c::r,x,t,h=>by
   show runL p (c::(r++x::t))=_;by_cases hc:p c=true
   ·rw [run_cons hc,run_cons hc,run_end r x t h]
   ·rw [run_stop (by simpa using hc),run_stop (by simpa using hc)]
def qGo:List UInt8→Option (List UInt8 × Nat)
 | []=>none
 | c::r =>
   if c.toNat=34 then some ([],1)
   else if c.toNat<32∨c.toNat=127 then none
   else if c.toNat=92 then
    match r with
    | []=>none
    | d::r =>
      if d.toNat=34∨d.toNat=92 then (qGo r).map fun x=>(d::x.1,x.2+2)
      else if d.toNat=110 then (qGo r).map fun x=>(10::x.1,x.2+2)
      else none
   else (qGo r).map fun x=>(c::x.1,x.2+1)
theorem qGo_cons (c:UInt8) (r:List UInt8):qGo (c::r) =
  if c.toNat=34 then some ([],1)
  else if c.toNat<32∨c.toNat=127 then none
  else if c.toNat=92 then
   match r with
   | []=>none
   | d::r =>
     if d.toNat=34∨d.toNat=92 then (qGo r).map fun x=>(d::x.1,x.2+2)
     else if d.toNat=110 then (qGo r).map fun x=>(10::x.1,x.2+2)
     else none
  else (qGo r).map fun x=>(c::x.1,x.2+1):=by
 cases r with
 | nil=>rw [qGo.eq_def]
 | cons d r=>rw [qGo.eq_def]
def signs:List UInt8:=[61,43,40,41,91,93,123,125,44,58,59]
def numP (s:List UInt8):Nat × List UInt8 × Nat × Nat :=
 if 1<runL isDig s∧s.head? = some 48 then (0,[],0,3)
 else if 9223372036854775807<valD 0 (s.take (runL isDig s)) then (0,[],0,2)
 else (2,s.take (runL isDig s),runL isDig s,0)
def pieceL:List UInt8→Nat × List UInt8 × Nat × Nat
 | []=>(0,[],0,3)
 | c::r =>
   if isGap c=true then (0,[],1,0)
   else if c.toNat=35 then (0,[],runL notLine (c::r),0)
   else if isLet c=true then (1,(c::r).take (runL isWord (c::r)),runL isWord (c::r),0)
   else if isDig c=true then numP (c::r)
   else if c.toNat=34 then (match qGo r with | none=>(0,[],0,3) | some x=>(3,x.1,x.2+1,0))
   else if (c.toNat=61∨c.toNat=33)∧r.head? = some 61 then (4,[c,61],2,0)
   else if c ∈ signs then (4,[c],1,0)
   else (0,[],0,3)
theorem piece_cons (c:UInt8) (r:List UInt8):pieceL (c::r) =
  if isGap c=true then (0,[],1,0)
  else if c.toNat=35 then (0,[],runL notLine (c::r),0)
  else if isLet c=true then (1,(c::r).take (runL isWord (c::r)),runL isWord (c::r),0)
  else if isDig c=true then numP (c::r)
  else if c.toNat=34 then (match qGo r with | none=>(0,[],0,3) | some x=>(3,x.1,x.2+1,0))
  else if (c.toNat=61∨c.toNat=33)∧r.head? = some 61 then (4,[c,61],2,0)
  else if c ∈ signs then (4,[c],1,0)
  else (0,[],0,3):=rfl
abbrev Pl:=Nat × Nat
abbrev Tok:=Nat × List UInt8 × Pl
def adv (p:Pl) (c:UInt8):Pl:=if c.toNat=10 then (p.1+1,1) else (p.1,p.2+1)
def advs (p:Pl) (s:List UInt8):Pl:=s.foldl adv p
theorem advs_append (p:Pl) (s t:List UInt8):advs p (s++t)=advs (advs p s) t:=List.foldl_append ..
theorem advs_cons (p:Pl) (c:UInt8) (t:List UInt8):advs p (c::t)=advs (adv p c) t:=rfl
theorem qGo_len:∀ (k:Nat) (s t:List UInt8) (n:Nat),s.length≤k→qGo s=some (t,n)→1≤n∧n≤s.length∧t.length+1≤n
 | _,[],t,n,_,h=>by simp [qGo] at h
 | 0,c::r,t,n,hk,_=>by simp at hk
 | k+1,c::r,t,n,hk,h=>by
   have hr:r.length≤k:=by simpa using hk
   rw [qGo_cons] at h;by_cases h1:c.toNat=34
   ·rw [if_pos h1] at h;simp only [Option.some.injEq,Prod.mk.injEq] at h;obtain ⟨rfl,rfl⟩:=h;simp
   ·rw [if_neg h1] at h;by_cases h2:c.toNat<32∨c.toNat=127
    ·rw [if_pos h2] at h;cases h
    ·rw [if_neg h2] at h;by_cases h3:c.toNat=92
     ·rw [if_pos h3] at h;cases r with
      | nil=>cases h
      | cons d r =>
        simp only at h;have hr':r.length≤k:=by simp at hr;omega
        by_cases h4:d.toNat=34∨d.toNat=92
        ·rw [if_pos h4] at h;cases e:qGo r with
         | none=>rw [e] at h;cases h
         | some x =>
           obtain ⟨t',n'⟩:=x;rw [e] at h;simp only [Option.map_some,Option.some.injEq,Prod.mk.injEq] at h;obtain ⟨rfl,rfl⟩:=h;have:=qGo_len k r t' n' hr' e;simp;omega
        ·rw [if_neg h4] at h;by_cases h5:d.toNat=110
         ·rw [if_pos h5] at h;cases e:qGo r with
          | none=>rw [e] at h;cases h
          | some x =>
            obtain ⟨t',n'⟩:=x;rw [e] at h;simp only [Option.map_some,Option.some.injEq,Prod.mk.injEq] at h;obtain ⟨rfl,rfl⟩:=h;have:=qGo_len k r t' n' hr' e;simp;omega
         ·rw [if_neg h5] at h;cases h
     ·rw [if_neg h3] at h;cases e:qGo r with
      | none=>rw [e] at h;cases h
      | some x =>
        obtain ⟨t',n'⟩:=x;rw [e] at h;simp only [Option.map_some,Option.some.injEq,Prod.mk.injEq] at h;obtain ⟨rfl,rfl⟩:=h;have:=qGo_len k r t' n' hr e;simp;omega
theorem piece_size {c:UInt8} {r t:List UInt8} {k n:Nat} (h:pieceL (c::r)=(k,t,n,0)):1≤n∧n≤(c::r).length∧t.length≤n:=by
 rw [piece_cons] at h;by_cases h1:isGap c=true
 ·rw [if_pos h1] at h;simp only [Prod.mk.injEq] at h;obtain ⟨rfl,rfl,rfl,-⟩:=h;simp
 rw [if_neg h1] at h;by_cases h2:c.toNat=35
 ·rw [if_pos h2] at h;simp only [Prod.mk.injEq] at h;obtain ⟨rfl,rfl,rfl,-⟩:=h;have:=run_le notLine (c::r);rw [run_cons (by simp [notLine,h2])] at *;simp at *;omega
 rw [if_neg h2] at h;by_cases h3:isLet c=true
 ·rw [if_pos h3] at h;simp only [Prod.mk.injEq] at h;obtain ⟨rfl,rfl,rfl,-⟩:=h;have:=run_le isWord (c::r);refine ⟨?_,this,List.length_take_le _ _⟩;rw [run_cons (by simp [isWord,h3])];omega
 rw [if_neg h3] at h;by_cases h4:isDig c=true
 ·rw [if_pos h4] at h;unfold numP at h;have:=run_le isDig (c::r);have h1:1≤runL isDig (c::r):=by rw [run_cons h4];omega
  split at h
  ·simp at h
  ·split at h
   ·simp at h
   ·simp only [Prod.mk.injEq] at h;obtain ⟨rfl,rfl,rfl,-⟩:=h;exact ⟨h1,this,List.length_take_le _ _⟩
 rw [if_neg h4] at h;by_cases h5:c.toNat=34
 ·rw [if_pos h5] at h;cases e:qGo r with
  | none=>rw [e] at h;simp at h
  | some x =>
    rw [e] at h;simp only [Prod.mk.injEq] at h;obtain ⟨rfl,rfl,rfl,-⟩:=h;have:=qGo_len r.length r x.1 x.2 (Nat.le_refl _) e;simp;omega
 rw [if_neg h5] at h;by_cases h6:(c.toNat=61∨c.toNat=33)∧r.head? = some 61
 ·rw [if_pos h6] at h;simp only [Prod.mk.injEq] at h;obtain ⟨rfl,rfl,rfl,-⟩:=h;cases r with
  | nil=>simp at h6
  | cons d r=>simp
 rw [if_neg h6] at h;by_cases h7:c ∈ signs
 ·rw [if_pos h7] at h;simp only [Prod.mk.injEq] at h;obtain ⟨rfl,rfl,rfl,-⟩:=h;simp
 ·rw [if_neg h7] at h;simp at h
abbrev Lexed:=List Tok × Nat × Pl
def finT (a:List Tok) (x:Lexed):Lexed:=if x.2.1=0 then (a++x.1,0,(0,0)) else ([],x.2.1,x.2.2)
def lexGo:Nat→Pl→List UInt8→Lexed
 | _,_,[]=>([],0,(0,0))
 | 0,_,_::_=>([],0,(0,0))
 | f+1,p,c::r =>
   if (pieceL (c::r)).2.2.2=0 then
    finT (if (pieceL (c::r)).1=0 then [] else [((pieceL (c::r)).1,(pieceL (c::r)).2.1,p)]) (lexGo f (advs p ((c::r).take (pieceL (c::r)).2.2.1)) ((c::r).drop (pieceL (c::r)).2.2.1))
   else ([],(pieceL (c::r)).2.2.2,p)
def lexL (p:Pl) (s:List UInt8):Lexed:=lexGo s.length p s
theorem lexGo_fuel:∀ (f g:Nat) (p:Pl) (s:List UInt8),s.length≤f→s.length≤g→lexGo f p s=lexGo g p s
 | f,g,p,[],_,_=>by cases f <;> cases g <;> rfl
 | 0,_,_,_::_,h,_=>by simp at h
 | _,0,_,_::_,_,h=>by simp at h
 | f+1,g+1,p,c::r,hf,hg=>by
   unfold lexGo;by_cases h:(pieceL (c::r)).2.2.2=0
   ·rw [if_pos h,if_pos h];have hs:=piece_size (c:=c) (r:=r) (k:=(pieceL (c::r)).1) (t:=(pieceL (c::r)).2.1) (n:=(pieceL (c::r)).2.2.1) (by rw [← h]);rw [lexGo_fuel f g _ _ (by simp at hf ⊢;omega) (by simp at hg ⊢;omega)]
   ·rw [if_neg h,if_neg h]
theorem lex_nil (p:Pl):lexL p []=([],0,(0,0)):=rfl
theorem lex_bad {p:Pl} {c:UInt8} {r t:List UInt8} {k n e:Nat} (h:pieceL (c::r)=(k,t,n,e)) (he:e≠0):lexL p (c::r)=([],e,p):=by
 show lexGo (r.length+1) p (c::r)=_;rw [lexGo,h];simp [he]
theorem lex_piece {p:Pl} {c:UInt8} {r t:List UInt8} {k n:Nat} (h:pieceL (c::r)=(k,t,n,0)) :
  lexL p (c::r)=finT (if k=0 then [] else [(k,t,p)]) (lexL (advs p ((c::r).take n)) ((c::r).drop n)):=by
 have hs:=piece_size h;show lexGo (r.length+1) p (c::r)=_;rw [lexGo,h];simp only [if_true];rw [lexGo_fuel r.length ((c::r).drop n).length _ _ (by simp;omega) (Nat.le_refl _)];rfl
theorem finT_nil (p:Pl) (s:List UInt8):finT [] (lexL p s)=lexL p s:=by
 have:∀ (f:Nat) (p:Pl) (s:List UInt8),finT [] (lexGo f p s)=lexGo f p s:=by
  intro f p s;have hz:∀ (a:List Tok) (x:Lexed),finT [] (finT a x)=finT a x:=by
   intro a x;unfold finT;by_cases h:x.2.1=0 <;> simp [h]
  cases f with
  | zero=>cases s <;> simp [lexGo,finT]
  | succ f =>
    cases s with
    | nil=>simp [lexGo,finT]
    | cons c r =>
      unfold lexGo;split
      ·exact hz _ _
      ·rename_i h;unfold finT;simp [h]
 exact this _ _ _
theorem finT_finT (a b:List Tok) (x:Lexed):finT a (finT b x)=finT (a++b) x:=by
 unfold finT;by_cases h:x.2.1=0 <;> simp [h]
theorem lex_gap {p:Pl} {c:UInt8} {r:List UInt8} (h:isGap c=true):lexL p (c::r)=lexL (adv p c) r:=by
 have hp:pieceL (c::r)=(0,[],1,0):=by rw [piece_cons,if_pos h]
 rw [lex_piece hp,if_pos rfl,finT_nil];rfl
theorem lex_gaps {s:List UInt8}:∀ (p:Pl),lexL p s=lexL (advs p (s.take (runL isGap s))) (s.drop (runL isGap s)):=by
 induction s with
 | nil=>intro p;rfl
 | cons c r ih =>
   intro p;by_cases h:isGap c=true
   ·rw [lex_gap h,run_cons h,ih];rfl
   ·rw [run_stop (by simpa using h)];rfl
def allT (s:List UInt8):Lexed:=if 65536<s.length then ([],6,(1,1)) else lexL (1,1) s
def escB (c:UInt8):List UInt8:=if c.toNat=10 then [92,110] else if c.toNat=34∨c.toNat=92 then [92,c] else [c]
def badQ (c:UInt8):Bool:=(decide (c.toNat<32) && c.toNat != 10) || c.toNat == 127
def quoteL (s:List UInt8):List UInt8:=if s.any badQ=true then [] else 34::(s.flatMap escB++[34])
inductive Nd where
 | mk (kind:Nat) (text:List UInt8) (pl:Pl) (kids:List Nd)
inductive PR (α:Type) where
 | ok (a:α) (rest:List Tok)
 | bad (e:Nat) (p:Pl)
 | oof
def PR.then {α β:Type} (x:PR α) (k:α→List Tok→PR β):PR β :=
 match x with
 | .ok a r=>k a r
 | .bad e p=>.bad e p
 | .oof=>.oof
def wFor:List UInt8:=[102,111,114]
def wIn:List UInt8:=[105,110]
def wIf:List UInt8:=[105,102]
def wElse:List UInt8:=[101,108,115,101]
def wRule:List UInt8:=[114,117,108,101]
def wNot:List UInt8:=[110,111,116]
def reservedB (s:List UInt8):Bool:=s == wFor || s == wIn || s == wIf || s == wElse || s == wRule || s == wNot
def typeB (s:List UInt8):Bool :=
 s == [116,101,120,116] || s == [98,111,111,108] || s == [105,110,116] || s == [116,101,120,116,115] || s == [102,105,108,101,115] || s == [108,97,98,101,108,115]
def zeroT (en:Pl):Tok:=(0,[],en)
def atT (en:Pl) (l:List Tok) (n:Nat):Tok:=l.getD n (zeroT en)
def signB (l:List Tok) (n:Nat) (s:List UInt8):Bool:=(atT (0,0) l n).1 == 4 && (atT (0,0) l n).2.1 == s
def wordB (l:List Tok) (s:List UInt8):Bool:=(atT (0,0) l 0).1 == 1 && (atT (0,0) l 0).2.1 == s
def nameB (l:List Tok):Bool:=(atT (0,0) l 0).1 == 1 && !reservedB (atT (0,0) l 0).2.1
def kindB (l:List Tok) (k:Nat):Bool:=(atT (0,0) l 0).1 == k
def typeAt (l:List Tok):Bool:=kindB l 1 && typeB (atT (0,0) l 0).2.1
def pTake (en:Pl) (is:Bool) (l:List Tok):PR Tok :=
 if is=true then (match l with | t::r=>.ok t r | []=>.oof) else .bad 3 (atT en l 0).2.2
def pEat (en:Pl) (s:List UInt8) (l:List Tok):PR Tok:=pTake en (signB l 0 s) l
def pOpen (en:Pl) (is:Bool) (d:Nat) (l:List Tok):PR Tok:=if is=true∧60≤d then .bad 6 (atT en l 0).2.2 else pTake en is l
mutual
def pPrim (en:Pl):Nat→List Tok→Nat→PR Nd
 | 0,_,_=>.oof
 | f+1,l,d =>
   let t:=atT en l 0
   if kindB l 3=true then (pTake en true l).then fun _ r=>.ok (.mk 11 t.2.1 t.2.2 []) r
   else if kindB l 2=true then (pTake en true l).then fun _ r=>.ok (.mk 10 t.2.1 t.2.2 []) r
   else if (nameB l && signB l 1 [40])=true then pCall en f l d
   else if nameB l=true then (pTake en true l).then fun _ r=>.ok (.mk 9 t.2.1 t.2.2 []) r
   else if wordB l wNot=true then (pOpen en true d l).then fun _ r=>(pPrim en f r (d+1)).then fun x r=>.ok (.mk 16 wNot t.2.2 [x]) r
   else if signB l 0 [91]=true then (pOpen en true d l).then fun _ r=>(pList en f 2 [93] true r (d+1)).then fun k r=>(pEat en [93] r).then fun _ r=>.ok (.mk 12 [] t.2.2 k) r
   else if signB l 0 [123]=true then (pOpen en true d l).then fun _ r=>(pList en f 3 [125] true r (d+1)).then fun k r=>(pEat en [125] r).then fun _ r=>.ok (.mk 13 [] t.2.2 k) r
   else (pOpen en (signB l 0 [40]) d l).then fun _ r=>(pExpr en f r (d+1)).then fun x r=>(pEat en [41] r).then fun _ r=>.ok x r
def pSumGo (en:Pl):Nat→Nd→List Tok→Nat→PR Nd
 | 0,_,_,_=>.oof
 | f+1,x,l,d =>
   if signB l 0 [43]=true then (pTake en true l).then fun t r=>(pPrim en f r d).then fun y r=>pSumGo en f (.mk 16 [43] t.2.2 [x,y]) r d
   else .ok x l
def pSum (en:Pl):Nat→List Tok→Nat→PR Nd
 | 0,_,_=>.oof
 | f+1,l,d=>(pPrim en f l d).then fun x r=>pSumGo en f x r d
def pExpr (en:Pl):Nat→List Tok→Nat→PR Nd
 | 0,_,_=>.oof
 | f+1,l,d=>(pSum en f l d).then fun x r =>
   if (signB r 0 [61,61] || signB r 0 [33,61] || wordB r wIn)=true then (pTake en true r).then fun t r=>(pSum en f r d).then fun y r=>.ok (.mk 16 t.2.1 t.2.2 [x,y]) r
   else .ok x r
def pCall (en:Pl):Nat→List Tok→Nat→PR Nd
 | 0,_,_=>.oof
 | f+1,l,d=>(pTake en (nameB l) l).then fun t r=>(pOpen en (signB r 0 [40]) d r).then fun _ r =>
   (pList en f 1 [41] true r (d+1)).then fun k r=>(pEat en [41] r).then fun _ r=>.ok (.mk 14 t.2.1 t.2.2 k) r
def pOne (en:Pl):Nat→Nat→List Tok→Nat→PR (List Nd)
 | 0,_,_,_=>.oof
 | f+1,k,l,d =>
   if k=0 then (pTake en (nameB l) l).then fun n r=>(pEat en [58] r).then fun _ r=>(pTake en (typeAt r) r).then fun t r =>
    if signB r 0 [61]=true then (pEat en [61] r).then fun _ r=>(pExpr en f r d).then fun x r=>.ok [.mk 7 n.2.1 n.2.2 [.mk 9 t.2.1 t.2.2 [],x]] r
    else .ok [.mk 7 n.2.1 n.2.2 [.mk 9 t.2.1 t.2.2 []]] r
   else if k=1 then
    let t:=atT en l 0
    if (nameB l && signB l 1 [61])=true then (pTake en true l).then fun _ r=>(pEat en [61] r).then fun _ r=>(pExpr en f r d).then fun x r=>.ok [.mk 15 t.2.1 t.2.2 [x]] r
    else (pExpr en f l d).then fun x r=>.ok [.mk 15 [] t.2.2 [x]] r
   else if k=2 then (pExpr en f l d).then fun x r=>.ok [x] r
   else (pTake en (kindB l 3) l).then fun t r=>(pEat en [58] r).then fun _ r=>(pExpr en f r d).then fun x r=>.ok [.mk 11 t.2.1 t.2.2 [],x] r
def pList (en:Pl):Nat→Nat→List UInt8→Bool→List Tok→Nat→PR (List Nd)
 | 0,_,_,_,_,_=>.oof
 | f+1,k,up,first,l,d =>
   if signB l 0 up=true then .ok [] l
   else (if first=true then PR.ok (zeroT en) l else pEat en [44] l).then fun _ r =>
    (pOne en f k r d).then fun a r=>(pList en f k up false r d).then fun b r=>.ok (a++b) r
end
mutual
def pBlock (en:Pl):Nat→List Tok→Nat→PR Nd
 | 0,_,_=>.oof
 | f+1,l,d=>(pOpen en (signB l 0 [123]) d l).then fun t r=>(pStmts en f true r (d+1)).then fun k r=>(pEat en [125] r).then fun _ r=>.ok (.mk 8 [] t.2.2 k) r
def pStmt (en:Pl):Nat→List Tok→Nat→PR Nd
 | 0,_,_=>.oof
 | f+1,l,d =>
   let t:=atT en l 0
   if wordB l wFor=true then (pTake en true l).then fun _ r=>(pTake en (nameB r) r).then fun n r=>(pTake en (wordB r wIn) r).then fun _ r =>
    (pExpr en f r d).then fun x r=>(pBlock en f r d).then fun y r=>.ok (.mk 4 n.2.1 t.2.2 [x,y]) r
   else if wordB l wIf=true then (pTake en true l).then fun _ r=>(pExpr en f r d).then fun x r=>(pBlock en f r d).then fun y r =>
    if wordB r wElse=true then (pTake en true r).then fun _ r=>(pBlock en f r d).then fun z r=>.ok (.mk 5 [] t.2.2 [x,y,z]) r
    else .ok (.mk 5 [] t.2.2 [x,y]) r
   else if wordB l wRule=true then (pTake en true l).then fun _ r=>(pTake en (nameB r) r).then fun n r=>(pEat en [40] r).then fun _ r =>
    (pList en f 0 [41] true r d).then fun k r=>(pEat en [41] r).then fun _ r=>(pBlock en f r d).then fun y r=>.ok (.mk 6 n.2.1 t.2.2 (k++[y])) r
   else if (nameB l && signB l 1 [40])=true then (pCall en f l d).then fun x r=>(pEat en [59] r).then fun _ r=>.ok (.mk 3 [] t.2.2 [x]) r
   else (pTake en (nameB l) l).then fun n r=>(pEat en [61] r).then fun _ r=>(pExpr en f r d).then fun x r=>(pEat en [59] r).then fun _ r=>.ok (.mk 2 n.2.1 t.2.2 [x]) r
def pStmts (en:Pl):Nat→Bool→List Tok→Nat→PR (List Nd)
 | 0,_,_,_=>.oof
 | f+1,up,l,d =>
   if l=[]∨(up=true∧signB l 0 [125]=true) then .ok [] l
   else (pStmt en f l d).then fun a r=>(pStmts en f up r d).then fun b r=>.ok (a::b) r
end
end Go.Proofs.YtfgiihpopngbkaaGreatDoor
namespace Go.Proofs.YtfgiihpopngbkaaGreatDoor
set_option maxRecDepth 100000
open Go.RowKit
open Nat renaming lt_of_lt_of_le→nL,le_trans→nT
theorem ret_bool {a b:Bool} (h:a=b):Ending.returned (.bool a)=.returned (.bool b):=by rw [h]
def Tells (f:FuncId) (p:UInt8→Bool):Prop:=∀ (c:UInt8) (w:World),Calls Tryz.prog f #[.int .u8 c.toNat] w fun e w'=>e=.returned (.bool (p c))∧w=w'
theorem Tells.is {f:FuncId} {p:UInt8→Bool} (h:Tells f p) (c:UInt8) (b:Bool) (hb:p c=b) (w:World):Calls Tryz.prog f #[.int .u8 c.toNat] w fun e w'=>e=.returned (.bool b)∧w=w':=by
 rw [← hb];exact h c w
set_option maxHeartbeats 1000000
theorem digit_tells:Tells 52 isDig:=by
 intro c w;go_enter Tryz.func52,Tryz.ntmps52
 go_wp2
 all_goals (go_ret;refine ⟨ret_bool ?_,rfl⟩;rw [Bool.eq_iff_iff];simp [isDig];omega)
theorem letter_tells:Tells 50 isLet:=by
 intro c w;go_enter Tryz.func50,Tryz.ntmps50
 go_wp2
 all_goals (go_ret;refine ⟨ret_bool ?_,rfl⟩;rw [Bool.eq_iff_iff];simp [isLet];omega)
theorem gap_tells:Tells 47 isGap:=by
 intro c w;go_enter Tryz.func47,Tryz.ntmps47
 go_wp2
 all_goals (go_ret;refine ⟨ret_bool ?_,rfl⟩;rw [Bool.eq_iff_iff];simp [isGap];omega)
theorem line_tells:Tells 49 notLine:=by
 intro c w;go_enter Tryz.func49,Tryz.ntmps49
 go_wp2
 all_goals (go_ret;refine ⟨ret_bool ?_,rfl⟩;rw [Bool.eq_iff_iff];simp [notLine];omega)
theorem word_tells:Tells 51 isWord:=by
 intro c w;cases hl:isLet c with
 | true =>
   go_enter Tryz.func51,Tryz.ntmps51
   go_wp2_with fail;refine (letter_tells.is c true hl _).mono ?_;rintro e w' ⟨rfl,rfl⟩;go_wp2_with fail;go_ret;exact ⟨ret_bool (by simp [isWord,hl]),rfl⟩
 | false =>
   go_enter Tryz.func51,Tryz.ntmps51
   go_wp2_with fail;refine (letter_tells.is c false hl _).mono ?_;rintro e w' ⟨rfl,rfl⟩;go_wp2_with fail;refine (digit_tells c _).mono ?_;rintro e w' ⟨rfl,rfl⟩;go_wp2_with fail;go_ret;exact ⟨ret_bool (by simp [isWord,hl]),rfl⟩
theorem run_drop {p:UInt8→Bool} {s:List UInt8} {k:Nat} (hk:k<s.length) (hc:p s[k]=true):k+runL p (s.drop k)=k+1+runL p (s.drop (k+1)):=by
 rw [drop_at s k hk,run_cons hc];omega
theorem run_digit (s:List UInt8) (hs:s.length≤1000000000000) (w:World) :
  Calls Tryz.prog 48 #[.string (bs s),.func (.func 52) #[] #[]] w fun e w'=>e=.returned (.int .i64 (runL isDig s))∧w=w':=by
 have HT:=hid digit_tells;go_enter Tryz.func48,Tryz.ntmps48
 go_wp2_with fail
 go_loop [5] (fun i=>∃ k:Nat,k≤s.length∧i=.int .i64 k∧Hid (runL isDig s=k+runL isDig (s.drop k))) (fun i=>s.length - (intOf i).toNat)
 case atStart=>exact ⟨0,by omega,rfl,hid (by simp)⟩
 case round =>
  obtain ⟨k,hk,rfl,HR⟩:=hrel;by_cases hlt:k<s.length
  ·cases hc:isDig s[k] with
   | true =>
     have HN:Hid (runL isDig s=(k+1)+runL isDig (s.drop (k+1))):=hid (by rw [HR.out,run_drop hlt hc]);have HC:=hid (HT.out.is s[k] true hc);clear hc HR;go_wp2_with fail;refine (HC.out _).mono ?_;rintro e w' ⟨rfl,rfl⟩;go_wp2_with fail
     go_round
     case rel=>exact ⟨k+1,by omega,by go_num,HN⟩
     case measure=>simp [intOf];omega
   | false =>
     have HN:Hid (runL isDig s=k):=hid (by rw [HR.out,drop_at s k hlt,run_stop hc];rfl);have HC:=hid (HT.out.is s[k] false hc);clear hc HR;go_wp2_with fail;refine (HC.out _).mono ?_;rintro e w' ⟨rfl,rfl⟩;go_wp2_with fail;go_ret;exact ⟨by rw [HN.out];rfl,rfl⟩
  ·have HN:Hid (runL isDig s=k):=hid (by rw [HR.out,List.drop_eq_nil_of_le (by omega)];rfl);have hd:decide (k<s.length)=false:=decide_eq_false hlt;clear HR;go_wp2_with fail;go_ret;exact ⟨by rw [HN.out];rfl,rfl⟩
theorem run_gap (s:List UInt8) (hs:s.length≤1000000000000) (w:World) :
  Calls Tryz.prog 48 #[.string (bs s),.func (.func 47) #[] #[]] w fun e w'=>e=.returned (.int .i64 (runL isGap s))∧w=w':=by
 have HT:=hid gap_tells;go_enter Tryz.func48,Tryz.ntmps48
 go_wp2_with fail
 go_loop [5] (fun i=>∃ k:Nat,k≤s.length∧i=.int .i64 k∧Hid (runL isGap s=k+runL isGap (s.drop k))) (fun i=>s.length - (intOf i).toNat)
 case atStart=>exact ⟨0,by omega,rfl,hid (by simp)⟩
 case round =>
  obtain ⟨k,hk,rfl,HR⟩:=hrel;by_cases hlt:k<s.length
  ·cases hc:isGap s[k] with
   | true =>
     have HN:Hid (runL isGap s=(k+1)+runL isGap (s.drop (k+1))):=hid (by rw [HR.out,run_drop hlt hc]);have HC:=hid (HT.out.is s[k] true hc);clear hc HR;go_wp2_with fail;refine (HC.out _).mono ?_;rintro e w' ⟨rfl,rfl⟩;go_wp2_with fail
     go_round
     case rel=>exact ⟨k+1,by omega,by go_num,HN⟩
     case measure=>simp [intOf];omega
   | false =>
     have HN:Hid (runL isGap s=k):=hid (by rw [HR.out,drop_at s k hlt,run_stop hc];rfl);have HC:=hid (HT.out.is s[k] false hc);clear hc HR;go_wp2_with fail;refine (HC.out _).mono ?_;rintro e w' ⟨rfl,rfl⟩;go_wp2_with fail;go_ret;exact ⟨by rw [HN.out];rfl,rfl⟩
  ·have HN:Hid (runL isGap s=k):=hid (by rw [HR.out,List.drop_eq_nil_of_le (by omega)];rfl);have hd:decide (k<s.length)=false:=decide_eq_false hlt;clear HR;go_wp2_with fail;go_ret;exact ⟨by rw [HN.out];rfl,rfl⟩
theorem run_line (s:List UInt8) (hs:s.length≤1000000000000) (w:World) :
  Calls Tryz.prog 48 #[.string (bs s),.func (.func 49) #[] #[]] w fun e w'=>e=.returned (.int .i64 (runL notLine s))∧w=w':=by
 have HT:=hid line_tells;go_enter Tryz.func48,Tryz.ntmps48
 go_wp2_with fail
 go_loop [5] (fun i=>∃ k:Nat,k≤s.length∧i=.int .i64 k∧Hid (runL notLine s=k+runL notLine (s.drop k))) (fun i=>s.length - (intOf i).toNat)
 case atStart=>exact ⟨0,by omega,rfl,hid (by simp)⟩
 case round =>
  obtain ⟨k,hk,rfl,HR⟩:=hrel;by_cases hlt:k<s.length
  ·cases hc:notLine s[k] with
   | true =>
     have HN:Hid (runL notLine s=(k+1)+runL notLine (s.drop (k+1))):=hid (by rw [HR.out,run_drop hlt hc]);have HC:=hid (HT.out.is s[k] true hc);clear hc HR;go_wp2_with fail;refine (HC.out _).mono ?_;rintro e w' ⟨rfl,rfl⟩;go_wp2_with fail
     go_round
     case rel=>exact ⟨k+1,by omega,by go_num,HN⟩
     case measure=>simp [intOf];omega
   | false =>
     have HN:Hid (runL notLine s=k):=hid (by rw [HR.out,drop_at s k hlt,run_stop hc];rfl);have HC:=hid (HT.out.is s[k] false hc);clear hc HR;go_wp2_with fail;refine (HC.out _).mono ?_;rintro e w' ⟨rfl,rfl⟩;go_wp2_with fail;go_ret;exact ⟨by rw [HN.out];rfl,rfl⟩
  ·have HN:Hid (runL notLine s=k):=hid (by rw [HR.out,List.drop_eq_nil_of_le (by omega)];rfl);have hd:decide (k<s.length)=false:=decide_eq_false hlt;clear HR;go_wp2_with fail;go_ret;exact ⟨by rw [HN.out];rfl,rfl⟩
theorem run_word (s:List UInt8) (hs:s.length≤1000000000000) (w:World) :
  Calls Tryz.prog 48 #[.string (bs s),.func (.func 51) #[] #[]] w fun e w'=>e=.returned (.int .i64 (runL isWord s))∧w=w':=by
 have HT:=hid word_tells;go_enter Tryz.func48,Tryz.ntmps48
 go_wp2_with fail
 go_loop [5] (fun i=>∃ k:Nat,k≤s.length∧i=.int .i64 k∧Hid (runL isWord s=k+runL isWord (s.drop k))) (fun i=>s.length - (intOf i).toNat)
 case atStart=>exact ⟨0,by omega,rfl,hid (by simp)⟩
 case round =>
  obtain ⟨k,hk,rfl,HR⟩:=hrel;by_cases hlt:k<s.length
  ·cases hc:isWord s[k] with
   | true =>
     have HN:Hid (runL isWord s=(k+1)+runL isWord (s.drop (k+1))):=hid (by rw [HR.out,run_drop hlt hc]);have HC:=hid (HT.out.is s[k] true hc);clear hc HR;go_wp2_with fail;refine (HC.out _).mono ?_;rintro e w' ⟨rfl,rfl⟩;go_wp2_with fail
     go_round
     case rel=>exact ⟨k+1,by omega,by go_num,HN⟩
     case measure=>simp [intOf];omega
   | false =>
     have HN:Hid (runL isWord s=k):=hid (by rw [HR.out,drop_at s k hlt,run_stop hc];rfl);have HC:=hid (HT.out.is s[k] false hc);clear hc HR;go_wp2_with fail;refine (HC.out _).mono ?_;rintro e w' ⟨rfl,rfl⟩;go_wp2_with fail;go_ret;exact ⟨by rw [HN.out];rfl,rfl⟩
  ·have HN:Hid (runL isWord s=k):=hid (by rw [HR.out,List.drop_eq_nil_of_le (by omega)];rfl);have hd:decide (k<s.length)=false:=decide_eq_false hlt;clear HR;go_wp2_with fail;go_ret;exact ⟨by rw [HN.out];rfl,rfl⟩
end Go.Proofs.YtfgiihpopngbkaaGreatDoor
namespace Go.Proofs.YtfgiihpopngbkaaGreatDoor
set_option maxRecDepth 100000
open Go.RowKit
open Nat renaming lt_of_lt_of_le→nL,le_trans→nT
def plV (l c:Nat):Value:=.agg #[.int .i64 l,.int .i64 c]
theorem advs_line (p:Pl):∀ s:List UInt8,(advs p s).1=p.1+s.count 10
 | []=>by simp [advs]
 | c::s=>by
   rw [advs_cons,advs_line (adv p c) s,List.count_cons];unfold adv;by_cases h:c.toNat=10
   ·have:c=10:=UInt8.toNat_inj.1 (h.trans rfl);subst this;simp;omega
   ·have:(c == 10)=false:=by rw [beq_eq_false_iff_ne];intro e;apply h;rw [e];rfl
    rw [if_neg h,this];simp
theorem advs_none (p:Pl):∀ s:List UInt8,s.count 10=0→(advs p s).2=p.2+s.length
 | [],_=>by simp [advs]
 | c::s,hc=>by
   rw [List.count_cons] at hc;have h:¬ c.toNat=10:=fun h=>by
    have:c=10:=UInt8.toNat_inj.1 (h.trans rfl);subst this;simp at hc
   rw [advs_cons,advs_none _ s (by omega)];unfold adv;rw [if_neg h];simp;omega
theorem advs_tail (p:Pl) (s:List UInt8) (i:Nat) (hi:i<s.length) (h1:s[i].toNat=10) (h2:∀ j,i<j→(hj:j<s.length)→s[j].toNat≠10):(advs p s).2=s.length - i:=by
 have e:s=s.take i++s[i]::s.drop (i+1):=by rw [← drop_at s i hi,List.take_append_drop]
 have hz:(s.drop (i+1)).count 10=0:=by
  rw [List.count_eq_zero];intro hm;obtain ⟨j,hj,he⟩:=List.getElem_of_mem hm;rw [List.getElem_drop] at he;exact h2 (i+1+j) (by omega) (by rw [List.length_drop] at hj;omega) (by rw [he];rfl)
 have h3:=advs_none (adv (advs p (s.take i)) s[i]) (s.drop (i+1)) hz;have h4:advs p s=advs (adv (advs p (s.take i)) s[i]) (s.drop (i+1)):=by
  conv=>lhs;rw [e]
  rw [advs_append,advs_cons]
 rw [h4,h3];unfold adv;rw [if_pos h1,List.length_drop];simp;omega
theorem last_is (s:List UInt8) (h:0<s.count 10) (p:Pl):((advs p s).2:Int)=s.length - Lib.lastIndexByte (bs s) 10∧Lib.lastIndexByte (bs s) 10≤s.length∧0≤Lib.lastIndexByte (bs s) 10:=by
 have hg:∀ j,j<s.length→((bs s).data[j]!)=s[j]!:=fun j hj=>by simp [bs]
 rcases Lib.lastIdx_spec (bs s) 10 (bs s).size with ⟨-,h2⟩ | ⟨i,hi,h1,h2,h3⟩
 ·exfalso;have:s.count 10=0:=by
   rw [List.count_eq_zero];intro hm;obtain ⟨j,hj,he⟩:=List.getElem_of_mem hm;have:=h2 j hj;rw [hg j hj,getElem!_pos s j hj,he] at this;exact this rfl
  omega
 ·have hi':i<s.length:=hi;rw [hg i hi',getElem!_pos s i hi'] at h2;have ht:=advs_tail p s i hi' (by omega) (fun j hj hjl=>by
   have:=h3 j hj hjl;rw [hg j hjl,getElem!_pos s j hjl] at this;omega)
  have e:Lib.lastIndexByte (bs s) 10=i:=h1;rw [ht,e];exact ⟨by omega,by omega,by omega⟩
theorem count_is (s:List UInt8) (W:World):Calls Tryz.prog 57 #[.string (bs s),.string ⟨#[10]⟩] W fun e w'=>e=.returned (.int .i64 (s.count 10:Nat))∧W=w':=by
 refine (Tryz.strings_Count_one (bs s) 10 W).mono ?_;rintro e w' ⟨rfl,rfl⟩;exact ⟨rfl,rfl⟩
theorem pass_res {w:World} {tmps:Array Value} {b:Nat} {x y:Int} (h4:tmps[4]?.getD undef=.pointer (some ⟨b,0,none⟩)) (h0:w.cell? ⟨b,0,none⟩=some (.int .i64 x)) (h1:w.cell? ⟨b,1,none⟩=some (.int .i64 y)) :
  (results Tryz.f30 tmps).run Tryz.prog w=.ok (.agg #[.int .i64 x,.int .i64 y]) w:=by
 simp [results,Tryz.f30,go_sem,h4,h0,h1]
theorem box2 (w:World) (A:Obj) (x y:Value) (e:TypeId):((w.alloc A).alloc (.cells #[x,y] e)).cell? ⟨w.heap.size+1,0,none⟩=some x∧((w.alloc A).alloc (.cells #[x,y] e)).cell? ⟨w.heap.size+1,1,none⟩=some y:=by
 have h:=fun j=>World.cell?_alloc_mark (w.alloc A) #[x,y] e (0,0) j
 simp only [World.size_alloc] at h;exact ⟨(h 0).trans rfl,(h 1).trans rfl⟩
theorem below2 (w:World) (A B:Obj):Below w.heap.size w ((w.alloc A).alloc B):=((Below.refl _ _).alloc (Nat.le_refl _) _).alloc (by simp) _
theorem plV_eq {a b:Int} {x:Pl} (h1:(x.1:Int)=a) (h2:(x.2:Int)=b):Ending.returned (.agg #[.int .i64 a,.int .i64 b])=.returned (.agg #[.int .i64 x.1,.int .i64 x.2]):=by rw [h1,h2]
set_option maxHeartbeats 2000000 in
theorem pass_any (s:List UInt8) (hs:s.length≤1000000000000) (p:Pl) (hp:p.1≤1000000000000∧p.2≤1000000000000) (w:World) :
  Calls Tryz.prog 30 #[plV p.1 p.2,.string (bs s)] w fun e w'=>e=.returned (plV (advs p s).1 (advs p s).2)∧Below w.heap.size w w':=by
 obtain ⟨l,c⟩:=p;simp only at hp;obtain ⟨hp1,hp2⟩:=hp;have HC:=hid (count_is s);have hl1:=advs_line (l,c) s;have hcl:s.count 10≤s.length:=List.count_le_length;unfold plV;by_cases hz:s.count 10=0
 ·have hl2:=advs_none (l,c) s hz;rw [hz] at HC hl1;simp only at hl1 hl2;have H1:=hid hl1;have H2:=hid hl2;clear hl1 hl2 hz hcl;go_enter Tryz.func30,Tryz.ntmps30
  go_wp2_with fail;refine (HC.out _).mono ?_;rintro e wx ⟨rfl,rfl⟩;go_wp2_with fail;refine bodyPost_ret (pass_res rfl (box2 w _ _ _ _).1 (box2 w _ _ _ _).2) rfl ⟨plV_eq ?_ ?_,below2 w _ _⟩
  ·rw [H1.out];simp
  ·rw [H2.out];simp
 ·have hlast:=last_is s (by omega) (l,c);obtain ⟨h2,h3,h4⟩:=hlast;have HL:=hid (Tryz.strings_LastIndexByte (bs s) 10 (by rw [bs_size];omega));simp only at hl1;generalize Lib.lastIndexByte (bs s) 10=v at *;have H1:=hid hl1;have H2:=hid h2;have hn:(0:Int)<(s.count 10:Int):=by omega
  generalize s.count 10=n at *;clear hl1 h2;go_enter Tryz.func30,Tryz.ntmps30
  go_wp2_with fail;refine (HC.out _).mono ?_;rintro e wx ⟨rfl,rfl⟩;go_wp2_with fail
  go_region_with (go_at_call 58;refine (HL.out _).mono ?_;rintro e wx ⟨rfl,rfl⟩)
  all_goals (try go_wp2_with fail)
  all_goals
   refine bodyPost_ret (pass_res rfl (box2 w _ _ _ _).1 (box2 w _ _ _ _).2) rfl ⟨plV_eq ?_ ?_,(below2 w _ _).drew⟩
   ·rw [H1.out,IntKind.wrap_i64];omega
   ·rw [H2.out,IntKind.wrap_i64];omega
end Go.Proofs.YtfgiihpopngbkaaGreatDoor
