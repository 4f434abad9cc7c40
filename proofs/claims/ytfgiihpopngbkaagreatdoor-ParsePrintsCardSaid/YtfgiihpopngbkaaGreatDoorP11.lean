/- Lemmas and walks that the statement needs: ParseNode, ParseGrow, ParseHelp, PageLine, PageRow, PageNamed, PageParam, PageIn. -/
import Derived.Test.YtfgiihpopngbkaaGreatDoorP10
import Derived.Maps.AppendAt
namespace Go.Proofs.YtfgiihpopngbkaaGreatDoor
set_option maxRecDepth 100000
set_option maxHeartbeats 8000000
open Go.RowKit
open List renaming setIfInBounds_toArray→sA,set_cons_zero→sB,set_cons_succ→sC
open Nat renaming lt_of_lt_of_le→nL,le_trans→nT
open Go.Act renaming put→aPu
open List renaming length_append→lAp,length_cons→lCo,length_nil→lNi
open Nat renaming le_refl→nRe
open Go.World renaming size_alloc→wSz
open _root_.Array renaming getElem?_eq_some_iff→aGe
open Go renaming cell_of_row→cRo,heap_alloc_new→hAn
theorem bW (k:Int) (t:Tok) (s:List UInt8) (a:Option Addr) (n c:Nat) (w:World) :
  Calls Tryz.prog 20 #[.int .i64 k,wK t,.string (bs s),.slice a n c] w fun e w'=>e=.returned (aB k s t.2.2.1 t.2.2.2 (.slice a n c))∧Below w.heap.size w w':=by
 go_enter Tryz.func20,Tryz.ntmps20
 go_wp2_with fail;have hz:=hAn (w.alloc (.cells #[.int .i64 t.1,.string (bs t.2.1),.int .i64 t.2.2.1,.int .i64 t.2.2.2] 46)) (.cells #[.int .i64 k,.string (bs s),.int .i64 t.2.2.1,.int .i64 t.2.2.2,.slice a n c] 27);rw [wSz] at hz;exact br Tryz.underlying27 (w.heap.size+1) hz ⟨rfl,zdy (ag w _) (ag _ _)⟩
def vv (P:Nat→Prop) (w:World) (v:Value) (a:Nd):Prop :=
 ∃ (k:Int) (t:List UInt8) (l c:Int) (ks:List NM) (ad:Option Addr) (cap:Nat),v=aB k t l c (.slice ad ks.length cap)∧(NM.mk k t l c ks ad cap).is a∧am P w (.mk k t l c ks ad cap)
def aU {α:Type} (g:Nat) (en:Pl) (d:Nat) (w:World) (R:Nat→World→Value→α→Prop) (x:PR α) (e:Ending) (w':World):Prop :=
 match x with
 | .ok a r=>∃ v,e=.returned v∧R w.heap.size w' v a∧PS w' g en r d∧aV g w w'
 | .bad er p=>e=.panicked [gT er p]∧aV g w w'
 | .oof=>False
def ca (B:Nat):World→Value→Nd→Prop:=vv (B≤·)
def cC {α:Type} (F:FuncId) (args:Array Value) (g:Nat) (en:Pl) (l:List Tok) (d:Nat) (R:Nat→World→Value→α→Prop) (x:PR α):Prop :=
 ∀ w,PS w g en l d→x≠.oof→Calls Tryz.prog F args w (aU g en d w R x)
theorem cC.ok {α:Type} {F:FuncId} {args:Array Value} {g:Nat} {en:Pl} {l:List Tok} {d:Nat} {R:Nat→World→Value→α→Prop} {x:PR α} (h:cC F args g en l d R x) {a:α} {r:List Tok} (hx:x=.ok a r) {w:World} (hp:PS w g en l d) :
  Calls Tryz.prog F args w fun e w'=>∃ v,e=.returned v∧R w.heap.size w' v a∧PS w' g en r d∧aV g w w':=by
 subst hx;exact h w hp nofun
theorem cC.bad {α:Type} {F:FuncId} {args:Array Value} {g:Nat} {en:Pl} {l:List Tok} {d:Nat} {R:Nat→World→Value→α→Prop} {x:PR α} (h:cC F args g en l d R x) {er:Nat} {p:Pl} (hx:x=.bad er p) {w:World} (hp:PS w g en l d) :
  Calls Tryz.prog F args w fun e w'=>e=.panicked [gT er p]∧aV g w w':=by
 subst hx;exact h w hp nofun
theorem cU {α β:Type} (a:α) (r:List Tok) (k:α→List Tok→PR β):(PR.ok a r).then k=k a r:=rfl
theorem thk {α β:Type} {X:PR β} {y:PR α} {k:α→List Tok→PR β} {a:α} {r:List Tok} (H:Hid (X=y.then k)) (h:y=.ok a r):Hid (X=k a r):=by
 have e:=H.out;rw [h] at e;exact hid e
theorem thb {α β:Type} {X:PR β} {y:PR α} {k:α→List Tok→PR β} {n:Nat} {p:Pl} (H:Hid (X=y.then k)) (h:y=.bad n p):X=.bad n p:=by
 have e:=H.out;rw [h] at e;exact e
theorem tho {α β:Type} {X:PR β} {y:PR α} {k:α→List Tok→PR β} (H:Hid (X=y.then k)) (h:y=.oof):X=.oof:=by
 have e:=H.out;rw [h] at e;exact e
theorem zdz {α:Type} {g:Nat} {en:Pl} {d:Nat} {w:World} {R:Nat→World→Value→α→Prop} {x:PR α} {er:Nat} {p:Pl} {w':World} (hx:x=.bad er p) (hb:aV g w w'):aU g en d w R x (.panicked [gT er p]) w':=by
 subst hx;exact ⟨rfl,hb⟩
theorem zdE {α:Type} {g:Nat} {en:Pl} {d:Nat} {w:World} {R:Nat→World→Value→α→Prop} {x:PR α} {a:α} {r:List Tok} {v:Value} {w':World} (hx:x=.ok a r) (hR:R w.heap.size w' v a) (hp:PS w' g en r d) (hb:aV g w w'):aU g en d w R x (.returned v) w':=by
 subst hx;exact ⟨v,rfl,hR,hp,hb⟩
theorem vv.keep {P:Nat→Prop} {w w':World} {v:Value} {a:Nd} (h:vv P w v a) (hb:d9 P w w'):vv P w' v a:=by
 obtain ⟨k,t,l,c,ks,ad,cap,rfl,hi,hh⟩:=h;exact ⟨k,t,l,c,ks,ad,cap,rfl,hi,am.keep hb hh⟩
structure dg (B:Nat) (w:World) (v:Value) (ns:List NM):Prop where
 own:w.ownsRow B 27 5 v ns.length (aW ns)
 held:aP (fun b=>B≤b∧v.ownBlock≠some b) w ns
theorem dg.nil (B:Nat) (w:World):dg B w (.slice none 0 0) []:=⟨⟨rfl,.inl ⟨rfl,rfl⟩⟩,fF⟩
theorem lQ {w w':World} {B:Nat} {e:TypeId} {size:Nat} {v:Value} {n:Nat} {xs:List Value} (h:w.ownsRow B e size v n xs) (hb:∀ k,k<w.heap.size→B≤k→w'.heap[k]? = w.heap[k]?):w'.ownsRow B e size v n xs:=by
 obtain ⟨hl,h⟩:=h;refine ⟨hl,?_⟩;rcases h with h | ⟨g,cap,cur,hv,hg,hh,r⟩
 ·exact .inl h
 ·exact .inr ⟨g,cap,cur,hv,hg,(hb g (aGe.1 hh).1 hg).trans hh,r⟩
theorem dg.keep {B g:Nat} {w w':World} {v:Value} {ns:List NM} (h:dg B w v ns) (hb:aV g w w') (hg:g<B):dg B w' v ns :=
 ⟨lQ h.own (fun k hk hB=>hb.block k hk (by omega)),aP.keep (hb.same (fun b hb=>(by omega))) h.held⟩
theorem dg.shape {B:Nat} {w:World} {v:Value} {ns:List NM} (h:dg B w v ns):∃ a cap,v=.slice a ns.length cap∧ns.length≤cap∧cap≤maxLen:=by
 obtain ⟨⟨_,h⟩,_⟩:=h;rcases h with ⟨rfl,h0⟩ | ⟨g,cap,cur,rfl,_,_,hc,hm,_⟩
 ·exact ⟨none,0,by rw [h0],by omega,by omega⟩
 ·exact ⟨_,cap,rfl,hc,hm⟩
theorem dg.kids {B:Nat} {w:World} {a:Option Addr} {cap:Nat} {ns:List NM} (h:dg B w (.slice a ns.length cap) ns) (k l c:Int) (t:List UInt8):am (B≤·) w (.mk k t l c ns a cap):=by
 obtain ⟨ho,hh⟩:=h;have hm:ns.length≤maxLen:=by
  rcases ho.2 with ⟨_,h0⟩ | ⟨_,cap',_,_,_,_,hc,hm,_⟩ <;> omega
 refine lu ⟨zdK ho hm,fun b off n' c' e _=>?_⟩ (aP.less (fun b _ hb=>hb.1) hh);rcases ho.2 with ⟨e',_⟩ | ⟨g,cap',_,e',hg,_⟩
 ·rw [e] at e';cases e'
 ·rw [e] at e';simp at e';obtain ⟨⟨rfl,_⟩,_⟩:=e';exact hg
theorem dg.less {B B':Nat} {w:World} {v:Value} {ns:List NM} (h:dg B w v ns) (hB:B'≤B):dg B' w v ns:=by
 refine ⟨⟨h.own.1,?_⟩,aP.less (fun b _ hb=>⟨nT hB hb.1,hb.2⟩) h.held⟩;rcases h.own.2 with h | ⟨g,cap,cur,hv,hg,r⟩
 ·exact .inl h
 ·exact .inr ⟨g,cap,cur,hv,nT hB hg,r⟩
theorem dg.laid {B:Nat} {w W:World} {ns:List NM} {cs:Array Value} (hr:W.heap[w.heap.size]? = some (.cells cs 27 (0,0))) (hc:cs.toList=aW ns) (hl:ns.length≤1000) (hB:B≤w.heap.size) (hh:aP (B≤·) w ns) (hS:d9 (B≤·) w W) :
  dg B W (.slice (some ⟨w.heap.size,0,none⟩) ns.length ns.length) ns:=by
 refine ⟨⟨be ns,.inr ⟨w.heap.size,ns.length,cs,rfl,hB,hr,nRe _,by unfold maxLen;omega,?_,?_⟩⟩,?_⟩
 ·rw [← Array.length_toList,hc,be]
 ·rw [hc,List.take_of_length_le (by rw [be];omega)]
 ·refine aP.keep (P:=fun b=>B≤b∧(Value.slice (some ⟨w.heap.size,0,none⟩) ns.length ns.length).ownBlock≠some b) ⟨hS.1,fun k hk hP=>hS.2 k hk hP.1⟩ (aP.less (fun b hb hP=>⟨hP,?_⟩) hh);simp [Value.ownBlock];omega
structure gC (B B2:Nat) (w:World) (v:Value) (ns:List NM):Prop where
 own:w.ownsRow B2 27 5 v ns.length (aW ns)
 held:aP (fun b=>B≤b∧v.ownBlock≠some b) w ns
theorem dg.two {B B2:Nat} {w:World} {v:Value} {ns:List NM} (h:dg B2 w v ns) (hB:B≤B2):gC B B2 w v ns:=⟨h.own,aP.less (fun _b _ hb=>⟨nT hB hb.1,hb.2⟩) h.held⟩
theorem gC.laid {B:Nat} {w W:World} {ns:List NM} {cs:Array Value} (hr:W.heap[w.heap.size]? = some (.cells cs 27 (0,0))) (hc:cs.toList=aW ns) (hl:ns.length≤1000) (hB:B≤w.heap.size) (hh:aP (B≤·) w ns) (hS:d9 (B≤·) w W) :
  gC B w.heap.size W (.slice (some ⟨w.heap.size,0,none⟩) ns.length ns.length) ns:=by
 have h:=dg.laid hr hc hl hB hh hS;refine ⟨⟨h.own.1,?_⟩,h.held⟩;rcases h.own.2 with ⟨e,_⟩ | ⟨g,cap,cur,hv,hg,r⟩
 ·cases e
 ·refine .inr ⟨g,cap,cur,hv,?_,r⟩;simp at hv;omega
theorem gC.one {B B2:Nat} {w:World} {v:Value} {ns:List NM} (h:gC B B2 w v ns) (hB:B≤B2):dg B w v ns:=by
 refine ⟨⟨h.own.1,?_⟩,h.held⟩;rcases h.own.2 with h | ⟨g,cap,cur,hv,hg,r⟩
 ·exact .inl h
 ·exact .inr ⟨g,cap,cur,hv,nT hB hg,r⟩
theorem gC.keep {B B2 g:Nat} {w w':World} {v:Value} {ns:List NM} (h:gC B B2 w v ns) (hb:aV g w w') (hg:g<B) (hB:B≤B2):gC B B2 w' v ns :=
 ⟨lQ h.own (fun k hk hB=>hb.block k hk (by omega)),aP.keep (hb.same (fun b hb=>(by omega))) h.held⟩
theorem eb {B:Nat} {w w':World} {v:Value} {e:TypeId} {size n:Nat} {xs:List Value} (ho:w.ownsRow B e size v n xs) (hg:w.grownBy w' v.ownBlock):∀ k,k<w.heap.size→k<B→w'.heap[k]? = w.heap[k]?:=fun k hk hB =>
 hg.block k hk (fun h=>by have:=ho.lt k h.symm;omega)
theorem dg.app {B:Nat} {w w':World} {v v':Value} {ns:List NM} {xs:List NM} (h:dg B w v ns) (hx:aP (fun b=>B≤b∧v.ownBlock≠some b) w xs) {m:Nat} (ho:w'.ownsRow B 27 5 v' m (aW ns++aW xs)) (hm:m=ns.length+xs.length) (hg:w.grownBy w' v.ownBlock)
  (hat:v'.ownBlock=v.ownBlock∨v'.ownBlock=some w.heap.size):dg B w' v' (ns++xs):=by
 refine ⟨by rw [lAp,ke,← hm];exact ho,?_⟩;have hh:=kQ h.held hx;have hk:=aP.keep (w':=w') ⟨hg.size,fun k hk hP=>hg.block k hk (fun e=>hP.2 e.symm)⟩ (aP.less (P':=fun b=>(B≤b∧v.ownBlock≠some b)∧b<w.heap.size) (fun b hb hP=>⟨hP,hb⟩) hh |> aP.less (P':=fun b=>(B≤b∧v.ownBlock≠some b)) (fun b _ hP=>hP.1));have hk2:aP (fun b=>(B≤b∧v.ownBlock≠some b)∧b<w.heap.size) w' (ns++xs) :=
  aP.keep ⟨hg.size,fun k hk hP=>hg.block k hk (fun e=>hP.1.2 e.symm)⟩ (aP.less (fun b hb hP=>⟨hP,hb⟩) hh)
 clear hk;refine aP.less (fun b _ hP=>⟨hP.1.1,?_⟩) hk2;rcases hat with e | e
 ·rw [e];exact hP.1.2
 ·rw [e];intro h;simp at h;omega
theorem gC.app {B B2:Nat} {w w':World} {v v':Value} {ns:List NM} {xs:List NM} (h:gC B B2 w v ns) (hx:aP (fun b=>B≤b∧v.ownBlock≠some b) w xs) {m:Nat} (ho:w'.ownsRow B2 27 5 v' m (aW ns++aW xs)) (hm:m=ns.length+xs.length) (hg:w.grownBy w' v.ownBlock)
  (hat:v'.ownBlock=v.ownBlock∨v'.ownBlock=some w.heap.size):gC B B2 w' v' (ns++xs):=by
 refine ⟨by rw [lAp,ke,← hm];exact ho,?_⟩;have hh:=kQ h.held hx;have hk2:aP (fun b=>(B≤b∧v.ownBlock≠some b)∧b<w.heap.size) w' (ns++xs) :=
  aP.keep ⟨hg.size,fun k hk hP=>hg.block k hk (fun e=>hP.1.2 e.symm)⟩ (aP.less (fun b hb hP=>⟨hP,hb⟩) hh)
 refine aP.less (fun b _ hP=>⟨hP.1.1,?_⟩) hk2;rcases hat with e | e
 ·rw [e];exact hP.1.2
 ·rw [e];intro h;simp at h;omega
theorem gC.fresh {B B2:Nat} {w:World} {v:Value} {ns:List NM} (h:gC B B2 w v ns) {k:Nat} (hk:v.ownBlock=some k):k<w.heap.size:=(h.own.lt k hk).2
theorem aV.grown {g B:Nat} {w w1 w2:World} (h:aV g w w1) {v:Value} {e:TypeId} {size n:Nat} {xs:List Value} (ho:w1.ownsRow B e size v n xs) (hg:w1.grownBy w2 v.ownBlock) (hB:w.heap.size≤B):aV g w w2 :=
 ⟨hg.os.trans h.os,hg.tape.trans h.tape,hg.output.trans h.output,nT h.size hg.size,fun k hk hne=>(eb ho hg k (nL hk h.size) (by omega)).trans (h.block k hk hne)⟩
theorem PS.grown {g B:Nat} {en:Pl} {l:List Tok} {d:Nat} {w1 w2:World} (h:PS w1 g en l d) {v:Value} {e:TypeId} {size n:Nat} {xs:List Value} (ho:w1.ownsRow B e size v n xs) (hg:w1.grownBy w2 v.ownBlock) (hB:g<B):PS w2 g en l d :=
 h.upto hg.size (fun k hk=>eb ho hg k (by have:=h.lt;omega) (by omega))
theorem fM:(Tryz.prog.info? 27).map (fun i=>(i.zero,i.size,i.bytes))=some (some (.agg #[.int .i64 0,.string ⟨#[]⟩,.int .i64 0,.int .i64 0,.slice none 0 0]),5,64):=by kernel_rfl
def fe (B:Nat) (w:World) (v:Value) (a:List Nd):Prop:=∃ ns,dg B w v ns∧zdI ns a∧ns.length≤200000
def sc (B:Nat) (w:World) (v:Value) (a:List Nd):Prop:=∃ y,a=[y]∧ca B w v y
theorem go {w:World} {b:Nat} {cs:Array Value} {t:TypeId} (h:w.heap[b]? = some (.cells cs t (0,0))) {xs:List Value} (hx:cs.toList=xs):∀ j u,xs[j]? = some u→w.cell? ((⟨b,0,none⟩:Addr).add j)=some u:=by
 intro j u hu;have hadd:(⟨b,0,none⟩:Addr).add j=⟨b,j,none⟩:=by unfold Addr.add;split <;> simp_all
 rw [hadd,cRo w b j _ _ _ h];rw [← hx] at hu;simpa using hu
theorem k9 {P:Program} {o:Oper} {a:Act} {w:World} {Q:Exit→Act→World→Prop} {K:Act→World→Prop} (s x:Operand) (t:TypeId)
  (ho:o.op=.call { callee:=.builtin .append,args:=#[s,x],argTypes:=#[t,t] })
  (base:Nat) (e:TypeId) (i:TypeInfo) (z:Value) (size bytes:Nat) (ht:P.underlying t=some (.slice e)) (hi:P.info? e=some i) (hz:i.zero=some z)
  (hsize:i.size=size) (hby:i.bytes=bytes) (hzs:z.cells.size=size) (hsz:0<size)
  (v:Value) (n:Nat) (xs:List Value) (hs:a.eval s=v) (hown:w.ownsRow base e size v n xs)
  (ad:Addr) (m c:Nat) (news:List Value) (hx:a.eval x=.slice (some ad) m c) (hl:news.length=m * size) (hnews:∀ j u,news[j]? = some u→w.cell? (ad.add j)=some u) (h1:∀ u ∈ news,u.oneCell'=true)
  (h63:n+m≤maxLen) (hbytes:(n+m) * bytes≤140737488355328) (hbase:base≤w.heap.size)
  (h:∀ v' w',w'.ownsRow base e size v' (n+m) (xs++news)→w.grownBy w' v.ownBlock→(v'.ownBlock=v.ownBlock∨v'.ownBlock=some w.heap.size)→K (a.put o.dst v') w'):Oper.wp P o a w K Q:=by
 obtain ⟨v',w',hr,h2,h3,h4,h5⟩:=run_append_own_at (P:=P) w base t o.type e i z size bytes ht hi hz hsize hby hzs hsz v n xs hown ad m c news hl hnews h1 h63 hbytes hbase;unfold Oper.wp execOp;simp only [ho,resolve,invoke,builtin,Sem.run_bind,Sem.run_pure,Result.andThen_ok,List.map_toArray,List.map_cons,List.map_nil,hs,hx,hr];exact h v' w' h2 h3 h5
theorem bt {w:World} {b:Nat} {cs:Array Value} {t:TypeId} (h:w.heap[b]? = some (.cells cs t (0,0))):w.rangeAt b 0 cs.toList:=by
 intro j u hu;rw [Nat.zero_add,cRo w b j _ _ _ h];simpa using hu
theorem aN {w:World} {g:Nat} {en:Pl} {l:List Tok} {d:Nat} (hp:PS w g en l d) (o:Obj):∃ W,Hid (W=w.alloc o)∧PS W g en l d∧aV g w W∧W.heap[w.heap.size]? = some o∧w.heap.size<W.heap.size :=
 ⟨_,hid rfl,hp.keep (ag w o),aV.of_below (ag w o),hAn w o,by rw [wSz];omega⟩
theorem iV {w:World} {g:Nat} {en:Pl} {l:List Tok} {d:Nat} (hp:PS w g en l d) (o o':Obj):∃ W,Hid (W=(w.alloc o).alloc o')∧PS W g en l d∧aV g w W∧W.heap[w.heap.size]? = some o∧W.heap[w.heap.size+1]? = some o'∧w.heap.size+1<W.heap.size :=
 ⟨_,hid rfl,(hp.keep (ag w o)).keep (ag _ o'),aV.of_below (zdy (ag w o) (ag _ o')),bz (hAn w o) o',by have:=hAn (w.alloc o) o';rwa [wSz] at this,by rw [wSz,wSz];omega⟩
theorem dj {w:World} {g:Nat} {en:Pl} {l:List Tok} {d:Nat} (hp:PS w g en l d):∃ W,Hid (W=w.drew)∧PS W g en l d∧aV g w W :=
 ⟨_,hid rfl,hp.keep (dS.below ⟨1,rfl⟩),aV.of_below (dS.below ⟨1,rfl⟩)⟩
theorem eu {w:World} {b:Nat} {x0:Value} {T:TypeId} (h:w.heap[b]? = some (.cells #[x0] T (0,0))):w.cell? ⟨b,0,none⟩=some x0∧w.frozen? ⟨b,0,none⟩=false :=
 ⟨cRo w b 0 _ _ _ h,aw h 0⟩
theorem xh {w:World} {g:Nat} {en:Pl} {l:List Tok} {d:Nat} (hp:PS w g en l (d+1)):∃ W,Hid (W=w.setCell ⟨g,3,none⟩ (.int .i64 (d:Int)))∧PS W g en l d∧aV g w W :=
 ⟨_,hid rfl,hp.deep (by have:=hp.d60;omega),(aV.refl g w).set 3 _⟩
theorem bh {pb:Nat} {w w':World} (h:Below pb w w'):d9 (·<pb) w w':=⟨h.size,fun k _ hk=>h.block k hk⟩
theorem zv (n:Nat):(Lib.repeatL (⟨#[9]⟩:ByteArray).data.toList n)=List.replicate n 9:=by
 induction n with
 | zero=>rfl
 | succ n ih=>rw [List.replicate_succ,← ih];rfl
theorem fc {pb:Nat} {w:World} {k l c:Int} {t:List UInt8} {ks:List NM} {a:Option Addr} {m:Nat} (h:am (·<pb) w (.mk k t l c ks a m)) (hn:0<ks.length) :
  ∃ kb ko,a=some ⟨kb,ko,none⟩∧kb<pb∧kb<w.heap.size∧ks.length≤m∧m≤maxLen∧(∀ j (hj:j<ks.length),dn w kb (ko+j * 5) ks[j]):=by
 obtain ⟨la,lc,hv,h1,h2,hx⟩:=h.any.kidsAt.nodes;obtain ⟨rfl,rfl⟩:a=la∧m=lc:=by simpa using hv
 obtain ⟨kb,ko,rfl,aL,hc⟩:=hx 0 hn;refine ⟨kb,ko,rfl,?_,aL,h1,h2,hc⟩;exact (ia h).1.2 kb ko _ _ rfl (by intro e;have:=be ks;rw [e] at this;simp at this;omega)
theorem ep {pb:Nat} {w:World} {k l c:Int} {t:List UInt8} {ks:List NM} {a:Option Addr} {m:Nat} (h:am (·<pb) w (.mk k t l c ks a m)) (j:Nat) (hj:j<ks.length):am (·<pb) w ks[j]:=fG (ia h).2 j hj
def fy (F:FuncId) (pb:Nat) (out:Nat→List aJ) (x:NM):Prop :=
 ∀ acc t w,aO pb pb acc t w→am (·<pb) w x→t≤100000→acc.length+(af (out t)).length≤140737488355000 →
   Calls Tryz.prog F #[.pointer (some ⟨pb,0,none⟩),x.val] w fun e w'=>e=.returned (.tuple #[])∧aO pb pb (acc++af (out t)) t w'∧PK pb w w'
theorem sV (pb:Nat) (acc:List UInt8) (t:Nat) (w:World) (h:aO pb pb acc t w) (ht:t≤100000) (aF:acc.length+t≤140737488355000) :
  Calls Tryz.prog 41 #[.pointer (some ⟨pb,0,none⟩)] w fun e w'=>e=.returned (.tuple #[])∧aO pb pb (acc++List.replicate t 9) t w'∧PK pb w w':=by
 have HP:=hid h;have aL:=h.lt.2;go_enter Tryz.func41,Tryz.ntmps41
 go_wp2_with fail;refine aH (S:=fun W=>∃ p v,W.heap[pb]? = some (.cells #[p,v,.int .i64 (t:Int)] 66 (0,0))) (by kernel_rfl) ?_;obtain ⟨w1,hw,ac⟩:=dr1 w;rw [← hw.out];clear hw;have HP1:=hid (HP.out.below ac);have HK:=hid (PK.of ac (Nat.le_of_lt aL));have hlt1:pb<w1.heap.size:=HP1.out.lt.2;have hS:=HP1.out.row;clear ac h HP;refine zdA 0 (some 2) (.pointer (some ⟨pb,0,none⟩)) hS ?_
 try simp only [aPu,sA,sB,sC]
 refine zdA 1 (some 3) (.pointer (some ⟨pb,0,none⟩)) hS ?_
 try simp only [aPu,sA,sB,sC]
 refine zdA 2 (some 4) (.pointer (some ⟨pb,0,none⟩)) hS ?_
 try simp only [aPu,sA,sB,sC]
 refine zdA 3 (some 5) (.pointer (some ⟨pb,0,none⟩)) hS ?_
 try simp only [aPu,sA,sB,sC]
 refine zdA 4 (some 6) (.pointer (some ⟨pb,0,none⟩)) hS ?_
 try simp only [aPu,sA,sB,sC]
 refine zdA 5 (some 7) (.pointer (some ⟨pb,2,none⟩)) hS ?_
 try simp only [aPu,sA,sB,sC]
 refine zdD 6 (some 8) (.int .i64 (t:Int)) hS ?_ (hv:=fun W hW=>by obtain ⟨p,v,hr⟩:=hW;have q:W.cell? ⟨pb,2,none⟩=some (.int .i64 (t:Int)):=cRo W _ 2 _ _ _ hr;go_simp)
 try simp only [aPu,sA,sB,sC]
 refine zdC 7 ?_;intro K hK;go_simp;refine (Tryz.strings_Repeat ⟨#[9]⟩ t w1 (by omega) (by show 1 * t≤_;omega)).mono ?_;rintro e w2 ⟨rfl,hb2⟩;rw [zv];have hbs:(⟨(List.replicate t (9:UInt8)).toArray⟩:ByteArray)=bs (List.replicate t 9):=rfl;rw [hbs];clear hbs;have HP2:=hid (HP1.out.below hb2);have HK2:=hid (HK.out.trans (PK.of hb2 (Nat.le_of_lt hlt1)));clear hb2 HP1 HK;go_wp2_with fail;refine hK.out _ _ HP2.out.row ?_;clear hK K
 try simp only [aPu,sA,sB,sC]
 refine zdC 8 ?_;intro K hK;go_simp;refine (iz pb acc t (List.replicate t 9) w2 HP2.out (by rw [List.length_replicate];omega)).mono ?_;rintro e w3 ⟨rfl,hp3,hk3⟩;have HP3:=hid hp3;have HK3:=hid (HK2.out.trans hk3);clear hp3 hk3 HK2 HP2;go_wp2_with fail;refine hK.out _ _ HP3.out.row ?_;clear hK K
 try simp only [aPu,sA,sB,sC]
 refine zdH ?_;go_wp2_with fail
 go_end0
 exact ⟨rfl,HP3.out,HK3.out⟩
theorem iO (k:Int) (t:List UInt8) (l c:Int) (sl:Option Addr) (n m:Nat) (w:World) :
  Calls Tryz.prog 117 #[aB k t l c (.slice sl n m)] w fun e w'=>e=.returned (.bool (dY (k,t)))∧Below w.heap.size w w':=by
 have HO:Hid (dY (k,t)=(k == 16 && !(t == [110,111,116]))):=hid rfl;cases q:(k == 16) with
 | false =>
   go_enter Tryz.func117,Tryz.ntmps117
   go_wp2_with fail;go_ret;exact ⟨by rw [HO.out,q];rfl,ag w _⟩
 | true =>
   cases q2:(t == [110,111,116]) with
   | false =>
     go_enter Tryz.func117,Tryz.ntmps117
     go_wp2_with fail;go_ret;exact ⟨by rw [HO.out,q,q2];rfl,ag w _⟩
   | true =>
     go_enter Tryz.func117,Tryz.ntmps117
     go_wp2_with fail;go_ret;exact ⟨by rw [HO.out,q,q2];rfl,ag w _⟩
theorem fA (x:List aJ):∀ s:List (List aJ),aE (s++[x])=if s=[] then x else aE s++sg 44::sp::x
 | []=>rfl
 | [a]=>rfl
 | a::b::r=>by
   have ih:=fA x (b::r);rw [if_neg (by simp)] at ih ⊢;show a++sg 44::sp::aE ((b::r)++[x])=(a++sg 44::sp::aE (b::r))++sg 44::sp::x;rw [ih];simp
structure el (pb:Nat) (w:World) (v:Value) (ks:List NM):Prop where
 row:fh (·<pb) w 5 v ks.length (aW ks)
 held:aP (·<pb) w ks
theorem el.keep {pb:Nat} {w w':World} {v:Value} {ks:List NM} (h:el pb w v ks) (hb:Below pb w w'):el pb w' v ks:=⟨h.row.keep (bh hb),aP.keep (bh hb) h.held⟩
theorem el.of {pb:Nat} {w:World} {k l c:Int} {t:List UInt8} {ks:List NM} {a:Option Addr} {m:Nat} (h:am (·<pb) w (.mk k t l c ks a m)):el pb w (.slice a ks.length m) ks:=⟨(ia h).1,(ia h).2⟩
theorem el.at {pb:Nat} {w:World} {v:Value} {ks:List NM} (h:el pb w v ks):∃ a c,v=.slice a ks.length c∧ks.length≤c∧c≤maxLen∧(0<ks.length→∃ b off,a=some ⟨b,off,none⟩∧b<w.heap.size∧∀ j (hj:j<ks.length),dn w b (off+j * 5) ks[j]):=by
 have hk:cn w v ks:=⟨h.row.1,aP.less (fun _ _ _=>trivial) h.held⟩;obtain ⟨a,c,e,h1,h2,hx⟩:=hk.nodes;exact ⟨a,c,e,h1,h2,fun hn=>hx 0 hn⟩
theorem zo (pb:Nat) (out:Nat→NM→List aJ) (ks:List NM) (v:Value) (acc:List UInt8) (t:Nat) (w:World) (h:aO pb pb acc t w) (hl:el pb w v ks) (ht:t≤100000) (hk:ks.length≤1000000)
  (aF:acc.length+(af (aE (ks.map (out t)))).length≤140737488355000)
  (IH:∀ j (hj:j<ks.length),fy 80 pb (fun n=>out n ks[j]) ks[j]) :
  Calls Tryz.prog 82 #[.pointer (some ⟨pb,0,none⟩),v,.func (.func 80) #[.pointer (some ⟨pb,0,none⟩)] #[]] w fun e w'=>e=.returned (.tuple #[])∧aO pb pb (acc++af (aE (ks.map (out t)))) t w'∧PK pb w w':=by
 have HS:=hid (fun W (hW:Below pb w W)=>hl.keep hW);have HI:=hid IH;obtain ⟨la,lc,rfl,iI,hlm,-⟩:=hl.at;unfold maxLen at hlm;have HL:=hid (fun j (hj:j≤ks.length)=>(show acc.length+(af (aE ((ks.map (out t)).take j))).length≤140737488355000 by
  refine nT ?_ aF;have hstep:∀ (s:List (List aJ)) (x:List aJ),(af (aE s)).length≤(af (aE (s++[x]))).length:=by
   intro s x;rw [fA];split
   ·rename_i e;subst e;simp [aE,af]
   ·rw [aQ,lAp];omega
  have hsuf:∀ (r s:List (List aJ)),(af (aE s)).length≤(af (aE (s++r))).length:=by
   intro r;induction r with
   | nil=>intro s;rw [List.append_nil];exact nRe _
   | cons x r ih=>intro s;have h1:=hstep s x;have h2:=ih (s++[x]);rw [List.append_assoc] at h2;exact nT h1 h2
  have:=hsuf ((ks.map (out t)).drop j) ((ks.map (out t)).take j);rw [List.take_append_drop] at this;omega))
 have H0:=hid h;clear hl IH h aF;go_enter Tryz.func82,Tryz.ntmps82
 go_wp2_with fail;go_loopw [10] (fun i wr=>∃ j:Nat,j≤ks.length∧i=.int .i64 j∧aO pb pb (acc++af (aE ((ks.map (out t)).take j))) t wr∧PK pb w wr) (fun i _=>ks.length - (intOf i).toNat)
 case atStart=>exact ⟨0,by omega,rfl,by rw [List.take_zero];show aO pb pb (acc++[]) t w;rw [List.append_nil];exact H0.out,PK.refl _ _⟩
 case round =>
  clear H0;obtain ⟨j,hj,rfl,hp,hk2⟩:=hrel;have HP:=hid hp;have HK:=hid hk2;have hlt0:pb<wr.heap.size:=hp.lt.2;by_cases aL:j<ks.length
  ·have hd:decide (j<ks.length)=true:=decide_eq_true aL;have HKI:=hid (HS.out _ hk2.below);obtain ⟨la',lc',hv,-,-,hx⟩:=HKI.out.at;obtain ⟨lb,lo,rfl,hlb,cw⟩:=hx (by omega);obtain ⟨rfl,rfl⟩:la=some ⟨lb,lo,none⟩∧lc=lc':=by simpa using hv
   have hfc:=cw j aL;have HIj:=hid (HI.out j aL);have hZ:=hid (fG HKI.out.held j aL);have hlj:j<(ks.map (out t)).length:=by simpa using aL
   have HT:=hid (show aE ((ks.map (out t)).take (j+1))=if (ks.map (out t)).take j=[] then out t ks[j] else aE ((ks.map (out t)).take j)++sg 44::sp::out t ks[j] by
    rw [List.take_succ_eq_append_getElem hlj,fA,List.getElem_map])
   have HL1:=hid (HL.out (j+1) (by omega));have HZ:=hid (show (ks.map (out t)).take j=[] ↔ j=0 from ⟨fun e=>by have:=congrArg List.length e;simp at this;rcases this with h | h;exact h;(rw [h] at aL;simp at aL),fun e=>by subst e;rfl⟩);have HE0:=hid (show j=0→aE ((ks.map (out t)).take j)=[] from fun e=>by subst e;rfl);generalize aE ((ks.map (out t)).take j)=pre at *;generalize ks[j]=x at *;cases x with
   | mk kx tx lx cx kk ax mx =>
   obtain ⟨c0,c1,c2,c3,c4⟩:=aj hfc;clear cw hx hv hk2 hp HKI hlj;obtain ⟨w1,hw,ac,hr,hlt1⟩:=an1 wr (.cells #[.int .i64 kx,.string (bs tx),.int .i64 lx,.int .i64 cx,.slice ax kk.length mx] 27);have HP1:=hid (HP.out.below ac);have HK1:=hid (HK.out.trans (PK.of ac (Nat.le_of_lt hlt0)));have hh1:=hid (am.keep (bh (ac.mono (Nat.le_of_lt hlt0))) hZ.out);have HR1:=hid hr;have nb:wr.heap.size≠pb:=by omega
   clear HP hZ ac hr;by_cases h0:j=0
   ·have q0:¬ ((0:Int)<(j:Int)):=by omega
    have HT0:=hid (HT.out.trans (if_pos (HZ.out.2 h0)));have HE:=hid (HE0.out h0);have HLx:=hid (show (acc++af pre).length+(af (out t (.mk kx tx lx cx kk ax mx))).length≤140737488355000 by
     have:=HL1.out;rw [HT0.out] at this;rw [HE.out,eJ,List.append_nil];exact this)
    clear HT HZ HE0 h0;go_wp2_with fail;rw [← hw.out];clear hw;obtain ⟨z0,z1,z2,z3,z4⟩:=r5 HR1.out;go_wp2_with fail;clear z0 z1 z2 z3 z4;refine (HIj.out _ t w1 HP1.out hh1.out ht HLx.out).mono ?_;rintro e w2 ⟨rfl,hp2,hk2⟩;have HP2:=hid hp2;have HK2:=hid (HK1.out.trans hk2);clear hp2 hk2 HP1 HK1;go_wp2_with fail
    go_round
    case rel=>exact ⟨j+1,by omega,by go_num,by have:=HP2.out;rw [HE.out,eJ,List.append_nil] at this;rw [HT0.out];exact this,HK2.out⟩
    case measure=>simp [intOf];omega
   ·have q0:(0:Int)<(j:Int):=by omega
    have HT0:=hid (HT.out.trans (if_neg (fun e=>h0 (HZ.out.1 e))));have HLx:=hid (show (acc++af pre++[44,32]).length+(af (out t (.mk kx tx lx cx kk ax mx))).length≤140737488355000 by
     have:=HL1.out;rw [HT0.out,aQ,aA,aA] at this;simp [sg,sp,df] at this ⊢;omega)
    have HEq:=hid (show acc++af (pre++sg 44::sp::out t (.mk kx tx lx cx kk ax mx))=acc++af pre++[44,32]++af (out t (.mk kx tx lx cx kk ax mx)) by
     rw [aQ,aA,aA];simp [sg,sp,df])
    clear HT HZ HE0 h0;go_wp2_with fail;rw [← hw.out];clear hw;refine (iz pb (acc++af pre) t [44,32] w1 HP1.out (by have:=HLx.out;simp at this ⊢;omega)).mono ?_;rintro e w2 ⟨rfl,hp2,hk2⟩;have HR2:=hid (hk2.row HR1.out nb (by decide));have hh2:=hid (am.keep (bh hk2.below) hh1.out);have HP2:=hid hp2;have HK2:=hid (HK1.out.trans hk2);clear hp2 hk2 HP1 HK1 hh1 HR1;obtain ⟨z0,z1,z2,z3,z4⟩:=r5 HR2.out;go_wp2_with fail;clear z0 z1 z2 z3 z4;refine (HIj.out _ t w2 HP2.out hh2.out ht HLx.out).mono ?_;rintro e w3 ⟨rfl,hp3,hk3⟩;have HP3:=hid hp3;have HK3:=hid (HK2.out.trans hk3);clear hp3 hk3 HP2 HK2;go_wp2_with fail
    go_round
    case rel=>exact ⟨j+1,by omega,by go_num,by rw [HT0.out,HEq.out];exact HP3.out,HK3.out⟩
    case measure=>simp [intOf];omega
  ·have hd:decide (j<ks.length)=false:=decide_eq_false aL;go_wp2_with fail
   go_end0
   exact ⟨rfl,by rw [show (ks.map (out t)).take j=ks.map (out t) from List.take_of_length_le (by rw [List.length_map];omega)] at hp;exact hp,hk2⟩
theorem wg (pb:Nat) (out:Nat→NM→List aJ) (ks:List NM) (v:Value) (acc:List UInt8) (t:Nat) (w:World) (h:aO pb pb acc t w) (hl:el pb w v ks) (ht:t≤100000) (hk:ks.length≤1000000)
  (aF:acc.length+(af (aE (ks.map (out t)))).length≤140737488355000)
  (IH:∀ j (hj:j<ks.length),fy 79 pb (fun n=>out n ks[j]) ks[j]) :
  Calls Tryz.prog 82 #[.pointer (some ⟨pb,0,none⟩),v,.func (.func 79) #[.pointer (some ⟨pb,0,none⟩)] #[]] w fun e w'=>e=.returned (.tuple #[])∧aO pb pb (acc++af (aE (ks.map (out t)))) t w'∧PK pb w w':=by
 have HS:=hid (fun W (hW:Below pb w W)=>hl.keep hW);have HI:=hid IH;obtain ⟨la,lc,rfl,iI,hlm,-⟩:=hl.at;unfold maxLen at hlm;have HL:=hid (fun j (hj:j≤ks.length)=>(show acc.length+(af (aE ((ks.map (out t)).take j))).length≤140737488355000 by
  refine nT ?_ aF;have hstep:∀ (s:List (List aJ)) (x:List aJ),(af (aE s)).length≤(af (aE (s++[x]))).length:=by
   intro s x;rw [fA];split
   ·rename_i e;subst e;simp [aE,af]
   ·rw [aQ,lAp];omega
  have hsuf:∀ (r s:List (List aJ)),(af (aE s)).length≤(af (aE (s++r))).length:=by
   intro r;induction r with
   | nil=>intro s;rw [List.append_nil];exact nRe _
   | cons x r ih=>intro s;have h1:=hstep s x;have h2:=ih (s++[x]);rw [List.append_assoc] at h2;exact nT h1 h2
  have:=hsuf ((ks.map (out t)).drop j) ((ks.map (out t)).take j);rw [List.take_append_drop] at this;omega))
 have H0:=hid h;clear hl IH h aF;go_enter Tryz.func82,Tryz.ntmps82
 go_wp2_with fail;go_loopw [10] (fun i wr=>∃ j:Nat,j≤ks.length∧i=.int .i64 j∧aO pb pb (acc++af (aE ((ks.map (out t)).take j))) t wr∧PK pb w wr) (fun i _=>ks.length - (intOf i).toNat)
 case atStart=>exact ⟨0,by omega,rfl,by rw [List.take_zero];show aO pb pb (acc++[]) t w;rw [List.append_nil];exact H0.out,PK.refl _ _⟩
 case round =>
  clear H0;obtain ⟨j,hj,rfl,hp,hk2⟩:=hrel;have HP:=hid hp;have HK:=hid hk2;have hlt0:pb<wr.heap.size:=hp.lt.2;by_cases aL:j<ks.length
  ·have hd:decide (j<ks.length)=true:=decide_eq_true aL;have HKI:=hid (HS.out _ hk2.below);obtain ⟨la',lc',hv,-,-,hx⟩:=HKI.out.at;obtain ⟨lb,lo,rfl,hlb,cw⟩:=hx (by omega);obtain ⟨rfl,rfl⟩:la=some ⟨lb,lo,none⟩∧lc=lc':=by simpa using hv
   have hfc:=cw j aL;have HIj:=hid (HI.out j aL);have hZ:=hid (fG HKI.out.held j aL);have hlj:j<(ks.map (out t)).length:=by simpa using aL
   have HT:=hid (show aE ((ks.map (out t)).take (j+1))=if (ks.map (out t)).take j=[] then out t ks[j] else aE ((ks.map (out t)).take j)++sg 44::sp::out t ks[j] by
    rw [List.take_succ_eq_append_getElem hlj,fA,List.getElem_map])
   have HL1:=hid (HL.out (j+1) (by omega));have HZ:=hid (show (ks.map (out t)).take j=[] ↔ j=0 from ⟨fun e=>by have:=congrArg List.length e;simp at this;rcases this with h | h;exact h;(rw [h] at aL;simp at aL),fun e=>by subst e;rfl⟩);have HE0:=hid (show j=0→aE ((ks.map (out t)).take j)=[] from fun e=>by subst e;rfl);generalize aE ((ks.map (out t)).take j)=pre at *;generalize ks[j]=x at *;cases x with
   | mk kx tx lx cx kk ax mx =>
   obtain ⟨c0,c1,c2,c3,c4⟩:=aj hfc;clear cw hx hv hk2 hp HKI hlj;obtain ⟨w1,hw,ac,hr,hlt1⟩:=an1 wr (.cells #[.int .i64 kx,.string (bs tx),.int .i64 lx,.int .i64 cx,.slice ax kk.length mx] 27);have HP1:=hid (HP.out.below ac);have HK1:=hid (HK.out.trans (PK.of ac (Nat.le_of_lt hlt0)));have hh1:=hid (am.keep (bh (ac.mono (Nat.le_of_lt hlt0))) hZ.out);have HR1:=hid hr;have nb:wr.heap.size≠pb:=by omega
   clear HP hZ ac hr;by_cases h0:j=0
   ·have q0:¬ ((0:Int)<(j:Int)):=by omega
    have HT0:=hid (HT.out.trans (if_pos (HZ.out.2 h0)));have HE:=hid (HE0.out h0);have HLx:=hid (show (acc++af pre).length+(af (out t (.mk kx tx lx cx kk ax mx))).length≤140737488355000 by
     have:=HL1.out;rw [HT0.out] at this;rw [HE.out,eJ,List.append_nil];exact this)
    clear HT HZ HE0 h0;go_wp2_with fail;rw [← hw.out];clear hw;obtain ⟨z0,z1,z2,z3,z4⟩:=r5 HR1.out;go_wp2_with fail;clear z0 z1 z2 z3 z4;refine (HIj.out _ t w1 HP1.out hh1.out ht HLx.out).mono ?_;rintro e w2 ⟨rfl,hp2,hk2⟩;have HP2:=hid hp2;have HK2:=hid (HK1.out.trans hk2);clear hp2 hk2 HP1 HK1;go_wp2_with fail
    go_round
    case rel=>exact ⟨j+1,by omega,by go_num,by have:=HP2.out;rw [HE.out,eJ,List.append_nil] at this;rw [HT0.out];exact this,HK2.out⟩
    case measure=>simp [intOf];omega
   ·have q0:(0:Int)<(j:Int):=by omega
    have HT0:=hid (HT.out.trans (if_neg (fun e=>h0 (HZ.out.1 e))));have HLx:=hid (show (acc++af pre++[44,32]).length+(af (out t (.mk kx tx lx cx kk ax mx))).length≤140737488355000 by
     have:=HL1.out;rw [HT0.out,aQ,aA,aA] at this;simp [sg,sp,df] at this ⊢;omega)
    have HEq:=hid (show acc++af (pre++sg 44::sp::out t (.mk kx tx lx cx kk ax mx))=acc++af pre++[44,32]++af (out t (.mk kx tx lx cx kk ax mx)) by
     rw [aQ,aA,aA];simp [sg,sp,df])
    clear HT HZ HE0 h0;go_wp2_with fail;rw [← hw.out];clear hw;refine (iz pb (acc++af pre) t [44,32] w1 HP1.out (by have:=HLx.out;simp at this ⊢;omega)).mono ?_;rintro e w2 ⟨rfl,hp2,hk2⟩;have HR2:=hid (hk2.row HR1.out nb (by decide));have hh2:=hid (am.keep (bh hk2.below) hh1.out);have HP2:=hid hp2;have HK2:=hid (HK1.out.trans hk2);clear hp2 hk2 HP1 HK1 hh1 HR1;obtain ⟨z0,z1,z2,z3,z4⟩:=r5 HR2.out;go_wp2_with fail;clear z0 z1 z2 z3 z4;refine (HIj.out _ t w2 HP2.out hh2.out ht HLx.out).mono ?_;rintro e w3 ⟨rfl,hp3,hk3⟩;have HP3:=hid hp3;have HK3:=hid (HK2.out.trans hk3);clear hp3 hk3 HP2 HK2;go_wp2_with fail
    go_round
    case rel=>exact ⟨j+1,by omega,by go_num,by rw [HT0.out,HEq.out];exact HP3.out,HK3.out⟩
    case measure=>simp [intOf];omega
  ·have hd:decide (j<ks.length)=false:=decide_eq_false aL;go_wp2_with fail
   go_end0
   exact ⟨rfl,by rw [show (ks.map (out t)).take j=ks.map (out t) from List.take_of_length_le (by rw [List.length_map];omega)] at hp;exact hp,hk2⟩
theorem xC (pb:Nat) (out:Nat→NM→List aJ) (ks:List NM) (v:Value) (acc:List UInt8) (t:Nat) (w:World) (h:aO pb pb acc t w) (hl:el pb w v ks) (ht:t≤100000) (hk:ks.length≤1000000)
  (aF:acc.length+(af (aE (ks.map (out t)))).length≤140737488355000)
  (IH:∀ j (hj:j<ks.length),fy 83 pb (fun n=>out n ks[j]) ks[j]) :
  Calls Tryz.prog 82 #[.pointer (some ⟨pb,0,none⟩),v,.func (.func 83) #[.pointer (some ⟨pb,0,none⟩)] #[]] w fun e w'=>e=.returned (.tuple #[])∧aO pb pb (acc++af (aE (ks.map (out t)))) t w'∧PK pb w w':=by
 have HS:=hid (fun W (hW:Below pb w W)=>hl.keep hW);have HI:=hid IH;obtain ⟨la,lc,rfl,iI,hlm,-⟩:=hl.at;unfold maxLen at hlm;have HL:=hid (fun j (hj:j≤ks.length)=>(show acc.length+(af (aE ((ks.map (out t)).take j))).length≤140737488355000 by
  refine nT ?_ aF;have hstep:∀ (s:List (List aJ)) (x:List aJ),(af (aE s)).length≤(af (aE (s++[x]))).length:=by
   intro s x;rw [fA];split
   ·rename_i e;subst e;simp [aE,af]
   ·rw [aQ,lAp];omega
  have hsuf:∀ (r s:List (List aJ)),(af (aE s)).length≤(af (aE (s++r))).length:=by
   intro r;induction r with
   | nil=>intro s;rw [List.append_nil];exact nRe _
   | cons x r ih=>intro s;have h1:=hstep s x;have h2:=ih (s++[x]);rw [List.append_assoc] at h2;exact nT h1 h2
  have:=hsuf ((ks.map (out t)).drop j) ((ks.map (out t)).take j);rw [List.take_append_drop] at this;omega))
 have H0:=hid h;clear hl IH h aF;go_enter Tryz.func82,Tryz.ntmps82
 go_wp2_with fail;go_loopw [10] (fun i wr=>∃ j:Nat,j≤ks.length∧i=.int .i64 j∧aO pb pb (acc++af (aE ((ks.map (out t)).take j))) t wr∧PK pb w wr) (fun i _=>ks.length - (intOf i).toNat)
 case atStart=>exact ⟨0,by omega,rfl,by rw [List.take_zero];show aO pb pb (acc++[]) t w;rw [List.append_nil];exact H0.out,PK.refl _ _⟩
 case round =>
  clear H0;obtain ⟨j,hj,rfl,hp,hk2⟩:=hrel;have HP:=hid hp;have HK:=hid hk2;have hlt0:pb<wr.heap.size:=hp.lt.2;by_cases aL:j<ks.length
  ·have hd:decide (j<ks.length)=true:=decide_eq_true aL;have HKI:=hid (HS.out _ hk2.below);obtain ⟨la',lc',hv,-,-,hx⟩:=HKI.out.at;obtain ⟨lb,lo,rfl,hlb,cw⟩:=hx (by omega);obtain ⟨rfl,rfl⟩:la=some ⟨lb,lo,none⟩∧lc=lc':=by simpa using hv
   have hfc:=cw j aL;have HIj:=hid (HI.out j aL);have hZ:=hid (fG HKI.out.held j aL);have hlj:j<(ks.map (out t)).length:=by simpa using aL
   have HT:=hid (show aE ((ks.map (out t)).take (j+1))=if (ks.map (out t)).take j=[] then out t ks[j] else aE ((ks.map (out t)).take j)++sg 44::sp::out t ks[j] by
    rw [List.take_succ_eq_append_getElem hlj,fA,List.getElem_map])
   have HL1:=hid (HL.out (j+1) (by omega));have HZ:=hid (show (ks.map (out t)).take j=[] ↔ j=0 from ⟨fun e=>by have:=congrArg List.length e;simp at this;rcases this with h | h;exact h;(rw [h] at aL;simp at aL),fun e=>by subst e;rfl⟩);have HE0:=hid (show j=0→aE ((ks.map (out t)).take j)=[] from fun e=>by subst e;rfl);generalize aE ((ks.map (out t)).take j)=pre at *;generalize ks[j]=x at *;cases x with
   | mk kx tx lx cx kk ax mx =>
   obtain ⟨c0,c1,c2,c3,c4⟩:=aj hfc;clear cw hx hv hk2 hp HKI hlj;obtain ⟨w1,hw,ac,hr,hlt1⟩:=an1 wr (.cells #[.int .i64 kx,.string (bs tx),.int .i64 lx,.int .i64 cx,.slice ax kk.length mx] 27);have HP1:=hid (HP.out.below ac);have HK1:=hid (HK.out.trans (PK.of ac (Nat.le_of_lt hlt0)));have hh1:=hid (am.keep (bh (ac.mono (Nat.le_of_lt hlt0))) hZ.out);have HR1:=hid hr;have nb:wr.heap.size≠pb:=by omega
   clear HP hZ ac hr;by_cases h0:j=0
   ·have q0:¬ ((0:Int)<(j:Int)):=by omega
    have HT0:=hid (HT.out.trans (if_pos (HZ.out.2 h0)));have HE:=hid (HE0.out h0);have HLx:=hid (show (acc++af pre).length+(af (out t (.mk kx tx lx cx kk ax mx))).length≤140737488355000 by
     have:=HL1.out;rw [HT0.out] at this;rw [HE.out,eJ,List.append_nil];exact this)
    clear HT HZ HE0 h0;go_wp2_with fail;rw [← hw.out];clear hw;obtain ⟨z0,z1,z2,z3,z4⟩:=r5 HR1.out;go_wp2_with fail;clear z0 z1 z2 z3 z4;refine (HIj.out _ t w1 HP1.out hh1.out ht HLx.out).mono ?_;rintro e w2 ⟨rfl,hp2,hk2⟩;have HP2:=hid hp2;have HK2:=hid (HK1.out.trans hk2);clear hp2 hk2 HP1 HK1;go_wp2_with fail
    go_round
    case rel=>exact ⟨j+1,by omega,by go_num,by have:=HP2.out;rw [HE.out,eJ,List.append_nil] at this;rw [HT0.out];exact this,HK2.out⟩
    case measure=>simp [intOf];omega
   ·have q0:(0:Int)<(j:Int):=by omega
    have HT0:=hid (HT.out.trans (if_neg (fun e=>h0 (HZ.out.1 e))));have HLx:=hid (show (acc++af pre++[44,32]).length+(af (out t (.mk kx tx lx cx kk ax mx))).length≤140737488355000 by
     have:=HL1.out;rw [HT0.out,aQ,aA,aA] at this;simp [sg,sp,df] at this ⊢;omega)
    have HEq:=hid (show acc++af (pre++sg 44::sp::out t (.mk kx tx lx cx kk ax mx))=acc++af pre++[44,32]++af (out t (.mk kx tx lx cx kk ax mx)) by
     rw [aQ,aA,aA];simp [sg,sp,df])
    clear HT HZ HE0 h0;go_wp2_with fail;rw [← hw.out];clear hw;refine (iz pb (acc++af pre) t [44,32] w1 HP1.out (by have:=HLx.out;simp at this ⊢;omega)).mono ?_;rintro e w2 ⟨rfl,hp2,hk2⟩;have HR2:=hid (hk2.row HR1.out nb (by decide));have hh2:=hid (am.keep (bh hk2.below) hh1.out);have HP2:=hid hp2;have HK2:=hid (HK1.out.trans hk2);clear hp2 hk2 HP1 HK1 hh1 HR1;obtain ⟨z0,z1,z2,z3,z4⟩:=r5 HR2.out;go_wp2_with fail;clear z0 z1 z2 z3 z4;refine (HIj.out _ t w2 HP2.out hh2.out ht HLx.out).mono ?_;rintro e w3 ⟨rfl,hp3,hk3⟩;have HP3:=hid hp3;have HK3:=hid (HK2.out.trans hk3);clear hp3 hk3 HP2 HK2;go_wp2_with fail
    go_round
    case rel=>exact ⟨j+1,by omega,by go_num,by rw [HT0.out,HEq.out];exact HP3.out,HK3.out⟩
    case measure=>simp [intOf];omega
  ·have hd:decide (j<ks.length)=false:=decide_eq_false aL;go_wp2_with fail
   go_end0
   exact ⟨rfl,by rw [show (ks.map (out t)).take j=ks.map (out t) from List.take_of_length_le (by rw [List.length_map];omega)] at hp;exact hp,hk2⟩
def gK (n:Nat) (x:Tr):List aJ:=(if x.tx=[] then [] else [(1,x.tx),sp,sg 61,sp])++(x.kids.map (oP n)).getD 0 []
theorem vp (pb:Nat) (k:Int) (t:List UInt8) (l c:Int) (kx:Int) (tx:List UInt8) (lx cx:Int) (ksx:List NM) (ax:Option Addr) (mx:Nat) (a:Option Addr) (m:Nat) (hq:(t == ([]:List UInt8))=false) (IHx:fy 80 pb (fun n=>oP n (NM.mk kx tx lx cx ksx ax mx).tr) (NM.mk kx tx lx cx ksx ax mx)):fy 79 pb (fun n=>gK n (NM.mk k t l c [(NM.mk kx tx lx cx ksx ax mx)] a m).tr) (NM.mk k t l c [(NM.mk kx tx lx cx ksx ax mx)] a m):=by
 intro acc tb w h hh htb aF;change Calls _ _ #[_,aB k t l c (.slice a 1 m)] _ _;obtain ⟨kb,ko,ha,bk,hkw,hkm,hkM,cw⟩:=fc hh (by simp);subst ha;unfold maxLen at hkM;have hkm1:1≤m:=by simpa using hkm
 clear hkm;have Fx:=hid (show dn w kb ko (NM.mk kx tx lx cx ksx ax mx) from cw 0 (by simp));have Hx:=hid (show am (·<pb) w (NM.mk kx tx lx cx ksx ax mx) from ep hh 0 (by simp));clear cw;have HAcc:=hid (show acc++af (gK tb (NM.mk k t l c [(NM.mk kx tx lx cx ksx ax mx)] (some ⟨kb,ko,none⟩) m).tr)=acc++(t++[32,61,32])++af (oP tb (NM.mk kx tx lx cx ksx ax mx).tr) by
  have ht:t≠[]:=by simpa using hq
  rw [aq,ai,ar];unfold gK;rw [show (Tr.mk k t [(NM.mk kx tx lx cx ksx ax mx).tr]).tx=t from rfl,if_neg ht,aQ,aA,aA,aA,aA,eJ];simp [sg,sp,df,Tr.kids]
 )
 have HLn:=hid (show (acc++(t++[32,61,32])++af (oP tb (NM.mk kx tx lx cx ksx ax mx).tr)).length≤140737488355000 by rw [← HAcc.out,lAp];exact aF);have hl_t:t.length≤140737488355000:=by have:=HLn.out;simp only [lAp,lCo] at this;omega
 obtain ⟨w1,hw,ac,hr,hlt1⟩:=an1 w (.cells #[.int .i64 k,.string (bs t),.int .i64 l,.int .i64 c,.slice (some ⟨kb,ko,none⟩) 1 m] 27);have hlt0:=h.lt.2;have HP:=hid (h.below ac);have HK:=hid (PK.of ac (Nat.le_of_lt hlt0));have aG:=hid hr;have cv:w.heap.size≠pb:=by omega
 clear h hh ac hr aF;go_enter Tryz.func79,Tryz.ntmps79
 go_wp2_with fail;rw [← hw.out];clear hw;refine aH (S:=fun W=>W.heap[w.heap.size]? = some (.cells #[.int .i64 k,.string (bs t),.int .i64 l,.int .i64 c,.slice (some ⟨kb,ko,none⟩) 1 m] 27 (0,0))) (by kernel_rfl) ?_;obtain ⟨w2,hw,ac⟩:=dr1 w1;rw [← hw.out];clear hw;have hk:=PK.of ac (Nat.le_of_lt HP.out.lt.2);replace HP:=hid (HP.out.below ac);replace aG:=hid (hk.row aG.out cv (by decide));replace HK:=hid (HK.out.trans hk);clear ac hk;have hS:=aG.out;refine zdA 0 (some 7) (.pointer (some ⟨pb,0,none⟩)) hS ?_
 try simp only [aPu,sA,sB,sC]
 refine zdA 1 (some 8) (.pointer (some ⟨pb,0,none⟩)) hS ?_
 try simp only [aPu,sA,sB,sC]
 refine zdA 2 (some 9) (.pointer (some ⟨pb,0,none⟩)) hS ?_
 try simp only [aPu,sA,sB,sC]
 refine zdA 3 (some 10) (.pointer (some ⟨w.heap.size,1,none⟩)) hS ?_
 try simp only [aPu,sA,sB,sC]
 refine zdD 4 (some 11) (.string (bs t)) hS ?_ (hv:=fun W hW=>by have q:W.cell? ⟨w.heap.size,1,none⟩=some (.string (bs t)):=cRo W _ 1 _ _ _ hW;go_simp)
 try simp only [aPu,sA,sB,sC]
 refine zdD 5 (some 12) (.string (bs (t++[32,61,32]))) hS ?_ (hv:=fun W _=>by first | (go_simp;done) | (go_simp;omega))
 try simp only [aPu,sA,sB,sC]
 refine zdC 6 ?_;intro K hK;go_simp;refine (iz pb (acc) tb ((t++[32,61,32])) _ HP.out (by have:=HLn.out;simp only [lAp,lCo,lNi] at this ⊢;omega)).mono ?_;rintro e w3 ⟨rfl,hp,hk⟩;replace HP:=hid hp;replace aG:=hid (hk.row aG.out cv (by decide));replace HK:=hid (HK.out.trans hk);clear hp hk;go_wp2_with fail;clear hS;have hS:=aG.out;refine hK.out _ _ hS ?_;clear hK K
 try simp only [aPu,sA,sB,sC]
 refine zdH ?_;clear hS;obtain ⟨bJ,bI,bH,bK,bT⟩:=r5 aG.out;obtain ⟨yx0,yx1,yx2,yx3,yx4⟩:=aj (Fx.out.keep (HK.out.below.block kb bk));have hkl:kb<w3.heap.size:=nL hkw HK.out.below.size;go_wp2_with fail;clear bJ bI bH bK bT yx0 yx1 yx2 yx3 yx4 hkl;refine (IHx (acc++(t++[32,61,32])) tb _ HP.out (am.keep (bh HK.out.below) Hx.out) htb (by have:=HLn.out;simp only [lAp,lCo,lNi] at this ⊢;omega)).mono ?_;rintro e w4 ⟨rfl,hp,hk⟩;replace HP:=hid hp;replace aG:=hid (hk.row aG.out cv (by decide));replace HK:=hid (HK.out.trans hk);clear hp hk;go_wp2_with fail
 go_end0
 exact ⟨rfl,by show aO pb pb (acc++af _) tb _;rw [HAcc.out];exact HP.out,HK.out⟩
theorem zaY (pb:Nat) (k:Int) (l c:Int) (kx:Int) (tx:List UInt8) (lx cx:Int) (ksx:List NM) (ax:Option Addr) (mx:Nat) (a:Option Addr) (m:Nat) (IHx:fy 80 pb (fun n=>oP n (NM.mk kx tx lx cx ksx ax mx).tr) (NM.mk kx tx lx cx ksx ax mx)):fy 79 pb (fun n=>gK n (NM.mk k [] l c [(NM.mk kx tx lx cx ksx ax mx)] a m).tr) (NM.mk k [] l c [(NM.mk kx tx lx cx ksx ax mx)] a m):=by
 intro acc tb w h hh htb aF;change Calls _ _ #[_,aB k [] l c (.slice a 1 m)] _ _;obtain ⟨kb,ko,ha,bk,hkw,hkm,hkM,cw⟩:=fc hh (by simp);subst ha;unfold maxLen at hkM;have hkm1:1≤m:=by simpa using hkm
 clear hkm;have Fx:=hid (show dn w kb ko (NM.mk kx tx lx cx ksx ax mx) from cw 0 (by simp));have Hx:=hid (show am (·<pb) w (NM.mk kx tx lx cx ksx ax mx) from ep hh 0 (by simp));clear cw;have HAcc:=hid (show acc++af (gK tb (NM.mk k [] l c [(NM.mk kx tx lx cx ksx ax mx)] (some ⟨kb,ko,none⟩) m).tr)=acc++af (oP tb (NM.mk kx tx lx cx ksx ax mx).tr) by
  show acc++af (gK tb (NM.mk k [] l c [(NM.mk kx tx lx cx ksx ax mx)] _ m).tr)=_;rw [aq,ai,ar];rfl
 )
 have HLn:=hid (show (acc++af (oP tb (NM.mk kx tx lx cx ksx ax mx).tr)).length≤140737488355000 by rw [← HAcc.out,lAp];exact aF);obtain ⟨w1,hw,ac,hr,hlt1⟩:=an1 w (.cells #[.int .i64 k,.string (bs []),.int .i64 l,.int .i64 c,.slice (some ⟨kb,ko,none⟩) 1 m] 27);have hlt0:=h.lt.2;have HP:=hid (h.below ac);have HK:=hid (PK.of ac (Nat.le_of_lt hlt0));have aG:=hid hr;have cv:w.heap.size≠pb:=by omega
 clear h hh ac hr aF;obtain ⟨yx0,yx1,yx2,yx3,yx4⟩:=aj Fx.out;go_enter Tryz.func79,Tryz.ntmps79
 go_wp2_with fail;rw [← hw.out];clear hw;clear yx0 yx1 yx2 yx3 yx4;refine (IHx (acc) tb _ HP.out (am.keep (bh HK.out.below) Hx.out) htb (by have:=HLn.out;simp only [lAp] at this ⊢;omega)).mono ?_;rintro e w2 ⟨rfl,hp,hk⟩;replace HP:=hid hp;replace aG:=hid (hk.row aG.out cv (by decide));replace HK:=hid (HK.out.trans hk);clear hp hk;go_wp2_with fail
 go_end0
 exact ⟨rfl,by show aO pb pb (acc++af _) tb _;rw [HAcc.out];exact HP.out,HK.out⟩
theorem nM {w:World} {b o:Nat} {k l c:Int} {t:List UInt8} {ks:List NM} {a:Option Addr} {m:Nat} (h:dn w b o (.mk k t l c ks a m)):w.rangeAt b o [.int .i64 k,.string (bs t),.int .i64 l,.int .i64 c,.slice a ks.length m]:=by
 intro j u hu
 match j,hu with
 | 0,hu=>simp at hu;subst hu;exact h.c0
 | 1,hu=>simp at hu;subst hu;exact h.c1
 | 2,hu=>simp at hu;subst hu;exact h.c2
 | 3,hu=>simp at hu;subst hu;exact h.c3
 | 4,hu=>simp at hu;subst hu;exact h.c4
theorem zbi (pb:Nat) (t:List UInt8) (l c:Int) (kx:Int) (tx:List UInt8) (lx cx:Int) (ksx:List NM) (ax:Option Addr) (mx:Nat) (a:Option Addr) (m:Nat) :fy 83 pb (fun n=>oP n (NM.mk 7 t l c [(NM.mk kx tx lx cx ksx ax mx)] a m).tr) (NM.mk 7 t l c [(NM.mk kx tx lx cx ksx ax mx)] a m):=by
 intro acc tb w h hh htb aF;change Calls _ _ #[_,aB 7 t l c (.slice a 1 m)] _ _;obtain ⟨kb,ko,ha,bk,hkw,hkm,hkM,cw⟩:=fc hh (by simp);subst ha;unfold maxLen at hkM;have hkm1:1≤m:=by simpa using hkm
 clear hkm;have Fx:=hid (show dn w kb ko (NM.mk kx tx lx cx ksx ax mx) from cw 0 (by simp));have Hx:=hid (show am (·<pb) w (NM.mk kx tx lx cx ksx ax mx) from ep hh 0 (by simp));clear cw;have HAcc:=hid (show acc++af (oP tb (NM.mk 7 t l c [(NM.mk kx tx lx cx ksx ax mx)] (some ⟨kb,ko,none⟩) m).tr)=acc++(t++58::32::tx) by
  rw [aq,bP,ai,ar];rw [c8];show acc++af (es tb 7 t _ _)=_;unfold es;simp [af,sg,sp,df,bD,Tr.top,aq]
 )
 have HLn:=hid (show (acc++(t++58::32::tx)).length≤140737488355000 by rw [← HAcc.out,lAp];exact aF);have hl_t:t.length≤140737488355000:=by have:=HLn.out;simp only [lAp,lCo] at this;omega
 have hl_tx:tx.length≤140737488355000:=by have:=HLn.out;simp only [lAp,lCo] at this;omega
 obtain ⟨w1,hw,ac,hr,hlt1⟩:=an1 w (.cells #[.int .i64 7,.string (bs t),.int .i64 l,.int .i64 c,.slice (some ⟨kb,ko,none⟩) 1 m] 27);have hlt0:=h.lt.2;have HP:=hid (h.below ac);have HK:=hid (PK.of ac (Nat.le_of_lt hlt0));have aG:=hid hr;have cv:w.heap.size≠pb:=by omega
 clear h hh ac hr aF;go_enter Tryz.func83,Tryz.ntmps83
 go_wp2_with fail;rw [← hw.out];clear hw;refine aH (S:=fun W=>W.heap[w.heap.size]? = some (.cells #[.int .i64 7,.string (bs t),.int .i64 l,.int .i64 c,.slice (some ⟨kb,ko,none⟩) 1 m] 27 (0,0))∧dn W kb ko (NM.mk kx tx lx cx ksx ax mx)) (by kernel_rfl) ?_;obtain ⟨w2,hw,ac⟩:=dr1 w1;rw [← hw.out];clear hw;have hk:=PK.of ac (Nat.le_of_lt HP.out.lt.2);replace HP:=hid (HP.out.below ac);replace aG:=hid (hk.row aG.out cv (by decide));replace HK:=hid (HK.out.trans hk);clear ac hk;have hS:=And.intro (aG.out) (Fx.out.keep (HK.out.below.block kb bk));refine zdA 0 (some 4) (.pointer (some ⟨pb,0,none⟩)) hS ?_
 try simp only [aPu,sA,sB,sC]
 refine zdA 1 (some 5) (.pointer (some ⟨pb,0,none⟩)) hS ?_
 try simp only [aPu,sA,sB,sC]
 refine zdA 2 (some 6) (.pointer (some ⟨pb,0,none⟩)) hS ?_
 try simp only [aPu,sA,sB,sC]
 refine zdA 3 (some 7) (.pointer (some ⟨w.heap.size,1,none⟩)) hS ?_
 try simp only [aPu,sA,sB,sC]
 refine zdD 4 (some 8) (.string (bs t)) hS ?_ (hv:=fun W hW=>by have q:W.cell? ⟨w.heap.size,1,none⟩=some (.string (bs t)):=cRo W _ 1 _ _ _ hW.1;go_simp)
 try simp only [aPu,sA,sB,sC]
 refine zdD 5 (some 9) (.string (bs (t++[58,32]))) hS ?_ (hv:=fun W _=>by first | (go_simp;done) | (go_simp;omega))
 try simp only [aPu,sA,sB,sC]
 refine zdA 6 (some 10) (.pointer (some ⟨w.heap.size,4,none⟩)) hS ?_
 try simp only [aPu,sA,sB,sC]
 refine zdD 7 (some 11) (.slice (some ⟨kb,ko,none⟩) 1 m) hS ?_ (hv:=fun W hW=>by have q:W.cell? ⟨w.heap.size,4,none⟩=some (.slice (some ⟨kb,ko,none⟩) 1 m):=cRo W _ 4 _ _ _ hW.1;go_simp)
 try simp only [aPu,sA,sB,sC]
 refine zdD 8 (some 12) (.pointer (some ⟨kb,ko,none⟩)) hS ?_ (hv:=fun W _=>by go_simp)
 try simp only [aPu,sA,sB,sC]
 refine zdA 9 (some 13) (.pointer (some ⟨kb,ko+1,none⟩)) hS ?_
 try simp only [aPu,sA,sB,sC]
 refine zdD 10 (some 14) (.string (bs tx)) hS ?_ (hv:=fun W hW=>by have q:W.cell? ⟨kb,ko+1,none⟩=some (.string (bs tx)):=(hW.2).c1;go_simp)
 try simp only [aPu,sA,sB,sC]
 refine zdD 11 (some 15) (.string (bs (t++58::32::tx))) hS ?_ (hv:=fun W _=>by first | (go_simp;done) | (go_simp;omega))
 try simp only [aPu,sA,sB,sC]
 refine zdC 12 ?_;intro K hK;go_simp;refine (iz pb (acc) tb ((t++58::32::tx)) _ HP.out (by have:=HLn.out;simp only [lAp,lCo] at this ⊢;omega)).mono ?_;rintro e w3 ⟨rfl,hp,hk⟩;replace HP:=hid hp;replace aG:=hid (hk.row aG.out cv (by decide));replace HK:=hid (HK.out.trans hk);clear hp hk;go_wp2_with fail;clear hS;have hS:=And.intro (aG.out) (Fx.out.keep (HK.out.below.block kb bk));refine hK.out _ _ hS ?_;clear hK K
 try simp only [aPu,sA,sB,sC]
 refine zdH ?_;clear hS;obtain ⟨bJ,bI,bH,bK,bT⟩:=r5 aG.out;obtain ⟨yx0,yx1,yx2,yx3,yx4⟩:=aj (Fx.out.keep (HK.out.below.block kb bk));have hkl:kb<w3.heap.size:=nL hkw HK.out.below.size;go_wp2_with fail;clear bJ bI bH bK bT yx0 yx1 yx2 yx3 yx4 hkl
 go_end0
 exact ⟨rfl,by show aO pb pb (acc++af _) tb _;rw [HAcc.out];exact HP.out,HK.out⟩
theorem zaD (pb:Nat) (t:List UInt8) (l c:Int) (kx:Int) (tx:List UInt8) (lx cx:Int) (ksx:List NM) (ax:Option Addr) (mx:Nat) (ky:Int) (ty:List UInt8) (ly cy:Int) (ksy:List NM) (ay:Option Addr) (my:Nat) (a:Option Addr) (m:Nat) (IHy:fy 80 pb (fun n=>oP n (NM.mk ky ty ly cy ksy ay my).tr) (NM.mk ky ty ly cy ksy ay my)):fy 83 pb (fun n=>oP n (NM.mk 7 t l c [(NM.mk kx tx lx cx ksx ax mx),(NM.mk ky ty ly cy ksy ay my)] a m).tr) (NM.mk 7 t l c [(NM.mk kx tx lx cx ksx ax mx),(NM.mk ky ty ly cy ksy ay my)] a m):=by
 intro acc tb w h hh htb aF;change Calls _ _ #[_,aB 7 t l c (.slice a 2 m)] _ _;obtain ⟨kb,ko,ha,bk,hkw,hkm,hkM,cw⟩:=fc hh (by simp);subst ha;unfold maxLen at hkM;have hkm1:2≤m:=by simpa using hkm
 clear hkm;have Fx:=hid (show dn w kb ko (NM.mk kx tx lx cx ksx ax mx) from cw 0 (by simp));have Hx:=hid (show am (·<pb) w (NM.mk kx tx lx cx ksx ax mx) from ep hh 0 (by simp));have Fy:=hid (show dn w kb (ko+5) (NM.mk ky ty ly cy ksy ay my) from cw 1 (by simp));have Hy:=hid (show am (·<pb) w (NM.mk ky ty ly cy ksy ay my) from ep hh 1 (by simp));clear cw;have HAcc:=hid (show acc++af (oP tb (NM.mk 7 t l c [(NM.mk kx tx lx cx ksx ax mx),(NM.mk ky ty ly cy ksy ay my)] (some ⟨kb,ko,none⟩) m).tr)=acc++(t++58::32::tx)++[32,61,32]++af (oP tb (NM.mk ky ty ly cy ksy ay my).tr) by
  rw [aq,bP,ai,ai,ar];rw [c8];show acc++af (es tb 7 t _ _)=_;unfold es;simp [af,sg,sp,df,bD,Tr.top,aq]
 )
 have HLn:=hid (show (acc++(t++58::32::tx)++[32,61,32]++af (oP tb (NM.mk ky ty ly cy ksy ay my).tr)).length≤140737488355000 by rw [← HAcc.out,lAp];exact aF);have hl_t:t.length≤140737488355000:=by have:=HLn.out;simp only [lAp,lCo] at this;omega
 have hl_tx:tx.length≤140737488355000:=by have:=HLn.out;simp only [lAp,lCo] at this;omega
 obtain ⟨w1,hw,ac,hr,hlt1⟩:=an1 w (.cells #[.int .i64 7,.string (bs t),.int .i64 l,.int .i64 c,.slice (some ⟨kb,ko,none⟩) 2 m] 27);have hlt0:=h.lt.2;have HP:=hid (h.below ac);have HK:=hid (PK.of ac (Nat.le_of_lt hlt0));have aG:=hid hr;have cv:w.heap.size≠pb:=by omega
 clear h hh ac hr aF;go_enter Tryz.func83,Tryz.ntmps83
 go_wp2_with fail;rw [← hw.out];clear hw;refine aH (S:=fun W=>W.heap[w.heap.size]? = some (.cells #[.int .i64 7,.string (bs t),.int .i64 l,.int .i64 c,.slice (some ⟨kb,ko,none⟩) 2 m] 27 (0,0))∧dn W kb ko (NM.mk kx tx lx cx ksx ax mx)) (by kernel_rfl) ?_;obtain ⟨w2,hw,ac⟩:=dr1 w1;rw [← hw.out];clear hw;have hk:=PK.of ac (Nat.le_of_lt HP.out.lt.2);replace HP:=hid (HP.out.below ac);replace aG:=hid (hk.row aG.out cv (by decide));replace HK:=hid (HK.out.trans hk);clear ac hk;have hS:=And.intro (aG.out) (Fx.out.keep (HK.out.below.block kb bk));refine zdA 0 (some 4) (.pointer (some ⟨pb,0,none⟩)) hS ?_
 try simp only [aPu,sA,sB,sC]
 refine zdA 1 (some 5) (.pointer (some ⟨pb,0,none⟩)) hS ?_
 try simp only [aPu,sA,sB,sC]
 refine zdA 2 (some 6) (.pointer (some ⟨pb,0,none⟩)) hS ?_
 try simp only [aPu,sA,sB,sC]
 refine zdA 3 (some 7) (.pointer (some ⟨w.heap.size,1,none⟩)) hS ?_
 try simp only [aPu,sA,sB,sC]
 refine zdD 4 (some 8) (.string (bs t)) hS ?_ (hv:=fun W hW=>by have q:W.cell? ⟨w.heap.size,1,none⟩=some (.string (bs t)):=cRo W _ 1 _ _ _ hW.1;go_simp)
 try simp only [aPu,sA,sB,sC]
 refine zdD 5 (some 9) (.string (bs (t++[58,32]))) hS ?_ (hv:=fun W _=>by first | (go_simp;done) | (go_simp;omega))
 try simp only [aPu,sA,sB,sC]
 refine zdA 6 (some 10) (.pointer (some ⟨w.heap.size,4,none⟩)) hS ?_
 try simp only [aPu,sA,sB,sC]
 refine zdD 7 (some 11) (.slice (some ⟨kb,ko,none⟩) 2 m) hS ?_ (hv:=fun W hW=>by have q:W.cell? ⟨w.heap.size,4,none⟩=some (.slice (some ⟨kb,ko,none⟩) 2 m):=cRo W _ 4 _ _ _ hW.1;go_simp)
 try simp only [aPu,sA,sB,sC]
 refine zdD 8 (some 12) (.pointer (some ⟨kb,ko,none⟩)) hS ?_ (hv:=fun W _=>by go_simp)
 try simp only [aPu,sA,sB,sC]
 refine zdA 9 (some 13) (.pointer (some ⟨kb,ko+1,none⟩)) hS ?_
 try simp only [aPu,sA,sB,sC]
 refine zdD 10 (some 14) (.string (bs tx)) hS ?_ (hv:=fun W hW=>by have q:W.cell? ⟨kb,ko+1,none⟩=some (.string (bs tx)):=(hW.2).c1;go_simp)
 try simp only [aPu,sA,sB,sC]
 refine zdD 11 (some 15) (.string (bs (t++58::32::tx))) hS ?_ (hv:=fun W _=>by first | (go_simp;done) | (go_simp;omega))
 try simp only [aPu,sA,sB,sC]
 refine zdC 12 ?_;intro K hK;go_simp;refine (iz pb (acc) tb ((t++58::32::tx)) _ HP.out (by have:=HLn.out;simp only [lAp,lCo,lNi] at this ⊢;omega)).mono ?_;rintro e w3 ⟨rfl,hp,hk⟩;replace HP:=hid hp;replace aG:=hid (hk.row aG.out cv (by decide));replace HK:=hid (HK.out.trans hk);clear hp hk;go_wp2_with fail;clear hS;have hS:=And.intro (aG.out) (Fx.out.keep (HK.out.below.block kb bk));refine hK.out _ _ hS ?_;clear hK K
 try simp only [aPu,sA,sB,sC]
 refine zdH ?_;clear hS;obtain ⟨bJ,bI,bH,bK,bT⟩:=r5 aG.out;obtain ⟨yx0,yx1,yx2,yx3,yx4⟩:=aj (Fx.out.keep (HK.out.below.block kb bk));obtain ⟨yy0,yy1,yy2,yy3,yy4⟩:=aj (Fy.out.keep (HK.out.below.block kb bk));have hkl:kb<w3.heap.size:=nL hkw HK.out.below.size;go_wp2_with fail;clear bJ bI bH bK bT yx0 yx1 yx2 yx3 yx4 yy0 yy1 yy2 yy3 yy4 hkl;refine (iz pb (acc++(t++58::32::tx)) tb ([32,61,32]) _ HP.out (by have:=HLn.out;simp only [lAp,lCo,lNi] at this ⊢;omega)).mono ?_;rintro e w4 ⟨rfl,hp,hk⟩;replace HP:=hid hp;replace aG:=hid (hk.row aG.out cv (by decide));replace HK:=hid (HK.out.trans hk);clear hp hk;obtain ⟨bJ,bI,bH,bK,bT⟩:=r5 aG.out;obtain ⟨yx0,yx1,yx2,yx3,yx4⟩:=aj (Fx.out.keep (HK.out.below.block kb bk));obtain ⟨yy0,yy1,yy2,yy3,yy4⟩:=aj (Fy.out.keep (HK.out.below.block kb bk));have hkl:kb<w4.heap.size:=nL hkw HK.out.below.size;go_wp2_with fail;clear bJ bI bH bK bT yx0 yx1 yx2 yx3 yx4 yy0 yy1 yy2 yy3 yy4 hkl;refine (IHy (acc++(t++58::32::tx)++[32,61,32]) tb _ HP.out (am.keep (bh HK.out.below) Hy.out) htb (by have:=HLn.out;simp only [lAp,lCo,lNi] at this ⊢;omega)).mono ?_;rintro e w5 ⟨rfl,hp,hk⟩;replace HP:=hid hp;replace aG:=hid (hk.row aG.out cv (by decide));replace HK:=hid (HK.out.trans hk);clear hp hk;go_wp2_with fail
 go_end0
 exact ⟨rfl,by show aO pb pb (acc++af _) tb _;rw [HAcc.out];exact HP.out,HK.out⟩
theorem jW (pb:Nat) (b:Bool) (k:Int) (t:List UInt8) (l c:Int) (ks:List NM) (a:Option Addr) (m:Nat) (acc:List UInt8) (tb:Nat) (w:World) (h:aO pb pb acc tb w) (hh:am (·<pb) w (.mk k t l c ks a m)) (htb:tb≤100000)
  (aF:acc.length+(af (brk b (oP tb (NM.mk k t l c ks a m).tr))).length≤140737488355000) (IH:fy 80 pb (fun n=>oP n (NM.mk k t l c ks a m).tr) (.mk k t l c ks a m)) :
  Calls Tryz.prog 116 #[.pointer (some ⟨pb,0,none⟩),aB k t l c (.slice a ks.length m),.bool b] w fun e w'=>e=.returned (.tuple #[])∧aO pb pb (acc++af (brk b (oP tb (NM.mk k t l c ks a m).tr))) tb w'∧PK pb w w':=by
 have hlt0:=h.lt.2;obtain ⟨w1,hw,ac,hr,hlt1⟩:=an1 w (.cells #[.int .i64 k,.string (bs t),.int .i64 l,.int .i64 c,.slice a ks.length m] 27);have HP:=hid (h.below ac);have HK:=hid (PK.of ac (Nat.le_of_lt hlt0));have HH:=hid (am.keep (bh (ac.mono (Nat.le_of_lt hlt0))) hh);have HR:=hid hr;have cv:w.heap.size≠pb:=by omega
 have HI:=hid IH;clear h hh ac hr IH;cases b with
 | false =>
   have HLn:=hid (show acc.length+(af (oP tb (NM.mk k t l c ks a m).tr)).length≤140737488355000 from aF);have HO:=hid (show acc++af (brk false (oP tb (NM.mk k t l c ks a m).tr))=acc++af (oP tb (NM.mk k t l c ks a m).tr) from rfl);clear aF;go_enter Tryz.func116,Tryz.ntmps116
   go_wp2_with fail;rw [← hw.out];clear hw;refine (HI.out acc tb w1 HP.out HH.out htb HLn.out).mono ?_;rintro e w2 ⟨rfl,hp,hk⟩;have HP2:=hid hp;have HK2:=hid (HK.out.trans hk);clear hp hk;go_wp2_with fail
   go_end0
   exact ⟨rfl,by rw [HO.out];exact HP2.out,HK2.out⟩
 | true =>
   have HO:=hid (show acc++af (brk true (oP tb (NM.mk k t l c ks a m).tr))=acc++[40]++af (oP tb (NM.mk k t l c ks a m).tr)++[41] by
    unfold brk;rw [if_pos rfl,aA,aQ];simp [sg,df,af])
   have HLn:=hid (show (acc++[40]++af (oP tb (NM.mk k t l c ks a m).tr)++[41]).length≤140737488355000 by rw [← HO.out,lAp];exact aF);clear aF;go_enter Tryz.func116,Tryz.ntmps116
   go_wp2_with fail;rw [← hw.out];clear hw;refine (iJ pb acc tb 40 _ HP.out (by have:=HLn.out;simp only [lAp,lCo,lNi] at this ⊢;omega)).mono ?_;rintro e w2 ⟨rfl,hp,hk⟩;have HP2:=hid hp;have HR2:=hid (hk.row HR.out cv (by decide));have HH2:=hid (am.keep (bh hk.below) HH.out);have HK2:=hid (HK.out.trans hk);clear hp hk HP HR HH HK;obtain ⟨z0,z1,z2,z3,z4⟩:=r5 HR2.out;go_wp2_with fail;clear z0 z1 z2 z3 z4;refine (HI.out (acc++[40]) tb w2 HP2.out HH2.out htb (by have:=HLn.out;simp only [lAp,lCo,lNi] at this ⊢;omega)).mono ?_;rintro e w3 ⟨rfl,hp,hk⟩;have HP3:=hid hp;have HK3:=hid (HK2.out.trans hk);clear hp hk;go_wp2_with fail;refine (iJ pb (acc++[40]++af (oP tb (NM.mk k t l c ks a m).tr)) tb 41 _ HP3.out (by have:=HLn.out;simp only [lAp,lCo,lNi] at this ⊢;omega)).mono ?_;rintro e w4 ⟨rfl,hp,hk⟩;have HP4:=hid hp;have HK4:=hid (HK3.out.trans hk);clear hp hk;go_wp2_with fail
   go_end0
   exact ⟨rfl,by rw [HO.out];exact HP4.out,HK4.out⟩
end Go.Proofs.YtfgiihpopngbkaaGreatDoor
