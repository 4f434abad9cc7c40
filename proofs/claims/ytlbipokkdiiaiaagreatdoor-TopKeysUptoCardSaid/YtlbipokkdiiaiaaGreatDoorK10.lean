/- Lemmas for TopKeysUpto: OwnAt, ShaWhole, ShaAdd, ShaDig, ShaHSum, ShaTop, W29, W39, W10, W20, W21, W22, W24. -/
import Derived.Test.YtlbipokkdiiaiaaGreatDoorK01
import Derived.Lib.AppendStr
import Derived.Test.YtlbipokkdiiaiaaGreatDoorK08
import Derived.Test.YtlbipokkdiiaiaaGreatDoorK09
import Derived.Test.YtlbipokkdiiaiaaGreatDoorChecked
import Derived.Laws.Tables
import Derived.Laws.Rows
import Derived.Test.YtlbipokkdiiaiaaGreatDoorK06
namespace Go.Proofs.YtlbipokkdiiaiaaGreatDoor
set_option maxRecDepth 100000
open Go.RowKit
def aZ (w:World) (base:Nat) (e:TypeId) (v:Value) (n:Nat) (xs:List Value):Prop:=
 xs.length=n∧((v=.slice none 0 0∧n=0)∨∃g off cap cur fz,v=.slice (some ⟨g,off,none⟩) n cap∧base≤g∧w.heap[g]?=some (.cells cur e fz)∧
  (∀j,j<cur.size→¬(fz.1≤j∧j<fz.2))∧n≤cap∧cap≤maxLen∧off+cap≤cur.size∧(cur.toList.drop off).take n=xs)
section
variable {w w':World} {base:Nat} {e:TypeId} {v:Value} {n:Nat} {xs:List Value}
theorem aZ.nil (w:World) (base:Nat) (e:TypeId):aZ w base e (.slice none 0 0) 0 []:=⟨rfl,.inl ⟨rfl,rfl⟩⟩
theorem aZ.of_owns (h:w.ownsRow base e 1 v n xs):aZ w base e v n xs:=by
 refine⟨by have:=h.1;omega,?_⟩
 rcases h.2 with hn|⟨g,cap,cur,hv,hb,hg,h1,h2,h3,h4⟩
 ·exact .inl hn
 ·exact .inr ⟨g,0,cap,cur,(0,0),hv,hb,hg,fun j _ h=>by have:=h.2;omega,h1,h2,by omega,by rw[Nat.mul_one] at h4;exact h4⟩
theorem aZ.lt (h:aZ w base e v n xs):∀k,v.ownBlock=some k→base≤k∧k<w.heap.size:=by
 intro k hk
 rcases h.2 with⟨rfl,_⟩|⟨g,off,cap,cur,fz,rfl,hb,hg,_⟩
 ·simp[Value.ownBlock] at hk
 ·simp[Value.ownBlock] at hk
  subst hk
  exact⟨hb,(Array.getElem?_eq_some_iff.1 hg).1⟩
theorem aZ.same (h:aZ w base e v n xs) (hk:∀k,v.ownBlock=some k→w'.heap[k]?=w.heap[k]?):aZ w' base e v n xs:=by
 refine⟨h.1,?_⟩
 rcases h.2 with hn|⟨g,off,cap,cur,fz,rfl,hb,hgg,rest⟩
 ·exact .inl hn
 ·exact .inr ⟨g,off,cap,cur,fz,rfl,hb,by rw[hk g rfl];exact hgg,rest⟩
theorem aZ.below (h:aZ w base e v n xs) (hb:Below w.heap.size w w'):aZ w' base e v n xs:=h.same fun k hk=>hb.block k (h.lt k hk).2
theorem aZ.alloc (h:aZ w base e v n xs) (o:Obj):aZ (w.alloc o) base e v n xs:=h.below (ab w o)
theorem aZ.form (h:aZ w base e v n xs):∃a c,v=.slice a n c∧n≤c∧c≤maxLen:=by
 rcases h.2 with⟨rfl,rfl⟩|⟨g,off,cap,cur,fz,rfl,_,_,_,h1,h2,_⟩
 ·exact⟨none,0,rfl,Nat.le_refl _,Nat.zero_le _⟩
 ·exact⟨_,cap,rfl,h1,h2⟩
theorem aZ.cells {g off cap:Nat} (h:aZ w base e (.slice (some ⟨g,off,none⟩) n cap) n xs):∀j u,xs[j]?=some u→w.cell? ⟨g,off+j,none⟩=some u:=by
 intro j u hu
 rcases h.2 with⟨h1,_⟩|⟨g',off',cap',cur,fz,hv,_,hgg,_,_,_,_,ht⟩
 ·cases h1
 ·injection hv with h1 h2 h3
  injection h1 with h1
  injection h1 with h1 h4 h5
  subst h1 h4 h3
  rw[cell_of_row w g (off+j) cur e fz hgg]
  rw[←ht,List.getElem?_take] at hu
  split at hu
  ·rw[List.getElem?_drop] at hu;simpa using hu
  ·cases hu
theorem aZ.sliceAt (h:aZ w base e v n xs):ap w 1 v n xs:=by
 refine⟨by rw[h.1];omega,?_⟩
 rcases h.2 with⟨rfl,rfl⟩|⟨g,off,cap,cur,fz,rfl,hb,hgg,hf,h1,h2,h3,ht⟩
 ·exact⟨none,0,rfl,Nat.le_refl _,Nat.zero_le _,fun _=>rfl,fun hne=>absurd (List.eq_nil_of_length_eq_zero h.1) hne⟩
 ·exact⟨_,cap,rfl,h1,h2,fun h=>(by cases h),fun _=>⟨g,off,rfl,(Array.getElem?_eq_some_iff.1 hgg).1,h.cells⟩⟩
theorem aZ.cut {a:Option Addr} {cap:Nat} (h:aZ w base e (.slice a n cap) n xs) {k:Nat} (hk:k≤n):
 aZ w base e (.slice (if cap=k then a else a.map (·.add k)) (n-k) (cap-k)) (n-k) (xs.drop k):=by
 refine⟨by rw[List.length_drop,h.1],?_⟩
 rcases h.2 with⟨hv,rfl⟩|⟨g,off,cap',cur,fz,hv,hb,hgg,hf,h1,h2,h3,ht⟩
 ·injection hv with h1 h2 h3
  subst h1 h3
  obtain rfl:k=0:=by omega
  exact .inl ⟨by simp,by omega⟩
 ·injection hv with e1 e2 e3
  subst e1 e3
  refine .inr ?_
  by_cases hck:cap=k
  ·rw[if_pos hck]
   refine⟨g,off,cap-k,cur,fz,rfl,hb,hgg,hf,by omega,by omega,by omega,?_⟩
   rw[show n-k=0 by omega,List.take_zero]
   rw[List.drop_eq_nil_of_le (by rw[h.1];omega)]
  ·rw[if_neg hck]
   have hadd:(⟨g,off,none⟩:Addr).add k=⟨g,off+k,none⟩:=by unfold Addr.add;split<;>simp_all
   refine⟨g,off+k,cap-k,cur,fz,by simp[hadd],hb,hgg,hf,by omega,by omega,by omega,?_⟩
   rw[←ht,List.drop_take,List.drop_drop]
end
theorem dH (P:Program) (g o:Nat) (t:TypeId) (fz:Nat×Nat):∀(vs:List Value) (i:Nat) (cur:Array Value) (w:World),w.heap[g]?=some (.cells cur t fz)→(∀j,j<cur.size→¬(fz.1≤j∧j<fz.2))→o+i+vs.length≤cur.size→(∀v∈vs,v.oneCell'=true)→
 (storeCells ⟨g,o,none⟩ vs i).run P w=.ok () (w.setRow g (cur.toList.take (o+i)++vs++cur.toList.drop (o+i+vs.length)).toArray)
 |[],i,cur,w,hg,_,_,_=>by
  simp only[storeCells,List.append_nil,List.length_nil,Nat.add_zero,List.take_append_drop,Array.toArray_toList]
  rw[setRow_self w g cur t fz hg]
  rfl
 |v::rest,i,cur,w,hg,hfz,hl,h1=>by
  have hi:o+i<cur.size:=by simp at hl;omega
  have hadd:(⟨g,o,none⟩:Addr).add i=⟨g,o+i,none⟩:=by unfold Addr.add;split<;>simp_all
  have hcell:w.cell? ⟨g,o+i,none⟩=some cur[o+i]:=by simp[World.cell?,hg,hi]
  have hfro:w.frozen? ⟨g,o+i,none⟩=false:=by
   obtain⟨lo,hi'⟩:=fz
   have:=hfz (o+i) hi
   simp only[World.frozen?,hg,Bool.and_eq_false_iff,decide_eq_false_iff_not]
   simp only at this
   omega
  have hst:(store ((⟨g,o,none⟩:Addr).add i) v).run P w=.ok () (w.setRow g (cur.setIfInBounds (o+i) v)):=by
   rw[hadd,run_store P w _ v _ (h1 v (by simp)),hcell]
   simp[hfro,setCell_eq_setRow w g (o+i) cur t fz v hg]
  have ih:=dH P g o t fz rest (i+1) (cur.setIfInBounds (o+i) v) (w.setRow g (cur.setIfInBounds (o+i) v)) (setRow_heap w g cur _ t _ hg) (by simpa using hfz) (by simp at hl ⊢;omega) (fun x hx=>h1 x (by simp[hx]))
  simp only[storeCells,Sem.run_bind,hst,Result.andThen_ok,ih,setRow_setRow]
  congr 3
  have e:=list_seg_step cur.toList (o+i) v rest (by simp at hl ⊢;omega)
  simpa[Array.toList_setIfInBounds,Nat.add_assoc] using e
section
variable {P:Program} (w:World)
theorem aZ.room {base:Nat} {e:TypeId} {n:Nat} {xs:List Value} {g off cap:Nat} {cur:Array Value} {fz:Nat×Nat} (hl:xs.length=n) (hb:base≤g) (hg:w.heap[g]?=some (.cells cur e fz)) (hf:∀j,j<cur.size→¬(fz.1≤j∧j<fz.2))
 (hcm:cap≤maxLen) (hoc:off+cap≤cur.size) (ht:(cur.toList.drop off).take n=xs) (news:List Value) (hroom:n+news.length≤cap):
 aZ (w.setRow g (cur.toList.take (off+n)++news++cur.toList.drop (off+n+news.length)).toArray) base e (.slice (some ⟨g,off,none⟩) (n+news.length) cap) (n+news.length) (xs++news)∧
  w.grownBy (w.setRow g (cur.toList.take (off+n)++news++cur.toList.drop (off+n+news.length)).toArray) (some g):=by
 have hz:(cur.toList.take (off+n)++news++cur.toList.drop (off+n+news.length)).toArray.size=cur.size:=by
  simp only[List.size_toArray,List.length_append,List.length_take,List.length_drop,Array.length_toList];omega
 refine⟨⟨by rw[List.length_append,hl],.inr ⟨g,off,cap,_,fz,rfl,hb,setRow_heap w g cur _ e _ hg,by rw[hz];exact hf,hroom,hcm,by rw[hz];exact hoc,?_⟩⟩,⟨rfl,rfl,rfl,by simp,fun k _ hk=>setRow_other w g k _ (fun e=>hk (by rw[e]))⟩⟩
 rw[List.append_assoc,List.drop_append_of_le_length (by simp;omega),List.drop_take,show off+n-off=n by omega,ht,←List.append_assoc]
 exact List.take_left' (by rw[List.length_append,hl])
theorem aZ.grown {base:Nat} {e:TypeId} {n:Nat} {xs:List Value} (hl:xs.length=n) (news:List Value) (z:Value) (hz:z.cells.size=1) (h63:n+news.length≤maxLen) (hbase:base≤w.heap.size) (old:Nat) (row:Option Nat):
 aZ (w.drew.alloc (.cells (xs.toArray++news.toArray++Builtin.zeroCells z.cells (grownCap w (n+news.length) old e-(n+news.length))) e)) base e
  (.slice (some ⟨w.heap.size,0,none⟩) (n+news.length) (grownCap w (n+news.length) old e)) (n+news.length) (xs++news)∧
  w.grownBy (w.drew.alloc (.cells (xs.toArray++news.toArray++Builtin.zeroCells z.cells (grownCap w (n+news.length) old e-(n+news.length))) e)) row:=by
 have hge:=grownCap_ge w (n+news.length) old e
 have hcm:grownCap w (n+news.length) old e≤maxLen:=grownCap_le_maxLen w (n+news.length) old e h63
 refine⟨⟨by rw[List.length_append,hl],.inr ⟨w.heap.size,0,_,_,(0,0),rfl,hbase,heap_alloc_new w.drew _,fun j _ h=>by have:=h.2;omega,hge,hcm,?_,?_⟩⟩,⟨rfl,rfl,rfl,by simp,fun k hk _=>Below.heap_alloc w.drew _ k hk⟩⟩
 ·simp only[Array.size_append,List.size_toArray,size_zeroCells,hz,hl];omega
 ·simp only[List.drop_zero,Array.toList_append,List.append_assoc]
  rw[←List.append_assoc]
  exact List.take_left' (by rw[List.length_append,hl])
theorem pN (base:Nat) (t ty e:TypeId) (i:TypeInfo) (z:Value) (bytes:Nat) (ht:P.underlying t=some (.slice e)) (hi:P.info? e=some i) (hz:i.zero=some z)
 (hsize:i.size=1) (hby:i.bytes=bytes) (hzs:z.cells.size=1)
 (v:Value) (n:Nat) (xs:List Value) (hown:aZ w base e v n xs)
 (a:Addr) (m c:Nat) (news:List Value) (hl:news.length=m) (hnews:∀j u,news[j]?=some u→w.cell? (a.add j)=some u) (h1:∀u∈news,u.oneCell'=true)
 (h63:n+m≤maxLen) (hbytes:(n+m)*bytes≤140737488355328) (hbase:base≤w.heap.size):
 ∃v' w',(Builtin.append_ #[t,t] ty #[v,.slice (some a) m c]).run P w=.ok v' w'∧aZ w' base e v' (n+m) (xs++news)∧w.grownBy w' v.ownBlock:=by
 subst hl
 have hsmall:n+news.length≤9223372036854775807:=by simp only[maxLen] at h63;omega
 rcases hown.2 with⟨rfl,rfl⟩|⟨g,off,cap,cur,fz,rfl,hbg,hg,hf,hnc,hcm,hcs,htake⟩
 ·have hx:xs=[]:=List.eq_nil_of_length_eq_zero hown.1
  subst hx
  obtain⟨v',w',r1,r2,r3,_⟩:=run_append_own (P:=P) w base t ty e i z 1 bytes ht hi hz hsize hby hzs (by decide) (.slice none 0 0) 0 [] (World.ownsRow_nil w _ e 1) a news.length c news (by omega) hnews h1 h63 hbytes hbase
  exact⟨v',w',r1,aZ.of_owns r2,r3⟩
 ·by_cases hroom:n+news.length≤cap
  ·have hfc:=run_firstCells_some (P:=P) w 1 news.length a news.length c news (by omega) hnews
   have hst:=dH P g (off+n) e fz news 0 cur w hg hf (by omega) h1
   simp only[Nat.add_zero] at hst
   have hadd:(⟨g,off,none⟩:Addr).add n=⟨g,off+n,none⟩:=by unfold Addr.add;split<;>simp_all
   have hr:(Builtin.append_ #[t,t] ty #[.slice (some ⟨g,off,none⟩) n cap,.slice (some a) news.length c]).run P w=
    .ok (.slice (some ⟨g,off,none⟩) (n+news.length) cap) (w.setRow g (cur.toList.take (off+n)++news++cur.toList.drop (off+n+news.length)).toArray):=by
    simp[Builtin.append_,run_underlying ht,sizeOf,typeInfo,hi,hsize,Builtin.lenOf,hroom,hfc,hadd,hst]
   have:=aZ.room w hown.1 hbg hg hf hcm hcs htake news hroom
   exact⟨_,_,hr,this.1,this.2⟩
  ·have holds:∀j u,xs[j]?=some u→w.cell? ((⟨g,off,none⟩:Addr).add j)=some u:=fun j u hu=>by
    have hadd:(⟨g,off,none⟩:Addr).add j=⟨g,off+j,none⟩:=by unfold Addr.add;split<;>simp_all
    rw[hadd];exact hown.cells j u hu
   have hr:=run_append_grow (P:=P) w t ty e i z ht hi hz ⟨g,off,none⟩ n cap xs (by rw[hsize,hown.1];omega) holds a news.length c news (by rw[hsize];omega) hnews (by omega) (by omega) (growslice_fits (by omega) (by rw[hby];exact hbytes))
   have:=aZ.grown (e:=e) w hown.1 news z hzs h63 hbase cap (Value.ownBlock (.slice (some ⟨g,off,none⟩) n cap))
   exact⟨_,_,hr,this.1,this.2⟩
theorem iW (base:Nat) (t u ty e:TypeId) (i:TypeInfo) (ht:P.underlying t=some (.slice e)) (hu:P.underlying u=some .string) (hi:P.info? e=some i) (hz:i.zero=some (.int .u8 0))
 (hsize:i.size=1) (hby:i.bytes=1)
 (v:Value) (n:Nat) (xs:List Value) (hown:aZ w base e v n xs) (s:ByteArray)
 (h63:n+s.size≤maxLen) (hbytes:n+s.size≤140737488355328) (hbase:base≤w.heap.size):
 ∃v' w',(Builtin.append_ #[t,u] ty #[v,.string s]).run P w=.ok v' w'∧aZ w' base e v' (n+s.size) (xs++Lib.strCells s)∧w.grownBy w' v.ownBlock:=by
 have hsmall:n+s.size≤9223372036854775807:=by simp only[maxLen] at h63;omega
 have hsl:=Lib.strCells_length s
 rcases hown.2 with⟨rfl,rfl⟩|⟨g,off,cap,cur,fz,rfl,hbg,hg,hf,hnc,hcm,hcs,htake⟩
 ·have hx:xs=[]:=List.eq_nil_of_length_eq_zero hown.1
  subst hx
  obtain⟨v',w',r1,r2,r3,_⟩:=Lib.run_append_own_string (P:=P) w base t u ty e i ht hu hi hz hsize hby (.slice none 0 0) 0 [] (World.ownsRow_nil w _ e 1) s h63 hbytes hbase
  exact⟨v',w',r1,aZ.of_owns r2,r3⟩
 ·by_cases hroom:n+s.size≤cap
  ·have hfc:=Lib.run_firstCells_string (P:=P) w 1 s
   have hst:=dH P g (off+n) e fz (Lib.strCells s) 0 cur w hg hf (by omega) (Lib.strCells_oneCell s)
   simp only[Nat.add_zero] at hst
   have hadd:(⟨g,off,none⟩:Addr).add n=⟨g,off+n,none⟩:=by unfold Addr.add;split<;>simp_all
   have hr:(Builtin.append_ #[t,u] ty #[.slice (some ⟨g,off,none⟩) n cap,.string s]).run P w=
    .ok (.slice (some ⟨g,off,none⟩) (n+s.size) cap) (w.setRow g (cur.toList.take (off+n)++Lib.strCells s++cur.toList.drop (off+n+(Lib.strCells s).length)).toArray):=by
    simp[Builtin.append_,run_underlying ht,run_underlying hu,sizeOf,typeInfo,hi,hsize,Builtin.lenOf,hroom,hfc,hadd,hst]
   have:=aZ.room w hown.1 hbg hg hf hcm hcs htake (Lib.strCells s) (by omega)
   rw[hsl] at this
   rw[hsl] at hr
   exact⟨_,_,hr,this.1,this.2⟩
  ·have holds:∀j u,xs[j]?=some u→w.cell? ((⟨g,off,none⟩:Addr).add j)=some u:=fun j u hu=>by
    have hadd:(⟨g,off,none⟩:Addr).add j=⟨g,off+j,none⟩:=by unfold Addr.add;split<;>simp_all
    rw[hadd];exact hown.cells j u hu
   have hr:=Lib.run_append_grow_string (P:=P) w t u ty e i (.int .u8 0) ht hu hi hz ⟨g,off,none⟩ n cap xs (by rw[hsize,hown.1];omega) holds s (by omega) (by omega) (by rw[hby];exact growslice_fits (by omega) (by omega))
   have:=aZ.grown (e:=e) w hown.1 (Lib.strCells s) (.int .u8 0) rfl (by omega) hbase cap (Value.ownBlock (.slice (some ⟨g,off,none⟩) n cap))
   rw[hsl] at this
   exact⟨_,_,hr,this.1,this.2⟩
theorem eN {ops:Array Oper} {rest:List Oper} {o:Oper} {a:Act} {Q:Exit→Act→World→Prop} (hgd:o.guard=none) (s x:Operand) (t:TypeId)
 (ho:o.op=.call {callee:=.builtin .append,args:=#[s,x],argTypes:=#[t,t]})
 (base:Nat) (e:TypeId) (i:TypeInfo) (z:Value) (bytes:Nat) (ht:P.underlying t=some (.slice e)) (hi:P.info? e=some i) (hz:i.zero=some z)
 (hsize:i.size=1) (hby:i.bytes=bytes) (hzs:z.cells.size=1)
 (v:Value) (n:Nat) (xs:List Value) (hs:a.eval s=v) (hown:aZ w base e v n xs)
 (ad:Addr) (m c:Nat) (news:List Value) (hx:a.eval x=.slice (some ad) m c) (hl:news.length=m) (hnews:∀j u,news[j]?=some u→w.cell? (ad.add j)=some u) (h1:∀u∈news,u.oneCell'=true)
 (h63:n+m≤maxLen) (hbytes:(n+m)*bytes≤140737488355328) (hbase:base≤w.heap.size)
 (h:∀v' w',aZ w' base e v' (n+m) (xs++news)→w.grownBy w' v.ownBlock→wpList P ops Q rest (a.put o.dst v') w'):wpList P ops Q (o::rest) a w:=by
 refine wpList_plain hgd fun K hK=>?_
 obtain⟨v',w',hr,h2,h3⟩:=pN (P:=P) w base t o.type e i z bytes ht hi hz hsize hby hzs v n xs hown ad m c news hl hnews h1 h63 hbytes hbase
 unfold Oper.wp execOp
 simp only[ho,resolve,invoke,builtin,Sem.run_bind,Sem.run_pure,Result.andThen_ok,List.map_toArray,List.map_cons,List.map_nil,hs,hx,hr]
 exact hK _ _ (h v' w' h2 h3)
theorem gI {ops:Array Oper} {rest:List Oper} {o:Oper} {a:Act} {Q:Exit→Act→World→Prop} (hgd:o.guard=none) (s x:Operand) (t u:TypeId)
 (ho:o.op=.call {callee:=.builtin .append,args:=#[s,x],argTypes:=#[t,u]})
 (base:Nat) (e:TypeId) (i:TypeInfo) (ht:P.underlying t=some (.slice e)) (hu:P.underlying u=some .string) (hi:P.info? e=some i) (hz:i.zero=some (.int .u8 0))
 (hsize:i.size=1) (hby:i.bytes=1)
 (v:Value) (n:Nat) (xs:List Value) (hs:a.eval s=v) (hown:aZ w base e v n xs) (str:ByteArray) (hx:a.eval x=.string str)
 (h63:n+str.size≤maxLen) (hbytes:n+str.size≤140737488355328) (hbase:base≤w.heap.size)
 (h:∀v' w',aZ w' base e v' (n+str.size) (xs++Lib.strCells str)→w.grownBy w' v.ownBlock→wpList P ops Q rest (a.put o.dst v') w'):wpList P ops Q (o::rest) a w:=by
 refine wpList_plain hgd fun K hK=>?_
 obtain⟨v',w',hr,h2,h3⟩:=iW (P:=P) w base t u o.type e i ht hu hi hz hsize hby v n xs hown str h63 hbytes hbase
 unfold Oper.wp execOp
 simp only[ho,resolve,invoke,builtin,Sem.run_bind,Sem.run_pure,Result.andThen_ok,List.map_toArray,List.map_cons,List.map_nil,hs,hx,hr]
 exact hK _ _ (h v' w' h2 h3)
end
theorem mU {w:World} {ops:Array Oper} {rest:List Oper} {o:Oper} {a:Act} {Q:Exit→Act→World→Prop} (hg:o.guard=none) (x:Operand)
 (ho:o.op=.convert 9 49 x) (l:List UInt8) (hl:l.length≤1000000000000000) (hx:a.eval x=.string (bs l))
 (h:∀(v:Value) (w':World),aZ w' w.heap.size 5 v l.length (Lib.byteCells l)→Below w.heap.size w w'→w.heap.size<w'.heap.size→wpList Tryz.prog ops Q rest (a.put o.dst v) w'):wpList Tryz.prog ops Q (o::rest) a w:=by
 refine wpList_plain hg fun K hK=>?_
 have hrun:=run_bytes_of_string (P:=Tryz.prog) w 9 49 5 (bs l) Tryz.underlying9 Tryz.underlying49 Tryz.underlying5
 have hk1:=grownCap_ge w (bs l).size 0 5
 have hk2:=grownCap_le_maxLen w (bs l).size 0 5 (by rw[aV];unfold maxLen;omega)
 generalize hk:grownCap w (bs l).size 0 5=k at hrun hk1 hk2
 rw[aV] at hk1
 have hsz:(bytesRow (bs l) k).size=k:=by
  have e:(bs l).data.size=l.length:=rfl
  simp[bytesRow,e,aV];omega
 have hown:aZ (w.drew.alloc (.cells (bytesRow (bs l) k) 5 ((bytesRow (bs l) k).size,(bytesRow (bs l) k).size+1))) w.heap.size 5 (.slice (some ⟨w.heap.size,0,none⟩) l.length k) l.length (Lib.byteCells l):=by
  refine⟨aU l,.inr ⟨w.heap.size,0,k,_,_,rfl,Nat.le_refl _,heap_alloc_new w.drew _,fun j hj h=>?_,hk1,hk2,by omega,?_⟩⟩
  ·have:=h.1;simp only at this;omega
  ·rw[List.drop_zero]
   have e:(bytesRow (bs l) k).toList=Lib.byteCells l++List.replicate (k-l.length) (.int .u8 0):=by
    simp[bytesRow,Lib.byteCells,aV];rfl
   rw[e]
   exact List.take_left' (aU l)
 unfold Oper.wp
 simp only[execOp,ho,hx,Sem.run_bind,hrun,Result.andThen_ok]
 refine hK _ _ (h _ _ hown ((Below.refl _ w).drew.alloc (Nat.le_refl _) _) ?_)
 show w.heap.size<(w.heap.push _).size
 simp
theorem tO (l:List UInt8) (k:Nat):l++128::List.replicate (k+1) 0=(l++128::List.replicate k 0)++[0]:=by
 rw[List.replicate_succ',List.append_assoc,List.cons_append]
theorem fM (l:List UInt8) (c:UInt8):Lib.byteCells (l++[c])=Lib.byteCells l++[.int .u8 c.toNat]:=by simp[Lib.byteCells]
def fq (H:List Int) (v n:Value):Array Value:=(aj H++[v,n]).toArray
section
variable {H:List Int} {v n:Value}
theorem jn (hl:H.length=8):(fq H v n)[8]?=some v:=by
 unfold fq;rw[List.getElem?_toArray,List.getElem?_append_right (by rw[aL];omega),aL,hl];rfl
theorem wO (hl:H.length=8):(fq H v n)[9]?=some n:=by
 unfold fq;rw[List.getElem?_toArray,List.getElem?_append_right (by rw[aL];omega),aL,hl];rfl
theorem ou (hl:H.length=8) (u:Value):(fq H v n).setIfInBounds 8 u=fq H u n:=by
 simp[fq,aL,hl]
theorem vo (hl:H.length=8) (u:Value):(fq H v n).setIfInBounds 9 u=fq H v u:=by
 simp[fq,aL,hl]
end
theorem jm {h:List Int} (_hl:h.length=8) (k:Nat):∀(h:List Int) (b:List UInt8),h.length=8→b.length≤k→(aY bq h b).length=8:=by
 induction k with
 |zero=>intro h b _hl hb;rw[cr (by omega)];exact _hl
 |succ k ih=>
  intro h b _hl hb
  by_cases hs:b.length<64
  ·rw[cr hs];exact _hl
  ·rw[eO (by omega)]
   exact ih _ _ (jN _ _ _) (by rw[List.length_drop];omega)
theorem qv (b:List UInt8):(aY bq cP b).length=8:=jm (h:=cP) rfl b.length cP b rfl (Nat.le_refl _)
def lW (w:World) (base b:Nat) (T:List UInt8):Prop:=
 base≤b∧∃v,w.heap[b]?=some (.cells (fq (aY bq cP T) v (.int .u64 (T.length:Int))) 255 (0,0))∧aZ w (b+1) 5 v (bT T).length (Lib.byteCells (bT T))
set_option maxHeartbeats 1000000 in
theorem xP (w:World):Calls Tryz.prog 123 #[] w fun e w'=>e=.returned (.agg (aj cP).toArray)∧Below w.heap.size w w':=by
 go_enter Tryz.func123,Tryz.ntmps123
 go_wp2_with (refine wpList_store_row rfl 252 _ _ rfl w.heap.size (aj cP).toArray rfl rfl 252 _ (heap_alloc_new w _) (by kernel_rfl) rfl (by kernel_rfl) ?_)
 refine bodyPost_ret (results_cell_row rfl _ _ w.heap.size _ _ _ _ rfl (setRow_heap _ _ _ _ _ _ (heap_alloc_new w _)) Tryz.underlying252 rfl (by kernel_rfl)) rfl ⟨rfl,?_⟩
 exact⟨rfl,rfl,rfl,by simp,fun k hk=>by rw[setRow_other _ _ _ _ (by omega),Below.heap_alloc _ _ _ hk]⟩
set_option maxHeartbeats 1000000 in
theorem zZ (w:World):Calls Tryz.prog 81 #[] w fun e w'=>∃b,e=.returned (.pointer (some ⟨b,0,none⟩))∧lW w' w.heap.size b []∧Below w.heap.size w w':=by
 go_enter Tryz.func81,Tryz.ntmps81
 go_wp2_with (refine(xP _).mono ?_;rintro e w1 ⟨rfl,hb1⟩)
 go_ret
 refine⟨_,rfl,⟨hb1.size,.slice none 0 0,?_,aZ.nil _ _ _⟩,hb1.alloc hb1.size _⟩
 rw[cr (by decide)]
 exact heap_alloc_new w1 _
theorem vm (T l:List UInt8) (k:Nat) (hk:(bT T++l).length/64=k):aY bq (aY bq cP T) ((bT T++l).take (64*k))=aY bq cP (T++l)∧(bT T++l).drop (64*k)=bT (T++l):=by
 subst hk
 rw[Nat.mul_comm,mA,qj]
 refine⟨rfl,?_⟩
 rw[←yR];rfl
set_option maxHeartbeats 4000000 in
theorem zcM (base b:Nat) (T l:List UInt8) (hT:(T++l).length≤140737488351232) (w:World) (hh:lW w base b T):
 Calls Tryz.prog 82 #[.pointer (some ⟨b,0,none⟩),.string (bs l)] w fun e w'=>e=.returned (.tuple #[])∧lW w' base b (T++l)∧Below base w w':=by
 obtain⟨hbase,v,hb,hown⟩:=hh
 obtain⟨i0,hi,hz0,hz1,hz2⟩:=info_parts wQ
 have hTl:T.length+l.length≤140737488351232:=by rw[List.length_append] at hT;exact hT
 have hF8:=hid (qv T)
 have hOT:=ux T
 have c8:w.cell? ⟨b,8,none⟩=some v:=(cell_of_row w b 8 _ _ _ hb).trans (jn hF8.out)
 have c9:w.cell? ⟨b,9,none⟩=some (.int .u64 (T.length:Int)):=(cell_of_row w b 9 _ _ _ hb).trans (wO hF8.out)
 have f9:w.frozen? ⟨b,9,none⟩=false:=frozen_of_row w b 9 _ _ hb
 have q1:((T.length:Int)+(l.length:Int))%18446744073709551616=(T.length:Int)+(l.length:Int):=by omega
 have q2:(l.length:Int)%18446744073709551616=(l.length:Int):=by omega
 have hblt:=(Array.getElem?_eq_some_iff.1 hb).1
 have G1:=hid ((heap_setCell_same w b 9 _ _ (.int .u64 ((T.length:Int)+(l.length:Int))) hb).trans (by rw[vo hF8.out]))
 have HO:=hid hown
 clear hb hown hT
 go_enter Tryz.func82,Tryz.ntmps82
 go_upto_region 2 with fail
 clear c8 c9 f9 q1 q2
 obtain⟨W1,hW1⟩:∃x,x=w.setCell ⟨b,9,none⟩ (.int .u64 ((T.length:Int)+(l.length:Int))):=⟨_,rfl⟩
 have hz1w:W1.heap.size=w.heap.size:=by rw[hW1];simp[World.setCell]
 have HO1:=hid ((HO.out.same (w':=W1) (fun k hk=>by rw[hW1];exact heap_setCell_other w ⟨b,9,none⟩ k _ (by have:=(HO.out.lt k hk).1;show k≠b;omega))))
 have G2:W1.heap[b]?=some (.cells (fq (aY bq cP T) v (.int .u64 ((T.length:Int)+(l.length:Int)))) 255 (0,0)):=by rw[hW1];exact G1.out
 have hB1:Below base w W1:=by rw[hW1];exact(Below.refl base w).setCell (p:=⟨b,9,none⟩) hbase _
 rw[←hW1]
 have c8:W1.cell? ⟨b,8,none⟩=some v:=(cell_of_row W1 b 8 _ _ _ G2).trans (jn hF8.out)
 have HG2:=hid G2
 have HB1:=hid hB1
 have hbW:b+1≤W1.heap.size:=by omega
 clear hW1 G1 HO G2 hB1
 go_wp2_with (at_builtin;go_must (refine gI _ rfl _ _ 49 9 rfl (b+1) 5 i0 Tryz.underlying49 Tryz.underlying9 hi hz0 hz1 hz2 _ _ _ rfl HO1.out (bs l) rfl ?c1 ?c2 hbW ?_))
 case c1=>unfold maxLen;rw[aV];omega
 case c2=>rw[aV];omega
 intro v2 w2 hown2 hgrow2
 have HO2:Hid (aZ w2 (b+1) 5 v2 (bT T++l).length (Lib.byteCells (bT T++l))):=hid (by rw[pF,List.length_append];exact hown2)
 have hbk:∀k,v.ownBlock=some k→b+1≤k:=fun k hk=>(HO1.out.lt k hk).1
 have G3:w2.heap[b]?=some (.cells (fq (aY bq cP T) v (.int .u64 ((T.length:Int)+(l.length:Int)))) 255 (0,0)):=by
  rw[hgrow2.block b (by omega) (fun e=>by have:=hbk b e.symm;omega)];exact HG2.out
 have hB2:Below base w w2:=HB1.out.grown hgrow2 (by omega) (fun k hk=>by have:=hbk k hk;omega)
 have f8:w2.frozen? ⟨b,8,none⟩=false:=frozen_of_row w2 b 8 _ _ G3
 have d8:w2.cell? ⟨b,8,none⟩=some v:=(cell_of_row w2 b 8 _ _ _ G3).trans (jn hF8.out)
 have G4:=hid ((heap_setCell_same w2 b 8 _ _ v2 G3).trans (by rw[ou hF8.out]))
 have HO3:=hid ((HO2.out.same (w':=w2.setCell ⟨b,8,none⟩ v2) (fun k hk=>heap_setCell_other w2 ⟨b,8,none⟩ k _ (by have:=(HO2.out.lt k hk).1;show k≠b;omega))))
 have HB3:=hid (hB2.setCell (p:=⟨b,8,none⟩) hbase v2)
 have hz2w:b<w2.heap.size:=(Array.getElem?_eq_some_iff.1 G3).1
 obtain⟨va,vc,hv2,hvc,hvm⟩:=HO2.out.form
 subst hv2
 obtain⟨A,hA⟩:∃A,A=bT T++l:=⟨_,rfl⟩
 have HA:=hid hA
 rw[←hA] at HO3 hvc G4 HB3 ⊢
 have hAl:A.length≤140737488351332:=by rw[hA,List.length_append];omega
 clear hA hgrow2 hown2 HO2 HO1 hB2 G3 HG2 HB1 hbk c8
 go_wp2_with fail
 obtain⟨W3,hW3⟩:∃x,x=w2.setCell ⟨b,8,none⟩ (.slice va A.length vc):=⟨_,rfl⟩
 rw[←hW3] at G4 HO3 HB3 ⊢
 have HF:Hid ((aY bq cP T).length=8):=hF8
 generalize hH0:aY bq cP T=H0 at *
 have HH0:=hid hH0
 clear hW3 d8 f8 hz2w hH0 hF8
 obtain⟨NN,hNN⟩:∃x,x=(T.length:Int)+(l.length:Int):=⟨_,rfl⟩
 rw[←hNN] at G4
 have HNN:=hid hNN
 clear hNN
 go_loopw [] (fun wr=>∃(k N:Nat) (a:Option Addr) (c:Nat),64*k≤A.length∧N+64*k≤A.length∧A.length≤N+64*k∧wr.heap[b]?=some (.cells (fq (aY bq H0 (A.take (64*k))) (.slice a N c) (.int .u64 NN)) 255 (0,0))∧aZ wr (b+1) 5 (.slice a N c) N (Lib.byteCells (A.drop (64*k)))∧Below base w wr) (fun wr=>match wr.cell? ⟨b,8,none⟩ with|some (.slice _ n _)=>n|_=>0)
 case atStart=>exact⟨0,A.length,va,vc,by omega,by omega,by omega,by rw[Nat.mul_zero,List.take_zero,cr (by simp)];exact G4.out,HO3.out,HB3.out⟩
 case round=>
  obtain⟨k,N,a,c,hk,hN1,hN2,hb,hown,hbr⟩:=hrel
  clear G4 HO3 HB3
  have hF8:=hid (jm HF.out A.length H0 (A.take (64*k)) HF.out (by rw[List.length_take];omega))
  have c8:wr.cell? ⟨b,8,none⟩=some (.slice a N c):=(cell_of_row wr b 8 _ _ _ hb).trans (jn hF8.out)
  have hblr:=(Array.getElem?_eq_some_iff.1 hb).1
  by_cases h64:64≤N
  ·obtain⟨-,a',c',hv,hNc,hcm, -,hx⟩:=hown.sliceAt
   injection hv with e1 e2 e3
   subst e1 e3
   obtain⟨g,o,rfl,hgl,aX⟩:=hx (by intro e;have:=aU (A.drop (64*k));rw[e,List.length_drop] at this;simp at this;omega)
   unfold maxLen at hcm
   have HNext:=hid (pf bq H0 A k (by omega))
   generalize aY bq H0 (A.take (64*k))=F at *
   have h64i:(64:Int)≤(N:Int):=by omega
   have h64c:(64:Int)≤(c:Int):=by omega
   have h64n:64≤c:=by omega
   have HB:=hid hb
   have HOW:=hid hown
   have HBR:=hid hbr
   clear hb hown hbr hx aX
   go_upto_region 4 with fail
   refine ar 8 (by kernel_rfl) (by kernel_rfl) ?_
   simp only[List.take_succ_cons,List.take_zero,List.drop_succ_cons,List.drop_zero]
   repeat(refine WQ.step (fun K hK=>?_);go_simp;first|(refine hK _ ?_;clear hK K)|(apply Exists.intro;refine⟨fun W hW=>?_,hK _ ?_⟩;(first|(first|with_reducible rfl|(have zz0:=Below.keeps hW c8;go_simp;first|rfl|exact⟨rfl,rfl⟩|(rw[if_neg (by omega)];exact⟨rfl,rfl⟩))));clear hK K))
   refine WQ.nil ?_
   intro wz hwz
   have hbz:wz.heap[b]?=some (.cells (aj F++[Value.slice (some ⟨g,o,none⟩) N c,Value.int .u64 NN]).toArray 255 (0,0)):=(hwz.block _ hblr).trans HB.out
   have lS:ap wz 1 (.slice (some ⟨g,o,none⟩) 64 c) 64 (Lib.byteCells ((A.drop (64*k)).take 64)):=by
    have hl:((A.drop (64*k)).take 64).length=64:=by rw[List.length_take,List.length_drop];omega
    refine⟨by rw[aU,hl],_,c,rfl,h64n,by unfold maxLen;omega,fun h=>(by cases h),fun _=>⟨g,o,rfl,by have:=hwz.size;omega,fun j u hu=>?_⟩⟩
    have hj:j<64:=by have:=(List.getElem?_eq_some_iff.1 hu).1;rwa [aU,hl] at this
    refine bz hwz (HOW.out.cells j u ?_)
    rw[←hu]
    simp[Lib.byteCells,hj]
   have HOZ:=hid (HOW.out.below hwz)
   have HBZ:=hid (HBR.out.trans (hwz.mono (by have:=(HOW.out.lt g rfl).1;omega)))
   have hblz:b<wz.heap.size:=(Array.getElem?_eq_some_iff.1 hbz).1
   have HTK:=hid (tM b F hF8.out _ 255 _ _ wz hbz lS)
   have HC8:=hid c8
   clear hbz lS hwz c8
   go_upto_region 5 with(go_at_call 124;refine(HTK.out).mono ?_;rintro e w4 ⟨rfl,g4,hbut⟩)
   have g4':w4.heap[b]?=some (.cells (fq (cA bq F ((A.drop (64*k)).take 64)) (.slice (some ⟨g,o,none⟩) N c) (.int .u64 NN)) 255 (0,0)):=g4
   have hF9:=jN bq F ((A.drop (64*k)).take 64)
   have e8:w4.cell? ⟨b,8,none⟩=some (.slice (some ⟨g,o,none⟩) N c):=(cell_of_row w4 b 8 _ _ _ g4').trans (jn hF9)
   have x8:w4.frozen? ⟨b,8,none⟩=false:=frozen_of_row w4 b 8 _ _ g4'
   have HOX:=hid (HOZ.out.same (w':=w4) (fun k hk=>by have:=HOZ.out.lt k hk;exact hbut.block k this.2 (by omega)))
   have HBX:Hid (Below base w w4):=hid ⟨hbut.os.trans HBZ.out.os,hbut.tape.trans HBZ.out.tape,hbut.output.trans HBZ.out.output,Nat.le_trans HBZ.out.size hbut.size,fun j hj=>(hbut.block j (by omega) (by omega)).trans (HBZ.out.block j hj)⟩
   obtain⟨sa,hsa⟩:∃x,x=(if c=64 then some (⟨g,o,none⟩:Addr) else some ⟨g,o+64,none⟩):=⟨_,rfl⟩
   have HOC:Hid (aZ w4 (b+1) 5 (.slice sa (N-64) (c-64)) (N-64) (Lib.byteCells (A.drop (64*(k+1))))):=hid (by
    have h:=HOX.out.cut h64
    have e1:(if c=64 then some (⟨g,o,none⟩:Addr) else(some ⟨g,o,none⟩:Option Addr).map (·.add 64))=sa:=by rw[hsa];simp[Addr.add]
    have e2:(Lib.byteCells (A.drop (64*k))).drop 64=Lib.byteCells (A.drop (64*(k+1))):=by
     simp only[Lib.byteCells,←List.map_drop,List.drop_drop,show 64*(k+1)=64*k+64 by omega]
    rw[e1,e2] at h
    exact h)
   have G8:=hid (fun u=>(heap_setCell_same w4 b 8 _ _ u g4').trans (by rw[ou hF9]))
   have HN9:Hid (aY bq H0 (A.take (64*(k+1)))=cA bq F ((A.drop (64*k)).take 64)):=hid (by rw[show 64*(k+1)=64*k+64 by omega];exact HNext.out)
   clear g4 g4' hF9 hbut HOX HOZ
   go_wp2_with fail
   rw[←hsa]
   refine⟨⟨k+1,N-64,sa,c-64,by omega,by omega,by omega,by rw[HN9.out];exact G8.out _,HOC.out.same (fun j hj=>heap_setCell_other w4 ⟨b,8,none⟩ j _ (by have:=(HOC.out.lt j hj).1;show j≠b;omega)),HBX.out.setCell (p:=⟨b,8,none⟩) hbase _⟩,?_⟩
   rw[World.cell?_setCell_same' _ _ _ (by rw[e8];rfl),HC8.out]
   show N-64<N
   omega
  ·have hkA:A.length/64=k:=by omega
   have hEnd:=vm T l k (by rw[←HA.out];exact hkA)
   rw[←HA.out,HH0.out] at hEnd
   rw[hEnd.1,HNN.out] at hb
   rw[hEnd.2] at hown
   have hlT:(((T++l).length:Nat):Int)=(T.length:Int)+(l.length:Int):=by rw[List.length_append];omega
   have hNl:N=(bT (T++l)).length:=by rw[←hEnd.2,List.length_drop];omega
   have HFin:Hid (lW wr base b (T++l)∧Below base w wr):=hid ⟨⟨hbase,.slice a N c,by rw[hlT];exact hb,by rw[←hNl];exact hown⟩,hbr⟩
   clear hb hown hbr hEnd hlT hNl hkA
   go_wp2_with fail
   (first|go_end0|(simp only[Exit.inBlock,Exit.then];refine bodyPost_ret (results_none rfl _ _ _) rfl ?_)|refine bodyPost_ret (results_none rfl _ _ _) rfl ?_)
   exact⟨rfl,HFin.out⟩
theorem lh:(Tryz.prog.info? 31).map (·.size)=some 32:=by kernel_rfl
theorem zbb (v:List Int) (k:Nat):(dC v k).all (·.oneCell')=true:=by
 rw[Array.all_eq_true_iff_forall_mem]
 intro x hx
 simp only[dC,List.mem_toArray,List.mem_map] at hx
 obtain⟨i,_,rfl⟩:=hx
 rfl
theorem gP {ops:Array Oper} {rest:List Oper} {o:Oper} {a:Act} {w:World} {Q:Exit→Act→World→Prop} (hgd:o.guard=none) (x y:Operand) (ho:o.op=.store 31 x y)
 (g:Nat) (v:List Int) (k:Nat) (hx:a.eval x=.pointer (some ⟨g,0,none⟩)) (hy:a.eval y=.agg (dC v k))
 (old:Array Value) (hg:w.heap[g]?=some (.cells old 31 (0,0))) (hold:old.size=32)
 (h:∀w',w'.heap[g]?=some (.cells (dC v k) 31 (0,0))→w'.heap.size=w.heap.size→(∀j,j≠g→w'.heap[j]?=w.heap[j]?)→w'.os=w.os→w'.tape=w.tape→w'.output=w.output→wpList Tryz.prog ops Q rest (a.put o.dst undef) w'):wpList Tryz.prog ops Q (o::rest) a w:=
 wpList_store_row hgd 31 x y ho g (dC v k) hx hy 31 old hg (by rw[dZ];exact lh) (by rw[hold,dZ]) (zbb v k)
  (h _ (setRow_heap w g old _ _ _ hg) (setRow_size w g _) (fun j hj=>setRow_other w g j _ hj) rfl rfl rfl)
def zeV:Value→Nat
 |.slice _ n _=>n
 |_=>0
set_option maxHeartbeats 2000000 in
theorem zbi (base b:Nat) (T:List UInt8) (hT:T.length≤140737488351232) (w:World) (hh:lW w base b T):
 Calls Tryz.prog 83 #[.pointer (some ⟨b,0,none⟩)] w fun e w'=>e=.returned (.agg ((zev T).map (Value.int .u8)).toArray)∧Below w.heap.size w w':=by
 obtain⟨hbase,v,hb,hown⟩:=hh
 obtain⟨i0,hi,hz0,hz1,hz2⟩:=info_parts wQ
 have hF8:=hid (qv T)
 have hOT:=ux T
 have hblt:=(Array.getElem?_eq_some_iff.1 hb).1
 have HR:Hid (∀W:World,Below w.heap.size w W→W.rangeAt b 0 (aj (aY bq cP T))):=hid (fun W hW j u hu=>by
  have hj:j<8:=by have:=(List.getElem?_eq_some_iff.1 hu).1;rw[aL,hF8.out] at this;omega
  rw[Nat.zero_add,cell_of_row W b j _ _ _ ((hW.block b hblt).trans hb)]
  unfold fq
  rw[List.getElem?_toArray,List.getElem?_append_left (by rw[aL,hF8.out];omega)]
  exact hu)
 have HC8:Hid (∀W:World,Below w.heap.size w W→W.cell? ⟨b,8,none⟩=some v):=hid (fun W hW=>(cell_of_row W b 8 _ _ _ ((hW.block b hblt).trans hb)).trans (jn hF8.out))
 have HC9:Hid (∀W:World,Below w.heap.size w W→W.cell? ⟨b,9,none⟩=some (.int .u64 (T.length:Int))):=hid (fun W hW=>(cell_of_row W b 9 _ _ _ ((hW.block b hblt).trans hb)).trans (wO hF8.out))
 have HOW:=hid hown
 have HZF:Hid ((aj (aY bq cP T)).length=8):=hid (by rw[aL,hF8.out])
 generalize hF:aY bq cP T=F at *
 have HF:=hid hF
 clear hb hown hF
 have HI:Hid ((Tryz.prog.info? 252).map (·.size)=some (aj F).toArray.size∧(#[.int .u32 0,.int .u32 0,.int .u32 0,.int .u32 0,.int .u32 0,.int .u32 0,.int .u32 0,.int .u32 0]:Array Value).size=(aj F).toArray.size∧(aj F).toArray.all (·.oneCell')=true∧(Tryz.prog.info? 252).map (·.size)=some (aj F).length):=hid (by
  have e:(aj F).toArray.size=8:=by rw[List.size_toArray,HZF.out]
  exact⟨by rw[e];kernel_rfl,by rw[e];rfl,all_oneCell_toArray (jI F),by rw[HZF.out];kernel_rfl⟩)
 go_enter Tryz.func83,Tryz.ntmps83
 go_upto_region 4 with first
  |(refine wpList_load_mid rfl 252 _ rfl b 0 rfl (aj F) _ (HR.out _ (ab _ _)) Tryz.underlying252 rfl HI.out.2.2.2 ?_)
  |(refine wpList_store_row rfl 252 _ _ rfl (w.heap.size+1) (aj F).toArray rfl rfl 252 _ (heap_alloc2_new w _ _) HI.out.1 HI.out.2.1 HI.out.2.2.1 ?_)
 obtain⟨Z,hZ⟩:∃Z:Obj,Z=(Obj.cells (dC [] 0) 31):=⟨_,rfl⟩
 rw[show(Obj.cells #[.int .u8 0,.int .u8 0,.int .u8 0,.int .u8 0,.int .u8 0,.int .u8 0,.int .u8 0,.int .u8 0,.int .u8 0,.int .u8 0,.int .u8 0,.int .u8 0,.int .u8 0,.int .u8 0,.int .u8 0,.int .u8 0,.int .u8 0,.int .u8 0,.int .u8 0,.int .u8 0,.int .u8 0,.int .u8 0,.int .u8 0,.int .u8 0,.int .u8 0,.int .u8 0,.int .u8 0,.int .u8 0,.int .u8 0,.int .u8 0,.int .u8 0,.int .u8 0] 31)=Z by rw[hZ];rfl]
 obtain⟨Y,hY⟩:∃Y:Obj,Y=(Obj.cells #[.int .u32 0,.int .u32 0,.int .u32 0,.int .u32 0,.int .u32 0,.int .u32 0,.int .u32 0,.int .u32 0] 252):=⟨_,rfl⟩
 rw[←hY]
 obtain⟨W1,hW1⟩:∃x,x=((w.alloc Z).alloc Y).setRow (w.heap.size+1) (aj F).toArray:=⟨_,rfl⟩
 have hb1:Below w.heap.size w W1:=by
  rw[hW1]
  have h:=((ab w Z).alloc (by simp) Y)
  exact⟨h.os,h.tape,h.output,by rw[setRow_size];exact h.size,fun k hk=>by rw[setRow_other _ _ _ _ (by omega)];exact h.block k hk⟩
 have hR26:W1.heap[w.heap.size]?=some (.cells (dC [] 0) 31 (0,0)):=by rw[hW1,setRow_other _ _ _ _ (by omega),←hZ];exact heap_alloc2_old w Z Y
 have hR63:W1.heap[w.heap.size+1]?=some (.cells (aj F).toArray 252 (0,0)):=by rw[hW1];exact setRow_heap _ _ _ _ _ _ (by rw[hY];exact heap_alloc2_new w Z _)
 have hs1:W1.heap.size=w.heap.size+2:=by rw[hW1,setRow_size];simp
 rw[←hW1]
 have HB1:=hid hb1
 have HR26:=hid hR26
 have HR63:=hid hR63
 have HS1:=hid hs1
 have c8:=HC8.out W1 hb1
 have hcv:=sR ((HOW.out.sliceAt).below hb1 (Nat.le_refl _))
 have hOl:(bT T).length≤1000000000000000:=by omega
 clear hW1 hZ hY hb1 hR26 hR63 hs1 HI HR HC8
 go_wp2_with first
  |(refine mU rfl _ rfl (bT T) hOl rfl ?_;intro v1 w1 hown1 hb1 hlt1;have hs1:=hb1.size;clear hlt1)
  |(at_builtin;go_must (refine eN _ rfl _ _ 49 rfl W1.heap.size 5 i0 (.int .u8 0) 1 Tryz.underlying49 hi hz0 hz1 hz2 rfl _ _ _ rfl (aZ.alloc hown1 _) ⟨w1.heap.size,0,none⟩ 1 1 [.int .u8 (128)] rfl rfl ?c1 ?c2 ?c3 ?c4 ?c5 ?_))
 case c1=>exact lM _ #[_] _ _
 case c2=>intro u hu;simp at hu;subst hu;rfl
 case c3=>unfold maxLen;omega
 case c4=>omega
 case c5=>simp;omega
 intro v2 w2 hown2 hgrow2
 have hb2:Below W1.heap.size W1 w2:=(hb1.alloc (by omega) _).grown hgrow2 (by simp;omega) (fun k hk=>(hown1.lt k hk).1)
 have hOm:(bT T).length=T.length%64:=by unfold bT;rw[List.length_drop];omega
 generalize hO:bT T=O at *
 have HO:=hid hO
 have HO2:Hid (aZ w2 W1.heap.size 5 v2 (O.length+1) (Lib.byteCells (O++128::List.replicate 0 0))):=hid (by simpa[Lib.byteCells] using hown2)
 clear hown1 hown2 hgrow2 hb1 hs1 hcv c8 hO hOl
 obtain⟨Z2,hZ2⟩:∃Z2,Z2=(119-T.length%64)%64:=⟨_,rfl⟩
 have HZ:=hid hZ2
 have HOM:=hid hOm
 have hZ64:Z2<64:=by omega
 clear hZ2 hOm
 go_wp2_with fail
 go_loopw [4] (fun o wr=>∃(k N:Nat),k≤Z2∧N≤O.length+1+k∧O.length+1+k≤N∧aZ wr W1.heap.size 5 o N (Lib.byteCells (O++128::List.replicate k 0))∧Below W1.heap.size W1 wr) (fun o _=>Z2+O.length+1-(match o with|.slice _ n _=>n|_=>0))
 case atStart=>exact⟨0,O.length+1,by omega,by omega,by omega,HO2.out,hb2⟩
 case round=>
  obtain⟨k,N,hk,hN1,hN2,hown,hbr⟩:=hrel
  obtain⟨oa,oc,rfl,hnc,hcm⟩:=hown.form
  have hwr:=hbr.size
  clear HO2
  unfold maxLen at hcm
  by_cases hkz:k<Z2
  ·have q1:(((N:Int)%64) !=56)=true:=neT (by have:=HZ.out;have:=HOM.out;omega)
   have q2:((Int.tmod (N:Int) 64) !=56)=true:=neT (by have:=HZ.out;have:=HOM.out;rw[Int.tmod_eq_emod_of_nonneg (by omega)];omega)
   go_wp2_with (at_builtin;go_must (refine eN _ rfl _ _ 49 rfl W1.heap.size 5 i0 (.int .u8 0) 1 Tryz.underlying49 hi hz0 hz1 hz2 rfl _ _ _ rfl (aZ.alloc hown _) ⟨wr.heap.size,0,none⟩ 1 1 [.int .u8 (0)] rfl rfl ?d1 ?d2 ?d3 ?d4 ?d5 ?_))
   case d1=>exact lM _ #[_] _ _
   case d2=>intro u hu;simp at hu;subst hu;rfl
   case d3=>unfold maxLen;omega
   case d4=>omega
   case d5=>simp;omega
   intro v3 w3 hown3 hgrow3
   have hb3:Below W1.heap.size W1 w3:=(hbr.alloc (by omega) _).grown hgrow3 (by simp;omega) (fun k hk=>(hown.lt k hk).1)
   clear hgrow3
   obtain⟨a3,c3,rfl, -, -⟩:=hown3.form
   go_wp2_with fail
   refine⟨?_,by simp;omega⟩
   (first|exact⟨k+1,N+1,by omega,by omega,by omega,by rw[tO,fM];exact hown3,hb3⟩|((repeat apply Exists.intro);exact⟨⟨k+1,N+1,by omega,by omega,by omega,by rw[tO,fM];exact hown3,hb3⟩,rfl⟩))
  ·obtain rfl:Z2=k:=by omega
   have q1:(((N:Int)%64) !=56)=false:=neF (by have:=HZ.out;have:=HOM.out;omega)
   have q2:((Int.tmod (N:Int) 64) !=56)=false:=neF (by have:=HZ.out;have:=HOM.out;rw[Int.tmod_eq_emod_of_nonneg (by omega)];omega)
   have HOw:=hid hown
   have HQ:=hid hnc
   have q3:(8*(T.length:Int))%18446744073709551616=8*(T.length:Int):=by omega
   go_wp2_with fail
   obtain⟨wo,rfl⟩:∃wo:World,wo=wr:=⟨_,rfl⟩
   clear hown hnc q1 q2
   go_loopw [4,5] (fun o i wr=>∃(k M:Nat),k≤8∧i=.int .i64 (56-8*(k:Int))∧M≤N+k∧N+k≤M∧aZ wr W1.heap.size 5 o M (Lib.byteCells (O++128::(List.replicate Z2 0++mp T.length k)))∧Below W1.heap.size W1 wr) (fun _ i _=>(intOf i+8).toNat)
   case atStart=>exact⟨0,N,by omega,rfl,by omega,by omega,by rw[mp,List.append_nil];exact HOw.out,hbr⟩
   case round=>
    obtain⟨k,M,hk,rfl,hM1,hM2,hown,hbr2⟩:=hrel
    obtain⟨oa2,oc2,rfl,hnc,hcm2⟩:=hown.form
    have hwr2:=hbr2.size
    unfold maxLen at hcm2
    clear HOw
    by_cases h8:k<8
    ·obtain⟨j,hj⟩:∃j,j=7-k:=⟨_,rfl⟩
     have hij:56-8*(k:Int)=8*(j:Int):=by omega
     have hij2:8*(j:Int)-8=56-8*((k+1:Nat):Int):=by omega
     have hj7:j≤7:=by omega
     have HN:Hid (Lib.byteCells (O++128::(List.replicate Z2 0++mp T.length (k+1)))=Lib.byteCells (O++128::(List.replicate Z2 0++mp T.length k))++[.int .u8 ((8*(T.length:Int))/2^(8*j)%256)]):=hid (by rw[mp,←List.append_assoc,←List.cons_append,←List.append_assoc,fM,zcK,←hj,show(((8*T.length/2^(8*j):Nat)):Int)=8*(T.length:Int)/2^(8*j) by rw[Int.natCast_ediv];simp])
     rw[hij]
     have HJ:=hid hij2
     have c9:=HC9.out wr (HB1.out.trans (hbr2.mono HB1.out.size))
     clear hij hij2 hj
     go_wp2_with (at_builtin;go_must (refine eN _ rfl _ _ 49 rfl W1.heap.size 5 i0 (.int .u8 0) 1 Tryz.underlying49 hi hz0 hz1 hz2 rfl _ _ _ rfl (aZ.alloc hown _) ⟨wr.heap.size,0,none⟩ 1 1 [.int .u8 (8*(T.length:Int)/2^(8*j)%256)] rfl rfl ?e1 ?e2 ?e3 ?e4 ?e5 ?_))
     case e1=>exact lM _ #[_] _ _
     case e2=>intro u hu;simp at hu;subst hu;rfl
     case e3=>unfold maxLen;omega
     case e4=>omega
     case e5=>simp;omega
     intro v3 w3 hown3 hgrow3
     have hb3:Below W1.heap.size W1 w3:=(hbr2.alloc (by omega) _).grown hgrow3 (by simp;omega) (fun k hk=>(hown.lt k hk).1)
     clear hgrow3 c9
     go_wp2_with fail
     refine⟨?_,by simp[intOf];omega⟩
     (first|exact⟨k+1,M+1,by omega,by rw[←HJ.out],by omega,by omega,by rw[HN.out];exact hown3,hb3⟩|((repeat apply Exists.intro);exact⟨⟨k+1,M+1,by omega,by rw[←HJ.out],by omega,by omega,by rw[HN.out];exact hown3,hb3⟩,rfl⟩))
    ·obtain rfl:k=8:=by omega
     obtain⟨i5,hi5⟩:∃x:Int,x=56-8*((8:Nat):Int):=⟨_,rfl⟩
     rw[←hi5]
     have hi50:¬(0≤i5):=by omega
     have hi51:i5<0:=by omega
     clear hi5
     obtain⟨wp,rfl⟩:∃wp:World,wp=wr:=⟨_,rfl⟩
     obtain⟨P,hP⟩:∃P,P=O++128::(List.replicate Z2 0++mp T.length 8):=⟨_,rfl⟩
     have hMl:M=P.length:=by have:=hown.1;rw[aU,←hP] at this;omega
     have hPm:P.length%64=0:=by rw[←hMl];have:=HZ.out;have:=HOM.out;omega
     have HPF:Hid (aY bq F P=aY bq cP (fN T)):=hid (by
      rw[hP,←HF.out,←HO.out,←xG]
      unfold zgA zej
      rw[←HZ.out];rfl)
     rw[←hP] at hown
     have HOP:=hid hown
     have hPl:P.length≤2000000000:=by rw[←hMl];omega
     have HPM:=hid hPm
     subst hMl
     have R63:=hid ((hbr2.block (w.heap.size+1) (by have:=HS1.out;omega)).trans HR63.out)
     have R26:=hid ((hbr2.block w.heap.size (by have:=HS1.out;omega)).trans HR26.out)
     have HBP:=hid (HB1.out.trans (hbr2.mono HB1.out.size))
     have hF8':Hid (F.length=8):=hid (by have:=HZF.out;rwa [aL] at this)
     have hwps:w.heap.size+2≤wp.heap.size:=by have:=HS1.out;have:=hbr2.size;omega
     clear hown hP hnc hcm2 hPm HQ HR63 HR26 HC9 h8 hk hM1 hM2 hbr hbr2 hwr2 hwr hN1 hN2 hkz q3
     go_wp2_with fail
     go_loopw [4] (fun ov wr=>∃(k N:Nat) (a:Option Addr) (c:Nat),64*k≤P.length∧N+64*k≤P.length∧P.length≤N+64*k∧ov=.slice a N c∧wr.heap[w.heap.size+1]?=some (.cells (aj (aY bq F (P.take (64*k)))).toArray 252 (0,0))∧aZ wr W1.heap.size 5 (.slice a N c) N (Lib.byteCells (P.drop (64*k)))∧Below (w.heap.size+1) wp wr) (fun ov _=>zeV ov)
     case atStart=>exact⟨0,P.length,oa2,oc2,by omega,by omega,by omega,rfl,by rw[Nat.mul_zero,List.take_zero,cr (by simp)];exact R63.out,HOP.out,Below.refl _ _⟩
     case round=>
      obtain⟨k,N3,a,c,hk,hN1,hN2,rfl,hb,hown,hbr⟩:=hrel
      clear HOP
      have hPm:=HPM.out
      have hwrs:=hbr.size
      by_cases h0:0<N3
      ·have h64:64≤N3:=by omega
       have hF9:=hid (jm hF8'.out P.length F (P.take (64*k)) hF8'.out (by rw[List.length_take];omega))
       obtain⟨-,a',c',hv,hNc,hcm3, -,hx⟩:=hown.sliceAt
       injection hv with e1 e2 e3
       subst e1 e3
       obtain⟨g,o,rfl,hgl,aX⟩:=hx (by intro e;have:=aU (P.drop (64*k));rw[e,List.length_drop] at this;simp at this;omega)
       unfold maxLen at hcm3
       have hg2:w.heap.size+2≤g:=by have:=(hown.lt g rfl).1;have:=HS1.out;omega
       have HNext:=hid (pf bq F P k (by omega))
       have lS:ap wr 1 (.slice (some ⟨g,o,none⟩) 64 c) 64 (Lib.byteCells ((P.drop (64*k)).take 64)):=by
        have hl:((P.drop (64*k)).take 64).length=64:=by rw[List.length_take,List.length_drop];omega
        refine⟨by rw[aU,hl],_,c,rfl,by omega,by unfold maxLen;omega,fun h=>(by cases h),fun _=>⟨g,o,rfl,hgl,fun j u hu=>?_⟩⟩
        have hj:j<64:=by have:=(List.getElem?_eq_some_iff.1 hu).1;rwa [aU,hl] at this
        refine hown.cells j u ?_
        rw[←hu]
        simp[Lib.byteCells,hj]
       generalize aY bq F (P.take (64*k))=F3 at *
       have h64i:(64:Int)≤(N3:Int):=by omega
       have h64c:(64:Int)≤(c:Int):=by omega
       have h64n:64≤c:=by omega
       have HTK:=hid (tM (w.heap.size+1) F3 hF9.out [] 252 _ _ wr (by rw[List.append_nil];exact hb) lS)
       have HOW:=hid hown
       have HBR:=hid hbr
       clear hb hown hbr hx aX lS hPm
       go_upto_region 12 with(go_at_call 124;refine(HTK.out).mono ?_;rintro e w4 ⟨rfl,g4,hbut⟩)
       rw[List.append_nil] at g4
       have HG4:=hid g4
       have HOX:=hid (HOW.out.same (w':=w4) (fun k hk=>by have h1:=HOW.out.lt k hk;have h2:=HS1.out;exact hbut.block k h1.2 (by omega)))
       have HBX:Hid (Below (w.heap.size+1) wp w4):=hid ⟨hbut.os.trans HBR.out.os,hbut.tape.trans HBR.out.tape,hbut.output.trans HBR.out.output,Nat.le_trans HBR.out.size hbut.size,fun j hj=>(hbut.block j (by omega) (by omega)).trans (HBR.out.block j hj)⟩
       obtain⟨sa,hsa⟩:∃x,x=(if c=64 then some (⟨g,o,none⟩:Addr) else some ⟨g,o+64,none⟩):=⟨_,rfl⟩
       have HOC:Hid (aZ w4 W1.heap.size 5 (.slice sa (N3-64) (c-64)) (N3-64) (Lib.byteCells (P.drop (64*(k+1))))):=hid (by
        have h:=HOX.out.cut h64
        have e1:(if c=64 then some (⟨g,o,none⟩:Addr) else(some ⟨g,o,none⟩:Option Addr).map (·.add 64))=sa:=by rw[hsa];simp[Addr.add]
        have e2:(Lib.byteCells (P.drop (64*k))).drop 64=Lib.byteCells (P.drop (64*(k+1))):=by
         simp only[Lib.byteCells,←List.map_drop,List.drop_drop,show 64*(k+1)=64*k+64 by omega]
        rw[e1,e2] at h
        exact h)
       have HN9:Hid (aY bq F (P.take (64*(k+1)))=cA bq F3 ((P.drop (64*k)).take 64)):=hid (by rw[show 64*(k+1)=64*k+64 by omega];exact HNext.out)
       clear g4 hbut HOX HOW
       by_cases hc64:c=64
       ·subst hc64
        obtain rfl:N3=64:=by omega
        rw[if_pos rfl] at hsa
        subst hsa
        go_wp2_with fail
        refine⟨?_,by show 0<64;omega⟩
        (first|exact⟨k+1,0,_,_,by omega,by omega,by omega,rfl,by rw[HN9.out];exact HG4.out,HOC.out,HBX.out⟩|((repeat apply Exists.intro);exact⟨⟨k+1,0,_,_,by omega,by omega,by omega,rfl,by rw[HN9.out];exact HG4.out,HOC.out,HBX.out⟩,rfl⟩))
       ·rw[if_neg hc64] at hsa
        subst hsa
        go_wp2_with fail
        refine⟨?_,by show N3-64<N3;omega⟩
        (first|exact⟨k+1,N3-64,_,_,by omega,by omega,by omega,rfl,by rw[HN9.out];exact HG4.out,HOC.out,HBX.out⟩|((repeat apply Exists.intro);exact⟨⟨k+1,N3-64,_,_,by omega,by omega,by omega,rfl,by rw[HN9.out];exact HG4.out,HOC.out,HBX.out⟩,rfl⟩))
      ·obtain rfl:N3=0:=by omega
       have HFP:Hid (aY bq F (P.take (64*k))=aY bq cP (fN T)):=hid (by rw[List.take_of_length_le (by omega)];exact HPF.out)
       rw[HFP.out] at hb
       obtain⟨wo,rfl⟩:∃wo:World,wo=wr:=⟨_,rfl⟩
       have hfl:=jm (h:=cP) rfl (fN T).length cP (fN T) rfl (Nat.le_refl _)
       have HSum:Hid (zev T=mY (aY bq cP (fN T))):=hid rfl
       generalize aY bq cP (fN T)=G at *
       have HFL:=hid hfl
       have HGW:Hid (∀W:World,Below wo.heap.size wo W→∀q,q<8→W.cell? ⟨w.heap.size+1,q,none⟩=some (.int .u32 (G.getD q 0))):=hid (fun W hW q hq=>(cell_of_row W _ q _ _ _ ((hW.block _ (Array.getElem?_eq_some_iff.1 hb).1).trans hb)).trans (List.getElem?_toArray.trans (dl G q (by rw[HFL.out];exact hq))))
       have HBO:=hid hbr
       have R26o:=hid ((hbr.block w.heap.size (by omega)).trans R26.out)
       have HB0:=hid (HBP.out.trans (hbr.mono (by omega)))
       clear hb hown hbr hPm hfl HFP R26 R63
       go_upto_region 15 with fail
       obtain⟨Z9,hZ9⟩:∃Z:Obj,Z=(Obj.cells (dC G 0) 31):=⟨_,rfl⟩
       rw[show(Obj.cells #[.int .u8 0,.int .u8 0,.int .u8 0,.int .u8 0,.int .u8 0,.int .u8 0,.int .u8 0,.int .u8 0,.int .u8 0,.int .u8 0,.int .u8 0,.int .u8 0,.int .u8 0,.int .u8 0,.int .u8 0,.int .u8 0,.int .u8 0,.int .u8 0,.int .u8 0,.int .u8 0,.int .u8 0,.int .u8 0,.int .u8 0,.int .u8 0,.int .u8 0,.int .u8 0,.int .u8 0,.int .u8 0,.int .u8 0,.int .u8 0,.int .u8 0,.int .u8 0] 31)=Z9 by rw[hZ9];rfl]
       obtain⟨w5,hw5⟩:∃x,x=wo.alloc Z9:=⟨_,rfl⟩
       have hg5:w5.heap[wo.heap.size]?=some (.cells (dC G 0) 31 (0,0)):=by rw[hw5,←hZ9];exact heap_alloc_new wo Z9
       have hb5:Below wo.heap.size wo w5:=by rw[hw5];exact ab wo Z9
       rw[←hw5]
       have HG5:=hid hg5
       have HB5:=hid hb5
       clear hw5 hZ9 hg5 hb5
       go_wp2_with fail
       go_loopw [54] (fun i wr=>∃(k:Nat),k≤32∧i=.int .i64 k∧wr.heap[wo.heap.size]?=some (.cells (dC G k) 31 (0,0))∧Below wo.heap.size wo wr) (fun i _=>32-(intOf i).toNat)
       case atStart=>exact⟨0,by omega,rfl,HG5.out,HB5.out⟩
       case round=>
        obtain⟨k5,hk5,rfl,hg,hbr2⟩:=hrel
        clear HG5 HB5
        by_cases h32:k5<32
        ·obtain⟨q,hq⟩:∃q,q=k5/4:=⟨_,rfl⟩
         obtain⟨r,hr⟩:∃r,r=k5%4:=⟨_,rfl⟩
         have HN:=hid (heap_setCell_same wr wo.heap.size k5 (dC G k5) 31 (.int .u8 (G.getD q 0/2^(24-8*r)%256)) hg)
         have ck:wr.cell? ⟨wo.heap.size,k5,none⟩=(dC G k5)[k5]?:=cell_of_row wr _ k5 _ _ _ hg
         rw[Array.getElem?_eq_getElem (by rw[dZ];exact h32)] at ck
         have fk:wr.frozen? ⟨wo.heap.size,k5,none⟩=false:=frozen_of_row wr _ k5 _ _ hg
         have cq:=HGW.out wr hbr2 q (by omega)
         have HD:Hid ((dC G k5).setIfInBounds k5 (.int .u8 (G.getD q 0/2^(24-8*r)%256))=dC G (k5+1)):=hid (by rw[hq,hr];exact y7 G k5)
         have q1:Int.tdiv (k5:Int) 4=(q:Int):=by rw[Int.tdiv_eq_ediv_of_nonneg (by omega)];omega
         have q2:Int.tmod (k5:Int) 4=(r:Int):=by rw[Int.tmod_eq_emod_of_nonneg (by omega)];omega
         have q3:(k5:Int)/4=(q:Int):=by omega
         have q4:(k5:Int)%4=(r:Int):=by omega
         have hr4:r<4:=by omega
         have hq8:q<8:=by omega
         clear hq hr
         generalize G.getD q 0=x at *
         generalize (dC G k5)[k5]'_=y at ck
         go_wp2_with fail
         refine⟨?_,by simp[intOf];omega⟩
         (first|exact⟨k5+1,by omega,by go_num,by rw[←HD.out];exact HN.out,hbr2.setCell (p:=⟨wo.heap.size,k5,none⟩) (Nat.le_refl _) _⟩|((repeat apply Exists.intro);exact⟨⟨k5+1,by omega,by go_num,by rw[←HD.out];exact HN.out,hbr2.setCell (p:=⟨wo.heap.size,k5,none⟩) (Nat.le_refl _) _⟩,rfl⟩))
        ·obtain rfl:k5=32:=by omega
         have hgr:wr.heap[w.heap.size]?=some (.cells (dC [] 0) 31 (0,0)):=(hbr2.block _ (by omega)).trans R26o.out
         have hne:wo.heap.size≠w.heap.size:=by omega
         have HBo:=hid (HB0.out.trans (hbr2.mono (by omega)))
         go_wp2_with first
          |(refine wpList_load_row rfl 31 _ rfl wo.heap.size rfl _ _ _ _ hg Tryz.underlying31 rfl (by rw[dZ];exact lh) ?_)
          |(refine gP rfl _ _ rfl w.heap.size G 32 rfl rfl _ hgr rfl ?_;intro w3 hg3 hs3 ho3 z1 z2 z3)
         refine bodyPost_ret (results_cell_row rfl _ _ w.heap.size _ _ _ _ rfl hg3 Tryz.underlying31 rfl (by rw[dZ];exact lh)) rfl ⟨?_,?_⟩
         ·rw[tR,HSum.out]
         ·exact⟨z1.trans HBo.out.os,z2.trans HBo.out.tape,z3.trans HBo.out.output,by rw[hs3];exact HBo.out.size,fun k hk=>by rw[ho3 k (by omega)];exact HBo.out.block k hk⟩
theorem zeg (ss:List (List UInt8)) (k:Nat) (h:k<ss.length):(ss.take (k+1)).flatten=(ss.take k).flatten++ss[k]:=by
 rw[List.take_succ_eq_append_getElem h,List.flatten_append];simp
theorem zdb (ss:List (List UInt8)) (k:Nat):(ss.take k).flatten.length≤ss.flatten.length:=by
 have:ss.flatten=(ss.take k).flatten++(ss.drop k).flatten:=by rw[←List.flatten_append,List.take_append_drop]
 rw[this,List.length_append];omega
set_option maxHeartbeats 1000000 in
theorem sM (vs:Value) (n0:Nat) (ss:List (List UInt8)) (w:World) (hs:ap w 1 vs n0 (ag ss)) (hn:ss.flatten.length≤140737488351232):
 Calls Tryz.prog 36 #[vs] w fun e w'=>e=.returned (.agg (dC (aY bq cP (fN ss.flatten)) 32))∧Below w.heap.size w w':=by
 obtain⟨rfl,va,vc,rfl,hvc,hvm,hx⟩:=hs.str
 have HX:=hid hx
 unfold maxLen at hvm
 clear hs hx
 go_enter Tryz.func36,Tryz.ntmps36
 go_upto_region 1 with fail
 obtain⟨Z,hZ⟩:∃Z:Obj,Z=(Obj.cells (dC [] 0) 31):=⟨_,rfl⟩
 rw[show(Obj.cells #[.int .u8 0,.int .u8 0,.int .u8 0,.int .u8 0,.int .u8 0,.int .u8 0,.int .u8 0,.int .u8 0,.int .u8 0,.int .u8 0,.int .u8 0,.int .u8 0,.int .u8 0,.int .u8 0,.int .u8 0,.int .u8 0,.int .u8 0,.int .u8 0,.int .u8 0,.int .u8 0,.int .u8 0,.int .u8 0,.int .u8 0,.int .u8 0,.int .u8 0,.int .u8 0,.int .u8 0,.int .u8 0,.int .u8 0,.int .u8 0,.int .u8 0,.int .u8 0] 31)=Z by rw[hZ];rfl]
 obtain⟨W0,hW0⟩:∃x,x=w.alloc Z:=⟨_,rfl⟩
 have hb0:Below w.heap.size w W0:=by rw[hW0];exact ab w Z
 have hR0:W0.heap[w.heap.size]?=some (.cells (dC [] 0) 31 (0,0)):=by rw[hW0,←hZ];exact heap_alloc_new w Z
 have hs0:W0.heap.size=w.heap.size+1:=by rw[hW0];simp
 rw[←hW0]
 have HB0:=hid hb0
 have HR0:=hid hR0
 have HS0:=hid hs0
 clear hW0 hZ hb0 hR0 hs0
 go_wp2_with (go_at_call 81;refine(zZ _).mono ?_;rintro e w1 ⟨hb,rfl,hh,hb1⟩)
 have HH:=hid hh
 have HB1:=hid hb1
 clear hh hb1
 go_loopw [9] (fun i wr=>∃(k:Nat),k≤ss.length∧i=.int .i64 k∧lW wr W0.heap.size hb (ss.take k).flatten∧Below W0.heap.size W0 wr) (fun i _=>ss.length-(intOf i).toNat)
 case atStart=>exact⟨0,by omega,rfl,HH.out,HB1.out⟩
 case round=>
  obtain⟨k,hk,rfl,hh,hbr⟩:=hrel
  have HHr:=hid hh
  have HBr:=hid hbr
  clear HH hh hbr
  by_cases aH:k<ss.length
  ·obtain⟨g,o,rfl,hgl,aX⟩:=HX.out k aH
   have ck:=bz HBr.out (bz HB0.out (aX k aH)) |>fun h=>h
   have HJ:=hid (zeg ss k aH)
   have hle:=zdb ss (k+1)
   have HA:=hid (zcM W0.heap.size hb (ss.take k).flatten ss[k] (by rw[←HJ.out];omega) wr HHr.out)
   rw[←HJ.out] at HA
   generalize ss[k]=s at *
   clear aX
   go_wp2_with (go_at_call 82;refine(HA.out).mono ?_;rintro e w2 ⟨rfl,hh2,hb2⟩)
   refine⟨?_,by simp[intOf];omega⟩
   (first|exact⟨k+1,by omega,by go_num,hh2,HBr.out.trans hb2⟩|((repeat apply Exists.intro);exact⟨⟨k+1,by omega,by go_num,hh2,HBr.out.trans hb2⟩,rfl⟩))
  ·obtain rfl:k=ss.length:=by omega
   rw[List.take_length] at HHr
   have HF:=hid (zbi W0.heap.size hb ss.flatten hn wr HHr.out)
   have e9:((zev ss.flatten).map (Value.int .u8)).toArray=dC (aY bq cP (fN ss.flatten)) 32:=(tR _).symm
   rw[e9] at HF
   generalize hG:aY bq cP (fN ss.flatten)=G at *
   have HGq:=hid hG
   clear e9 hG
   obtain⟨wo,rfl⟩:∃wo:World,wo=wr:=⟨_,rfl⟩
   go_wp2_with first
    |(go_at_call 83;refine(HF.out).mono ?_;rintro e w5 ⟨rfl,hb5⟩;have hg5:=((Below.chain HBr.out hb5).block w.heap.size (by have:=HS0.out;omega)).trans HR0.out)
    |(refine gP rfl _ _ rfl w.heap.size G 32 rfl rfl _ hg5 rfl ?_;intro w6 hg6 hs6 ho6 z1 z2 z3)
   have hB:Below w.heap.size w w5:=HB0.out.trans ((Below.chain HBr.out hb5).mono (by have:=HS0.out;omega))
   refine bodyPost_ret (results_cell_row rfl _ _ w.heap.size _ _ _ _ rfl hg6 Tryz.underlying31 rfl (by rw[dZ];exact lh)) rfl ⟨by rw[HGq.out],?_⟩
   exact⟨z1.trans hB.os,z2.trans hB.tape,z3.trans hB.output,by rw[hs6];exact hB.size,fun k hk=>by rw[ho6 k (by omega)];exact hB.block k hk⟩
open Exec
def dV (s:List UInt8):Dg:=⟨(List.range 32).map fun i=>UInt8.ofNat (oG (aY bq cP (fN s)) i).toNat,by simp⟩
theorem vV (s:List UInt8):dC (aY bq cP (fN s)) 32=(dgc (dV s)).toArray:=by
 unfold dC dgc dV Lib.byteCells
 congr 1
 rw[List.map_map]
 refine List.map_congr_left fun i hi=>?_
 have aH:i<32:=List.mem_range.1 hi
 simp only[if_pos aH,Function.comp,Value.int.injEq,true_and]
 have h0:0≤oG (aY bq cP (fN s)) i∧oG (aY bq cP (fN s)) i<256:=by
  unfold oG
  exact⟨Int.emod_nonneg _ (by omega),Int.emod_lt_of_pos _ (by omega)⟩
 rw[ct (by omega)]
 omega
theorem rR (s:List UInt8) (vs:Value) (n0:Nat) (w:World) (hs:ap w 1 vs n0 (ag [s])) (hn:s.length≤140737488351232):
 Calls Tryz.prog 36 #[vs] w fun e w'=>e=.returned (.agg (dgc (dV s)).toArray)∧Below w.heap.size w w':=by
 have:=sM vs n0 [s] w hs (by simpa using hn)
 simp only[List.flatten_cons,List.flatten_nil,List.append_nil] at this
 rw[vV] at this
 exact this
theorem nR {w:World} {b:Nat} {s:List UInt8} {t:TypeId} {fr:Nat×Nat} (h:w.heap[b]?=some (.cells #[.string (bs s)] t fr)):ap w 1 (.slice (some ⟨b,0,none⟩) 1 1) 1 (ag [s]):=
 ⟨rfl,_,1,rfl,Nat.le_refl _,by unfold maxLen;omega,fun e=>(by cases e),fun _=>⟨b,0,rfl,(Array.getElem?_eq_some_iff.1 h).1,fun j u hu=>by
  rw[cell_of_row _ _ _ _ _ _ h,Nat.zero_add];simpa[ag] using hu⟩⟩
abbrev Plc:=Nat×Nat
def ptr (x:Plc):Value:=.pointer (some ⟨x.1,x.2,none⟩)
def zdh (x:Plc):Addr:=⟨x.1,x.2+33,none⟩
def zci (x:Plc):Addr:=⟨x.1,x.2+34,none⟩
structure ze2 (w:World) (x y:Plc):Prop where
 nw:w.cell? (zci x)=some (ptr y)
 ol:w.cell? (zdh y)=some (ptr x)
def du (w:World):Plc→List Plc→Plc→Prop
 |x,[],z=>ze2 w x z
 |x,y::l,z=>ze2 w x y∧du w y l z
theorem dS {w:World} {b o b' o':Nat} (v:Value) (h:¬(b=b'∧o=o')):(w.setCell ⟨b,o,none⟩ v).cell? ⟨b',o',none⟩=w.cell? ⟨b',o',none⟩:=
 World.cell?_setCell_other _ _ _ _ (fun e=>h ⟨congrArg Addr.block e,congrArg Addr.off e⟩)
end Go.Proofs.YtlbipokkdiiaiaaGreatDoor
