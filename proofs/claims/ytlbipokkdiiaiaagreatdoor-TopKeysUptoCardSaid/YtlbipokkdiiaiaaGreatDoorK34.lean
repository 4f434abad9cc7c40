/- Lemmas for TopKeysUpto: TopSpeaks. -/
import Derived.Test.YtlbipokkdiiaiaaGreatDoorK30
import Derived.Test.YtlbipokkdiiaiaaGreatDoorK31
import Derived.Test.YtlbipokkdiiaiaaGreatDoorK32
import Derived.Test.YtlbipokkdiiaiaaGreatDoorK33
namespace Go.Proofs.YtlbipokkdiiaiaaGreatDoor
open Go.RowKit Exec
noncomputable section
def zbI:List eA→FuncId→Array Value→H→Option (Value×H)
 |[],_,_,_=>none
 |e::r,f,args,h=>bif e.fits f args h then some (e.v,mh (e.k-e.next) h) else zbI r f args h
def hkT:eF:=fun f args h=>bif f==36 then hkS f args h else bif f==22||f==24||f==15 then some (zbI zaz f args h) else none
theorem xL {l:List eA} {f:FuncId} {args:Array Value} {h h':H} {v:Value} (he:zbI l f args h=some (v,h')):∃e∈l,e.fits f args h=true∧e.v=v∧mh (e.k-e.next) h=h':=by
 induction l with
 |nil=>simp[zbI] at he
 |cons e r ih=>
  unfold zbI at he
  cases hf:e.fits f args h with
  |true=>
   rw[hf] at he
   simp only[cond_true,Option.some.injEq,Prod.mk.injEq] at he
   exact⟨e,by simp,hf,he.1,he.2⟩
  |false=>
   rw[hf] at he
   obtain⟨x,h1,h2⟩:=ih he
   exact⟨x,by simp[h1],h2⟩
theorem vT:∀e∈zaz,e.run=true:=by
 intro e he
 simp only[zaz,List.mem_cons,List.not_mem_nil,or_false] at he
 rcases he with rfl|rfl|rfl|rfl|rfl|rfl|rfl|rfl
 ·exact zaH
 ·exact zbg
 ·exact zaU
 ·exact zbl
 ·exact zT
 ·exact zbE
 ·exact zaJ
 ·exact zaF
theorem zdU:gy Tryz.prog hkT:=by
 intro f args h v h' he m W args' ha hw
 unfold hkT at he
 cases hf:f==36 with
 |true=>rw[hf] at he;exact zbH f args h v h' he m W args' ha hw
 |false=>
  rw[hf] at he
  cases hg:(f==22||f==24||f==15) with
  |false=>rw[hg] at he;simp at he
  |true=>
   rw[hg] at he
   simp only[cond_false,cond_true,Option.some.injEq] at he
   obtain⟨e,h1,h2,rfl,rfl⟩:=xL he
   exact e.ok (vT e h1) h2 ha hw
def vw:Option (Res×H)→Bool
 |some (.val (.bool b),_)=>b
 |_=>false
theorem s7 {r:Option (Res×H)} (h:vw r=true):∃h',r=some (.val (.bool true),h'):=by
 unfold vw at h
 split at h
 ·rename_i b h';subst h;exact⟨h',rfl⟩
 ·simp at h
def tW:H:={t:=.leaf,next:=0,lim:=1048576}
def zeS:Bij:={r:=fun _ _=>False,gr:=fun _=>0,fn:=fun h=>h.elim}
theorem zfj (W:World):bw zeS tW W:=
 ⟨fun n o h=>by unfold H.get tW at h;simp at h,fun _ _ _ _ h=>h,fun _ _ h=>h.elim,fun _ _ _ h=>h.elim,by unfold tW;decide,by unfold tW;decide⟩
set_option maxRecDepth 1000000 in
theorem vy:vw (go hkT Tryz.prog (lC hkT Tryz.prog) 2000 (.call 7 #[]) tW)=true:=by kernel_rfl
theorem uW (W:World):Calls Tryz.prog 7 #[] W fun e W'=>e=.returned (.bool true)∧Below W.heap.size W W':=by
 obtain⟨h',hr⟩:=s7 vy
 have:=oS zeQ zdU mixed 2000 hr (m:=zeS) (W:=W) (args':=#[]) .nil (zfj W)
 refine callsIn_wide.1 (this.mono fun e W' hq=>?_)
 obtain⟨v',m',rfl,hv,hs⟩:=hq
 cases hv
 exact⟨rfl,hs.rest.1,hs.rest.2.1,hs.rest.2.2,hs.size,fun k hk=>hs.block k hk fun n hn=>hn.elim⟩
end
end Go.Proofs.YtlbipokkdiiaiaaGreatDoor
