/- Lemmas for TopFoundUpto: TopSpeaks. -/
import Derived.Test.YtlbipokkdiiaiaaGreatDoorF29
import Derived.Test.YtlbipokkdiiaiaaGreatDoorF30
import Derived.Test.YtlbipokkdiiaiaaGreatDoorF31
import Derived.Test.YtlbipokkdiiaiaaGreatDoorF32
namespace Go.Proofs.YtlbipokkdiiaiaaGreatDoor
open Go.RowKit Exec
noncomputable section
def zm:List ez→FuncId→Array Value→H→Option (Value×H)
 |[],_,_,_=>none
 |e::r,f,args,h=>bif e.fits f args h then some (e.v,lC (e.k-e.next) h) else zm r f args h
def hkT:eA:=fun f args h=>bif f==36 then hkS f args h else bif f==22||f==24||f==15 then some (zm zw f args h) else none
theorem yi {l:List ez} {f:FuncId} {args:Array Value} {h h':H} {v:Value} (he:zm l f args h=some (v,h')):∃e∈l,e.fits f args h=true∧e.v=v∧lC (e.k-e.next) h=h':=by
 induction l with
 |nil=>simp[zm] at he
 |cons e r ih=>
  unfold zm at he
  cases hf:e.fits f args h with
  |true=>
   rw[hf] at he
   simp only[cond_true,Option.some.injEq,Prod.mk.injEq] at he
   exact⟨e,by simp,hf,he.1,he.2⟩
  |false=>
   rw[hf] at he
   obtain⟨x,h1,h2⟩:=ih he
   exact⟨x,by simp[h1],h2⟩
theorem vg:∀e∈zw,e.run=true:=by
 intro e he
 simp only[zw,List.mem_cons,List.not_mem_nil,or_false] at he
 rcases he with rfl|rfl|rfl|rfl|rfl|rfl|rfl|rfl
 ·exact zao
 ·exact zX
 ·exact z7
 ·exact zT
 ·exact zaU
 ·exact zbv
 ·exact zx
 ·exact zbg
theorem zdO:gz Tryz.prog hkT:=by
 intro f args h v h' he m W args' ha hw
 unfold hkT at he
 cases hf:f==36 with
 |true=>rw[hf] at he;exact zaT f args h v h' he m W args' ha hw
 |false=>
  rw[hf] at he
  cases hg:(f==22||f==24||f==15) with
  |false=>rw[hg] at he;simp at he
  |true=>
   rw[hg] at he
   simp only[cond_false,cond_true,Option.some.injEq] at he
   obtain⟨e,h1,h2,rfl,rfl⟩:=yi he
   exact e.ok (vg e h1) h2 ha hw
def uH:Option (Res×H)→Bool
 |some (.val (.bool b),_)=>b
 |_=>false
theorem uc {r:Option (Res×H)} (h:uH r=true):∃h',r=some (.val (.bool true),h'):=by
 unfold uH at h
 split at h
 ·rename_i b h';subst h;exact⟨h',rfl⟩
 ·simp at h
def ta:H:={t:=.leaf,next:=0,lim:=1048576}
def zeD:Bij:={r:=fun _ _=>False,gr:=fun _=>0,fn:=fun h=>h.elim}
theorem zeY (W:World):bz zeD ta W:=
 ⟨fun n o h=>by unfold H.get ta at h;simp at h,fun _ _ _ _ h=>h,fun _ _ h=>h.elim,fun _ _ _ h=>h.elim,by unfold ta;decide,by unfold ta;decide⟩
set_option maxRecDepth 1000000 in
theorem uO:uH (go hkT Tryz.prog (lm hkT Tryz.prog) 2000 (.call 7 #[]) ta)=true:=by kernel_rfl
theorem vD (W:World):Calls Tryz.prog 7 #[] W fun e W'=>e=.returned (.bool true)∧Below W.heap.size W W':=by
 obtain⟨h',hr⟩:=uc uO
 have:=oF zej zdO mixed 2000 hr (m:=zeD) (W:=W) (args':=#[]) .nil (zeY W)
 refine callsIn_wide.1 (this.mono fun e W' hq=>?_)
 obtain⟨v',m',rfl,hv,hs⟩:=hq
 cases hv
 exact⟨rfl,hs.rest.1,hs.rest.2.1,hs.rest.2.2,hs.size,fun k hk=>hs.block k hk fun n hn=>hn.elim⟩
end
end Go.Proofs.YtlbipokkdiiaiaaGreatDoor
