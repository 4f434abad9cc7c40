/- Lemmas and walks that the statement needs: PageDict, PageBlock, PageStmt, PageRule. -/
import Derived.Test.YtfgiihpopngbkaaGreatDoorP11
namespace Go.Proofs.YtfgiihpopngbkaaGreatDoor
set_option maxRecDepth 100000
set_option maxHeartbeats 8000000
open Go.RowKit
open List renaming setIfInBounds_toArray→sA,set_cons_zero→sB,set_cons_succ→sC
open Nat renaming lt_of_lt_of_le→nL,le_trans→nT
open Go.Act renaming put→aPu
open List renaming length_append→lAp,length_cons→lCo,length_nil→lNi
open Nat renaming le_refl→nRe
open Go.World renaming size_alloc→wSz
open Go renaming cell_of_row→cRo
theorem je (x:List aJ):∀ s:List (List aJ),b7 (s++[x])=if s=[] then x else if s.length % 2=1 then b7 s++sg 58::sp::x else b7 s++sg 44::sp::x
 | []=>rfl
 | [a]=>rfl
 | [a,b]=>by
   rw [if_neg (by simp),if_neg (by simp)];show a++sg 58::sp::(b++sg 44::sp::x)=(a++sg 58::sp::b)++sg 44::sp::x;simp
 | a::b::c::r=>by
   have ih:=je x (c::r);rw [if_neg (by simp)] at ih ⊢;have hl:(a::b::c::r).length % 2=(c::r).length % 2:=by simp only [lCo];omega
   rw [hl];show a++sg 58::sp::(b++sg 44::sp::b7 ((c::r)++[x]))=_;rw [ih];split
   ·show _=(a++sg 58::sp::(b++sg 44::sp::b7 (c::r)))++sg 58::sp::x;simp
   ·show _=(a++sg 58::sp::(b++sg 44::sp::b7 (c::r)))++sg 44::sp::x;simp
theorem zY (pb:Nat) (t:List UInt8) (l c:Int) (ks:List NM) (a:Option Addr) (m:Nat) (hk0:ks.length≤1000000) (IH:∀ j (hj:j<ks.length),fy 80 pb (fun n=>oP n ks[j].tr) ks[j]):fy 80 pb (fun n=>oP n (NM.mk 13 t l c ks a m).tr) (NM.mk 13 t l c ks a m):=by
 intro acc tb w h hh htb aF;change Calls _ _ #[_,aB 13 t l c (.slice a ks.length m)] _ _;have HKI:=hid (el.of hh);obtain ⟨la,lc,hv,iI,hlm,-⟩:=HKI.out.at;obtain ⟨rfl,rfl⟩:a=la∧m=lc:=by simpa using hv
 unfold maxLen at hlm;clear hv;have HAcc:=hid (show acc++af (oP tb (NM.mk 13 t l c ks a m).tr)=acc++[123]++af (b7 (ks.map (fun (x:NM)=>oP tb x.tr)))++[125] by
  have hm:∀ n,oPs n (NM.trs ks)=ks.map (fun (x:NM)=>oP n x.tr):=fun n=>by rw [c8,bR,List.map_map];rfl
  rw [aq,bP];show acc++af (es tb 13 t _ _)=_;unfold es;rw [hm];simp [af,df,sg]
 )
 have HLn:=hid (show (acc++[123]++af (b7 (ks.map (fun (x:NM)=>oP tb x.tr)))++[125]).length≤140737488355000 by rw [← HAcc.out,lAp];exact aF);obtain ⟨w1,hw,ac,hr,hlt1⟩:=an1 w (.cells #[.int .i64 13,.string (bs t),.int .i64 l,.int .i64 c,.slice a ks.length m] 27);have hlt0:=h.lt.2;have HP:=hid (h.below ac);have HK:=hid (PK.of ac (Nat.le_of_lt hlt0));have aG:=hid hr;have cv:w.heap.size≠pb:=by omega
 clear h hh ac hr aF;obtain ⟨out,hout⟩:∃ out:List (List aJ),out=ks.map (fun (x:NM)=>oP tb x.tr):=⟨_,rfl⟩;rw [← hout] at HAcc HLn;have hol:out.length=ks.length:=by rw [hout,List.length_map]
 have HI:=hid IH;have HL:=hid (fun j (hj:j≤ks.length)=>(show (acc++[123]++af (b7 (out.take j))).length≤140737488355000 by
  have hstep:∀ (s:List (List aJ)) (x:List aJ),(af (b7 s)).length≤(af (b7 (s++[x]))).length:=by
   intro s x;rw [je];split
   ·rename_i e;subst e;simp [b7,af]
   ·split <;> rw [aQ,lAp] <;> omega
  have hsuf:∀ (r s:List (List aJ)),(af (b7 s)).length≤(af (b7 (s++r))).length:=by
   intro r;induction r with
   | nil=>intro s;rw [List.append_nil];exact nRe _
   | cons x r ih=>intro s;have h1:=hstep s x;have h2:=ih (s++[x]);rw [List.append_assoc] at h2;exact nT h1 h2
  have:=hsuf (out.drop j) (out.take j);rw [List.take_append_drop] at this;have h2:=HLn.out;simp only [lAp] at h2 ⊢;omega))
 have HO:=hid (fun j (hj:j<ks.length)=>(show b7 (out.take (j+1))=if out.take j=[] then oP tb ks[j].tr else if j % 2=1 then b7 (out.take j)++sg 58::sp::oP tb ks[j].tr else b7 (out.take j)++sg 44::sp::oP tb ks[j].tr by
  have aL:(out.take j).length=j:=by rw [List.length_take];omega
  rw [List.take_succ_eq_append_getElem (by omega),je,aL];have e:out[j]'(by omega)=oP tb ks[j].tr:=by simp only [hout,List.getElem_map]
  rw [e]))
 have HZ:=hid (fun j (hj:j<ks.length)=>(show out.take j=[] ↔ j=0 from ⟨fun e=>by have:=congrArg List.length e;simp at this;rcases this with h | h;exact h;(rw [h] at hol;simp at hol;omega),fun e=>by subst e;rfl⟩));have HE:=hid (show out.take ks.length=out from List.take_of_length_le (by omega));clear hout hol IH;go_enter Tryz.func80,Tryz.ntmps80
 go_wp2_with fail;rw [← hw.out];clear hw;refine (iJ pb (acc) tb 123 _ HP.out (by have:=HLn.out;simp only [lAp,lCo,lNi] at this ⊢;omega)).mono ?_;rintro e w2 ⟨rfl,hp,hk⟩;replace HP:=hid hp;replace aG:=hid (hk.row aG.out cv (by decide));replace HK:=hid (HK.out.trans hk);clear hp hk;obtain ⟨bJ,bI,bH,bK,bT⟩:=r5 aG.out;go_wp2_with fail;clear bJ bI bH bK bT;go_loopw [50] (fun i wr=>∃ j:Nat,j≤ks.length∧i=.int .i64 j∧aO pb pb (acc++[123]++af (b7 (out.take j))) tb wr∧PK pb w wr) (fun i _=>ks.length - (intOf i).toNat)
 case atStart=>exact ⟨0,by omega,rfl,by rw [List.take_zero];show aO pb pb (acc++[123]++[]) tb _;rw [List.append_nil];exact HP.out,HK.out⟩
 case round =>
  clear HP HK aG;obtain ⟨j,hj,rfl,hp,hk2⟩:=hrel;have HP:=hid hp;have HK:=hid hk2;have hltw:pb<wr.heap.size:=hp.lt.2;by_cases aL:j<ks.length
  ·skip
   have hd:decide (j<ks.length)=true:=decide_eq_true aL;have HKJ:=hid (HKI.out.keep hk2.below);obtain ⟨la',lc',hv,-,-,hx⟩:=HKJ.out.at;obtain ⟨lb,lo,rfl,hlb,cw⟩:=hx (by omega);obtain ⟨rfl,rfl⟩:a=some ⟨lb,lo,none⟩∧m=lc':=by simpa using hv
   have hfc:=cw j aL;have HIj:=hid (HI.out j aL);have hZ:=hid (fG HKJ.out.held j aL);have HT:=hid (HO.out j aL);have HL1:=hid (HL.out (j+1) (by omega));have HZj:=hid (HZ.out j aL);have HE0:=hid (show j=0→b7 (out.take j)=[] from fun e=>by subst e;rfl);generalize b7 (out.take j)=pre at *;generalize ks[j]=x at *;cases x with
   | mk kx tx lx cx kk ax mx =>
   obtain ⟨c0,c1,c2,c3,c4⟩:=aj hfc;clear cw hx hv hk2 hp HKJ;obtain ⟨wk,hw,ac,hr,hltk⟩:=an1 wr (.cells #[.int .i64 kx,.string (bs tx),.int .i64 lx,.int .i64 cx,.slice ax kk.length mx] 27);have HP1:=hid (HP.out.below ac);have HK1:=hid (HK.out.trans (PK.of ac (Nat.le_of_lt hltw)));have Hx:=hid (am.keep (bh (ac.mono (Nat.le_of_lt hltw))) hZ.out);have eZ:=hid hr;have m8:wr.heap.size≠pb:=by omega
   clear HP HK hZ ac hr;by_cases h0:j=0
   ·skip
    have q0:¬ ((0:Int)<(j:Int)):=by omega
    have HT0:=hid (HT.out.trans (if_pos (HZj.out.2 h0)));have HE1:=hid (HE0.out h0);have HLx:=hid (show (acc++[123]++af pre).length+(af (oP tb (NM.mk kx tx lx cx kk ax mx).tr)).length≤140737488355000 by
     have:=HL1.out;rw [HT0.out] at this;rw [HE1.out,eJ,List.append_nil];rw [lAp] at this;exact this)
    have HP2:=HP1;have HK2:=HK1;have Hx2:=Hx;clear HT HZj HE0 h0 HP1 HK1 Hx;go_wp2_with fail;rw [← hw.out];clear hw;obtain ⟨z0,z1,z2,z3,z4⟩:=r5 eZ.out;go_wp2_with fail;clear z0 z1 z2 z3 z4;refine (HIj.out _ tb _ HP2.out Hx2.out htb HLx.out).mono ?_;rintro e w9 ⟨rfl,hp9,hk9⟩;have HP9:=hid hp9;have HK9:=hid (HK2.out.trans hk9);clear hp9 hk9 HP2 HK2;go_wp2_with fail
    go_round
    case rel=>exact ⟨j+1,by omega,by go_num,by have:=HP9.out;rw [HE1.out,eJ,List.append_nil] at this;rw [HT0.out];exact this,HK9.out⟩
    case measure=>simp [intOf];omega
   ·skip
    by_cases hpar:j % 2=1
    ·skip
     have q0:(0:Int)<(j:Int):=by omega
     have HT0:=hid (HT.out.trans ((if_neg (fun e=>h0 (HZj.out.1 e))).trans (if_pos hpar)));have HLx:=hid (show (acc++[123]++af pre++[58,32]).length+(af (oP tb (NM.mk kx tx lx cx kk ax mx).tr)).length≤140737488355000 by
      have:=HL1.out;rw [HT0.out,aQ,aA,aA] at this;simp [sg,sp,df] at this ⊢;omega)
     have HEq:=hid (show acc++[123]++af (pre++sg 58::sp::oP tb (NM.mk kx tx lx cx kk ax mx).tr)=acc++[123]++af pre++[58,32]++af (oP tb (NM.mk kx tx lx cx kk ax mx).tr) by
      rw [aQ,aA,aA];simp [sg,sp,df])
     have qpar:(j:Int) % 2=1:=by omega
     clear HT HZj HE0 h0 hpar;go_wp2_with fail;rw [← hw.out];clear hw;refine aH (S:=fun W=>W.heap[wr.heap.size]? = some (.cells #[.int .i64 kx,.string (bs tx),.int .i64 lx,.int .i64 cx,.slice ax kk.length mx] 27 (0,0))) (by kernel_rfl) ?_;obtain ⟨wd,hw,ac⟩:=dr1 wk;rw [← hw.out];clear hw;have hk0':=PK.of ac (Nat.le_of_lt HP1.out.lt.2);replace HP1:=hid (HP1.out.below ac);replace eZ:=hid (hk0'.row eZ.out m8 (by decide));replace HK1:=hid (HK1.out.trans hk0');replace Hx:=hid (am.keep (bh hk0'.below) Hx.out);clear hk0' ac;have hS:=eZ.out;refine zdA 0 (some 57) (.pointer (some ⟨pb,0,none⟩)) hS ?_
     try simp only [aPu,sA,sB,sC]
     refine zdA 1 (some 58) (.pointer (some ⟨pb,0,none⟩)) hS ?_
     try simp only [aPu,sA,sB,sC]
     refine zdA 2 (some 59) (.pointer (some ⟨pb,0,none⟩)) hS ?_
     try simp only [aPu,sA,sB,sC]
     refine zdA 4 (some 61) (.int .i64 (j:Int)) hS ?_
     try simp only [aPu,sA,sB,sC]
     refine zdD 5 (some 62) (.int .i64 1) hS ?_ (hv:=fun W _=>by go_simp;rw [Int.tmod_eq_emod_of_nonneg (by omega)];omega)
     try simp only [aPu,sA,sB,sC]
     refine zdC 3 ?_;intro K hK;go_simp;obtain ⟨we,hw,ac,hrs,hlts⟩:=an1 wd (.cells #[.string ⟨#[44,32]⟩,.string ⟨#[58,32]⟩] 9);have hk0':=PK.of ac (Nat.le_of_lt HP1.out.lt.2);replace HP1:=hid (HP1.out.below ac);replace eZ:=hid (hk0'.row eZ.out m8 (by decide));replace HK1:=hid (HK1.out.trans hk0');replace Hx:=hid (am.keep (bh hk0'.below) Hx.out);have hq:=cRo _ _ 1 _ _ _ hrs;clear hk0' ac hrs;rw [← hw.out];clear hw;clear hS;have hS:=eZ.out;refine hK.out _ _ hS ?_;clear hK K
     try simp only [aPu,sA,sB,sC]
     refine zdC 6 ?_;intro K hK;go_simp;refine hK.out _ _ hS ?_;clear hK K
     try simp only [aPu,sA,sB,sC]
     refine zdC 7 ?_;intro K hK;go_simp;refine hK.out _ _ hS ?_;clear hK K
     try simp only [aPu,sA,sB,sC]
     clear hq;refine zdC 8 ?_;intro K hK;go_simp;refine (iz pb (acc++[123]++af pre) tb [58,32] we HP1.out (by have:=HLx.out;simp only [lAp,lCo,lNi] at this ⊢;omega)).mono ?_;rintro e w2 ⟨rfl,hp2,hk2⟩;have zH:=hid (hk2.row eZ.out m8 (by decide));have Hx2:=hid (am.keep (bh hk2.below) Hx.out);have HP2:=hid hp2;have HK2:=hid (HK1.out.trans hk2);clear hp2 hk2 HP1 HK1 Hx eZ hS;go_wp2_with fail;refine hK.out _ _ zH.out ?_;clear hK K
     try simp only [aPu,sA,sB,sC]
     refine zdH ?_;obtain ⟨z0,z1,z2,z3,z4⟩:=r5 zH.out;go_wp2_with fail;clear z0 z1 z2 z3 z4;refine (HIj.out _ tb _ HP2.out Hx2.out htb HLx.out).mono ?_;rintro e w9 ⟨rfl,hp9,hk9⟩;have HP9:=hid hp9;have HK9:=hid (HK2.out.trans hk9);clear hp9 hk9 HP2 HK2;go_wp2_with fail
     go_round
     case rel=>exact ⟨j+1,by omega,by go_num,by rw [HT0.out,HEq.out];exact HP9.out,HK9.out⟩
     case measure=>simp [intOf];omega
    ·skip
     have q0:(0:Int)<(j:Int):=by omega
     have HT0:=hid (HT.out.trans ((if_neg (fun e=>h0 (HZj.out.1 e))).trans (if_neg hpar)));have HLx:=hid (show (acc++[123]++af pre++[44,32]).length+(af (oP tb (NM.mk kx tx lx cx kk ax mx).tr)).length≤140737488355000 by
      have:=HL1.out;rw [HT0.out,aQ,aA,aA] at this;simp [sg,sp,df] at this ⊢;omega)
     have HEq:=hid (show acc++[123]++af (pre++sg 44::sp::oP tb (NM.mk kx tx lx cx kk ax mx).tr)=acc++[123]++af pre++[44,32]++af (oP tb (NM.mk kx tx lx cx kk ax mx).tr) by
      rw [aQ,aA,aA];simp [sg,sp,df])
     have qpar:(j:Int) % 2=0:=by omega
     clear HT HZj HE0 h0 hpar;go_wp2_with fail;rw [← hw.out];clear hw;refine aH (S:=fun W=>W.heap[wr.heap.size]? = some (.cells #[.int .i64 kx,.string (bs tx),.int .i64 lx,.int .i64 cx,.slice ax kk.length mx] 27 (0,0))) (by kernel_rfl) ?_;obtain ⟨wd,hw,ac⟩:=dr1 wk;rw [← hw.out];clear hw;have hk0':=PK.of ac (Nat.le_of_lt HP1.out.lt.2);replace HP1:=hid (HP1.out.below ac);replace eZ:=hid (hk0'.row eZ.out m8 (by decide));replace HK1:=hid (HK1.out.trans hk0');replace Hx:=hid (am.keep (bh hk0'.below) Hx.out);clear hk0' ac;have hS:=eZ.out;refine zdA 0 (some 57) (.pointer (some ⟨pb,0,none⟩)) hS ?_
     try simp only [aPu,sA,sB,sC]
     refine zdA 1 (some 58) (.pointer (some ⟨pb,0,none⟩)) hS ?_
     try simp only [aPu,sA,sB,sC]
     refine zdA 2 (some 59) (.pointer (some ⟨pb,0,none⟩)) hS ?_
     try simp only [aPu,sA,sB,sC]
     refine zdA 4 (some 61) (.int .i64 (j:Int)) hS ?_
     try simp only [aPu,sA,sB,sC]
     refine zdD 5 (some 62) (.int .i64 0) hS ?_ (hv:=fun W _=>by go_simp;rw [Int.tmod_eq_emod_of_nonneg (by omega)];omega)
     try simp only [aPu,sA,sB,sC]
     refine zdC 3 ?_;intro K hK;go_simp;obtain ⟨we,hw,ac,hrs,hlts⟩:=an1 wd (.cells #[.string ⟨#[44,32]⟩,.string ⟨#[58,32]⟩] 9);have hk0':=PK.of ac (Nat.le_of_lt HP1.out.lt.2);replace HP1:=hid (HP1.out.below ac);replace eZ:=hid (hk0'.row eZ.out m8 (by decide));replace HK1:=hid (HK1.out.trans hk0');replace Hx:=hid (am.keep (bh hk0'.below) Hx.out);have hq:=cRo _ _ 0 _ _ _ hrs;clear hk0' ac hrs;rw [← hw.out];clear hw;clear hS;have hS:=eZ.out;refine hK.out _ _ hS ?_;clear hK K
     try simp only [aPu,sA,sB,sC]
     refine zdC 6 ?_;intro K hK;go_simp;refine hK.out _ _ hS ?_;clear hK K
     try simp only [aPu,sA,sB,sC]
     refine zdC 7 ?_;intro K hK;go_simp;refine hK.out _ _ hS ?_;clear hK K
     try simp only [aPu,sA,sB,sC]
     clear hq;refine zdC 8 ?_;intro K hK;go_simp;refine (iz pb (acc++[123]++af pre) tb [44,32] we HP1.out (by have:=HLx.out;simp only [lAp,lCo,lNi] at this ⊢;omega)).mono ?_;rintro e w2 ⟨rfl,hp2,hk2⟩;have zH:=hid (hk2.row eZ.out m8 (by decide));have Hx2:=hid (am.keep (bh hk2.below) Hx.out);have HP2:=hid hp2;have HK2:=hid (HK1.out.trans hk2);clear hp2 hk2 HP1 HK1 Hx eZ hS;go_wp2_with fail;refine hK.out _ _ zH.out ?_;clear hK K
     try simp only [aPu,sA,sB,sC]
     refine zdH ?_;obtain ⟨z0,z1,z2,z3,z4⟩:=r5 zH.out;go_wp2_with fail;clear z0 z1 z2 z3 z4;refine (HIj.out _ tb _ HP2.out Hx2.out htb HLx.out).mono ?_;rintro e w9 ⟨rfl,hp9,hk9⟩;have HP9:=hid hp9;have HK9:=hid (HK2.out.trans hk9);clear hp9 hk9 HP2 HK2;go_wp2_with fail
     go_round
     case rel=>exact ⟨j+1,by omega,by go_num,by rw [HT0.out,HEq.out];exact HP9.out,HK9.out⟩
     case measure=>simp [intOf];omega
  ·skip
   have hd:decide (j<ks.length)=false:=decide_eq_false aL;have hjk:j=ks.length:=by omega
   have HP9:=hid (show aO pb pb (acc++[123]++af (b7 out)) tb wr by rw [hjk,HE.out] at hp;exact hp);clear hjk hp hk2 HP;have HP:=HP9;clear HP9;go_wp2_with fail;refine (iJ pb (acc++[123]++af (b7 out)) tb 125 _ HP.out (by have:=HLn.out;simp only [lAp,lCo,lNi] at this ⊢;omega)).mono ?_;rintro e w3 ⟨rfl,hp,hk⟩;replace HP:=hid hp;replace HK:=hid (HK.out.trans hk);clear hp hk;go_wp2_with fail
   go_end0
   exact ⟨rfl,by show aO pb pb (acc++af _) tb _;rw [HAcc.out];exact HP.out,HK.out⟩
theorem ic (n:Nat) (l:List aJ):af (fB n++l)=List.replicate n 9++af l:=by
 unfold fB;split
 ·rename_i h;subst h;rfl
 ·rw [List.cons_append,aA];rfl
theorem vd (pb:Nat) (w:World) (v:Value):PK pb w (w.setCell ⟨pb,2,none⟩ v):=⟨(Below.refl pb w).setCell (p:=⟨pb,2,none⟩) (nRe _) v,(Lib.OthersKept.refl _ _ w).setCell ⟨pb,2,none⟩ rfl v⟩
theorem zak (pb:Nat) (t:List UInt8) (l c:Int) (ks:List NM) (a:Option Addr) (m:Nat) (T:Nat) (hT:T≤99990) (IH:∀ acc t w v,aO pb pb acc t w→el pb w v ks→t≤T+1→acc.length+(af (aX t (ks.map (fun (x:NM)=>oP t x.tr)))).length≤140737488355000→Calls Tryz.prog 24 #[.pointer (some ⟨pb,0,none⟩),v] w fun e w'=>e=.returned (.tuple #[])∧aO pb pb (acc++af (aX t (ks.map (fun (x:NM)=>oP t x.tr)))) t w'∧PK pb w w'):∀ acc tb w,aO pb pb acc tb w→am (·<pb) w (NM.mk 8 t l c ks a m)→tb≤T→acc.length+(af (oP tb (NM.mk 8 t l c ks a m).tr)).length≤140737488355000 →
  Calls Tryz.prog 81 #[.pointer (some ⟨pb,0,none⟩),aB 8 t l c (.slice a ks.length m)] w fun e w'=>e=.returned (.tuple #[])∧aO pb pb (acc++af (oP tb (NM.mk 8 t l c ks a m).tr)) tb w'∧PK pb w w':=by
 intro acc tb w h hh htb aF;change Calls _ _ #[_,aB 8 t l c (.slice a ks.length m)] _ _;have HKI:=hid (el.of hh);obtain ⟨la,lc,hv,iI,hlm,-⟩:=HKI.out.at;obtain ⟨rfl,rfl⟩:a=la∧m=lc:=by simpa using hv
 unfold maxLen at hlm;clear hv;have HAcc:=hid (show acc++af (oP tb (NM.mk 8 t l c ks a m).tr)=acc++[123,10]++af (aX (tb+1) (ks.map (fun (x:NM)=>oP (tb+1) x.tr)))++List.replicate tb 9++[125] by
  have hm:∀ n,oPs n (NM.trs ks)=ks.map (fun (x:NM)=>oP n x.tr):=fun n=>by rw [c8,bR,List.map_map];rfl
  rw [aq,bP,if_pos rfl,hm];show acc++af (es tb 8 t _ _)=_;unfold es;show acc++af (sg 123::nl::(aX (tb+1) _++(fB tb++[sg 125])))=_;rw [aA,aA,aQ,ic];simp [af,df,sg,nl]
 )
 have HLn:=hid (show (acc++[123,10]++af (aX (tb+1) (ks.map (fun (x:NM)=>oP (tb+1) x.tr)))++List.replicate tb 9++[125]).length≤140737488355000 by rw [← HAcc.out,lAp];exact aF);obtain ⟨w1,hw,ac,hr,hlt1⟩:=an1 w (.cells #[.int .i64 8,.string (bs t),.int .i64 l,.int .i64 c,.slice a ks.length m] 27);have hlt0:=h.lt.2;have HP:=hid (h.below ac);have HK:=hid (PK.of ac (Nat.le_of_lt hlt0));have aG:=hid hr;have cv:w.heap.size≠pb:=by omega
 clear h hh ac hr aF;go_enter Tryz.func81,Tryz.ntmps81
 go_wp2_with fail;rw [← hw.out];clear hw;refine (iz pb (acc) tb ([123,10]) _ HP.out (by have:=HLn.out;simp only [lAp,lCo,lNi] at this ⊢;omega)).mono ?_;rintro e w2 ⟨rfl,hp,hk⟩;replace HP:=hid hp;replace aG:=hid (hk.row aG.out cv (by decide));replace HK:=hid (HK.out.trans hk);clear hp hk;obtain ⟨pp,pv,hpr⟩:=HP.out.row;have pq:=cRo _ _ 2 _ _ _ hpr;have pf:=aw hpr 2;clear hpr;obtain ⟨wt1,hwt,hpt,hkt⟩:∃ W,Hid (W=w2.setCell ⟨pb,2,none⟩ (.int .i64 ((tb:Int)+1)))∧aO pb pb (acc++[123,10]) (tb+1) W∧PK pb w2 W:=⟨_,hid rfl,by have:=HP.out.tabs ((tb+1));rwa [show (((tb+1):Nat):Int)=(tb:Int)+1 by omega] at this,vd _ _ _⟩;obtain ⟨bJ,bI,bH,bK,bT⟩:=r5 aG.out;go_wp2_with fail;clear bJ bI bH bK bT;clear pq pf;rw [← hwt.out];clear hwt;replace HP:=hid hpt;replace aG:=hid (hkt.row aG.out cv (by decide));replace HK:=hid (HK.out.trans hkt);clear hkt hpt;refine (IH (acc++[123,10]) (tb+1) _ (.slice a ks.length m) HP.out (HKI.out.keep HK.out.below) (by omega) (by have:=HLn.out;simp only [lAp,lCo,lNi] at this ⊢;omega)).mono ?_;rintro e w3 ⟨rfl,hp,hk⟩;replace HP:=hid hp;replace aG:=hid (hk.row aG.out cv (by decide));replace HK:=hid (HK.out.trans hk);clear hp hk;have hcast:((tb+1:Nat):Int)=(tb:Int)+1:=by omega
 obtain ⟨pp,pv,hpr⟩:=HP.out.row;rw [hcast] at hpr;have pq:=cRo _ _ 2 _ _ _ hpr;have pf:=aw hpr 2;clear hpr hcast;obtain ⟨wt2,hwt,hpt,hkt⟩:∃ W,Hid (W=w3.setCell ⟨pb,2,none⟩ (.int .i64 (tb:Int)))∧aO pb pb (acc++[123,10]++af (aX (tb+1) (ks.map (fun (x:NM)=>oP (tb+1) x.tr)))) tb W∧PK pb w3 W:=⟨_,hid rfl,HP.out.tabs tb,vd _ _ _⟩;obtain ⟨bJ,bI,bH,bK,bT⟩:=r5 aG.out;go_wp2_with fail;clear bJ bI bH bK bT;clear pq pf;rw [← hwt.out];clear hwt;replace HP:=hid hpt;replace aG:=hid (hkt.row aG.out cv (by decide));replace HK:=hid (HK.out.trans hkt);clear hkt hpt;refine (sV pb (acc++[123,10]++af (aX (tb+1) (ks.map (fun (x:NM)=>oP (tb+1) x.tr)))) tb _ HP.out (by omega) (by have:=HLn.out;simp only [lAp,lCo,lNi,List.length_replicate] at this ⊢;omega)).mono ?_;rintro e w4 ⟨rfl,hp,hk⟩;replace HP:=hid hp;replace aG:=hid (hk.row aG.out cv (by decide));replace HK:=hid (HK.out.trans hk);clear hp hk;obtain ⟨bJ,bI,bH,bK,bT⟩:=r5 aG.out;go_wp2_with fail;clear bJ bI bH bK bT;refine (iJ pb (acc++[123,10]++af (aX (tb+1) (ks.map (fun (x:NM)=>oP (tb+1) x.tr)))++List.replicate tb 9) tb 125 _ HP.out (by have:=HLn.out;simp only [lAp,lCo,lNi] at this ⊢;omega)).mono ?_;rintro e w5 ⟨rfl,hp,hk⟩;replace HP:=hid hp;replace aG:=hid (hk.row aG.out cv (by decide));replace HK:=hid (HK.out.trans hk);clear hp hk;go_wp2_with fail
 go_end0
 exact ⟨rfl,by show aO pb pb (acc++af _) tb _;rw [HAcc.out];exact HP.out,HK.out⟩
theorem jp (n:Nat) (x:List aJ):∀ s:List (List aJ),af (aX n (s++[x]))=af (aX n s)++(List.replicate n 9++(af x++[10]))
 | []=>by
   show af (fB n++(x++[nl]))=_;rw [ic,aQ];simp [af,nl,df,aX]
 | a::r=>by
   have ih:=jp n x r;show af (fB n++(a++nl::aX n (r++[x])))=af (fB n++(a++nl::aX n r))++_;rw [ic,ic,aQ,aQ,aA,aA,ih];simp
theorem pZ (pb T:Nat) (ks:List NM) (hk0:ks.length≤1000000) (IH:∀ j (hj:j<ks.length) acc tb w,aO pb pb acc tb w→am (·<pb) w ks[j]→tb≤T→acc.length+(af (oP tb ks[j].tr)).length≤140737488355000 →
  Calls Tryz.prog 42 #[.pointer (some ⟨pb,0,none⟩),ks[j].val] w fun e w'=>e=.returned (.tuple #[])∧aO pb pb (acc++af (oP tb ks[j].tr)) tb w'∧PK pb w w')
  (acc:List UInt8) (t:Nat) (w:World) (v:Value) (h:aO pb pb acc t w) (hl:el pb w v ks) (ht:t≤T) (ht0:T≤100000) (aF:acc.length+(af (aX t (ks.map (fun (x:NM)=>oP t x.tr)))).length≤140737488355000) :
  Calls Tryz.prog 24 #[.pointer (some ⟨pb,0,none⟩),v] w fun e w'=>e=.returned (.tuple #[])∧aO pb pb (acc++af (aX t (ks.map (fun (x:NM)=>oP t x.tr)))) t w'∧PK pb w w':=by
 have HS:=hid (fun W (hW:Below pb w W)=>hl.keep hW);have HI:=hid IH;obtain ⟨la,lc,rfl,iI,hlm,-⟩:=hl.at;unfold maxLen at hlm;obtain ⟨out,hout⟩:∃ out:List (List aJ),out=ks.map (fun (x:NM)=>oP t x.tr):=⟨_,rfl⟩;rw [← hout] at aF ⊢;have hol:out.length=ks.length:=by rw [hout,List.length_map]
 have HL:=hid (fun j (hj:j≤ks.length)=>(show acc.length+(af (aX t (out.take j))).length≤140737488355000 by
  refine nT ?_ aF;have hsuf:∀ (r s:List (List aJ)),(af (aX t s)).length≤(af (aX t (s++r))).length:=by
   intro r;induction r with
   | nil=>intro s;rw [List.append_nil];exact nRe _
   | cons x r ih=>intro s;have h2:=ih (s++[x]);rw [List.append_assoc,jp] at h2;simp only [lAp] at h2;exact nT (by omega) h2
  have:=hsuf (out.drop j) (out.take j);rw [List.take_append_drop] at this;omega))
 have HO:=hid (fun j (hj:j<ks.length)=>(show af (aX t (out.take (j+1)))=af (aX t (out.take j))++(List.replicate t 9++(af (oP t ks[j].tr)++[10])) by
  rw [List.take_succ_eq_append_getElem (by omega),jp];have e:out[j]'(by omega)=oP t ks[j].tr:=by simp only [hout,List.getElem_map]
  rw [e]))
 have HE:=hid (show out.take ks.length=out from List.take_of_length_le (by omega));have H0:=hid h;clear hl IH h aF hout hol;go_enter Tryz.func24,Tryz.ntmps24
 go_wp2_with fail;go_loopw [8] (fun i wr=>∃ j:Nat,j≤ks.length∧i=.int .i64 j∧aO pb pb (acc++af (aX t (out.take j))) t wr∧PK pb w wr) (fun i _=>ks.length - (intOf i).toNat)
 case atStart=>exact ⟨0,by omega,rfl,by rw [List.take_zero];show aO pb pb (acc++[]) t w;rw [List.append_nil];exact H0.out,PK.refl _ _⟩
 case round =>
  clear H0;obtain ⟨j,hj,rfl,hp,hk2⟩:=hrel;have HP:=hid hp;have HK:=hid hk2;have hlt0:pb<wr.heap.size:=hp.lt.2;by_cases aL:j<ks.length
  ·have hd:decide (j<ks.length)=true:=decide_eq_true aL;have HKI:=hid (HS.out _ hk2.below);obtain ⟨la',lc',hv,-,-,hx⟩:=HKI.out.at;obtain ⟨lb,lo,rfl,hlb,cw⟩:=hx (by omega);obtain ⟨rfl,rfl⟩:la=some ⟨lb,lo,none⟩∧lc=lc':=by simpa using hv
   have hfc:=cw j aL;have HIj:=hid (HI.out j aL);have hZ:=hid (fG HKI.out.held j aL);have HL1:=hid (HL.out (j+1) (by omega));have HT:=hid (HO.out j aL);generalize af (aX t (out.take j))=pre at *;generalize ks[j]=x at *;cases x with
   | mk kx tx lx cx kk ax mx =>
   have HLx:=hid (show (acc++pre++List.replicate t 9++af (oP t (NM.mk kx tx lx cx kk ax mx).tr)++[10]).length≤140737488355000 by
    have:=HL1.out;rw [HT.out] at this;simp only [lAp] at this ⊢;omega)
   obtain ⟨c0,c1,c2,c3,c4⟩:=aj hfc;clear cw hx hv hk2 hp HKI HL1;obtain ⟨w1,hw,ac,hr,hlt1⟩:=an1 wr (.cells #[.int .i64 kx,.string (bs tx),.int .i64 lx,.int .i64 cx,.slice ax kk.length mx] 27);have HP1:=hid (HP.out.below ac);have HK1:=hid (HK.out.trans (PK.of ac (Nat.le_of_lt hlt0)));have hh1:=hid (am.keep (bh (ac.mono (Nat.le_of_lt hlt0))) hZ.out);have HR1:=hid hr;have nb:wr.heap.size≠pb:=by omega
   clear HP hZ ac hr;go_wp2_with fail;rw [← hw.out];clear hw;refine (sV pb _ t w1 HP1.out (by omega) (by have:=HLx.out;simp only [lAp,lCo,lNi,List.length_replicate] at this ⊢;omega)).mono ?_;rintro e w2 ⟨rfl,hp2,hk2⟩;have HR2:=hid (hk2.row HR1.out nb (by decide));have hh2:=hid (am.keep (bh hk2.below) hh1.out);have HP2:=hid hp2;have HK2:=hid (HK1.out.trans hk2);clear hp2 hk2 HP1 HK1 hh1 HR1;obtain ⟨z0,z1,z2,z3,z4⟩:=r5 HR2.out;go_wp2_with fail;clear z0 z1 z2 z3 z4;refine (HIj.out _ t w2 HP2.out hh2.out ht (by have:=HLx.out;simp only [lAp,lCo,lNi] at this ⊢;omega)).mono ?_;rintro e w3 ⟨rfl,hp3,hk3⟩;have HP3:=hid hp3;have HK3:=hid (HK2.out.trans hk3);clear hp3 hk3 HP2 HK2;go_wp2_with fail;refine (iJ pb _ t 10 _ HP3.out (by have:=HLx.out;simp only [lAp,lCo,lNi] at this ⊢;omega)).mono ?_;rintro e w4 ⟨rfl,hp4,hk4⟩;have HP4:=hid hp4;have HK4:=hid (HK3.out.trans hk4);clear hp4 hk4 HP3 HK3;go_wp2_with fail
   go_round
   case rel=>exact ⟨j+1,by omega,by go_num,by rw [HT.out];simpa only [List.append_assoc] using HP4.out,HK4.out⟩
   case measure=>simp [intOf];omega
  ·have hd:decide (j<ks.length)=false:=decide_eq_false aL;have hjk:j=ks.length:=by omega
   have HZ:=hid (show aO pb pb (acc++af (aX t out)) t wr by rw [hjk,HE.out] at hp;exact hp);clear hjk hp;go_wp2_with fail
   go_end0
   exact ⟨rfl,HZ.out,hk2⟩
def jc (T:Nat) (F:FuncId) (pb:Nat) (out:Nat→List aJ) (x:NM):Prop :=
 ∀ acc t w,aO pb pb acc t w→am (·<pb) w x→t≤T→acc.length+(af (out t)).length≤140737488355000 →
   Calls Tryz.prog F #[.pointer (some ⟨pb,0,none⟩),x.val] w fun e w'=>e=.returned (.tuple #[])∧aO pb pb (acc++af (out t)) t w'∧PK pb w w'
theorem zcl (pb:Nat) (t:List UInt8) (l c:Int) (kx:Int) (tx:List UInt8) (lx cx:Int) (ksx:List NM) (ax:Option Addr) (mx:Nat) (a:Option Addr) (m:Nat) (T:Nat) (hT:T≤99990) (htn:t≠[]) (IHn:fy 79 pb (fun n=>gK n (NM.mk 2 t l c [(NM.mk kx tx lx cx ksx ax mx)] a m).tr) (NM.mk 2 t l c [(NM.mk kx tx lx cx ksx ax mx)] a m)):jc T 42 pb (fun n=>oP n (NM.mk 2 t l c [(NM.mk kx tx lx cx ksx ax mx)] a m).tr) (NM.mk 2 t l c [(NM.mk kx tx lx cx ksx ax mx)] a m):=by
 intro acc tb w h hh htT aF;have htb:tb≤100000:=by omega
 have HN:=hid hh;change Calls _ _ #[_,aB 2 t l c (.slice a 1 m)] _ _;obtain ⟨kb,ko,ha,bk,hkw,hkm,hkM,cw⟩:=fc hh (by simp);subst ha;unfold maxLen at hkM;have hkm1:1≤m:=by simpa using hkm
 clear hkm;have Fx:=hid (show dn w kb ko (NM.mk kx tx lx cx ksx ax mx) from cw 0 (by simp));have Hx:=hid (show am (·<pb) w (NM.mk kx tx lx cx ksx ax mx) from ep hh 0 (by simp));clear cw;have HAcc:=hid (show acc++af (oP tb (NM.mk 2 t l c [(NM.mk kx tx lx cx ksx ax mx)] (some ⟨kb,ko,none⟩) m).tr)=acc++af (gK tb (NM.mk 2 t l c [(NM.mk kx tx lx cx ksx ax mx)] (some ⟨kb,ko,none⟩) m).tr)++[59] by
  rw [aq,bP,ai,ar,c8];show acc++af (es tb 2 t _ _)=_;unfold es gK;rw [show (Tr.mk 2 t [(NM.mk kx tx lx cx ksx ax mx).tr]).tx=t from rfl];simp [af,df,sp,sg,Tr.kids,htn]
 )
 have HLn:=hid (show (acc++af (gK tb (NM.mk 2 t l c [(NM.mk kx tx lx cx ksx ax mx)] (some ⟨kb,ko,none⟩) m).tr)++[59]).length≤140737488355000 by rw [← HAcc.out,lAp];exact aF);obtain ⟨w1,hw,ac,hr,hlt1⟩:=an1 w (.cells #[.int .i64 2,.string (bs t),.int .i64 l,.int .i64 c,.slice (some ⟨kb,ko,none⟩) 1 m] 27);have hlt0:=h.lt.2;have HP:=hid (h.below ac);have HK:=hid (PK.of ac (Nat.le_of_lt hlt0));have aG:=hid hr;have cv:w.heap.size≠pb:=by omega
 clear h hh ac hr aF;obtain ⟨w1',hw',ac,hr,hlt2⟩:=an1 w1 (.cells #[.int .i64 kx,.string (bs tx),.int .i64 lx,.int .i64 cx,.slice ax ksx.length mx] 27);have hk0':=PK.of ac (Nat.le_of_lt HP.out.lt.2);replace HP:=hid (HP.out.below ac);replace aG:=hid (hk0'.row aG.out cv (by decide));replace HK:=hid (HK.out.trans hk0');have hs1:w1.heap.size=w.heap.size+1:=by rw [hw.out,wSz]
 rw [hs1] at hr;have fJ:=hid hr;have lH:w.heap.size+1≠pb:=by omega
 clear ac hr hk0' hs1 hlt2;obtain ⟨yx0,yx1,yx2,yx3,yx4⟩:=aj Fx.out;go_enter Tryz.func42,Tryz.ntmps42
 go_wp2_with fail;rw [← hw.out];rw [← hw'.out];clear hw hw';clear yx0 yx1 yx2 yx3 yx4;refine (IHn acc tb _ HP.out (am.keep (bh HK.out.below) HN.out) htb (by have:=HLn.out;simp only [lAp,lCo,lNi] at this ⊢;omega)).mono ?_;rintro e w2 ⟨rfl,hp,hk⟩;replace HP:=hid hp;replace aG:=hid (hk.row aG.out cv (by decide));replace fJ:=hid (hk.row fJ.out lH (by decide));replace HK:=hid (HK.out.trans hk);clear hp hk;obtain ⟨bJ,bI,bH,bK,bT⟩:=r5 aG.out;obtain ⟨fX,fW,fP,fT,fQ⟩:=r5 fJ.out;obtain ⟨yx0,yx1,yx2,yx3,yx4⟩:=aj (Fx.out.keep (HK.out.below.block kb bk));have hkl:kb<w2.heap.size:=nL hkw HK.out.below.size;go_wp2_with fail;clear bJ bI bH bK bT fX fW fP fT fQ yx0 yx1 yx2 yx3 yx4 hkl;refine (iJ pb (acc++af (gK tb (NM.mk 2 t l c [(NM.mk kx tx lx cx ksx ax mx)] (some ⟨kb,ko,none⟩) m).tr)) tb 59 _ HP.out (by have:=HLn.out;simp only [lAp,lCo,lNi] at this ⊢;omega)).mono ?_;rintro e w3 ⟨rfl,hp,hk⟩;replace HP:=hid hp;replace aG:=hid (hk.row aG.out cv (by decide));replace fJ:=hid (hk.row fJ.out lH (by decide));replace HK:=hid (HK.out.trans hk);clear hp hk;go_wp2_with fail
 go_end0
 exact ⟨rfl,by show aO pb pb (acc++af _) tb _;rw [HAcc.out];exact HP.out,HK.out⟩
theorem zbJ (pb:Nat)  (l c:Int) (kx:Int) (tx:List UInt8) (lx cx:Int) (ksx:List NM) (ax:Option Addr) (mx:Nat) (a:Option Addr) (m:Nat) (T:Nat) (hT:T≤99990) (IHx:fy 80 pb (fun n=>oP n (NM.mk kx tx lx cx ksx ax mx).tr) (NM.mk kx tx lx cx ksx ax mx)):jc T 42 pb (fun n=>oP n (NM.mk 3 [] l c [(NM.mk kx tx lx cx ksx ax mx)] a m).tr) (NM.mk 3 [] l c [(NM.mk kx tx lx cx ksx ax mx)] a m):=by
 intro acc tb w h hh htT aF;have htb:tb≤100000:=by omega
 change Calls _ _ #[_,aB 3 [] l c (.slice a 1 m)] _ _;obtain ⟨kb,ko,ha,bk,hkw,hkm,hkM,cw⟩:=fc hh (by simp);subst ha;unfold maxLen at hkM;have hkm1:1≤m:=by simpa using hkm
 clear hkm;have Fx:=hid (show dn w kb ko (NM.mk kx tx lx cx ksx ax mx) from cw 0 (by simp));have Hx:=hid (show am (·<pb) w (NM.mk kx tx lx cx ksx ax mx) from ep hh 0 (by simp));clear cw;have HAcc:=hid (show acc++af (oP tb (NM.mk 3 [] l c [(NM.mk kx tx lx cx ksx ax mx)] (some ⟨kb,ko,none⟩) m).tr)=acc++af (oP tb (NM.mk kx tx lx cx ksx ax mx).tr)++[59] by
  rw [aq,bP,ai,ar,c8];show acc++af (es tb 3 [] _ _)=_;unfold es;simp [af,df,sg]
 )
 have HLn:=hid (show (acc++af (oP tb (NM.mk kx tx lx cx ksx ax mx).tr)++[59]).length≤140737488355000 by rw [← HAcc.out,lAp];exact aF);obtain ⟨w1,hw,ac,hr,hlt1⟩:=an1 w (.cells #[.int .i64 3,.string (bs []),.int .i64 l,.int .i64 c,.slice (some ⟨kb,ko,none⟩) 1 m] 27);have hlt0:=h.lt.2;have HP:=hid (h.below ac);have HK:=hid (PK.of ac (Nat.le_of_lt hlt0));have aG:=hid hr;have cv:w.heap.size≠pb:=by omega
 clear h hh ac hr aF;obtain ⟨w1',hw',ac,hr,hlt2⟩:=an1 w1 (.cells #[.int .i64 kx,.string (bs tx),.int .i64 lx,.int .i64 cx,.slice ax ksx.length mx] 27);have hk0':=PK.of ac (Nat.le_of_lt HP.out.lt.2);replace HP:=hid (HP.out.below ac);replace aG:=hid (hk0'.row aG.out cv (by decide));replace HK:=hid (HK.out.trans hk0');have hs1:w1.heap.size=w.heap.size+1:=by rw [hw.out,wSz]
 rw [hs1] at hr;have fJ:=hid hr;have lH:w.heap.size+1≠pb:=by omega
 clear ac hr hk0' hs1 hlt2;obtain ⟨yx0,yx1,yx2,yx3,yx4⟩:=aj Fx.out;go_enter Tryz.func42,Tryz.ntmps42
 go_wp2_with fail;rw [← hw.out];rw [← hw'.out];clear hw hw';clear yx0 yx1 yx2 yx3 yx4;refine (IHx (acc) tb _ HP.out (am.keep (bh HK.out.below) Hx.out) htb (by have:=HLn.out;simp only [lAp,lCo,lNi] at this ⊢;omega)).mono ?_;rintro e w2 ⟨rfl,hp,hk⟩;replace HP:=hid hp;replace aG:=hid (hk.row aG.out cv (by decide));replace fJ:=hid (hk.row fJ.out lH (by decide));replace HK:=hid (HK.out.trans hk);clear hp hk;obtain ⟨bJ,bI,bH,bK,bT⟩:=r5 aG.out;obtain ⟨fX,fW,fP,fT,fQ⟩:=r5 fJ.out;obtain ⟨yx0,yx1,yx2,yx3,yx4⟩:=aj (Fx.out.keep (HK.out.below.block kb bk));have hkl:kb<w2.heap.size:=nL hkw HK.out.below.size;go_wp2_with fail;clear bJ bI bH bK bT fX fW fP fT fQ yx0 yx1 yx2 yx3 yx4 hkl;refine (iJ pb (acc++af (oP tb (NM.mk kx tx lx cx ksx ax mx).tr)) tb 59 _ HP.out (by have:=HLn.out;simp only [lAp,lCo,lNi] at this ⊢;omega)).mono ?_;rintro e w3 ⟨rfl,hp,hk⟩;replace HP:=hid hp;replace aG:=hid (hk.row aG.out cv (by decide));replace fJ:=hid (hk.row fJ.out lH (by decide));replace HK:=hid (HK.out.trans hk);clear hp hk;go_wp2_with fail
 go_end0
 exact ⟨rfl,by show aO pb pb (acc++af _) tb _;rw [HAcc.out];exact HP.out,HK.out⟩
theorem zbM (pb:Nat) (t:List UInt8) (l c:Int) (kx:Int) (tx:List UInt8) (lx cx:Int) (ksx:List NM) (ax:Option Addr) (mx:Nat) (ky:Int) (ty:List UInt8) (ly cy:Int) (ksy:List NM) (ay:Option Addr) (my:Nat) (a:Option Addr) (m:Nat) (T:Nat) (hT:T≤99990) (IHx:fy 80 pb (fun n=>oP n (NM.mk kx tx lx cx ksx ax mx).tr) (NM.mk kx tx lx cx ksx ax mx)) (IHy:jc T 81 pb (fun n=>oP n (NM.mk ky ty ly cy ksy ay my).tr) (NM.mk ky ty ly cy ksy ay my)):jc T 42 pb (fun n=>oP n (NM.mk 4 t l c [(NM.mk kx tx lx cx ksx ax mx),(NM.mk ky ty ly cy ksy ay my)] a m).tr) (NM.mk 4 t l c [(NM.mk kx tx lx cx ksx ax mx),(NM.mk ky ty ly cy ksy ay my)] a m):=by
 intro acc tb w h hh htT aF;have htb:tb≤100000:=by omega
 change Calls _ _ #[_,aB 4 t l c (.slice a 2 m)] _ _;obtain ⟨kb,ko,ha,bk,hkw,hkm,hkM,cw⟩:=fc hh (by simp);subst ha;unfold maxLen at hkM;have hkm1:2≤m:=by simpa using hkm
 clear hkm;have Fx:=hid (show dn w kb ko (NM.mk kx tx lx cx ksx ax mx) from cw 0 (by simp));have Hx:=hid (show am (·<pb) w (NM.mk kx tx lx cx ksx ax mx) from ep hh 0 (by simp));have Fy:=hid (show dn w kb (ko+5) (NM.mk ky ty ly cy ksy ay my) from cw 1 (by simp));have Hy:=hid (show am (·<pb) w (NM.mk ky ty ly cy ksy ay my) from ep hh 1 (by simp));clear cw;have HAcc:=hid (show acc++af (oP tb (NM.mk 4 t l c [(NM.mk kx tx lx cx ksx ax mx),(NM.mk ky ty ly cy ksy ay my)] (some ⟨kb,ko,none⟩) m).tr)=acc++(102::111::114::32::(t++[32,105,110,32]))++af (oP tb (NM.mk kx tx lx cx ksx ax mx).tr)++[32]++af (oP tb (NM.mk ky ty ly cy ksy ay my).tr) by
  rw [aq,bP,ai,ai,ar,c8];show acc++af (es tb 4 t _ _)=_;unfold es;simp [af,df,sp,i6,wIn]
 )
 have HLn:=hid (show (acc++(102::111::114::32::(t++[32,105,110,32]))++af (oP tb (NM.mk kx tx lx cx ksx ax mx).tr)++[32]++af (oP tb (NM.mk ky ty ly cy ksy ay my).tr)).length≤140737488355000 by rw [← HAcc.out,lAp];exact aF);have hl_t:t.length≤140737488355000:=by have:=HLn.out;simp only [lAp,lCo] at this;omega
 obtain ⟨w1,hw,ac,hr,hlt1⟩:=an1 w (.cells #[.int .i64 4,.string (bs t),.int .i64 l,.int .i64 c,.slice (some ⟨kb,ko,none⟩) 2 m] 27);have hlt0:=h.lt.2;have HP:=hid (h.below ac);have HK:=hid (PK.of ac (Nat.le_of_lt hlt0));have aG:=hid hr;have cv:w.heap.size≠pb:=by omega
 clear h hh ac hr aF;obtain ⟨w1',hw',ac,hr,hlt2⟩:=an1 w1 (.cells #[.int .i64 ky,.string (bs ty),.int .i64 ly,.int .i64 cy,.slice ay ksy.length my] 27);have hk0':=PK.of ac (Nat.le_of_lt HP.out.lt.2);replace HP:=hid (HP.out.below ac);replace aG:=hid (hk0'.row aG.out cv (by decide));replace HK:=hid (HK.out.trans hk0');have hs1:w1.heap.size=w.heap.size+1:=by rw [hw.out,wSz]
 rw [hs1] at hr;have fJ:=hid hr;have lH:w.heap.size+1≠pb:=by omega
 clear ac hr hk0' hs1 hlt2;obtain ⟨yx0,yx1,yx2,yx3,yx4⟩:=aj Fx.out;obtain ⟨yy0,yy1,yy2,yy3,yy4⟩:=aj Fy.out;go_enter Tryz.func42,Tryz.ntmps42
 go_wp2_with fail;rw [← hw.out];rw [← hw'.out];clear hw hw';clear yx0 yx1 yx2 yx3 yx4 yy0 yy1 yy2 yy3 yy4;refine aH (S:=fun W=>W.heap[w.heap.size]? = some (.cells #[.int .i64 4,.string (bs t),.int .i64 l,.int .i64 c,.slice (some ⟨kb,ko,none⟩) 2 m] 27 (0,0))) (by kernel_rfl) ?_;obtain ⟨w2,hw,ac⟩:=dr1 w1';rw [← hw.out];clear hw;have hk:=PK.of ac (Nat.le_of_lt HP.out.lt.2);replace HP:=hid (HP.out.below ac);replace aG:=hid (hk.row aG.out cv (by decide));replace fJ:=hid (hk.row fJ.out lH (by decide));replace HK:=hid (HK.out.trans hk);clear ac hk;have hS:=aG.out;refine zdA 0 (some 35) (.pointer (some ⟨pb,0,none⟩)) hS ?_
 try simp only [aPu,sA,sB,sC]
 refine zdA 1 (some 36) (.pointer (some ⟨pb,0,none⟩)) hS ?_
 try simp only [aPu,sA,sB,sC]
 refine zdA 2 (some 37) (.pointer (some ⟨pb,0,none⟩)) hS ?_
 try simp only [aPu,sA,sB,sC]
 refine zdA 3 (some 38) (.pointer (some ⟨w.heap.size,1,none⟩)) hS ?_
 try simp only [aPu,sA,sB,sC]
 refine zdD 4 (some 39) (.string (bs t)) hS ?_ (hv:=fun W hW=>by have q:W.cell? ⟨w.heap.size,1,none⟩=some (.string (bs t)):=cRo W _ 1 _ _ _ hW;go_simp)
 try simp only [aPu,sA,sB,sC]
 refine zdD 5 (some 40) (.string (bs (102::111::114::32::t))) hS ?_ (hv:=fun W _=>by first | (go_simp;done) | (go_simp;omega))
 try simp only [aPu,sA,sB,sC]
 refine zdD 6 (some 41) (.string (bs (102::111::114::32::(t++[32,105,110,32])))) hS ?_ (hv:=fun W _=>by first | (go_simp;done) | (go_simp;omega))
 try simp only [aPu,sA,sB,sC]
 refine zdC 7 ?_;intro K hK;go_simp;refine (iz pb (acc) tb ((102::111::114::32::(t++[32,105,110,32]))) _ HP.out (by have:=HLn.out;simp only [lAp,lCo,lNi] at this ⊢;omega)).mono ?_;rintro e w3 ⟨rfl,hp,hk⟩;replace HP:=hid hp;replace aG:=hid (hk.row aG.out cv (by decide));replace fJ:=hid (hk.row fJ.out lH (by decide));replace HK:=hid (HK.out.trans hk);clear hp hk;go_wp2_with fail;clear hS;have hS:=aG.out;refine hK.out _ _ hS ?_;clear hK K
 try simp only [aPu,sA,sB,sC]
 refine zdH ?_;clear hS;obtain ⟨bJ,bI,bH,bK,bT⟩:=r5 aG.out;obtain ⟨fX,fW,fP,fT,fQ⟩:=r5 fJ.out;obtain ⟨yx0,yx1,yx2,yx3,yx4⟩:=aj (Fx.out.keep (HK.out.below.block kb bk));obtain ⟨yy0,yy1,yy2,yy3,yy4⟩:=aj (Fy.out.keep (HK.out.below.block kb bk));have hkl:kb<w3.heap.size:=nL hkw HK.out.below.size;go_wp2_with fail;clear bJ bI bH bK bT fX fW fP fT fQ yx0 yx1 yx2 yx3 yx4 yy0 yy1 yy2 yy3 yy4 hkl;refine (IHx (acc++(102::111::114::32::(t++[32,105,110,32]))) tb _ HP.out (am.keep (bh HK.out.below) Hx.out) htb (by have:=HLn.out;simp only [lAp,lCo,lNi] at this ⊢;omega)).mono ?_;rintro e w4 ⟨rfl,hp,hk⟩;replace HP:=hid hp;replace aG:=hid (hk.row aG.out cv (by decide));replace fJ:=hid (hk.row fJ.out lH (by decide));replace HK:=hid (HK.out.trans hk);clear hp hk;obtain ⟨bJ,bI,bH,bK,bT⟩:=r5 aG.out;obtain ⟨fX,fW,fP,fT,fQ⟩:=r5 fJ.out;obtain ⟨yx0,yx1,yx2,yx3,yx4⟩:=aj (Fx.out.keep (HK.out.below.block kb bk));obtain ⟨yy0,yy1,yy2,yy3,yy4⟩:=aj (Fy.out.keep (HK.out.below.block kb bk));have hkl:kb<w4.heap.size:=nL hkw HK.out.below.size;go_wp2_with fail;clear bJ bI bH bK bT fX fW fP fT fQ yx0 yx1 yx2 yx3 yx4 yy0 yy1 yy2 yy3 yy4 hkl;refine (iJ pb (acc++(102::111::114::32::(t++[32,105,110,32]))++af (oP tb (NM.mk kx tx lx cx ksx ax mx).tr)) tb 32 _ HP.out (by have:=HLn.out;simp only [lAp,lCo,lNi] at this ⊢;omega)).mono ?_;rintro e w5 ⟨rfl,hp,hk⟩;replace HP:=hid hp;replace aG:=hid (hk.row aG.out cv (by decide));replace fJ:=hid (hk.row fJ.out lH (by decide));replace HK:=hid (HK.out.trans hk);clear hp hk;obtain ⟨bJ,bI,bH,bK,bT⟩:=r5 aG.out;obtain ⟨fX,fW,fP,fT,fQ⟩:=r5 fJ.out;obtain ⟨yx0,yx1,yx2,yx3,yx4⟩:=aj (Fx.out.keep (HK.out.below.block kb bk));obtain ⟨yy0,yy1,yy2,yy3,yy4⟩:=aj (Fy.out.keep (HK.out.below.block kb bk));have hkl:kb<w5.heap.size:=nL hkw HK.out.below.size;go_wp2_with fail;clear bJ bI bH bK bT fX fW fP fT fQ yx0 yx1 yx2 yx3 yx4 yy0 yy1 yy2 yy3 yy4 hkl;refine (IHy (acc++(102::111::114::32::(t++[32,105,110,32]))++af (oP tb (NM.mk kx tx lx cx ksx ax mx).tr)++[32]) tb _ HP.out (am.keep (bh HK.out.below) Hy.out) htT (by have:=HLn.out;simp only [lAp,lCo,lNi] at this ⊢;omega)).mono ?_;rintro e w6 ⟨rfl,hp,hk⟩;replace HP:=hid hp;replace aG:=hid (hk.row aG.out cv (by decide));replace fJ:=hid (hk.row fJ.out lH (by decide));replace HK:=hid (HK.out.trans hk);clear hp hk;go_wp2_with fail
 go_end0
 exact ⟨rfl,by show aO pb pb (acc++af _) tb _;rw [HAcc.out];exact HP.out,HK.out⟩
theorem zbf (pb:Nat)  (l c:Int) (kx:Int) (tx:List UInt8) (lx cx:Int) (ksx:List NM) (ax:Option Addr) (mx:Nat) (ky:Int) (ty:List UInt8) (ly cy:Int) (ksy:List NM) (ay:Option Addr) (my:Nat) (a:Option Addr) (m:Nat) (T:Nat) (hT:T≤99990) (IHx:fy 80 pb (fun n=>oP n (NM.mk kx tx lx cx ksx ax mx).tr) (NM.mk kx tx lx cx ksx ax mx)) (IHy:jc T 81 pb (fun n=>oP n (NM.mk ky ty ly cy ksy ay my).tr) (NM.mk ky ty ly cy ksy ay my)):jc T 42 pb (fun n=>oP n (NM.mk 5 [] l c [(NM.mk kx tx lx cx ksx ax mx),(NM.mk ky ty ly cy ksy ay my)] a m).tr) (NM.mk 5 [] l c [(NM.mk kx tx lx cx ksx ax mx),(NM.mk ky ty ly cy ksy ay my)] a m):=by
 intro acc tb w h hh htT aF;have htb:tb≤100000:=by omega
 change Calls _ _ #[_,aB 5 [] l c (.slice a 2 m)] _ _;obtain ⟨kb,ko,ha,bk,hkw,hkm,hkM,cw⟩:=fc hh (by simp);subst ha;unfold maxLen at hkM;have hkm1:2≤m:=by simpa using hkm
 clear hkm;have Fx:=hid (show dn w kb ko (NM.mk kx tx lx cx ksx ax mx) from cw 0 (by simp));have Hx:=hid (show am (·<pb) w (NM.mk kx tx lx cx ksx ax mx) from ep hh 0 (by simp));have Fy:=hid (show dn w kb (ko+5) (NM.mk ky ty ly cy ksy ay my) from cw 1 (by simp));have Hy:=hid (show am (·<pb) w (NM.mk ky ty ly cy ksy ay my) from ep hh 1 (by simp));clear cw;have HAcc:=hid (show acc++af (oP tb (NM.mk 5 [] l c [(NM.mk kx tx lx cx ksx ax mx),(NM.mk ky ty ly cy ksy ay my)] (some ⟨kb,ko,none⟩) m).tr)=acc++[105,102,32]++af (oP tb (NM.mk kx tx lx cx ksx ax mx).tr)++[32]++af (oP tb (NM.mk ky ty ly cy ksy ay my).tr) by
  rw [aq,bP,ai,ai,ar,c8];show acc++af (es tb 5 [] _ _)=_;unfold es;simp [af,df,sp,wIf]
 )
 have HLn:=hid (show (acc++[105,102,32]++af (oP tb (NM.mk kx tx lx cx ksx ax mx).tr)++[32]++af (oP tb (NM.mk ky ty ly cy ksy ay my).tr)).length≤140737488355000 by rw [← HAcc.out,lAp];exact aF);obtain ⟨w1,hw,ac,hr,hlt1⟩:=an1 w (.cells #[.int .i64 5,.string (bs []),.int .i64 l,.int .i64 c,.slice (some ⟨kb,ko,none⟩) 2 m] 27);have hlt0:=h.lt.2;have HP:=hid (h.below ac);have HK:=hid (PK.of ac (Nat.le_of_lt hlt0));have aG:=hid hr;have cv:w.heap.size≠pb:=by omega
 clear h hh ac hr aF;obtain ⟨w1',hw',ac,hr,hlt2⟩:=an1 w1 (.cells #[.int .i64 ky,.string (bs ty),.int .i64 ly,.int .i64 cy,.slice ay ksy.length my] 27);have hk0':=PK.of ac (Nat.le_of_lt HP.out.lt.2);replace HP:=hid (HP.out.below ac);replace aG:=hid (hk0'.row aG.out cv (by decide));replace HK:=hid (HK.out.trans hk0');have hs1:w1.heap.size=w.heap.size+1:=by rw [hw.out,wSz]
 rw [hs1] at hr;have fJ:=hid hr;have lH:w.heap.size+1≠pb:=by omega
 clear ac hr hk0' hs1 hlt2;obtain ⟨yx0,yx1,yx2,yx3,yx4⟩:=aj Fx.out;obtain ⟨yy0,yy1,yy2,yy3,yy4⟩:=aj Fy.out;go_enter Tryz.func42,Tryz.ntmps42
 go_wp2_with fail;rw [← hw.out];rw [← hw'.out];clear hw hw';clear yx0 yx1 yx2 yx3 yx4 yy0 yy1 yy2 yy3 yy4;refine (iz pb (acc) tb ([105,102,32]) _ HP.out (by have:=HLn.out;simp only [lAp,lCo,lNi] at this ⊢;omega)).mono ?_;rintro e w2 ⟨rfl,hp,hk⟩;replace HP:=hid hp;replace aG:=hid (hk.row aG.out cv (by decide));replace fJ:=hid (hk.row fJ.out lH (by decide));replace HK:=hid (HK.out.trans hk);clear hp hk;obtain ⟨bJ,bI,bH,bK,bT⟩:=r5 aG.out;obtain ⟨fX,fW,fP,fT,fQ⟩:=r5 fJ.out;obtain ⟨yx0,yx1,yx2,yx3,yx4⟩:=aj (Fx.out.keep (HK.out.below.block kb bk));obtain ⟨yy0,yy1,yy2,yy3,yy4⟩:=aj (Fy.out.keep (HK.out.below.block kb bk));have hkl:kb<w2.heap.size:=nL hkw HK.out.below.size;go_wp2_with fail;clear bJ bI bH bK bT fX fW fP fT fQ yx0 yx1 yx2 yx3 yx4 yy0 yy1 yy2 yy3 yy4 hkl;refine (IHx (acc++[105,102,32]) tb _ HP.out (am.keep (bh HK.out.below) Hx.out) htb (by have:=HLn.out;simp only [lAp,lCo,lNi] at this ⊢;omega)).mono ?_;rintro e w3 ⟨rfl,hp,hk⟩;replace HP:=hid hp;replace aG:=hid (hk.row aG.out cv (by decide));replace fJ:=hid (hk.row fJ.out lH (by decide));replace HK:=hid (HK.out.trans hk);clear hp hk;obtain ⟨bJ,bI,bH,bK,bT⟩:=r5 aG.out;obtain ⟨fX,fW,fP,fT,fQ⟩:=r5 fJ.out;obtain ⟨yx0,yx1,yx2,yx3,yx4⟩:=aj (Fx.out.keep (HK.out.below.block kb bk));obtain ⟨yy0,yy1,yy2,yy3,yy4⟩:=aj (Fy.out.keep (HK.out.below.block kb bk));have hkl:kb<w3.heap.size:=nL hkw HK.out.below.size;go_wp2_with fail;clear bJ bI bH bK bT fX fW fP fT fQ yx0 yx1 yx2 yx3 yx4 yy0 yy1 yy2 yy3 yy4 hkl;refine (iJ pb (acc++[105,102,32]++af (oP tb (NM.mk kx tx lx cx ksx ax mx).tr)) tb 32 _ HP.out (by have:=HLn.out;simp only [lAp,lCo,lNi] at this ⊢;omega)).mono ?_;rintro e w4 ⟨rfl,hp,hk⟩;replace HP:=hid hp;replace aG:=hid (hk.row aG.out cv (by decide));replace fJ:=hid (hk.row fJ.out lH (by decide));replace HK:=hid (HK.out.trans hk);clear hp hk;obtain ⟨bJ,bI,bH,bK,bT⟩:=r5 aG.out;obtain ⟨fX,fW,fP,fT,fQ⟩:=r5 fJ.out;obtain ⟨yx0,yx1,yx2,yx3,yx4⟩:=aj (Fx.out.keep (HK.out.below.block kb bk));obtain ⟨yy0,yy1,yy2,yy3,yy4⟩:=aj (Fy.out.keep (HK.out.below.block kb bk));have hkl:kb<w4.heap.size:=nL hkw HK.out.below.size;go_wp2_with fail;clear bJ bI bH bK bT fX fW fP fT fQ yx0 yx1 yx2 yx3 yx4 yy0 yy1 yy2 yy3 yy4 hkl;refine (IHy (acc++[105,102,32]++af (oP tb (NM.mk kx tx lx cx ksx ax mx).tr)++[32]) tb _ HP.out (am.keep (bh HK.out.below) Hy.out) htT (by have:=HLn.out;simp only [lAp,lCo,lNi] at this ⊢;omega)).mono ?_;rintro e w5 ⟨rfl,hp,hk⟩;replace HP:=hid hp;replace aG:=hid (hk.row aG.out cv (by decide));replace fJ:=hid (hk.row fJ.out lH (by decide));replace HK:=hid (HK.out.trans hk);clear hp hk;obtain ⟨bJ,bI,bH,bK,bT⟩:=r5 aG.out;obtain ⟨fX,fW,fP,fT,fQ⟩:=r5 fJ.out;obtain ⟨yx0,yx1,yx2,yx3,yx4⟩:=aj (Fx.out.keep (HK.out.below.block kb bk));obtain ⟨yy0,yy1,yy2,yy3,yy4⟩:=aj (Fy.out.keep (HK.out.below.block kb bk));have hkl:kb<w5.heap.size:=nL hkw HK.out.below.size;go_wp2_with fail;clear bJ bI bH bK bT fX fW fP fT fQ yx0 yx1 yx2 yx3 yx4 yy0 yy1 yy2 yy3 yy4 hkl
 go_end0
 exact ⟨rfl,by show aO pb pb (acc++af _) tb _;rw [HAcc.out];exact HP.out,HK.out⟩
theorem zae (pb:Nat)  (l c:Int) (kx:Int) (tx:List UInt8) (lx cx:Int) (ksx:List NM) (ax:Option Addr) (mx:Nat) (ky:Int) (ty:List UInt8) (ly cy:Int) (ksy:List NM) (ay:Option Addr) (my:Nat) (kz:Int) (tz:List UInt8) (lz cz:Int) (ksz:List NM) (az:Option Addr) (mz:Nat) (a:Option Addr) (m:Nat) (T:Nat) (hT:T≤99990) (IHx:fy 80 pb (fun n=>oP n (NM.mk kx tx lx cx ksx ax mx).tr) (NM.mk kx tx lx cx ksx ax mx)) (IHy:jc T 81 pb (fun n=>oP n (NM.mk ky ty ly cy ksy ay my).tr) (NM.mk ky ty ly cy ksy ay my)) (IHz:jc T 81 pb (fun n=>oP n (NM.mk kz tz lz cz ksz az mz).tr) (NM.mk kz tz lz cz ksz az mz)):jc T 42 pb (fun n=>oP n (NM.mk 5 [] l c [(NM.mk kx tx lx cx ksx ax mx),(NM.mk ky ty ly cy ksy ay my),(NM.mk kz tz lz cz ksz az mz)] a m).tr) (NM.mk 5 [] l c [(NM.mk kx tx lx cx ksx ax mx),(NM.mk ky ty ly cy ksy ay my),(NM.mk kz tz lz cz ksz az mz)] a m):=by
 intro acc tb w h hh htT aF;have htb:tb≤100000:=by omega
 change Calls _ _ #[_,aB 5 [] l c (.slice a 3 m)] _ _;obtain ⟨kb,ko,ha,bk,hkw,hkm,hkM,cw⟩:=fc hh (by simp);subst ha;unfold maxLen at hkM;have hkm1:3≤m:=by simpa using hkm
 clear hkm;have Fx:=hid (show dn w kb ko (NM.mk kx tx lx cx ksx ax mx) from cw 0 (by simp));have Hx:=hid (show am (·<pb) w (NM.mk kx tx lx cx ksx ax mx) from ep hh 0 (by simp));have Fy:=hid (show dn w kb (ko+5) (NM.mk ky ty ly cy ksy ay my) from cw 1 (by simp));have Hy:=hid (show am (·<pb) w (NM.mk ky ty ly cy ksy ay my) from ep hh 1 (by simp));have Fz:=hid (show dn w kb (ko+10) (NM.mk kz tz lz cz ksz az mz) from cw 2 (by simp));have Hz:=hid (show am (·<pb) w (NM.mk kz tz lz cz ksz az mz) from ep hh 2 (by simp));clear cw;have HAcc:=hid (show acc++af (oP tb (NM.mk 5 [] l c [(NM.mk kx tx lx cx ksx ax mx),(NM.mk ky ty ly cy ksy ay my),(NM.mk kz tz lz cz ksz az mz)] (some ⟨kb,ko,none⟩) m).tr)=acc++[105,102,32]++af (oP tb (NM.mk kx tx lx cx ksx ax mx).tr)++[32]++af (oP tb (NM.mk ky ty ly cy ksy ay my).tr)++[32,101,108,115,101,32]++af (oP tb (NM.mk kz tz lz cz ksz az mz).tr) by
  rw [aq,bP,ai,ai,ai,ar,c8];show acc++af (es tb 5 [] _ _)=_;unfold es;simp [af,df,sp,wIf,fa]
 )
 have HLn:=hid (show (acc++[105,102,32]++af (oP tb (NM.mk kx tx lx cx ksx ax mx).tr)++[32]++af (oP tb (NM.mk ky ty ly cy ksy ay my).tr)++[32,101,108,115,101,32]++af (oP tb (NM.mk kz tz lz cz ksz az mz).tr)).length≤140737488355000 by rw [← HAcc.out,lAp];exact aF);obtain ⟨w1,hw,ac,hr,hlt1⟩:=an1 w (.cells #[.int .i64 5,.string (bs []),.int .i64 l,.int .i64 c,.slice (some ⟨kb,ko,none⟩) 3 m] 27);have hlt0:=h.lt.2;have HP:=hid (h.below ac);have HK:=hid (PK.of ac (Nat.le_of_lt hlt0));have aG:=hid hr;have cv:w.heap.size≠pb:=by omega
 clear h hh ac hr aF;obtain ⟨w1',hw',ac,hr,hlt2⟩:=an1 w1 (.cells #[.int .i64 kz,.string (bs tz),.int .i64 lz,.int .i64 cz,.slice az ksz.length mz] 27);have hk0':=PK.of ac (Nat.le_of_lt HP.out.lt.2);replace HP:=hid (HP.out.below ac);replace aG:=hid (hk0'.row aG.out cv (by decide));replace HK:=hid (HK.out.trans hk0');have hs1:w1.heap.size=w.heap.size+1:=by rw [hw.out,wSz]
 rw [hs1] at hr;have fJ:=hid hr;have lH:w.heap.size+1≠pb:=by omega
 clear ac hr hk0' hs1 hlt2;obtain ⟨yx0,yx1,yx2,yx3,yx4⟩:=aj Fx.out;obtain ⟨yy0,yy1,yy2,yy3,yy4⟩:=aj Fy.out;obtain ⟨yz0,yz1,yz2,yz3,yz4⟩:=aj Fz.out;go_enter Tryz.func42,Tryz.ntmps42
 go_wp2_with fail;rw [← hw.out];rw [← hw'.out];clear hw hw';clear yx0 yx1 yx2 yx3 yx4 yy0 yy1 yy2 yy3 yy4 yz0 yz1 yz2 yz3 yz4;refine (iz pb (acc) tb ([105,102,32]) _ HP.out (by have:=HLn.out;simp only [lAp,lCo,lNi] at this ⊢;omega)).mono ?_;rintro e w2 ⟨rfl,hp,hk⟩;replace HP:=hid hp;replace aG:=hid (hk.row aG.out cv (by decide));replace fJ:=hid (hk.row fJ.out lH (by decide));replace HK:=hid (HK.out.trans hk);clear hp hk;obtain ⟨bJ,bI,bH,bK,bT⟩:=r5 aG.out;obtain ⟨fX,fW,fP,fT,fQ⟩:=r5 fJ.out;obtain ⟨yx0,yx1,yx2,yx3,yx4⟩:=aj (Fx.out.keep (HK.out.below.block kb bk));obtain ⟨yy0,yy1,yy2,yy3,yy4⟩:=aj (Fy.out.keep (HK.out.below.block kb bk));obtain ⟨yz0,yz1,yz2,yz3,yz4⟩:=aj (Fz.out.keep (HK.out.below.block kb bk));have hkl:kb<w2.heap.size:=nL hkw HK.out.below.size;go_wp2_with fail;clear bJ bI bH bK bT fX fW fP fT fQ yx0 yx1 yx2 yx3 yx4 yy0 yy1 yy2 yy3 yy4 yz0 yz1 yz2 yz3 yz4 hkl;refine (IHx (acc++[105,102,32]) tb _ HP.out (am.keep (bh HK.out.below) Hx.out) htb (by have:=HLn.out;simp only [lAp,lCo,lNi] at this ⊢;omega)).mono ?_;rintro e w3 ⟨rfl,hp,hk⟩;replace HP:=hid hp;replace aG:=hid (hk.row aG.out cv (by decide));replace fJ:=hid (hk.row fJ.out lH (by decide));replace HK:=hid (HK.out.trans hk);clear hp hk;obtain ⟨bJ,bI,bH,bK,bT⟩:=r5 aG.out;obtain ⟨fX,fW,fP,fT,fQ⟩:=r5 fJ.out;obtain ⟨yx0,yx1,yx2,yx3,yx4⟩:=aj (Fx.out.keep (HK.out.below.block kb bk));obtain ⟨yy0,yy1,yy2,yy3,yy4⟩:=aj (Fy.out.keep (HK.out.below.block kb bk));obtain ⟨yz0,yz1,yz2,yz3,yz4⟩:=aj (Fz.out.keep (HK.out.below.block kb bk));have hkl:kb<w3.heap.size:=nL hkw HK.out.below.size;go_wp2_with fail;clear bJ bI bH bK bT fX fW fP fT fQ yx0 yx1 yx2 yx3 yx4 yy0 yy1 yy2 yy3 yy4 yz0 yz1 yz2 yz3 yz4 hkl;refine (iJ pb (acc++[105,102,32]++af (oP tb (NM.mk kx tx lx cx ksx ax mx).tr)) tb 32 _ HP.out (by have:=HLn.out;simp only [lAp,lCo,lNi] at this ⊢;omega)).mono ?_;rintro e w4 ⟨rfl,hp,hk⟩;replace HP:=hid hp;replace aG:=hid (hk.row aG.out cv (by decide));replace fJ:=hid (hk.row fJ.out lH (by decide));replace HK:=hid (HK.out.trans hk);clear hp hk;obtain ⟨bJ,bI,bH,bK,bT⟩:=r5 aG.out;obtain ⟨fX,fW,fP,fT,fQ⟩:=r5 fJ.out;obtain ⟨yx0,yx1,yx2,yx3,yx4⟩:=aj (Fx.out.keep (HK.out.below.block kb bk));obtain ⟨yy0,yy1,yy2,yy3,yy4⟩:=aj (Fy.out.keep (HK.out.below.block kb bk));obtain ⟨yz0,yz1,yz2,yz3,yz4⟩:=aj (Fz.out.keep (HK.out.below.block kb bk));have hkl:kb<w4.heap.size:=nL hkw HK.out.below.size;go_wp2_with fail;clear bJ bI bH bK bT fX fW fP fT fQ yx0 yx1 yx2 yx3 yx4 yy0 yy1 yy2 yy3 yy4 yz0 yz1 yz2 yz3 yz4 hkl;refine (IHy (acc++[105,102,32]++af (oP tb (NM.mk kx tx lx cx ksx ax mx).tr)++[32]) tb _ HP.out (am.keep (bh HK.out.below) Hy.out) htT (by have:=HLn.out;simp only [lAp,lCo,lNi] at this ⊢;omega)).mono ?_;rintro e w5 ⟨rfl,hp,hk⟩;replace HP:=hid hp;replace aG:=hid (hk.row aG.out cv (by decide));replace fJ:=hid (hk.row fJ.out lH (by decide));replace HK:=hid (HK.out.trans hk);clear hp hk;obtain ⟨bJ,bI,bH,bK,bT⟩:=r5 aG.out;obtain ⟨fX,fW,fP,fT,fQ⟩:=r5 fJ.out;obtain ⟨yx0,yx1,yx2,yx3,yx4⟩:=aj (Fx.out.keep (HK.out.below.block kb bk));obtain ⟨yy0,yy1,yy2,yy3,yy4⟩:=aj (Fy.out.keep (HK.out.below.block kb bk));obtain ⟨yz0,yz1,yz2,yz3,yz4⟩:=aj (Fz.out.keep (HK.out.below.block kb bk));have hkl:kb<w5.heap.size:=nL hkw HK.out.below.size;go_wp2_with fail;clear bJ bI bH bK bT fX fW fP fT fQ yx0 yx1 yx2 yx3 yx4 yy0 yy1 yy2 yy3 yy4 yz0 yz1 yz2 yz3 yz4 hkl;refine (iz pb (acc++[105,102,32]++af (oP tb (NM.mk kx tx lx cx ksx ax mx).tr)++[32]++af (oP tb (NM.mk ky ty ly cy ksy ay my).tr)) tb ([32,101,108,115,101,32]) _ HP.out (by have:=HLn.out;simp only [lAp,lCo,lNi] at this ⊢;omega)).mono ?_;rintro e w6 ⟨rfl,hp,hk⟩;replace HP:=hid hp;replace aG:=hid (hk.row aG.out cv (by decide));replace fJ:=hid (hk.row fJ.out lH (by decide));replace HK:=hid (HK.out.trans hk);clear hp hk;obtain ⟨bJ,bI,bH,bK,bT⟩:=r5 aG.out;obtain ⟨fX,fW,fP,fT,fQ⟩:=r5 fJ.out;obtain ⟨yx0,yx1,yx2,yx3,yx4⟩:=aj (Fx.out.keep (HK.out.below.block kb bk));obtain ⟨yy0,yy1,yy2,yy3,yy4⟩:=aj (Fy.out.keep (HK.out.below.block kb bk));obtain ⟨yz0,yz1,yz2,yz3,yz4⟩:=aj (Fz.out.keep (HK.out.below.block kb bk));have hkl:kb<w6.heap.size:=nL hkw HK.out.below.size;go_wp2_with fail;clear bJ bI bH bK bT fX fW fP fT fQ yx0 yx1 yx2 yx3 yx4 yy0 yy1 yy2 yy3 yy4 yz0 yz1 yz2 yz3 yz4 hkl;refine (IHz (acc++[105,102,32]++af (oP tb (NM.mk kx tx lx cx ksx ax mx).tr)++[32]++af (oP tb (NM.mk ky ty ly cy ksy ay my).tr)++[32,101,108,115,101,32]) tb _ HP.out (am.keep (bh HK.out.below) Hz.out) htT (by have:=HLn.out;simp only [lAp,lCo,lNi] at this ⊢;omega)).mono ?_;rintro e w7 ⟨rfl,hp,hk⟩;replace HP:=hid hp;replace aG:=hid (hk.row aG.out cv (by decide));replace fJ:=hid (hk.row fJ.out lH (by decide));replace HK:=hid (HK.out.trans hk);clear hp hk;go_wp2_with fail
 go_end0
 exact ⟨rfl,by show aO pb pb (acc++af _) tb _;rw [HAcc.out];exact HP.out,HK.out⟩
theorem sE {pb:Nat} {w:World} {k l c:Int} {t:List UInt8} {ks:List NM} {a:Option Addr} {m:Nat} (h:am (·<pb) w (.mk k t l c ks a m)) (n:Nat) (hn:n≤ks.length):el pb w (.slice a n m) (ks.take n):=by
 have aF:(ks.take n).length=n:=by rw [List.length_take];omega
 have h1:=h.any.kidsAt.take n hn;refine ⟨⟨by rw [aF];rw [← aF];exact (by simpa [aF] using h1.row),fun b off n' c' e hne=>?_⟩,?_⟩
 ·simp only [Value.slice.injEq] at e;obtain ⟨rfl,-,-⟩:=e;refine (ia h).1.2 b off _ _ rfl (fun e=>hne ?_);have h1:=be ks;rw [e] at h1;have:ks=[]:=by cases ks with | nil=>rfl | cons x r=>simp at h1
  subst this;simp [aW]
 ·have:∀ (l:List NM) (m:Nat),aP (·<pb) w l→aP (·<pb) w (l.take m):=by
   intro l;induction l with
   | nil=>intro m _;cases m <;> exact fF
   | cons x r ih =>
     intro m hh;cases m with
     | zero=>exact fF
     | succ m=>unfold aP at hh;show aP _ w (x::r.take m);unfold aP;exact ⟨hh.1,ih m hh.2⟩
  exact this ks n (ia h).2
theorem zbH (pb:Nat) (t:List UInt8) (l c:Int) (ks:List NM) (a:Option Addr) (m:Nat) (n:Nat) (kz:Int) (tz:List UInt8) (lz cz:Int) (ksz:List NM) (az:Option Addr) (mz:Nat) (hks:ks.length=n+1) (hz:ks[n]=(NM.mk kz tz lz cz ksz az mz)) (hk0:n≤1000000) (T:Nat) (hT:T≤99990) (IHp:∀ j (hj:j<n),fy 83 pb (fun n=>oP n ks[j].tr) ks[j]) (IHz:jc T 81 pb (fun n=>oP n (NM.mk kz tz lz cz ksz az mz).tr) (NM.mk kz tz lz cz ksz az mz)):jc T 42 pb (fun n=>oP n (NM.mk 6 t l c ks a m).tr) (NM.mk 6 t l c ks a m):=by
 intro acc tb w h hh htT aF;have htb:tb≤100000:=by omega
 change Calls _ _ #[_,aB 6 t l c (.slice a ks.length m)] _ _;rw [hks];obtain ⟨kb,ko,ha,bk,hkw,hkm,hkM,cw⟩:=fc hh (by omega);subst ha;unfold maxLen at hkM;rw [hks] at hkm;have Fz:=hid (show dn w kb (ko+n * 5) (NM.mk kz tz lz cz ksz az mz) from by have:=cw n (by omega);rwa [hz] at this);have Hz:=hid (show am (·<pb) w (NM.mk kz tz lz cz ksz az mz) from by have:=ep hh n (by omega);rwa [hz] at this);have HKI:=hid (sE hh n (by omega));clear cw;have HAcc:=hid (show acc++af (oP tb (NM.mk 6 t l c ks (some ⟨kb,ko,none⟩) m).tr)=acc++(114::117::108::101::32::(t++[40]))++af (aE ((ks.take n).map (fun (x:NM)=>oP tb x.tr)))++[41,32]++af (oP tb (NM.mk kz tz lz cz ksz az mz).tr) by
  have hsp:ks=ks.take n++[(NM.mk kz tz lz cz ksz az mz)]:=by
   have h1:ks.take (n+1)=ks:=List.take_of_length_le (by omega);rw [List.take_succ_eq_append_getElem (by omega),hz] at h1;exact h1.symm
  have e:NM.trs ks=(ks.take n).map NM.tr++[(NM.mk kz tz lz cz ksz az mz).tr]:=by
   rw [bR];exact (congrArg (List.map NM.tr) hsp).trans (by rw [List.map_append];rfl)
  rw [aq,bP,c8,e,List.map_append,List.map_map];show acc++af (es tb 6 t _ _)=_;unfold es;show acc++af ((1,fO)::sp::(1,t)::sg 40::(aE (List.dropLast (_++[oP tb (NM.mk kz tz lz cz ksz az mz).tr]))++sg 41::sp::List.getLastD (_++[oP tb (NM.mk kz tz lz cz ksz az mz).tr]) []))=_;rw [List.dropLast_concat,List.getLastD_concat];simp [af,df,sp,sg,fO];rfl
 )
 have HLn:=hid (show (acc++(114::117::108::101::32::(t++[40]))++af (aE ((ks.take n).map (fun (x:NM)=>oP tb x.tr)))++[41,32]++af (oP tb (NM.mk kz tz lz cz ksz az mz).tr)).length≤140737488355000 by rw [← HAcc.out,lAp];exact aF);have hl_t:t.length≤140737488355000:=by have:=HLn.out;simp only [lAp,lCo] at this;omega
 obtain ⟨w1,hw,ac,hr,hlt1⟩:=an1 w (.cells #[.int .i64 6,.string (bs t),.int .i64 l,.int .i64 c,.slice (some ⟨kb,ko,none⟩) (n+1) m] 27);have hlt0:=h.lt.2;have HP:=hid (h.below ac);have HK:=hid (PK.of ac (Nat.le_of_lt hlt0));have aG:=hid hr;have cv:w.heap.size≠pb:=by omega
 clear h hh ac hr aF;have IHq:=hid (show ∀ j (hj:j<(ks.take n).length),fy 83 pb (fun n2=>oP n2 (ks.take n)[j].tr) (ks.take n)[j] from fun j hj=>by rw [List.getElem_take];exact IHp j (by rw [List.length_take] at hj;omega));obtain ⟨w1',hw',ac,hr,hlt2⟩:=an1 w1 (.cells #[.int .i64 kz,.string (bs tz),.int .i64 lz,.int .i64 cz,.slice az ksz.length mz] 27);have hk0':=PK.of ac (Nat.le_of_lt HP.out.lt.2);replace HP:=hid (HP.out.below ac);replace aG:=hid (hk0'.row aG.out cv (by decide));replace HK:=hid (HK.out.trans hk0');have hs1:w1.heap.size=w.heap.size+1:=by rw [hw.out,wSz]
 rw [hs1] at hr;have fJ:=hid hr;have lH:w.heap.size+1≠pb:=by omega
 clear ac hr hk0' hs1 hlt2;have hks2:=hid hks;clear IHp hz hks;have qo:=mf;obtain ⟨yz0,yz1,yz2,yz3,yz4⟩:=aj Fz.out;go_enter Tryz.func42,Tryz.ntmps42
 go_wp2_with fail;rw [← hw.out];rw [← hw'.out];clear hw hw';clear yz0 yz1 yz2 yz3 yz4;refine aH (S:=fun W=>W.heap[w.heap.size]? = some (.cells #[.int .i64 6,.string (bs t),.int .i64 l,.int .i64 c,.slice (some ⟨kb,ko,none⟩) (n+1) m] 27 (0,0))) (by kernel_rfl) ?_;obtain ⟨w2,hw,ac⟩:=dr1 w1';rw [← hw.out];clear hw;have hk:=PK.of ac (Nat.le_of_lt HP.out.lt.2);replace HP:=hid (HP.out.below ac);replace aG:=hid (hk.row aG.out cv (by decide));replace fJ:=hid (hk.row fJ.out lH (by decide));replace HK:=hid (HK.out.trans hk);clear ac hk;have hS:=aG.out;refine zdA 0 (some 91) (.pointer (some ⟨pb,0,none⟩)) hS ?_
 try simp only [aPu,sA,sB,sC]
 refine zdA 1 (some 92) (.pointer (some ⟨pb,0,none⟩)) hS ?_
 try simp only [aPu,sA,sB,sC]
 refine zdA 2 (some 93) (.pointer (some ⟨pb,0,none⟩)) hS ?_
 try simp only [aPu,sA,sB,sC]
 refine zdA 3 (some 94) (.pointer (some ⟨w.heap.size,1,none⟩)) hS ?_
 try simp only [aPu,sA,sB,sC]
 refine zdD 4 (some 95) (.string (bs t)) hS ?_ (hv:=fun W hW=>by have q:W.cell? ⟨w.heap.size,1,none⟩=some (.string (bs t)):=cRo W _ 1 _ _ _ hW;go_simp)
 try simp only [aPu,sA,sB,sC]
 refine zdD 5 (some 96) (.string (bs (114::117::108::101::32::t))) hS ?_ (hv:=fun W _=>by first | (go_simp;done) | (go_simp;omega))
 try simp only [aPu,sA,sB,sC]
 refine zdD 6 (some 97) (.string (bs (114::117::108::101::32::(t++[40])))) hS ?_ (hv:=fun W _=>by first | (go_simp;done) | (go_simp;omega))
 try simp only [aPu,sA,sB,sC]
 refine zdC 7 ?_;intro K hK;go_simp;refine (iz pb (acc) tb ((114::117::108::101::32::(t++[40]))) _ HP.out (by have:=HLn.out;simp only [lAp,lCo,lNi] at this ⊢;omega)).mono ?_;rintro e w3 ⟨rfl,hp,hk⟩;replace HP:=hid hp;replace aG:=hid (hk.row aG.out cv (by decide));replace fJ:=hid (hk.row fJ.out lH (by decide));replace HK:=hid (HK.out.trans hk);clear hp hk;go_wp2_with fail;clear hS;have hS:=aG.out;refine hK.out _ _ hS ?_;clear hK K
 try simp only [aPu,sA,sB,sC]
 refine zdH ?_;clear hS;obtain ⟨bJ,bI,bH,bK,bT⟩:=r5 aG.out;obtain ⟨fX,fW,fP,fT,fQ⟩:=r5 fJ.out;obtain ⟨yz0,yz1,yz2,yz3,yz4⟩:=aj (Fz.out.keep (HK.out.below.block kb bk));have hkl:kb<w3.heap.size:=nL hkw HK.out.below.size;go_wp2_with fail;clear bJ bI bH bK bT fX fW fP fT fQ yz0 yz1 yz2 yz3 yz4 hkl;refine (xC pb (fun n (x:NM)=>oP n x.tr) (ks.take n) (.slice (some ⟨kb,ko,none⟩) n m) (acc++(114::117::108::101::32::(t++[40]))) tb _ HP.out (HKI.out.keep HK.out.below) htb (by rw [List.length_take];omega) (by have:=HLn.out;simp only [lAp,lCo,lNi] at this ⊢;omega) IHq.out).mono ?_;rintro e w4 ⟨rfl,hp,hk⟩;replace HP:=hid hp;replace aG:=hid (hk.row aG.out cv (by decide));replace fJ:=hid (hk.row fJ.out lH (by decide));replace HK:=hid (HK.out.trans hk);clear hp hk;obtain ⟨bJ,bI,bH,bK,bT⟩:=r5 aG.out;obtain ⟨fX,fW,fP,fT,fQ⟩:=r5 fJ.out;obtain ⟨yz0,yz1,yz2,yz3,yz4⟩:=aj (Fz.out.keep (HK.out.below.block kb bk));have hkl:kb<w4.heap.size:=nL hkw HK.out.below.size;go_wp2_with fail;clear bJ bI bH bK bT fX fW fP fT fQ yz0 yz1 yz2 yz3 yz4 hkl;refine (iz pb (acc++(114::117::108::101::32::(t++[40]))++af (aE ((ks.take n).map (fun (x:NM)=>oP tb x.tr)))) tb ([41,32]) _ HP.out (by have:=HLn.out;simp only [lAp,lCo,lNi] at this ⊢;omega)).mono ?_;rintro e w5 ⟨rfl,hp,hk⟩;replace HP:=hid hp;replace aG:=hid (hk.row aG.out cv (by decide));replace fJ:=hid (hk.row fJ.out lH (by decide));replace HK:=hid (HK.out.trans hk);clear hp hk;obtain ⟨bJ,bI,bH,bK,bT⟩:=r5 aG.out;obtain ⟨fX,fW,fP,fT,fQ⟩:=r5 fJ.out;obtain ⟨yz0,yz1,yz2,yz3,yz4⟩:=aj (Fz.out.keep (HK.out.below.block kb bk));have hkl:kb<w5.heap.size:=nL hkw HK.out.below.size;go_wp2_with fail;clear bJ bI bH bK bT fX fW fP fT fQ yz0 yz1 yz2 yz3 yz4 hkl;refine (IHz (acc++(114::117::108::101::32::(t++[40]))++af (aE ((ks.take n).map (fun (x:NM)=>oP tb x.tr)))++[41,32]) tb _ HP.out (am.keep (bh HK.out.below) Hz.out) htT (by have:=HLn.out;simp only [lAp,lCo,lNi] at this ⊢;omega)).mono ?_;rintro e w6 ⟨rfl,hp,hk⟩;replace HP:=hid hp;replace aG:=hid (hk.row aG.out cv (by decide));replace fJ:=hid (hk.row fJ.out lH (by decide));replace HK:=hid (HK.out.trans hk);clear hp hk;go_wp2_with fail
 go_end0
 exact ⟨rfl,by show aO pb pb (acc++af _) tb _;rw [HAcc.out];exact HP.out,HK.out⟩
end Go.Proofs.YtfgiihpopngbkaaGreatDoor
