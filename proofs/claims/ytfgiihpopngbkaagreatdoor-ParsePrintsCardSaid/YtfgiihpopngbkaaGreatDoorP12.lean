/- Lemmas and walks that the statement needs: PageExpr1, PageNot, PageOp. -/
import Derived.Test.YtfgiihpopngbkaaGreatDoorP11
namespace Go.Proofs.YtfgiihpopngbkaaGreatDoor
set_option maxRecDepth 100000
set_option maxHeartbeats 8000000
open Go.RowKit
open List renaming setIfInBounds_toArray→sA,set_cons_zero→sB,set_cons_succ→sC
open Nat renaming lt_of_lt_of_le→nL
open Go.Act renaming put→aPu
open List renaming length_append→lAp,length_cons→lCo,length_nil→lNi
open Go renaming cell_of_row→cRo
theorem zcd (pb:Nat) (t:List UInt8) (l c:Int) (ks:List NM) (a:Option Addr) (m:Nat) :fy 80 pb (fun n=>oP n (NM.mk 9 t l c ks a m).tr) (NM.mk 9 t l c ks a m):=by
 intro acc tb w h hh htb aF;change Calls _ _ #[_,aB 9 t l c (.slice a ks.length m)] _ _;have HKI:=hid (el.of hh);obtain ⟨la,lc,hv,iI,hlm,-⟩:=HKI.out.at;obtain ⟨rfl,rfl⟩:a=la∧m=lc:=by simpa using hv
 unfold maxLen at hlm;clear hv;have HAcc:=hid (show acc++af (oP tb (NM.mk 9 t l c ks a m).tr)=acc++t by
  rw [aq,bP];show acc++af (es tb 9 t _ _)=_;unfold es;simp [af,df]
 )
 have HLn:=hid (show (acc++t).length≤140737488355000 by rw [← HAcc.out,lAp];exact aF);have hl_t:t.length≤140737488355000:=by have:=HLn.out;simp only [lAp] at this;omega
 obtain ⟨w1,hw,ac,hr,hlt1⟩:=an1 w (.cells #[.int .i64 9,.string (bs t),.int .i64 l,.int .i64 c,.slice a ks.length m] 27);have hlt0:=h.lt.2;have HP:=hid (h.below ac);have HK:=hid (PK.of ac (Nat.le_of_lt hlt0));have aG:=hid hr;have cv:w.heap.size≠pb:=by omega
 clear h hh ac hr aF;go_enter Tryz.func80,Tryz.ntmps80
 go_wp2_with fail;rw [← hw.out];clear hw;refine aH (S:=fun W=>W.heap[w.heap.size]? = some (.cells #[.int .i64 9,.string (bs t),.int .i64 l,.int .i64 c,.slice a ks.length m] 27 (0,0))) (by kernel_rfl) ?_;obtain ⟨w2,hw,ac⟩:=dr1 w1;rw [← hw.out];clear hw;have hk:=PK.of ac (Nat.le_of_lt HP.out.lt.2);replace HP:=hid (HP.out.below ac);replace aG:=hid (hk.row aG.out cv (by decide));replace HK:=hid (HK.out.trans hk);clear ac hk;have hS:=aG.out;refine zdA 0 (some 10) (.pointer (some ⟨pb,0,none⟩)) hS ?_
 try simp only [aPu,sA,sB,sC]
 refine zdA 1 (some 11) (.pointer (some ⟨pb,0,none⟩)) hS ?_
 try simp only [aPu,sA,sB,sC]
 refine zdA 2 (some 12) (.pointer (some ⟨pb,0,none⟩)) hS ?_
 try simp only [aPu,sA,sB,sC]
 refine zdA 3 (some 13) (.pointer (some ⟨w.heap.size,1,none⟩)) hS ?_
 try simp only [aPu,sA,sB,sC]
 refine zdD 4 (some 14) (.string (bs t)) hS ?_ (hv:=fun W hW=>by have q:W.cell? ⟨w.heap.size,1,none⟩=some (.string (bs t)):=cRo W _ 1 _ _ _ hW;go_simp)
 try simp only [aPu,sA,sB,sC]
 refine zdC 5 ?_;intro K hK;go_simp;refine (iz pb (acc) tb (t) _ HP.out (by have:=HLn.out;simp only [lAp] at this ⊢;omega)).mono ?_;rintro e w3 ⟨rfl,hp,hk⟩;replace HP:=hid hp;replace aG:=hid (hk.row aG.out cv (by decide));replace HK:=hid (HK.out.trans hk);clear hp hk;go_wp2_with fail;clear hS;have hS:=aG.out;refine hK.out _ _ hS ?_;clear hK K
 try simp only [aPu,sA,sB,sC]
 refine zdH ?_;clear hS;obtain ⟨bJ,bI,bH,bK,bT⟩:=r5 aG.out;go_wp2_with fail;clear bJ bI bH bK bT
 go_end0
 exact ⟨rfl,by show aO pb pb (acc++af _) tb _;rw [HAcc.out];exact HP.out,HK.out⟩
theorem za9 (pb:Nat) (t:List UInt8) (l c:Int) (ks:List NM) (a:Option Addr) (m:Nat) :fy 80 pb (fun n=>oP n (NM.mk 10 t l c ks a m).tr) (NM.mk 10 t l c ks a m):=by
 intro acc tb w h hh htb aF;change Calls _ _ #[_,aB 10 t l c (.slice a ks.length m)] _ _;have HKI:=hid (el.of hh);obtain ⟨la,lc,hv,iI,hlm,-⟩:=HKI.out.at;obtain ⟨rfl,rfl⟩:a=la∧m=lc:=by simpa using hv
 unfold maxLen at hlm;clear hv;have HAcc:=hid (show acc++af (oP tb (NM.mk 10 t l c ks a m).tr)=acc++t by
  rw [aq,bP];show acc++af (es tb 10 t _ _)=_;unfold es;simp [af,df]
 )
 have HLn:=hid (show (acc++t).length≤140737488355000 by rw [← HAcc.out,lAp];exact aF);have hl_t:t.length≤140737488355000:=by have:=HLn.out;simp only [lAp] at this;omega
 obtain ⟨w1,hw,ac,hr,hlt1⟩:=an1 w (.cells #[.int .i64 10,.string (bs t),.int .i64 l,.int .i64 c,.slice a ks.length m] 27);have hlt0:=h.lt.2;have HP:=hid (h.below ac);have HK:=hid (PK.of ac (Nat.le_of_lt hlt0));have aG:=hid hr;have cv:w.heap.size≠pb:=by omega
 clear h hh ac hr aF;go_enter Tryz.func80,Tryz.ntmps80
 go_wp2_with fail;rw [← hw.out];clear hw;refine aH (S:=fun W=>W.heap[w.heap.size]? = some (.cells #[.int .i64 10,.string (bs t),.int .i64 l,.int .i64 c,.slice a ks.length m] 27 (0,0))) (by kernel_rfl) ?_;obtain ⟨w2,hw,ac⟩:=dr1 w1;rw [← hw.out];clear hw;have hk:=PK.of ac (Nat.le_of_lt HP.out.lt.2);replace HP:=hid (HP.out.below ac);replace aG:=hid (hk.row aG.out cv (by decide));replace HK:=hid (HK.out.trans hk);clear ac hk;have hS:=aG.out;refine zdA 0 (some 10) (.pointer (some ⟨pb,0,none⟩)) hS ?_
 try simp only [aPu,sA,sB,sC]
 refine zdA 1 (some 11) (.pointer (some ⟨pb,0,none⟩)) hS ?_
 try simp only [aPu,sA,sB,sC]
 refine zdA 2 (some 12) (.pointer (some ⟨pb,0,none⟩)) hS ?_
 try simp only [aPu,sA,sB,sC]
 refine zdA 3 (some 13) (.pointer (some ⟨w.heap.size,1,none⟩)) hS ?_
 try simp only [aPu,sA,sB,sC]
 refine zdD 4 (some 14) (.string (bs t)) hS ?_ (hv:=fun W hW=>by have q:W.cell? ⟨w.heap.size,1,none⟩=some (.string (bs t)):=cRo W _ 1 _ _ _ hW;go_simp)
 try simp only [aPu,sA,sB,sC]
 refine zdC 5 ?_;intro K hK;go_simp;refine (iz pb (acc) tb (t) _ HP.out (by have:=HLn.out;simp only [lAp] at this ⊢;omega)).mono ?_;rintro e w3 ⟨rfl,hp,hk⟩;replace HP:=hid hp;replace aG:=hid (hk.row aG.out cv (by decide));replace HK:=hid (HK.out.trans hk);clear hp hk;go_wp2_with fail;clear hS;have hS:=aG.out;refine hK.out _ _ hS ?_;clear hK K
 try simp only [aPu,sA,sB,sC]
 refine zdH ?_;clear hS;obtain ⟨bJ,bI,bH,bK,bT⟩:=r5 aG.out;go_wp2_with fail;clear bJ bI bH bK bT
 go_end0
 exact ⟨rfl,by show aO pb pb (acc++af _) tb _;rw [HAcc.out];exact HP.out,HK.out⟩
theorem zaF (pb:Nat) (t:List UInt8) (l c:Int) (ks:List NM) (a:Option Addr) (m:Nat) (htl:t.length≤1000000):fy 80 pb (fun n=>oP n (NM.mk 11 t l c ks a m).tr) (NM.mk 11 t l c ks a m):=by
 intro acc tb w h hh htb aF;change Calls _ _ #[_,aB 11 t l c (.slice a ks.length m)] _ _;have HKI:=hid (el.of hh);obtain ⟨la,lc,hv,iI,hlm,-⟩:=HKI.out.at;obtain ⟨rfl,rfl⟩:a=la∧m=lc:=by simpa using hv
 unfold maxLen at hlm;clear hv;have HAcc:=hid (show acc++af (oP tb (NM.mk 11 t l c ks a m).tr)=acc++dR t by
  rw [aq,bP];show acc++af (es tb 11 t _ _)=_;unfold es;simp [af,df]
 )
 have HLn:=hid (show (acc++dR t).length≤140737488355000 by rw [← HAcc.out,lAp];exact aF);obtain ⟨w1,hw,ac,hr,hlt1⟩:=an1 w (.cells #[.int .i64 11,.string (bs t),.int .i64 l,.int .i64 c,.slice a ks.length m] 27);have hlt0:=h.lt.2;have HP:=hid (h.below ac);have HK:=hid (PK.of ac (Nat.le_of_lt hlt0));have aG:=hid hr;have cv:w.heap.size≠pb:=by omega
 clear h hh ac hr aF;go_enter Tryz.func80,Tryz.ntmps80
 go_wp2_with fail;rw [← hw.out];clear hw;refine aH (S:=fun W=>W.heap[w.heap.size]? = some (.cells #[.int .i64 11,.string (bs t),.int .i64 l,.int .i64 c,.slice a ks.length m] 27 (0,0))) (by kernel_rfl) ?_;obtain ⟨w2,hw,ac⟩:=dr1 w1;rw [← hw.out];clear hw;have hk:=PK.of ac (Nat.le_of_lt HP.out.lt.2);replace HP:=hid (HP.out.below ac);replace aG:=hid (hk.row aG.out cv (by decide));replace HK:=hid (HK.out.trans hk);clear ac hk;have hS:=aG.out;refine zdA 0 (some 18) (.pointer (some ⟨pb,0,none⟩)) hS ?_
 try simp only [aPu,sA,sB,sC]
 refine zdA 1 (some 19) (.pointer (some ⟨pb,0,none⟩)) hS ?_
 try simp only [aPu,sA,sB,sC]
 refine zdA 2 (some 20) (.pointer (some ⟨pb,0,none⟩)) hS ?_
 try simp only [aPu,sA,sB,sC]
 refine zdA 3 (some 21) (.pointer (some ⟨w.heap.size,1,none⟩)) hS ?_
 try simp only [aPu,sA,sB,sC]
 refine zdD 4 (some 22) (.string (bs t)) hS ?_ (hv:=fun W hW=>by have q:W.cell? ⟨w.heap.size,1,none⟩=some (.string (bs t)):=cRo W _ 1 _ _ _ hW;go_simp)
 try simp only [aPu,sA,sB,sC]
 refine zdC 5 ?_;intro K hK;go_simp;refine (qg t (by omega) (dR t) rfl _).mono ?_;rintro e w3 ⟨rfl,hb⟩;have hk:=PK.of hb (Nat.le_of_lt HP.out.lt.2);replace HP:=hid (HP.out.below hb);replace aG:=hid (hk.row aG.out cv (by decide));replace HK:=hid (HK.out.trans hk);clear hb hk;go_wp2_with fail;clear hS;have hS:=aG.out;refine hK.out _ _ hS ?_;clear hK K
 try simp only [aPu,sA,sB,sC]
 refine zdC 6 ?_;intro K hK;go_simp;refine (iz pb (acc) tb (dR t) _ HP.out (by have:=HLn.out;simp only [lAp] at this ⊢;omega)).mono ?_;rintro e w4 ⟨rfl,hp,hk⟩;replace HP:=hid hp;replace aG:=hid (hk.row aG.out cv (by decide));replace HK:=hid (HK.out.trans hk);clear hp hk;go_wp2_with fail;clear hS;have hS:=aG.out;refine hK.out _ _ hS ?_;clear hK K
 try simp only [aPu,sA,sB,sC]
 refine zdH ?_;clear hS;obtain ⟨bJ,bI,bH,bK,bT⟩:=r5 aG.out;go_wp2_with fail;clear bJ bI bH bK bT
 go_end0
 exact ⟨rfl,by show aO pb pb (acc++af _) tb _;rw [HAcc.out];exact HP.out,HK.out⟩
theorem zat (pb:Nat) (t:List UInt8) (l c:Int) (ks:List NM) (a:Option Addr) (m:Nat) (hk0:ks.length≤1000000) (IH:∀ j (hj:j<ks.length),fy 80 pb (fun n=>oP n ks[j].tr) ks[j]):fy 80 pb (fun n=>oP n (NM.mk 12 t l c ks a m).tr) (NM.mk 12 t l c ks a m):=by
 intro acc tb w h hh htb aF;change Calls _ _ #[_,aB 12 t l c (.slice a ks.length m)] _ _;have HKI:=hid (el.of hh);obtain ⟨la,lc,hv,iI,hlm,-⟩:=HKI.out.at;obtain ⟨rfl,rfl⟩:a=la∧m=lc:=by simpa using hv
 unfold maxLen at hlm;clear hv;have HAcc:=hid (show acc++af (oP tb (NM.mk 12 t l c ks a m).tr)=acc++[91]++af (aE (ks.map (fun (x:NM)=>oP tb x.tr)))++[93] by
  have hm:∀ n,oPs n (NM.trs ks)=ks.map (fun (x:NM)=>oP n x.tr):=fun n=>by rw [c8,bR,List.map_map];rfl
  rw [aq,bP];show acc++af (es tb 12 t _ _)=_;unfold es;rw [hm];simp [af,df,sg]
 )
 have HLn:=hid (show (acc++[91]++af (aE (ks.map (fun (x:NM)=>oP tb x.tr)))++[93]).length≤140737488355000 by rw [← HAcc.out,lAp];exact aF);obtain ⟨w1,hw,ac,hr,hlt1⟩:=an1 w (.cells #[.int .i64 12,.string (bs t),.int .i64 l,.int .i64 c,.slice a ks.length m] 27);have hlt0:=h.lt.2;have HP:=hid (h.below ac);have HK:=hid (PK.of ac (Nat.le_of_lt hlt0));have aG:=hid hr;have cv:w.heap.size≠pb:=by omega
 clear h hh ac hr aF;have qo:=mf;go_enter Tryz.func80,Tryz.ntmps80
 go_wp2_with fail;rw [← hw.out];clear hw;refine (iJ pb (acc) tb 91 _ HP.out (by have:=HLn.out;simp only [lAp,lCo,lNi] at this ⊢;omega)).mono ?_;rintro e w2 ⟨rfl,hp,hk⟩;replace HP:=hid hp;replace aG:=hid (hk.row aG.out cv (by decide));replace HK:=hid (HK.out.trans hk);clear hp hk;obtain ⟨bJ,bI,bH,bK,bT⟩:=r5 aG.out;go_wp2_with fail;clear bJ bI bH bK bT;refine (zo pb (fun n (x:NM)=>oP n x.tr) ks (.slice a ks.length m) (acc++[91]) tb _ HP.out (HKI.out.keep HK.out.below) htb hk0 (by have:=HLn.out;simp only [lAp,lCo,lNi] at this ⊢;omega) IH).mono ?_;rintro e w3 ⟨rfl,hp,hk⟩;replace HP:=hid hp;replace aG:=hid (hk.row aG.out cv (by decide));replace HK:=hid (HK.out.trans hk);clear hp hk;obtain ⟨bJ,bI,bH,bK,bT⟩:=r5 aG.out;go_wp2_with fail;clear bJ bI bH bK bT;refine (iJ pb (acc++[91]++af (aE (ks.map (fun (x:NM)=>oP tb x.tr)))) tb 93 _ HP.out (by have:=HLn.out;simp only [lAp,lCo,lNi] at this ⊢;omega)).mono ?_;rintro e w4 ⟨rfl,hp,hk⟩;replace HP:=hid hp;replace aG:=hid (hk.row aG.out cv (by decide));replace HK:=hid (HK.out.trans hk);clear hp hk;go_wp2_with fail
 go_end0
 exact ⟨rfl,by show aO pb pb (acc++af _) tb _;rw [HAcc.out];exact HP.out,HK.out⟩
theorem zbl (pb:Nat) (t:List UInt8) (l c:Int) (ks:List NM) (a:Option Addr) (m:Nat) (hk0:ks.length≤1000000) (IH:∀ j (hj:j<ks.length),fy 79 pb (fun n=>oP n ks[j].tr) ks[j]):fy 80 pb (fun n=>oP n (NM.mk 14 t l c ks a m).tr) (NM.mk 14 t l c ks a m):=by
 intro acc tb w h hh htb aF;change Calls _ _ #[_,aB 14 t l c (.slice a ks.length m)] _ _;have HKI:=hid (el.of hh);obtain ⟨la,lc,hv,iI,hlm,-⟩:=HKI.out.at;obtain ⟨rfl,rfl⟩:a=la∧m=lc:=by simpa using hv
 unfold maxLen at hlm;clear hv;have HAcc:=hid (show acc++af (oP tb (NM.mk 14 t l c ks a m).tr)=acc++(t++[40])++af (aE (ks.map (fun (x:NM)=>oP tb x.tr)))++[41] by
  have hm:∀ n,oPs n (NM.trs ks)=ks.map (fun (x:NM)=>oP n x.tr):=fun n=>by rw [c8,bR,List.map_map];rfl
  rw [aq,bP];show acc++af (es tb 14 t _ _)=_;unfold es;rw [hm];simp [af,df,sg]
 )
 have HLn:=hid (show (acc++(t++[40])++af (aE (ks.map (fun (x:NM)=>oP tb x.tr)))++[41]).length≤140737488355000 by rw [← HAcc.out,lAp];exact aF);have hl_t:t.length≤140737488355000:=by have:=HLn.out;simp only [lAp,lCo] at this;omega
 obtain ⟨w1,hw,ac,hr,hlt1⟩:=an1 w (.cells #[.int .i64 14,.string (bs t),.int .i64 l,.int .i64 c,.slice a ks.length m] 27);have hlt0:=h.lt.2;have HP:=hid (h.below ac);have HK:=hid (PK.of ac (Nat.le_of_lt hlt0));have aG:=hid hr;have cv:w.heap.size≠pb:=by omega
 clear h hh ac hr aF;have qo:=mf;go_enter Tryz.func80,Tryz.ntmps80
 go_wp2_with fail;rw [← hw.out];clear hw;refine aH (S:=fun W=>W.heap[w.heap.size]? = some (.cells #[.int .i64 14,.string (bs t),.int .i64 l,.int .i64 c,.slice a ks.length m] 27 (0,0))) (by kernel_rfl) ?_;obtain ⟨w2,hw,ac⟩:=dr1 w1;rw [← hw.out];clear hw;have hk:=PK.of ac (Nat.le_of_lt HP.out.lt.2);replace HP:=hid (HP.out.below ac);replace aG:=hid (hk.row aG.out cv (by decide));replace HK:=hid (HK.out.trans hk);clear ac hk;have hS:=aG.out;refine zdA 0 (some 76) (.pointer (some ⟨pb,0,none⟩)) hS ?_
 try simp only [aPu,sA,sB,sC]
 refine zdA 1 (some 77) (.pointer (some ⟨pb,0,none⟩)) hS ?_
 try simp only [aPu,sA,sB,sC]
 refine zdA 2 (some 78) (.pointer (some ⟨pb,0,none⟩)) hS ?_
 try simp only [aPu,sA,sB,sC]
 refine zdA 3 (some 79) (.pointer (some ⟨w.heap.size,1,none⟩)) hS ?_
 try simp only [aPu,sA,sB,sC]
 refine zdD 4 (some 80) (.string (bs t)) hS ?_ (hv:=fun W hW=>by have q:W.cell? ⟨w.heap.size,1,none⟩=some (.string (bs t)):=cRo W _ 1 _ _ _ hW;go_simp)
 try simp only [aPu,sA,sB,sC]
 refine zdD 5 (some 81) (.string (bs (t++[40]))) hS ?_ (hv:=fun W _=>by first | (go_simp;done) | (go_simp;omega))
 try simp only [aPu,sA,sB,sC]
 refine zdC 6 ?_;intro K hK;go_simp;refine (iz pb (acc) tb ((t++[40])) _ HP.out (by have:=HLn.out;simp only [lAp,lCo,lNi] at this ⊢;omega)).mono ?_;rintro e w3 ⟨rfl,hp,hk⟩;replace HP:=hid hp;replace aG:=hid (hk.row aG.out cv (by decide));replace HK:=hid (HK.out.trans hk);clear hp hk;go_wp2_with fail;clear hS;have hS:=aG.out;refine hK.out _ _ hS ?_;clear hK K
 try simp only [aPu,sA,sB,sC]
 refine zdH ?_;clear hS;obtain ⟨bJ,bI,bH,bK,bT⟩:=r5 aG.out;go_wp2_with fail;clear bJ bI bH bK bT;refine (wg pb (fun n (x:NM)=>oP n x.tr) ks (.slice a ks.length m) (acc++(t++[40])) tb _ HP.out (HKI.out.keep HK.out.below) htb hk0 (by have:=HLn.out;simp only [lAp,lCo,lNi] at this ⊢;omega) IH).mono ?_;rintro e w4 ⟨rfl,hp,hk⟩;replace HP:=hid hp;replace aG:=hid (hk.row aG.out cv (by decide));replace HK:=hid (HK.out.trans hk);clear hp hk;obtain ⟨bJ,bI,bH,bK,bT⟩:=r5 aG.out;go_wp2_with fail;clear bJ bI bH bK bT;refine (iJ pb (acc++(t++[40])++af (aE (ks.map (fun (x:NM)=>oP tb x.tr)))) tb 41 _ HP.out (by have:=HLn.out;simp only [lAp,lCo,lNi] at this ⊢;omega)).mono ?_;rintro e w5 ⟨rfl,hp,hk⟩;replace HP:=hid hp;replace aG:=hid (hk.row aG.out cv (by decide));replace HK:=hid (HK.out.trans hk);clear hp hk;go_wp2_with fail
 go_end0
 exact ⟨rfl,by show aO pb pb (acc++af _) tb _;rw [HAcc.out];exact HP.out,HK.out⟩
theorem yP (pb:Nat)  (l c:Int) (kx:Int) (tx:List UInt8) (lx cx:Int) (ksx:List NM) (ax:Option Addr) (mx:Nat) (a:Option Addr) (m:Nat) (IHx:fy 80 pb (fun n=>oP n (NM.mk kx tx lx cx ksx ax mx).tr) (NM.mk kx tx lx cx ksx ax mx)):fy 80 pb (fun n=>oP n (NM.mk 16 [110,111,116] l c [(NM.mk kx tx lx cx ksx ax mx)] a m).tr) (NM.mk 16 [110,111,116] l c [(NM.mk kx tx lx cx ksx ax mx)] a m):=by
 intro acc tb w h hh htb aF;change Calls _ _ #[_,aB 16 [110,111,116] l c (.slice a 1 m)] _ _;obtain ⟨kb,ko,ha,bk,hkw,hkm,hkM,cw⟩:=fc hh (by simp);subst ha;unfold maxLen at hkM;have hkm1:1≤m:=by simpa using hkm
 clear hkm;have Fx:=hid (show dn w kb ko (NM.mk kx tx lx cx ksx ax mx) from cw 0 (by simp));have Hx:=hid (show am (·<pb) w (NM.mk kx tx lx cx ksx ax mx) from ep hh 0 (by simp));clear cw;have HAcc:=hid (show acc++af (oP tb (NM.mk 16 [110,111,116] l c [(NM.mk kx tx lx cx ksx ax mx)] (some ⟨kb,ko,none⟩) m).tr)=acc++[110,111,116,32]++af (brk (dY (kx,tx)) (oP tb (NM.mk kx tx lx cx ksx ax mx).tr)) by
  rw [aq,bP,ai,ar,c8];show acc++af (es tb 16 cj _ _)=_;unfold es;simp [af,df,sp,cj,bD,Tr.top,aq]
 )
 have HLn:=hid (show (acc++[110,111,116,32]++af (brk (dY (kx,tx)) (oP tb (NM.mk kx tx lx cx ksx ax mx).tr))).length≤140737488355000 by rw [← HAcc.out,lAp];exact aF);obtain ⟨w1,hw,ac,hr,hlt1⟩:=an1 w (.cells #[.int .i64 16,.string (bs [110,111,116]),.int .i64 l,.int .i64 c,.slice (some ⟨kb,ko,none⟩) 1 m] 27);have hlt0:=h.lt.2;have HP:=hid (h.below ac);have HK:=hid (PK.of ac (Nat.le_of_lt hlt0));have aG:=hid hr;have cv:w.heap.size≠pb:=by omega
 clear h hh ac hr aF;go_enter Tryz.func80,Tryz.ntmps80
 go_wp2_with fail;rw [← hw.out];clear hw;refine (iz pb (acc) tb ([110,111,116,32]) _ HP.out (by have:=HLn.out;simp only [lAp,lCo,lNi] at this ⊢;omega)).mono ?_;rintro e w2 ⟨rfl,hp,hk⟩;replace HP:=hid hp;replace aG:=hid (hk.row aG.out cv (by decide));replace HK:=hid (HK.out.trans hk);clear hp hk;obtain ⟨bJ,bI,bH,bK,bT⟩:=r5 aG.out;obtain ⟨yx0,yx1,yx2,yx3,yx4⟩:=aj (Fx.out.keep (HK.out.below.block kb bk));have hkl:kb<w2.heap.size:=nL hkw HK.out.below.size;go_wp2_with fail;clear bJ bI bH bK bT yx0 yx1 yx2 yx3 yx4 hkl;refine aH (S:=fun W=>W.heap[w.heap.size]? = some (.cells #[.int .i64 16,.string (bs [110,111,116]),.int .i64 l,.int .i64 c,.slice (some ⟨kb,ko,none⟩) 1 m] 27 (0,0))∧dn W kb ko (NM.mk kx tx lx cx ksx ax mx)) (by kernel_rfl) ?_;obtain ⟨w3,hw,ac⟩:=dr1 w2;rw [← hw.out];clear hw;have hk:=PK.of ac (Nat.le_of_lt HP.out.lt.2);replace HP:=hid (HP.out.below ac);replace aG:=hid (hk.row aG.out cv (by decide));replace HK:=hid (HK.out.trans hk);clear ac hk;have hS:=And.intro (aG.out) (Fx.out.keep (HK.out.below.block kb bk));refine zdA 0 (some 102) (.pointer (some ⟨pb,0,none⟩)) hS ?_
 try simp only [aPu,sA,sB,sC]
 refine zdA 1 (some 103) (.pointer (some ⟨w.heap.size,4,none⟩)) hS ?_
 try simp only [aPu,sA,sB,sC]
 refine zdD 2 (some 104) (.slice (some ⟨kb,ko,none⟩) 1 m) hS ?_ (hv:=fun W hW=>by have q:W.cell? ⟨w.heap.size,4,none⟩=some (.slice (some ⟨kb,ko,none⟩) 1 m):=cRo W _ 4 _ _ _ hW.1;go_simp)
 try simp only [aPu,sA,sB,sC]
 refine zdD 3 (some 105) (.pointer (some ⟨kb,ko,none⟩)) hS ?_ (hv:=fun W _=>by go_simp)
 try simp only [aPu,sA,sB,sC]
 refine zdO 4 (some 106) rfl rfl (by kernel_rfl) (by kernel_rfl) (by kernel_rfl) (fun _ _ _ _ h=>h) hS (by kernel_rfl) 27 _ rfl kb ko rfl [.int .i64 kx,.string (bs tx),.int .i64 lx,.int .i64 cx,.slice ax ksx.length mx] _ (fun W hW=>nM (hW.2)) Tryz.underlying27 rfl (by kernel_rfl) ?_
 try simp only [aPu,sA,sB,sC]
 refine zdA 5 (some 107) (.pointer (some ⟨w.heap.size,4,none⟩)) hS ?_
 try simp only [aPu,sA,sB,sC]
 refine zdD 6 (some 108) (.slice (some ⟨kb,ko,none⟩) 1 m) hS ?_ (hv:=fun W hW=>by have q:W.cell? ⟨w.heap.size,4,none⟩=some (.slice (some ⟨kb,ko,none⟩) 1 m):=cRo W _ 4 _ _ _ hW.1;go_simp)
 try simp only [aPu,sA,sB,sC]
 refine zdD 7 (some 109) (.pointer (some ⟨kb,ko,none⟩)) hS ?_ (hv:=fun W _=>by go_simp)
 try simp only [aPu,sA,sB,sC]
 refine zdO 8 (some 110) rfl rfl (by kernel_rfl) (by kernel_rfl) (by kernel_rfl) (fun _ _ _ _ h=>h) hS (by kernel_rfl) 27 _ rfl kb ko rfl [.int .i64 kx,.string (bs tx),.int .i64 lx,.int .i64 cx,.slice ax ksx.length mx] _ (fun W hW=>nM (hW.2)) Tryz.underlying27 rfl (by kernel_rfl) ?_
 try simp only [aPu,sA,sB,sC]
 refine zdC 9 ?_;intro K hK;go_simp;refine (iO kx tx lx cx ax ksx.length mx _).mono ?_;rintro e w4 ⟨rfl,hb⟩;have hk:=PK.of hb (Nat.le_of_lt HP.out.lt.2);replace HP:=hid (HP.out.below hb);replace aG:=hid (hk.row aG.out cv (by decide));replace HK:=hid (HK.out.trans hk);clear hb hk;go_wp2_with fail;clear hS;have hS:=And.intro (aG.out) (Fx.out.keep (HK.out.below.block kb bk));refine hK.out _ _ hS ?_;clear hK K
 try simp only [aPu,sA,sB,sC]
 refine zdC 10 ?_;intro K hK;go_simp;refine (jW pb (dY (kx,tx)) kx tx lx cx ksx ax mx (acc++[110,111,116,32]) tb _ HP.out (am.keep (bh HK.out.below) Hx.out) htb (by have:=HLn.out;simp only [lAp,lCo,lNi] at this ⊢;omega) IHx).mono ?_;rintro e w5 ⟨rfl,hp,hk⟩;replace HP:=hid hp;replace aG:=hid (hk.row aG.out cv (by decide));replace HK:=hid (HK.out.trans hk);clear hp hk;go_wp2_with fail;clear hS;have hS:=And.intro (aG.out) (Fx.out.keep (HK.out.below.block kb bk));refine hK.out _ _ hS ?_;clear hK K
 try simp only [aPu,sA,sB,sC]
 refine zdH ?_;clear hS;obtain ⟨bJ,bI,bH,bK,bT⟩:=r5 aG.out;obtain ⟨yx0,yx1,yx2,yx3,yx4⟩:=aj (Fx.out.keep (HK.out.below.block kb bk));have hkl:kb<w5.heap.size:=nL hkw HK.out.below.size;go_wp2_with fail;clear bJ bI bH bK bT yx0 yx1 yx2 yx3 yx4 hkl;refine bodyPost_ret (results_none rfl _ _ _) rfl ?_;exact ⟨rfl,by show aO pb pb (acc++af _) tb _;rw [HAcc.out];exact HP.out,HK.out⟩
theorem zg (pb:Nat) (t:List UInt8) (l c:Int) (kx:Int) (tx:List UInt8) (lx cx:Int) (ksx:List NM) (ax:Option Addr) (mx:Nat) (ky:Int) (ty:List UInt8) (ly cy:Int) (ksy:List NM) (ay:Option Addr) (my:Nat) (a:Option Addr) (m:Nat) (hto:(t == [110,111,116])=false) (IHx:fy 80 pb (fun n=>oP n (NM.mk kx tx lx cx ksx ax mx).tr) (NM.mk kx tx lx cx ksx ax mx)) (IHy:fy 80 pb (fun n=>oP n (NM.mk ky ty ly cy ksy ay my).tr) (NM.mk ky ty ly cy ksy ay my)):fy 80 pb (fun n=>oP n (NM.mk 16 t l c [(NM.mk kx tx lx cx ksx ax mx),(NM.mk ky ty ly cy ksy ay my)] a m).tr) (NM.mk 16 t l c [(NM.mk kx tx lx cx ksx ax mx),(NM.mk ky ty ly cy ksy ay my)] a m):=by
 intro acc tb w h hh htb aF;change Calls _ _ #[_,aB 16 t l c (.slice a 2 m)] _ _;obtain ⟨kb,ko,ha,bk,hkw,hkm,hkM,cw⟩:=fc hh (by simp);subst ha;unfold maxLen at hkM;have hkm1:2≤m:=by simpa using hkm
 clear hkm;have Fx:=hid (show dn w kb ko (NM.mk kx tx lx cx ksx ax mx) from cw 0 (by simp));have Hx:=hid (show am (·<pb) w (NM.mk kx tx lx cx ksx ax mx) from ep hh 0 (by simp));have Fy:=hid (show dn w kb (ko+5) (NM.mk ky ty ly cy ksy ay my) from cw 1 (by simp));have Hy:=hid (show am (·<pb) w (NM.mk ky ty ly cy ksy ay my) from ep hh 1 (by simp));clear cw;have HAcc:=hid (show acc++af (oP tb (NM.mk 16 t l c [(NM.mk kx tx lx cx ksx ax mx),(NM.mk ky ty ly cy ksy ay my)] (some ⟨kb,ko,none⟩) m).tr)=acc++af (brk (gV (kx,tx)) (oP tb (NM.mk kx tx lx cx ksx ax mx).tr))++(32::(t++[32]))++af (brk (hU t (ky,ty)) (oP tb (NM.mk ky ty ly cy ksy ay my).tr)) by
  have htn:t≠cj:=by intro e;rw [e] at hto;exact absurd hto (by decide)
  rw [aq,bP,ai,ai,ar,c8];show acc++af (es tb 16 t _ _)=_;unfold es;simp [af,df,sp,bD,Tr.top,aq,htn,opP];by_cases hi:t=wIn <;> simp [hi]
 )
 have HLn:=hid (show (acc++af (brk (gV (kx,tx)) (oP tb (NM.mk kx tx lx cx ksx ax mx).tr))++(32::(t++[32]))++af (brk (hU t (ky,ty)) (oP tb (NM.mk ky ty ly cy ksy ay my).tr))).length≤140737488355000 by rw [← HAcc.out,lAp];exact aF);have hl_t:t.length≤140737488355000:=by have:=HLn.out;simp only [lAp,lCo] at this;omega
 obtain ⟨w1,hw,ac,hr,hlt1⟩:=an1 w (.cells #[.int .i64 16,.string (bs t),.int .i64 l,.int .i64 c,.slice (some ⟨kb,ko,none⟩) 2 m] 27);have hlt0:=h.lt.2;have HP:=hid (h.below ac);have HK:=hid (PK.of ac (Nat.le_of_lt hlt0));have aG:=hid hr;have cv:w.heap.size≠pb:=by omega
 clear h hh ac hr aF;obtain ⟨acJ,hj0,hj1,hj2⟩:∃ f:Nat→List UInt8,f 0=acc∧f 1=acc++af (brk (gV (kx,tx)) (oP tb (NM.mk kx tx lx cx ksx ax mx).tr))∧f 2=acc++af (brk (gV (kx,tx)) (oP tb (NM.mk kx tx lx cx ksx ax mx).tr))++(32::(t++[32]))++af (brk (hU t (ky,ty)) (oP tb (NM.mk ky ty ly cy ksy ay my).tr)):=⟨fun j=>if j=0 then acc else if j=1 then acc++af (brk (gV (kx,tx)) (oP tb (NM.mk kx tx lx cx ksx ax mx).tr)) else acc++af (brk (gV (kx,tx)) (oP tb (NM.mk kx tx lx cx ksx ax mx).tr))++(32::(t++[32]))++af (brk (hU t (ky,ty)) (oP tb (NM.mk ky ty ly cy ksy ay my).tr)),rfl,rfl,rfl⟩;have HJ0:=hid hj0;have HJ1:=hid hj1;have HJ2:=hid hj2;clear hj0 hj1 hj2;go_enter Tryz.func80,Tryz.ntmps80
 go_wp2_with fail;rw [← hw.out];clear hw;go_loopw [116] (fun i wr=>∃ j:Nat,j≤2∧i=.int .i64 j∧aO pb pb (acJ j) tb wr∧PK pb w wr∧wr.heap[w.heap.size]? = some (.cells #[.int .i64 16,.string (bs t),.int .i64 l,.int .i64 c,.slice (some ⟨kb,ko,none⟩) 2 m] 27 (0,0))) (fun i _=>2 - (intOf i).toNat)
 case atStart=>exact ⟨0,by omega,rfl,by rw [HJ0.out];exact HP.out,HK.out,aG.out⟩
 case round =>
  clear HP HK aG;obtain ⟨j,hj,rfl,hp,hk,hr⟩:=hrel;have HP:=hid hp;have HK:=hid hk;have aG:=hid hr;clear hp hk hr;have h3:j=0∨j=1∨j=2:=by omega
  rcases h3 with rfl | rfl | rfl
  ·skip
   rw [HJ0.out] at HP;obtain ⟨wk,hw,ac,hr,hltk⟩:=an1 wr (.cells #[.int .i64 kx,.string (bs tx),.int .i64 lx,.int .i64 cx,.slice ax ksx.length mx] 27);obtain ⟨bJ,bI,bH,bK,bT⟩:=r5 aG.out;obtain ⟨yx0,yx1,yx2,yx3,yx4⟩:=aj (Fx.out.keep (HK.out.below.block kb bk));obtain ⟨yy0,yy1,yy2,yy3,yy4⟩:=aj (Fy.out.keep (HK.out.below.block kb bk));have hkl:kb<wr.heap.size:=nL hkw HK.out.below.size;have m8:wr.heap.size≠pb:=by have:=HP.out.lt.2;omega
   have hk0':=PK.of ac (Nat.le_of_lt HP.out.lt.2);have HP2:=hid (HP.out.below ac);have zc:=hid (hk0'.row aG.out cv (by decide));have HK2:=hid (HK.out.trans hk0');have eZ:=hid hr;clear hk0' ac hr;go_wp2_with fail;clear bJ bI bH bK bT yx0 yx1 yx2 yx3 yx4 yy0 yy1 yy2 yy3 yy4 hkl;rw [← hw.out];clear hw HP HK aG;have HP:=HP2;have HK:=HK2;have aG:=zc;clear HP2 HK2 zc;refine aH (S:=fun W=>W.heap[w.heap.size]? = some (.cells #[.int .i64 16,.string (bs t),.int .i64 l,.int .i64 c,.slice (some ⟨kb,ko,none⟩) 2 m] 27 (0,0))∧W.heap[wr.heap.size]? = some (.cells #[.int .i64 kx,.string (bs tx),.int .i64 lx,.int .i64 cx,.slice ax ksx.length mx] 27 (0,0))) (by kernel_rfl) ?_;obtain ⟨w11,hw,ac⟩:=dr1 wk;rw [← hw.out];clear hw;have hk:=PK.of ac (Nat.le_of_lt HP.out.lt.2);replace HP:=hid (HP.out.below ac);replace aG:=hid (hk.row aG.out cv (by decide));replace eZ:=hid (hk.row eZ.out m8 (by decide));replace HK:=hid (HK.out.trans hk);clear ac hk;have hS:=And.intro (aG.out) (eZ.out);refine zdA 0 (some 131) (.pointer (some ⟨pb,0,none⟩)) hS ?_
   try simp only [aPu,sA,sB,sC]
   refine zdN 1 (some 132) hS 27 (wr.heap.size) 0 [.int .i64 kx,.string (bs tx),.int .i64 lx,.int .i64 cx,.slice ax ksx.length mx] (fun W hW=>bt (hW.2)) Tryz.underlying27 ?_
   try simp only [aPu,sA,sB,sC]
   refine zdN 2 (some 133) hS 27 (wr.heap.size) 0 [.int .i64 kx,.string (bs tx),.int .i64 lx,.int .i64 cx,.slice ax ksx.length mx] (fun W hW=>bt (hW.2)) Tryz.underlying27 ?_
   try simp only [aPu,sA,sB,sC]
   refine zdC 3 ?_;intro K hK;go_simp;cases h2:dY (kx,tx) with
   | false =>
     have HT2:=iO kx tx lx cx ax ksx.length mx w11;rw [h2] at HT2;refine (HT2).mono ?_;rintro e w12 ⟨rfl,hb⟩;have hk:=PK.of hb (Nat.le_of_lt HP.out.lt.2);replace HP:=hid (HP.out.below hb);replace aG:=hid (hk.row aG.out cv (by decide));replace eZ:=hid (hk.row eZ.out m8 (by decide));replace HK:=hid (HK.out.trans hk);clear hb hk;clear HT2;go_wp2_with fail;clear hS;have hS:=And.intro (aG.out) (eZ.out);refine hK.out _ _ hS ?_;clear hK K
     try simp only [aPu,sA,sB,sC]
     refine zdA 4 (some 135) (.bool false) hS ?_
     try simp only [aPu,sA,sB,sC]
     refine zdG 5 (some 136) hS ?_
     try simp only [aPu,sA,sB,sC]
     refine zdG 6 (some 137) hS ?_
     try simp only [aPu,sA,sB,sC]
     refine zdG 7 (some 138) hS ?_
     try simp only [aPu,sA,sB,sC]
     refine zdG 8 (some 139) hS ?_
     try simp only [aPu,sA,sB,sC]
     refine zdG 9 (some 140) hS ?_
     try simp only [aPu,sA,sB,sC]
     refine zdG 10 (some 141) hS ?_
     try simp only [aPu,sA,sB,sC]
     refine zdG 11 (some 142) hS ?_
     try simp only [aPu,sA,sB,sC]
     refine zdG 12 (some 143) hS ?_
     try simp only [aPu,sA,sB,sC]
     refine zdG 13 (some 144) hS ?_
     try simp only [aPu,sA,sB,sC]
     refine zdG 14 (some 145) hS ?_
     try simp only [aPu,sA,sB,sC]
     refine zdG 15 (some 146) hS ?_
     try simp only [aPu,sA,sB,sC]
     refine zdG 16 (some 147) hS ?_
     try simp only [aPu,sA,sB,sC]
     refine zdA 17 (some 148) (.bool false) hS ?_
     try simp only [aPu,sA,sB,sC]
     refine zdC 18 ?_;intro K hK;go_simp;have hbr:gV (kx,tx)=false:=by unfold gV dX;rw [h2];simp
     have HLn2:=hid (show (acc++af (brk false (oP tb (NM.mk kx tx lx cx ksx ax mx).tr))).length≤140737488355000 by have:=HLn.out;rw [hbr] at this;simp only [lAp] at this ⊢;omega);refine (jW pb false kx tx lx cx ksx ax mx (acc) tb _ HP.out (am.keep (bh HK.out.below) Hx.out) htb (by have:=HLn2.out;simp only [lAp] at this ⊢;omega) IHx).mono ?_;rintro e w13 ⟨rfl,hp,hk⟩;replace HP:=hid hp;replace aG:=hid (hk.row aG.out cv (by decide));replace eZ:=hid (hk.row eZ.out m8 (by decide));replace HK:=hid (HK.out.trans hk);clear hp hk;go_wp2_with fail;clear hS;have hS:=And.intro (aG.out) (eZ.out);refine hK.out _ _ hS ?_;clear hK K
     try simp only [aPu,sA,sB,sC]
     refine zdH ?_;clear hS;obtain ⟨bJ,bI,bH,bK,bT⟩:=r5 aG.out;obtain ⟨kJ,lh,k8,kW,kL⟩:=r5 eZ.out;obtain ⟨yx0,yx1,yx2,yx3,yx4⟩:=aj (Fx.out.keep (HK.out.below.block kb bk));obtain ⟨yy0,yy1,yy2,yy3,yy4⟩:=aj (Fy.out.keep (HK.out.below.block kb bk));have hkl:kb<w13.heap.size:=nL hkw HK.out.below.size;go_wp2_with fail;clear bJ bI bH bK bT kJ lh k8 kW kL yx0 yx1 yx2 yx3 yx4 yy0 yy1 yy2 yy3 yy4 hkl
     go_round
     case rel=>exact ⟨1,by omega,by go_num,by rw [HJ1.out];have:=HP.out;rw [← hbr] at this;exact this,HK.out,aG.out⟩
     case measure=>simp [intOf]
   | true =>
     cases h43:(tx == ([43]:List UInt8)) with
     | false =>
       have HT2:=iO kx tx lx cx ax ksx.length mx w11;rw [h2] at HT2;refine (HT2).mono ?_;rintro e w12 ⟨rfl,hb⟩;have hk:=PK.of hb (Nat.le_of_lt HP.out.lt.2);replace HP:=hid (HP.out.below hb);replace aG:=hid (hk.row aG.out cv (by decide));replace eZ:=hid (hk.row eZ.out m8 (by decide));replace HK:=hid (HK.out.trans hk);clear hb hk;clear HT2;go_wp2_with fail;clear hS;have hS:=And.intro (aG.out) (eZ.out);refine hK.out _ _ hS ?_;clear hK K
       try simp only [aPu,sA,sB,sC]
       refine zdA 4 (some 135) (.bool true) hS ?_
       try simp only [aPu,sA,sB,sC]
       refine zdA 5 (some 136) (.pointer (some ⟨wr.heap.size,1,none⟩)) hS ?_
       try simp only [aPu,sA,sB,sC]
       refine zdD 6 (some 137) (.string (bs tx)) hS ?_ (hv:=fun W hW=>by have q:W.cell? ⟨wr.heap.size,1,none⟩=some (.string (bs tx)):=cRo W _ 1 _ _ _ hW.2;go_simp)
       try simp only [aPu,sA,sB,sC]
       refine zdD 7 (some 138) (.bool true) hS ?_ (hv:=fun W _=>by have q:=h43;go_simp)
       try simp only [aPu,sA,sB,sC]
       refine zdA 8 (some 139) (.bool true) hS ?_
       try simp only [aPu,sA,sB,sC]
       refine zdG 9 (some 140) hS ?_
       try simp only [aPu,sA,sB,sC]
       refine zdG 10 (some 141) hS ?_
       try simp only [aPu,sA,sB,sC]
       refine zdG 11 (some 142) hS ?_
       try simp only [aPu,sA,sB,sC]
       refine zdG 12 (some 143) hS ?_
       try simp only [aPu,sA,sB,sC]
       refine zdG 13 (some 144) hS ?_
       try simp only [aPu,sA,sB,sC]
       refine zdG 14 (some 145) hS ?_
       try simp only [aPu,sA,sB,sC]
       refine zdG 15 (some 146) hS ?_
       try simp only [aPu,sA,sB,sC]
       refine zdA 16 (some 147) (.bool true) hS ?_
       try simp only [aPu,sA,sB,sC]
       refine zdA 17 (some 148) (.bool true) hS ?_
       try simp only [aPu,sA,sB,sC]
       refine zdC 18 ?_;intro K hK;go_simp;have hbr:gV (kx,tx)=true:=by unfold gV dX;rw [h2];simp;simpa using h43
       have HLn2:=hid (show (acc++af (brk true (oP tb (NM.mk kx tx lx cx ksx ax mx).tr))).length≤140737488355000 by have:=HLn.out;rw [hbr] at this;simp only [lAp] at this ⊢;omega);refine (jW pb true kx tx lx cx ksx ax mx (acc) tb _ HP.out (am.keep (bh HK.out.below) Hx.out) htb (by have:=HLn2.out;simp only [lAp] at this ⊢;omega) IHx).mono ?_;rintro e w13 ⟨rfl,hp,hk⟩;replace HP:=hid hp;replace aG:=hid (hk.row aG.out cv (by decide));replace eZ:=hid (hk.row eZ.out m8 (by decide));replace HK:=hid (HK.out.trans hk);clear hp hk;go_wp2_with fail;clear hS;have hS:=And.intro (aG.out) (eZ.out);refine hK.out _ _ hS ?_;clear hK K
       try simp only [aPu,sA,sB,sC]
       refine zdH ?_;clear hS;obtain ⟨bJ,bI,bH,bK,bT⟩:=r5 aG.out;obtain ⟨kJ,lh,k8,kW,kL⟩:=r5 eZ.out;obtain ⟨yx0,yx1,yx2,yx3,yx4⟩:=aj (Fx.out.keep (HK.out.below.block kb bk));obtain ⟨yy0,yy1,yy2,yy3,yy4⟩:=aj (Fy.out.keep (HK.out.below.block kb bk));have hkl:kb<w13.heap.size:=nL hkw HK.out.below.size;go_wp2_with fail;clear bJ bI bH bK bT kJ lh k8 kW kL yx0 yx1 yx2 yx3 yx4 yy0 yy1 yy2 yy3 yy4 hkl
       go_round
       case rel=>exact ⟨1,by omega,by go_num,by rw [HJ1.out];have:=HP.out;rw [← hbr] at this;exact this,HK.out,aG.out⟩
       case measure=>simp [intOf]
     | true =>
       have HT2:=iO kx tx lx cx ax ksx.length mx w11;rw [h2] at HT2;refine (HT2).mono ?_;rintro e w12 ⟨rfl,hb⟩;have hk:=PK.of hb (Nat.le_of_lt HP.out.lt.2);replace HP:=hid (HP.out.below hb);replace aG:=hid (hk.row aG.out cv (by decide));replace eZ:=hid (hk.row eZ.out m8 (by decide));replace HK:=hid (HK.out.trans hk);clear hb hk;clear HT2;go_wp2_with fail;clear hS;have hS:=And.intro (aG.out) (eZ.out);refine hK.out _ _ hS ?_;clear hK K
       try simp only [aPu,sA,sB,sC]
       refine zdA 4 (some 135) (.bool true) hS ?_
       try simp only [aPu,sA,sB,sC]
       refine zdA 5 (some 136) (.pointer (some ⟨wr.heap.size,1,none⟩)) hS ?_
       try simp only [aPu,sA,sB,sC]
       refine zdD 6 (some 137) (.string (bs tx)) hS ?_ (hv:=fun W hW=>by have q:W.cell? ⟨wr.heap.size,1,none⟩=some (.string (bs tx)):=cRo W _ 1 _ _ _ hW.2;go_simp)
       try simp only [aPu,sA,sB,sC]
       refine zdD 7 (some 138) (.bool false) hS ?_ (hv:=fun W _=>by have q:=h43;go_simp)
       try simp only [aPu,sA,sB,sC]
       refine zdA 8 (some 139) (.bool false) hS ?_
       try simp only [aPu,sA,sB,sC]
       refine zdA 9 (some 140) (.int .i64 0) hS ?_
       try simp only [aPu,sA,sB,sC]
       refine zdD 10 (some 141) (.bool false) hS ?_ (hv:=fun W _=>by go_simp)
       try simp only [aPu,sA,sB,sC]
       refine zdA 11 (some 142) (.bool false) hS ?_
       try simp only [aPu,sA,sB,sC]
       refine zdG 12 (some 143) hS ?_
       try simp only [aPu,sA,sB,sC]
       refine zdG 13 (some 144) hS ?_
       try simp only [aPu,sA,sB,sC]
       refine zdG 14 (some 145) hS ?_
       try simp only [aPu,sA,sB,sC]
       refine zdA 15 (some 146) (.bool false) hS ?_
       try simp only [aPu,sA,sB,sC]
       refine zdA 16 (some 147) (.bool false) hS ?_
       try simp only [aPu,sA,sB,sC]
       refine zdA 17 (some 148) (.bool false) hS ?_
       try simp only [aPu,sA,sB,sC]
       refine zdC 18 ?_;intro K hK;go_simp;have hbr:gV (kx,tx)=false:=by unfold gV dX;have:=h43;simp at this;subst this;simp
       have HLn2:=hid (show (acc++af (brk false (oP tb (NM.mk kx tx lx cx ksx ax mx).tr))).length≤140737488355000 by have:=HLn.out;rw [hbr] at this;simp only [lAp] at this ⊢;omega);refine (jW pb false kx tx lx cx ksx ax mx (acc) tb _ HP.out (am.keep (bh HK.out.below) Hx.out) htb (by have:=HLn2.out;simp only [lAp] at this ⊢;omega) IHx).mono ?_;rintro e w13 ⟨rfl,hp,hk⟩;replace HP:=hid hp;replace aG:=hid (hk.row aG.out cv (by decide));replace eZ:=hid (hk.row eZ.out m8 (by decide));replace HK:=hid (HK.out.trans hk);clear hp hk;go_wp2_with fail;clear hS;have hS:=And.intro (aG.out) (eZ.out);refine hK.out _ _ hS ?_;clear hK K
       try simp only [aPu,sA,sB,sC]
       refine zdH ?_;clear hS;obtain ⟨bJ,bI,bH,bK,bT⟩:=r5 aG.out;obtain ⟨kJ,lh,k8,kW,kL⟩:=r5 eZ.out;obtain ⟨yx0,yx1,yx2,yx3,yx4⟩:=aj (Fx.out.keep (HK.out.below.block kb bk));obtain ⟨yy0,yy1,yy2,yy3,yy4⟩:=aj (Fy.out.keep (HK.out.below.block kb bk));have hkl:kb<w13.heap.size:=nL hkw HK.out.below.size;go_wp2_with fail;clear bJ bI bH bK bT kJ lh k8 kW kL yx0 yx1 yx2 yx3 yx4 yy0 yy1 yy2 yy3 yy4 hkl
       go_round
       case rel=>exact ⟨1,by omega,by go_num,by rw [HJ1.out];have:=HP.out;rw [← hbr] at this;exact this,HK.out,aG.out⟩
       case measure=>simp [intOf]
  ·skip
   rw [HJ1.out] at HP;obtain ⟨wk,hw,ac,hr,hltk⟩:=an1 wr (.cells #[.int .i64 ky,.string (bs ty),.int .i64 ly,.int .i64 cy,.slice ay ksy.length my] 27);obtain ⟨bJ,bI,bH,bK,bT⟩:=r5 aG.out;obtain ⟨yx0,yx1,yx2,yx3,yx4⟩:=aj (Fx.out.keep (HK.out.below.block kb bk));obtain ⟨yy0,yy1,yy2,yy3,yy4⟩:=aj (Fy.out.keep (HK.out.below.block kb bk));have hkl:kb<wr.heap.size:=nL hkw HK.out.below.size;have m8:wr.heap.size≠pb:=by have:=HP.out.lt.2;omega
   have hk0':=PK.of ac (Nat.le_of_lt HP.out.lt.2);have HP2:=hid (HP.out.below ac);have zc:=hid (hk0'.row aG.out cv (by decide));have HK2:=hid (HK.out.trans hk0');have eZ:=hid hr;clear hk0' ac hr;go_wp2_with fail;clear bJ bI bH bK bT yx0 yx1 yx2 yx3 yx4 yy0 yy1 yy2 yy3 yy4 hkl;rw [← hw.out];clear hw HP HK aG;have HP:=HP2;have HK:=HK2;have aG:=zc;clear HP2 HK2 zc;refine aH (S:=fun W=>W.heap[w.heap.size]? = some (.cells #[.int .i64 16,.string (bs t),.int .i64 l,.int .i64 c,.slice (some ⟨kb,ko,none⟩) 2 m] 27 (0,0))) (by kernel_rfl) ?_;obtain ⟨w11,hw,ac⟩:=dr1 wk;rw [← hw.out];clear hw;have hk:=PK.of ac (Nat.le_of_lt HP.out.lt.2);replace HP:=hid (HP.out.below ac);replace aG:=hid (hk.row aG.out cv (by decide));replace eZ:=hid (hk.row eZ.out m8 (by decide));replace HK:=hid (HK.out.trans hk);clear ac hk;have hS:=aG.out;refine zdA 0 (some 123) (.pointer (some ⟨pb,0,none⟩)) hS ?_
   try simp only [aPu,sA,sB,sC]
   refine zdA 1 (some 124) (.pointer (some ⟨pb,0,none⟩)) hS ?_
   try simp only [aPu,sA,sB,sC]
   refine zdA 2 (some 125) (.pointer (some ⟨pb,0,none⟩)) hS ?_
   try simp only [aPu,sA,sB,sC]
   refine zdA 3 (some 126) (.pointer (some ⟨w.heap.size,1,none⟩)) hS ?_
   try simp only [aPu,sA,sB,sC]
   refine zdD 4 (some 127) (.string (bs t)) hS ?_ (hv:=fun W hW=>by have q:W.cell? ⟨w.heap.size,1,none⟩=some (.string (bs t)):=cRo W _ 1 _ _ _ hW;go_simp)
   try simp only [aPu,sA,sB,sC]
   refine zdD 5 (some 128) (.string (bs (32::t))) hS ?_ (hv:=fun W _=>by first | (go_simp;done) | (go_simp;omega))
   try simp only [aPu,sA,sB,sC]
   refine zdD 6 (some 129) (.string (bs (32::(t++[32])))) hS ?_ (hv:=fun W _=>by first | (go_simp;done) | (go_simp;omega))
   try simp only [aPu,sA,sB,sC]
   refine zdC 7 ?_;intro K hK;go_simp;refine (iz pb (acc++af (brk (gV (kx,tx)) (oP tb (NM.mk kx tx lx cx ksx ax mx).tr))) tb ((32::(t++[32]))) _ HP.out (by have:=HLn.out;simp only [lAp,lCo,lNi] at this ⊢;omega)).mono ?_;rintro e w12 ⟨rfl,hp,hk⟩;replace HP:=hid hp;replace aG:=hid (hk.row aG.out cv (by decide));replace eZ:=hid (hk.row eZ.out m8 (by decide));replace HK:=hid (HK.out.trans hk);clear hp hk;go_wp2_with fail;clear hS;have hS:=aG.out;refine hK.out _ _ hS ?_;clear hK K
   try simp only [aPu,sA,sB,sC]
   refine zdH ?_;clear hS;obtain ⟨bJ,bI,bH,bK,bT⟩:=r5 aG.out;obtain ⟨kJ,lh,k8,kW,kL⟩:=r5 eZ.out;obtain ⟨yx0,yx1,yx2,yx3,yx4⟩:=aj (Fx.out.keep (HK.out.below.block kb bk));obtain ⟨yy0,yy1,yy2,yy3,yy4⟩:=aj (Fy.out.keep (HK.out.below.block kb bk));have hkl:kb<w12.heap.size:=nL hkw HK.out.below.size;go_wp2_with fail;clear bJ bI bH bK bT kJ lh k8 kW kL yx0 yx1 yx2 yx3 yx4 yy0 yy1 yy2 yy3 yy4 hkl;refine aH (S:=fun W=>W.heap[w.heap.size]? = some (.cells #[.int .i64 16,.string (bs t),.int .i64 l,.int .i64 c,.slice (some ⟨kb,ko,none⟩) 2 m] 27 (0,0))∧W.heap[wr.heap.size]? = some (.cells #[.int .i64 ky,.string (bs ty),.int .i64 ly,.int .i64 cy,.slice ay ksy.length my] 27 (0,0))) (by kernel_rfl) ?_;obtain ⟨w13,hw,ac⟩:=dr1 w12;rw [← hw.out];clear hw;have hk:=PK.of ac (Nat.le_of_lt HP.out.lt.2);replace HP:=hid (HP.out.below ac);replace aG:=hid (hk.row aG.out cv (by decide));replace eZ:=hid (hk.row eZ.out m8 (by decide));replace HK:=hid (HK.out.trans hk);clear ac hk;have hS:=And.intro (aG.out) (eZ.out);refine zdA 0 (some 131) (.pointer (some ⟨pb,0,none⟩)) hS ?_
   try simp only [aPu,sA,sB,sC]
   refine zdN 1 (some 132) hS 27 (wr.heap.size) 0 [.int .i64 ky,.string (bs ty),.int .i64 ly,.int .i64 cy,.slice ay ksy.length my] (fun W hW=>bt (hW.2)) Tryz.underlying27 ?_
   try simp only [aPu,sA,sB,sC]
   refine zdN 2 (some 133) hS 27 (wr.heap.size) 0 [.int .i64 ky,.string (bs ty),.int .i64 ly,.int .i64 cy,.slice ay ksy.length my] (fun W hW=>bt (hW.2)) Tryz.underlying27 ?_
   try simp only [aPu,sA,sB,sC]
   refine zdC 3 ?_;intro K hK;go_simp;cases h2:dY (ky,ty) with
   | false =>
     have HT2:=iO ky ty ly cy ay ksy.length my w13;rw [h2] at HT2;refine (HT2).mono ?_;rintro e w14 ⟨rfl,hb⟩;have hk:=PK.of hb (Nat.le_of_lt HP.out.lt.2);replace HP:=hid (HP.out.below hb);replace aG:=hid (hk.row aG.out cv (by decide));replace eZ:=hid (hk.row eZ.out m8 (by decide));replace HK:=hid (HK.out.trans hk);clear hb hk;clear HT2;go_wp2_with fail;clear hS;have hS:=And.intro (aG.out) (eZ.out);refine hK.out _ _ hS ?_;clear hK K
     try simp only [aPu,sA,sB,sC]
     refine zdA 4 (some 135) (.bool false) hS ?_
     try simp only [aPu,sA,sB,sC]
     refine zdG 5 (some 136) hS ?_
     try simp only [aPu,sA,sB,sC]
     refine zdG 6 (some 137) hS ?_
     try simp only [aPu,sA,sB,sC]
     refine zdG 7 (some 138) hS ?_
     try simp only [aPu,sA,sB,sC]
     refine zdG 8 (some 139) hS ?_
     try simp only [aPu,sA,sB,sC]
     refine zdG 9 (some 140) hS ?_
     try simp only [aPu,sA,sB,sC]
     refine zdG 10 (some 141) hS ?_
     try simp only [aPu,sA,sB,sC]
     refine zdG 11 (some 142) hS ?_
     try simp only [aPu,sA,sB,sC]
     refine zdG 12 (some 143) hS ?_
     try simp only [aPu,sA,sB,sC]
     refine zdG 13 (some 144) hS ?_
     try simp only [aPu,sA,sB,sC]
     refine zdG 14 (some 145) hS ?_
     try simp only [aPu,sA,sB,sC]
     refine zdG 15 (some 146) hS ?_
     try simp only [aPu,sA,sB,sC]
     refine zdG 16 (some 147) hS ?_
     try simp only [aPu,sA,sB,sC]
     refine zdA 17 (some 148) (.bool false) hS ?_
     try simp only [aPu,sA,sB,sC]
     refine zdC 18 ?_;intro K hK;go_simp;have hbr:hU t (ky,ty)=false:=by unfold hU dX;rw [h2];simp
     have HLn2:=hid (show (acc++af (brk (gV (kx,tx)) (oP tb (NM.mk kx tx lx cx ksx ax mx).tr))++(32::(t++[32]))++af (brk false (oP tb (NM.mk ky ty ly cy ksy ay my).tr))).length≤140737488355000 by have:=HLn.out;rw [hbr] at this;simp only [lAp] at this ⊢;omega);refine (jW pb false ky ty ly cy ksy ay my (acc++af (brk (gV (kx,tx)) (oP tb (NM.mk kx tx lx cx ksx ax mx).tr))++(32::(t++[32]))) tb _ HP.out (am.keep (bh HK.out.below) Hy.out) htb (by have:=HLn2.out;simp only [lAp,lCo,lNi] at this ⊢;omega) IHy).mono ?_;rintro e w15 ⟨rfl,hp,hk⟩;replace HP:=hid hp;replace aG:=hid (hk.row aG.out cv (by decide));replace eZ:=hid (hk.row eZ.out m8 (by decide));replace HK:=hid (HK.out.trans hk);clear hp hk;go_wp2_with fail;clear hS;have hS:=And.intro (aG.out) (eZ.out);refine hK.out _ _ hS ?_;clear hK K
     try simp only [aPu,sA,sB,sC]
     refine zdH ?_;clear hS;obtain ⟨bJ,bI,bH,bK,bT⟩:=r5 aG.out;obtain ⟨kJ,lh,k8,kW,kL⟩:=r5 eZ.out;obtain ⟨yx0,yx1,yx2,yx3,yx4⟩:=aj (Fx.out.keep (HK.out.below.block kb bk));obtain ⟨yy0,yy1,yy2,yy3,yy4⟩:=aj (Fy.out.keep (HK.out.below.block kb bk));have hkl:kb<w15.heap.size:=nL hkw HK.out.below.size;go_wp2_with fail;clear bJ bI bH bK bT kJ lh k8 kW kL yx0 yx1 yx2 yx3 yx4 yy0 yy1 yy2 yy3 yy4 hkl
     go_round
     case rel=>exact ⟨2,by omega,by go_num,by rw [HJ2.out];have:=HP.out;rw [← hbr] at this;exact this,HK.out,aG.out⟩
     case measure=>simp [intOf]
   | true =>
     cases h43:(ty == ([43]:List UInt8)) with
     | false =>
       have HT2:=iO ky ty ly cy ay ksy.length my w13;rw [h2] at HT2;refine (HT2).mono ?_;rintro e w14 ⟨rfl,hb⟩;have hk:=PK.of hb (Nat.le_of_lt HP.out.lt.2);replace HP:=hid (HP.out.below hb);replace aG:=hid (hk.row aG.out cv (by decide));replace eZ:=hid (hk.row eZ.out m8 (by decide));replace HK:=hid (HK.out.trans hk);clear hb hk;clear HT2;go_wp2_with fail;clear hS;have hS:=And.intro (aG.out) (eZ.out);refine hK.out _ _ hS ?_;clear hK K
       try simp only [aPu,sA,sB,sC]
       refine zdA 4 (some 135) (.bool true) hS ?_
       try simp only [aPu,sA,sB,sC]
       refine zdA 5 (some 136) (.pointer (some ⟨wr.heap.size,1,none⟩)) hS ?_
       try simp only [aPu,sA,sB,sC]
       refine zdD 6 (some 137) (.string (bs ty)) hS ?_ (hv:=fun W hW=>by have q:W.cell? ⟨wr.heap.size,1,none⟩=some (.string (bs ty)):=cRo W _ 1 _ _ _ hW.2;go_simp)
       try simp only [aPu,sA,sB,sC]
       refine zdD 7 (some 138) (.bool true) hS ?_ (hv:=fun W _=>by have q:=h43;go_simp)
       try simp only [aPu,sA,sB,sC]
       refine zdA 8 (some 139) (.bool true) hS ?_
       try simp only [aPu,sA,sB,sC]
       refine zdG 9 (some 140) hS ?_
       try simp only [aPu,sA,sB,sC]
       refine zdG 10 (some 141) hS ?_
       try simp only [aPu,sA,sB,sC]
       refine zdG 11 (some 142) hS ?_
       try simp only [aPu,sA,sB,sC]
       refine zdG 12 (some 143) hS ?_
       try simp only [aPu,sA,sB,sC]
       refine zdG 13 (some 144) hS ?_
       try simp only [aPu,sA,sB,sC]
       refine zdG 14 (some 145) hS ?_
       try simp only [aPu,sA,sB,sC]
       refine zdG 15 (some 146) hS ?_
       try simp only [aPu,sA,sB,sC]
       refine zdA 16 (some 147) (.bool true) hS ?_
       try simp only [aPu,sA,sB,sC]
       refine zdA 17 (some 148) (.bool true) hS ?_
       try simp only [aPu,sA,sB,sC]
       refine zdC 18 ?_;intro K hK;go_simp;have hbr:hU t (ky,ty)=true:=by unfold hU dX;rw [h2];simp;exact .inl (by simpa using h43)
       have HLn2:=hid (show (acc++af (brk (gV (kx,tx)) (oP tb (NM.mk kx tx lx cx ksx ax mx).tr))++(32::(t++[32]))++af (brk true (oP tb (NM.mk ky ty ly cy ksy ay my).tr))).length≤140737488355000 by have:=HLn.out;rw [hbr] at this;simp only [lAp] at this ⊢;omega);refine (jW pb true ky ty ly cy ksy ay my (acc++af (brk (gV (kx,tx)) (oP tb (NM.mk kx tx lx cx ksx ax mx).tr))++(32::(t++[32]))) tb _ HP.out (am.keep (bh HK.out.below) Hy.out) htb (by have:=HLn2.out;simp only [lAp,lCo,lNi] at this ⊢;omega) IHy).mono ?_;rintro e w15 ⟨rfl,hp,hk⟩;replace HP:=hid hp;replace aG:=hid (hk.row aG.out cv (by decide));replace eZ:=hid (hk.row eZ.out m8 (by decide));replace HK:=hid (HK.out.trans hk);clear hp hk;go_wp2_with fail;clear hS;have hS:=And.intro (aG.out) (eZ.out);refine hK.out _ _ hS ?_;clear hK K
       try simp only [aPu,sA,sB,sC]
       refine zdH ?_;clear hS;obtain ⟨bJ,bI,bH,bK,bT⟩:=r5 aG.out;obtain ⟨kJ,lh,k8,kW,kL⟩:=r5 eZ.out;obtain ⟨yx0,yx1,yx2,yx3,yx4⟩:=aj (Fx.out.keep (HK.out.below.block kb bk));obtain ⟨yy0,yy1,yy2,yy3,yy4⟩:=aj (Fy.out.keep (HK.out.below.block kb bk));have hkl:kb<w15.heap.size:=nL hkw HK.out.below.size;go_wp2_with fail;clear bJ bI bH bK bT kJ lh k8 kW kL yx0 yx1 yx2 yx3 yx4 yy0 yy1 yy2 yy3 yy4 hkl
       go_round
       case rel=>exact ⟨2,by omega,by go_num,by rw [HJ2.out];have:=HP.out;rw [← hbr] at this;exact this,HK.out,aG.out⟩
       case measure=>simp [intOf]
     | true =>
       cases ht43:(t == ([43]:List UInt8)) with
       | false =>
         have HT2:=iO ky ty ly cy ay ksy.length my w13;rw [h2] at HT2;refine (HT2).mono ?_;rintro e w14 ⟨rfl,hb⟩;have hk:=PK.of hb (Nat.le_of_lt HP.out.lt.2);replace HP:=hid (HP.out.below hb);replace aG:=hid (hk.row aG.out cv (by decide));replace eZ:=hid (hk.row eZ.out m8 (by decide));replace HK:=hid (HK.out.trans hk);clear hb hk;clear HT2;go_wp2_with fail;clear hS;have hS:=And.intro (aG.out) (eZ.out);refine hK.out _ _ hS ?_;clear hK K
         try simp only [aPu,sA,sB,sC]
         refine zdA 4 (some 135) (.bool true) hS ?_
         try simp only [aPu,sA,sB,sC]
         refine zdA 5 (some 136) (.pointer (some ⟨wr.heap.size,1,none⟩)) hS ?_
         try simp only [aPu,sA,sB,sC]
         refine zdD 6 (some 137) (.string (bs ty)) hS ?_ (hv:=fun W hW=>by have q:W.cell? ⟨wr.heap.size,1,none⟩=some (.string (bs ty)):=cRo W _ 1 _ _ _ hW.2;go_simp)
         try simp only [aPu,sA,sB,sC]
         refine zdD 7 (some 138) (.bool false) hS ?_ (hv:=fun W _=>by have q:=h43;go_simp)
         try simp only [aPu,sA,sB,sC]
         refine zdA 8 (some 139) (.bool false) hS ?_
         try simp only [aPu,sA,sB,sC]
         refine zdA 9 (some 140) (.int .i64 1) hS ?_
         try simp only [aPu,sA,sB,sC]
         refine zdD 10 (some 141) (.bool true) hS ?_ (hv:=fun W _=>by go_simp)
         try simp only [aPu,sA,sB,sC]
         refine zdA 11 (some 142) (.bool true) hS ?_
         try simp only [aPu,sA,sB,sC]
         refine zdA 12 (some 143) (.pointer (some ⟨w.heap.size,1,none⟩)) hS ?_
         try simp only [aPu,sA,sB,sC]
         refine zdD 13 (some 144) (.string (bs t)) hS ?_ (hv:=fun W hW=>by have q:W.cell? ⟨w.heap.size,1,none⟩=some (.string (bs t)):=cRo W _ 1 _ _ _ hW.1;go_simp)
         try simp only [aPu,sA,sB,sC]
         refine zdD 14 (some 145) (.bool false) hS ?_ (hv:=fun W _=>by have q:=ht43;go_simp)
         try simp only [aPu,sA,sB,sC]
         refine zdA 15 (some 146) (.bool false) hS ?_
         try simp only [aPu,sA,sB,sC]
         refine zdA 16 (some 147) (.bool false) hS ?_
         try simp only [aPu,sA,sB,sC]
         refine zdA 17 (some 148) (.bool false) hS ?_
         try simp only [aPu,sA,sB,sC]
         refine zdC 18 ?_;intro K hK;go_simp;have hbr:hU t (ky,ty)=false:=by unfold hU dX;rw [h2,ht43];have:=h43;simp at this;subst this;simp
         have HLn2:=hid (show (acc++af (brk (gV (kx,tx)) (oP tb (NM.mk kx tx lx cx ksx ax mx).tr))++(32::(t++[32]))++af (brk false (oP tb (NM.mk ky ty ly cy ksy ay my).tr))).length≤140737488355000 by have:=HLn.out;rw [hbr] at this;simp only [lAp] at this ⊢;omega);refine (jW pb false ky ty ly cy ksy ay my (acc++af (brk (gV (kx,tx)) (oP tb (NM.mk kx tx lx cx ksx ax mx).tr))++(32::(t++[32]))) tb _ HP.out (am.keep (bh HK.out.below) Hy.out) htb (by have:=HLn2.out;simp only [lAp,lCo,lNi] at this ⊢;omega) IHy).mono ?_;rintro e w15 ⟨rfl,hp,hk⟩;replace HP:=hid hp;replace aG:=hid (hk.row aG.out cv (by decide));replace eZ:=hid (hk.row eZ.out m8 (by decide));replace HK:=hid (HK.out.trans hk);clear hp hk;go_wp2_with fail;clear hS;have hS:=And.intro (aG.out) (eZ.out);refine hK.out _ _ hS ?_;clear hK K
         try simp only [aPu,sA,sB,sC]
         refine zdH ?_;clear hS;obtain ⟨bJ,bI,bH,bK,bT⟩:=r5 aG.out;obtain ⟨kJ,lh,k8,kW,kL⟩:=r5 eZ.out;obtain ⟨yx0,yx1,yx2,yx3,yx4⟩:=aj (Fx.out.keep (HK.out.below.block kb bk));obtain ⟨yy0,yy1,yy2,yy3,yy4⟩:=aj (Fy.out.keep (HK.out.below.block kb bk));have hkl:kb<w15.heap.size:=nL hkw HK.out.below.size;go_wp2_with fail;clear bJ bI bH bK bT kJ lh k8 kW kL yx0 yx1 yx2 yx3 yx4 yy0 yy1 yy2 yy3 yy4 hkl
         go_round
         case rel=>exact ⟨2,by omega,by go_num,by rw [HJ2.out];have:=HP.out;rw [← hbr] at this;exact this,HK.out,aG.out⟩
         case measure=>simp [intOf]
       | true =>
         have HT2:=iO ky ty ly cy ay ksy.length my w13;rw [h2] at HT2;refine (HT2).mono ?_;rintro e w14 ⟨rfl,hb⟩;have hk:=PK.of hb (Nat.le_of_lt HP.out.lt.2);replace HP:=hid (HP.out.below hb);replace aG:=hid (hk.row aG.out cv (by decide));replace eZ:=hid (hk.row eZ.out m8 (by decide));replace HK:=hid (HK.out.trans hk);clear hb hk;clear HT2;go_wp2_with fail;clear hS;have hS:=And.intro (aG.out) (eZ.out);refine hK.out _ _ hS ?_;clear hK K
         try simp only [aPu,sA,sB,sC]
         refine zdA 4 (some 135) (.bool true) hS ?_
         try simp only [aPu,sA,sB,sC]
         refine zdA 5 (some 136) (.pointer (some ⟨wr.heap.size,1,none⟩)) hS ?_
         try simp only [aPu,sA,sB,sC]
         refine zdD 6 (some 137) (.string (bs ty)) hS ?_ (hv:=fun W hW=>by have q:W.cell? ⟨wr.heap.size,1,none⟩=some (.string (bs ty)):=cRo W _ 1 _ _ _ hW.2;go_simp)
         try simp only [aPu,sA,sB,sC]
         refine zdD 7 (some 138) (.bool false) hS ?_ (hv:=fun W _=>by have q:=h43;go_simp)
         try simp only [aPu,sA,sB,sC]
         refine zdA 8 (some 139) (.bool false) hS ?_
         try simp only [aPu,sA,sB,sC]
         refine zdA 9 (some 140) (.int .i64 1) hS ?_
         try simp only [aPu,sA,sB,sC]
         refine zdD 10 (some 141) (.bool true) hS ?_ (hv:=fun W _=>by go_simp)
         try simp only [aPu,sA,sB,sC]
         refine zdA 11 (some 142) (.bool true) hS ?_
         try simp only [aPu,sA,sB,sC]
         refine zdA 12 (some 143) (.pointer (some ⟨w.heap.size,1,none⟩)) hS ?_
         try simp only [aPu,sA,sB,sC]
         refine zdD 13 (some 144) (.string (bs t)) hS ?_ (hv:=fun W hW=>by have q:W.cell? ⟨w.heap.size,1,none⟩=some (.string (bs t)):=cRo W _ 1 _ _ _ hW.1;go_simp)
         try simp only [aPu,sA,sB,sC]
         refine zdD 14 (some 145) (.bool true) hS ?_ (hv:=fun W _=>by have q:=ht43;go_simp)
         try simp only [aPu,sA,sB,sC]
         refine zdA 15 (some 146) (.bool true) hS ?_
         try simp only [aPu,sA,sB,sC]
         refine zdA 16 (some 147) (.bool true) hS ?_
         try simp only [aPu,sA,sB,sC]
         refine zdA 17 (some 148) (.bool true) hS ?_
         try simp only [aPu,sA,sB,sC]
         refine zdC 18 ?_;intro K hK;go_simp;have hbr:hU t (ky,ty)=true:=by unfold hU dX;rw [h2,ht43];have:=h43;simp at this;subst this;simp
         have HLn2:=hid (show (acc++af (brk (gV (kx,tx)) (oP tb (NM.mk kx tx lx cx ksx ax mx).tr))++(32::(t++[32]))++af (brk true (oP tb (NM.mk ky ty ly cy ksy ay my).tr))).length≤140737488355000 by have:=HLn.out;rw [hbr] at this;simp only [lAp] at this ⊢;omega);refine (jW pb true ky ty ly cy ksy ay my (acc++af (brk (gV (kx,tx)) (oP tb (NM.mk kx tx lx cx ksx ax mx).tr))++(32::(t++[32]))) tb _ HP.out (am.keep (bh HK.out.below) Hy.out) htb (by have:=HLn2.out;simp only [lAp,lCo,lNi] at this ⊢;omega) IHy).mono ?_;rintro e w15 ⟨rfl,hp,hk⟩;replace HP:=hid hp;replace aG:=hid (hk.row aG.out cv (by decide));replace eZ:=hid (hk.row eZ.out m8 (by decide));replace HK:=hid (HK.out.trans hk);clear hp hk;go_wp2_with fail;clear hS;have hS:=And.intro (aG.out) (eZ.out);refine hK.out _ _ hS ?_;clear hK K
         try simp only [aPu,sA,sB,sC]
         refine zdH ?_;clear hS;obtain ⟨bJ,bI,bH,bK,bT⟩:=r5 aG.out;obtain ⟨kJ,lh,k8,kW,kL⟩:=r5 eZ.out;obtain ⟨yx0,yx1,yx2,yx3,yx4⟩:=aj (Fx.out.keep (HK.out.below.block kb bk));obtain ⟨yy0,yy1,yy2,yy3,yy4⟩:=aj (Fy.out.keep (HK.out.below.block kb bk));have hkl:kb<w15.heap.size:=nL hkw HK.out.below.size;go_wp2_with fail;clear bJ bI bH bK bT kJ lh k8 kW kL yx0 yx1 yx2 yx3 yx4 yy0 yy1 yy2 yy3 yy4 hkl
         go_round
         case rel=>exact ⟨2,by omega,by go_num,by rw [HJ2.out];have:=HP.out;rw [← hbr] at this;exact this,HK.out,aG.out⟩
         case measure=>simp [intOf]
  ·skip
   rw [HJ2.out] at HP;go_wp2_with fail
   go_end0
   exact ⟨rfl,by show aO pb pb (acc++af _) tb _;rw [HAcc.out];exact HP.out,HK.out⟩
end Go.Proofs.YtfgiihpopngbkaaGreatDoor
