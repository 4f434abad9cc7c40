/- Lemmas and walks that the statement needs: PlacesLaw. -/
import Derived.Test.YtfgiihpopngbkaaGreatDoorM27
namespace Go.Proofs.YtfgiihpopngbkaaGreatDoor
set_option maxRecDepth 100000
open Go.RowKit
open Nat renaming lt_of_lt_of_le→nL,le_trans→nT
set_option maxHeartbeats 2000000 in
theorem places_bad (s:List UInt8) (hs:s.length≤140737488351232) (k:Nat) (hk:k<256) (w:World) (hw:Laid w) (hbig:¬ 1500<s.length) {er:Nat} {p:Pl} (hx:readL s=.bad er p) :
  Calls Tryz.prog 6 #[.string (bs s),.int .u8 (k:Int)] w fun e w'=>e=.returned (.bool true)∧Below w.heap.size w w':=by
 have Ha:=hid (alive_any w hw);have HW:=hid hw;have HXX:=hid hx;clear hx;obtain ⟨m,hm,hm9⟩:∃ m:Nat,(k:Int) % 9=(m:Int)∧m<9:=⟨k % 9,by omega,by omega⟩;have HX:=hid (fun W (hW:RangeAt W)=>read_any s hs W hW);have HY:=hid (fun W (hW:RangeAt W)=>read_any (List.replicate m 10++s) (by rw [List.length_append,List.length_replicate];omega) W hW);have HD:=hid (read_down m s (by omega));go_enter Tryz.func6,Tryz.ntmps6
 go_wp2_with fail;refine Ha.out.mono ?_;rintro e w1 ⟨rfl,hb1⟩;have HB1:=hid hb1;have HW1:=hid (hw.below hb1);clear hb1 hw;go_wp2_with fail;go_loopw [6,23] (fun a i wr=>∃ j:Nat,j≤m∧i=.int .i64 j∧a=.string (bs (List.replicate j 10))∧Drawn w1 wr) (fun _ i _=>m - (intOf i).toNat)
 case atStart=>exact ⟨0,by omega,rfl,rfl,Drawn.refl _⟩
 case round =>
  obtain ⟨j,hj,rfl,rfl,hd⟩:=hrel;by_cases hlt:j<m
  ·have HSN:Hid (List.replicate (j+1) (10:UInt8)=List.replicate j 10++[10]):=hid List.replicate_succ';go_wp2_with fail;exact ⟨⟨j+1,by omega,by go_num,by rw [HSN.out],hd⟩,by simp [intOf];omega⟩
  ·obtain rfl:j=m:=by omega
   have HB2:=hid (Below.chain HB1.out hd.below);have HW2:=hid (HW1.out.below hd.below);clear hd;go_wp2_with fail;refine (HX.out _ HW2.out.range).mono ?_;rintro e w3 ⟨hb3,hret⟩;have HB3:=hid (Below.chain HB2.out hb3);have HW3:=hid (HW2.out.below hb3);clear hb3;have hx:=HXX.out;rw [hx] at hret;subst hret;have hdd:=HD.out;rw [hx] at hdd;have hb4:=below_new2 w3 (.cells #[.int .i64 0,.string (bs []),.int .i64 0,.int .i64 0,.slice none 0 0] 27) (.cells #[.int .i64 (p.1:Int),.int .i64 (p.2:Int)] 24);have HB4:=hid (Below.chain HB3.out hb4);have HW4:=hid (HW3.out.below hb4);have hr4:=heap_alloc_new (w3.alloc (.cells #[.int .i64 0,.string (bs []),.int .i64 0,.int .i64 0,.slice none 0 0] 27)) (.cells #[.int .i64 (p.1:Int),.int .i64 (p.2:Int)] 24);clear hb4;obtain ⟨p2,hy,hpl,hp2⟩:∃ p2,readL (List.replicate j 10++s)=.bad er p2∧p.1≤100000∧p2=(p.1+j,p.2):=by
    revert hdd;cases readL (List.replicate j 10++s) with
    | oof=>intro h;exact h.elim
    | ok a r=>intro h;exact h.elim
    | bad e' p'=>intro h;obtain ⟨rfl,h1,h2⟩:=h;exact ⟨p',rfl,h1,h2⟩
   clear hdd;have HY2:=hid (HY.out _ HW4.out.range);rw [hy,hp2] at HY2;clear hy hp2;go_wp2_with fail;refine HY2.out.mono ?_;rintro e w5 ⟨hb5,hret⟩;subst hret;have hr5:=(hb5.block _ (Array.getElem?_eq_some_iff.1 hr4).1).trans hr4;rw [World.size_alloc] at hr5;have hlt5:w3.heap.size+1<w5.heap.size:=(Array.getElem?_eq_some_iff.1 hr5).1;have HB5:=hid (Below.chain HB4.out hb5);have hw0:w.heap.size≤w3.heap.size:=HB3.out.size;have c0:∀ o o',((w5.alloc o).alloc o').cell? ⟨w3.heap.size+1,0,none⟩=some (.int .i64 (p.1:Int)):=fun o o'=>keeps_of (below_new2 w5 o o') (cell_of_row w5 (w3.heap.size+1) 0 _ _ _ hr5)
   have c1:∀ o o',((w5.alloc o).alloc o').cell? ⟨w3.heap.size+1,1,none⟩=some (.int .i64 (p.2:Int)):=fun o o'=>keeps_of (below_new2 w5 o o') (cell_of_row w5 (w3.heap.size+1) 1 _ _ _ hr5)
   have f0:∀ o o' j,((w5.alloc o).alloc o').frozen? ⟨w3.heap.size+1,j,none⟩=false:=fun o o' j=>by
    have e:((w5.alloc o).alloc o').heap[w3.heap.size+1]? = _:=((below_new2 w5 o o').block _ (Array.getElem?_eq_some_iff.1 hr5).1).trans hr5;unfold World.frozen?;rw [e];simp
   clear hr4 hr5 hb5 HY2 HX HY HD Ha;have he:=read_code hx
   ·have q:((er:Int) != 0)=true:=by simp;omega
    have q2:((er:Int) == 0)=false:=by simp;omega
    have hr0:(0:Int)≤(p.1:Int)+(j:Int):=by omega
    have hr1:(p.1:Int)+(j:Int)≤1000000:=by omega
    go_wp2_with fail;go_ret;exact ⟨rfl,(Below.chain HB5.out (below_new2 _ _ _)).setCell (p:=⟨w3.heap.size+1,0,none⟩) (by show w.heap.size≤w3.heap.size+1;omega) _⟩
set_option maxHeartbeats 2000000 in
theorem places_ok (s:List UInt8) (hs:s.length≤140737488351232) (k:Nat) (hk:k<256) (w:World) (hw:Laid w) (hbig:¬ 1500<s.length) {a:List Nd} {r:List Tok} (hx:readL s=.ok a r) :
  Calls Tryz.prog 6 #[.string (bs s),.int .u8 (k:Int)] w fun e w'=>e=.returned (.bool true)∧Below w.heap.size w w':=by
 have Ha:=hid (alive_any w hw);have HW:=hid hw;have HXX:=hid hx;clear hx;obtain ⟨m,hm,hm9⟩:∃ m:Nat,(k:Int) % 9=(m:Int)∧m<9:=⟨k % 9,by omega,by omega⟩;have HX:=hid (fun W (hW:RangeAt W)=>read_any s hs W hW);have HY:=hid (fun W (hW:RangeAt W)=>read_any (List.replicate m 10++s) (by rw [List.length_append,List.length_replicate];omega) W hW);have HD:=hid (read_down m s (by omega));go_enter Tryz.func6,Tryz.ntmps6
 go_wp2_with fail;refine Ha.out.mono ?_;rintro e w1 ⟨rfl,hb1⟩;have HB1:=hid hb1;have HW1:=hid (hw.below hb1);clear hb1 hw;go_wp2_with fail;go_loopw [6,23] (fun a i wr=>∃ j:Nat,j≤m∧i=.int .i64 j∧a=.string (bs (List.replicate j 10))∧Drawn w1 wr) (fun _ i _=>m - (intOf i).toNat)
 case atStart=>exact ⟨0,by omega,rfl,rfl,Drawn.refl _⟩
 case round =>
  obtain ⟨j,hj,rfl,rfl,hd⟩:=hrel;by_cases hlt:j<m
  ·have HSN:Hid (List.replicate (j+1) (10:UInt8)=List.replicate j 10++[10]):=hid List.replicate_succ';go_wp2_with fail;exact ⟨⟨j+1,by omega,by go_num,by rw [HSN.out],hd⟩,by simp [intOf];omega⟩
  ·obtain rfl:j=m:=by omega
   have HB2:=hid (Below.chain HB1.out hd.below);have HW2:=hid (HW1.out.below hd.below);clear hd;go_wp2_with fail;refine (HX.out _ HW2.out.range).mono ?_;rintro e w3 ⟨hb3,hret⟩;have HB3:=hid (Below.chain HB2.out hb3);have HW3:=hid (HW2.out.below hb3);clear hb3;have hx:=HXX.out;rw [hx] at hret;obtain ⟨ks,ad,cap,rfl,hare,hheld⟩:=hret;have hdd:=HD.out;rw [hx] at hdd;obtain ⟨a2,r2,hy,hdn⟩:∃ a2 r2,readL (List.replicate j 10++s)=.ok a2 r2∧RelNs (Dn j) a a2:=by
    revert hdd;cases readL (List.replicate j 10++s) with
    | oof=>intro h;exact h.elim
    | bad e p=>intro h;exact h.elim
    | ok b r'=>intro h;exact ⟨b,r',rfl,h.1⟩
   clear hdd;have hb4:=below_new2 w3 (.cells #[.int .i64 1,.string (bs []),.int .i64 1,.int .i64 1,.slice ad ks.length cap] 27) (.cells #[.int .i64 0,.int .i64 0] 24);have hx4:=boxN_two w3 1 [] 1 1 (.slice ad ks.length cap) (.cells #[.int .i64 0,.int .i64 0] 24) 27 (0,0);have HB4:=hid (Below.chain HB3.out hb4);have HW4:=hid (HW3.out.below hb4);have HX4:=hid ((HeldN.any hheld).below hb4);have HXB:=hid hx4;have HY2:=hid (HY.out _ HW4.out.range);rw [hy] at HY2;clear hy hx4 hb4 hheld;go_wp2_with fail;refine HY2.out.mono ?_;rintro e w5 ⟨hb5,hret⟩;obtain ⟨ks',ad',cap',rfl,hare',hheld'⟩:=hret;have hdd:=downs_of (d:=j) (by omega) hdn hare hare';have HB5:=hid (Below.chain HB4.out hb5);have HX5:=hid (HX4.out.below hb5);have HXB5:=hid (HXB.out.keeps hb5);have HY5:=hid (HeldN.any hheld');have hlen:=hid (downs_len hdd.1);have hkm:ks.length≤9223372036854775807:=by
    obtain ⟨_,_,_,h1,h2,_⟩:=HX5.out.kidsAt.nodes;unfold maxLen at h2;omega
   obtain ⟨hds,htr⟩:=hdd;have HDS:=hid hds;have HTR:=hid htr;clear hds htr hdn hare hare' hheld' HXB HX4 HY2 HX HY HD Ha hx;have hb6:=below_new2 w5 (.cells #[.int .i64 1,.string (bs []),.int .i64 1,.int .i64 1,.slice ad' ks'.length cap'] 27) (.cells #[.int .i64 0,.int .i64 0] 24);have HXA:=hid (HXB5.out.keeps hb6);have HXC:=hid (boxN_two w5 1 [] 1 1 (.slice ad' ks'.length cap') (.cells #[.int .i64 0,.int .i64 0] 24) 27 (0,0));have HB6:=hid (Below.chain HB5.out hb6);have HB56:=hid hb6;obtain ⟨a0,a1,a2,a3,a4⟩:=HXA.out;obtain ⟨b0,b1,b2,b3,b4⟩:=HXC.out;clear hb5 hb6;go_wp2_with fail;go_loopw [60] (fun i wr=>∃ t:Nat,t≤ks.length∧i=.int .i64 t∧Below w.heap.size w wr∧Below w5.heap.size w5 wr∧BoxN wr w3.heap.size 1 [] 1 1 (.slice ad ks.length cap)∧BoxN wr w5.heap.size 1 [] 1 1 (.slice ad' ks'.length cap')) (fun i _=>ks.length - (intOf i).toNat)
   case atStart=>exact ⟨0,by omega,rfl,HB6.out,HB56.out,HXA.out,HXC.out⟩
   case round =>
    obtain ⟨t,ht,rfl,hbw,hb5w,hba,hbb⟩:=hrel;clear HXA HXC a0 a1 a2 a3 a4 b0 b1 b2 b3 b4;have HXA:=hid hba;have HXC:=hid hbb;obtain ⟨a0,a1,a2,a3,a4⟩:=hba;obtain ⟨b0,b1,b2,b3,b4⟩:=hbb;by_cases hlt:t<ks.length
    ·have hlt':t<ks'.length:=by have:=hlen.out;omega
     have hge:¬ (ks'.length:Int)≤(t:Int):=by omega
     have hge2:decide ((ks'.length:Int)≤(t:Int))=false:=decide_eq_false hge;have HCj:=hid (fun W (hW:Below wr.heap.size wr W)=>show Calls Tryz.prog 15 #[nodeV ks[t].k ks[t].t ks[t].l ks[t].c ks[t].sl,nodeV ks'[t].k ks'[t].t ks'[t].l ks'[t].c ks'[t].sl,.int .i64 (j:Int)] W (fun e w'=>e=.returned (.bool true)∧Below W.heap.size W w') by
      have h1:=(HX5.out.below (Below.chain hb5w hW)).kidsAt.get t hlt;have h2:=(HY5.out.below (Below.chain hb5w hW)).kidsAt.get t hlt';have h3:=downs_get HDS.out t hlt hlt';generalize ks[t]=x at *;generalize ks'[t]=y at *;cases x with
      | mk p q r s u v z =>
      cases y with
      | mk p' q' r' s' u' v' z'=>exact down_all _ j p q r s u v z p' q' r' s' u' v' z' (Nat.le_refl _) h3 (by omega) (by omega) W h1 h2)
     obtain ⟨la2,lc2,hv,-,-,hx⟩:=(HX5.out.below hb5w).kidsAt.nodes;obtain ⟨lb,lo,rfl,hlb,hcl⟩:=hx t hlt;obtain ⟨rfl,rfl⟩:ad=some ⟨lb,lo,none⟩∧cap=lc2:=by simpa using hv
     obtain ⟨p0,p1,p2,p3,p4⟩:=hcl t hlt;clear hx hv hcl;obtain ⟨la2',lc2',hv,-,-,hx⟩:=(HY5.out.below hb5w).kidsAt.nodes;obtain ⟨lb',lo',rfl,hlb',hcl⟩:=hx t hlt';obtain ⟨rfl,rfl⟩:ad'=some ⟨lb',lo',none⟩∧cap'=lc2':=by simpa using hv
     obtain ⟨r0,r1,r2,r3,r4⟩:=hcl t hlt';clear hx hv hcl;generalize ks[t].k=xk at *;generalize ks[t].t=xt at *;generalize ks[t].l=xl at *;generalize ks[t].c=xc at *;generalize ks[t].sl=xs at *;generalize ks'[t].k=yk at *;generalize ks'[t].t=yt at *;generalize ks'[t].l=yl at *;generalize ks'[t].c=yc at *;generalize ks'[t].sl=ys at *;go_wp2_with fail;refine wp_region_wq (by kernel_rfl) (by kernel_rfl) ?_
     repeat (refine WQ.step (fun K hK=>?_);go_simp;first | (refine hK _ ?_;clear hK K) | (apply Exists.intro;refine ⟨fun W hW=>?_,hK _ ?_⟩;(first | (go_at_call 15;exact Calls.quiet_below hW (HCj.out W hW)) | (first | with_reducible rfl | (have zz0:=Below.keeps hW a0;have zz1:=Below.keeps hW a1;have zz2:=Below.keeps hW a2;have zz3:=Below.keeps hW a3;have zz4:=Below.keeps hW a4;have zz5:=Below.keeps hW b0;have zz6:=Below.keeps hW b1;have zz7:=Below.keeps hW b2;have zz8:=Below.keeps hW b3;have zz9:=Below.keeps hW b4;have zz10:=Below.keeps hW p0;have zz11:=Below.keeps hW p1;have zz12:=Below.keeps hW p2;have zz13:=Below.keeps hW p3;have zz14:=Below.keeps hW p4;have zz15:=Below.keeps hW r0;have zz16:=Below.keeps hW r1;have zz17:=Below.keeps hW r2;have zz18:=Below.keeps hW r3;have zz19:=Below.keeps hW r4;go_simp;first | rfl | exact ⟨rfl,rfl⟩ | (rw [if_neg (by omega)];exact ⟨rfl,rfl⟩))));clear hK K))
     refine WQ.nil ?_;intro wq hwq;have hbq:=Below.chain hbw hwq;have hbq5:=Below.chain hb5w hwq;have hxa:=HXA.out.keeps hwq;have hxb:=HXC.out.keeps hwq;go_wp2_with fail;exact ⟨⟨t+1,by omega,by go_num,hbq,hbq5,hxa,hxb⟩,by simp [intOf];omega⟩
    ·obtain rfl:t=ks.length:=by omega
     have HSM:=hid (same_any 1 [] 1 1 ks ad cap 1 [] 1 1 ks' ad' cap' wr (HX5.out.below hb5w) (HY5.out.below hb5w));have HT:Hid (sameN (NM.mk 1 [] 1 1 ks ad cap).tr (NM.mk 1 [] 1 1 ks' ad' cap').tr=true):=hid (by rw [ntr_mk,ntr_mk,HTR.out];exact sameN_eq.2 rfl);rw [HT.out] at HSM;go_wp2_with fail;refine HSM.out.mono ?_;rintro e w7 ⟨rfl,hb7⟩;go_wp2_with fail;go_ret;exact ⟨rfl,Below.chain hbw hb7⟩
theorem places_any (s:List UInt8) (hs:s.length≤140737488351232) (k:Nat) (hk:k<256) (w:World) (hw:Laid w) :
  Calls Tryz.prog 6 #[.string (bs s),.int .u8 (k:Int)] w fun e w'=>e=.returned (.bool true)∧Below w.heap.size w w':=by
 have Ha:=hid (alive_any w hw);by_cases hbig:1500<s.length
 ·go_enter Tryz.func6,Tryz.ntmps6
  go_wp2_with fail;refine Ha.out.mono ?_;rintro e w1 ⟨rfl,hb1⟩;go_wp2_with fail;go_ret;exact ⟨rfl,hb1⟩
 cases hx:readL s with
 | oof=>exact absurd hx (read_fine s)
 | bad er p=>exact places_bad s hs k hk w hw hbig hx
 | ok a r=>exact places_ok s hs k hk w hw hbig hx
end Go.Proofs.YtfgiihpopngbkaaGreatDoor
