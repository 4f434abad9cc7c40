/- Lemmas for TopKeysUpto: F31, F32a, F32, F33. -/
import Derived.Test.YtlbipokkdiiaiaaGreatDoorK14
open List renaming setIfInBounds_toArray → sA, set_cons_zero → sB, set_cons_succ → sC
namespace Go.Proofs.YtlbipokkdiiaiaaGreatDoor
open Go.RowKit Exec Go.Shelf
set_option maxRecDepth 100000
attribute [local go_sem] Oper.semAt_some
def doW (w:World) (g:Nat) (wv:Value) (rest:Txt):World:=((w.alloc (.cells #[.pointer (some ⟨g,0,none⟩)] 275)).alloc (.cells #[wv,.string (bs rest)] 328)).alloc (.cells #[.string ⟨#[]⟩] 9)
theorem cw (w:World) (g:Nat) (wv:Value) (rest:Txt):Below w.heap.size w (doW w g wv rest)∧(doW w g wv rest).heap.size=w.heap.size+3∧(doW w g wv rest).cell? ⟨w.heap.size,0,none⟩=some (.pointer (some ⟨g,0,none⟩))∧(doW w g wv rest).heap[w.heap.size+1]?=some (.cells #[wv,.string (bs rest)] 328 (0,0))∧(doW w g wv rest).heap[w.heap.size+2]?=some (.cells #[.string (bs [])] 9 (0,0)):=by
 unfold doW
 have b1:=ab w (.cells #[.pointer (some ⟨g,0,none⟩)] 275)
 have n1:=heap_alloc_new w (.cells #[.pointer (some ⟨g,0,none⟩)] 275)
 have z1:=World.size_alloc w (.cells #[.pointer (some ⟨g,0,none⟩)] 275)
 generalize w.alloc (.cells #[.pointer (some ⟨g,0,none⟩)] 275)=w1 at *
 have b2:=ab w1 (.cells #[wv,.string (bs rest)] 328)
 have n2:=heap_alloc_new w1 (.cells #[wv,.string (bs rest)] 328)
 have z2:=World.size_alloc w1 (.cells #[wv,.string (bs rest)] 328)
 generalize w1.alloc (.cells #[wv,.string (bs rest)] 328)=w2 at *
 have b3:=ab w2 (.cells #[.string ⟨#[]⟩] 9)
 have n3:=heap_alloc_new w2 (.cells #[.string ⟨#[]⟩] 9)
 have z3:=World.size_alloc w2 (.cells #[.string ⟨#[]⟩] 9)
 generalize w2.alloc (.cells #[.string ⟨#[]⟩] 9)=w3 at *
 have h1:=(b3.block w.heap.size (by omega)).trans ((b2.block w.heap.size (by omega)).trans n1)
 have h2:=(b3.block w1.heap.size (by omega)).trans n2
 rw[z1] at h2
 rw[z2,z1] at n3
 exact⟨Below.chain b1 (Below.chain b2 b3),by omega,(cell_of_row _ _ 0 _ _ _ h1).trans rfl,h2,n3⟩
section
variable {B g km mb:Nat} {D:Nat→Prop} {env:List (Txt×Txt)} {r:aw} {w W:World} {tv ev:Value} {vs cs:List Value}
theorem aP {sz n:Nat} {v:Value} {xs:List Value} (h:ap w sz v n xs) (hb:Below w.heap.size w W):ap W sz v n xs:=dE h hb.size fun k _ hl=>hb.block k hl
set_option maxHeartbeats 8000000 in
theorem zcv (h:aN B D g env r w tv ev km mb vs cs) (hg:aM B w) (rest:Txt) (wv:Value) (hw:ap w 1 wv 1 (ag [iu])):
 Calls Tryz.prog 194 #[.pointer (some ⟨g,0,none⟩),.agg #[wv,.string (bs rest)]] w fun e w2=>e=.returned (.tuple #[])∧aD B D g env (cK r 15) w w2:=by
 obtain⟨hb,hz,q0,q1,q2⟩:=cw w g wv rest
 have H3:=hid (h.below hb)
 have HG3:=hid (hg.below hb)
 have HW3:=hid (aP hw hb)
 have HB3:=hid hb
 have H0:=hid h
 have HG0:=hid hg
 have HW0:=hid hw
 have hzz:=hz
 obtain⟨-,va,vc,hv,hvc,hvm,hx⟩:=(aP hw hb).str
 subst hv
 have hsl:r.buffer.length≤65536:=h.sm.buf
 clear h hg hw
 go_enter Tryz.func194,Tryz.ntmps194
 unfold doW at *
 go_upto_region 2 with fail
 generalize ((w.alloc (.cells #[.pointer (some ⟨g,0,none⟩)] 275)).alloc (.cells #[.slice va 1 vc,.string (bs rest)] 328)).alloc (.cells #[.string ⟨#[]⟩] 9)=W3 at *
 obtain⟨wb,wo,rfl,hwb,aX⟩:=hx 0 (by simp)
 have L0:=aX 0 (by simp)
 simp only[List.getElem_cons_zero,Nat.add_zero] at L0
 clear aX hx
 have c10:W3.cell? ⟨w.heap.size+1,0,none⟩=some (.slice (some ⟨wb,wo,none⟩) 1 vc):=(cell_of_row _ _ 0 _ _ _ q1).trans rfl
 have c11:W3.cell? ⟨w.heap.size+1,1,none⟩=some (.string (bs rest)):=(cell_of_row _ _ 1 _ _ _ q1).trans rfl
 have c2:W3.cell? ⟨w.heap.size+1+1,0,none⟩=some (.string (bs [])):=(cell_of_row _ _ 0 _ _ _ q2).trans rfl
 have f2:W3.frozen? ⟨w.heap.size+1+1,0,none⟩=false:=Lib.frozen_of_heap q2 0
 have HK:=hid (show W3.cell? ⟨w.heap.size,0,none⟩=some (.pointer (some ⟨g,0,none⟩))∧True from⟨q0,trivial⟩)
 have cg2:=(aA H3.out.at_).2.2.1
 go_upto_region 5 with(go_at_call 219;refine(bJ r.buffer W3 (by omega) HG3.out.max).mono ?_;rintro e W5 ⟨v,rfl,ho,hb5⟩)
 obtain⟨la,lc,rfl⟩:=ax ho
 have hbw:=Below.chain HB3.out hb5
 have HO:=hid (show dv w W5 (aq r.buffer) (.slice la (aq r.buffer).length lc) from⟨aK ho (by have:=HB3.out.size;omega),hbw,by have:=bt r.buffer;omega,fun s hs=>Nat.le_trans (bf r.buffer s hs) hsl⟩)
 have HR5:=hid (H3.out.below hb5)
 have HG5:=hid (HG3.out.below hb5)
 have HB5:=hid hbw
 have d0:=Below.keeps hb5 q0
 have d10:=Below.keeps hb5 c10
 have d11:=Below.keeps hb5 c11
 have d2:=Below.keeps hb5 c2
 have K0:=Below.keeps hb5 L0
 clear hb hz q0 q1 q2 c10 c11 c2 f2 cg2 L0 hb5 ho hbw
 unfold iu at *
 have HA:=hid (eR (bA.below ⟨_,_,_,_,_,_,HR5.out⟩ (Below.refl _ _)) 15)
 go_wp2_with (go_at_call 246;refine HA.out.mono ?_;rintro e W6 ⟨rfl,hg6⟩)
 go_end0
 exact⟨rfl,hg6.ahead HB5.out⟩
set_option maxHeartbeats 8000000 in
theorem zcn (h:aN B D g env r w tv ev km mb vs cs) (hg:aM B w) (rest:Txt) (wv:Value) (hw:ap w 1 wv 1 (ag [eK])) (hr:rest.length≤65536):
 Calls Tryz.prog 194 #[.pointer (some ⟨g,0,none⟩),.agg #[wv,.string (bs rest)]] w fun e w2=>e=.returned (.tuple #[])∧aD B D g env (cZ r (rest++[10])) w w2:=by
 obtain⟨hb,hz,q0,q1,q2⟩:=cw w g wv rest
 have H3:=hid (h.below hb)
 have HG3:=hid (hg.below hb)
 have HW3:=hid (aP hw hb)
 have HB3:=hid hb
 have H0:=hid h
 have HG0:=hid hg
 have HW0:=hid hw
 have hzz:=hz
 obtain⟨-,va,vc,hv,hvc,hvm,hx⟩:=(aP hw hb).str
 subst hv
 have hsl:r.buffer.length≤65536:=h.sm.buf
 clear h hg hw
 go_enter Tryz.func194,Tryz.ntmps194
 unfold doW at *
 go_upto_region 2 with fail
 generalize ((w.alloc (.cells #[.pointer (some ⟨g,0,none⟩)] 275)).alloc (.cells #[.slice va 1 vc,.string (bs rest)] 328)).alloc (.cells #[.string ⟨#[]⟩] 9)=W3 at *
 obtain⟨wb,wo,rfl,hwb,aX⟩:=hx 0 (by simp)
 have L0:=aX 0 (by simp)
 simp only[List.getElem_cons_zero,Nat.add_zero] at L0
 clear aX hx
 have c10:W3.cell? ⟨w.heap.size+1,0,none⟩=some (.slice (some ⟨wb,wo,none⟩) 1 vc):=(cell_of_row _ _ 0 _ _ _ q1).trans rfl
 have c11:W3.cell? ⟨w.heap.size+1,1,none⟩=some (.string (bs rest)):=(cell_of_row _ _ 1 _ _ _ q1).trans rfl
 have c2:W3.cell? ⟨w.heap.size+1+1,0,none⟩=some (.string (bs [])):=(cell_of_row _ _ 0 _ _ _ q2).trans rfl
 have f2:W3.frozen? ⟨w.heap.size+1+1,0,none⟩=false:=Lib.frozen_of_heap q2 0
 have HK:=hid (show W3.cell? ⟨w.heap.size,0,none⟩=some (.pointer (some ⟨g,0,none⟩))∧True from⟨q0,trivial⟩)
 have cg2:=(aA H3.out.at_).2.2.1
 go_upto_region 5 with(go_at_call 219;refine(bJ r.buffer W3 (by omega) HG3.out.max).mono ?_;rintro e W5 ⟨v,rfl,ho,hb5⟩)
 obtain⟨la,lc,rfl⟩:=ax ho
 have hbw:=Below.chain HB3.out hb5
 have HO:=hid (show dv w W5 (aq r.buffer) (.slice la (aq r.buffer).length lc) from⟨aK ho (by have:=HB3.out.size;omega),hbw,by have:=bt r.buffer;omega,fun s hs=>Nat.le_trans (bf r.buffer s hs) hsl⟩)
 have HR5:=hid (H3.out.below hb5)
 have HG5:=hid (HG3.out.below hb5)
 have HB5:=hid hbw
 have d0:=Below.keeps hb5 q0
 have d10:=Below.keeps hb5 c10
 have d11:=Below.keeps hb5 c11
 have d2:=Below.keeps hb5 c2
 have K0:=Below.keeps hb5 L0
 clear hb hz q0 q1 q2 c10 c11 c2 f2 cg2 L0 hb5 ho hbw
 unfold eK at *
 have HA:=hid (eZ ⟨_,_,_,_,_,_,HR5.out⟩ (rest++[10]) (by rw[List.length_append];simp;omega))
 go_wp2_with (go_at_call 241;refine HA.out.mono ?_;rintro e W6 ⟨rfl,hg6⟩)
 go_end0
 exact⟨rfl,hg6.ahead HB5.out⟩
set_option maxHeartbeats 8000000 in
theorem zdu (h:aN B D g env r w tv ev km mb vs cs) (hg:aM B w) (rest:Txt) (wv:Value) (hw:ap w 1 wv 1 (ag [dO])) (h0:0<w.heap.size):
 Calls Tryz.prog 194 #[.pointer (some ⟨g,0,none⟩),.agg #[wv,.string (bs rest)]] w fun e w2=>e=.returned (.tuple #[])∧aD B D g env (nQ r dO [] (aq r.buffer)) w w2:=by
 obtain⟨hb,hz,q0,q1,q2⟩:=cw w g wv rest
 have H3:=hid (h.below hb)
 have HG3:=hid (hg.below hb)
 have HW3:=hid (aP hw hb)
 have HB3:=hid hb
 have H0:=hid h
 have HG0:=hid hg
 have HW0:=hid hw
 have hzz:=hz
 obtain⟨-,va,vc,hv,hvc,hvm,hx⟩:=(aP hw hb).str
 subst hv
 have hsl:r.buffer.length≤65536:=h.sm.buf
 clear h hg hw
 go_enter Tryz.func194,Tryz.ntmps194
 unfold doW at *
 go_upto_region 2 with fail
 generalize ((w.alloc (.cells #[.pointer (some ⟨g,0,none⟩)] 275)).alloc (.cells #[.slice va 1 vc,.string (bs rest)] 328)).alloc (.cells #[.string ⟨#[]⟩] 9)=W3 at *
 obtain⟨wb,wo,rfl,hwb,aX⟩:=hx 0 (by simp)
 have L0:=aX 0 (by simp)
 simp only[List.getElem_cons_zero,Nat.add_zero] at L0
 clear aX hx
 have c10:W3.cell? ⟨w.heap.size+1,0,none⟩=some (.slice (some ⟨wb,wo,none⟩) 1 vc):=(cell_of_row _ _ 0 _ _ _ q1).trans rfl
 have c11:W3.cell? ⟨w.heap.size+1,1,none⟩=some (.string (bs rest)):=(cell_of_row _ _ 1 _ _ _ q1).trans rfl
 have c2:W3.cell? ⟨w.heap.size+1+1,0,none⟩=some (.string (bs [])):=(cell_of_row _ _ 0 _ _ _ q2).trans rfl
 have f2:W3.frozen? ⟨w.heap.size+1+1,0,none⟩=false:=Lib.frozen_of_heap q2 0
 have HK:=hid (show W3.cell? ⟨w.heap.size,0,none⟩=some (.pointer (some ⟨g,0,none⟩))∧True from⟨q0,trivial⟩)
 have cg2:=(aA H3.out.at_).2.2.1
 go_upto_region 5 with(go_at_call 219;refine(bJ r.buffer W3 (by omega) HG3.out.max).mono ?_;rintro e W5 ⟨v,rfl,ho,hb5⟩)
 obtain⟨la,lc,rfl⟩:=ax ho
 have hbw:=Below.chain HB3.out hb5
 have HO:=hid (show dv w W5 (aq r.buffer) (.slice la (aq r.buffer).length lc) from⟨aK ho (by have:=HB3.out.size;omega),hbw,by have:=bt r.buffer;omega,fun s hs=>Nat.le_trans (bf r.buffer s hs) hsl⟩)
 have HR5:=hid (H3.out.below hb5)
 have HG5:=hid (HG3.out.below hb5)
 have HB5:=hid hbw
 have d0:=Below.keeps hb5 q0
 have d10:=Below.keeps hb5 c10
 have d11:=Below.keeps hb5 c11
 have d2:=Below.keeps hb5 c2
 have K0:=Below.keeps hb5 L0
 clear hb hz q0 q1 q2 c10 c11 c2 f2 cg2 L0 hb5 ho hbw
 unfold dO at *
 have HT:=hid (fun(W:World) (hb:Below W5.heap.size W5 W)=>i8 (w0:=w) ⟨_,_,_,_,_,_,H0.out⟩ (HO.out.next hb) (HG5.out.below hb) h0 dO [])
 unfold dO at HT
 go_wp2_with fail
 refine ar 7 (by kernel_rfl) (by kernel_rfl) ?_
 simp only[List.take_succ_cons,List.take_zero,List.drop_succ_cons,List.drop_zero]
 repeat(refine WQ.step (fun K hK=>?_);go_simp;first|(refine hK _ ?_;clear hK K)|(apply Exists.intro;refine⟨fun W hW=>?_,hK _ ?_⟩;(first|with_reducible rfl|(have y0:=Below.keeps hW d0;have y1:=Below.keeps hW d10;have y2:=Below.keeps hW d2;have y3:=Below.keeps hW K0;go_simp;first|rfl|exact⟨rfl,rfl⟩));clear hK K))
 refine WQ.nil ?_
 intro wq hwq
 go_wp2_with (go_at_call 249;refine(HT.out _ hwq).mono ?_;rintro e W6 ⟨rfl,hg6⟩)
 go_end0
 exact⟨rfl,hg6⟩
set_option maxHeartbeats 8000000 in
theorem zcp (h:aN B D g env r w tv ev km mb vs cs) (hg:aM B w) (rest:Txt) (wv:Value) (hw:ap w 1 wv 1 (ag [dM])) (h0:0<w.heap.size):
 Calls Tryz.prog 194 #[.pointer (some ⟨g,0,none⟩),.agg #[wv,.string (bs rest)]] w fun e w2=>e=.returned (.tuple #[])∧aD B D g env (nQ r dM [] (aq r.buffer)) w w2:=by
 obtain⟨hb,hz,q0,q1,q2⟩:=cw w g wv rest
 have H3:=hid (h.below hb)
 have HG3:=hid (hg.below hb)
 have HW3:=hid (aP hw hb)
 have HB3:=hid hb
 have H0:=hid h
 have HG0:=hid hg
 have HW0:=hid hw
 have hzz:=hz
 obtain⟨-,va,vc,hv,hvc,hvm,hx⟩:=(aP hw hb).str
 subst hv
 have hsl:r.buffer.length≤65536:=h.sm.buf
 clear h hg hw
 go_enter Tryz.func194,Tryz.ntmps194
 unfold doW at *
 go_upto_region 2 with fail
 generalize ((w.alloc (.cells #[.pointer (some ⟨g,0,none⟩)] 275)).alloc (.cells #[.slice va 1 vc,.string (bs rest)] 328)).alloc (.cells #[.string ⟨#[]⟩] 9)=W3 at *
 obtain⟨wb,wo,rfl,hwb,aX⟩:=hx 0 (by simp)
 have L0:=aX 0 (by simp)
 simp only[List.getElem_cons_zero,Nat.add_zero] at L0
 clear aX hx
 have c10:W3.cell? ⟨w.heap.size+1,0,none⟩=some (.slice (some ⟨wb,wo,none⟩) 1 vc):=(cell_of_row _ _ 0 _ _ _ q1).trans rfl
 have c11:W3.cell? ⟨w.heap.size+1,1,none⟩=some (.string (bs rest)):=(cell_of_row _ _ 1 _ _ _ q1).trans rfl
 have c2:W3.cell? ⟨w.heap.size+1+1,0,none⟩=some (.string (bs [])):=(cell_of_row _ _ 0 _ _ _ q2).trans rfl
 have f2:W3.frozen? ⟨w.heap.size+1+1,0,none⟩=false:=Lib.frozen_of_heap q2 0
 have HK:=hid (show W3.cell? ⟨w.heap.size,0,none⟩=some (.pointer (some ⟨g,0,none⟩))∧True from⟨q0,trivial⟩)
 have cg2:=(aA H3.out.at_).2.2.1
 go_upto_region 5 with(go_at_call 219;refine(bJ r.buffer W3 (by omega) HG3.out.max).mono ?_;rintro e W5 ⟨v,rfl,ho,hb5⟩)
 obtain⟨la,lc,rfl⟩:=ax ho
 have hbw:=Below.chain HB3.out hb5
 have HO:=hid (show dv w W5 (aq r.buffer) (.slice la (aq r.buffer).length lc) from⟨aK ho (by have:=HB3.out.size;omega),hbw,by have:=bt r.buffer;omega,fun s hs=>Nat.le_trans (bf r.buffer s hs) hsl⟩)
 have HR5:=hid (H3.out.below hb5)
 have HG5:=hid (HG3.out.below hb5)
 have HB5:=hid hbw
 have d0:=Below.keeps hb5 q0
 have d10:=Below.keeps hb5 c10
 have d11:=Below.keeps hb5 c11
 have d2:=Below.keeps hb5 c2
 have K0:=Below.keeps hb5 L0
 clear hb hz q0 q1 q2 c10 c11 c2 f2 cg2 L0 hb5 ho hbw
 unfold dM at *
 have HT:=hid (fun(W:World) (hb:Below W5.heap.size W5 W)=>i8 (w0:=w) ⟨_,_,_,_,_,_,H0.out⟩ (HO.out.next hb) (HG5.out.below hb) h0 dM [])
 unfold dM at HT
 go_wp2_with fail
 refine ar 7 (by kernel_rfl) (by kernel_rfl) ?_
 simp only[List.take_succ_cons,List.take_zero,List.drop_succ_cons,List.drop_zero]
 repeat(refine WQ.step (fun K hK=>?_);go_simp;first|(refine hK _ ?_;clear hK K)|(apply Exists.intro;refine⟨fun W hW=>?_,hK _ ?_⟩;(first|with_reducible rfl|(have y0:=Below.keeps hW d0;have y1:=Below.keeps hW d10;have y2:=Below.keeps hW d2;have y3:=Below.keeps hW K0;go_simp;first|rfl|exact⟨rfl,rfl⟩));clear hK K))
 refine WQ.nil ?_
 intro wq hwq
 go_wp2_with (go_at_call 249;refine(HT.out _ hwq).mono ?_;rintro e W6 ⟨rfl,hg6⟩)
 go_end0
 exact⟨rfl,hg6⟩
set_option maxHeartbeats 8000000 in
theorem zbr (h:aN B D g env r w tv ev km mb vs cs) (hg:aM B w) (rest:Txt) (wv:Value) (hw:ap w 1 wv 1 (ag [cH])) (h0:0<w.heap.size):
 Calls Tryz.prog 194 #[.pointer (some ⟨g,0,none⟩),.agg #[wv,.string (bs rest)]] w fun e w2=>e=.returned (.tuple #[])∧aD B D g env (nQ r cH [] (aq r.buffer)) w w2:=by
 obtain⟨hb,hz,q0,q1,q2⟩:=cw w g wv rest
 have H3:=hid (h.below hb)
 have HG3:=hid (hg.below hb)
 have HW3:=hid (aP hw hb)
 have HB3:=hid hb
 have H0:=hid h
 have HG0:=hid hg
 have HW0:=hid hw
 have hzz:=hz
 obtain⟨-,va,vc,hv,hvc,hvm,hx⟩:=(aP hw hb).str
 subst hv
 have hsl:r.buffer.length≤65536:=h.sm.buf
 clear h hg hw
 go_enter Tryz.func194,Tryz.ntmps194
 unfold doW at *
 go_upto_region 2 with fail
 generalize ((w.alloc (.cells #[.pointer (some ⟨g,0,none⟩)] 275)).alloc (.cells #[.slice va 1 vc,.string (bs rest)] 328)).alloc (.cells #[.string ⟨#[]⟩] 9)=W3 at *
 obtain⟨wb,wo,rfl,hwb,aX⟩:=hx 0 (by simp)
 have L0:=aX 0 (by simp)
 simp only[List.getElem_cons_zero,Nat.add_zero] at L0
 clear aX hx
 have c10:W3.cell? ⟨w.heap.size+1,0,none⟩=some (.slice (some ⟨wb,wo,none⟩) 1 vc):=(cell_of_row _ _ 0 _ _ _ q1).trans rfl
 have c11:W3.cell? ⟨w.heap.size+1,1,none⟩=some (.string (bs rest)):=(cell_of_row _ _ 1 _ _ _ q1).trans rfl
 have c2:W3.cell? ⟨w.heap.size+1+1,0,none⟩=some (.string (bs [])):=(cell_of_row _ _ 0 _ _ _ q2).trans rfl
 have f2:W3.frozen? ⟨w.heap.size+1+1,0,none⟩=false:=Lib.frozen_of_heap q2 0
 have HK:=hid (show W3.cell? ⟨w.heap.size,0,none⟩=some (.pointer (some ⟨g,0,none⟩))∧True from⟨q0,trivial⟩)
 have cg2:=(aA H3.out.at_).2.2.1
 go_upto_region 5 with(go_at_call 219;refine(bJ r.buffer W3 (by omega) HG3.out.max).mono ?_;rintro e W5 ⟨v,rfl,ho,hb5⟩)
 obtain⟨la,lc,rfl⟩:=ax ho
 have hbw:=Below.chain HB3.out hb5
 have HO:=hid (show dv w W5 (aq r.buffer) (.slice la (aq r.buffer).length lc) from⟨aK ho (by have:=HB3.out.size;omega),hbw,by have:=bt r.buffer;omega,fun s hs=>Nat.le_trans (bf r.buffer s hs) hsl⟩)
 have HR5:=hid (H3.out.below hb5)
 have HG5:=hid (HG3.out.below hb5)
 have HB5:=hid hbw
 have d0:=Below.keeps hb5 q0
 have d10:=Below.keeps hb5 c10
 have d11:=Below.keeps hb5 c11
 have d2:=Below.keeps hb5 c2
 have K0:=Below.keeps hb5 L0
 clear hb hz q0 q1 q2 c10 c11 c2 f2 cg2 L0 hb5 ho hbw
 unfold cH at *
 have HT:=hid (fun(W:World) (hb:Below W5.heap.size W5 W)=>i8 (w0:=w) ⟨_,_,_,_,_,_,H0.out⟩ (HO.out.next hb) (HG5.out.below hb) h0 cH [])
 unfold cH at HT
 go_wp2_with fail
 refine ar 7 (by kernel_rfl) (by kernel_rfl) ?_
 simp only[List.take_succ_cons,List.take_zero,List.drop_succ_cons,List.drop_zero]
 repeat(refine WQ.step (fun K hK=>?_);go_simp;first|(refine hK _ ?_;clear hK K)|(apply Exists.intro;refine⟨fun W hW=>?_,hK _ ?_⟩;(first|with_reducible rfl|(have y0:=Below.keeps hW d0;have y1:=Below.keeps hW d10;have y2:=Below.keeps hW d2;have y3:=Below.keeps hW K0;go_simp;first|rfl|exact⟨rfl,rfl⟩));clear hK K))
 refine WQ.nil ?_
 intro wq hwq
 go_wp2_with (go_at_call 249;refine(HT.out _ hwq).mono ?_;rintro e W6 ⟨rfl,hg6⟩)
 go_end0
 exact⟨rfl,hg6⟩
set_option maxHeartbeats 8000000 in
theorem zbs (h:aN B D g env r w tv ev km mb vs cs) (hg:aM B w) (rest:Txt) (wv:Value) (hw:ap w 1 wv 1 (ag [cG])) (h0:0<w.heap.size):
 Calls Tryz.prog 194 #[.pointer (some ⟨g,0,none⟩),.agg #[wv,.string (bs rest)]] w fun e w2=>e=.returned (.tuple #[])∧aD B D g env (nQ r cG [] (aq r.buffer)) w w2:=by
 obtain⟨hb,hz,q0,q1,q2⟩:=cw w g wv rest
 have H3:=hid (h.below hb)
 have HG3:=hid (hg.below hb)
 have HW3:=hid (aP hw hb)
 have HB3:=hid hb
 have H0:=hid h
 have HG0:=hid hg
 have HW0:=hid hw
 have hzz:=hz
 obtain⟨-,va,vc,hv,hvc,hvm,hx⟩:=(aP hw hb).str
 subst hv
 have hsl:r.buffer.length≤65536:=h.sm.buf
 clear h hg hw
 go_enter Tryz.func194,Tryz.ntmps194
 unfold doW at *
 go_upto_region 2 with fail
 generalize ((w.alloc (.cells #[.pointer (some ⟨g,0,none⟩)] 275)).alloc (.cells #[.slice va 1 vc,.string (bs rest)] 328)).alloc (.cells #[.string ⟨#[]⟩] 9)=W3 at *
 obtain⟨wb,wo,rfl,hwb,aX⟩:=hx 0 (by simp)
 have L0:=aX 0 (by simp)
 simp only[List.getElem_cons_zero,Nat.add_zero] at L0
 clear aX hx
 have c10:W3.cell? ⟨w.heap.size+1,0,none⟩=some (.slice (some ⟨wb,wo,none⟩) 1 vc):=(cell_of_row _ _ 0 _ _ _ q1).trans rfl
 have c11:W3.cell? ⟨w.heap.size+1,1,none⟩=some (.string (bs rest)):=(cell_of_row _ _ 1 _ _ _ q1).trans rfl
 have c2:W3.cell? ⟨w.heap.size+1+1,0,none⟩=some (.string (bs [])):=(cell_of_row _ _ 0 _ _ _ q2).trans rfl
 have f2:W3.frozen? ⟨w.heap.size+1+1,0,none⟩=false:=Lib.frozen_of_heap q2 0
 have HK:=hid (show W3.cell? ⟨w.heap.size,0,none⟩=some (.pointer (some ⟨g,0,none⟩))∧True from⟨q0,trivial⟩)
 have cg2:=(aA H3.out.at_).2.2.1
 go_upto_region 5 with(go_at_call 219;refine(bJ r.buffer W3 (by omega) HG3.out.max).mono ?_;rintro e W5 ⟨v,rfl,ho,hb5⟩)
 obtain⟨la,lc,rfl⟩:=ax ho
 have hbw:=Below.chain HB3.out hb5
 have HO:=hid (show dv w W5 (aq r.buffer) (.slice la (aq r.buffer).length lc) from⟨aK ho (by have:=HB3.out.size;omega),hbw,by have:=bt r.buffer;omega,fun s hs=>Nat.le_trans (bf r.buffer s hs) hsl⟩)
 have HR5:=hid (H3.out.below hb5)
 have HG5:=hid (HG3.out.below hb5)
 have HB5:=hid hbw
 have d0:=Below.keeps hb5 q0
 have d10:=Below.keeps hb5 c10
 have d11:=Below.keeps hb5 c11
 have d2:=Below.keeps hb5 c2
 have K0:=Below.keeps hb5 L0
 clear hb hz q0 q1 q2 c10 c11 c2 f2 cg2 L0 hb5 ho hbw
 unfold cG at *
 have HT:=hid (fun(W:World) (hb:Below W5.heap.size W5 W)=>i8 (w0:=w) ⟨_,_,_,_,_,_,H0.out⟩ (HO.out.next hb) (HG5.out.below hb) h0 cG [])
 unfold cG at HT
 go_wp2_with fail
 refine ar 7 (by kernel_rfl) (by kernel_rfl) ?_
 simp only[List.take_succ_cons,List.take_zero,List.drop_succ_cons,List.drop_zero]
 repeat(refine WQ.step (fun K hK=>?_);go_simp;first|(refine hK _ ?_;clear hK K)|(apply Exists.intro;refine⟨fun W hW=>?_,hK _ ?_⟩;(first|with_reducible rfl|(have y0:=Below.keeps hW d0;have y1:=Below.keeps hW d10;have y2:=Below.keeps hW d2;have y3:=Below.keeps hW K0;go_simp;first|rfl|exact⟨rfl,rfl⟩));clear hK K))
 refine WQ.nil ?_
 intro wq hwq
 go_wp2_with (go_at_call 249;refine(HT.out _ hwq).mono ?_;rintro e W6 ⟨rfl,hg6⟩)
 go_end0
 exact⟨rfl,hg6⟩
set_option maxHeartbeats 8000000 in
theorem zcu (h:aN B D g env r w tv ev km mb vs cs) (hg:aM B w) (rest a:Txt) (wv:Value) (hw:ap w 1 wv 2 (ag [dN,a])) (h0:0<w.heap.size):
 Calls Tryz.prog 194 #[.pointer (some ⟨g,0,none⟩),.agg #[wv,.string (bs rest)]] w fun e w2=>e=.returned (.tuple #[])∧aD B D g env (nQ r dN a (aq r.buffer)) w w2:=by
 obtain⟨hb,hz,q0,q1,q2⟩:=cw w g wv rest
 have H3:=hid (h.below hb)
 have HG3:=hid (hg.below hb)
 have HW3:=hid (aP hw hb)
 have HB3:=hid hb
 have H0:=hid h
 have HG0:=hid hg
 have HW0:=hid hw
 have hzz:=hz
 obtain⟨-,va,vc,hv,hvc,hvm,hx⟩:=(aP hw hb).str
 subst hv
 have hsl:r.buffer.length≤65536:=h.sm.buf
 clear h hg hw
 go_enter Tryz.func194,Tryz.ntmps194
 unfold doW at *
 go_upto_region 2 with fail
 generalize ((w.alloc (.cells #[.pointer (some ⟨g,0,none⟩)] 275)).alloc (.cells #[.slice va 2 vc,.string (bs rest)] 328)).alloc (.cells #[.string ⟨#[]⟩] 9)=W3 at *
 obtain⟨wb,wo,rfl,hwb,aX⟩:=hx 0 (by simp)
 have L0:=aX 0 (by simp)
 have L1:=aX 1 (by simp)
 simp only[List.getElem_cons_zero,List.getElem_cons_succ,Nat.add_zero] at L0 L1
 clear aX hx
 have c10:W3.cell? ⟨w.heap.size+1,0,none⟩=some (.slice (some ⟨wb,wo,none⟩) 2 vc):=(cell_of_row _ _ 0 _ _ _ q1).trans rfl
 have c11:W3.cell? ⟨w.heap.size+1,1,none⟩=some (.string (bs rest)):=(cell_of_row _ _ 1 _ _ _ q1).trans rfl
 have c2:W3.cell? ⟨w.heap.size+1+1,0,none⟩=some (.string (bs [])):=(cell_of_row _ _ 0 _ _ _ q2).trans rfl
 have f2:W3.frozen? ⟨w.heap.size+1+1,0,none⟩=false:=Lib.frozen_of_heap q2 0
 go_upto_region 4 with fail
 obtain⟨n4,t4⟩:=au q2 0 (.string (bs a))
 have hne:∀b,b≠w.heap.size+1+1→∀j v,W3.cell? ⟨b,j,none⟩=some v→(W3.setCell ⟨w.heap.size+1+1,0,none⟩ (.string (bs a))).cell? ⟨b,j,none⟩=some v:=fun b hb j v hc=>(dS _ (fun e=>hb e.1.symm)).trans hc
 have hb4:Below w.heap.size w (W3.setCell ⟨w.heap.size+1+1,0,none⟩ (.string (bs a))):=HB3.out.trans (t4.below (by omega))
 have q0':=hne w.heap.size (by omega) 0 _ q0
 have c10':=hne _ (by omega) _ _ c10
 have c11':=hne _ (by omega) _ _ c11
 have c2':(W3.setCell ⟨w.heap.size+1+1,0,none⟩ (.string (bs a))).cell? ⟨w.heap.size+1+1,0,none⟩=some (.string (bs a)):=(cell_of_row _ _ 0 _ _ _ n4).trans rfl
 have hwbz:wb≠w.heap.size+1+1:=fun e=>by
  obtain⟨-,a9,c9,hv9, -, -,hx9⟩:=HW0.out.str
  simp only[Value.slice.injEq] at hv9
  obtain⟨e9, -, -⟩:=hv9
  obtain⟨b9,o9,h9,hlt9, -⟩:=hx9 0 (by simp)
  rw[←e9] at h9
  cases h9
  omega
 have L0':=hne _ hwbz _ _ L0
 have L1':=hne _ hwbz _ _ L1
 clear q0 c10 c11 c2 f2 L0 L1 hne n4 t4 q1 q2
 generalize W3.setCell ⟨w.heap.size+1+1,0,none⟩ (.string (bs a))=W4 at *
 have HR4:=hid (H0.out.below hb4)
 have HG4:=hid (HG0.out.below hb4)
 have cg2:=(aA HR4.out.at_).2.2.1
 go_upto_region 5 with(go_at_call 219;refine(bJ r.buffer W4 (by omega) HG4.out.max).mono ?_;rintro e W5 ⟨v,rfl,ho,hb5⟩)
 obtain⟨la,lc,rfl⟩:=ax ho
 have hbw:=Below.chain hb4 hb5
 have HO:=hid (show dv w W5 (aq r.buffer) (.slice la (aq r.buffer).length lc) from⟨aK ho hb4.size,hbw,by have:=bt r.buffer;omega,fun s hs=>Nat.le_trans (bf r.buffer s hs) hsl⟩)
 have HR5:=hid (HR4.out.below hb5)
 have HG5:=hid (HG4.out.below hb5)
 have HB5:=hid hbw
 have d0:=Below.keeps hb5 q0'
 have d10:=Below.keeps hb5 c10'
 have d11:=Below.keeps hb5 c11'
 have d2:=Below.keeps hb5 c2'
 have K0:=Below.keeps hb5 L0'
 have K1:=Below.keeps hb5 L1'
 clear hb hz q0' c10' c11' c2' cg2 L0' L1' hb5 ho hbw hb4
 unfold dN at *
 have HT:=hid (fun(W:World) (hb:Below W5.heap.size W5 W)=>i8 (w0:=w) ⟨_,_,_,_,_,_,H0.out⟩ (HO.out.next hb) (HG5.out.below hb) h0 dN a)
 unfold dN at HT
 go_wp2_with fail
 refine ar 7 (by kernel_rfl) (by kernel_rfl) ?_
 simp only[List.take_succ_cons,List.take_zero,List.drop_succ_cons,List.drop_zero]
 repeat(refine WQ.step (fun K hK=>?_);go_simp;first|(refine hK _ ?_;clear hK K)|(apply Exists.intro;refine⟨fun W hW=>?_,hK _ ?_⟩;(first|with_reducible rfl|(have y0:=Below.keeps hW d0;have y1:=Below.keeps hW d10;have y2:=Below.keeps hW d2;have y3:=Below.keeps hW K0;go_simp;first|rfl|exact⟨rfl,rfl⟩));clear hK K))
 refine WQ.nil ?_
 intro wq hwq
 go_wp2_with (go_at_call 249;refine(HT.out _ hwq).mono ?_;rintro e W6 ⟨rfl,hg6⟩)
 go_end0
 exact⟨rfl,hg6⟩
end
end Go.Proofs.YtlbipokkdiiaiaaGreatDoor
namespace Go.Proofs.YtlbipokkdiiaiaaGreatDoor
open Go.RowKit Exec
section
variable {P:Program} {md:Region.Mode} {ops:Array Oper} {Q:Exit→Act→World→Prop} {S:World→Prop} {k:Nat}
theorem pG {i m m2:Nat} {oi:Oper} {v:Value} (hi:ops[i]?=some oi) (hsel:∀(j:Nat) (o:Oper) cs b,ops[j]?=some o→o.op≠.select cs b)
 (hQ:∀c a w,Q (.panic c) (a.put oi.dst v) w→Q (.panic c) a w)
 (hk:∃ok,ops[k]?=some ok∧∃e∈ok.after,Region.binds md e=true∧e.on=m) (hm:∃om,ops[m]?=some om∧∃e∈om.after,Region.binds md e=true∧e.on=m2) (hm2:∃om,ops[m2]?=some om∧∃e∈om.after,Region.binds md e=true∧e.on=i):
 ∀(fuel:Nat) (listed:Array Bool) (a:Act) (w:World),
  (∀j oj,ops[j]?=some oj→j≠i→listed.getD j true=false→(∀e∈oj.after,Region.binds md e=true→e.on≠i)→oi.apart ops oj=true)→
  i∈Region.ready md ops listed→YieldsIf P ops S oi v a→S w→listed.getD k false=false→listed.getD m true=false→listed.getD m2 true=false→k≠i→
  fO P md ops Q S k fuel (listed.setIfInBounds i true) (a.put oi.dst v) w→fO P md ops Q S k (fuel+1) listed a w:=by
 intro fuel
 induction fuel with
 |zero=>
  intro listed a w _ hr hy hS _ _ _ _ H
  refine⟨fun h=>(by rw[h] at hr;cases hr),fun j hj=>?_⟩
  by_cases hji:j=i
  ·subst hji;exact hy.wpOp hi hS ⟨.inr hS,H⟩
  ·have:=ready_mono hj hji
   rw[H.1] at this
   cases this
 |succ fuel ih=>
  intro listed a w hfree hr hy hS hkl hml hml2 hki H
  refine⟨fun h=>(by rw[h] at hr;cases hr),fun j hj=>?_⟩
  by_cases hji:j=i
  ·subst hji;exact hy.wpOp hi hS ⟨.inr hS,H⟩
  ·have h1:=H.2 j (ready_mono hj hji)
   obtain⟨hjun,oj,hoj,hall⟩:=mem_ready.1 hj
   have mR:∀e∈oj.after,Region.binds md e=true→e.on≠i:=fun e he hb heq=>by
    have h1:=hall e he hb
    have h0:=(mem_ready.1 hr).1
    rw[heq] at h1
    rcases Nat.lt_or_ge i listed.size with h'|h'
    ·simp[h'] at h0 h1;rw[h0] at h1;cases h1
    ·simp[Array.getElem?_eq_none h'] at h1
   have hjk:j≠k:=fun e=>by
    subst e
    obtain⟨ok,hok,e,he,hb,hon⟩:=hk
    obtain rfl:ok=oj:=Option.some.inj (hok.symm.trans hoj)
    have h1:=hall e he hb
    rw[hon] at h1
    rcases Nat.lt_or_ge m listed.size with h'|h'
    ·simp[h'] at hml h1;rw[hml] at h1;cases h1
    ·simp[Array.getElem?_eq_none h'] at h1
   have hjm:j≠m:=fun e=>by
    subst e
    obtain⟨ok,hok,e,he,hb,hon⟩:=hm
    obtain rfl:ok=oj:=Option.some.inj (hok.symm.trans hoj)
    have h1:=hall e he hb
    rw[hon] at h1
    rcases Nat.lt_or_ge m2 listed.size with h'|h'
    ·simp[h'] at hml2 h1;rw[hml2] at h1;cases h1
    ·simp[Array.getElem?_eq_none h'] at h1
   have hjm2:j≠m2:=fun e=>by
    subst e
    obtain⟨ok,hok,e,he,hb,hon⟩:=hm2
    obtain rfl:ok=oj:=Option.some.inj (hok.symm.trans hoj)
    exact mR e he hb hon
   have h2:=wpOp_putIf hoj (hfree j oj hoj hji hjun mR) (fun cs b=>hsel i oi cs b hi) (fun cs b=>hsel j oj cs b hoj) hQ hy h1
   have hfree':∀k ok,ops[k]?=some ok→k≠i→(listed.setIfInBounds j true).getD k true=false→
    (∀e∈ok.after,Region.binds md e=true→e.on≠i)→oi.apart ops ok=true:=fun k ok hk hki hun hno=>by
    refine hfree k ok hk hki ?_ hno
    by_cases hjk:j=k
    ·subst hjk;exact hjun
    ·rw[getD_set_ne true hjk] at hun;exact hun
   have hkj:(listed.setIfInBounds j true).getD k false=false:=by rw[getD_set_ne false hjk];exact hkl
   have hmj:(listed.setIfInBounds j true).getD m true=false:=by rw[getD_set_ne true hjm];exact hml
   have hmj2:(listed.setIfInBounds j true).getD m2 true=false:=by rw[getD_set_ne true hjm2];exact hml2
   refine wpOp_mono (fun a' w' h3=>?_) h2
   obtain⟨h4,h5,h6⟩:=h3
   have hS':S w':=by
    rcases h5 with h5|h5
    ·rw[getD_set_ne false hjk,getD_set_ne false (Ne.symm hki),hkl] at h5
     cases h5
    ·exact h5
   refine⟨.inr hS',ih (listed.setIfInBounds j true) a' w' hfree' (ready_mono hr (Ne.symm hji)) h4 hS' hkj hmj hmj2 hki ?_⟩
   rw[Array.setIfInBounds_comm _ _ hji]
   exact h6
variable {fuel:Nat} {listed:Array Bool} {a:Act} {w:World}
theorem zfP (i m m2:Nat) (dst:Option Tmp) {oi:Oper} (hS:S w) (h:∃v,(∀W,S W→(execOp a.eval oi).run P W=.ok (.value v) W)∧WL P ops Q S k fuel (listed.setIfInBounds i true) (a.put dst v) w)
 (hi:ops[i]?=some oi:=by rfl) (hd:oi.dst=dst:=by rfl) (hs:Region.noSelect ops=true:=by kernel_rfl) (hf:Region.free .any ops listed i=true:=by kernel_rfl) (hr:(Region.ready .any ops listed).contains i=true:=by kernel_rfl)
 (hQ:∀v c a w,Q (.panic c) (a.put oi.dst v) w→Q (.panic c) a w:=by exact fun _ _ _ _ h=>h) (hwt:Region.wanted oi (yielded ops a.tmps)=true:=by kernel_rfl) (hw:waits ops k m=true:=by kernel_rfl) (hwm:waits ops m m2=true:=by kernel_rfl) (hwm2:waits ops m2 i=true:=by kernel_rfl) (hkl:listed.getD k false=false:=by kernel_rfl) (hml:listed.getD m true=false:=by kernel_rfl) (hml2:listed.getD m2 true=false:=by kernel_rfl) (hki:k≠i:=by decide):WL P ops Q S k (fuel+1) listed a w:=by
 obtain⟨v,hv,h⟩:=h
 subst hd
 exact⟨pG hi (Region.noSelect_spec hs) (hQ v) (fB hw) (fB hwm) (fB hwm2) fuel listed a w (Region.free_spec hi hf) (by simpa using hr) (.inl ⟨hwt,hv⟩) hS hkl hml hml2 hki h.out⟩
end
open Go.Shelf
attribute [local go_sem] Oper.semAt_some
set_option maxRecDepth 100000
section
variable {B g km mb:Nat} {D:Nat→Prop} {env:List (Txt×Txt)} {r:aw} {w W:World} {tv ev:Value} {vs cs:List Value}
theorem aN.fresh {W':World} (h:aN B D g env r W tv ev km mb vs cs) (ht:r.top=[]) (hb:Below W.heap.size W W') (hz:W.heap.size<W'.heap.size) (x:Txt):aN B (fun j=>D j∨j=W.heap.size) g env {r with seen:=[],word:=x} W' tv ev km W.heap.size vs cs:=by
 have h2:=h.below hb
 have hf:az D W W':=az.of_below hb
 have hD:∀j,(D j∨j=W.heap.size)→D j∨W.heap.size≤j:=fun j e=>e.imp id (fun e=>Nat.le_of_eq e.symm)
 have hBg:=h.db g h.dg
 have hvs:vs=[]:=by
  have:=h.top.len
  rw[ht] at this
  exact List.length_eq_zero_iff.1 this.symm
 exact
  {at_:=h2.at_
   row:=h2.row
   top:=by
    show jB _ r.top vs
    rw[ht,hvs]
    trivial
   cmd:=h.cmd.imp fun _ _ k=>k.go hf hD
   env:=h2.env
   eno:=fun k hk=>⟨fun e=>by
    rcases e with e|e
    ·exact(h.eno k hk).1 e
    ·have:=(h.eno k hk).2;omega,(h2.eno k hk).2⟩
   kn:=h2.kn
   seen:=fun e=>by
    have e2:r.top.any fy=true:=e
    rw[ht] at e2
    cases e2
   dg:=.inl h.dg
   dk:=.inl h.dk
   dt:=fun k hk=>.inl (h.dt k hk)
   db:=fun k hk=>by
    rcases hk with hk|hk
    ·exact h2.db k hk
    ·subst hk;exact⟨by omega,hz⟩
   sm:=sH h.sm [] x
   eb:=h.eb}
set_option maxHeartbeats 8000000 in
theorem zdR (h:aN B D g env r w tv ev km mb vs cs) (hg:aM B w) (rest a:Txt) (wv:Value) (hw:ap w 1 wv 2 (ag [mS,a])) (hfit:dp (cy r a .try_)):
 Calls Tryz.prog 194 #[.pointer (some ⟨g,0,none⟩),.agg #[wv,.string (bs rest)]] w fun e w2=>e=.returned (.tuple #[])∧aD B D g env (cy r a .try_) w w2:=by
 obtain⟨hb,hz,q0,q1,q2⟩:=cw w g wv rest
 have H3:=hid (h.below hb)
 have HG3:=hid (hg.below hb)
 have HW3:=hid (aP hw hb)
 have HB3:=hid hb
 have H0:=hid h
 have HG0:=hid hg
 have HW0:=hid hw
 have hzz:=hz
 obtain⟨-,va,vc,hv,hvc,hvm,hx⟩:=(aP hw hb).str
 subst hv
 have hsl:r.buffer.length≤65536:=h.sm.buf
 clear h hg hw
 go_enter Tryz.func194,Tryz.ntmps194
 unfold doW at *
 go_upto_region 2 with fail
 generalize ((w.alloc (.cells #[.pointer (some ⟨g,0,none⟩)] 275)).alloc (.cells #[.slice va 2 vc,.string (bs rest)] 328)).alloc (.cells #[.string ⟨#[]⟩] 9)=W3 at *
 obtain⟨wb,wo,rfl,hwb,aX⟩:=hx 0 (by simp)
 have L0:=aX 0 (by simp)
 have L1:=aX 1 (by simp)
 simp only[List.getElem_cons_zero,List.getElem_cons_succ,Nat.add_zero] at L0 L1
 clear aX hx
 have c10:W3.cell? ⟨w.heap.size+1,0,none⟩=some (.slice (some ⟨wb,wo,none⟩) 2 vc):=(cell_of_row _ _ 0 _ _ _ q1).trans rfl
 have c11:W3.cell? ⟨w.heap.size+1,1,none⟩=some (.string (bs rest)):=(cell_of_row _ _ 1 _ _ _ q1).trans rfl
 have c2:W3.cell? ⟨w.heap.size+1+1,0,none⟩=some (.string (bs [])):=(cell_of_row _ _ 0 _ _ _ q2).trans rfl
 have f2:W3.frozen? ⟨w.heap.size+1+1,0,none⟩=false:=Lib.frozen_of_heap q2 0
 go_upto_region 4 with fail
 obtain⟨n4,t4⟩:=au q2 0 (.string (bs a))
 have hne:∀b,b≠w.heap.size+1+1→∀j v,W3.cell? ⟨b,j,none⟩=some v→(W3.setCell ⟨w.heap.size+1+1,0,none⟩ (.string (bs a))).cell? ⟨b,j,none⟩=some v:=fun b hb j v hc=>(dS _ (fun e=>hb e.1.symm)).trans hc
 have hb4:Below w.heap.size w (W3.setCell ⟨w.heap.size+1+1,0,none⟩ (.string (bs a))):=HB3.out.trans (t4.below (by omega))
 have q0':=hne w.heap.size (by omega) 0 _ q0
 have c10':=hne _ (by omega) _ _ c10
 have c11':=hne _ (by omega) _ _ c11
 have c2':(W3.setCell ⟨w.heap.size+1+1,0,none⟩ (.string (bs a))).cell? ⟨w.heap.size+1+1,0,none⟩=some (.string (bs a)):=(cell_of_row _ _ 0 _ _ _ n4).trans rfl
 have hwbz:wb≠w.heap.size+1+1:=fun e=>by
  obtain⟨-,a9,c9,hv9, -, -,hx9⟩:=HW0.out.str
  simp only[Value.slice.injEq] at hv9
  obtain⟨e9, -, -⟩:=hv9
  obtain⟨b9,o9,h9,hlt9, -⟩:=hx9 0 (by simp)
  rw[←e9] at h9
  cases h9
  omega
 have L0':=hne _ hwbz _ _ L0
 have L1':=hne _ hwbz _ _ L1
 clear q0 c10 c11 c2 f2 L0 L1 hne n4 t4 q1 q2
 generalize W3.setCell ⟨w.heap.size+1+1,0,none⟩ (.string (bs a))=W4 at *
 have HR4:=hid (H0.out.below hb4)
 have HG4:=hid (HG0.out.below hb4)
 have cg2:=(aA HR4.out.at_).2.2.1
 go_upto_region 5 with(go_at_call 219;refine(bJ r.buffer W4 (by omega) HG4.out.max).mono ?_;rintro e W5 ⟨v,rfl,ho,hb5⟩)
 obtain⟨la,lc,rfl⟩:=ax ho
 have hbw:=Below.chain hb4 hb5
 have HO:=hid (show dv w W5 (aq r.buffer) (.slice la (aq r.buffer).length lc) from⟨aK ho hb4.size,hbw,by have:=bt r.buffer;omega,fun s hs=>Nat.le_trans (bf r.buffer s hs) hsl⟩)
 have HR5:=hid (HR4.out.below hb5)
 have HG5:=hid (HG4.out.below hb5)
 have HB5:=hid hbw
 have d0:=Below.keeps hb5 q0'
 have d10:=Below.keeps hb5 c10'
 have d11:=Below.keeps hb5 c11'
 have d2:=Below.keeps hb5 c2'
 have K0:=Below.keeps hb5 L0'
 have K1:=Below.keeps hb5 L1'
 clear hb hz q0' c10' c11' c2' cg2 L0' L1' hb5 ho hbw hb4
 unfold mS at *
 have P0:aI D W5 w.heap.size (.pointer (some ⟨g,0,none⟩)):=⟨by have:=hzz;have:=HB5.out.size;exact World.block_lt_of_cell? W5 _ d0,fun e=>by have:=(H0.out.db _ e).2;omega,d0⟩
 have HA:=hid (rM HR5.out .try_ (.func (.func 242) #[] #[.pointer (some ⟨w.heap.size,0,none⟩)]) ⟨_,rfl,P0⟩ (fun e=>by cases e) HG5.out.max a hfit)
 go_wp2_with (go_at_call 239;refine HA.out.mono ?_;rintro e W6 ⟨rfl,hg6⟩)
 go_end0
 exact⟨rfl,hg6.ahead HB5.out⟩
set_option maxHeartbeats 8000000 in
theorem zcD (h:aN B D g env r w tv ev km mb vs cs) (hg:aM B w) (rest a x:Txt) (wv:Value) (hw:ap w 1 wv 3 (ag [iq,a,x])) (ht:r.top=[]) (hfit:dp (cy {r with word:=x,seen:=[a]} a .scan)):
 Calls Tryz.prog 194 #[.pointer (some ⟨g,0,none⟩),.agg #[wv,.string (bs rest)]] w fun e w2=>e=.returned (.tuple #[])∧aD B D g env (cy {r with word:=x,seen:=[a]} a .scan) w w2:=by
 obtain⟨hb,hz,q0,q1,q2⟩:=cw w g wv rest
 have H3:=hid (h.below hb)
 have HG3:=hid (hg.below hb)
 have HW3:=hid (aP hw hb)
 have HB3:=hid hb
 have H0:=hid h
 have HG0:=hid hg
 have HW0:=hid hw
 have hzz:=hz
 obtain⟨-,va,vc,hv,hvc,hvm,hx⟩:=(aP hw hb).str
 subst hv
 have hsl:r.buffer.length≤65536:=h.sm.buf
 clear h hg hw
 go_enter Tryz.func194,Tryz.ntmps194
 unfold doW at *
 go_upto_region 2 with fail
 generalize ((w.alloc (.cells #[.pointer (some ⟨g,0,none⟩)] 275)).alloc (.cells #[.slice va 3 vc,.string (bs rest)] 328)).alloc (.cells #[.string ⟨#[]⟩] 9)=W3 at *
 obtain⟨wb,wo,rfl,hwb,aX⟩:=hx 0 (by simp)
 have L0:=aX 0 (by simp)
 have L1:=aX 1 (by simp)
 have L2:=aX 2 (by simp)
 simp only[List.getElem_cons_zero,List.getElem_cons_succ,Nat.add_zero] at L0 L1 L2
 clear aX hx
 have c10:W3.cell? ⟨w.heap.size+1,0,none⟩=some (.slice (some ⟨wb,wo,none⟩) 3 vc):=(cell_of_row _ _ 0 _ _ _ q1).trans rfl
 have c11:W3.cell? ⟨w.heap.size+1,1,none⟩=some (.string (bs rest)):=(cell_of_row _ _ 1 _ _ _ q1).trans rfl
 have c2:W3.cell? ⟨w.heap.size+1+1,0,none⟩=some (.string (bs [])):=(cell_of_row _ _ 0 _ _ _ q2).trans rfl
 have f2:W3.frozen? ⟨w.heap.size+1+1,0,none⟩=false:=Lib.frozen_of_heap q2 0
 go_upto_region 4 with fail
 obtain⟨n4,t4⟩:=au q2 0 (.string (bs a))
 have hne:∀b,b≠w.heap.size+1+1→∀j v,W3.cell? ⟨b,j,none⟩=some v→(W3.setCell ⟨w.heap.size+1+1,0,none⟩ (.string (bs a))).cell? ⟨b,j,none⟩=some v:=fun b hb j v hc=>(dS _ (fun e=>hb e.1.symm)).trans hc
 have hb4:Below w.heap.size w (W3.setCell ⟨w.heap.size+1+1,0,none⟩ (.string (bs a))):=HB3.out.trans (t4.below (by omega))
 have q0':=hne w.heap.size (by omega) 0 _ q0
 have c10':=hne _ (by omega) _ _ c10
 have c11':=hne _ (by omega) _ _ c11
 have c2':(W3.setCell ⟨w.heap.size+1+1,0,none⟩ (.string (bs a))).cell? ⟨w.heap.size+1+1,0,none⟩=some (.string (bs a)):=(cell_of_row _ _ 0 _ _ _ n4).trans rfl
 have hwbz:wb≠w.heap.size+1+1:=fun e=>by
  obtain⟨-,a9,c9,hv9, -, -,hx9⟩:=HW0.out.str
  simp only[Value.slice.injEq] at hv9
  obtain⟨e9, -, -⟩:=hv9
  obtain⟨b9,o9,h9,hlt9, -⟩:=hx9 0 (by simp)
  rw[←e9] at h9
  cases h9
  omega
 have L0':=hne _ hwbz _ _ L0
 have L1':=hne _ hwbz _ _ L1
 have L2':=hne _ hwbz _ _ L2
 clear q0 c10 c11 c2 f2 L0 L1 L2 hne n4 t4 q1 q2
 generalize W3.setCell ⟨w.heap.size+1+1,0,none⟩ (.string (bs a))=W4 at *
 have HR4:=hid (H0.out.below hb4)
 have HG4:=hid (HG0.out.below hb4)
 have cg2:=(aA HR4.out.at_).2.2.1
 go_upto_region 5 with(go_at_call 219;refine(bJ r.buffer W4 (by omega) HG4.out.max).mono ?_;rintro e W5 ⟨v,rfl,ho,hb5⟩)
 obtain⟨la,lc,rfl⟩:=ax ho
 have hbw:=Below.chain hb4 hb5
 have HO:=hid (show dv w W5 (aq r.buffer) (.slice la (aq r.buffer).length lc) from⟨aK ho hb4.size,hbw,by have:=bt r.buffer;omega,fun s hs=>Nat.le_trans (bf r.buffer s hs) hsl⟩)
 have HR5:=hid (HR4.out.below hb5)
 have HG5:=hid (HG4.out.below hb5)
 have HB5:=hid hbw
 have d0:=Below.keeps hb5 q0'
 have d10:=Below.keeps hb5 c10'
 have d11:=Below.keeps hb5 c11'
 have d2:=Below.keeps hb5 c2'
 have K0:=Below.keeps hb5 L0'
 have K1:=Below.keeps hb5 L1'
 have K2:=Below.keeps hb5 L2'
 clear hb hz q0' c10' c11' c2' cg2 L0' L1' L2' hb5 ho hbw hb4
 unfold iq at *
 go_wp2_with fail
 refine aG (fun W=>W.cell? ⟨w.heap.size,0,none⟩=some (.pointer (some ⟨g,0,none⟩))∧W.cell? ⟨w.heap.size+1+1,0,none⟩=some (.string (bs a))∧W.cell? ⟨w.heap.size+1,0,none⟩=some (.slice (some ⟨wb,wo,none⟩) 3 vc)∧W.cell? ⟨wb,wo+2,none⟩=some (.string (bs x))) 7 (by kernel_rfl) ?_
 intro wq hwq
 have hS:=And.intro (Below.keeps hwq d0) (And.intro (Below.keeps hwq d2) (And.intro (Below.keeps hwq d10) (Below.keeps hwq K2)))
 refine zfs 0 (some 49) (hi:=rfl) hS ?_
 apply Exists.intro
 refine⟨fun W hW=>?_,?_⟩
 ·have e1:=hW.1
  go_simp
  try rfl
 try simp only[Act.put,sA,sB,sC]
 refine zfs 1 (some 50) (hi:=rfl) hS ?_
 apply Exists.intro
 refine⟨fun W hW=>?_,?_⟩
 ·have e1:=hW.2.1
  go_simp
  try rfl
 try simp only[Act.put,sA,sB,sC]
 refine zfq 2 (some 51) (hi:=rfl) (.inr hS) ?_
 apply Exists.intro
 refine⟨fun W=>?_,?_⟩
 ·go_simp
  try rfl
 try simp only[Act.put,sA,sB,sC]
 refine zfP 3 5 4 (some 52) (hi:=rfl) hS ?_
 apply Exists.intro
 refine⟨fun W hW=>?_,?_⟩
 ·have e1:=hW.2.2.1
  go_simp
  try rfl
 try simp only[Act.put,sA,sB,sC]
 refine zfq 4 (some 53) (hi:=rfl) (.inr hS) ?_
 apply Exists.intro
 refine⟨fun W=>?_,?_⟩
 ·go_simp
  try rfl
 try simp only[Act.put,sA,sB,sC]
 refine zfs 5 (some 54) (hi:=rfl) hS ?_
 apply Exists.intro
 refine⟨fun W hW=>?_,?_⟩
 ·have e1:=hW.2.2.2
  go_simp
  try rfl
 try simp only[Act.put,sA,sB,sC]
 refine WL.o 6 (hi:=rfl) ?_
 intro K hK
 have hmm:=@run_makeMap Tryz.prog
 go_simp
 obtain⟨W6,hW6,hb6,hn6⟩:=an0 wq (.map #[] 0)
 rw[←hW6.out]
 clear hW6 hmm
 have hz6:=lx (hid hn6)
 refine hK.out _ _ (.inr ⟨Below.keeps hb6 hS.1,Below.keeps hb6 hS.2.1,Below.keeps hb6 hS.2.2.1,Below.keeps hb6 hS.2.2.2⟩) ?_
 clear hK K
 try simp only[Act.put,sA,sB,sC]
 refine WL.o 7 (hi:=rfl) ?_
 intro K hK
 have hfr:=(HR5.out.below hwq).fresh ht hb6 (by omega) x
 go_simp
 refine(sY (r:={r with seen:=[],word:=x}) (mb:=wq.heap.size) (D:=fun j=>D j∨j=wq.heap.size) hfr ⟨hn6,.inr rfl,fun e=>by have:=lx (hid HR5.out.kn);have:=hwq.size;omega⟩ HG5.out.pos (HG5.out.below (Below.chain hwq hb6)).max a (by simp) hfit).mono ?_
 rintro e W7 ⟨rfl,hg7⟩
 refine hK.out _ _ (.inl (by kernel_rfl)) ?_
 clear hK K
 try simp only[Act.put,sA,sB,sC]
 refine WL.d ?_
 go_end0
 refine⟨rfl,aD.then (D':=fun j=>D j∨j=wq.heap.size) (fun j e=>?_) (az.of_below (Below.chain HB5.out (Below.chain hwq hb6))) hg7⟩
 rcases e with e|e
 ·exact .inl e
 ·have h1:=HB5.out.size
  have h2:=hwq.size
  exact .inr (by omega)
set_option maxHeartbeats 8000000 in
theorem zc1 (h:aN B D g env r w tv ev km mb vs cs) (hg:aM B w) (rest a:Txt) (wv:Value) (hw:ap w 1 wv 2 (ag [iA,a])) (hfit:dp (cy r a .read)):
 Calls Tryz.prog 194 #[.pointer (some ⟨g,0,none⟩),.agg #[wv,.string (bs rest)]] w fun e w2=>e=.returned (.tuple #[])∧aD B D g env (cy r a .read) w w2:=by
 obtain⟨hb,hz,q0,q1,q2⟩:=cw w g wv rest
 have H3:=hid (h.below hb)
 have HG3:=hid (hg.below hb)
 have HW3:=hid (aP hw hb)
 have HB3:=hid hb
 have H0:=hid h
 have HG0:=hid hg
 have HW0:=hid hw
 have hzz:=hz
 obtain⟨-,va,vc,hv,hvc,hvm,hx⟩:=(aP hw hb).str
 subst hv
 have hsl:r.buffer.length≤65536:=h.sm.buf
 clear h hg hw
 go_enter Tryz.func194,Tryz.ntmps194
 unfold doW at *
 go_upto_region 2 with fail
 generalize ((w.alloc (.cells #[.pointer (some ⟨g,0,none⟩)] 275)).alloc (.cells #[.slice va 2 vc,.string (bs rest)] 328)).alloc (.cells #[.string ⟨#[]⟩] 9)=W3 at *
 obtain⟨wb,wo,rfl,hwb,aX⟩:=hx 0 (by simp)
 have L0:=aX 0 (by simp)
 have L1:=aX 1 (by simp)
 simp only[List.getElem_cons_zero,List.getElem_cons_succ,Nat.add_zero] at L0 L1
 clear aX hx
 have c10:W3.cell? ⟨w.heap.size+1,0,none⟩=some (.slice (some ⟨wb,wo,none⟩) 2 vc):=(cell_of_row _ _ 0 _ _ _ q1).trans rfl
 have c11:W3.cell? ⟨w.heap.size+1,1,none⟩=some (.string (bs rest)):=(cell_of_row _ _ 1 _ _ _ q1).trans rfl
 have c2:W3.cell? ⟨w.heap.size+1+1,0,none⟩=some (.string (bs [])):=(cell_of_row _ _ 0 _ _ _ q2).trans rfl
 have f2:W3.frozen? ⟨w.heap.size+1+1,0,none⟩=false:=Lib.frozen_of_heap q2 0
 go_upto_region 4 with fail
 obtain⟨n4,t4⟩:=au q2 0 (.string (bs a))
 have hne:∀b,b≠w.heap.size+1+1→∀j v,W3.cell? ⟨b,j,none⟩=some v→(W3.setCell ⟨w.heap.size+1+1,0,none⟩ (.string (bs a))).cell? ⟨b,j,none⟩=some v:=fun b hb j v hc=>(dS _ (fun e=>hb e.1.symm)).trans hc
 have hb4:Below w.heap.size w (W3.setCell ⟨w.heap.size+1+1,0,none⟩ (.string (bs a))):=HB3.out.trans (t4.below (by omega))
 have q0':=hne w.heap.size (by omega) 0 _ q0
 have c10':=hne _ (by omega) _ _ c10
 have c11':=hne _ (by omega) _ _ c11
 have c2':(W3.setCell ⟨w.heap.size+1+1,0,none⟩ (.string (bs a))).cell? ⟨w.heap.size+1+1,0,none⟩=some (.string (bs a)):=(cell_of_row _ _ 0 _ _ _ n4).trans rfl
 have hwbz:wb≠w.heap.size+1+1:=fun e=>by
  obtain⟨-,a9,c9,hv9, -, -,hx9⟩:=HW0.out.str
  simp only[Value.slice.injEq] at hv9
  obtain⟨e9, -, -⟩:=hv9
  obtain⟨b9,o9,h9,hlt9, -⟩:=hx9 0 (by simp)
  rw[←e9] at h9
  cases h9
  omega
 have L0':=hne _ hwbz _ _ L0
 have L1':=hne _ hwbz _ _ L1
 clear q0 c10 c11 c2 f2 L0 L1 hne n4 t4 q1 q2
 generalize W3.setCell ⟨w.heap.size+1+1,0,none⟩ (.string (bs a))=W4 at *
 have HR4:=hid (H0.out.below hb4)
 have HG4:=hid (HG0.out.below hb4)
 have cg2:=(aA HR4.out.at_).2.2.1
 go_upto_region 5 with(go_at_call 219;refine(bJ r.buffer W4 (by omega) HG4.out.max).mono ?_;rintro e W5 ⟨v,rfl,ho,hb5⟩)
 obtain⟨la,lc,rfl⟩:=ax ho
 have hbw:=Below.chain hb4 hb5
 have HO:=hid (show dv w W5 (aq r.buffer) (.slice la (aq r.buffer).length lc) from⟨aK ho hb4.size,hbw,by have:=bt r.buffer;omega,fun s hs=>Nat.le_trans (bf r.buffer s hs) hsl⟩)
 have HR5:=hid (HR4.out.below hb5)
 have HG5:=hid (HG4.out.below hb5)
 have HB5:=hid hbw
 have d0:=Below.keeps hb5 q0'
 have d10:=Below.keeps hb5 c10'
 have d11:=Below.keeps hb5 c11'
 have d2:=Below.keeps hb5 c2'
 have K0:=Below.keeps hb5 L0'
 have K1:=Below.keeps hb5 L1'
 clear hb hz q0' c10' c11' c2' cg2 L0' L1' hb5 ho hbw hb4
 unfold iA at *
 go_wp2_with fail
 refine aG (fun W=>W.cell? ⟨w.heap.size,0,none⟩=some (.pointer (some ⟨g,0,none⟩))∧W.cell? ⟨w.heap.size+1+1,0,none⟩=some (.string (bs a))) 6 (by kernel_rfl) ?_
 intro wq hwq
 have hS:=And.intro (Below.keeps hwq d0) (Below.keeps hwq d2)
 refine zfs 0 (some 34) (hi:=rfl) hS ?_
 apply Exists.intro
 refine⟨fun W hW=>?_,?_⟩
 ·have e1:=hW.1
  go_simp
  try rfl
 try simp only[Act.put,sA,sB,sC]
 refine zfs 1 (some 35) (hi:=rfl) hS ?_
 apply Exists.intro
 refine⟨fun W hW=>?_,?_⟩
 ·have e1:=hW.2
  go_simp
  try rfl
 try simp only[Act.put,sA,sB,sC]
 refine zfz 2 5 (some 36) (hi:=rfl) hS ?_
 apply Exists.intro
 refine⟨fun W hW=>?_,?_⟩
 ·have e1:=hW.1
  go_simp
  try rfl
 try simp only[Act.put,sA,sB,sC]
 refine zfP 3 5 4 (some 37) (hi:=rfl) hS ?_
 apply Exists.intro
 refine⟨fun W hW=>?_,?_⟩
 ·have e1:=hW.1
  go_simp
  try rfl
 try simp only[Act.put,sA,sB,sC]
 refine zfq 4 (some 38) (hi:=rfl) (.inr hS) ?_
 apply Exists.intro
 refine⟨fun W=>?_,?_⟩
 ·go_simp
  try rfl
 try simp only[Act.put,sA,sB,sC]
 refine WL.o 5 (hi:=rfl) ?_
 intro K hK
 go_simp
 refine(qi wq g 241 _ _).mono ?_
 rintro e W6 ⟨rfl,hW6⟩
 obtain⟨hb6,hz6,c60,c61⟩:=mI wq g (.func (.func 241) #[.pointer (some ⟨g,0,none⟩)] #[])
 rw[←hW6] at hb6 hz6 c60 c61
 clear hW6
 refine hK.out _ _ (.inr ⟨Below.keeps hb6 hS.1,Below.keeps hb6 hS.2⟩) ?_
 clear hK K
 try simp only[Act.put,sA,sB,sC]
 refine WL.o 6 (hi:=rfl) ?_
 intro K hK
 have hdb:=(HR5.out.below hwq).db
 go_simp
 refine(rM (HR5.out.below (Below.chain hwq hb6)) .read _ (⟨_,_,rfl,⟨by omega,fun e=>by have:=(hdb _ e).2;omega,c60⟩,⟨by omega,fun e=>by have:=(hdb _ e).2;omega,c61⟩⟩) (fun e=>by cases e) (HG5.out.below (Below.chain hwq hb6)).max a hfit).mono ?_
 rintro e W7 ⟨rfl,hg7⟩
 refine hK.out _ _ (.inl (by kernel_rfl)) ?_
 clear hK K
 try simp only[Act.put,sA,sB,sC]
 refine WL.d ?_
 go_end0
 exact⟨rfl,hg7.ahead (Below.chain HB5.out (Below.chain hwq hb6))⟩
end
section
variable {B g km mb:Nat} {D:Nat→Prop} {env:List (Txt×Txt)} {r:aw} {w W:World} {tv ev:Value} {vs cs:List Value}
set_option maxHeartbeats 8000000 in
theorem zab (h:aN B D g env r w tv ev km mb vs cs) (hg:aM B w) (rest a:Txt) (wv:Value) (hw:ap w 1 wv 2 (ag [fj,a])):
 Calls Tryz.prog 194 #[.pointer (some ⟨g,0,none⟩),.agg #[wv,.string (bs rest)]] w fun e w2=>e=.returned (.tuple #[])∧aD B D g env ({r with over:=⟨2,a,r.buffer,0⟩,buffer:=[]}) w w2:=by
 obtain⟨hb,hz,q0,q1,q2⟩:=cw w g wv rest
 have H3:=hid (h.below hb)
 have HG3:=hid (hg.below hb)
 have HW3:=hid (aP hw hb)
 have HB3:=hid hb
 have H0:=hid h
 have HG0:=hid hg
 have HW0:=hid hw
 have hzz:=hz
 obtain⟨-,va,vc,hv,hvc,hvm,hx⟩:=(aP hw hb).str
 subst hv
 have hsl:r.buffer.length≤65536:=h.sm.buf
 clear h hg hw
 go_enter Tryz.func194,Tryz.ntmps194
 unfold doW at *
 go_upto_region 2 with fail
 generalize ((w.alloc (.cells #[.pointer (some ⟨g,0,none⟩)] 275)).alloc (.cells #[.slice va 2 vc,.string (bs rest)] 328)).alloc (.cells #[.string ⟨#[]⟩] 9)=W3 at *
 obtain⟨wb,wo,rfl,hwb,aX⟩:=hx 0 (by simp)
 have L0:=aX 0 (by simp)
 have L1:=aX 1 (by simp)
 simp only[List.getElem_cons_zero,List.getElem_cons_succ,Nat.add_zero] at L0 L1
 clear aX hx
 have c10:W3.cell? ⟨w.heap.size+1,0,none⟩=some (.slice (some ⟨wb,wo,none⟩) 2 vc):=(cell_of_row _ _ 0 _ _ _ q1).trans rfl
 have c11:W3.cell? ⟨w.heap.size+1,1,none⟩=some (.string (bs rest)):=(cell_of_row _ _ 1 _ _ _ q1).trans rfl
 have c2:W3.cell? ⟨w.heap.size+1+1,0,none⟩=some (.string (bs [])):=(cell_of_row _ _ 0 _ _ _ q2).trans rfl
 have f2:W3.frozen? ⟨w.heap.size+1+1,0,none⟩=false:=Lib.frozen_of_heap q2 0
 go_upto_region 4 with fail
 obtain⟨n4,t4⟩:=au q2 0 (.string (bs a))
 have hne:∀b,b≠w.heap.size+1+1→∀j v,W3.cell? ⟨b,j,none⟩=some v→(W3.setCell ⟨w.heap.size+1+1,0,none⟩ (.string (bs a))).cell? ⟨b,j,none⟩=some v:=fun b hb j v hc=>(dS _ (fun e=>hb e.1.symm)).trans hc
 have hb4:Below w.heap.size w (W3.setCell ⟨w.heap.size+1+1,0,none⟩ (.string (bs a))):=HB3.out.trans (t4.below (by omega))
 have q0':=hne w.heap.size (by omega) 0 _ q0
 have c10':=hne _ (by omega) _ _ c10
 have c11':=hne _ (by omega) _ _ c11
 have c2':(W3.setCell ⟨w.heap.size+1+1,0,none⟩ (.string (bs a))).cell? ⟨w.heap.size+1+1,0,none⟩=some (.string (bs a)):=(cell_of_row _ _ 0 _ _ _ n4).trans rfl
 have hwbz:wb≠w.heap.size+1+1:=fun e=>by
  obtain⟨-,a9,c9,hv9, -, -,hx9⟩:=HW0.out.str
  simp only[Value.slice.injEq] at hv9
  obtain⟨e9, -, -⟩:=hv9
  obtain⟨b9,o9,h9,hlt9, -⟩:=hx9 0 (by simp)
  rw[←e9] at h9
  cases h9
  omega
 have L0':=hne _ hwbz _ _ L0
 have L1':=hne _ hwbz _ _ L1
 clear q0 c10 c11 c2 f2 L0 L1 hne n4 t4 q1 q2
 generalize W3.setCell ⟨w.heap.size+1+1,0,none⟩ (.string (bs a))=W4 at *
 have HR4:=hid (H0.out.below hb4)
 have HG4:=hid (HG0.out.below hb4)
 have cg2:=(aA HR4.out.at_).2.2.1
 go_upto_region 5 with(go_at_call 219;refine(bJ r.buffer W4 (by omega) HG4.out.max).mono ?_;rintro e W5 ⟨v,rfl,ho,hb5⟩)
 obtain⟨la,lc,rfl⟩:=ax ho
 have hbw:=Below.chain hb4 hb5
 have HO:=hid (show dv w W5 (aq r.buffer) (.slice la (aq r.buffer).length lc) from⟨aK ho hb4.size,hbw,by have:=bt r.buffer;omega,fun s hs=>Nat.le_trans (bf r.buffer s hs) hsl⟩)
 have HR5:=hid (HR4.out.below hb5)
 have HG5:=hid (HG4.out.below hb5)
 have HB5:=hid hbw
 have d0:=Below.keeps hb5 q0'
 have d10:=Below.keeps hb5 c10'
 have d11:=Below.keeps hb5 c11'
 have d2:=Below.keeps hb5 c2'
 have K0:=Below.keeps hb5 L0'
 have K1:=Below.keeps hb5 L1'
 clear hb hz q0' c10' c11' c2' cg2 L0' L1' hb5 ho hbw hb4
 unfold fj at *
 have hgl:=lx (hid H0.out.at_)
 go_wp2_with fail
 refine aG (fun W=>W.cell? ⟨w.heap.size,0,none⟩=some (.pointer (some ⟨g,0,none⟩))∧W.cell? ⟨w.heap.size+1+1,0,none⟩=some (.string (bs a))∧W.heap[g]?=some (.cells (iF tv ev km r).toArray 323 (0,0))) 9 (by kernel_rfl) ?_
 intro wq hwq
 have hS:=And.intro (Below.keeps hwq d0) (And.intro (Below.keeps hwq d2) ((hwq.block _ (lx (hid HR5.out.at_))).trans HR5.out.at_))
 refine zfs 0 (some 88) (hi:=rfl) hS ?_
 apply Exists.intro
 refine⟨fun W hW=>?_,?_⟩
 ·have e1:=hW.1
  go_simp
  try rfl
 try simp only[Act.put,sA,sB,sC]
 refine zfs 1 (some 89) (hi:=rfl) hS ?_
 apply Exists.intro
 refine⟨fun W hW=>?_,?_⟩
 ·have e1:=hW.2.1
  go_simp
  try rfl
 try simp only[Act.put,sA,sB,sC]
 refine zfs 2 (some 90) (hi:=rfl) hS ?_
 apply Exists.intro
 refine⟨fun W hW=>?_,?_⟩
 ·have e1:=hW.1
  go_simp
  try rfl
 try simp only[Act.put,sA,sB,sC]
 refine zfq 3 (some 91) (hi:=rfl) (.inr hS) ?_
 apply Exists.intro
 refine⟨fun W=>?_,?_⟩
 ·go_simp
  try rfl
 try simp only[Act.put,sA,sB,sC]
 refine zfq 4 (some 92) (hi:=rfl) (.inr hS) ?_
 apply Exists.intro
 refine⟨fun W=>?_,?_⟩
 ·go_simp
  try rfl
 try simp only[Act.put,sA,sB,sC]
 refine zfs 5 (some 93) (hi:=rfl) hS ?_
 apply Exists.intro
 refine⟨fun W hW=>?_,?_⟩
 ·have e1:=(aA hW.2.2).2.2.1
  go_simp
  try rfl
 try simp only[Act.put,sA,sB,sC]
 refine zfq 6 (some 94) (hi:=rfl) (.inr hS) ?_
 apply Exists.intro
 refine⟨fun W=>?_,?_⟩
 ·go_simp
  try rfl
 try simp only[Act.put,sA,sB,sC]
 refine zfq 7 (some 95) (hi:=rfl) (.inr hS) ?_
 apply Exists.intro
 refine⟨fun W=>?_,?_⟩
 ·go_simp
  try rfl
 try simp only[Act.put,sA,sB,sC]
 refine zfq 8 (some 96) (hi:=rfl) (.inr hS) ?_
 apply Exists.intro
 refine⟨fun W=>?_,?_⟩
 ·go_simp
  try rfl
 try simp only[Act.put,sA,sB,sC]
 refine WL.o 9 (hi:=rfl) ?_
 intro K hK
 obtain⟨-, -, -, -, -, -,c6,c7,c8,c9⟩:=aA hS.2.2
 have g6:wq.frozen? ⟨g,6,none⟩=false:=Lib.frozen_of_heap hS.2.2 6
 have g7:wq.frozen? ⟨g,7,none⟩=false:=Lib.frozen_of_heap hS.2.2 7
 have g8:wq.frozen? ⟨g,8,none⟩=false:=Lib.frozen_of_heap hS.2.2 8
 have g9:wq.frozen? ⟨g,9,none⟩=false:=Lib.frozen_of_heap hS.2.2 9
 go_simp
 refine hK.out _ _ (.inl (by kernel_rfl)) ?_
 clear hK K
 try simp only[Act.put,sA,sB,sC]
 refine WL.d ?_
 have HQ:=hid (HR5.out.below hwq)
 obtain⟨n1,t1⟩:=au HQ.out.at_ 6 (.int .i64 2)
 obtain⟨n2,t2⟩:=au n1 7 (.string (bs a))
 obtain⟨n3,t3⟩:=au n2 8 (.string (bs r.buffer))
 obtain⟨n4,t4⟩:=au n3 9 (.int .i64 0)
 have T:=((t1.trans t2).trans t3).trans t4
 have hzl:=World.block_lt_of_cell? wq _ hS.1
 have z4:=(World.cell?_of_block (a:=⟨w.heap.size,0,none⟩) (T.foot.block w.heap.size hzl (by omega))).trans hS.1
 have c2:=(cell_of_row _ _ 2 _ _ _ n4).trans rfl
 have f2:=Lib.frozen_of_heap n4 2
 obtain⟨n5,t5⟩:=au n4 2 (.string ⟨#[]⟩)
 have HGO:=hid ((HQ.out.go (r':={r with over:=⟨2,a,r.buffer,0⟩,buffer:=[]}) (T.trans t5) (n5.trans rfl) rfl rfl rfl rfl rfl ⟨Nat.zero_le _,HQ.out.sm.kn,HQ.out.sm.ln,HQ.out.sm.cm,HQ.out.sm.tl,HQ.out.sm.nd⟩).ahead (Below.chain HB5.out hwq))
 clear n1 n2 n3 n4 n5 t1 t2 t3 t4 t5 T
 generalize (((wq.setCell ⟨g,6,none⟩ (.int .i64 2)).setCell ⟨g,7,none⟩ (.string (bs a))).setCell ⟨g,8,none⟩ (.string (bs r.buffer))).setCell ⟨g,9,none⟩ (.int .i64 0)=W6 at *
 go_wp2_with fail
 go_end0
 exact⟨rfl,HGO.out⟩
end
end Go.Proofs.YtlbipokkdiiaiaaGreatDoor
