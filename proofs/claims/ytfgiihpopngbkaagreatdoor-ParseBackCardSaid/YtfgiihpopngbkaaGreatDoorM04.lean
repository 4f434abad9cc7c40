/- Lemmas and walks that the statement needs: LexLaws, LexLaws2, LexLaws3, PrintLex, PrintPlain. -/
import Derived.Test.YtfgiihpopngbkaaGreatDoorM01
namespace Go.Proofs.YtfgiihpopngbkaaGreatDoor
set_option maxRecDepth 100000
open Go.RowKit
open Nat renaming lt_of_lt_of_le→nL,le_trans→nT
theorem u8_eq {a b:UInt8} (h:a.toNat=b.toNat):a=b:=UInt8.toNat_inj.1 h
theorem qGo_esc:∀ (s r:List UInt8),s.any badQ=false→qGo (s.flatMap escB++34::r)=some (s,(s.flatMap escB).length+1)
 | [],r,_=>by show qGo (34::r)=_;rw [qGo_cons,if_pos (by decide)];rfl
 | c::s,r,h=>by
   simp only [List.any_cons,Bool.or_eq_false_iff] at h;have ih:=qGo_esc s r h.2;have hb:=h.1;unfold badQ at hb;simp only [Bool.or_eq_false_iff,Bool.and_eq_false_iff,decide_eq_false_iff_not,bne_eq_false_iff_eq,beq_eq_false_iff_ne] at hb;by_cases h1:c.toNat=10
   ·have hc:c=10:=u8_eq h1;subst hc;have e:escB 10=[92,110]:=rfl;show qGo ((escB 10++s.flatMap escB)++34::r)=_;rw [e];show qGo (92::110::(s.flatMap escB++34::r))=_;rw [qGo_cons,if_neg (by decide),if_neg (by decide),if_pos (by decide)];simp only;rw [if_neg (by decide),if_pos (by decide),ih];simp [e]
   ·by_cases h2:c.toNat=34∨c.toNat=92
    ·have e:escB c=[92,c]:=by unfold escB;rw [if_neg h1,if_pos h2]
     show qGo ((escB c++s.flatMap escB)++34::r)=_;rw [e];show qGo (92::c::(s.flatMap escB++34::r))=_;rw [qGo_cons,if_neg (by decide),if_neg (by decide),if_pos (by decide)];simp only;rw [if_pos h2,ih];simp [e]
    ·have e:escB c=[c]:=by unfold escB;rw [if_neg h1,if_neg h2]
     show qGo ((escB c++s.flatMap escB)++34::r)=_;rw [e];show qGo (c::(s.flatMap escB++34::r))=_;rw [qGo_cons,if_neg (by omega),if_neg (by omega),if_neg (by omega),ih];simp [e]
theorem quote_good {s:List UInt8} (h:s.any badQ=false):quoteL s=34::(s.flatMap escB++[34]):=by unfold quoteL;rw [if_neg (by rw [h];simp)]
theorem quote_len {s:List UInt8} (h:s.any badQ=false):(quoteL s).length=(s.flatMap escB).length+2:=by rw [quote_good h];simp
theorem piece_quote {s:List UInt8} (r:List UInt8) (h:s.any badQ=false):pieceL (quoteL s++r)=(3,s,(quoteL s).length,0):=by
 rw [quote_good h];have e:34::(s.flatMap escB++[34])++r=34::(s.flatMap escB++34::r):=by simp
 rw [e,piece_cons,if_neg (by decide),if_neg (by decide),if_neg (by decide),if_neg (by decide),if_pos (by decide),qGo_esc s r h];simp
theorem quote_ne {s:List UInt8} (h:s.any badQ=false):∃ c r,quoteL s=c::r:=⟨_,_,quote_good h⟩
theorem lex_piece_app {p:Pl} {a r t:List UInt8} {k:Nat} (ha:a≠[]) (h:pieceL (a++r)=(k,t,a.length,0)) :
  lexL p (a++r)=finT (if k=0 then [] else [(k,t,p)]) (lexL (advs p a) r):=by
 cases a with
 | nil=>exact absurd rfl ha
 | cons c a =>
   have h':pieceL (c::(a++r))=(k,t,(c::a).length,0):=h;show lexL p (c::(a++r))=_;rw [lex_piece h'];have e1:(c::(a++r)).take (c::a).length=c::a:=by
    show ((c::a)++r).take _=_;rw [List.take_left' rfl]
   have e2:(c::(a++r)).drop (c::a).length=r:=by
    show ((c::a)++r).drop _=_;rw [List.drop_left' rfl]
   rw [e1,e2]
theorem qGo_text:∀ (k:Nat) (s t:List UInt8) (n:Nat),s.length≤k→qGo s=some (t,n)→t.any badQ=false∧(t.flatMap escB).length+1≤n
 | _,[],t,n,_,h=>by simp [qGo] at h
 | 0,c::r,t,n,hk,_=>by simp at hk
 | k+1,c::r,t,n,hk,h=>by
   have hr:r.length≤k:=by simpa using hk
   rw [qGo_cons] at h;by_cases h1:c.toNat=34
   ·rw [if_pos h1] at h;simp only [Option.some.injEq,Prod.mk.injEq] at h;obtain ⟨rfl,rfl⟩:=h;simp
   ·rw [if_neg h1] at h;by_cases h2:c.toNat<32∨c.toNat=127
    ·rw [if_pos h2] at h;cases h
    ·rw [if_neg h2] at h;by_cases h3:c.toNat=92
     ·rw [if_pos h3] at h;cases r with
      | nil=>cases h
      | cons d r =>
        simp only at h;have hr':r.length≤k:=by simp at hr;omega
        by_cases h4:d.toNat=34∨d.toNat=92
        ·rw [if_pos h4] at h;cases e:qGo r with
         | none=>rw [e] at h;cases h
         | some x =>
           obtain ⟨t',n'⟩:=x;rw [e] at h;simp only [Option.map_some,Option.some.injEq,Prod.mk.injEq] at h;obtain ⟨rfl,rfl⟩:=h;have ih:=qGo_text k r t' n' hr' e;have hb:badQ d=false:=by unfold badQ;simp;omega
           have he:(escB d).length=2:=by unfold escB;rw [if_neg (by omega),if_pos h4];rfl
           refine ⟨by simp [hb,ih.1],?_⟩;simp only [List.flatMap_cons,List.length_append];omega
        ·rw [if_neg h4] at h;by_cases h5:d.toNat=110
         ·rw [if_pos h5] at h;cases e:qGo r with
          | none=>rw [e] at h;cases h
          | some x =>
            obtain ⟨t',n'⟩:=x;rw [e] at h;simp only [Option.map_some,Option.some.injEq,Prod.mk.injEq] at h;obtain ⟨rfl,rfl⟩:=h;have ih:=qGo_text k r t' n' hr' e;have hb:badQ 10=false:=rfl;have he:(escB 10).length=2:=rfl;refine ⟨by simp [hb,ih.1],?_⟩;simp only [List.flatMap_cons,List.length_append];omega
         ·rw [if_neg h5] at h;cases h
     ·rw [if_neg h3] at h;cases e:qGo r with
      | none=>rw [e] at h;cases h
      | some x =>
        obtain ⟨t',n'⟩:=x;rw [e] at h;simp only [Option.map_some,Option.some.injEq,Prod.mk.injEq] at h;obtain ⟨rfl,rfl⟩:=h;have ih:=qGo_text k r t' n' hr e;have hb:badQ c=false:=by unfold badQ;simp;omega
        have he:(escB c).length≤1:=by
         unfold escB;rw [if_neg (by omega),if_neg (by omega)];simp
        refine ⟨by simp [hb,ih.1],?_⟩;simp only [List.flatMap_cons,List.length_append];omega
def writ (k:Nat) (t:List UInt8):List UInt8:=if k=3 then quoteL t else t
theorem run_take {p:UInt8→Bool} (s r:List UInt8) (hs:s.all p=true) (x:UInt8) (hx:p x=false):runL p (s++x::r)=s.length:=by
 rw [run_append s _ hs,run_stop hx];rfl
theorem piece_again {c:UInt8} {s t:List UInt8} {k n:Nat} (h:pieceL (c::s)=(k,t,n,0)) (hk:k≠0) (r:List UInt8) :
  writ k t≠[]∧(writ k t).length≤n∧pieceL (writ k t++32::r)=(k,t,(writ k t).length,0):=by
 rw [piece_cons] at h;by_cases h1:isGap c=true
 ·rw [if_pos h1] at h;simp only [Prod.mk.injEq] at h;omega
 rw [if_neg h1] at h;by_cases h2:c.toNat=35
 ·rw [if_pos h2] at h;simp only [Prod.mk.injEq] at h;omega
 rw [if_neg h2] at h;by_cases h3:isLet c=true
 ·rw [if_pos h3] at h;simp only [Prod.mk.injEq] at h;obtain ⟨rfl,rfl,rfl,-⟩:=h;have hw:isWord c=true:=by simp [isWord,h3]
  have hall:=run_all isWord (c::s);have hlen:((c::s).take (runL isWord (c::s))).length=runL isWord (c::s):=by rw [List.length_take];have:=run_le isWord (c::s);omega
  have hcons:(c::s).take (runL isWord (c::s))=c::s.take (runL isWord s):=by rw [run_cons hw];rfl
  have e:writ 1 ((c::s).take (runL isWord (c::s)))=(c::s).take (runL isWord (c::s)):=rfl;rw [e];refine ⟨by rw [hcons];simp,by omega,?_⟩;have hr:=run_take _ r hall 32 (by decide);have hcat:(c::s).take (runL isWord (c::s))++32::r=c::(s.take (runL isWord s)++32::r):=by rw [hcons];rfl
  rw [hcat] at hr ⊢;rw [piece_cons,if_neg h1,if_neg h2,if_pos h3,hr];have:(c::(s.take (runL isWord s)++32::r)).take ((c::s).take (runL isWord (c::s))).length=(c::s).take (runL isWord (c::s)):=by
   rw [← hcat];exact List.take_left' rfl
  rw [this]
 rw [if_neg h3] at h;by_cases h4:isDig c=true
 ·rw [if_pos h4] at h;unfold numP at h;by_cases g1:1<runL isDig (c::s)∧(c::s).head? = some 48
  ·rw [if_pos g1] at h;simp at h
  rw [if_neg g1] at h;by_cases g2:9223372036854775807<valD 0 ((c::s).take (runL isDig (c::s)))
  ·rw [if_pos g2] at h;simp at h
  rw [if_neg g2] at h;simp only [Prod.mk.injEq] at h;obtain ⟨rfl,rfl,rfl,-⟩:=h;have hall:=run_all isDig (c::s);have hlen:((c::s).take (runL isDig (c::s))).length=runL isDig (c::s):=by rw [List.length_take];have:=run_le isDig (c::s);omega
  have hcons:(c::s).take (runL isDig (c::s))=c::s.take (runL isDig s):=by rw [run_cons h4];rfl
  have e:writ 2 ((c::s).take (runL isDig (c::s)))=(c::s).take (runL isDig (c::s)):=rfl;rw [e];refine ⟨by rw [hcons];simp,by omega,?_⟩;have hr:=run_take _ r hall 32 (by decide);have hcat:(c::s).take (runL isDig (c::s))++32::r=c::(s.take (runL isDig s)++32::r):=by rw [hcons];rfl
  have htake:(c::(s.take (runL isDig s)++32::r)).take ((c::s).take (runL isDig (c::s))).length=(c::s).take (runL isDig (c::s)):=by
   rw [← hcat];exact List.take_left' rfl
  rw [hcat] at hr ⊢;rw [piece_cons,if_neg h1,if_neg h2,if_neg h3,if_pos h4,numP,hr,htake,hlen];have g1':¬ (1<runL isDig (c::s)∧(c::(s.take (runL isDig s)++32::r)).head? = some 48):=g1;rw [if_neg g1',if_neg g2]
 rw [if_neg h4] at h;by_cases h5:c.toNat=34
 ·rw [if_pos h5] at h;cases e:qGo s with
  | none=>rw [e] at h;simp at h
  | some x =>
    rw [e] at h;simp only [Prod.mk.injEq] at h;obtain ⟨rfl,rfl,rfl,-⟩:=h;have hq:=qGo_text s.length s x.1 x.2 (Nat.le_refl _) e;have ew:writ 3 x.1=quoteL x.1:=rfl;rw [ew];refine ⟨by obtain ⟨c,r,e⟩:=quote_ne hq.1;rw [e];simp,by rw [quote_len hq.1];omega,piece_quote _ hq.1⟩
 rw [if_neg h5] at h;by_cases h6:(c.toNat=61∨c.toNat=33)∧s.head? = some 61
 ·rw [if_pos h6] at h;simp only [Prod.mk.injEq] at h;obtain ⟨rfl,rfl,rfl,-⟩:=h;refine ⟨by simp [writ],by simp [writ],?_⟩;show pieceL (c::61::32::r)=_;rw [piece_cons,if_neg h1,if_neg h2,if_neg h3,if_neg h4,if_neg h5,if_pos ⟨h6.1,rfl⟩];rfl
 rw [if_neg h6] at h;by_cases h7:c ∈ signs
 ·rw [if_pos h7] at h;simp only [Prod.mk.injEq] at h;obtain ⟨rfl,rfl,rfl,-⟩:=h;refine ⟨by simp [writ],by simp [writ],?_⟩;show pieceL (c::32::r)=_;rw [piece_cons,if_neg h1,if_neg h2,if_neg h3,if_neg h4,if_neg h5,if_neg (by simp),if_pos h7];rfl
 ·rw [if_neg h7] at h;simp at h
def againL (l:List Tok):List UInt8:=l.flatMap fun t=>writ t.1 t.2.1++[32]
def bare (l:List Tok):List (Nat × List UInt8):=l.map fun t=>(t.1,t.2.1)
theorem lex_again:∀ (k:Nat) (s:List UInt8) (p:Pl),s.length≤k→(lexL p s).2.1=0→(againL (lexL p s).1).length≤2 * s.length∧∀ q,(lexL q (againL (lexL p s).1)).2.1=0∧bare (lexL q (againL (lexL p s).1)).1=bare (lexL p s).1
 | _,[],p,_,_=>⟨by simp [lex_nil,againL],fun q=>⟨rfl,rfl⟩⟩
 | 0,c::r,p,hk,_=>by simp at hk
 | k+1,c::r,p,hk,h=>by
   obtain ⟨kd,t,n,e,hp⟩:∃ kd t n,∃ e,pieceL (c::r)=(kd,t,n,e):=⟨_,_,_,_,rfl⟩;by_cases he:e=0
   ·subst he;have hs:=piece_size hp;rw [lex_piece hp] at h ⊢;obtain ⟨x,hx⟩:∃ x,lexL (advs p ((c::r).take n)) ((c::r).drop n)=x:=⟨_,rfl⟩;have hx0:x.2.1=0:=by
     rw [hx] at h;unfold finT at h;by_cases e:x.2.1=0
     ·exact e
     ·rw [if_neg e] at h;exact h
    have ih:=lex_again k ((c::r).drop n) (advs p ((c::r).take n)) (by simp at hk ⊢;omega) (by rw [hx];exact hx0);rw [hx] at ih ⊢;have hf:finT (if kd=0 then [] else [(kd,t,p)]) x=((if kd=0 then [] else [(kd,t,p)])++x.1,0,(0,0)):=by unfold finT;rw [if_pos hx0]
    rw [hf];have hdl:((c::r).drop n).length=(c::r).length - n:=List.length_drop ..;by_cases hkd:kd=0
    ·rw [if_pos hkd];rw [List.nil_append];refine ⟨?_,fun q=>ih.2 q⟩;have:=ih.1;show (againL x.1).length≤_;omega
    ·rw [if_neg hkd];have ha:againL ([(kd,t,p)]++x.1)=writ kd t++32::againL x.1:=by simp [againL]
     simp only;rw [ha];have hw:=fun r=>piece_again hp hkd r
     refine ⟨?_,fun q=>?_⟩
     ·have:=ih.1;have h2:=(hw []).2.1;rw [hdl] at this;rw [List.length_append,List.length_cons];omega
     ·obtain ⟨w1,-,w3⟩:=hw (againL x.1);rw [lex_piece_app w1 w3,if_neg hkd,lex_gap (by decide)];have ih2:=ih.2 (adv (advs q (writ kd t)) 32);unfold finT;rw [if_pos ih2.1];refine ⟨rfl,?_⟩;show bare ([(kd,t,q)]++_)=bare ([(kd,t,p)]++x.1);unfold bare at ih2 ⊢;rw [List.map_append,List.map_append,ih2.2];rfl
   ·rw [lex_bad hp he] at h;exact absurd h he
theorem take_app_run {p:UInt8→Bool} (s t:List UInt8):(s++t).take (runL p s)=s.take (runL p s):=by
 rw [List.take_append_of_le_length (run_le p s)]
theorem qGo_app:∀ (k:Nat) (s u t:List UInt8) (n:Nat),s.length≤k→qGo s=some (t,n)→qGo (s++u)=some (t,n)
 | _,[],_,t,n,_,h=>by simp [qGo] at h
 | 0,c::r,_,t,n,hk,_=>by simp at hk
 | k+1,c::r,u,t,n,hk,h=>by
   have hr:r.length≤k:=by simpa using hk
   show qGo (c::(r++u))=_;rw [qGo_cons] at h ⊢;by_cases h1:c.toNat=34
   ·rw [if_pos h1] at h ⊢;exact h
   ·rw [if_neg h1] at h ⊢;by_cases h2:c.toNat<32∨c.toNat=127
    ·rw [if_pos h2] at h;cases h
    ·rw [if_neg h2] at h ⊢;by_cases h3:c.toNat=92
     ·rw [if_pos h3] at h ⊢;cases r with
      | nil=>cases h
      | cons d r =>
        have hr':r.length≤k:=by simp at hr;omega
        simp only [List.cons_append];simp only at h;by_cases h4:d.toNat=34∨d.toNat=92
        ·rw [if_pos h4] at h ⊢;cases e:qGo r with
         | none=>rw [e] at h;cases h
         | some x=>rw [e] at h;rw [qGo_app k r u x.1 x.2 hr' e];exact h
        ·rw [if_neg h4] at h ⊢;by_cases h5:d.toNat=110
         ·rw [if_pos h5] at h ⊢;cases e:qGo r with
          | none=>rw [e] at h;cases h
          | some x=>rw [e] at h;rw [qGo_app k r u x.1 x.2 hr' e];exact h
         ·rw [if_neg h5] at h;cases h
     ·rw [if_neg h3] at h ⊢;cases e:qGo r with
      | none=>rw [e] at h;cases h
      | some x=>rw [e] at h;rw [qGo_app k r u x.1 x.2 hr e];exact h
theorem piece_end {c x:UInt8} {r:List UInt8} (t:List UInt8) (hx:x=10∨x=35) (hc:c.toNat≠35) (hq:c.toNat=34→qGo (r++x::t)=qGo r):pieceL (c::(r++x::t))=pieceL (c::r):=by
 have hw:isWord x=false:=by rcases hx with rfl | rfl <;> decide
 have hd:isDig x=false:=by rcases hx with rfl | rfl <;> decide
 have e1:runL isWord (c::(r++x::t))=runL isWord (c::r):=run_end (c::r) x t hw;have e2:runL isDig (c::(r++x::t))=runL isDig (c::r):=run_end (c::r) x t hd;have f1:(c::(r++x::t)).take (runL isWord (c::r))=(c::r).take (runL isWord (c::r)):=take_app_run (c::r) (x::t);have f2:(c::(r++x::t)).take (runL isDig (c::r))=(c::r).take (runL isDig (c::r)):=take_app_run (c::r) (x::t);have g:(r++x::t).head? = some 61 ↔ r.head? = some 61:=by
  cases r with
  | nil=>simp;rcases hx with rfl | rfl <;> decide
  | cons d r=>simp
 rw [piece_cons,piece_cons];by_cases h1:isGap c=true
 ·rw [if_pos h1,if_pos h1]
 rw [if_neg h1,if_neg h1,if_neg hc,if_neg hc];by_cases h3:isLet c=true
 ·rw [if_pos h3,if_pos h3,e1,f1]
 rw [if_neg h3,if_neg h3];by_cases h4:isDig c=true
 ·rw [if_pos h4,if_pos h4];unfold numP;rw [e2,f2];rfl
 rw [if_neg h4,if_neg h4];by_cases h5:c.toNat=34
 ·rw [if_pos h5,if_pos h5,hq h5]
 rw [if_neg h5,if_neg h5];simp only [g]
theorem piece_ok_q {c:UInt8} {r t:List UInt8} {k n:Nat} (h:pieceL (c::r)=(k,t,n,0)) (hc:c.toNat=34) (u:List UInt8):qGo (r++u)=qGo r:=by
 cases e2:qGo r with
 | some x=>rw [qGo_app r.length r u x.1 x.2 (Nat.le_refl _) e2]
 | none =>
   rw [piece_cons] at h;have h1:¬ isGap c=true:=by unfold isGap;simp [hc]
   have h3:¬ isLet c=true:=by unfold isLet;simp [hc]
   have h4:¬ isDig c=true:=by unfold isDig;simp [hc]
   rw [if_neg h1,if_neg (by omega),if_neg h3,if_neg h4,if_pos hc,e2] at h;simp at h
theorem piece_good {c:UInt8} {r t:List UInt8} {k n:Nat} (u:List UInt8) (h:pieceL (c::r)=(k,t,n,0)):pieceL (c::(r++10::u))=(k,t,n,0):=by
 by_cases hc:c.toNat=35
 ·rw [piece_cons] at h ⊢;have h1:¬ isGap c=true:=by unfold isGap;simp [hc]
  rw [if_neg h1,if_pos hc] at h ⊢;rw [← h];have:=run_end (p:=notLine) (c::r) 10 u (by decide);show (0,[],runL notLine (c::r++10::u),0)=_;rw [this]
 ·rw [piece_end u (.inl rfl) hc (fun hq=>piece_ok_q h hq _)];exact h
theorem lex_parts:∀ (k:Nat) (s u:List UInt8) (p:Pl),s.length≤k→(lexL p s).2.1=0→lexL p (s++10::u)=finT (lexL p s).1 (lexL (advs p (s++[10])) u)
 | _,[],u,p,_,_=>by
   show lexL p (10::u)=finT [] _;rw [lex_gap (by decide),finT_nil];rfl
 | 0,c::r,_,_,hk,_=>by simp at hk
 | k+1,c::r,u,p,hk,h=>by
   obtain ⟨kd,t,n,e,hp⟩:∃ kd t n,∃ e,pieceL (c::r)=(kd,t,n,e):=⟨_,_,_,_,rfl⟩;by_cases he:e=0
   ·subst he;have hs:=piece_size hp;have hp2:=piece_good u hp;rw [lex_piece hp] at h;show lexL p (c::(r++10::u))=_;rw [lex_piece hp,lex_piece hp2];have e1:(c::(r++10::u)).take n=(c::r).take n:=by
     show ((c::r)++10::u).take n=_;rw [List.take_append_of_le_length hs.2.1]
    have e2:(c::(r++10::u)).drop n=(c::r).drop n++10::u:=by
     show ((c::r)++10::u).drop n=_;rw [List.drop_append_of_le_length hs.2.1]
    rw [e1,e2];have h0:(lexL (advs p ((c::r).take n)) ((c::r).drop n)).2.1=0:=by
     unfold finT at h;by_cases e0:(lexL (advs p ((c::r).take n)) ((c::r).drop n)).2.1=0
     ·exact e0
     ·rw [if_neg e0] at h;exact h
    rw [lex_parts k ((c::r).drop n) u _ (by simp at hk ⊢;omega) h0,finT_finT];have e3:advs (advs p ((c::r).take n)) ((c::r).drop n++[10])=advs p (c::r++[10]):=by
     rw [← advs_append,← List.append_assoc,List.take_append_drop]
    rw [e3];congr 1
    unfold finT;rw [if_pos h0]
   ·rw [lex_bad hp he] at h;exact absurd h he
theorem run_lineL (s:List UInt8) (h:s.all notLine=true) (u:List UInt8):runL notLine (s++10::u)=s.length:=by
 rw [run_append s _ h,run_stop (by decide)];rfl
theorem lex_remark {rem:List UInt8} (hr:rem.all notLine=true) (u:List UInt8) (p:Pl):lexL p (35::(rem++10::u))=lexL (advs p (35::rem++[10])) u:=by
 have hn:runL notLine (35::(rem++10::u))=(35::rem).length:=run_lineL (35::rem) (by simp [hr,notLine]) u;have hp:pieceL (35::rem++10::u)=(0,[],(35::rem).length,0):=by
  show pieceL (35::(rem++10::u))=_;rw [piece_cons,if_neg (by decide),if_pos (by decide),hn]
 show lexL p (35::rem++10::u)=_;rw [lex_piece_app (by simp) hp,if_pos rfl,finT_nil,lex_gap (by decide)];rw [advs_append];rfl
def downT (d:Nat) (l:List Tok):List Tok:=l.map fun t=>(t.1,t.2.1,(t.2.2.1+d,t.2.2.2))
theorem advs_down (d:Nat):∀ (s:List UInt8) (p:Pl),advs (p.1+d,p.2) s=((advs p s).1+d,(advs p s).2)
 | [],p=>rfl
 | c::s,p=>by
   rw [advs_cons,advs_cons];have e:adv (p.1+d,p.2) c=((adv p c).1+d,(adv p c).2):=by
    unfold adv;split
    ·simp;omega
    ·rfl
   rw [e,advs_down d s (adv p c)]
theorem lex_down (d:Nat):∀ (k:Nat) (s:List UInt8) (p:Pl),s.length≤k→(lexL (p.1+d,p.2) s).2.1=(lexL p s).2.1∧(lexL (p.1+d,p.2) s).1=downT d (lexL p s).1
 | _,[],_,_=>⟨rfl,rfl⟩
 | 0,c::r,_,hk=>by simp at hk
 | k+1,c::r,p,hk=>by
   obtain ⟨kd,t,n,e,hp⟩:∃ kd t n,∃ e,pieceL (c::r)=(kd,t,n,e):=⟨_,_,_,_,rfl⟩;by_cases he:e=0
   ·subst he;have hs:=piece_size hp;rw [lex_piece hp,lex_piece hp,advs_down];have ih:=lex_down d k ((c::r).drop n) (advs p ((c::r).take n)) (by simp at hk ⊢;omega);unfold finT;by_cases e0:(lexL (advs p ((c::r).take n)) ((c::r).drop n)).2.1=0
    ·rw [if_pos (by rw [ih.1];exact e0),if_pos e0];refine ⟨rfl,?_⟩;show (if kd=0 then [] else [(kd,t,(p.1+d,p.2))])++_=downT d ((if kd=0 then [] else [(kd,t,p)])++_);rw [ih.2];unfold downT;rw [List.map_append];congr 1
     split <;> rfl
    ·rw [if_neg (by rw [ih.1];exact e0),if_neg e0];exact ⟨ih.1,rfl⟩
   ·rw [lex_bad hp he,lex_bad hp he];exact ⟨rfl,rfl⟩
theorem lex_short:∀ (k:Nat) (s:List UInt8) (p:Pl),s.length≤k→∀ t ∈ (lexL p s).1,t.2.1.length≤s.length
 | _,[],_,_,t,h=>by rw [lex_nil] at h;cases h
 | 0,c::r,_,hk,_,_=>by simp at hk
 | k+1,c::r,p,hk,t,h=>by
   obtain ⟨kd,x,n,e,hp⟩:∃ kd x n,∃ e,pieceL (c::r)=(kd,x,n,e):=⟨_,_,_,_,rfl⟩;by_cases he:e=0
   ·subst he;have hs:=piece_size hp;rw [lex_piece hp] at h;unfold finT at h;split at h
    ·rcases List.mem_append.1 h with h | h
     ·split at h
      ·cases h
      ·obtain rfl:=List.mem_singleton.1 h;show x.length≤_;omega
     ·have:=lex_short k ((c::r).drop n) _ (by simp at hk ⊢;omega) t h;have hd:((c::r).drop n).length=(c::r).length - n:=List.length_drop ..;omega
    ·cases h
   ·rw [lex_bad hp he] at h;cases h
theorem advs_feed (s:List UInt8) (p:Pl):advs p (s++[10])=((advs p s).1+1,1):=by
 rw [advs_append,advs_cons];rfl
theorem parts_of (a b:List UInt8) (x:Lexed) (hb:(lexL (1,1) b).2.1=0) (hx:x=finT (lexL (1,1) a).1 (lexL ((advs (1,1) a).1+1,1) b)) :
  x=((lexL (1,1) a).1++downT (advs (1,1) a).1 (lexL (1,1) b).1,0,(0,0)):=by
 have hd:=lex_down (advs (1,1) a).1 b.length b (1,1) (Nat.le_refl _);rw [show ((1,1):Pl).1+(advs (1,1) a).1=(advs (1,1) a).1+1 from Nat.add_comm _ _] at hd;rw [hx];unfold finT;rw [if_pos (hd.1.trans hb),hd.2]
theorem parts_plain (a b:List UInt8) (ha:(lexL (1,1) a).2.1=0) (hb:(lexL (1,1) b).2.1=0) :
  lexL (1,1) (a++10::b)=((lexL (1,1) a).1++downT (advs (1,1) a).1 (lexL (1,1) b).1,0,(0,0)):=by
 refine parts_of a b _ hb ?_;rw [lex_parts a.length a b (1,1) (Nat.le_refl _) ha,advs_feed]
theorem all_good {s:List UInt8} (h:s.length≤65536):allT s=lexL (1,1) s:=by unfold allT;rw [if_neg (by omega)]
theorem down_len (d:Nat) (l:List Tok):(downT d l).length=l.length:=by unfold downT;simp
inductive TokK:Nat→List UInt8→Prop where
 | word {c:UInt8} {s:List UInt8}:isLet c=true→(c::s).all isWord=true→TokK 1 (c::s)
 | num {c:UInt8} {s:List UInt8}:isDig c=true→(c::s).all isDig=true→¬ (1<(c::s).length∧c=48)→valD 0 (c::s)≤9223372036854775807→TokK 2 (c::s)
 | text {s:List UInt8}:s.any badQ=false→TokK 3 s
 | sign {c:UInt8}:c ∈ signs→TokK 4 [c]
 | two {c:UInt8}:c.toNat=61∨c.toNat=33→TokK 4 [c,61]
theorem let_facts {c:UInt8} (h:isLet c=true):isGap c=false∧c.toNat≠35∧isWord c=true∧c.toNat≠61:=by
 simp only [isLet,isGap,isWord,isDig,Bool.or_eq_true,Bool.and_eq_true,decide_eq_true_eq,beq_iff_eq,Bool.or_eq_false_iff,beq_eq_false_iff_ne,ne_eq] at *;omega
theorem dig_facts {c:UInt8} (h:isDig c=true):isGap c=false∧c.toNat≠35∧isLet c=false∧isWord c=true∧c.toNat≠61:=by
 refine ⟨?_,?_,?_,by simp [isWord,h],?_⟩
 all_goals
  simp only [isLet,isGap,isDig,Bool.and_eq_true,decide_eq_true_eq,Bool.or_eq_false_iff,Bool.and_eq_false_iff,decide_eq_false_iff_not,beq_eq_false_iff_ne,ne_eq] at *;omega
theorem gap_facts {c:UInt8} (h:isGap c=true):isWord c=false∧c.toNat≠61:=by
 simp only [isLet,isGap,isWord,isDig,Bool.or_eq_true,beq_iff_eq,Bool.or_eq_false_iff,Bool.and_eq_false_iff,decide_eq_false_iff_not,beq_eq_false_iff_ne,ne_eq] at *;omega
theorem sign_facts {c:UInt8} (h:c ∈ signs):isGap c=false∧c.toNat≠35∧isLet c=false∧isDig c=false∧c.toNat≠34∧isWord c=false:=by
 simp only [signs,List.mem_cons,List.not_mem_nil,or_false] at h;rcases h with rfl | rfl | rfl | rfl | rfl | rfl | rfl | rfl | rfl | rfl | rfl <;> decide
theorem two_facts {c:UInt8} (h:c.toNat=61∨c.toNat=33):isGap c=false∧c.toNat≠35∧isLet c=false∧isDig c=false∧c.toNat≠34:=by
 have:c=61∨c=33:=by rcases h with h | h;exact .inl (u8_eq h);exact .inr (u8_eq h)
 rcases this with rfl | rfl <;> decide
def Stop (r:List UInt8):Prop:=r=[]∨∃ x u,r=x::u∧isWord x=false∧x.toNat≠61
theorem run_stops {p:UInt8→Bool} (hp:∀ c,isWord c=false→p c=false) {s r:List UInt8} (hs:s.all p=true) (hr:Stop r):runL p (s++r)=s.length:=by
 rcases hr with rfl | ⟨x,u,rfl,hx,_⟩
 ·rw [List.append_nil];exact run_full hs
 ·exact run_take s u hs x (hp x hx)
theorem dig_word (c:UInt8) (h:isWord c=false):isDig c=false:=by simp [isWord] at h;exact h.2
theorem piece_tok {k:Nat} {t:List UInt8} (h:TokK k t) {r:List UInt8} (hr:Stop r):pieceL (writ k t++r)=(k,t,(writ k t).length,0):=by
 cases h with
 | @word c s h1 h2 =>
   have f:=let_facts h1;have hrun:=run_stops (p:=isWord) (fun c h=>h) h2 hr;show pieceL (c::(s++r))=_;rw [show (c::s)++r=c::(s++r) from rfl] at hrun;rw [piece_cons,if_neg (by rw [f.1];simp),if_neg f.2.1,if_pos h1,hrun,show c::(s++r)=(c::s)++r from rfl,List.take_left' rfl];rfl
 | @num c s h1 h2 h3 h4 =>
   have f:=dig_facts h1;have hrun:=run_stops (p:=isDig) dig_word h2 hr;show pieceL (c::(s++r))=_;rw [piece_cons,if_neg (by rw [f.1];simp),if_neg f.2.1,if_neg (by rw [f.2.2.1];simp),if_pos h1,show c::(s++r)=(c::s)++r from rfl];unfold numP;rw [hrun,List.take_left' rfl,if_neg (by rintro ⟨a,b⟩;exact h3 ⟨a,by simpa using b⟩),if_neg (by omega)];rfl
 | text h=>exact piece_quote r h
 | @sign c h =>
   have f:=sign_facts h;show pieceL (c::r)=_;rw [piece_cons,if_neg (by rw [f.1];simp),if_neg f.2.1,if_neg (by rw [f.2.2.1];simp),if_neg (by rw [f.2.2.2.1];simp),if_neg f.2.2.2.2.1,if_neg ?_,if_pos h]
   ·rfl
   ·rintro ⟨_,h2⟩;rcases hr with rfl | ⟨x,u,rfl,_,hx⟩
    ·simp at h2
    ·simp at h2;subst h2;exact hx rfl
 | @two c h =>
   have f:=two_facts h;show pieceL (c::61::r)=_;rw [piece_cons,if_neg (by rw [f.1];simp),if_neg f.2.1,if_neg (by rw [f.2.2.1];simp),if_neg (by rw [f.2.2.2.1];simp),if_neg f.2.2.2.2,if_pos ⟨h,rfl⟩];rfl
theorem piece_soft {c:UInt8} (h:c ∈ signs) (h2:c.toNat≠61) (r:List UInt8):pieceL (writ 4 [c]++r)=(4,[c],1,0):=by
 have f:=sign_facts h;show pieceL (c::r)=_;rw [piece_cons,if_neg (by rw [f.1];simp),if_neg f.2.1,if_neg (by rw [f.2.2.1];simp),if_neg (by rw [f.2.2.2.1];simp),if_neg f.2.2.2.2.1,if_neg ?_,if_pos h];rintro ⟨h3 | h3,_⟩
 ·exact h2 h3
 ·simp only [signs,List.mem_cons,List.not_mem_nil,or_false] at h;rcases h with rfl | rfl | rfl | rfl | rfl | rfl | rfl | rfl | rfl | rfl | rfl <;> exact absurd h3 (by decide)
theorem tok_writ {k:Nat} {t:List UInt8} (h:TokK k t):writ k t≠[]:=by
 cases h with
 | text h=>obtain ⟨c,r,e⟩:=quote_ne h;show quoteL _≠[];rw [e];simp
 | word _ _=>exact List.cons_ne_nil _ _
 | num _ _ _ _=>exact List.cons_ne_nil _ _
 | sign _=>exact List.cons_ne_nil _ _
 | two _=>exact List.cons_ne_nil _ _
theorem piece_is {c:UInt8} {s t:List UInt8} {k n:Nat} (h:pieceL (c::s)=(k,t,n,0)) (hk:k≠0):TokK k t:=by
 rw [piece_cons] at h;by_cases h1:isGap c=true
 ·rw [if_pos h1] at h;simp only [Prod.mk.injEq] at h;omega
 rw [if_neg h1] at h;by_cases h2:c.toNat=35
 ·rw [if_pos h2] at h;simp only [Prod.mk.injEq] at h;omega
 rw [if_neg h2] at h;by_cases h3:isLet c=true
 ·rw [if_pos h3] at h;simp only [Prod.mk.injEq] at h;obtain ⟨rfl,rfl,rfl,-⟩:=h;have hw:isWord c=true:=by simp [isWord,h3]
  have hall:=run_all isWord (c::s);have hcons:(c::s).take (runL isWord (c::s))=c::s.take (runL isWord s):=by rw [run_cons hw];rfl
  rw [hcons] at hall ⊢;exact .word h3 hall
 rw [if_neg h3] at h;by_cases h4:isDig c=true
 ·rw [if_pos h4] at h;unfold numP at h;by_cases g1:1<runL isDig (c::s)∧(c::s).head? = some 48
  ·rw [if_pos g1] at h;simp at h
  rw [if_neg g1] at h;by_cases g2:9223372036854775807<valD 0 ((c::s).take (runL isDig (c::s)))
  ·rw [if_pos g2] at h;simp at h
  rw [if_neg g2] at h;simp only [Prod.mk.injEq] at h;obtain ⟨rfl,rfl,rfl,-⟩:=h;have hall:=run_all isDig (c::s);have hlen:((c::s).take (runL isDig (c::s))).length=runL isDig (c::s):=by rw [List.length_take];have:=run_le isDig (c::s);omega
  have hcons:(c::s).take (runL isDig (c::s))=c::s.take (runL isDig s):=by rw [run_cons h4];rfl
  rw [← hlen] at g1;rw [hcons] at hall g1 g2 ⊢;exact .num h4 hall (fun ⟨a,b⟩=>g1 ⟨a,by subst b;rfl⟩) (by omega)
 rw [if_neg h4] at h;by_cases h5:c.toNat=34
 ·rw [if_pos h5] at h;cases e:qGo s with
  | none=>rw [e] at h;simp at h
  | some x =>
    rw [e] at h;simp only [Prod.mk.injEq] at h;obtain ⟨rfl,rfl,rfl,-⟩:=h;exact .text (qGo_text s.length s x.1 x.2 (Nat.le_refl _) e).1
 rw [if_neg h5] at h;by_cases h6:(c.toNat=61∨c.toNat=33)∧s.head? = some 61
 ·rw [if_pos h6] at h;simp only [Prod.mk.injEq] at h;obtain ⟨rfl,rfl,rfl,-⟩:=h;exact .two h6.1
 rw [if_neg h6] at h;by_cases h7:c ∈ signs
 ·rw [if_pos h7] at h;simp only [Prod.mk.injEq] at h;obtain ⟨rfl,rfl,rfl,-⟩:=h;exact .sign h7
 ·rw [if_neg h7] at h;simp at h
theorem lex_toks:∀ (k:Nat) (s:List UInt8) (p:Pl),s.length≤k→∀ t ∈ (lexL p s).1,TokK t.1 t.2.1
 | _,[],p,_,t,ht=>by rw [lex_nil] at ht;cases ht
 | 0,c::r,p,hk,_,_=>by simp at hk
 | k+1,c::r,p,hk,t,ht=>by
   obtain ⟨kd,tx,n,e,hp⟩:∃ kd t n,∃ e,pieceL (c::r)=(kd,t,n,e):=⟨_,_,_,_,rfl⟩;by_cases he:e=0
   ·subst he;have hs:=piece_size hp;rw [lex_piece hp] at ht;unfold finT at ht;split at ht
    ·rcases List.mem_append.1 ht with h | h
     ·split at h
      ·cases h
      ·rename_i hk0;obtain rfl:=List.mem_singleton.1 h;exact piece_is hp hk0
     ·exact lex_toks k _ _ (by simp at hk ⊢;omega) t h
    ·cases ht
   ·rw [lex_bad hp he] at ht;cases ht
abbrev Piece:=Nat × List UInt8
def render (l:List Piece):List UInt8:=l.flatMap fun p=>writ p.1 p.2
def toks (l:List Piece):List (Nat × List UInt8):=l.filter fun p=>p.1 != 0
theorem render_nil:render []=[]:=rfl
theorem render_cons (p:Piece) (l:List Piece):render (p::l)=writ p.1 p.2++render l:=rfl
theorem render_app (a b:List Piece):render (a++b)=render a++render b:=by unfold render;rw [List.flatMap_append]
theorem toks_app (a b:List Piece):toks (a++b)=toks a++toks b:=by unfold toks;rw [List.filter_append]
def GoodP (p:Piece):Prop:=(p.1=0∧p.2≠[]∧p.2.all isGap=true)∨(p.1≠0∧TokK p.1 p.2)
def softP (p:Piece):Bool:=p.1 == 0 || (p.1 == 4 && match p.2 with | [c]=>c.toNat != 61 | _=>false)
def adjB:List Piece→Bool
 | []=>true
 | [_]=>true
 | a::b::r=>(softP a || softP b) && adjB (b::r)
structure Gd (l:List Piece):Prop where
 good:∀ p ∈ l,GoodP p
 adj:adjB l=true
theorem soft_head {p:Piece} (hg:GoodP p) (hs:softP p=true) (r:List UInt8):Stop (writ p.1 p.2++r):=by
 obtain ⟨k,t⟩:=p;rcases hg with ⟨rfl,hne,ha⟩ | ⟨hk,h⟩
 ·cases t with
  | nil=>exact absurd rfl hne
  | cons c t =>
    simp only [List.all_cons,Bool.and_eq_true] at ha;have f:=gap_facts ha.1;exact .inr ⟨c,t++r,rfl,f.1,f.2⟩
 ·simp only [softP,Bool.or_eq_true,Bool.and_eq_true,beq_iff_eq] at hs;rcases hs with h0 | ⟨rfl,h0⟩
  ·exact absurd h0 hk
  ·cases h with
   | @sign c hc=>exact .inr ⟨c,r,rfl,(sign_facts hc).2.2.2.2.2,by simpa using h0⟩
   | two _=>simp at h0
theorem lex_gap_run:∀ (g:List UInt8) (r:List UInt8) (p:Pl),g.all isGap=true→lexL p (g++r)=lexL (advs p g) r
 | [],_,_,_=>rfl
 | c::g,r,p,h=>by
   simp only [List.all_cons,Bool.and_eq_true] at h;show lexL p (c::(g++r))=_;rw [lex_gap h.1,lex_gap_run g r _ h.2];rfl
theorem bare_app (a b:List Tok):bare (a++b)=bare a++bare b:=by unfold bare;rw [List.map_append]
theorem lex_render:∀ (l:List Piece) (p:Pl),Gd l→(lexL p (render l)).2.1=0∧bare (lexL p (render l)).1=toks l
 | [],p,_=>⟨rfl,rfl⟩
 | (k,t)::l,p,h=>by
   have hg:=h.good _ (List.mem_cons_self ..);have hl:Gd l:=⟨fun q hq=>h.good q (List.mem_cons_of_mem _ hq),by
    have:=h.adj;cases l with
    | nil=>rfl
    | cons b r=>unfold adjB at this;simp only [Bool.and_eq_true] at this;exact this.2⟩
   have ih:=fun q=>lex_render l q hl
   rw [render_cons];rcases hg with ⟨hk,hne,ha⟩ | ⟨hk,ht⟩
   ·simp only at hk hne ha;subst hk;have e:writ 0 t=t:=rfl;rw [e,lex_gap_run t _ _ ha];exact ih _
   ·simp only at hk ht;have hp:pieceL (writ k t++render l)=(k,t,(writ k t).length,0):=by
     cases l with
     | nil=>exact piece_tok ht (.inl rfl)
     | cons b r =>
       have hadj:=h.adj;unfold adjB at hadj;simp only [Bool.and_eq_true,Bool.or_eq_true] at hadj;rcases hadj.1 with hs | hs
       ·simp only [softP,Bool.or_eq_true,Bool.and_eq_true,beq_iff_eq] at hs;rcases hs with h0 | ⟨rfl,h0⟩
        ·exact absurd h0 hk
        ·cases ht with
         | @sign c hc=>exact piece_soft hc (by simpa using h0) _
         | two _=>simp at h0
       ·rw [render_cons];exact piece_tok ht (soft_head (hl.good b (List.mem_cons_self ..)) hs _)
    rw [lex_piece_app (tok_writ ht) hp,if_neg hk];obtain ⟨h1,h2⟩:=ih (advs p (writ k t));refine ⟨?_,?_⟩
    ·unfold finT;rw [if_pos h1]
    ·unfold finT;rw [if_pos h1];show bare ([_]++_)=_;rw [bare_app,h2];unfold toks;rw [List.filter_cons_of_pos (by simpa using hk)];rfl
theorem Gd.nil:Gd []:=⟨fun _ h=>(by cases h),rfl⟩
theorem Gd.one {p:Piece} (h:GoodP p):Gd [p]:=⟨fun q hq=>by obtain rfl:=List.mem_singleton.1 hq;exact h,rfl⟩
theorem Gd.cons {p:Piece} {l:List Piece} (hp:GoodP p) (hs:softP p=true) (h:Gd l):Gd (p::l):=by
 refine ⟨fun q hq=>?_,?_⟩
 ·rcases List.mem_cons.1 hq with rfl | hq
  ·exact hp
  ·exact h.good q hq
 ·cases l with
  | nil=>rfl
  | cons b r=>unfold adjB;rw [hs,h.adj];rfl
theorem Gd.hard {p q:Piece} {l:List Piece} (hp:GoodP p) (hs:softP q=true) (h:Gd (q::l)):Gd (p::q::l):=by
 refine ⟨fun x hx=>?_,?_⟩
 ·rcases List.mem_cons.1 hx with rfl | hx
  ·exact hp
  ·exact h.good x hx
 ·unfold adjB;rw [hs,h.adj];simp
theorem Gd.mid {a b:List Piece} {q:Piece} (ha:Gd a) (hs:softP q=true) (h:Gd (q::b)):Gd (a++q::b):=by
 induction a with
 | nil=>exact h
 | cons x a ih =>
   have ha':Gd a:=⟨fun q hq=>ha.good q (List.mem_cons_of_mem _ hq),by
    have:=ha.adj;cases a with
    | nil=>rfl
    | cons b r=>unfold adjB at this;simp only [Bool.and_eq_true] at this;exact this.2⟩
   have ih:=ih ha';have hx:=ha.good x (List.mem_cons_self ..);refine ⟨fun y hy=>?_,?_⟩
   ·rcases List.mem_cons.1 hy with rfl | hy
    ·exact hx
    ·exact ih.good y hy
   ·cases a with
    | nil=>show adjB (x::q::b)=true;unfold adjB;rw [hs,h.adj];simp
    | cons y a =>
      have hadj:=ha.adj;unfold adjB at hadj;simp only [Bool.and_eq_true] at hadj;show adjB (x::y::(a++q::b))=true;unfold adjB;have:=ih.adj;rw [hadj.1,show y::(a++q::b)=(y::a)++q::b from rfl,this];rfl
def oneT (k:Nat) (s:List UInt8):Bool:=decide ((allT s).2.1=0) && decide (bare (allT s).1=[(k,s)])
theorem oneT_tok {k:Nat} {s:List UInt8} (h:oneT k s=true):TokK k s:=by
 unfold oneT at h;simp only [Bool.and_eq_true,decide_eq_true_eq] at h;obtain ⟨h1,h2⟩:=h;unfold allT at h1 h2;split at h1
 ·cases h1
 ·rename_i hl;rw [if_neg hl] at h2;have ht:=lex_toks s.length s (1,1) (Nat.le_refl _);generalize (lexL (1,1) s).1=L at h2 ht;cases L with
  | nil=>simp [bare] at h2
  | cons t r =>
    simp [bare] at h2;have:=ht t (List.mem_cons_self ..);rw [h2.1.1,h2.1.2] at this;exact this
theorem tok_oneT {k:Nat} {s:List UInt8} (h:TokK k s) (hk:k=1∨k=2) (hl:s.length≤65536):oneT k s=true:=by
 have hk0:k≠0:=by omega
 have hw:writ k s=s:=by unfold writ;rw [if_neg (by omega)]
 have hr:render [(k,s)]=s:=by rw [render_cons,render_nil,List.append_nil];exact hw
 obtain ⟨h1,h2⟩:=lex_render [(k,s)] (1,1) (Gd.one (.inr ⟨hk0,h⟩));rw [hr] at h1 h2;unfold oneT allT;rw [if_neg (by omega),h1,h2];unfold toks;rw [List.filter_cons_of_pos (by simpa using hk0)];simp
inductive Tr where
 | mk (k:Int) (t:List UInt8) (kids:List Tr)
abbrev Top:=Int × List UInt8
def Tr.top:Tr→Top | .mk k t _=>(k,t)
def Tr.kids:Tr→List Tr | .mk _ _ l=>l
def tops (l:List Tr):List Top:=l.map Tr.top
theorem tops_nil:tops []=[]:=rfl
theorem tops_cons (x:Tr) (l:List Tr):tops (x::l)=x.top::tops l:=rfl
mutual
def Nd.tr:Nd→Tr
 | .mk k t _ l=>.mk k t (Nd.trs l)
def Nd.trs:List Nd→List Tr
 | []=>[]
 | x::r=>x.tr::Nd.trs r
end
theorem trs_nil:Nd.trs []=[]:=by rw [Nd.trs]
theorem trs_cons (x:Nd) (r:List Nd):Nd.trs (x::r)=x.tr::Nd.trs r:=by rw [Nd.trs]
theorem tr_mk (k:Nat) (t:List UInt8) (p:Pl) (l:List Nd):(Nd.mk k t p l).tr=.mk k t (Nd.trs l):=by rw [Nd.tr]
theorem trs_app:∀ a b:List Nd,Nd.trs (a++b)=Nd.trs a++Nd.trs b
 | [],_=>by rw [trs_nil];rfl
 | x::r,b=>by rw [List.cons_append,trs_cons,trs_cons,trs_app r b];rfl
def nameS (s:List UInt8):Bool:=oneT 1 s && !reservedB s
def opB (s:List UInt8):Bool:=s == [61,61] || s == [33,61] || s == wIn || s == [43]
def isE (k:Int):Bool:=k == 9 || k == 10 || k == 11 || k == 12 || k == 13 || k == 14 || k == 16
def isS (k:Int):Bool:=k == 2 || k == 3 || k == 4 || k == 5 || k == 6
def dictB:List Top→Bool
 | []=>true
 | [_]=>false
 | a::b::r=>a.1 == 11 && isE a.1 && isE b.1 && dictB r
def ruleB:List Top→Bool
 | []=>false
 | [a]=>a.1 == 8
 | a::b::r=>a.1 == 7 && ruleB (b::r)
def paramB:List Top→Bool
 | [a]=>a.1 == 9 && typeB a.2
 | [a,b]=>a.1 == 9 && typeB a.2 && isE b.1
 | _=>false
def forB:List Top→Bool
 | [a,b]=>isE a.1 && b.1 == 8
 | _=>false
def ifB:List Top→Bool
 | [a,b]=>isE a.1 && b.1 == 8
 | [a,b,c]=>isE a.1 && b.1 == 8 && c.1 == 8
 | _=>false
def oneE:List Top→Bool
 | [a]=>isE a.1
 | _=>false
def twoE:List Top→Bool
 | [a,b]=>isE a.1 && isE b.1
 | _=>false
def shape (k:Int) (t:List UInt8) (l:List Top):Bool :=
 if k=9 then l.isEmpty && nameS t
 else if k=10 then l.isEmpty && oneT 2 t
 else if k=11 then l.isEmpty && !(t.any badQ)
 else if k=12 then t.isEmpty && l.all (fun x=>isE x.1)
 else if k=13 then t.isEmpty && dictB l
 else if k=14 then nameS t && l.all (fun x=>x.1 == 15)
 else if k=16 then (if t=wNot then oneE l else opB t && twoE l)
 else if k=15 then (t.isEmpty || nameS t) && oneE l
 else if k=7 then nameS t && paramB l
 else if k=8 then t.isEmpty && l.all (fun x=>isS x.1)
 else if k=2 then nameS t && oneE l
 else if k=3 then t.isEmpty && (match l with | [a]=>a.1 == 14 | _=>false)
 else if k=4 then nameS t && forB l
 else if k=5 then t.isEmpty && ifB l
 else if k=6 then nameS t && ruleB l
 else false
mutual
def okT:Tr→Bool
 | .mk k t l=>shape k t (tops l) && okTs l
def okTs:List Tr→Bool
 | []=>true
 | x::r=>okT x && okTs r
end
theorem okT_mk (k:Int) (t:List UInt8) (l:List Tr):okT (.mk k t l)=(shape k t (tops l) && okTs l):=by rw [okT]
theorem okTs_nil:okTs []=true:=by rw [okTs]
theorem okTs_cons (x:Tr) (r:List Tr):okTs (x::r)=(okT x && okTs r):=by rw [okTs]
def okFile:Tr→Bool
 | .mk k t l=>decide (k=1) && t.isEmpty && (tops l).all (fun x=>isS x.1) && okTs l
def sg (c:UInt8):Piece:=(4,[c])
def sp:Piece:=(0,[32])
def nl:Piece:=(0,[10])
def tabsP (n:Nat):List Piece:=if n=0 then [] else [(0,List.replicate n 9)]
def commaJ:List (List Piece)→List Piece
 | []=>[]
 | [a]=>a
 | a::b::r=>a++sg 44::sp::commaJ (b::r)
def dictJ:List (List Piece)→List Piece
 | a::b::c::r=>a++sg 58::sp::(b++sg 44::sp::dictJ (c::r))
 | [a,b]=>a++sg 58::sp::b
 | [a]=>a
 | []=>[]
def linesJ (n:Nat):List (List Piece)→List Piece
 | []=>[]
 | a::r=>tabsP n++(a++nl::linesJ n r)
def brk (b:Bool) (l:List Piece):List Piece:=if b=true then sg 40::(l++[sg 41]) else l
def twoT (x:Top):Bool:=x.1 == 16 && x.2 != wNot
def cmpT (x:Top):Bool:=twoT x && x.2 != [43]
def top0:Top:=(0,[])
def brk0 (a:Top):Bool:=cmpT a
def brk1 (t:List UInt8) (b:Top):Bool:=cmpT b || (t == [43] && twoT b)
def opP (t:List UInt8):Piece:=(if t=wIn then 1 else 4,t)
def putP (n:Nat) (k:Int) (t:List UInt8) (l:List Top) (s:List (List Piece)):List Piece :=
 if k=11 then [(3,t)]
 else if k=12 then sg 91::(commaJ s++[sg 93])
 else if k=13 then sg 123::(dictJ s++[sg 125])
 else if k=14 then (1,t)::sg 40::(commaJ s++[sg 41])
 else if k=15 then (if t=[] then s.getD 0 [] else (1,t)::sp::sg 61::sp::s.getD 0 [])
 else if k=16 then
  (if t=wNot then (1,wNot)::sp::brk (twoT (l.getD 0 top0)) (s.getD 0 [])
   else brk (brk0 (l.getD 0 top0)) (s.getD 0 [])++sp::opP t::sp::brk (brk1 t (l.getD 1 top0)) (s.getD 1 []))
 else if k=7 then (1,t)::sg 58::sp::(1,(l.getD 0 top0).2)::(if s.length=2 then sp::sg 61::sp::s.getD 1 [] else [])
 else if k=8 then sg 123::nl::(linesJ (n+1) s++(tabsP n++[sg 125]))
 else if k=2 then (1,t)::sp::sg 61::sp::(s.getD 0 []++[sg 59])
 else if k=3 then s.getD 0 []++[sg 59]
 else if k=4 then (1,wFor)::sp::(1,t)::sp::(1,wIn)::sp::(s.getD 0 []++sp::s.getD 1 [])
 else if k=5 then (1,wIf)::sp::(s.getD 0 []++sp::(s.getD 1 []++(if s.length=3 then sp::(1,wElse)::sp::s.getD 2 [] else [])))
 else if k=6 then (1,wRule)::sp::(1,t)::sg 40::(commaJ s.dropLast++sg 41::sp::s.getLastD [])
 else if k=10 then [(2,t)]
 else [(1,t)]
mutual
def oP (n:Nat):Tr→List Piece
 | .mk k t l=>putP n k t (tops l) (oPs (if k=8 then n+1 else n) l)
def oPs (n:Nat):List Tr→List (List Piece)
 | []=>[]
 | x::r=>oP n x::oPs n r
end
theorem oP_mk (n:Nat) (k:Int) (t:List UInt8) (l:List Tr):oP n (.mk k t l)=putP n k t (tops l) (oPs (if k=8 then n+1 else n) l):=by rw [oP]
theorem oPs_nil (n:Nat):oPs n []=[]:=by rw [oPs]
theorem oPs_cons (n:Nat) (x:Tr) (r:List Tr):oPs n (x::r)=oP n x::oPs n r:=by rw [oPs]
theorem oPs_map (n:Nat):∀ l:List Tr,oPs n l=l.map (oP n)
 | []=>by rw [oPs_nil];rfl
 | x::r=>by rw [oPs_cons,oPs_map n r];rfl
def brkD (b:Bool) (d:Nat):Nat:=if b=true then d+1 else d
def maxL:List Nat→Nat
 | []=>0
 | a::r=>max a (maxL r)
def putD (k:Int) (t:List UInt8) (l:List Top) (s:List Nat):Nat :=
 if k=12∨k=13∨k=14∨k=8 then maxL s+1
 else if k=16 then
  (if t=wNot then brkD (twoT (l.getD 0 top0)) (s.getD 0 0)+1
   else max (brkD (brk0 (l.getD 0 top0)) (s.getD 0 0)) (brkD (brk1 t (l.getD 1 top0)) (s.getD 1 0)))
 else maxL s
mutual
def oD:Tr→Nat
 | .mk k t l=>putD k t (tops l) (oDs l)
def oDs:List Tr→List Nat
 | []=>[]
 | x::r=>oD x::oDs r
end
theorem oD_mk (k:Int) (t:List UInt8) (l:List Tr):oD (.mk k t l)=putD k t (tops l) (oDs l):=by rw [oD]
theorem oDs_nil:oDs []=[]:=by rw [oDs]
theorem oDs_cons (x:Tr) (r:List Tr):oDs (x::r)=oD x::oDs r:=by rw [oDs]
theorem oDs_map:∀ l:List Tr,oDs l=l.map oD
 | []=>by rw [oDs_nil];rfl
 | x::r=>by rw [oDs_cons,oDs_map r];rfl
def fileP (l:List Tr):List Piece:=linesJ 0 (oPs 0 l)
def fileD (l:List Tr):Nat:=maxL (oDs l)
theorem sg_good {c:UInt8} (h:c ∈ signs):GoodP (sg c):=.inr ⟨by show (4:Nat)≠0;decide,.sign h⟩
theorem sp_good:GoodP sp:=.inl ⟨rfl,by show [32]≠[];simp,rfl⟩
theorem nl_good:GoodP nl:=.inl ⟨rfl,by show [10]≠[];simp,rfl⟩
theorem word_good {t:List UInt8} (h:TokK 1 t):GoodP (1,t):=.inr ⟨by show (1:Nat)≠0;decide,h⟩
theorem tab_good {n:Nat} (h:n≠0):GoodP (0,List.replicate n 9):=.inl ⟨rfl,by
 show List.replicate n 9≠[];cases n with
 | zero=>exact absurd rfl h
 | succ n=>simp [List.replicate_succ],by
 show (List.replicate n (9:UInt8)).all isGap=true;rw [List.all_eq_true];intro x hx;rw [(List.mem_replicate.1 hx).2];rfl⟩
theorem tabs_gd (n:Nat) {l:List Piece} (h:Gd l):Gd (tabsP n++l):=by
 unfold tabsP;split
 ·exact h
 ·rename_i hn;exact Gd.cons (tab_good hn) rfl h
theorem name_tok {t:List UInt8} (h:nameS t=true):TokK 1 t:=by
 unfold nameS at h;simp only [Bool.and_eq_true] at h;exact oneT_tok h.1
theorem word_tok {c:UInt8} {s:List UInt8} (h:(isLet c && (c::s).all isWord)=true):TokK 1 (c::s):=by
 simp only [Bool.and_eq_true] at h;exact .word h.1 h.2
theorem op_good {t:List UInt8} (h:opB t=true):GoodP (opP t):=by
 unfold opB at h;simp only [Bool.or_eq_true,beq_iff_eq] at h;rcases h with ((rfl | rfl) | rfl) | rfl
 ·exact .inr ⟨by decide,.two (.inl rfl)⟩
 ·exact .inr ⟨by decide,.two (.inr rfl)⟩
 ·exact .inr ⟨by decide,word_tok rfl⟩
 ·exact .inr ⟨by decide,.sign (by decide)⟩
theorem type_tok {t:List UInt8} (h:typeB t=true):TokK 1 t:=by
 unfold typeB at h;simp only [Bool.or_eq_true,beq_iff_eq] at h;rcases h with ((((rfl | rfl) | rfl) | rfl) | rfl) | rfl <;> exact word_tok rfl
theorem comma_gd:∀ {l:List (List Piece)} {r:List Piece} {c:UInt8},(∀ a ∈ l,Gd a)→softP (sg c)=true→Gd (sg c::r)→Gd (commaJ l++sg c::r)
 | [],_,_,_,_,h=>h
 | [a],_,_,hl,hc,h=>Gd.mid (hl a (List.mem_cons_self ..)) hc h
 | a::b::l,r,c,hl,hc,h=>by
   show Gd ((a++sg 44::sp::commaJ (b::l))++sg c::r);rw [List.append_assoc];refine Gd.mid (hl a (List.mem_cons_self ..)) rfl (Gd.cons (sg_good (by decide)) rfl (Gd.cons sp_good rfl ?_));exact comma_gd (fun x hx=>hl x (List.mem_cons_of_mem _ hx)) hc h
theorem dict_gd:∀ {l:List (List Piece)} {r:List Piece} {c:UInt8},(∀ a ∈ l,Gd a)→softP (sg c)=true→Gd (sg c::r)→Gd (dictJ l++sg c::r)
 | [],_,_,_,_,h=>h
 | [a],_,_,hl,hc,h=>Gd.mid (hl a (List.mem_cons_self ..)) hc h
 | [a,b],r,c,hl,hc,h=>by
   show Gd ((a++sg 58::sp::b)++sg c::r);rw [List.append_assoc];refine Gd.mid (hl a (List.mem_cons_self ..)) rfl (Gd.cons (sg_good (by decide)) rfl (Gd.cons sp_good rfl ?_));exact Gd.mid (hl b (by simp)) hc h
 | a::b::e::l,r,c,hl,hc,h=>by
   show Gd ((a++sg 58::sp::(b++sg 44::sp::dictJ (e::l)))++sg c::r);rw [List.append_assoc];refine Gd.mid (hl a (List.mem_cons_self ..)) rfl (Gd.cons (sg_good (by decide)) rfl (Gd.cons sp_good rfl ?_));show Gd ((b++sg 44::sp::dictJ (e::l))++sg c::r);rw [List.append_assoc];refine Gd.mid (hl b (by simp)) rfl (Gd.cons (sg_good (by decide)) rfl (Gd.cons sp_good rfl ?_));exact dict_gd (fun x hx=>hl x (List.mem_cons_of_mem _ (List.mem_cons_of_mem _ hx))) hc h
theorem lines_gd (n:Nat):∀ {l:List (List Piece)} {r:List Piece},(∀ a ∈ l,Gd a)→Gd r→Gd (linesJ n l++r)
 | [],_,_,h=>h
 | a::l,r,hl,h=>by
   show Gd ((tabsP n++(a++nl::linesJ n l))++r);rw [List.append_assoc];refine tabs_gd n ?_;rw [List.append_assoc];refine Gd.mid (hl a (List.mem_cons_self ..)) rfl (Gd.cons nl_good rfl ?_);exact lines_gd n (fun x hx=>hl x (List.mem_cons_of_mem _ hx)) h
theorem brk_gd (b:Bool) {l:List Piece} (h:Gd l):Gd (brk b l):=by
 unfold brk;split
 ·exact Gd.cons (sg_good (by decide)) rfl (Gd.mid h rfl (Gd.one (sg_good (by decide))))
 ·exact h
theorem getD_gd {s:List (List Piece)} (h:∀ a ∈ s,Gd a) (k:Nat):Gd (s.getD k []):=by
 rw [List.getD_eq_getElem?_getD];cases e:s[k]? with
 | none=>exact Gd.nil
 | some a=>exact h a (List.mem_of_getElem? e)
theorem lastD_gd {s:List (List Piece)} (h:∀ a ∈ s,Gd a):Gd (s.getLastD []):=by
 cases s with
 | nil=>exact Gd.nil
 | cons a r=>rw [List.getLastD_cons];exact h _ List.getLastD_mem_cons
theorem put_gd (n:Nat) {k:Int} {t:List UInt8} {l:List Top} {s:List (List Piece)} (h:shape k t l=true) (hs:∀ a ∈ s,Gd a):Gd (putP n k t l s):=by
 have g0:=getD_gd hs 0;have g1:=getD_gd hs 1;have g2:=getD_gd hs 2;unfold shape at h;unfold putP;by_cases e9:k=9
 ·rw [if_pos e9] at h;subst e9;simp only [Bool.and_eq_true] at h;exact Gd.one (word_good (name_tok h.2))
 rw [if_neg e9] at h;by_cases e10:k=10
 ·rw [if_pos e10] at h;subst e10;simp only [Bool.and_eq_true] at h;exact Gd.one (.inr ⟨by show (2:Nat)≠0;decide,oneT_tok h.2⟩)
 rw [if_neg e10] at h;by_cases e11:k=11
 ·rw [if_pos e11] at h;subst e11;simp only [Bool.and_eq_true,Bool.not_eq_true'] at h;exact Gd.one (.inr ⟨by show (3:Nat)≠0;decide,.text h.2⟩)
 rw [if_neg e11] at h;by_cases e12:k=12
 ·rw [if_pos e12] at h;subst e12;exact Gd.cons (sg_good (by decide)) rfl (comma_gd hs rfl (Gd.one (sg_good (by decide))))
 rw [if_neg e12] at h;by_cases e13:k=13
 ·rw [if_pos e13] at h;subst e13;exact Gd.cons (sg_good (by decide)) rfl (dict_gd hs rfl (Gd.one (sg_good (by decide))))
 rw [if_neg e13] at h;by_cases e14:k=14
 ·rw [if_pos e14] at h;subst e14;simp only [Bool.and_eq_true] at h;exact Gd.hard (word_good (name_tok h.1)) rfl (Gd.cons (sg_good (by decide)) rfl (comma_gd hs rfl (Gd.one (sg_good (by decide)))))
 rw [if_neg e14] at h;by_cases e16:k=16
 ·rw [if_pos e16] at h;subst e16;show Gd (if t=wNot then _ else _);split
  ·exact Gd.hard (word_good (word_tok rfl)) rfl (Gd.cons sp_good rfl (brk_gd _ g0))
  ·rename_i ht;rw [if_neg ht] at h;simp only [Bool.and_eq_true] at h;exact Gd.mid (brk_gd _ g0) rfl (Gd.cons sp_good rfl (Gd.hard (op_good h.1) rfl (Gd.cons sp_good rfl (brk_gd _ g1))))
 rw [if_neg e16] at h;by_cases e15:k=15
 ·rw [if_pos e15] at h;subst e15;show Gd (if t=[] then _ else _);split
  ·exact g0
  ·rename_i ht;simp only [Bool.and_eq_true,Bool.or_eq_true,List.isEmpty_iff] at h;refine Gd.hard (word_good (name_tok (h.1.resolve_left ht))) rfl (Gd.cons sp_good rfl (Gd.hard (sg_good (by decide)) rfl (Gd.cons sp_good rfl g0)))
 rw [if_neg e15] at h;by_cases e7:k=7
 ·rw [if_pos e7] at h;subst e7;simp only [Bool.and_eq_true] at h;obtain ⟨h1,h2⟩:=h;have ht:typeB (l.getD 0 top0).2=true:=by
   unfold paramB at h2;split at h2
   ·simp only [Bool.and_eq_true] at h2;exact h2.2
   ·simp only [Bool.and_eq_true] at h2;exact h2.1.2
   ·cases h2
  refine Gd.hard (word_good (name_tok h1)) rfl (Gd.cons (sg_good (by decide)) rfl (Gd.cons sp_good rfl ?_));split
  ·exact Gd.hard (word_good (type_tok ht)) rfl (Gd.cons sp_good rfl (Gd.hard (sg_good (by decide)) rfl (Gd.cons sp_good rfl g1)))
  ·exact Gd.one (word_good (type_tok ht))
 rw [if_neg e7] at h;by_cases e8:k=8
 ·rw [if_pos e8] at h;subst e8;exact Gd.cons (sg_good (by decide)) rfl (Gd.cons nl_good rfl (lines_gd _ hs (tabs_gd n (Gd.one (sg_good (by decide))))))
 rw [if_neg e8] at h;by_cases e2:k=2
 ·rw [if_pos e2] at h;subst e2;simp only [Bool.and_eq_true] at h;exact Gd.hard (word_good (name_tok h.1)) rfl (Gd.cons sp_good rfl (Gd.hard (sg_good (by decide)) rfl (Gd.cons sp_good rfl (Gd.mid g0 rfl (Gd.one (sg_good (by decide)))))))
 rw [if_neg e2] at h;by_cases e3:k=3
 ·rw [if_pos e3] at h;subst e3;exact Gd.mid g0 rfl (Gd.one (sg_good (by decide)))
 rw [if_neg e3] at h;by_cases e4:k=4
 ·rw [if_pos e4] at h;subst e4;simp only [Bool.and_eq_true] at h;exact Gd.hard (word_good (word_tok rfl)) rfl (Gd.cons sp_good rfl (Gd.hard (word_good (name_tok h.1)) rfl (Gd.cons sp_good rfl (Gd.hard (word_good (word_tok rfl)) rfl (Gd.cons sp_good rfl (Gd.mid g0 rfl (Gd.cons sp_good rfl g1)))))))
 rw [if_neg e4] at h;by_cases e5:k=5
 ·rw [if_pos e5] at h;subst e5;refine Gd.hard (word_good (word_tok rfl)) rfl (Gd.cons sp_good rfl (Gd.mid g0 rfl (Gd.cons sp_good rfl ?_)));split
  ·exact Gd.mid g1 rfl (Gd.cons sp_good rfl (Gd.hard (word_good (word_tok rfl)) rfl (Gd.cons sp_good rfl g2)))
  ·rw [List.append_nil];exact g1
 rw [if_neg e5] at h;by_cases e6:k=6
 ·rw [if_pos e6] at h;subst e6;simp only [Bool.and_eq_true] at h;exact Gd.hard (word_good (word_tok rfl)) rfl (Gd.cons sp_good rfl (Gd.hard (word_good (name_tok h.1)) rfl (Gd.cons (sg_good (by decide)) rfl (comma_gd (fun a ha=>hs a (List.dropLast_subset _ ha)) rfl (Gd.cons (sg_good (by decide)) rfl (Gd.cons sp_good rfl (lastD_gd hs)))))))
 rw [if_neg e6] at h;cases h
mutual
theorem oP_gd:∀ (x:Tr) (n:Nat),okT x=true→Gd (oP n x)
 | .mk k t l,n,h=>by
   rw [okT_mk] at h;simp only [Bool.and_eq_true] at h;rw [oP_mk];exact put_gd n h.1 (oPs_gd l _ h.2)
theorem oPs_gd:∀ (l:List Tr) (n:Nat),okTs l=true→∀ a ∈ oPs n l,Gd a
 | [],n,_,a,ha=>by rw [oPs_nil] at ha;cases ha
 | x::r,n,h,a,ha=>by
   rw [okTs_cons] at h;simp only [Bool.and_eq_true] at h;rw [oPs_cons] at ha;rcases List.mem_cons.1 ha with rfl | ha
   ·exact oP_gd x n h.1
   ·exact oPs_gd r n h.2 a ha
end
theorem file_gd {l:List Tr} (h:okTs l=true):Gd (fileP l):=by
 have:=lines_gd 0 (oPs_gd l 0 h) Gd.nil;rwa [List.append_nil] at this
end Go.Proofs.YtfgiihpopngbkaaGreatDoor
