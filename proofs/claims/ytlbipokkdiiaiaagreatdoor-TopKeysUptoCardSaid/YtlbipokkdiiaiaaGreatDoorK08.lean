/- Lemmas for TopKeysUpto: ShaPlain, W9, W17, W23, F7, Builder, RowRef, PackCore, RowCore, NumWalks, W35, W36, W37, W25, W26, W27, W28, W38, ShaTurn, ShaWord. -/
import Derived.Test.YtlbipokkdiiaiaaGreatDoorK01
import Derived.Laws.BitsAllLaws
import Derived.Test.YtlbipokkdiiaiaaGreatDoorK07
import Derived.Great.BuildSlice
import Derived.Test.YtlbipokkdiiaiaaGreatDoorK06
import Derived.Test.YtlbipokkdiiaiaaGreatDoorChecked
import Derived.Shelf.Strings.BuilderK
import Derived.Shelf.Strconv.ErrVarParseInt
import Derived.Lib.ItoaLen
import Derived.Deep.DeepCutAuto
import Derived.Deep.QuietTactic
import Derived.Deep.AppendLies
import Derived.Deep.RegionWith
open List renaming setIfInBounds_toArray → sA, set_cons_zero → sB, set_cons_succ → sC
namespace Go.Proofs.YtlbipokkdiiaiaaGreatDoor
open Go.RowKit
def jW (x n:Int):Int:=bits .or .u32 (x/2^n.toNat) (x*2^(32-n).toNat%4294967296)
theorem si (k:IntKind) (a b:Int):bits .or k a b=bits .or k b a:=by
 show k.wrap ((BitVec.ofInt k.bits a ||| BitVec.ofInt k.bits b).toNat:Int)=k.wrap ((BitVec.ofInt k.bits b ||| BitVec.ofInt k.bits a).toNat:Int)
 rw[BitVec.or_comm]
def zal (x:Int):Int:=bits .xor .u32 (bits .xor .u32 (jW x 7) (jW x 18)) (x/8)
def zaA (x:Int):Int:=bits .xor .u32 (bits .xor .u32 (jW x 17) (jW x 19)) (x/1024)
def xz (a b c d:Int):Int:=(((a+zal b)%4294967296+c)%4294967296+zaA d)%4294967296
theorem uL (a b c d:Int):xz a b c d=(a+zal b+c+zaA d)%4294967296:=by unfold xz;omega
def xc (ws:List Int) (i:Nat):Int:=xz (ws.getD (i-16) 0) (ws.getD (i-15) 0) (ws.getD (i-7) 0) (ws.getD (i-2) 0)
def zdy (a b c d:Int):Int:=bits .or .u32 (bits .or .u32 (bits .or .u32 (a*16777216) (b*65536)) (c*256)) d
def dn (b:List UInt8) (i:Nat):Int:=(b.getD i 0).toNat
def jV (b:List UInt8) (i:Nat):Int:=zdy (dn b (4*i)) (dn b (4*i+1)) (dn b (4*i+2)) (dn b (4*i+3))
def zfh (x:Int):Int:=bits .xor .u32 (if IntKind.u32.signed=true then -1 else IntKind.u32.max) x
def ze5 (e f g h k w:Int):Int:=
 h+bits .xor .u32 (bits .xor .u32 (jW e 6) (jW e 11)) (jW e 25)+bits .xor .u32 (bits .and .u32 e f) (bits .and .u32 (zfh e) g)+k+w
def zeX (a b c:Int):Int:=
 bits .xor .u32 (bits .xor .u32 (jW a 2) (jW a 13)) (jW a 22)+bits .xor .u32 (bits .xor .u32 (bits .and .u32 a b) (bits .and .u32 a c)) (bits .and .u32 b c)
def aR (b:List UInt8):Nat→List Int
 |0=>[]
 |k+1=>aR b k++[if k<16 then jV b k else xc (aR b k) k]
theorem eo (b:List UInt8) (k:Nat):(aR b k).length=k:=by
 induction k with
 |zero=>rfl
 |succ k ih=>rw[aR,List.length_append,ih];rfl
def jS (b:List UInt8):List Int:=aR b 64
def jo (v:List Int) (k w:Int):List Int:=
 let t:=ze5 (v.getD 4 0) (v.getD 5 0) (v.getD 6 0) (v.getD 7 0) k w
 [(t+zeX (v.getD 0 0) (v.getD 1 0) (v.getD 2 0))%4294967296,v.getD 0 0,v.getD 1 0,v.getD 2 0,(v.getD 3 0+t)%4294967296,v.getD 4 0,v.getD 5 0,v.getD 6 0]
def bM (ks ws h:List Int):Nat→List Int
 |0=>h
 |n+1=>jo (bM ks ws h n) (ks.getD n 0) (ws.getD n 0)
theorem tJ {ks ws h:List Int} (hh:h.length=8) (n:Nat):(bM ks ws h n).length=8:=by
 cases n with
 |zero=>exact hh
 |succ n=>rfl
def pD (h v:List Int) (k:Nat):List Int:=(List.range k).map fun i=>(h.getD i 0+v.getD i 0)%4294967296
def xq (h v:List Int):List Int:=pD h v 8
def cA (ks h:List Int) (b:List UInt8):List Int:=xq h (bM ks (jS b) h 64)
theorem jN (ks h:List Int) (b:List UInt8):(cA ks h b).length=8:=by unfold cA xq pD;simp
def aY (ks h:List Int) (b:List UInt8):List Int:=
 if _h:b.length<64 then h else aY ks (cA ks h (b.take 64)) (b.drop 64)
termination_by b.length
decreasing_by rw[List.length_drop];omega
theorem cr {ks h:List Int} {b:List UInt8} (hb:b.length<64):aY ks h b=h:=by rw[aY,dif_pos hb]
theorem eO {ks h:List Int} {b:List UInt8} (hb:64≤b.length):aY ks h b=aY ks (cA ks h (b.take 64)) (b.drop 64):=by rw[aY,dif_neg (by omega)]
def bT (b:List UInt8):List UInt8:=b.drop (b.length/64*64)
theorem mi (ks:List Int) (k:Nat):∀(h:List Int) (a b:List UInt8),a.length=64*k→aY ks h (a++b)=aY ks (aY ks h a) b:=by
 induction k with
 |zero=>
  intro h a b ha
  have:a=[]:=List.length_eq_zero_iff.1 (by omega)
  subst this
  rw[cr (b:=[]) (by simp),List.nil_append]
 |succ k ih=>
  intro h a b ha
  have hd:(a.drop 64).length=64*k:=by rw[List.length_drop];omega
  rw[eO (b:=a++b) (by rw[List.length_append];omega),eO (b:=a) (by omega),List.take_append_of_le_length (by omega),List.drop_append_of_le_length (by omega),ih _ _ _ hd]
theorem mA (ks h:List Int) (b:List UInt8):aY ks h (b.take (b.length/64*64))=aY ks h b:=by
 have e:b=b.take (b.length/64*64)++bT b:=by unfold bT;rw[List.take_append_drop]
 have hl:(b.take (b.length/64*64)).length=64*(b.length/64):=by rw[List.length_take];omega
 have hs:(bT b).length<64:=by unfold bT;rw[List.length_drop];omega
 conv=>rhs;rw[e]
 rw[mi ks _ h _ _ hl,cr hs]
theorem qj (ks h:List Int) (a b:List UInt8):aY ks (aY ks h a) (bT a++b)=aY ks h (a++b):=by
 have e:a=a.take (a.length/64*64)++bT a:=by unfold bT;rw[List.take_append_drop]
 have hl:(a.take (a.length/64*64)).length=64*(a.length/64):=by rw[List.length_take];omega
 conv=>rhs;rw[e,List.append_assoc]
 rw[mi ks _ h _ _ hl,mA]
theorem ux (b:List UInt8):(bT b).length<64:=by unfold bT;rw[List.length_drop];omega
theorem yR (a b:List UInt8):bT (bT a++b)=bT (a++b):=by
 have e:a=a.take (a.length/64*64)++bT a:=by unfold bT;rw[List.take_append_drop]
 have hl:(a.take (a.length/64*64)).length=a.length/64*64:=by rw[List.length_take];omega
 have hla:a.length=a.length/64*64+(bT a).length:=by unfold bT;rw[List.length_drop];omega
 have e2:a++b=a.take (a.length/64*64)++(bT a++b):=by rw[←List.append_assoc,←e]
 have hq:(a++b).length/64*64=a.length/64*64+(bT a++b).length/64*64:=by
  simp only[List.length_append];omega
 show(bT a++b).drop ((bT a++b).length/64*64)=(a++b).drop ((a++b).length/64*64)
 rw[hq,e2]
 generalize bT a++b=c at *
 generalize a.take (a.length/64*64)=d at *
 rw[←hl,List.drop_append]
 rw[List.drop_of_length_le (l:=d) (by omega),List.nil_append,show d.length+c.length/64*64-d.length=c.length/64*64 by omega]
def zgA (n:Nat):List UInt8:=List.replicate ((119-n%64)%64) 0
def mp (n:Nat):Nat→List UInt8
 |0=>[]
 |k+1=>mp n k++[UInt8.ofNat (8*n/2^(8*(7-k))%256)]
def zej (n:Nat):List UInt8:=mp n 8
theorem zcK (m:Nat):((UInt8.ofNat (m%256)).toNat:Int)=(m:Int)%256:=by
 rw[UInt8.toNat_ofNat_of_lt' (by have:=Nat.mod_lt m (show 0<256 by decide);exact this)]
 omega
def fN (s:List UInt8):List UInt8:=s++128::zgA s.length++zej s.length
def bq:List Int:=[1116352408,1899447441,3049323471,3921009573,961987163,1508970993,2453635748,2870763221,3624381080,310598401,607225278,1426881987,1925078388,2162078206,2614888103,3248222580,3835390401,4022224774,264347078,604807628,770255983,1249150122,1555081692,1996064986,2554220882,2821834349,2952996808,3210313671,3336571891,3584528711,113926993,338241895,666307205,773529912,1294757372,1396182291,1695183700,1986661051,2177026350,2456956037,2730485921,2820302411,3259730800,3345764771,3516065817,3600352804,4094571909,275423344,430227734,506948616,659060556,883997877,958139571,1322822218,1537002063,1747873779,1955562222,2024104815,2227730452,2361852424,2428436474,2756734187,3204031479,3329325298]
def cP:List Int:=[1779033703,3144134277,1013904242,2773480762,1359893119,2600822924,528734635,1541459225]
def oG (v:List Int) (i:Nat):Int:=v.getD (i/4) 0/2^(24-8*(i%4))%256
def mY (v:List Int):List Int:=(List.range 32).map (oG v)
def dC (v:List Int) (k:Nat):Array Value:=((List.range 32).map fun i=>Value.int .u8 (if i<k then oG v i else 0)).toArray
theorem dZ (v:List Int) (k:Nat):(dC v k).size=32:=by simp[dC]
theorem y7 (v:List Int) (k:Nat):(dC v k).setIfInBounds k (.int .u8 (oG v k))=dC v (k+1):=by
 apply Array.ext
 ·simp[dC]
 ·intro i h1 h2
  rw[Array.size_setIfInBounds,dZ] at h1
  rw[Array.getElem_setIfInBounds (by rw[dZ];exact h1)]
  by_cases hik:k=i
  ·subst hik;rw[if_pos rfl];simp[dC]
  ·rw[if_neg hik]
   have:(i<k+1)=(i<k):=by apply propext;omega
   simp[dC,this]
theorem tR (v:List Int):dC v 32=((mY v).map (Value.int .u8)).toArray:=by
 unfold dC mY
 rw[List.map_map]
 refine congrArg List.toArray (List.map_congr_left ?_)
 intro i hi
 rw[List.mem_range] at hi
 simp only[Function.comp,if_pos hi]
theorem pf (ks h:List Int) (b:List UInt8) (k:Nat) (hk:64*k+64≤b.length):aY ks h (b.take (64*k+64))=cA ks (aY ks h (b.take (64*k))) ((b.drop (64*k)).take 64):=by
 rw[List.take_add,mi ks k h _ _ (by rw[List.length_take];omega),eO (by rw[List.length_take,List.length_drop];omega)]
 rw[List.take_take,Nat.min_self,List.drop_take,Nat.sub_self,List.take_zero,cr (b:=[]) (by simp)]
def zev (s:List UInt8):List Int:=mY (aY bq cP (fN s))
theorem xG (s:List UInt8):aY bq (aY bq cP s) (bT s++(128::zgA s.length++zej s.length))=aY bq cP (fN s):=by
 rw[qj]
 unfold fN
 rw[List.append_assoc]
def kV (b:List UInt8) (j:Nat):Nat→Int
 |0=>0
 |m+1=>bits .or .u32 (kV b j m*256%4294967296) (dn b (4*j+m))
theorem tc (a:Nat) (b:UInt8) (h:a*256+256≤4294967296):bits .or .u32 ((a:Int)*256) ((b.toNat:Nat):Int)=((a*256+b.toNat:Nat):Int):=by
 have hb:=b.toNat_lt
 have:=u32_or_nat (a*256) b.toNat (by omega) (by omega)
 rw[show((a*256:Nat):Int)=(a:Int)*256 by omega] at this
 rw[this,Nat.mul_comm a 256,show(256:Nat)=2^8 from rfl,←Nat.two_pow_add_eq_or_of_lt (by omega)]
theorem rT (a b n:Nat) (ha:a*(256*n)+256*n≤4294967296) (hb:b<256) (k:Nat) (hn:n=2^k):bits .or .u32 ((a*(256*n):Nat):Int) ((b*n:Nat):Int)=((a*256+b)*n:Nat):=by
 have hbn:b*n<256*n:=Nat.mul_lt_mul_of_pos_right hb (by rw[hn];exact Nat.two_pow_pos k)
 have e:=u32_or_nat (a*(256*n)) (b*n) (by omega) (by omega)
 rw[e,hn,show 256*2^k=2^(8+k) by rw[Nat.pow_add],Nat.mul_comm a,←Nat.two_pow_add_eq_or_of_lt (by rw[Nat.pow_add];rw[hn] at hbn;exact hbn)]
 congr 1
 rw[Nat.pow_add,Nat.add_mul]
 congr 1
 rw[Nat.mul_comm (2^8*2^k) a,Nat.mul_assoc]
theorem yH (b:List UInt8) (j:Nat):kV b j 4=jV b j:=by
 unfold jV
 simp only[kV,Nat.add_zero]
 have lt:∀i,(b.getD i 0).toNat<256:=fun i=>(b.getD i 0).toNat_lt
 have e0:bits .or .u32 (0*256%4294967296) (dn b (4*j))=((b.getD (4*j) 0).toNat:Int):=by
  have:=tc 0 (b.getD (4*j) 0) (by omega)
  simpa[dn] using this
 rw[e0]
 have s:∀(a i:Nat),a*256+256≤4294967296→bits .or .u32 ((a:Int)*256%4294967296) (dn b i)=((a*256+(b.getD i 0).toNat:Nat):Int):=fun a i h=>by
  rw[Int.emod_eq_of_lt (by omega) (by omega)]
  exact tc a _ h
 have l0:=lt (4*j)
 have l1:=lt (4*j+1)
 have l2:=lt (4*j+2)
 have l3:=lt (4*j+3)
 rw[s _ (4*j+1) (by omega),s _ (4*j+2) (by omega),s _ (4*j+3) (by omega)]
 unfold zdy dn
 generalize (b.getD (4*j) 0).toNat=a0 at *
 generalize (b.getD (4*j+1) 0).toNat=a1 at *
 generalize (b.getD (4*j+2) 0).toNat=a2 at *
 generalize (b.getD (4*j+3) 0).toNat=a3 at *
 have h1:=rT a0 a1 65536 (by omega) l1 16 (by decide)
 rw[show((a0*(256*65536):Nat):Int)=(a0:Int)*16777216 by omega,show((a1*65536:Nat):Int)=(a1:Int)*65536 by omega] at h1
 have h2:=rT (a0*256+a1) a2 256 (by omega) l2 8 (by decide)
 rw[show(((a0*256+a1)*(256*256):Nat):Int)=(((a0*256+a1)*65536:Nat):Int) by omega,show((a2*256:Nat):Int)=(a2:Int)*256 by omega] at h2
 have h3:=rT ((a0*256+a1)*256+a2) a3 1 (by omega) l3 0 (by decide)
 rw[show(((((a0*256+a1)*256+a2)*(256*1)):Nat):Int)=((((a0*256+a1)*256+a2)*256:Nat):Int) by omega,Nat.mul_one,Nat.mul_one] at h3
 rw[h1,h2,h3]
def gT (b:List UInt8) (k:Nat):Array Value:=((List.range 64).map fun j=>Value.int .u32 (kV b j (min 4 (k-4*j)))).toArray
theorem lX (b:List UInt8) (k:Nat):(gT b k).size=64:=by simp[gT]
theorem zc5 (b:List UInt8) (k:Nat) (hk:k<64):(gT b k)[k/4]?=some (.int .u32 (kV b (k/4) (k%4))):=by
 have e:min 4 (k-4*(k/4))=k%4:=by omega
 simp[gT,show k/4<64 by omega,e]
theorem yd (b:List UInt8) (k:Nat):(gT b k).setIfInBounds (k/4) (.int .u32 (bits .or .u32 (kV b (k/4) (k%4)*256%4294967296) (dn b k)))=gT b (k+1):=by
 apply Array.ext
 ·simp[gT]
 ·intro i h1 h2
  rw[Array.size_setIfInBounds,lX] at h1
  rw[Array.getElem_setIfInBounds (by rw[lX];exact h1)]
  by_cases hik:k/4=i
  ·rw[if_pos hik]
   subst hik
   have e:min 4 (k+1-4*(k/4))=k%4+1:=by omega
   have e2:4*(k/4)+k%4=k:=by omega
   simp[gT,e,kV,e2]
  ·rw[if_neg hik]
   have e:min 4 (k+1-4*i)=min 4 (k-4*i):=by omega
   simp[gT,e]
def ff (ws:List Int):Array Value:=((List.range 64).map fun j=>Value.int .u32 (ws.getD j 0)).toArray
theorem fC (ws:List Int):(ff ws).size=64:=by simp[ff]
theorem zdd (ws:List Int) (j:Nat) (hj:j<64):(ff ws)[j]?=some (.int .u32 (ws.getD j 0)):=by simp[ff,hj]
theorem sx (b:List UInt8) (k:Nat) (hk:k≤16):∀j,j<k→(aR b k).getD j 0=jV b j:=by
 induction k with
 |zero=>intro j hj;omega
 |succ k ih=>
  intro j hj
  rw[aR,if_pos (by omega)]
  by_cases hjk:j<k
  ·rw[←ih (by omega) j hjk]
   simp[List.getD_eq_getElem?_getD,List.getElem?_append_left (show j<(aR b k).length by rw[eo];exact hjk)]
  ·obtain rfl:k=j:=by omega
   simp[List.getD_eq_getElem?_getD,eo]
theorem zbk (b:List UInt8):gT b 64=ff (aR b 16):=by
 unfold gT ff
 refine congrArg List.toArray (List.map_congr_left ?_)
 intro j hj
 rw[List.mem_range] at hj
 by_cases h:j<16
 ·rw[sx b 16 (Nat.le_refl _) j h,←yH]
  have e:min 4 (64-4*j)=4:=by omega
  rw[e]
 ·have e:min 4 (64-4*j)=0:=by omega
  rw[e,kV]
  simp[List.getD_eq_getElem?_getD,List.getElem?_eq_none (show(aR b 16).length≤j by rw[eo];omega)]
theorem qS (ws:List Int) (x:Int) (k:Nat) (hk:ws.length=k):(ff ws).setIfInBounds k (.int .u32 x)=ff (ws++[x]):=by
 subst hk
 apply Array.ext
 ·simp[ff]
 ·intro i h1 h2
  rw[Array.size_setIfInBounds,fC] at h1
  rw[Array.getElem_setIfInBounds (by rw[fC];exact h1)]
  by_cases hik:ws.length=i
  ·rw[if_pos hik]
   subst hik
   simp[ff]
  ·rw[if_neg hik]
   by_cases aH:i<ws.length
   ·simp[ff,List.getD_eq_getElem?_getD,List.getElem?_append_left aH]
   ·simp[ff,List.getD_eq_getElem?_getD,List.getElem?_append_right (show ws.length≤i by omega),List.getElem?_eq_none (show ws.length≤i by omega),List.getElem?_eq_none (show[x].length≤i-ws.length by simp;omega)]
theorem zak (ws:List Int) (h:ws.length=64):ff ws=(ws.map (Value.int .u32)).toArray:=by
 apply Array.ext
 ·simp[ff,h]
 ·intro i h1 h2
  have h3:i<ws.length:=by simpa using h2
  simp[ff,h3]
def gW (h v:List Int) (k:Nat):List Int:=(List.range 8).map fun i=>if i<k then(h.getD i 0+v.getD i 0)%4294967296 else h.getD i 0
theorem uE (h v:List Int) (k:Nat):(gW h v k).length=8:=by simp[gW]
theorem yY {h:List Int} (v:List Int) (hl:h.length=8):gW h v 0=h:=by
 apply List.ext_getElem
 ·simp[gW,hl]
 ·intro i h1 h2
  simp[gW,h2]
theorem zbw (h v:List Int):gW h v 8=pD h v 8:=by
 unfold gW pD
 refine List.map_congr_left fun i hi=>?_
 rw[List.mem_range] at hi
 simp only[if_pos hi]
theorem zaC (h v:List Int) (k:Nat) (hk:k<8):(gW h v k).getD k 0=h.getD k 0:=by simp[gW,hk]
theorem zJ (h v:List Int) (rest:List Value) (k:Nat) (hk:k<8):
 (((gW h v k).map (Value.int .u32))++rest).toArray.setIfInBounds k (.int .u32 ((h.getD k 0+v.getD k 0)%4294967296))=(((gW h v (k+1)).map (Value.int .u32))++rest).toArray:=by
 apply Array.ext
 ·simp[gW]
 ·intro i h1 h2
  have hs:i<(((gW h v k).map (Value.int .u32))++rest).toArray.size:=by simpa using h1
  rw[Array.getElem_setIfInBounds hs]
  by_cases hik:k=i
  ·rw[if_pos hik]
   subst hik
   simp[gW,hk]
  ·rw[if_neg hik]
   have e:(i<k+1)=(i<k):=by apply propext;omega
   simp[gW,e,List.getElem_append]
open Exec
set_option maxRecDepth 100000
section
variable {ops:Array Oper} {rest:List Oper} {o:Oper} {a:Act} {w:World} {Q:Exit→Act→World→Prop}
theorem zeY {t e sz by_:Nat} {xs:Array Value} (h0:0<sz) (h1:sz≤1000) (hxs:xs.size=sz) (hu:Tryz.prog.underlying t=some (.slice e)) (hinfo:gg e sz by_=true) (w:World):
 (Instr.buildSlice t 1 #[(0,.agg xs)]).run Tryz.prog w=.ok (.slice (some ⟨w.heap.size,0,none⟩) 1 1) (w.alloc (.cells xs e)):=by
 obtain⟨i,z,hi,hz,hs, -,hzs⟩:=cW hinfo
 refine run_buildSlice w t e 1 _ xs i z hu hi hz (by rw[hs];omega) (by rw[hs];omega) ?_
 have:=Great.fill_whole (s:=sz) h0 [.agg xs] ((Array.range (1*sz)).map (z.cells[· % z.cells.size]!)) (by simpa[Value.cells] using hxs) (by simp)
 rw[hs]
 simpa[Value.cells] using this
theorem xu {t e sz by_:Nat} {xs:Array Value} {p:Operand} (h0:0<sz) (h1:sz≤1000) (hxs:xs.size=sz) (hu:Tryz.prog.underlying t=some (.slice e)) (hinfo:gg e sz by_=true)
 (h:∀W1,Below w.heap.size w W1→W1.heap[w.heap.size]?=some (.cells xs e (0,0))→W1.heap.size=w.heap.size+1→wpList Tryz.prog ops Q rest (a.put o.dst (.slice (some ⟨w.heap.size,0,none⟩) 1 1)) W1)
 (ho:o.op=.buildSlice t 1 #[(0,p)]:=by rfl) (hx:a.eval p=.agg xs:=by rfl) (hw:Region.wanted o (yielded ops a.tmps)=true:=by rfl):
 wpList Tryz.prog ops Q (o::rest) a w:=by
 refine gw (v:=.slice (some ⟨w.heap.size,0,none⟩) 1 1) (w':=w.alloc (.cells xs e)) ?_ (h _ (ab w _) (heap_alloc_new w _) (by rw[World.size_alloc])) hw
 have hr:=zeY (t:=t) (e:=e) (sz:=sz) (by_:=by_) h0 h1 hxs hu hinfo w
 unfold execOp
 simp only[ho,List.map_toArray,List.map_cons,List.map_nil,hx,Sem.run_bind,hr,Result.andThen_ok,Sem.run_pure]
end
theorem WL.ld {ops:Array Oper} {Q:Exit→Act→World→Prop} {S:World→Prop} {k fuel:Nat} {listed:Array Bool} {a:Act} {w:World} (i:Nat) (dst:Option Tmp) {ty n:Nat} (rt:cY ty n) {b off:Nat} {cs:List Value} {x:Operand} {oi:Oper}
 (hr:∀W,S W→W.rangeAt b off cs) (hl:cs.length=n) (hi:ops[i]?=some oi) (hS:S w) (h:WL Tryz.prog ops Q S k fuel (listed.setIfInBounds i true) (a.put dst (.agg cs.toArray)) w)
 (ho:oi.op=.load ty x:=by rfl) (hx:a.eval x=.pointer (some ⟨b,off,none⟩):=by rfl) (hd:oi.dst=dst:=by rfl)
 (hs:Region.noSelect ops=true:=by kernel_rfl) (hf:Region.free .any ops listed i=true:=by kernel_rfl) (hrd:(Region.ready .any ops listed).contains i=true:=by kernel_rfl)
 (hQ:∀c a w,Q (.panic c) (a.put oi.dst (.agg cs.toArray)) w→Q (.panic c) a w:=by exact fun _ _ _ h=>h) (hwt:Region.wanted oi (yielded ops a.tmps)=true:=by kernel_rfl) (hw:waits ops k i=true:=by kernel_rfl) (hkl:listed.getD k false=false:=by kernel_rfl) (hki:k≠i:=by decide):WL Tryz.prog ops Q S k (fuel+1) listed a w:=
 WL.tk i dst _ hS h (fun W hW=>yh rt (hr W hW) hl ho hx) hi hd hs hf hrd hQ hwt hw hkl hki
theorem eP {α:Type} {w w':World} {sz:Nat} {f:α→List Value} {v:Value} {l:List α} (h:aE w sz f v l) (hs:w.heap.size≤w'.heap.size) (hk:∀k,v.ownBlock=some k→k<w.heap.size→w'.heap[k]?=w.heap[k]?):aE w' sz f v l:=by
 obtain⟨hl,a,c,rfl,hc,hm,hn,hx⟩:=h
 refine⟨hl,a,c,rfl,hc,hm,hn,fun hne=>?_⟩
 obtain⟨b,off,rfl,aH,aX⟩:=hx hne
 exact⟨b,off,rfl,Nat.lt_of_lt_of_le aH hs,fun j u hu=>(World.cell?_of_block (hk b rfl aH)).trans (aX j u hu)⟩
noncomputable def lF (t:TypeId):Option (Array Value×List (Nat×Nat)):=
 match Tryz.prog.info? t,Tryz.prog.underlying t with
 |some it,some (.struct fields)=>
  match it.zero,fields.toList.mapM (fun f=>(Tryz.prog.info? f.type).map fun i=>(f.offset,i.size)) with
  |some z,some places=>some (z.cells,places)
  |_,_=>none
 |_,_=>none
theorem zbz {t:TypeId} {Z:Array Value} {pl:List (Nat×Nat)} (h:lF t=some (Z,pl)) (parts:List (Nat×Value)):Tryz.prog.built t parts=Instr.fill (pl.toArray[·]?) Z parts:=by
 unfold lF at h
 unfold Program.built
 cases hi:Tryz.prog.info? t with
 |none=>simp[hi] at h
 |some it=>
  cases hu:Tryz.prog.underlying t with
  |none=>simp[hi,hu] at h
  |some d=>
   cases d<;>simp only[hi,hu,reduceCtorEq] at h
   rename_i fields
   cases hz:it.zero with
   |none=>simp[hz] at h
   |some z=>
    cases hm:fields.toList.mapM (fun f=>(Tryz.prog.info? f.type).map fun i=>(f.offset,i.size)) with
    |none=>simp[hz,hm] at h
    |some places=>
     simp only[hz,hm,Option.some.injEq,Prod.mk.injEq] at h
     obtain⟨rfl,rfl⟩:=h
     simp only[hz,hm]
theorem uA (A old C xs:List Value) (h:old.length=xs.length):
 (xs.toArray.zipIdx.foldl (fun cs (x:Value×Nat)=>cs.setIfInBounds (A.length+x.2) x.1) (A++old++C).toArray)=(A++xs++C).toArray:=by
 have hf:=Great.foldl_set A.length xs 0 (A++old++C).toArray
 have e:xs.toArray.zipIdx.foldl (fun cs (x:Value×Nat)=>cs.setIfInBounds (A.length+x.2) x.1) (A++old++C).toArray=(xs.zipIdx 0).foldl (fun cs (x:Value×Nat)=>cs.setIfInBounds (A.length+x.2) x.1) (A++old++C).toArray:=by
  rw[←Array.foldl_toList];simp
 rw[e]
 apply Array.ext_getElem?
 intro k
 rw[hf.2 k]
 simp only[Nat.add_zero,List.size_toArray,List.length_append,List.getElem?_toArray]
 by_cases h1:A.length≤k∧k<A.length+xs.length∧k<A.length+old.length+C.length
 ·rw[if_pos h1,List.append_assoc,List.getElem?_append_right h1.1,List.getElem?_append_left (by omega)]
 ·rw[if_neg h1]
  rcases Nat.lt_or_ge k A.length with h2|h2
  ·rw[List.append_assoc,List.append_assoc,List.getElem?_append_left h2,List.getElem?_append_left h2]
  ·rw[List.getElem?_append_right (by rw[List.length_append];omega),List.getElem?_append_right (by rw[List.length_append];omega),List.length_append,List.length_append,h]
theorem qt {place:Nat→Option (Nat×Nat)} {A old C xs:List Value} {i off size:Nat} {v:Value} {rest:List (Nat×Value)} (hp:place i=some (off,size)) (hv:v.cells=xs.toArray) (hs:xs.length=size) (hA:A.length=off) (ho:old.length=size):
 Instr.fill place (A++old++C).toArray ((i,v)::rest)=Instr.fill place (A++xs++C).toArray rest:=by
 subst hA hs
 have:=uA A old C xs ho
 rw[←this]
 conv=>lhs;unfold Instr.fill
 simp only[hp,hv,List.size_toArray,List.length_append]
 rw[if_neg (by simp;omega)]
theorem wD {o:Oper} {a:Act} {w:World} {t:TypeId} {ps:Array (Nat×Operand)} {parts:List (Nat×Value)} {cells:Array Value} (h:Tryz.prog.built t parts=some cells) (ho:o.op=.build t ps) (hp:(ps.map fun(i,x)=>(i,a.eval x))=parts.toArray):
 (execOp a.eval o).run Tryz.prog w=.ok (.value (.agg cells)) w:=by
 have hr:=run_build (P:=Tryz.prog) w t parts.toArray cells (by simpa using h)
 unfold execOp
 simp only[ho,hp,Sem.run_bind,hr,Result.andThen_ok,Sem.run_pure]
def pp (b:Nat):Value:=.pointer (some ⟨b,0,none⟩)
theorem zdE:cY 328 2:=⟨_,Tryz.underlying328,rfl,by kernel_rfl⟩
theorem zcR {c d:UInt8} (h:c≠d):((c.toNat:Int)==(d.toNat:Int))=false:=eqF (fun e=>h (UInt8.toNat_inj.1 (by omega)))
def gN (x:bS×Value):List Value:=[x.2,.string (bs x.1.rest)]
structure ga (B:Nat) (w:World) (l:List Txt) (v:Value):Prop where
 at_:ap w 1 v l.length (ag l)
 own:∀k,v.ownBlock=some k→B≤k∧k<w.heap.size
def zel (B:Nat) (w:World):Option (Option bS)→Value→Bool→Prop
 |none,v,ok=>v=.pointer none∧ok=false
 |some none,v,ok=>v=.pointer none∧ok=true
 |some (some c),v,ok=>ok=true∧∃b wv,v=.pointer (some ⟨b,0,none⟩)∧B≤b∧w.heap[b]?=some (.cells (gN (c,wv)).toArray 328 (0,0))∧ga B w c.words wv
theorem qe (s x:Txt) (l:List Txt) (h:cb s=x::l):gE s=if x.headD 0=35 then some none else if x=eK then some (some ⟨[x],qd s⟩)
 else if(bR x).1≠(x::l).length∨(bR x).1=0∨(bR x).2=true∧dY (l.headD [])=false then none else some (some ⟨x::l,[]⟩):=by
 unfold gE
 rw[h]
theorem yb {w:World} {B n:Nat} {v:Value} {ls:List Txt} (h:w.ownsRow B 9 1 v n (ag ls)) (hn:ls.length≤1000001):∃a c,v=.slice a ls.length c∧ap w 1 v ls.length (ag ls):=by
 have hl:=h.1
 simp only[ag,List.length_map,Nat.mul_one] at hl
 subst hl
 obtain⟨a,c,rfl⟩:∃a c,v=.slice a ls.length c:=by
  rcases h.2 with⟨rfl,h0⟩|⟨g,cap,cur,rfl,_⟩
  ·exact⟨none,0,by rw[h0]⟩
  ·exact⟨_,_,rfl⟩
 exact⟨a,c,rfl,ap.of_owns h (by unfold maxLen;omega)⟩
theorem cp {w:World} {B n:Nat} {v:Value} {ls:List Txt} (h:w.ownsRow B 9 1 v n (ag ls)) (hn:ls.length≤1000001):∃a c,v=.slice a ls.length c∧ls.length≤c∧c≤9223372036854775807∧ap w 1 (.slice a ls.length c) ls.length (ag ls)∧(∀k,(Value.slice a ls.length c).ownBlock=some k→B≤k∧k<w.heap.size)∧
 ∀k,k<ls.length→∃b o,a=some ⟨b,o,none⟩∧b<w.heap.size∧∀j (hj:j<ls.length),w.cell? ⟨b,o+j,none⟩=some (.string (bs ls[j])):=by
 obtain⟨a,c,rfl,hs⟩:=yb h hn
 obtain⟨-,va,vc,hv,hvc,hvm,hx⟩:=hs.str
 simp only[Value.slice.injEq] at hv
 obtain⟨rfl, -,rfl⟩:=hv
 exact⟨a,c,rfl,hvc,by unfold maxLen at hvm;omega,hs,fun k hk=>h.lt k hk,hx⟩
set_option maxHeartbeats 400000 in
theorem ye (s:Txt) (w:World) (hs:s.length≤1000000000):Calls Tryz.prog 280 #[.string (bs s)] w fun e w'=>e=.returned (.string (bs s))∧Below w.heap.size w w':=by
 have HC:=hid (Tryz.stringslite_Clone (bs s) w (by rw[aV];omega))
 go_enter Tryz.func280,Tryz.ntmps280
 go_wp2_with (go_at_call 311;refine(HC.out).mono ?_;rintro e w' ⟨rfl,hb⟩)
 go_ret
 exact⟨rfl,hb⟩
set_option maxHeartbeats 4000000 in
theorem zbt (s:Txt) (w:World) (hs:s.length≤1000000) (hm:bE w):
 Calls Tryz.prog 220 #[.string (bs s)] w fun e w'=>∃v ok,e=.returned (.tuple #[v,.bool ok])∧zel w.heap.size w' (gE s) v ok∧Below w.heap.size w w':=by
 have HW:=hid (fD s w hs)
 have HM:=hid hm
 clear hm
 cases hl:cb s with
 |nil=>
  have hr:gE s=some none:=by unfold gE;rw[hl]
  rw[hl] at HW
  rw[hr]
  go_enter Tryz.func220,Tryz.ntmps220
  go_wp2_with (go_at_call 279;refine(HW.out).mono ?_;rintro e w1 ⟨v,rfl,ho,hb⟩;obtain⟨a,c,rfl, -⟩:=cp ho (by simp))
  go_ret2
  exact⟨_,_,rfl,⟨rfl,rfl⟩,hb⟩
 |cons x l=>
  have hr:=qe s x l hl
  have hx:=fd s x (by rw[hl];exact List.mem_cons_self)
  have hll:(cb s).length≤1000001:=by have:=qw s;omega
  rw[hl] at HW hll
  obtain⟨c0,x',rfl⟩:∃c0 x',x=c0::x':=by
   cases x with
   |nil=>exact absurd rfl hx.1
   |cons c0 x'=>exact⟨c0,x',rfl⟩
  have hhd:(c0::x').headD 0=c0:=rfl
  rw[hhd] at hr
  by_cases hc:c0=35
  ·subst hc
   rw[if_pos rfl] at hr
   rw[hr]
   go_enter Tryz.func220,Tryz.ntmps220
   go_upto_region 2 with(go_at_call 279;refine(HW.out).mono ?_;rintro e w1 ⟨v,rfl,ho,hb⟩;obtain⟨a,c,rfl,hvc,hvm, -, -,hxx⟩:=cp ho hll)
   obtain⟨b0,o0,rfl, -,aX⟩:=hxx 0 (Nat.succ_pos _)
   have k0:w1.cell? ⟨b0,o0,none⟩=some (.string (bs (35::x'))):=aX 0 (Nat.succ_pos _)
   have hb1:=hb
   clear hxx aX ho
   go_wp2_with fail
   go_ret2
   exact⟨_,_,rfl,⟨rfl,rfl⟩,hb1⟩
  ·have e35:((c0.toNat:Int)==35)=false:=zcR hc
   rw[if_neg hc] at hr
   by_cases ht:(c0::x')=eK
   ·rw[if_pos ht] at hr
    rw[hr]
    have hs4:4≤s.length:=by have:=hx.2;rw[ht] at this;exact this
    unfold eK at ht
    obtain⟨rfl,rfl⟩:=List.cons.inj ht
    obtain⟨m,hm⟩:=HM.out
    obtain⟨i,hi,hi0,hi1⟩:∃i:Int,Lib.index s eK=i∧-1≤i∧i+4≤s.length:=by
     rcases qD eK (by decide) s with h|⟨i,h,hi⟩
     ·exact⟨-1,h,by omega,by omega⟩
     ·exact⟨i,h,by omega,by have:eK.length=4:=rfl
                            omega⟩
    obtain⟨j,hj⟩:∃j:Nat,i+4=j:=⟨(i+4).toNat,by omega⟩
    have hij:i=(j:Int)-4:=by omega
    subst hij
    have hrest:qd s=(s.drop j).tail:=by unfold qd;rw[hi,hj,List.drop_one];rfl
    rw[hrest]
    have hjl:j≤s.length:=by omega
    have HI:=hid (fun(W:World) (hw:W.cell? ⟨0,0,none⟩=some (.int .i64 m))=>show Calls Tryz.prog 185 #[.string (bs s),.string ⟨#[116,101,120,116]⟩] W fun e w'=>e=.returned (.int .i64 ((j:Int)-4))∧w'=W from hi▸Tryz.strings_Index (bs s) (bs eK) m W (by rw[aV];omega) hw)
    clear hi hj hrest hi0 hi1 hr
    go_enter Tryz.func220,Tryz.ntmps220
    go_upto_region 2 with(go_at_call 279;refine(HW.out).mono ?_;rintro e w1 ⟨v,rfl,ho,hb⟩;obtain⟨a,c,rfl,hvc,hvm,hsl,hown,hxx⟩:=cp ho hll)
    obtain⟨b0,o0,rfl,hb0,aX⟩:=hxx 0 (Nat.succ_pos _)
    have k0:w1.cell? ⟨b0,o0,none⟩=some (.string (bs [116,101,120,116])):=aX 0 (Nat.succ_pos _)
    have hm1:=Below.keeps hb hm
    have HOWN:=hid hown
    have HB:=hid hb
    have HX:=hid aX
    clear hsl hxx aX ho hown hb
    go_upto_region 6 with(go_at_call 185;refine(HI.out _ hm1).mono ?_;rintro e w2 ⟨rfl,rfl⟩)
    have hu:(s.drop j).take (s.length-j)=s.drop j:=List.take_of_length_le (by rw[List.length_drop];exact Nat.le_refl _)
    rw[hu]
    have hrl:(s.drop j).length≤s.length:=by rw[List.length_drop];omega
    obtain⟨r,hr⟩:∃r,s.drop j=r:=⟨_,rfl⟩
    rw[hr]
    rw[hr] at hrl
    have HR:=hid hr
    clear hu hr
    obtain⟨mn,hmin,hmn,hdr⟩:∃mn:Nat,min (1:Int) (r.length:Int)=(mn:Int)∧mn≤r.length∧(r.drop mn).take (r.length-mn)=r.drop 1:=by
     cases r with
     |nil=>exact⟨0,by decide,Nat.le_refl _,rfl⟩
     |cons a r=>exact⟨1,by simp;omega,by simp,by simp⟩
    have HDR:=hid hdr
    clear hdr
    have hc1:(1:Int)≤(c:Int):=by rw[List.length_cons] at hvc;omega
    go_wp2_with fail
    refine aG (fun W=>True) 11 (by kernel_rfl) ?_
    intro Wd hbd
    have hS:=trivial
    refine zfq 0 (some 29) (hi:=rfl) (.inr hS) ?_
    apply Exists.intro
    refine⟨fun W=>?_,?_⟩
    ·go_simp
     try rfl
    try simp only[Act.put,sA,sB,sC]
    refine zfq 1 (some 30) (hi:=rfl) (.inr hS) ?_
    apply Exists.intro
    refine⟨fun W=>?_,?_⟩
    ·go_simp
     try rfl
    try simp only[Act.put,sA,sB,sC]
    refine zfq 2 (some 31) (hi:=rfl) (.inr hS) ?_
    apply Exists.intro
    refine⟨fun W=>?_,?_⟩
    ·go_simp
     try rfl
    try simp only[Act.put,sA,sB,sC]
    refine zfq 3 (some 32) (hi:=rfl) (.inr hS) ?_
    apply Exists.intro
    refine⟨fun W=>?_,?_⟩
    ·go_simp
     try rfl
    try simp only[Act.put,sA,sB,sC]
    refine zfq 4 (some 33) (hi:=rfl) (.inr hS) ?_
    apply Exists.intro
    refine⟨fun W=>?_,?_⟩
    ·go_simp
     try rfl
    try simp only[Act.put,sA,sB,sC]
    refine zfq 5 (some 34) (hi:=rfl) (.inr hS) ?_
    apply Exists.intro
    refine⟨fun W=>?_,?_⟩
    ·go_simp
     try rfl
    try simp only[Act.put,sA,sB,sC]
    refine zfq 6 (some 35) (hi:=rfl) (.inr hS) ?_
    apply Exists.intro
    refine⟨fun W=>?_,?_⟩
    ·go_simp
     try rfl
    try simp only[Act.put,sA,sB,sC]
    refine WL.o 7 (hi:=rfl) ?_
    intro K hK
    go_simp
    rw[HDR.out]
    refine(ye (r.drop 1) _ (by rw[List.length_drop];omega)).mono ?_
    rintro e W3 ⟨rfl,hb3⟩
    refine hK.out _ _ (.inr trivial) ?_
    clear hK K
    try simp only[Act.put,sA,sB,sC]
    refine zfq 8 (some 37) (hi:=rfl) (.inr hS) ?_
    apply Exists.intro
    refine⟨fun W=>?_,?_⟩
    ·go_simp
     try rfl
    try simp only[Act.put,sA,sB,sC]
    refine WL.o 9 (hi:=rfl) ?_
    intro K hK
    go_simp
    refine hK.out _ _ (.inr trivial) ?_
    clear hK K
    try simp only[Act.put,sA,sB,sC]
    refine WL.o 10 (hi:=rfl) ?_
    intro K hK
    go_simp
    refine hK.out _ _ (.inr trivial) ?_
    clear hK K
    try simp only[Act.put,sA,sB,sC]
    refine WL.o 11 (hi:=rfl) ?_
    intro K hK
    go_simp
    refine hK.out _ _ (.inr trivial) ?_
    clear hK K
    try simp only[Act.put,sA,sB,sC]
    refine WL.d ?_
    go_wp2_with fail
    go_ret2
    have hb03:=Below.chain HB.out (Below.chain hbd hb3)
    have hn4:=heap_alloc_new W3 (.cells #[.slice (some ⟨b0,o0,none⟩) 1 c,.string (bs r.tail)] 328)
    have hb4:=ab W3 (.cells #[.slice (some ⟨b0,o0,none⟩) 1 c,.string (bs r.tail)] 328)
    have hz3:=(Below.chain hbd hb3).size
    have hz4:=hb4.size
    have kx:=Below.keeps (Below.chain (Below.chain hbd hb3) hb4) k0
    refine⟨_,_,rfl,⟨rfl,W3.heap.size,.slice (some ⟨b0,o0,none⟩) 1 c,rfl,hb03.size,?_,?_⟩,Below.chain hb03 hb4⟩
    ·rw[HR.out];exact hn4
    ·exact⟨⟨rfl,_,_,rfl,by rw[List.length_cons] at hvc;simp;omega,by unfold maxLen;omega,fun e=>(by cases e),fun _=>⟨b0,o0,rfl,by omega,fun q u hu=>by
      match q,hu with
      |0,hu=>rw[←Option.some.inj hu];exact kx⟩⟩,fun k hk=>⟨(HOWN.out k hk).1,by have:=(HOWN.out k hk).2;omega⟩⟩
   ·rw[if_neg ht] at hr
    have et:(c0::x'==eK)=false:=beq_eq_false_iff_ne.2 ht
    have HT:=hid (fun(W:World)=>yx (c0::x') W)
    obtain⟨tn,tp,htk⟩:∃tn tp,bR (c0::x')=(tn,tp):=⟨_,_,rfl⟩
    rw[htk] at hr
    rw[htk] at HT
    simp only at hr HT
    have htn:tn≤3∧(tp=true→2≤tn):=by
     have h:(bR (c0::x')).1≤3∧((bR (c0::x')).2=true→2≤(bR (c0::x')).1):=by
      unfold bR
      split
      ·decide
      ·split
       ·decide
       ·split
        ·decide
        ·split<;>decide
     rw[htk] at h
     exact h
    unfold eK at et
    clear ht htk
    by_cases hn:tn=l.length+1
    ·subst hn
     have en:(((l.length:Int)+1) !=(l.length:Int)+1)=false:=neF rfl
     have e0:(((l.length:Int)+1)==0)=false:=eqF (by omega)
     cases tp with
     |false=>
      rw[if_neg (by simp)] at hr
      rw[hr]
      clear hr
      go_enter Tryz.func220,Tryz.ntmps220
      go_upto_region 2 with(go_at_call 279;refine(HW.out).mono ?_;rintro e w1 ⟨v,rfl,ho,hb⟩;obtain⟨a,c,rfl,hvc,hvm,hsl,hown,hxx⟩:=cp ho hll)
      obtain⟨b0,o0,rfl,hb0,aX⟩:=hxx 0 (Nat.succ_pos _)
      have k0:w1.cell? ⟨b0,o0,none⟩=some (.string (bs (c0::x'))):=aX 0 (Nat.succ_pos _)
      have HOWN:=hid (And.intro hown hsl)
      have HB:=hid hb
      clear hsl hxx aX ho hown hb
      go_wp2_with first|(go_at_call 281;refine(HT.out _).mono ?_;rintro e w2 ⟨rfl,rfl⟩)
      go_ret2
      have hn4:=heap_alloc_new w2 (.cells #[.slice (some ⟨b0,o0,none⟩) (l.length+1) c,.string ⟨#[]⟩] 328)
      have hb4:=ab w2 (.cells #[.slice (some ⟨b0,o0,none⟩) (l.length+1) c,.string ⟨#[]⟩] 328)
      exact⟨_,_,rfl,⟨rfl,w2.heap.size,.slice (some ⟨b0,o0,none⟩) (l.length+1) c,rfl,HB.out.size,hn4,⟨HOWN.out.2.below (Below.chain (Below.refl _ _) hb4) (Nat.le_refl _),fun k hk=>⟨(HOWN.out.1 k hk).1,by have:=(HOWN.out.1 k hk).2;have:=hb4.size;omega⟩⟩⟩,Below.chain HB.out hb4⟩
     |true=>
      obtain⟨y,l',rfl⟩:∃y l',l=y::l':=by
       cases l with
       |nil=>exact absurd (htn.2 rfl) (by simp)
       |cons y l'=>exact⟨y,l',rfl⟩
      have hyl:y.length≤1000000:=by have:=(fd s y (by rw[hl];simp)).2;omega
      cases hmy:dY y with
      |false=>
       rw[if_pos (.inr (.inr ⟨rfl,hmy⟩))] at hr
       rw[hr]
       clear hr
       have HMY:=hid (fun(W:World)=>i6 y (by omega) false hmy W)
       go_enter Tryz.func220,Tryz.ntmps220
       go_upto_region 2 with(go_at_call 279;refine(HW.out).mono ?_;rintro e w1 ⟨v,rfl,ho,hb⟩;obtain⟨a,c,rfl,hvc,hvm,hsl,hown,hxx⟩:=cp ho hll)
       obtain⟨b0,o0,rfl,hb0,aX⟩:=hxx 0 (Nat.succ_pos _)
       have k0:w1.cell? ⟨b0,o0,none⟩=some (.string (bs (c0::x'))):=aX 0 (Nat.succ_pos _)
       have HOWN:=hid (And.intro hown hsl)
       have HB:=hid hb
       have k1:w1.cell? ⟨b0,o0+1,none⟩=some (.string (bs y)):=aX 1 (by simp)
       clear hsl hxx aX ho hown hb
       go_wp2_with first|(go_at_call 281;refine(HT.out _).mono ?_;rintro e w2 ⟨rfl,rfl⟩)|(go_at_call 51;refine(HMY.out _).mono ?_;rintro e w3 ⟨rfl,hb3⟩)
       go_ret2
       exact⟨_,_,rfl,⟨rfl,rfl⟩,Below.chain HB.out hb3⟩
      |true=>
       rw[if_neg (by simp[hmy])] at hr
       rw[hr]
       clear hr
       have HMY:=hid (fun(W:World)=>i6 y (by omega) true hmy W)
       go_enter Tryz.func220,Tryz.ntmps220
       go_upto_region 2 with(go_at_call 279;refine(HW.out).mono ?_;rintro e w1 ⟨v,rfl,ho,hb⟩;obtain⟨a,c,rfl,hvc,hvm,hsl,hown,hxx⟩:=cp ho hll)
       obtain⟨b0,o0,rfl,hb0,aX⟩:=hxx 0 (Nat.succ_pos _)
       have k0:w1.cell? ⟨b0,o0,none⟩=some (.string (bs (c0::x'))):=aX 0 (Nat.succ_pos _)
       have HOWN:=hid (And.intro hown hsl)
       have HB:=hid hb
       have k1:w1.cell? ⟨b0,o0+1,none⟩=some (.string (bs y)):=aX 1 (by simp)
       clear hsl hxx aX ho hown hb
       go_wp2_with first|(go_at_call 281;refine(HT.out _).mono ?_;rintro e w2 ⟨rfl,rfl⟩)|(go_at_call 51;refine(HMY.out _).mono ?_;rintro e w3 ⟨rfl,hb3⟩)
       go_ret2
       have hn4:=heap_alloc_new w3 (.cells #[.slice (some ⟨b0,o0,none⟩) ((y::l').length+1) c,.string ⟨#[]⟩] 328)
       have hb4:=ab w3 (.cells #[.slice (some ⟨b0,o0,none⟩) ((y::l').length+1) c,.string ⟨#[]⟩] 328)
       exact⟨_,_,rfl,⟨rfl,w3.heap.size,.slice (some ⟨b0,o0,none⟩) ((y::l').length+1) c,rfl,(Below.chain HB.out hb3).size,hn4,⟨HOWN.out.2.below (Below.chain hb3 hb4) (Nat.le_refl _),fun k hk=>⟨(HOWN.out.1 k hk).1,Nat.lt_of_lt_of_le (HOWN.out.1 k hk).2 (Below.chain hb3 hb4).size⟩⟩⟩,Below.chain (Below.chain HB.out hb3) hb4⟩
    ·have en:((tn:Int) !=(l.length:Int)+1)=true:=neT (by omega)
     rw[if_pos (.inl (by simp only[List.length_cons];exact hn))] at hr
     rw[hr]
     clear hr
     go_enter Tryz.func220,Tryz.ntmps220
     go_upto_region 2 with(go_at_call 279;refine(HW.out).mono ?_;rintro e w1 ⟨v,rfl,ho,hb⟩;obtain⟨a,c,rfl,hvc,hvm,hsl,hown,hxx⟩:=cp ho hll)
     obtain⟨b0,o0,rfl,hb0,aX⟩:=hxx 0 (Nat.succ_pos _)
     have k0:w1.cell? ⟨b0,o0,none⟩=some (.string (bs (c0::x'))):=aX 0 (Nat.succ_pos _)
     have HOWN:=hid (And.intro hown hsl)
     have HB:=hid hb
     clear hsl hxx aX ho hown hb
     go_wp2_with first|(go_at_call 281;refine(HT.out _).mono ?_;rintro e w2 ⟨rfl,rfl⟩)
     go_ret2
     exact⟨_,_,rfl,⟨rfl,rfl⟩,HB.out⟩
theorem kM:(Tryz.prog.info? 215).map (·.size)=some 2:=by kernel_rfl
theorem rJ:liesAt Tryz.prog Tryz.prog.depth 215 (2/Tryz.prog.cellsOf 215) 0 215 1=true:=by kernel_rfl
theorem qr:(Tryz.prog.info? 5).map (fun i=>(i.zero,i.size,i.bytes))=some (some (.int .u8 0),1,1):=by kernel_rfl
set_option maxHeartbeats 1000000 in
set_option maxRecDepth 100000 in
theorem nT (b:Nat) (w:World) (h0:w.cell? ⟨b,0,none⟩=some (.pointer (some ⟨b,0,none⟩))):
 Calls Tryz.prog 151 #[.pointer (some ⟨b,0,none⟩)] w fun e w'=>e=.returned (.tuple #[])∧w'=w:=by
 obtain⟨j,hj,_⟩:=Option.map_eq_some_iff.1 kM
 go_enter Tryz.func151,Tryz.ntmps151
 go_wp2
 rw[Lib.run_neq_ptr_same w _ Tryz.underlying213 hj]
 go_wp2
 go_end0
 exact⟨rfl,rfl⟩
set_option maxHeartbeats 1000000 in
set_option maxRecDepth 100000 in
theorem mQ (b:Nat) (w:World) (h0:w.cell? ⟨b,0,none⟩=some (.pointer none)) (hsh:w.shape? b=some (215,2)) (hfz:w.frozen? ⟨b,0,none⟩=false):
 Calls Tryz.prog 151 #[.pointer (some ⟨b,0,none⟩)] w fun e w'=>e=.returned (.tuple #[])∧w'=w.setCell ⟨b,0,none⟩ (.pointer (some ⟨b,0,none⟩)):=by
 obtain⟨j,hj,hjs⟩:=Option.map_eq_some_iff.1 kM
 go_enter Tryz.func151,Tryz.ntmps151
 go_wp2
 rw[Lib.run_to_unsafe w ⟨b,0,none⟩ Tryz.underlying213 Tryz.underlying316 hj (by rw[hjs];decide) hsh (Nat.zero_lt_succ 1)]
 simp only[Result.andThen]
 rw[Oper.upon_value]
 go_wp2
 rw[run_callFunc_extern Tryz.func191 (by kernel_rfl) (by kernel_rfl) (by kernel_rfl) (e:=Extern.AbiNoEscape.same) (by kernel_rfl)]
 rw[Lib.run_noEscape]
 simp only[Result.andThen]
 rw[Oper.upon_value]
 go_wp2
 rw[Lib.run_from_unsafe w ⟨b,0,none⟩ Tryz.underlying316 Tryz.underlying213 hj hsh rJ]
 simp only[Result.andThen]
 rw[Oper.upon_value]
 go_wp2
 go_end0
 exact⟨rfl,rfl⟩
theorem jE (B b:Nat) (xs:List Value) (w:World) (h:Lib.IsBuilderF 215 5 B b xs w):
 Calls Tryz.prog 151 #[.pointer (some ⟨b,0,none⟩)] w fun e w'=>e=.returned (.tuple #[])∧(Lib.BuilderAtF 215 5 B b (.pointer (some ⟨b,0,none⟩)) xs w'∧Below B w w'∧Lib.OthersKept 5 (some b) w w'):=by
 rcases h with h|h
 ·refine(mQ b w h.cell0 h.shape h.frozen0).mono ?_
  rintro e w' ⟨rfl,rfl⟩
  exact⟨rfl,h.used _,(Below.refl B w).setCell (p:=⟨b,0,none⟩) h.1 _,(Lib.OthersKept.refl _ _ w).setCell ⟨b,0,none⟩ rfl _⟩
 ·refine(nT b w h.cell0).mono ?_
  rintro e w' ⟨rfl,rfl⟩
  exact⟨rfl,h,Below.refl B _,Lib.OthersKept.refl _ _ _⟩
set_option maxHeartbeats 1000000 in
set_option maxRecDepth 100000 in
theorem p8 (B b:Nat) (xs:List Value) (c:Int) (w:World) (h:Lib.IsBuilderF 215 5 B b xs w) (bI:xs.length+1≤140737488355328) (hBw:B≤w.heap.size):
 Calls Tryz.prog 103 #[.pointer (some ⟨b,0,none⟩),.int .u8 c] w fun e w'=>e=.returned .nilIface∧(Lib.IsBuilderF 215 5 B b (xs++[.int .u8 c]) w'∧Below B w w'∧Lib.OthersKept 5 (some b) w w'):=by
 obtain⟨i0,hi,hz0,hz1,hz2⟩:=info_parts qr
 go_enter Tryz.func103,Tryz.ntmps103
 go_wp2_with (go_at_call 151;refine(jE B b xs _ h).mono ?_)
 rintro e w1 ⟨rfl,h1,hb1,hk1⟩
 obtain⟨hB,v,hbk,hown,hne⟩:=h1
 have c0:w1.cell? ⟨b,0,none⟩=some (.pointer (some ⟨b,0,none⟩)):=by rw[Lib.cell_of_heap hbk];rfl
 have c1:w1.cell? ⟨b,1,none⟩=some v:=by rw[Lib.cell_of_heap hbk];rfl
 go_wp2_with (at_builtin;refine wpList_append_ownF _ rfl _ _ 49 rfl B 5 i0 (.int .u8 0) 1 1 Tryz.underlying49 hi hz0 hz1 hz2 rfl (by decide) _ _ _ rfl (hown.alloc _) ⟨w1.heap.size,0,none⟩ 1 1 [.int .u8 c] rfl rfl ?c1 ?c2 ?c3 ?c4 ?c5 ?_)
 case c1=>
  intro j u hj
  match j,hj with
  |0,hj=>simp at hj;subst hj;simp[Addr.add]
 case c2=>intro u hu;simp at hu;subst hu;rfl
 case c3=>unfold maxLen;omega
 case c4=>omega
 case c5=>have:=hb1.size;simp;omega
 intro v' w2 hown' hgrow _
 have aH:b<w1.heap.size:=by
  rcases Nat.lt_or_ge b w1.heap.size with h'|h'
  ·exact h'
  ·simp[Array.getElem?_eq_none h'] at hbk
 have hb2:w2.heap[b]?=some (.cells #[.pointer (some ⟨b,0,none⟩),v] 215 (0,0)):=by
  rw[hgrow.block b (by simp;omega) (fun e=>hne e.symm),Lib.alloc_old w1 _ b aH]
  exact hbk
 have d0:w2.cell? ⟨b,0,none⟩=some (.pointer (some ⟨b,0,none⟩)):=by rw[Lib.cell_of_heap hb2];rfl
 have d1:w2.cell? ⟨b,1,none⟩=some v:=by rw[Lib.cell_of_heap hb2];rfl
 have f1:w2.frozen? ⟨b,1,none⟩=false:=Lib.frozen_of_heap hb2 1
 obtain⟨g,cap,rfl⟩:∃g cap,v'=.slice (some ⟨g,0,none⟩) (xs.length+1) cap:=by
  rcases hown'.2 with⟨_,h0⟩|⟨g,cap,cur,fz,hv,_⟩
  ·omega
  ·exact⟨g,cap,hv⟩
 go_wp2
 go_ret
 refine⟨rfl,.inr ?_,?_,((hk1.alloc _).grown hgrow (Lib.ownsRowF_kind (hown.alloc _))).setCell ⟨b,1,none⟩ rfl _⟩
 ·exact Lib.BuilderAtF.put (T:=215) (e:=5) hB hb2 (bs':=xs++[.int .u8 c]) (by simpa using hown') (by decide)
 ·exact((hb1.alloc (by have:=hb1.size;omega) _).grown hgrow (by have:=hb1.size;simp;omega) (fun k hk=>(hown.lt k hk).1)).setCell (p:=⟨b,1,none⟩) hB _
set_option maxHeartbeats 1000000 in
set_option maxRecDepth 100000 in
theorem mO (B b:Nat) (xs:List Value) (s:ByteArray) (w:World) (h:Lib.IsBuilderF 215 5 B b xs w) (bI:xs.length+s.size≤140737488355328) (hBw:B≤w.heap.size):
 Calls Tryz.prog 101 #[.pointer (some ⟨b,0,none⟩),.string s] w fun e w'=>e=.returned (.tuple #[.int .i64 s.size,.nilIface])∧(Lib.IsBuilderF 215 5 B b (xs++Lib.strCells s) w'∧Below B w w'∧Lib.OthersKept 5 (some b) w w'):=by
 obtain⟨i0,hi,hz0,hz1,hz2⟩:=info_parts qr
 go_enter Tryz.func101,Tryz.ntmps101
 go_wp2_with (go_at_call 151;refine(jE B b xs _ h).mono ?_)
 rintro e w1 ⟨rfl,h1,hb1,hk1⟩
 obtain⟨hB,v,hbk,hown,hne⟩:=h1
 have c0:w1.cell? ⟨b,0,none⟩=some (.pointer (some ⟨b,0,none⟩)):=by rw[Lib.cell_of_heap hbk];rfl
 have c1:w1.cell? ⟨b,1,none⟩=some v:=by rw[Lib.cell_of_heap hbk];rfl
 go_wp2_with (at_builtin;refine Lib.wpList_append_own_stringF _ rfl _ _ 49 9 rfl B 5 i0 Tryz.underlying49 Tryz.underlying9 hi hz0 hz1 hz2 _ _ _ rfl hown s rfl ?c3 ?c4 ?c5 ?_)
 case c3=>unfold maxLen;omega
 case c4=>omega
 case c5=>have:=hb1.size;omega
 intro v' w2 hown' hgrow _
 have aH:b<w1.heap.size:=by
  rcases Nat.lt_or_ge b w1.heap.size with h'|h'
  ·exact h'
  ·simp[Array.getElem?_eq_none h'] at hbk
 have hb2:w2.heap[b]?=some (.cells #[.pointer (some ⟨b,0,none⟩),v] 215 (0,0)):=by
  rw[hgrow.block b aH (fun e=>hne e.symm)]
  exact hbk
 have d0:w2.cell? ⟨b,0,none⟩=some (.pointer (some ⟨b,0,none⟩)):=by rw[Lib.cell_of_heap hb2];rfl
 have d1:w2.cell? ⟨b,1,none⟩=some v:=by rw[Lib.cell_of_heap hb2];rfl
 have f1:w2.frozen? ⟨b,1,none⟩=false:=Lib.frozen_of_heap hb2 1
 obtain⟨ao,n',cap,rfl⟩:∃ao n' cap,v'=.slice ao n' cap:=by
  rcases hown'.2 with⟨hv,_⟩|⟨g,cap,cur,fz,hv,_⟩
  ·exact⟨_,_,_,hv⟩
  ·exact⟨_,_,_,hv⟩
 go_wp2
 go_ret2
 refine⟨rfl,.inr ?_,?_,(hk1.grown hgrow (Lib.ownsRowF_kind hown)).setCell ⟨b,1,none⟩ rfl _⟩
 ·exact Lib.BuilderAtF.put (T:=215) (e:=5) hB hb2 (bs':=xs++Lib.strCells s) (by simpa[Lib.strCells_length] using hown') (by decide)
 ·exact(hb1.grown hgrow (by have:=hb1.size;omega) (fun k hk=>(hown.lt k hk).1)).setCell (p:=⟨b,1,none⟩) hB _
theorem gC (l r:List UInt8):Lib.byteCells (l++r)=Lib.byteCells l++Lib.byteCells r:=by simp[Lib.byteCells]
theorem qb (l:List UInt8):Lib.strCells (bs l)=Lib.byteCells l:=by
 simp[Lib.strCells,Lib.byteCells,bs]
theorem tQ (B b:Nat) (l:List UInt8) (c:UInt8) (w:World) (h:Lib.IsBuilderF 215 5 B b (Lib.byteCells l) w) (bI:l.length+1≤140737488355328) (hBw:B≤w.heap.size):
 Calls Tryz.prog 103 #[.pointer (some ⟨b,0,none⟩),.int .u8 c.toNat] w fun e w'=>e=.returned .nilIface∧(Lib.IsBuilderF 215 5 B b (Lib.byteCells (l++[c])) w'∧Below B w w'∧Lib.OthersKept 5 (some b) w w'):=by
 have:=p8 B b (Lib.byteCells l) c.toNat w h (by simpa[Lib.byteCells] using bI) hBw
 rw[gC];exact this
theorem gu (B b:Nat) (l r:List UInt8) (w:World) (h:Lib.IsBuilderF 215 5 B b (Lib.byteCells l) w) (bI:l.length+r.length≤140737488355328) (hBw:B≤w.heap.size):
 Calls Tryz.prog 101 #[.pointer (some ⟨b,0,none⟩),.string (bs r)] w fun e w'=>e=.returned (.tuple #[.int .i64 r.length,.nilIface])∧(Lib.IsBuilderF 215 5 B b (Lib.byteCells (l++r)) w'∧Below B w w'∧Lib.OthersKept 5 (some b) w w'):=by
 have:=mO B b (Lib.byteCells l) (bs r) w h (by simpa[Lib.byteCells,aV] using bI) hBw
 rw[gC];rw[qb] at this;exact this
theorem iz (w:World) (B:Nat) (hB:B≤w.heap.size):Lib.IsBuilderF 215 5 B w.heap.size (Lib.byteCells []) (w.alloc (.cells #[.pointer none,.slice none 0 0] 215 (0,0))):=
 .inl ⟨hB,.slice none 0 0,heap_alloc_new w _,⟨by simp[Lib.byteCells],.inl ⟨rfl,by simp[Lib.byteCells]⟩⟩,by simp[Value.ownBlock]⟩
theorem iB {T e:TypeId} {B b:Nat} {p:Value} {xs:List Value} {w w':World} (h:Lib.BuilderAtF T e B b p xs w) (hb:Below w.heap.size w w'):Lib.BuilderAtF T e B b p xs w':=by
 obtain⟨hB,v,hbk,⟨hl,hown⟩,hne⟩:=h
 refine⟨hB,v,(hb.block b (Array.getElem?_eq_some_iff.1 hbk).1).trans hbk,⟨hl,?_⟩,hne⟩
 rcases hown with h0|⟨g,cap,cur,fz,hv,hg,hh,r⟩
 ·exact .inl h0
 ·exact .inr ⟨g,cap,cur,fz,hv,hg,(hb.block g (Array.getElem?_eq_some_iff.1 hh).1).trans hh,r⟩
theorem mN {T e:TypeId} {B b:Nat} {xs:List Value} {w w':World} (h:Lib.IsBuilderF T e B b xs w) (hb:Below w.heap.size w w'):Lib.IsBuilderF T e B b xs w':=
 h.elim (fun x=>.inl (iB x hb)) (fun x=>.inr (iB x hb))
theorem var?_kept {P:Program} {w w':World} {n:String} {cs:Array Value} (hv:w.var? P n=some cs) (hb:Below w.heap.size w w'):w'.var? P n=some cs:=by
 unfold World.var? at hv ⊢
 cases hg:P.globalNamed n with
 |none=>simp[hg] at hv
 |some g=>
  simp only[hg,Option.bind_some] at hv ⊢
  by_cases aH:g<w.heap.size
  ·rw[hb.block g aH];exact hv
  ·rw[Array.getElem?_eq_none (by omega)] at hv;simp at hv
theorem tg {P:Program} {w w':World} {n:String} {k:IntKind} {zs:List Int} (h:Lib.TabIs P w n k zs) (hb:Below w.heap.size w w'):Lib.TabIs P w' n k zs:=var?_kept h hb
theorem sE (B b:Nat) (l:List UInt8) (w:World) (h:Lib.IsBuilderF 215 5 B b (Lib.byteCells l) w) (hBw:B≤w.heap.size):
 Calls Tryz.prog 104 #[.pointer (some ⟨b,0,none⟩)] w fun e w'=>e=.returned (.string (bs l))∧Lib.IsBuilderF 215 5 B b (Lib.byteCells l) w'∧Below B w w':=
 (Tryz.Builder_String_any_k B b l w h hBw).mono fun _ _ ⟨h1,h2,h3,_⟩=>⟨h1,h2,h3⟩
def eG (w:World):Prop:=Lib.TabIs Tryz.prog w "internal/strconv.uint64pow10" .u64 Lib.pow10Tab
theorem eG.below {w w':World} (h:eG w) (hb:Below w.heap.size w w'):eG w':=tg h hb
theorem uT (w:World) (k:Nat) (os:Array Obj):Below w.heap.size w (Go.Sort.grow (w.drewN k) os):=by
 refine⟨rfl,rfl,rfl,?_,fun i hi=>?_⟩
 ·simp[Go.Sort.grow,World.drewN]
 ·simp[Go.Sort.grow,World.drewN,Array.getElem?_append,hi]
theorem s8 (n:Nat) (w:World) (hn:n≤9223372036854775807) (ht:eG w):
 Calls Tryz.prog 102 #[.int .i64 n] w fun e w'=>e=.returned (.string (bs (dig n)))∧Below w.heap.size w w':=by
 refine(Tryz.strconv_Itoa n (by omega) (by omega) w ht).mono ?_
 rintro e w' ⟨rfl,k,os,rfl⟩
 exact⟨by rw[o7];rfl,uT w k os⟩
set_option maxHeartbeats 400000 in
theorem xx (v0:Value) (n0:Nat) (ss:List (List UInt8)) (w:World) (h0:ap w 1 v0 n0 (ag ss)) (ht:eG w) (hbig:(bK ss).length≤1000000000000):
 Calls Tryz.prog 54 #[v0] w fun e w'=>e=.returned (.string (bs (bK ss)))∧Below w.heap.size w w':=by
 have h00:=h0
 obtain⟨rfl,a0,c0,rfl,hc0,hm0,hx0⟩:=h0.str
 clear h0 hx0
 unfold maxLen at hm0
 go_enter Tryz.func54,Tryz.ntmps54
 go_wp2
 go_loopw [8] (fun i wr=>∃k:Nat,k≤ss.length∧i=.int .i64 k∧Lib.IsBuilderF 215 5 w.heap.size w.heap.size (Lib.byteCells (bK (ss.take k))) wr∧Below w.heap.size w wr) (fun i _=>ss.length-(intOf i).toNat)
 case atStart=>exact⟨0,by omega,rfl,iz w _ (Nat.le_refl _),(Below.refl _ _).alloc (Nat.le_refl _) _⟩
 case round=>
  obtain⟨k,hk,rfl,hbd,hbw⟩:=hrel
  obtain⟨-,a1,c1,hv, -, -,hx1⟩:=(h00.below hbw (Nat.le_refl _)).str
  have hsz:=hbw.size
  by_cases aH:k<ss.length
  ·obtain⟨b0,o0,rfl,hb0,hcl0⟩:=hx1 k aH
   have e0:=hcl0 k aH
   obtain⟨rfl,rfl⟩:a0=some ⟨b0,o0,none⟩∧c0=c1:=by simpa using hv
   clear hcl0 hx1 hv
   have hr1:(bK (ss.take (k+1))).length≤(bK ss).length:=rP _ _
   have Hr:=hid (oM ss k aH)
   have hr2:(bK (ss.take k)).length+((dig ss[k].length).length+1+ss[k].length)≤(bK ss).length:=by rw[Hr.out] at hr1;simp at hr1;omega
   go_wp2_with (go_at_call 102;refine(s8 _ _ (by omega) (ht.below hbw)).mono ?_;rintro e w1 ⟨rfl,hb1⟩)
   have s1:=hb1.size
   refine(gu _ _ _ _ _ (mN hbd hb1) (by omega) (by omega)).mono ?_
   rintro e w2 ⟨rfl,hd2,hb2, -⟩
   have s2:=hb2.size
   go_wp2_with fail
   refine(tQ _ _ _ 58 _ hd2 (by simp;omega) (by omega)).mono ?_
   rintro e w3 ⟨rfl,hd3,hb3, -⟩
   have s3:=hb3.size
   go_wp2_with fail
   refine(gu _ _ _ _ _ hd3 (by simp;omega) (by omega)).mono ?_
   rintro e w4 ⟨rfl,hd4,hb4, -⟩
   go_wp2
   refine⟨⟨k+1,by omega,by go_num,?_,((hbw.trans (hb1.mono hsz)).trans hb2).trans (hb3.trans hb4)⟩,by simp[intOf];omega⟩
   rw[Hr.out];simpa using hd4
  ·go_wp2_with fail
   refine(sE _ _ _ _ hbd hsz).mono ?_
   rintro e w1 ⟨rfl, -,hb1⟩
   go_wp2
   go_ret
   exact⟨by rw[List.take_of_length_le (by omega)];rfl,hbw.trans hb1⟩
theorem nI {W:World} {b off cap:Nat} {l:List UInt8} (h:W.rangeAt b off (Lib.byteCells l)):(convert 49 9 (.slice (some ⟨b,off,none⟩) l.length cap)).run Tryz.prog W=.ok (.string (bs l)) W:=
 run_convert_bytes_back W 49 9 5 ⟨b,off,none⟩ cap l Tryz.underlying49 (by kernel_rfl) (by kernel_rfl) fun j hj=>by
  rw[Addr.add_lit]
  exact h j _ (by simp[Lib.byteCells,hj])
theorem aS {w w':World} {B base e sz n:Nat} {v:Value} {xs:List Value} (h:w.ownsRow base e sz v n xs) (hb:Below B w w') (hB:w.heap.size≤B):w'.ownsRow base e sz v n xs:=aJ h fun k hk=>hb.block k (by have:=(h.lt k hk).2;omega)
section
variable {k:Int} {i:Nat} {s:Dg} {d:List UInt8} {t:Value} {y:Int} {r:List (Nat×Value)}
end
theorem br2 {ty:TypeId} {d:TypeDesc} (hu:Tryz.prog.underlying ty=some d) {fn:Func} {p u:Tmp} {R:Ending→World→Prop} {a:Act} {w:World} (g:Nat) {t:TypeId} {cs:Array Value} {fr:Nat×Nat} (hg:w.heap[g]?=some (.cells cs t fr)) (hR:R (.returned (.tuple #[.agg cs,a.tmps.getD u undef])) w) (h:fn.results=#[.cell p ty,.tmp u]:=by rfl) (hp:a.tmps.getD p undef=.pointer (some ⟨g,0,none⟩):=by rfl)
 (hd:(match d with|.struct _|.array _ _=>true|_=>false)=true:=by rfl) (hi:(Tryz.prog.info? ty).map (·.size)=some cs.size:=by kernel_rfl) (hf:a.defers=[]:=by rfl):bodyPost Tryz.prog fn R .ret a w:=by
 refine bodyPost_ret (v:=.tuple #[.agg cs,a.tmps.getD u undef]) ?_ hf hR
 have hp':a.tmps[p]?.getD undef=.pointer (some ⟨g,0,none⟩):=by simpa using hp
 cases d<;>simp at hd<;>simp[results,h,hp',asAddr,run_loadVar_row w g t ty cs fr _ hg hu rfl hi]
section
variable {o:Oper} {a:Act} {w:World} {Q:Exit→Act→World→Prop} {K:Act→World→Prop}
theorem s9 {ty n:Nat} (_:cY ty n)
 (h:∀(zs:Array Value) (W1:World),zs.size=n→Below w.heap.size w W1→W1.heap[w.heap.size]?=some (.cells zs ty (0,0))→W1.heap.size=w.heap.size+1→K (a.put o.dst (.pointer (some ⟨w.heap.size,0,none⟩))) W1)
 (ho:o.op=.alloc ty:=by rfl) (hz:pr ty n=true:=by kernel_rfl):Oper.wp Tryz.prog o a w K Q:=by
 obtain⟨zs,hzs,hz⟩:=j8 hz
 unfold Oper.wp execOp
 simp only[ho,Sem.run_bind,eV w hz,Result.andThen_ok,Sem.run_pure]
 exact h zs _ hzs (ab w _) (heap_alloc_new w _) (by rw[World.size_alloc])
theorem nG {ty n r:Nat} {xs old:Array Value} {x y:Operand} {t:TypeId} (rt:cY ty n) (hr:w.heap[r]?=some (.cells old t (0,0))) (hold:old.size=n) (hs:xs.size=n) (h1:∀u∈xs.toList,u.oneCell'=true)
 (h:∀W1,bg r w W1→W1.heap[r]?=some (.cells xs t (0,0))→W1.heap.size=w.heap.size→K (a.put o.dst undef) W1)
 (ho:o.op=.store ty x y:=by rfl) (hx:a.eval x=.pointer (some ⟨r,0,none⟩):=by rfl) (hy:a.eval y=.agg xs:=by rfl):Oper.wp Tryz.prog o a w K Q:=by
 obtain⟨d,_,_,h3⟩:=rt.out
 have aH:r<w.heap.size:=(Array.getElem?_eq_some_iff.1 hr).1
 have hst:=run_storeVar_row (P:=Tryz.prog) w r t ty old xs hr (by rw[h3,hs]) (by rw[hold,hs]) (by rw[←Array.toArray_toList (xs:=xs)];exact all_oneCell_toArray h1)
 unfold Oper.wp execOp
 simp only[ho,hx,hy,Instr.storeAt,Instr.sureAddr,Sem.run_bind,Sem.run_pure,Result.andThen_ok,hst]
 exact h _ ⟨aH,rfl,rfl,rfl,by simp,fun k _ hne=>setRow_other _ _ _ _ hne⟩ (setRow_heap _ _ _ _ _ _ hr) (by simp)
end
theorem zeB (m:Int) (h1:0≤m) (h2:m<32):bits .and .u64 m 31=m:=by
 obtain⟨k,rfl⟩:=Int.eq_ofNat_of_zero_le h1
 have:=u64_and_nat k 31 (by omega) (by omega)
 rw[show((31:Nat):Int)=31 from rfl] at this
 rw[this,show(31:Nat)=2^5-1 from rfl,Nat.and_two_pow_sub_one_eq_mod,Nat.mod_eq_of_lt (by omega)]
set_option maxHeartbeats 400000 in
theorem zbK (x m:Int) (h1:0≤m) (h2:m<32) (w:World):Calls Tryz.prog 216 #[.int .u32 x,.int .i64 m] w fun e w'=>e=.returned (.int .u32 (jW x (32-m)))∧w'=w:=by
 have hm:=zeB m h1 h2
 have hw:m%18446744073709551616=m:=by omega
 have hw2:(32-m)%18446744073709551616=32-m:=by omega
 have h4:0≤32-m:=by omega
 have e:jW x (32-m)=bits .or .u32 (x*2^m.toNat%4294967296) (x/2^(32-m).toNat):=by
  unfold jW
  rw[si,show 32-(32-m)=m by omega]
 rw[e]
 clear e
 go_enter Tryz.func216,Tryz.ntmps216
 go_wp2_with fail
 go_ret
 exact⟨rfl,rfl⟩
def aj (ws:List Int):List Value:=ws.map (.int .u32)
theorem aL (ws:List Int):(aj ws).length=ws.length:=by simp[aj]
theorem dl (ws:List Int) (k:Nat) (h:k<ws.length):(aj ws)[k]?=some (.int .u32 (ws.getD k 0)):=by simp[aj,h]
theorem jI (ws:List Int):∀u∈aj ws,u.oneCell'=true:=by
 intro u hu
 simp only[aj,List.mem_map] at hu
 obtain⟨s,_,rfl⟩:=hu;rfl
theorem ap.bytes {w:World} {v:Value} {n:Nat} {l:List UInt8} (h:ap w 1 v n (Lib.byteCells l)) (hp:0<l.length):n=l.length∧∃b off c,v=.slice (some ⟨b,off,none⟩) l.length c∧l.length≤c∧c≤maxLen∧b<w.heap.size∧
 ∀j,j<l.length→w.cell? ⟨b,off+j,none⟩=some (.int .u8 (dn l j)):=by
 obtain⟨hl,a,c,rfl,hc,hm, -,hx⟩:=h
 have hn:n=l.length:=by rw[aU] at hl;omega
 subst hn
 obtain⟨b,off,rfl,hb,aX⟩:=hx (by intro e;have:=aU l;rw[e] at this;simp at this;omega)
 refine⟨rfl,b,off,c,rfl,hc,hm,hb,fun j hj=>?_⟩
 rw[aX j _ (jO l j hj)]
 simp[dn,hj]
theorem ym (l:List UInt8) (j:Nat):0≤dn l j∧dn l j<256:=by
 unfold dn
 have:=(l.getD j 0).toNat_lt
 omega
end Go.Proofs.YtlbipokkdiiaiaaGreatDoor
