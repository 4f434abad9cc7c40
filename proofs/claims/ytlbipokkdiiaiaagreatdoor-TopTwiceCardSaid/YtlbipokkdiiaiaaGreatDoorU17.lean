/- Lemmas for TopTwice: ShaPlain, W9, W11, W13. -/
import Derived.Test.YtlbipokkdiiaiaaGreatDoorU10
import Derived.Laws.BitsAllLaws
import Derived.Test.YtlbipokkdiiaiaaGreatDoorU14
import Derived.Test.YtlbipokkdiiaiaaGreatDoorU15
import Derived.Test.YtlbipokkdiiaiaaGreatDoorU12
import Derived.Lib.SliceRun
open List renaming setIfInBounds_toArray → sA, set_cons_zero → sB, set_cons_succ → sC
namespace Go.Proofs.YtlbipokkdiiaiaaGreatDoor
open Go.RowKit
def rotI (x n : Int) : Int := bits .or .u32 (x / 2 ^ n.toNat) (x * 2 ^ (32 - n).toNat % 4294967296)
theorem bits_or_comm (k : IntKind) (a b : Int) : bits .or k a b = bits .or k b a := by
 show k.wrap ((BitVec.ofInt k.bits a ||| BitVec.ofInt k.bits b).toNat : Int) = k.wrap ((BitVec.ofInt k.bits b ||| BitVec.ofInt k.bits a).toNat : Int)
 rw [BitVec.or_comm]
def shaS0 (x : Int) : Int := bits .xor .u32 (bits .xor .u32 (rotI x 7) (rotI x 18)) (x / 8)
def shaS1 (x : Int) : Int := bits .xor .u32 (bits .xor .u32 (rotI x 17) (rotI x 19)) (x / 1024)
def nextI (a b c d : Int) : Int := (((a + shaS0 b) % 4294967296 + c) % 4294967296 + shaS1 d) % 4294967296
theorem nextI_flat (a b c d : Int) : nextI a b c d = (a + shaS0 b + c + shaS1 d) % 4294967296 := by unfold nextI; omega
def nextW (ws : List Int) (i : Nat) : Int := nextI (ws.getD (i - 16) 0) (ws.getD (i - 15) 0) (ws.getD (i - 7) 0) (ws.getD (i - 2) 0)
def wordI (a b c d : Int) : Int := bits .or .u32 (bits .or .u32 (bits .or .u32 (a * 16777216) (b * 65536)) (c * 256)) d
def byteAt (b : List UInt8) (i : Nat) : Int := (b.getD i 0).toNat
def wordAt (b : List UInt8) (i : Nat) : Int := wordI (byteAt b (4 * i)) (byteAt b (4 * i + 1)) (byteAt b (4 * i + 2)) (byteAt b (4 * i + 3))
def notI (x : Int) : Int := bits .xor .u32 (if IntKind.u32.signed = true then -1 else IntKind.u32.max) x
def shaT1 (e f g h k w : Int) : Int :=
 h + bits .xor .u32 (bits .xor .u32 (rotI e 6) (rotI e 11)) (rotI e 25) + bits .xor .u32 (bits .and .u32 e f) (bits .and .u32 (notI e) g) + k + w
def shaT2 (a b c : Int) : Int :=
 bits .xor .u32 (bits .xor .u32 (rotI a 2) (rotI a 13)) (rotI a 22) + bits .xor .u32 (bits .xor .u32 (bits .and .u32 a b) (bits .and .u32 a c)) (bits .and .u32 b c)
def schedTo (b : List UInt8) : Nat → List Int
 | 0 => []
 | k + 1 => schedTo b k ++ [if k < 16 then wordAt b k else nextW (schedTo b k) k]
theorem schedTo_len (b : List UInt8) (k : Nat) : (schedTo b k).length = k := by
 induction k with
 | zero => rfl
 | succ k ih => rw [schedTo, List.length_append, ih]; rfl
def schedL (b : List UInt8) : List Int := schedTo b 64
def shaStep (v : List Int) (k w : Int) : List Int :=
 let t := shaT1 (v.getD 4 0) (v.getD 5 0) (v.getD 6 0) (v.getD 7 0) k w
 [(t + shaT2 (v.getD 0 0) (v.getD 1 0) (v.getD 2 0)) % 4294967296, v.getD 0 0, v.getD 1 0, v.getD 2 0, (v.getD 3 0 + t) % 4294967296, v.getD 4 0, v.getD 5 0, v.getD 6 0]
def stepsTo (ks ws h : List Int) : Nat → List Int
 | 0 => h
 | n + 1 => shaStep (stepsTo ks ws h n) (ks.getD n 0) (ws.getD n 0)
theorem stepsTo_len {ks ws h : List Int} (hh : h.length = 8) (n : Nat) : (stepsTo ks ws h n).length = 8 := by
 cases n with
 | zero => exact hh
 | succ n => rfl
def sumsTo (h v : List Int) (k : Nat) : List Int := (List.range k).map fun i => (h.getD i 0 + v.getD i 0) % 4294967296
def sumsL (h v : List Int) : List Int := sumsTo h v 8
def compressL (ks h : List Int) (b : List UInt8) : List Int := sumsL h (stepsTo ks (schedL b) h 64)
theorem compressL_len (ks h : List Int) (b : List UInt8) : (compressL ks h b).length = 8 := by unfold compressL sumsL sumsTo; simp
def foldB (ks h : List Int) (b : List UInt8) : List Int :=
 if _h : b.length < 64 then h else foldB ks (compressL ks h (b.take 64)) (b.drop 64)
termination_by b.length
decreasing_by rw [List.length_drop]; omega
theorem foldB_short {ks h : List Int} {b : List UInt8} (hb : b.length < 64) : foldB ks h b = h := by rw [foldB, dif_pos hb]
theorem foldB_more {ks h : List Int} {b : List UInt8} (hb : 64 ≤ b.length) : foldB ks h b = foldB ks (compressL ks h (b.take 64)) (b.drop 64) := by rw [foldB, dif_neg (by omega)]
def openB (b : List UInt8) : List UInt8 := b.drop (b.length / 64 * 64)
theorem foldB_app (ks : List Int) (k : Nat) : ∀ (h : List Int) (a b : List UInt8), a.length = 64 * k → foldB ks h (a ++ b) = foldB ks (foldB ks h a) b := by
 induction k with
 | zero =>
   intro h a b ha
   have : a = [] := List.length_eq_zero_iff.1 (by omega)
   subst this
   rw [foldB_short (b := []) (by simp), List.nil_append]
 | succ k ih =>
   intro h a b ha
   have hd : (a.drop 64).length = 64 * k := by rw [List.length_drop]; omega
   rw [foldB_more (b := a ++ b) (by rw [List.length_append]; omega), foldB_more (b := a) (by omega), List.take_append_of_le_length (by omega), List.drop_append_of_le_length (by omega), ih _ _ _ hd]
theorem foldB_whole (ks h : List Int) (b : List UInt8) : foldB ks h (b.take (b.length / 64 * 64)) = foldB ks h b := by
 have e : b = b.take (b.length / 64 * 64) ++ openB b := by unfold openB; rw [List.take_append_drop]
 have hl : (b.take (b.length / 64 * 64)).length = 64 * (b.length / 64) := by rw [List.length_take]; omega
 have hs : (openB b).length < 64 := by unfold openB; rw [List.length_drop]; omega
 conv => rhs; rw [e]
 rw [foldB_app ks _ h _ _ hl, foldB_short hs]
theorem foldB_add (ks h : List Int) (a b : List UInt8) : foldB ks (foldB ks h a) (openB a ++ b) = foldB ks h (a ++ b) := by
 have e : a = a.take (a.length / 64 * 64) ++ openB a := by unfold openB; rw [List.take_append_drop]
 have hl : (a.take (a.length / 64 * 64)).length = 64 * (a.length / 64) := by rw [List.length_take]; omega
 conv => rhs; rw [e, List.append_assoc]
 rw [foldB_app ks _ h _ _ hl, foldB_whole]
theorem openB_lt (b : List UInt8) : (openB b).length < 64 := by unfold openB; rw [List.length_drop]; omega
theorem openB_add (a b : List UInt8) : openB (openB a ++ b) = openB (a ++ b) := by
 have e : a = a.take (a.length / 64 * 64) ++ openB a := by unfold openB; rw [List.take_append_drop]
 have hl : (a.take (a.length / 64 * 64)).length = a.length / 64 * 64 := by rw [List.length_take]; omega
 have hla : a.length = a.length / 64 * 64 + (openB a).length := by unfold openB; rw [List.length_drop]; omega
 have e2 : a ++ b = a.take (a.length / 64 * 64) ++ (openB a ++ b) := by rw [← List.append_assoc, ← e]
 have hq : (a ++ b).length / 64 * 64 = a.length / 64 * 64 + (openB a ++ b).length / 64 * 64 := by
  simp only [List.length_append]; omega
 show (openB a ++ b).drop ((openB a ++ b).length / 64 * 64) = (a ++ b).drop ((a ++ b).length / 64 * 64)
 rw [hq, e2]
 generalize openB a ++ b = c at *
 generalize a.take (a.length / 64 * 64) = d at *
 rw [← hl, List.drop_append]
 rw [List.drop_of_length_le (l := d) (by omega), List.nil_append, show d.length + c.length / 64 * 64 - d.length = c.length / 64 * 64 by omega]
def zerosL (n : Nat) : List UInt8 := List.replicate ((119 - n % 64) % 64) 0
def lenTo (n : Nat) : Nat → List UInt8
 | 0 => []
 | k + 1 => lenTo n k ++ [UInt8.ofNat (8 * n / 2 ^ (8 * (7 - k)) % 256)]
def lenL (n : Nat) : List UInt8 := lenTo n 8
theorem byte_of (m : Nat) : ((UInt8.ofNat (m % 256)).toNat : Int) = (m : Int) % 256 := by
 rw [UInt8.toNat_ofNat_of_lt' (by have := Nat.mod_lt m (show 0 < 256 by decide); exact this)]
 omega
def padL (s : List UInt8) : List UInt8 := s ++ 128 :: zerosL s.length ++ lenL s.length
def shaK : List Int := [1116352408, 1899447441, 3049323471, 3921009573, 961987163, 1508970993, 2453635748, 2870763221, 3624381080, 310598401, 607225278, 1426881987, 1925078388, 2162078206, 2614888103, 3248222580, 3835390401, 4022224774, 264347078, 604807628, 770255983, 1249150122, 1555081692, 1996064986, 2554220882, 2821834349, 2952996808, 3210313671, 3336571891, 3584528711, 113926993, 338241895, 666307205, 773529912, 1294757372, 1396182291, 1695183700, 1986661051, 2177026350, 2456956037, 2730485921, 2820302411, 3259730800, 3345764771, 3516065817, 3600352804, 4094571909, 275423344, 430227734, 506948616, 659060556, 883997877, 958139571, 1322822218, 1537002063, 1747873779, 1955562222, 2024104815, 2227730452, 2361852424, 2428436474, 2756734187, 3204031479, 3329325298]
def shaH : List Int := [1779033703, 3144134277, 1013904242, 2773480762, 1359893119, 2600822924, 528734635, 1541459225]
def digAt (v : List Int) (i : Nat) : Int := v.getD (i / 4) 0 / 2 ^ (24 - 8 * (i % 4)) % 256
def digestL (v : List Int) : List Int := (List.range 32).map (digAt v)
def digA (v : List Int) (k : Nat) : Array Value := ((List.range 32).map fun i => Value.int .u8 (if i < k then digAt v i else 0)).toArray
theorem digA_size (v : List Int) (k : Nat) : (digA v k).size = 32 := by simp [digA]
theorem digA_more (v : List Int) (k : Nat) : (digA v k).setIfInBounds k (.int .u8 (digAt v k)) = digA v (k + 1) := by
 apply Array.ext
 ·simp [digA]
 ·intro i h1 h2
  rw [Array.size_setIfInBounds, digA_size] at h1
  rw [Array.getElem_setIfInBounds (by rw [digA_size]; exact h1)]
  by_cases hik : k = i
  ·subst hik; rw [if_pos rfl]; simp [digA]
  ·rw [if_neg hik]
   have : (i < k + 1) = (i < k) := by apply propext; omega
   simp [digA, this]
theorem digA_all (v : List Int) : digA v 32 = ((digestL v).map (Value.int .u8)).toArray := by
 unfold digA digestL
 rw [List.map_map]
 refine congrArg List.toArray (List.map_congr_left ?_)
 intro i hi
 rw [List.mem_range] at hi
 simp only [Function.comp, if_pos hi]
theorem foldB_next (ks h : List Int) (b : List UInt8) (k : Nat) (hk : 64 * k + 64 ≤ b.length) : foldB ks h (b.take (64 * k + 64)) = compressL ks (foldB ks h (b.take (64 * k))) ((b.drop (64 * k)).take 64) := by
 rw [List.take_add, foldB_app ks k h _ _ (by rw [List.length_take]; omega), foldB_more (by rw [List.length_take, List.length_drop]; omega)]
 rw [List.take_take, Nat.min_self, List.drop_take, Nat.sub_self, List.take_zero, foldB_short (b := []) (by simp)]
def sumL (s : List UInt8) : List Int := digestL (foldB shaK shaH (padL s))
theorem sumL_open (s : List UInt8) : foldB shaK (foldB shaK shaH s) (openB s ++ (128 :: zerosL s.length ++ lenL s.length)) = foldB shaK shaH (padL s) := by
 rw [foldB_add]
 unfold padL
 rw [List.append_assoc]
def accW (b : List UInt8) (j : Nat) : Nat → Int
 | 0 => 0
 | m + 1 => bits .or .u32 (accW b j m * 256 % 4294967296) (byteAt b (4 * j + m))
theorem or_bytes (a : Nat) (b : UInt8) (h : a * 256 + 256 ≤ 4294967296) : bits .or .u32 ((a : Int) * 256) ((b.toNat : Nat) : Int) = ((a * 256 + b.toNat : Nat) : Int) := by
 have hb := b.toNat_lt
 have := u32_or_nat (a * 256) b.toNat (by omega) (by omega)
 rw [show ((a * 256 : Nat) : Int) = (a : Int) * 256 by omega] at this
 rw [this, Nat.mul_comm a 256, show (256 : Nat) = 2 ^ 8 from rfl, ← Nat.two_pow_add_eq_or_of_lt (by omega)]
theorem or_high (a b n : Nat) (ha : a * (256 * n) + 256 * n ≤ 4294967296) (hb : b < 256) (k : Nat) (hn : n = 2 ^ k) : bits .or .u32 ((a * (256 * n) : Nat) : Int) ((b * n : Nat) : Int) = ((a * 256 + b) * n : Nat) := by
 have hbn : b * n < 256 * n := Nat.mul_lt_mul_of_pos_right hb (by rw [hn]; exact Nat.two_pow_pos k)
 have e := u32_or_nat (a * (256 * n)) (b * n) (by omega) (by omega)
 rw [e, hn, show 256 * 2 ^ k = 2 ^ (8 + k) by rw [Nat.pow_add], Nat.mul_comm a, ← Nat.two_pow_add_eq_or_of_lt (by rw [Nat.pow_add]; rw [hn] at hbn; exact hbn)]
 congr 1
 rw [Nat.pow_add, Nat.add_mul]
 congr 1
 rw [Nat.mul_comm (2 ^ 8 * 2 ^ k) a, Nat.mul_assoc]
theorem accW_word (b : List UInt8) (j : Nat) : accW b j 4 = wordAt b j := by
 unfold wordAt
 simp only [accW, Nat.add_zero]
 have lt : ∀ i, (b.getD i 0).toNat < 256 := fun i => (b.getD i 0).toNat_lt
 have e0 : bits .or .u32 (0 * 256 % 4294967296) (byteAt b (4 * j)) = ((b.getD (4 * j) 0).toNat : Int) := by
  have := or_bytes 0 (b.getD (4 * j) 0) (by omega)
  simpa [byteAt] using this
 rw [e0]
 have s : ∀ (a i : Nat), a * 256 + 256 ≤ 4294967296 → bits .or .u32 ((a : Int) * 256 % 4294967296) (byteAt b i) = ((a * 256 + (b.getD i 0).toNat : Nat) : Int) := fun a i h => by
  rw [Int.emod_eq_of_lt (by omega) (by omega)]
  exact or_bytes a _ h
 have l0 := lt (4 * j)
 have l1 := lt (4 * j + 1)
 have l2 := lt (4 * j + 2)
 have l3 := lt (4 * j + 3)
 rw [s _ (4 * j + 1) (by omega), s _ (4 * j + 2) (by omega), s _ (4 * j + 3) (by omega)]
 unfold wordI byteAt
 generalize (b.getD (4 * j) 0).toNat = a0 at *
 generalize (b.getD (4 * j + 1) 0).toNat = a1 at *
 generalize (b.getD (4 * j + 2) 0).toNat = a2 at *
 generalize (b.getD (4 * j + 3) 0).toNat = a3 at *
 have h1 := or_high a0 a1 65536 (by omega) l1 16 (by decide)
 rw [show ((a0 * (256 * 65536) : Nat) : Int) = (a0 : Int) * 16777216 by omega, show ((a1 * 65536 : Nat) : Int) = (a1 : Int) * 65536 by omega] at h1
 have h2 := or_high (a0 * 256 + a1) a2 256 (by omega) l2 8 (by decide)
 rw [show (((a0 * 256 + a1) * (256 * 256) : Nat) : Int) = (((a0 * 256 + a1) * 65536 : Nat) : Int) by omega, show ((a2 * 256 : Nat) : Int) = (a2 : Int) * 256 by omega] at h2
 have h3 := or_high ((a0 * 256 + a1) * 256 + a2) a3 1 (by omega) l3 0 (by decide)
 rw [show (((((a0 * 256 + a1) * 256 + a2) * (256 * 1)) : Nat) : Int) = ((((a0 * 256 + a1) * 256 + a2) * 256 : Nat) : Int) by omega, Nat.mul_one, Nat.mul_one] at h3
 rw [h1, h2, h3]
def accA (b : List UInt8) (k : Nat) : Array Value := ((List.range 64).map fun j => Value.int .u32 (accW b j (min 4 (k - 4 * j)))).toArray
theorem accA_size (b : List UInt8) (k : Nat) : (accA b k).size = 64 := by simp [accA]
theorem accA_at (b : List UInt8) (k : Nat) (hk : k < 64) : (accA b k)[k / 4]? = some (.int .u32 (accW b (k / 4) (k % 4))) := by
 have e : min 4 (k - 4 * (k / 4)) = k % 4 := by omega
 simp [accA, show k / 4 < 64 by omega, e]
theorem accA_more (b : List UInt8) (k : Nat) : (accA b k).setIfInBounds (k / 4) (.int .u32 (bits .or .u32 (accW b (k / 4) (k % 4) * 256 % 4294967296) (byteAt b k))) = accA b (k + 1) := by
 apply Array.ext
 ·simp [accA]
 ·intro i h1 h2
  rw [Array.size_setIfInBounds, accA_size] at h1
  rw [Array.getElem_setIfInBounds (by rw [accA_size]; exact h1)]
  by_cases hik : k / 4 = i
  ·rw [if_pos hik]
   subst hik
   have e : min 4 (k + 1 - 4 * (k / 4)) = k % 4 + 1 := by omega
   have e2 : 4 * (k / 4) + k % 4 = k := by omega
   simp [accA, e, accW, e2]
  ·rw [if_neg hik]
   have e : min 4 (k + 1 - 4 * i) = min 4 (k - 4 * i) := by omega
   simp [accA, e]
def schA (ws : List Int) : Array Value := ((List.range 64).map fun j => Value.int .u32 (ws.getD j 0)).toArray
theorem schA_size (ws : List Int) : (schA ws).size = 64 := by simp [schA]
theorem schA_at (ws : List Int) (j : Nat) (hj : j < 64) : (schA ws)[j]? = some (.int .u32 (ws.getD j 0)) := by simp [schA, hj]
theorem schedTo_get (b : List UInt8) (k : Nat) (hk : k ≤ 16) : ∀ j, j < k → (schedTo b k).getD j 0 = wordAt b j := by
 induction k with
 | zero => intro j hj; omega
 | succ k ih =>
   intro j hj
   rw [schedTo, if_pos (by omega)]
   by_cases hjk : j < k
   ·rw [← ih (by omega) j hjk]
    simp [List.getD_eq_getElem?_getD, List.getElem?_append_left (show j < (schedTo b k).length by rw [schedTo_len]; exact hjk)]
   ·obtain rfl : k = j := by omega
    simp [List.getD_eq_getElem?_getD, schedTo_len]
theorem accA_all (b : List UInt8) : accA b 64 = schA (schedTo b 16) := by
 unfold accA schA
 refine congrArg List.toArray (List.map_congr_left ?_)
 intro j hj
 rw [List.mem_range] at hj
 by_cases h : j < 16
 ·rw [schedTo_get b 16 (Nat.le_refl _) j h, ← accW_word]
  have e : min 4 (64 - 4 * j) = 4 := by omega
  rw [e]
 ·have e : min 4 (64 - 4 * j) = 0 := by omega
  rw [e, accW]
  simp [List.getD_eq_getElem?_getD, List.getElem?_eq_none (show (schedTo b 16).length ≤ j by rw [schedTo_len]; omega)]
theorem schA_more (ws : List Int) (x : Int) (k : Nat) (hk : ws.length = k) : (schA ws).setIfInBounds k (.int .u32 x) = schA (ws ++ [x]) := by
 subst hk
 apply Array.ext
 ·simp [schA]
 ·intro i h1 h2
  rw [Array.size_setIfInBounds, schA_size] at h1
  rw [Array.getElem_setIfInBounds (by rw [schA_size]; exact h1)]
  by_cases hik : ws.length = i
  ·rw [if_pos hik]
   subst hik
   simp [schA]
  ·rw [if_neg hik]
   by_cases hlt : i < ws.length
   ·simp [schA, List.getD_eq_getElem?_getD, List.getElem?_append_left hlt]
   ·simp [schA, List.getD_eq_getElem?_getD, List.getElem?_append_right (show ws.length ≤ i by omega), List.getElem?_eq_none (show ws.length ≤ i by omega), List.getElem?_eq_none (show [x].length ≤ i - ws.length by simp; omega)]
theorem schA_all (ws : List Int) (h : ws.length = 64) : schA ws = (ws.map (Value.int .u32)).toArray := by
 apply Array.ext
 ·simp [schA, h]
 ·intro i h1 h2
  have h3 : i < ws.length := by simpa using h2
  simp [schA, h3]
def mixL (h v : List Int) (k : Nat) : List Int := (List.range 8).map fun i => if i < k then (h.getD i 0 + v.getD i 0) % 4294967296 else h.getD i 0
theorem mixL_len (h v : List Int) (k : Nat) : (mixL h v k).length = 8 := by simp [mixL]
theorem mixL_zero {h : List Int} (v : List Int) (hl : h.length = 8) : mixL h v 0 = h := by
 apply List.ext_getElem
 ·simp [mixL, hl]
 ·intro i h1 h2
  simp [mixL, h2]
theorem mixL_all (h v : List Int) : mixL h v 8 = sumsTo h v 8 := by
 unfold mixL sumsTo
 refine List.map_congr_left fun i hi => ?_
 rw [List.mem_range] at hi
 simp only [if_pos hi]
theorem mixL_get (h v : List Int) (k : Nat) (hk : k < 8) : (mixL h v k).getD k 0 = h.getD k 0 := by simp [mixL, hk]
theorem mixL_more (h v : List Int) (rest : List Value) (k : Nat) (hk : k < 8) :
  (((mixL h v k).map (Value.int .u32)) ++ rest).toArray.setIfInBounds k (.int .u32 ((h.getD k 0 + v.getD k 0) % 4294967296)) = (((mixL h v (k + 1)).map (Value.int .u32)) ++ rest).toArray := by
 apply Array.ext
 ·simp [mixL]
 ·intro i h1 h2
  have hs : i < (((mixL h v k).map (Value.int .u32)) ++ rest).toArray.size := by simpa using h1
  rw [Array.getElem_setIfInBounds hs]
  by_cases hik : k = i
  ·rw [if_pos hik]
   subst hik
   simp [mixL, hk]
  ·rw [if_neg hik]
   have e : (i < k + 1) = (i < k) := by apply propext; omega
   simp [mixL, e, List.getElem_append]
end Go.Proofs.YtlbipokkdiiaiaaGreatDoor
namespace Go.Proofs.YtlbipokkdiiaiaaGreatDoor
open Go.RowKit Go.Proofs.YtlbipokkdiiaiaaGreatDoor.Exec
set_option maxRecDepth 100000
theorem splitL_sum : ∀ l : List UInt8, l.length + 1 = ((splitL l).map fun p => p.length + 1).sum
 | [] => rfl
 | c :: r => by
   have ih := splitL_sum r
   unfold splitL
   split
   ·simp only [List.length_cons, List.map_cons, List.sum_cons, ← ih, List.length_nil]; omega
   ·cases h : splitL r with
    | nil => exact absurd h (splitL_ne r)
    | cons p ps =>
      rw [h] at ih
      simp only [consHead, List.map_cons, List.sum_cons, List.length_cons] at ih ⊢
      omega
theorem sum_le {α : Type} (f : α → Nat) (c : Nat) : ∀ l : List α, (∀ x ∈ l, f x ≤ c) → (l.map f).sum ≤ l.length * c
 | [], _ => by simp
 | x :: l, h => by
   have h1 := h x (by simp)
   have h2 := sum_le f c l (fun y hy => h y (by simp [hy]))
   simp only [List.map_cons, List.sum_cons, List.length_cons, Nat.succ_mul]
   omega
theorem may_len {l : List UInt8} (h : mayB l = true) : l.length ≤ 1039 := by
 unfold mayB at h
 simp only [Bool.and_eq_true, decide_eq_true_eq, List.all_eq_true] at h
 have h1 := splitL_sum l
 have h2 := sum_le (fun p : List UInt8 => p.length + 1) 65 (splitL l) (fun p hp => by
  have := h.2 p hp
  unfold partB at this
  simp only [Bool.and_eq_true, decide_eq_true_eq] at this
  omega)
 have h3 : (splitL l).length * 65 ≤ 16 * 65 := Nat.mul_le_mul_right _ h.1
 omega
theorem under_may {s d : List UInt8} (h : underB s d = true) : mayB s = true := by
 unfold underB at h
 simp only [Bool.and_eq_true] at h
 exact h.1
theorem readsE_all : ∀ (l : List RdL) (met : List (List UInt8)), readsE met l = 0 → ∀ r ∈ l, mayB r.path = true ∧ (r.is = false → r.sum = dg0)
 | [], _, _, r, hr => by simp at hr
 | x :: l, met, h, r, hr => by
   unfold readsE at h
   split at h
   ·rename_i h1
    split at h
    ·omega
    ·split at h
     ·rename_i h3
      rcases List.mem_cons.1 hr with rfl | hr
      ·exact ⟨h1, fun h4 => by simpa [h4] using h3⟩
      ·exact readsE_all l _ h r hr
     ·omega
   ·omega
theorem outsE_all : ∀ (l : List MdL) (a : Option (List UInt8)), outsE a l = 0 → ∀ r ∈ l, mayB r.path = true
 | [], _, _, r, hr => by simp at hr
 | x :: l, a, h, r, hr => by
   unfold outsE at h
   split at h
   ·rename_i h1
    have hl : outsE (some x.path) l = 0 := by
     cases a with
     | none => exact h
     | some q =>
       simp only at h
       split at h
       ·omega
       ·split at h
        ·omega
        ·exact h
    rcases List.mem_cons.1 hr with rfl | hr
    ·exact under_may h1
    ·exact outsE_all l _ hl r hr
   ·omega
structure GoodT (t : TcL) : Prop where
 nr : t.reads.length ≤ 500
 no : t.outs.length ≤ 1000
 rd : ∀ r ∈ t.reads, mayB r.path = true ∧ (r.is = false → r.sum = dg0)
 ou : ∀ r ∈ t.outs, mayB r.path = true
theorem goodT {t : TcL} (h : checkT t = 0) : GoodT t := by
 unfold checkT at h
 split at h
 ·omega
 ·rename_i h1
  split at h
  ·rename_i h2; exact absurd h h2
  ·rename_i h2
   exact ⟨by omega, by omega, readsE_all _ _ (Classical.not_not.1 h2), outsE_all _ _ h⟩
def rdT (r : RdL) : List (List UInt8) := [r.path, if r.is = true then r.sum.1 else []]
def mdT (m : MdL) : List (List UInt8) := [m.path, m.sum.1]
def traceT (t : TcL) : List (List UInt8) := t.key.1 :: dig t.reads.length :: (t.reads.flatMap rdT ++ t.outs.flatMap mdT)
def traceB (t : TcL) : List UInt8 := rowL (traceT t)
theorem row_cons (s : List UInt8) (ss : List (List UInt8)) : rowL (s :: ss) = (dig s.length ++ 58 :: s) ++ rowL ss := by simp [rowL]
theorem rdT_len (l : List RdL) (h : ∀ r ∈ l, mayB r.path = true) : (rowL (l.flatMap rdT)).length ≤ l.length * 1079 := by
 induction l with
 | nil => simp [rowL]
 | cons r l ih =>
   have h1 := may_len (h r (by simp))
   have h2 := ih fun x hx => h x (by simp [hx])
   have h3 := dig_len_le 3 r.path.length (by omega)
   have h4 : (if r.is = true then r.sum.1 else []).length ≤ 32 := by
    split
    ·rw [r.sum.2]; exact Nat.le_refl _
    ·simp
   have h5 := dig_len_le 1 (if r.is = true then r.sum.1 else []).length (by omega)
   rw [List.flatMap_cons, rowL_append, List.length_append, List.length_cons, Nat.succ_mul]
   unfold rdT
   rw [row_cons, row_cons]
   simp only [List.length_append, List.length_cons, show rowL [] = [] from rfl, List.length_nil]
   unfold rdT at h2
   omega
theorem mdT_len (l : List MdL) (h : ∀ r ∈ l, mayB r.path = true) : (rowL (l.flatMap mdT)).length ≤ l.length * 1079 := by
 induction l with
 | nil => simp [rowL]
 | cons r l ih =>
   have h1 := may_len (h r (by simp))
   have h2 := ih fun x hx => h x (by simp [hx])
   have h3 := dig_len_le 3 r.path.length (by omega)
   have h5 := dig_len_le 1 r.sum.1.length (by rw [r.sum.2]; omega)
   have h6 := r.sum.2
   rw [List.flatMap_cons, rowL_append, List.length_append, List.length_cons, Nat.succ_mul]
   unfold mdT
   rw [row_cons, row_cons]
   simp only [List.length_append, List.length_cons, show rowL [] = [] from rfl, List.length_nil]
   unfold mdT at h2
   omega
theorem traceB_len {t : TcL} (h : GoodT t) : (traceB t).length ≤ 1619000 := by
 have h1 := rdT_len t.reads (fun r hr => (h.rd r hr).1)
 have h2 := mdT_len t.outs h.ou
 have h3 := dig_len_le 1 t.key.1.length (by rw [t.key.2]; omega)
 have h4 := dig_len_le 2 t.reads.length (by have := h.nr; omega)
 have h5 := dig_len_le 0 (dig t.reads.length).length (by omega)
 have h6 := t.key.2
 have h7 := h.nr
 have h8 := h.no
 unfold traceB traceT
 rw [row_cons, row_cons, rowL_append]
 simp only [List.length_append, List.length_cons]
 have h9 := Nat.mul_le_mul_right 1079 h7
 have h10 := Nat.mul_le_mul_right 1079 h8
 omega
theorem traceT_small {t : TcL} (h : GoodT t) : ∀ s ∈ traceT t, s.length ≤ 1039 := by
 intro s hs
 simp only [traceT, List.mem_cons, List.mem_append, List.mem_flatMap] at hs
 rcases hs with rfl | rfl | ⟨r, hr, hs⟩ | ⟨r, hr, hs⟩
 ·rw [t.key.2]; omega
 ·have := dig_len_le 2 t.reads.length (by have := h.nr; omega); omega
 ·simp only [rdT, List.mem_cons, List.not_mem_nil, or_false] at hs
  rcases hs with rfl | rfl
  ·exact may_len (h.rd r hr).1
  ·split
   ·rw [r.sum.2]; omega
   ·simp
 ·simp only [mdT, List.mem_cons, List.not_mem_nil, or_false] at hs
  rcases hs with rfl | rfl
  ·exact may_len (h.ou r hr)
  ·rw [r.sum.2]; omega
structure MsgL where
 kind : Int
 id : Nat
 sum : Dg
 data : List UInt8
 traces : List TcL
 why : Int
structure HasL where
 sum : Bool
 data : Bool
 why : Bool
 least : Int
 traces : Int
def tableL : List HasL := [⟨false, false, false, 0, 0⟩, ⟨true, false, false, 0, 0⟩, ⟨true, false, false, 0, 0⟩, ⟨false, false, false, 1, 1⟩, ⟨true, true, false, 0, 0⟩, ⟨false, false, false, 0, 8⟩, ⟨true, true, false, 0, 0⟩, ⟨false, false, false, 0, 0⟩, ⟨false, false, true, 0, 0⟩]
def hasL (k : Int) : HasL := tableL.getD k.toNat ⟨false, false, false, 0, 0⟩
def tracesE : List TcL → Int
 | [] => 0
 | t :: l => if checkT t = 0 then tracesE l else checkT t
def argB (m : MsgL) : Bool :=
 (!(hasL m.kind).sum && !decide (m.sum = dg0)) || (!(hasL m.kind).data && !m.data.isEmpty) || ((hasL m.kind).traces == 0 && decide (0 < m.traces.length)) || ((hasL m.kind).least == 1 && !(m.traces.length == 1))
  || (!(hasL m.kind).why && !(m.why == 0)) || ((hasL m.kind).why && (decide (m.why < 1) || decide (m.why > 19)))
def checkM (m : MsgL) : Int :=
 if m.kind < 1 ∨ m.kind > 8 then 1 else if argB m = true then 1 else if m.data.length > 65536 ∨ m.traces.length > 8 then 6 else tracesE m.traces
def bodyT (m : MsgL) : List (List UInt8) :=
 [Lib.itoa m.kind, numB m.id 8] ++ (if (hasL m.kind).sum = true then [m.sum.1] else []) ++ (if (hasL m.kind).data = true then [m.data] else []) ++ m.traces.map traceB ++ (if (hasL m.kind).why = true then [Lib.itoa m.why] else [])
def bodyB (m : MsgL) : List UInt8 := rowL (bodyT m)
theorem tracesE_all : ∀ l : List TcL, tracesE l = 0 → ∀ t ∈ l, checkT t = 0
 | [], _, t, ht => by simp at ht
 | x :: l, h, t, ht => by
   unfold tracesE at h
   split at h
   ·rename_i h1
    rcases List.mem_cons.1 ht with rfl | ht
    ·exact h1
    ·exact tracesE_all l h t ht
   ·rename_i h1; exact absurd h h1
structure GoodM (m : MsgL) : Prop where
 k1 : 1 ≤ m.kind
 k8 : m.kind ≤ 8
 arg : argB m = false
 nd : m.data.length ≤ 65536
 nt : m.traces.length ≤ 8
 tr : ∀ t ∈ m.traces, checkT t = 0
theorem goodM {m : MsgL} (h : checkM m = 0) : GoodM m := by
 unfold checkM at h
 split at h
 ·omega
 ·split at h
  ·omega
  ·split at h
   ·omega
   ·rename_i h1 h2 h3
    exact ⟨by omega, by omega, by simpa using h2, by omega, by omega, tracesE_all _ h⟩
end Go.Proofs.YtlbipokkdiiaiaaGreatDoor
namespace Go.Proofs.YtlbipokkdiiaiaaGreatDoor
open Go.RowKit Go.Proofs.YtlbipokkdiiaiaaGreatDoor.Exec
set_option maxRecDepth 100000
noncomputable def infoOk (E sz by_ : Nat) : Bool := match Tryz.prog.info? E with | some i => (match i.zero with | some z => z.cells.size == sz && i.size == sz && i.bytes == by_ | _ => false) | none => false
theorem infoOk_out {E sz by_ : Nat} (h : infoOk E sz by_ = true) : ∃ i z, Tryz.prog.info? E = some i ∧ i.zero = some z ∧ i.size = sz ∧ i.bytes = by_ ∧ z.cells.size = sz := by
 unfold infoOk at h
 split at h
 ·rename_i i hi
  split at h
  ·rename_i z hz
   simp only [Bool.and_eq_true, beq_iff_eq] at h
   exact ⟨i, z, hi, hz, h.1.2, h.2, h.1.1⟩
  ·cases h
 ·cases h
theorem one_flat {α : Type} {f : α → List Value} {l : List α} (h : ∀ x ∈ l, ∀ u ∈ f x, u.oneCell' = true) : ∀ u ∈ l.flatMap f, u.oneCell' = true := by
 intro u hu
 obtain ⟨x, hx, hu⟩ := List.mem_flatMap.1 hu
 exact h x hx u hu
theorem rows_of_owns {α : Type} {w : World} {base e sz : Nat} {v : Value} {f : α → List Value} {l : List α} (h : w.ownsRow base e sz v l.length (l.flatMap f)) (hn : l.length ≤ maxLen) : RowsOf w sz f v l := SliceAt.of_owns h hn
set_option maxHeartbeats 1000000 in
theorem cloneR_any (v0 : Value) (l : List RdL) (w : World) (h0 : RowsOf w 34 RdL.cells v0 l) (h1 : ∀ u ∈ l.flatMap RdL.cells, u.oneCell' = true) (hlen : l.length ≤ 1000000) :
  Calls Tryz.prog 158 #[v0] w fun e w' => ∃ v, e = .returned v ∧ w'.ownsRow w.heap.size 100 34 v l.length (l.flatMap RdL.cells) ∧ Below w.heap.size w w' := by
 obtain ⟨i0, z, hi, hz, hs, hby, hzs⟩ := infoOk_out (E := 100) (sz := 34) (by_ := 56) (by kernel_rfl)
 have h00 := h0
 obtain ⟨a0, c0, rfl, hc0, hm0, hnone, -⟩ := h0.out RdL.len (by omega)
 have q22 : ∀ (w : World) (a : Option Addr) (n c n' c' : Nat), (binOp .eql 41 (.slice a n c) (.slice none n' c')).run Tryz.prog w = .ok (.bool a.isNone) w := fun w a n c n' c' => Lib.run_eql_slice_nil w _ _ a n c n' c' Tryz.underlying41
 cases a0 with
 | none =>
   have hc := hnone rfl
   subst hc
   obtain rfl : l = [] := List.eq_nil_of_length_eq_zero (by omega)
   go_enter Tryz.func158, Tryz.ntmps158
   go_wp2_with fail
   go_ret
   exact ⟨_, rfl, ⟨rfl, .inl ⟨rfl, rfl⟩⟩, Below.refl _ _⟩
 | some ad =>
   have Hs := hid h00
   have H1 := hid h1
   clear hnone h00 h0 h1
   go_enter Tryz.func158, Tryz.ntmps158
   go_wp2_with (at_builtin; go_must (refine wpList_append_src rfl _ _ 41 rfl w.heap.size 100 i0 z 34 56 Tryz.underlying41 hi hz hs hby hzs (by decide) _ 0 [] rfl ?c1 _ l.length (l.flatMap RdL.cells) rfl ?c2 ?c3 ?c4 ?c5 ?c6 ?_))
   case c1 => exact World.ownsRow_made w #[] 0 (Nat.le_refl _) (Nat.zero_le _) (by simp)
   case c2 => exact SliceAt.below Hs.out ((Below.refl _ w).alloc (Nat.le_refl _) _) (Nat.le_refl _)
   case c3 => exact H1.out
   case c4 => unfold maxLen; omega
   case c5 => omega
   case c6 => simp
   intro v' w1 hown hgrow
   go_wp2_with fail
   go_ret
   exact ⟨v', rfl, by simpa using hown, ((Below.refl _ w).alloc (Nat.le_refl _) _).grown hgrow (by simp) (by intro k hk; simp [Value.ownBlock] at hk; omega)⟩
set_option maxHeartbeats 1000000 in
theorem cloneM_any (v0 : Value) (l : List MdL) (w : World) (h0 : RowsOf w 33 MdL.cells v0 l) (h1 : ∀ u ∈ l.flatMap MdL.cells, u.oneCell' = true) (hlen : l.length ≤ 1000000) :
  Calls Tryz.prog 168 #[v0] w fun e w' => ∃ v, e = .returned v ∧ w'.ownsRow w.heap.size 54 33 v l.length (l.flatMap MdL.cells) ∧ Below w.heap.size w w' := by
 obtain ⟨i0, z, hi, hz, hs, hby, hzs⟩ := infoOk_out (E := 54) (sz := 33) (by_ := 48) (by kernel_rfl)
 have h00 := h0
 obtain ⟨a0, c0, rfl, hc0, hm0, hnone, -⟩ := h0.out MdL.len (by omega)
 have q22 : ∀ (w : World) (a : Option Addr) (n c n' c' : Nat), (binOp .eql 42 (.slice a n c) (.slice none n' c')).run Tryz.prog w = .ok (.bool a.isNone) w := fun w a n c n' c' => Lib.run_eql_slice_nil w _ _ a n c n' c' Tryz.underlying42
 cases a0 with
 | none =>
   have hc := hnone rfl
   subst hc
   obtain rfl : l = [] := List.eq_nil_of_length_eq_zero (by omega)
   go_enter Tryz.func168, Tryz.ntmps168
   go_wp2_with fail
   go_ret
   exact ⟨_, rfl, ⟨rfl, .inl ⟨rfl, rfl⟩⟩, Below.refl _ _⟩
 | some ad =>
   have Hs := hid h00
   have H1 := hid h1
   clear hnone h00 h0 h1
   go_enter Tryz.func168, Tryz.ntmps168
   go_wp2_with (at_builtin; go_must (refine wpList_append_src rfl _ _ 42 rfl w.heap.size 54 i0 z 33 48 Tryz.underlying42 hi hz hs hby hzs (by decide) _ 0 [] rfl ?c1 _ l.length (l.flatMap MdL.cells) rfl ?c2 ?c3 ?c4 ?c5 ?c6 ?_))
   case c1 => exact World.ownsRow_made w #[] 0 (Nat.le_refl _) (Nat.zero_le _) (by simp)
   case c2 => exact SliceAt.below Hs.out ((Below.refl _ w).alloc (Nat.le_refl _) _) (Nat.le_refl _)
   case c3 => exact H1.out
   case c4 => unfold maxLen; omega
   case c5 => omega
   case c6 => simp
   intro v' w1 hown hgrow
   go_wp2_with fail
   go_ret
   exact ⟨v', rfl, by simpa using hown, ((Below.refl _ w).alloc (Nat.le_refl _) _).grown hgrow (by simp) (by intro k hk; simp [Value.ownBlock] at hk; omega)⟩
set_option maxHeartbeats 1000000 in
theorem cloneT_any (v0 : Value) (l : List TcM) (w : World) (h0 : RowsOf w 34 TcM.cells v0 l) (h1 : ∀ u ∈ l.flatMap TcM.cells, u.oneCell' = true) (hlen : l.length ≤ 1000000) :
  Calls Tryz.prog 114 #[v0] w fun e w' => ∃ v, e = .returned v ∧ w'.ownsRow w.heap.size 44 34 v l.length (l.flatMap TcM.cells) ∧ Below w.heap.size w w' := by
 obtain ⟨i0, z, hi, hz, hs, hby, hzs⟩ := infoOk_out (E := 44) (sz := 34) (by_ := 80) (by kernel_rfl)
 have h00 := h0
 obtain ⟨a0, c0, rfl, hc0, hm0, hnone, -⟩ := h0.out TcM.len (by omega)
 have q22 : ∀ (w : World) (a : Option Addr) (n c n' c' : Nat), (binOp .eql 32 (.slice a n c) (.slice none n' c')).run Tryz.prog w = .ok (.bool a.isNone) w := fun w a n c n' c' => Lib.run_eql_slice_nil w _ _ a n c n' c' Tryz.underlying32
 cases a0 with
 | none =>
   have hc := hnone rfl
   subst hc
   obtain rfl : l = [] := List.eq_nil_of_length_eq_zero (by omega)
   go_enter Tryz.func114, Tryz.ntmps114
   go_wp2_with fail
   go_ret
   exact ⟨_, rfl, ⟨rfl, .inl ⟨rfl, rfl⟩⟩, Below.refl _ _⟩
 | some ad =>
   have Hs := hid h00
   have H1 := hid h1
   clear hnone h00 h0 h1
   go_enter Tryz.func114, Tryz.ntmps114
   go_wp2_with (at_builtin; go_must (refine wpList_append_src rfl _ _ 32 rfl w.heap.size 44 i0 z 34 80 Tryz.underlying32 hi hz hs hby hzs (by decide) _ 0 [] rfl ?c1 _ l.length (l.flatMap TcM.cells) rfl ?c2 ?c3 ?c4 ?c5 ?c6 ?_))
   case c1 => exact World.ownsRow_made w #[] 0 (Nat.le_refl _) (Nat.zero_le _) (by simp)
   case c2 => exact SliceAt.below Hs.out ((Below.refl _ w).alloc (Nat.le_refl _) _) (Nat.le_refl _)
   case c3 => exact H1.out
   case c4 => unfold maxLen; omega
   case c5 => omega
   case c6 => simp
   intro v' w1 hown hgrow
   go_wp2_with fail
   go_ret
   exact ⟨v', rfl, by simpa using hown, ((Below.refl _ w).alloc (Nat.le_refl _) _).grown hgrow (by simp) (by intro k hk; simp [Value.ownBlock] at hk; omega)⟩
end Go.Proofs.YtlbipokkdiiaiaaGreatDoor
namespace Go.Proofs.YtlbipokkdiiaiaaGreatDoor
open Go.RowKit Go.Proofs.YtlbipokkdiiaiaaGreatDoor.Exec
set_option maxRecDepth 100000
theorem rds_one (l : List RdL) : ∀ u ∈ l.flatMap RdL.cells, u.oneCell' = true := one_flat fun r _ => r.one
theorem mds_one (l : List MdL) : ∀ u ∈ l.flatMap MdL.cells, u.oneCell' = true := one_flat fun r _ => r.one
theorem owns_form {w : World} {base e sz n : Nat} {v : Value} {xs : List Value} (h : w.ownsRow base e sz v n xs) : ∃ a c, v = .slice a n c := by
 obtain ⟨_, ⟨rfl, rfl⟩ | ⟨g, cap, cur, rfl, _⟩⟩ := h
 ·exact ⟨_, _, rfl⟩
 ·exact ⟨_, _, rfl⟩
theorem owns_keep {w w' : World} {base e sz n : Nat} {v : Value} {xs : List Value} (h : w.ownsRow base e sz v n xs) (hk : ∀ k, v.ownBlock = some k → w'.heap[k]? = w.heap[k]?) : w'.ownsRow base e sz v n xs := by
 obtain ⟨hl, ⟨rfl, rfl⟩ | ⟨g, cap, cur, rfl, hb, hg, hr⟩⟩ := h
 ·exact ⟨hl, .inl ⟨rfl, rfl⟩⟩
 ·exact ⟨hl, .inr ⟨g, cap, cur, rfl, hb, (hk g rfl).trans hg, hr⟩⟩
theorem owns_base {w : World} {base base' e sz n : Nat} {v : Value} {xs : List Value} (h : w.ownsRow base e sz v n xs) (hb : base' ≤ base) : w.ownsRow base' e sz v n xs := by
 obtain ⟨hl, ⟨rfl, rfl⟩ | ⟨g, cap, cur, rfl, hb', hr⟩⟩ := h
 ·exact ⟨hl, .inl ⟨rfl, rfl⟩⟩
 ·exact ⟨hl, .inr ⟨g, cap, cur, rfl, by omega, hr⟩⟩
theorem heap_set_ne (w : World) (b o k : Nat) (v : Value) (h : k ≠ b) : (w.setCell ⟨b, o, none⟩ v).heap[k]? = w.heap[k]? := Below.heap_setCell _ _ _ _ h
theorem set_heads (x : TcM) (a b : Value) : (x.cells.toArray.setIfInBounds 32 a).setIfInBounds 33 b = (TcM.cells ⟨x.t, a, b⟩).toArray := by
 apply Array.ext'
 simp [TcM.cells, dgc_len]
theorem set_head (x : TcM) (a : Value) : (x.cells.toArray.setIfInBounds 32 a)[33]? = some x.ov := by
 simp [TcM.cells, dgc_len]
set_option maxHeartbeats 2000000 in
theorem cloneD_any (x : TcM) (w : World) (hx : HeldT w x) (hr : x.t.reads.length ≤ 1000000) (ho : x.t.outs.length ≤ 1000000) :
  Calls Tryz.prog 115 #[x.val] w fun e w' => ∃ y : TcM, y.t = x.t ∧ e = .returned y.val ∧ w'.ownsRow w.heap.size 100 34 y.rv x.t.reads.length (x.t.reads.flatMap RdL.cells) ∧ w'.ownsRow w.heap.size 54 33 y.ov x.t.outs.length (x.t.outs.flatMap MdL.cells) ∧ Below w.heap.size w w' := by
 unfold TcM.val
 have HX := hid hx
 have H1 := hid (And.intro (rds_one x.t.reads) (mds_one x.t.outs))
 clear hx
 go_enter Tryz.func115, Tryz.ntmps115
 go_upto_region 1 with first | (refine wl_box rt44 ?_; intro W0 hb0 hn0 hs0) | (refine wl_al rt44 ?_; intro zs W1 hzs hb1 hn1 hs1)
 have hn0' := (hb1.block _ (by omega)).trans hn0
 rw [hs0] at hn1 hs1 ⊢
 have hn1' := hn1
 have HB := hid (Below.chain hb0 hb1)
 have HX1 := hid (HX.out.keep HB.out)
 clear HX hn0 hn1
 refine wp_region_wl (fun W => W.heap[w.heap.size]? = some (.cells x.cells.toArray 44 (0, 0)) ∧ W.heap[w.heap.size + 1]? = some (.cells zs 44 (0, 0))) 7 (by kernel_rfl) ?_
 intro Wd hbd
 have hS := And.intro ((hbd.block _ (lx (hid hn0'))).trans hn0') ((hbd.block _ (lx (hid hn1'))).trans hn1')
 refine WL.tp 0 (some 3) (hi := rfl) (.inr hS) ?_
 apply Exists.intro
 refine ⟨fun W => ?_, ?_⟩
 ·go_simp
  try rfl
 try simp only [Act.put, sA, sB, sC]
 refine WL.te 1 (some 4) (hi := rfl) hS ?_
 apply Exists.intro
 refine ⟨fun W hW => ?_, ?_⟩
 ·obtain ⟨-, e0, e1⟩ := TcM.parts0 hW.1
  go_simp
  try rfl
 try simp only [Act.put, sA, sB, sC]
 refine WL.tp 3 (some 6) (hi := rfl) (.inr hS) ?_
 apply Exists.intro
 refine ⟨fun W => ?_, ?_⟩
 ·go_simp
  try rfl
 try simp only [Act.put, sA, sB, sC]
 refine WL.te 4 (some 7) (hi := rfl) hS ?_
 apply Exists.intro
 refine ⟨fun W hW => ?_, ?_⟩
 ·obtain ⟨-, e0, e1⟩ := TcM.parts0 hW.1
  go_simp
  try rfl
 try simp only [Act.put, sA, sB, sC]
 refine WL.o 2 (hi := rfl) ?_
 intro K hK
 go_simp
 refine (cloneR_any _ _ _ ((HX1.out.keep hbd).1) H1.out.1 (by omega)).mono ?_
 rintro e w1 ⟨v1, rfl, ho1, hb1⟩
 obtain ⟨va, vc, rfl⟩ := owns_form ho1
 replace hS := And.intro ((hb1.block _ (lx (hid hS.1))).trans hS.1) ((hb1.block _ (lx (hid hS.2))).trans hS.2)
 refine hK.out _ _ (.inr hS) ?_
 clear hK K
 try simp only [Act.put, sA, sB, sC]
 refine WL.tp 6 (some 9) (hi := rfl) (.inr hS) ?_
 apply Exists.intro
 refine ⟨fun W => ?_, ?_⟩
 ·go_simp
  try rfl
 try simp only [Act.put, sA, sB, sC]
 refine WL.o 5 (hi := rfl) ?_
 intro K hK
 go_simp
 refine (cloneM_any _ _ _ ((HX1.out.keep (Below.chain hbd hb1)).2) H1.out.2 (by omega)).mono ?_
 rintro e w2 ⟨v2, rfl, ho2, hb2⟩
 obtain ⟨ua, uc, rfl⟩ := owns_form ho2
 replace hS := And.intro ((hb2.block _ (lx (hid hS.1))).trans hS.1) ((hb2.block _ (lx (hid hS.2))).trans hS.2)
 refine hK.out _ _ (.inr hS) ?_
 clear hK K
 try simp only [Act.put, sA, sB, sC]
 refine WL.o 7 (hi := rfl) ?_
 intro K hK
 have fz := Lib.frozen_of_heap hS.1 32
 obtain ⟨-, y1, y2⟩ := TcM.parts0 hS.1
 go_simp
 refine hK.out _ _ (.inl (by kernel_rfl)) ?_
 clear hK K
 try simp only [Act.put, sA, sB, sC]
 have hT1 := heap_setCell_same w2 w.heap.size 32 _ _ (.slice va x.t.reads.length vc) hS.1
 refine WL.tp 8 (some 10) (hi := rfl) (.inl (by kernel_rfl)) ?_
 apply Exists.intro
 refine ⟨fun W => ?_, ?_⟩
 ·go_simp
  try rfl
 try simp only [Act.put, sA, sB, sC]
 refine WL.o 9 (hi := rfl) ?_
 intro K hK
 have fz2 := Lib.frozen_of_heap hT1 33
 have y3 := (cell_of_row _ _ 33 _ _ _ hT1).trans (set_head x _)
 go_simp
 refine hK.out _ _ (.inl (by kernel_rfl)) ?_
 clear hK K
 try simp only [Act.put, sA, sB, sC]
 refine WL.d ?_
 have hT2 := heap_setCell_same _ w.heap.size 33 _ _ (.slice ua x.t.outs.length uc) hT1
 rw [set_heads] at hT2
 have z1 := hbd.size
 have z2 := hb1.size
 have z3 := hb2.size
 have hB2 : Below w.heap.size w w2 := Below.chain (Below.chain (Below.chain HB.out hbd) hb1) hb2
 have hb1' : ∀ k, (Value.slice va x.t.reads.length vc).ownBlock = some k → Wd.heap.size ≤ k ∧ k < w1.heap.size := ho1.lt
 have hb2' : ∀ k, (Value.slice ua x.t.outs.length uc).ownBlock = some k → w1.heap.size ≤ k ∧ k < w2.heap.size := ho2.lt
 obtain ⟨W3, hW3⟩ : ∃ W, W = (w2.setCell ⟨w.heap.size, 32, none⟩ (.slice va x.t.reads.length vc)).setCell ⟨w.heap.size, 33, none⟩ (.slice ua x.t.outs.length uc) := ⟨_, rfl⟩
 have k3 : ∀ k, k ≠ w.heap.size → W3.heap[k]? = w2.heap[k]? := fun k hk => by rw [hW3, heap_set_ne _ _ _ _ _ hk, heap_set_ne _ _ _ _ _ hk]
 have hB3 : Below w.heap.size w W3 := by rw [hW3]; exact (hB2.setCell (Nat.le_refl _) _).setCell (Nat.le_refl _) _
 have z4 : W3.heap.size = w2.heap.size := by rw [hW3]; simp [World.setCell]
 have hE : W3.heap[w.heap.size + 1]? = some (.cells zs 44 (0, 0)) := (k3 _ (by omega)).trans hS.2
 have hr1 := owns_base (base' := w.heap.size) (owns_keep (w' := W3) ho1 (fun k hk => (k3 k (by have := hb1' k hk; omega)).trans (hb2.block k (hb1' k hk).2))) (by omega)
 have hr2 := owns_base (base' := w.heap.size) (owns_keep (w' := W3) ho2 (fun k hk => k3 k (by have := hb2' k hk; omega))) (by omega)
 rw [← hW3] at hT2 ⊢
 have HO : ∀ u ∈ (TcM.cells ⟨x.t, .slice va x.t.reads.length vc, .slice ua x.t.outs.length uc⟩), u.oneCell' = true := by
  intro u hu
  simp only [TcM.cells, List.mem_append, List.mem_cons, List.not_mem_nil, or_false] at hu
  rcases hu with hu | rfl | rfl
  ·exact dgc_one _ u hu
  ·rfl
  ·rfl
 clear hW3 k3 ho1 ho2 hT1 fz fz2 y1 y2 y3 hS
 go_wp2_with first | (refine wl_ld rt44 (range_of_heap hT2) (TcM.len _) ?_) | (refine wl_st (xs := (TcM.cells ⟨x.t, .slice va x.t.reads.length vc, .slice ua x.t.outs.length uc⟩).toArray) rt44 hE hzs (by rw [List.size_toArray]; exact TcM.len _) HO ?_; intro W4 ht4 hn4 hs4)
 refine br (w.heap.size + 1) hn4 ⟨⟨x.t, .slice va x.t.reads.length vc, .slice ua x.t.outs.length uc⟩, rfl, rfl, ?_, ?_, ?_⟩ (hu := Tryz.underlying44) (hi := by rw [List.size_toArray, TcM.len]; kernel_rfl)
 ·exact owns_keep hr1 (fun k hk => ht4.foot.block k (by have := hb1' k hk; omega) (by have := hb1' k hk; omega))
 ·exact owns_keep hr2 (fun k hk => ht4.foot.block k (by have := hb2' k hk; omega) (by have := hb2' k hk; omega))
 ·exact hB3.trans (ht4.below (by omega))
end Go.Proofs.YtlbipokkdiiaiaaGreatDoor
