/- For timetableTorn_holds: texts of this session and words of the kit's print, those alone that the proof uses. -/
import Derived.Deep.WholeRow
import Derived.Laws.ResultCell
import Derived.Test.YtepnddmalheoiaaProg
import Derived.Below
import Derived.Deep.Draws
import Derived.Deep.AppendLies
import Derived.Maps.AppendAt
import Derived.OwnWalk
import Derived.Laws.BytesArg
import Derived.Laws.MakeOwn
import Derived.Laws.OwnMore
import Derived.Deep.OwnRows
import Derived.Tactics
import Derived.Lib.ConvBytes
import Derived.Laws.Slices
import Derived.WalkKit
import Derived.KernelRfl
import Derived.RowKit3
import Derived.Deep.LoopGhost
import Derived.Deep.QuietTactic
import Derived.BigQuiet
import Derived.WideLaws
import Derived.Deep.DeepCutAuto
import Derived.Deep.CutBlock
import Derived.Deep.RegionHeld3
import Derived.Laws.Rows
import Derived.Lib.AppendStr
import Derived.ArgAppend
import Derived.Laws.IdiomCopy
import Derived.OrdersHeld
import Derived.Laws.BitsLemmas
import Derived.RowKit
import Derived.Lib.SlBytesConst
import Derived.Outline
import Derived.Laws.StructEq
import Derived.Test.YtepnddmalheoiaaST0
import Derived.Test.YtepnddmalheoiaaST1
import Derived.Test.YtepnddmalheoiaaST2
import Derived.Test.YtepnddmalheoiaaST3
namespace Go.Proofs.Ytepnddmalheoiaa.WireA
open Go.RowKit Go.Proofs.Ytepnddmalheoiaa.H Go.Proofs.YtepnddmalheoiaaW.PrintWords
def encF : Nat → Int → List Int
 | 0,x=>[x]
 | j + 1,x=>if x > 127 then (x % 128 + 128) :: encF j (x / 128) else [x]
theorem encF_small (j : Nat) (x : Int) (h : x ≤ 127) : encF j x = [x]:=by
 cases j with
 | zero=>rfl
 | succ j=>simp only [encF];rw [if_neg (by omega)]
theorem encF_length (j : Nat) : ∀ x,(encF j x).length ≤ j + 1 ∧ 1 ≤ (encF j x).length:=by
 induction j with
 | zero=>intro x;simp [encF]
 | succ j ih =>
  intro x
  simp only [encF]
  split
  ·have:=ih (x / 128);simp;omega
  ·simp
theorem pow128 (j : Nat) (x : Int) (h : x < 128 ^ (j + 1 + 1)) : x / 128 < 128 ^ (j + 1):=by
 rw [Int.pow_succ] at h
 omega
theorem encF_bytes (j : Nat) : ∀ x : Int,0 ≤ x → x < 128 ^ (j + 1) → ∀ c ∈ encF j x,0 ≤ c ∧ c ≤ 255:=by
 induction j with
 | zero =>
  intro x h0 h1 c hc
  simp only [encF,List.mem_singleton] at hc
  omega
 | succ j ih =>
  intro x h0 h1 c hc
  simp only [encF] at hc
  split at hc
  ·rcases List.mem_cons.1 hc with rfl|hc
   ·omega
   ·exact ih _ (by omega) (pow128 j x h1) c hc
  ·simp only [List.mem_singleton] at hc
   omega
theorem dec_enc (j : Nat) : ∀ (x n : Int) (i : Nat) (rest : List Int),0 ≤ x → x < 128 ^ (j + 1) → i + j ≤ 8 → 0 ≤ n → n + x * 128 ^ i ≤ 4611686018427387904 → (x ≠ 0 ∨ i = 0) →
  decL (encF j x ++ rest) i n = (n + x * 128 ^ i,(i : Int) + (encF j x).length,0):=by
 induction j with
 | zero =>
  intro x n i rest h0 h1 hij hn hb hx
  simp only [encF,List.cons_append,List.nil_append,decL]
  have hx1 : x < 128:=by omega
  rw [if_pos hx1,Int.emod_eq_of_lt h0 hx1,if_neg (by rintro (⟨a,b⟩|h);omega;omega)]
  simp
 | succ j ih =>
  intro x n i rest h0 h1 hij hn hb hx
  simp only [encF]
  have hp : (0 : Int) < 128 ^ i:=Int.pow_pos (by decide)
  by_cases h : x > 127
  ·rw [if_pos h]
   simp only [List.cons_append,decL]
   rw [if_neg (by omega),if_neg (by omega),show (x % 128 + 128) % 128 = x % 128 by omega]
   have e1 : x / 128 * 128 ^ (i + 1) = x / 128 * 128 * 128 ^ i:=by rw [Int.pow_succ,Int.mul_comm (128 ^ i) 128,Int.mul_assoc]
   have e2 : n + x % 128 * 128 ^ i + x / 128 * 128 ^ (i + 1) = n + x * 128 ^ i:=by
    rw [e1,Int.add_assoc,← Int.add_mul,show x % 128 + x / 128 * 128 = x by omega]
   have e3 : 0 ≤ x % 128 * 128 ^ i:=Int.mul_nonneg (by omega) (by omega)
   rw [ih (x / 128) _ (i + 1) rest (by omega) (pow128 j x h1) (by omega) (by omega) (by rw [e2];exact hb) (by left;omega),e2]
   simp only [List.length_cons]
   congr 2
   omega
  ·rw [if_neg h]
   simp only [List.cons_append,List.nil_append,decL]
   have hx1 : x < 128:=by omega
   rw [if_pos hx1,Int.emod_eq_of_lt h0 hx1,if_neg (by rintro (⟨a,b⟩|h);omega;omega)]
   simp
theorem dec_cut (j : Nat) : ∀ (x n : Int) (i m : Nat),i + j ≤ 8 → m < (encF j x).length → decL ((encF j x).take m) i n = (0,0,3):=by
 induction j with
 | zero =>
  intro x n i m _ hm
  simp only [encF,List.length_singleton] at hm
  obtain rfl : m = 0:=by omega
  rfl
 | succ j ih =>
  intro x n i m hij hm
  simp only [encF] at hm ⊢
  by_cases h : x > 127
  ·rw [if_pos h] at hm ⊢
   cases m with
   | zero=>rfl
   | succ m =>
    simp only [List.take_succ_cons,decL]
    rw [if_neg (by omega),if_neg (by omega)]
    exact ih _ _ (i + 1) m (by omega) (by simpa using hm)
  ·rw [if_neg h] at hm ⊢
   simp only [List.length_singleton] at hm
   obtain rfl : m = 0:=by omega
   rfl
def enc (x : Int) : List Int:=encF 8 x
theorem enc_len (x : Int) : (enc x).length ≤ 9 ∧ 1 ≤ (enc x).length:=encF_length 8 x
theorem enc_bytes (x : Int) (h0 : 0 ≤ x) (h1 : x ≤ 4611686018427387904) : ∀ c ∈ enc x,0 ≤ c ∧ c ≤ 255:=encF_bytes 8 x h0 (by omega)
theorem decL_enc (x : Int) (rest : List Int) (h0 : 0 ≤ x) (h1 : x ≤ 4611686018427387904) : decL (enc x ++ rest) 0 0 = (x,((enc x).length : Int),0):=by
 have h:=dec_enc 8 x 0 0 rest h0 (by omega) (by omega) (by omega) (by simp;omega) (.inr rfl)
 unfold enc
 rw [h]
 simp
theorem decL_cut (x : Int) (m : Nat) (h : m < (enc x).length) : decL ((enc x).take m) 0 0 = (0,0,3):=dec_cut 8 x 0 0 m (by omega) h
theorem xor_div2 (a b : Nat) : (a ^^^ b) / 2 = a / 2 ^^^ b / 2:=by
 apply Nat.eq_of_testBit_eq
 intro i
 simp [Nat.testBit_div_two]
theorem xor_mod2 (a b : Nat) : (a ^^^ b) % 2 = (a % 2 + b % 2) % 2:=by
 have h:=Nat.xor_mod_two_pow (a:=a) (b:=b) (n:=1)
 simp only [Nat.pow_one] at h
 rw [h]
 rcases Nat.mod_two_eq_zero_or_one a with h1|h1 <;> rcases Nat.mod_two_eq_zero_or_one b with h2|h2 <;> rw [h1,h2] <;> rfl
theorem xlc (a b c : Nat) : a ^^^ (b ^^^ c) = b ^^^ (a ^^^ c):=by rw [← Nat.xor_assoc,Nat.xor_comm a b,Nat.xor_assoc]
theorem cstep_xor (a b : Nat) : cstep (a ^^^ b) = cstep a ^^^ cstep b:=by
 unfold cstep
 rw [xor_mod2,xor_div2]
 rcases Nat.mod_two_eq_zero_or_one a with h1|h1 <;> rcases Nat.mod_two_eq_zero_or_one b with h2|h2 <;> rw [h1,h2]
 ·simp
 ·simp [Nat.xor_assoc]
 ·simp only [if_true,show (1 + 0) % 2 = 1 from rfl,show ¬ (0 = 1) by decide,if_false]
  rw [Nat.xor_assoc,Nat.xor_assoc,Nat.xor_comm (b / 2)]
 ·simp only [if_true,Nat.reduceAdd,Nat.reduceMod,show ¬ (0 = 1) by decide,if_false]
  rw [Nat.xor_assoc,xlc 2197175160,Nat.xor_self,Nat.xor_zero]
theorem citer_xor (k a b : Nat) : citer k (a ^^^ b) = citer k a ^^^ citer k b:=by
 induction k with
 | zero=>rfl
 | succ k ih=>show cstep (citer k (a ^^^ b)) = _;rw [ih,cstep_xor];rfl
theorem cstep_even (m : Nat) : cstep (2 * m) = m:=by unfold cstep;rw [if_neg (by omega)];omega
theorem citer_high (h : Nat) : citer 8 (256 * h) = h:=by
 simp only [citer]
 rw [show 256 * h = 2 * (2 * (2 * (2 * (2 * (2 * (2 * (2 * h))))))) by omega]
 simp only [cstep_even]
theorem split256 (x : Nat) : x = 256 * (x / 256) ^^^ x % 256:=by
 apply Nat.eq_of_testBit_eq
 intro i
 rw [Nat.testBit_xor,show (256 : Nat) = 2 ^ 8 from rfl,Nat.testBit_two_pow_mul,Nat.testBit_mod_two_pow,Nat.testBit_div_two_pow]
 by_cases h : i < 8
 ·simp [h,show ¬ 8 ≤ i by omega]
 ·simp [h,show 8 ≤ i by omega,show i - 8 + 8 = i by omega]
theorem byte_step (x c : Nat) : citer 8 (x ^^^ c) = x / 256 ^^^ citer 8 (x % 256 ^^^ c):=by
 conv=>lhs;rw [split256 x]
 rw [Nat.xor_assoc,citer_xor,citer_high]
theorem crc_nil (x : Nat) : crcFold x [] = x:=by rfl
theorem crc_cons (x : Nat) (c : Int) (t : List Int) : crcFold x (c :: t) = crcFold (x / 256 ^^^ citer 8 (x % 256 ^^^ c.toNat)) t:=by rfl
theorem ref_nil (x : Nat) : refFold x [] = x:=by rfl
theorem ref_cons (x : Nat) (c : Int) (t : List Int) : refFold x (c :: t) = refFold (citer 8 (x ^^^ c.toNat)) t:=by rfl
theorem folds_same (l : List Int) : ∀ x,crcFold x l = refFold x l:=by
 induction l with
 | nil=>intro x;rw [crc_nil,ref_nil]
 | cons c t ih=>intro x;rw [crc_cons,ref_cons,← byte_step,ih]
theorem sums_same (l : List Int) : crcSum l = 4294967295 - ((refFold 4294967295 l : Nat) : Int):=congrArg (fun x : Nat=>(4294967295 : Int) - (x : Int)) (folds_same l 4294967295)
theorem sum_range (l : List Int) (h : ∀ c ∈ l,0 ≤ c ∧ c ≤ 255) : 0 ≤ crcSum l ∧ crcSum l ≤ 4294967295:=by
 have:=crcFold_lt l 4294967295 (by decide) h
 unfold crcSum
 omega
end Go.Proofs.Ytepnddmalheoiaa.WireA
namespace Go.Proofs.Ytepnddmalheoiaa.WireC
open Go.RowKit Go.Proofs.Ytepnddmalheoiaa.H Go.Proofs.Ytepnddmalheoiaa.WireA Go.Proofs.YtepnddmalheoiaaW.PrintWords
def headF (t : Int) (l : List Int) : List Int:=t :: (enc (l.length : Int) ++ l)
def sum4 (s : Int) : List Int:=[s / 16777216 % 256,s / 65536 % 256,s / 256 % 256,s % 256]
def frameF (t : Int) (l : List Int) : List Int:=t :: (enc (l.length : Int) ++ (l ++ sum4 (crcSum (headF t l))))
theorem head_bytes (t : Int) (l : List Int) (ht : 0 ≤ t ∧ t ≤ 255) (hb : ∀ c ∈ l,0 ≤ c ∧ c ≤ 255) (hl : l.length ≤ 1048576) : ∀ c ∈ headF t l,0 ≤ c ∧ c ≤ 255:=by
 intro c hc
 rcases List.mem_cons.1 hc with rfl|hc
 ·exact ht
 rcases List.mem_append.1 hc with hc|hc
 ·exact enc_bytes _ (by omega) (by omega) c hc
 ·exact hb c hc
theorem sum4_bytes (s : Int) : ∀ c ∈ sum4 s,0 ≤ c ∧ c ≤ 255:=by
 intro c hc
 simp only [sum4,List.mem_cons,List.not_mem_nil,or_false] at hc
 omega
theorem frame_bytes (t : Int) (l : List Int) (ht : 0 ≤ t ∧ t ≤ 255) (hb : ∀ c ∈ l,0 ≤ c ∧ c ≤ 255) (hl : l.length ≤ 1048576) : ∀ c ∈ frameF t l,0 ≤ c ∧ c ≤ 255:=by
 intro c hc
 rcases List.mem_cons.1 hc with rfl|hc
 ·exact ht
 rcases List.mem_append.1 hc with hc|hc
 ·exact enc_bytes _ (by omega) (by omega) c hc
 rcases List.mem_append.1 hc with hc|hc
 ·exact hb c hc
 ·exact sum4_bytes _ c hc
theorem be_sum4 (s : Int) (h : 0 ≤ s ∧ s ≤ 4294967295) : beF 0 (sum4 s) = s:=by
 simp only [sum4,beF];omega
theorem be_set (s c : Int) (q : Nat) (hq : q < 4) (hc : 0 ≤ c ∧ c ≤ 255) (hne : c ≠ (sum4 s).getD q 0) : beF 0 ((sum4 s).set q c) ≠ s:=by
 obtain rfl|rfl|rfl|rfl : q = 0 ∨ q = 1 ∨ q = 2 ∨ q = 3:=by omega
 all_goals
  simp only [sum4,List.set_cons_zero,List.set_cons_succ,beF,List.getD_cons_zero,List.getD_cons_succ] at hne ⊢
  omega
theorem cstep_inj (x y : Nat) (hx : x < 4294967296) (hy : y < 4294967296) (h : cstep x = cstep y) : x = y:=by
 have top : ∀ z : Nat,z < 4294967296 → (z / 2).testBit 31 = false:=fun z hz=>Nat.testBit_lt_two_pow (by omega)
 have hp : Nat.testBit 2197175160 31 = true:=by decide
 have t:=congrArg (fun z=>Nat.testBit z 31) h
 have tx:=top x hx
 have ty:=top y hy
 unfold cstep at h t
 by_cases h1 : x % 2 = 1 <;> by_cases h2 : y % 2 = 1
 ·rw [if_pos h1,if_pos h2] at h
  have h3:=congrArg (fun z=>z ^^^ 2197175160) h
  simp only [Nat.xor_assoc,Nat.xor_self,Nat.xor_zero] at h3
  omega
 ·rw [if_pos h1,if_neg h2] at t
  simp only [Nat.testBit_xor,tx,ty,hp] at t
  exact absurd t (by decide)
 ·rw [if_neg h1,if_pos h2] at t
  simp only [Nat.testBit_xor,tx,ty,hp] at t
  exact absurd t (by decide)
 ·rw [if_neg h1,if_neg h2] at h
  omega
theorem citer_inj (k x y : Nat) (hx : x < 4294967296) (hy : y < 4294967296) (h : citer k x = citer k y) : x = y:=by
 induction k with
 | zero=>exact h
 | succ k ih=>exact ih (cstep_inj _ _ (citer_lt k x hx) (citer_lt k y hy) h)
theorem xor_cancel (a b c : Nat) (h : a ^^^ c = b ^^^ c) : a = b:=by
 have h3:=congrArg (fun z=>z ^^^ c) h
 simpa only [Nat.xor_assoc,Nat.xor_self,Nat.xor_zero] using h3
theorem xlt (x : Nat) (c : Int) (hx : x < 4294967296) (hc : 0 ≤ c ∧ c ≤ 255) : x ^^^ c.toNat < 4294967296:=Nat.xor_lt_two_pow (n:=32) (by omega) (by omega)
theorem ref_inj (l : List Int) : ∀ x y : Nat,x < 4294967296 → y < 4294967296 → (∀ c ∈ l,0 ≤ c ∧ c ≤ 255) → refFold x l = refFold y l → x = y:=by
 induction l with
 | nil=>intro x y _ _ _ h;rwa [ref_nil,ref_nil] at h
 | cons c t ih =>
  intro x y hx hy hb h
  rw [ref_cons,ref_cons] at h
  have hc:=hb c (by simp)
  have h1:=ih _ _ (citer_lt 8 _ (xlt x c hx hc)) (citer_lt 8 _ (xlt y c hy hc)) (fun d hd=>hb d (by simp [hd])) h
  exact xor_cancel _ _ _ (citer_inj 8 _ _ (xlt x c hx hc) (xlt y c hy hc) h1)
theorem ref_set (l : List Int) : ∀ (x : Nat) (i : Nat) (c : Int),x < 4294967296 → i < l.length → 0 ≤ c ∧ c ≤ 255 → (∀ c ∈ l,0 ≤ c ∧ c ≤ 255) → c ≠ l.getD i 0 → refFold x (l.set i c) ≠ refFold x l:=by
 induction l with
 | nil=>intro x i c _ hi;simp at hi
 | cons d t ih =>
  intro x i c hx hi hc hb hne h
  have hd:=hb d (by simp)
  cases i with
  | zero =>
   rw [List.set_cons_zero,ref_cons,ref_cons] at h
   have h1:=ref_inj t _ _ (citer_lt 8 _ (xlt x c hx hc)) (citer_lt 8 _ (xlt x d hx hd)) (fun d hd=>hb d (by simp [hd])) h
   have h2:=citer_inj 8 _ _ (xlt x c hx hc) (xlt x d hx hd) h1
   rw [Nat.xor_comm x,Nat.xor_comm x] at h2
   have h3:=xor_cancel _ _ _ h2
   simp only [List.getD_cons_zero] at hne
   omega
  | succ i =>
   rw [List.set_cons_succ,ref_cons,ref_cons] at h
   exact ih _ i c (citer_lt 8 _ (xlt x d hx hd)) (by simpa using hi) hc (fun d hd=>hb d (by simp [hd])) (by simpa using hne) h
theorem sum_set (l : List Int) (i : Nat) (c : Int) (hi : i < l.length) (hc : 0 ≤ c ∧ c ≤ 255) (hb : ∀ c ∈ l,0 ≤ c ∧ c ≤ 255) (hne : c ≠ l.getD i 0) : crcSum (l.set i c) ≠ crcSum l:=by
 rw [sums_same,sums_same]
 have:=ref_set l 4294967295 i c (by decide) hi hc hb hne
 generalize refFold 4294967295 (l.set i c) = a at *
 generalize refFold 4294967295 l = b at *
 omega
theorem unf_of (t : Int) (n : Nat) (tail : List Int) (hn : n ≤ 1048576) (hl : n + 4 ≤ tail.length) :
  unf (t :: (enc n ++ tail)) = if beF 0 ((tail.drop n).take 4) ≠ crcSum (t :: (enc n ++ tail.take n)) then (0,[],0,4) else (t,tail.take n,1 + ((enc n).length : Int) + n + 4,0):=by
 unfold unf
 have hd:=decL_enc n tail (by omega) (by omega)
 rw [List.drop_succ_cons,List.drop_zero,hd]
 simp only
 rw [if_neg (by simp),if_neg (by simp),if_neg (by omega),if_neg (by simp;omega)]
 have e1 : (1 + ((enc n).length : Int) + n).toNat = (enc n).length + n + 1:=by omega
 have e2 : (1 + ((enc n).length : Int)).toNat = (enc n).length + 1:=by omega
 rw [e1,e2,List.drop_succ_cons,List.take_succ_cons,List.drop_succ_cons,List.drop_length_add_append,List.take_length_add_append,List.drop_left,List.getD_cons_zero]
theorem unf_short (t : Int) (n : Nat) (tail : List Int) (hn : n ≤ 1048576) (hl : tail.length < n + 4) : (unf (t :: (enc n ++ tail))).2.2.2 = 3:=by
 unfold unf
 have hd:=decL_enc n tail (by omega) (by omega)
 rw [List.drop_succ_cons,List.drop_zero,hd]
 simp only
 rw [if_neg (by simp),if_neg (by simp),if_neg (by omega),if_pos (by simp;omega)]
theorem unf_cut (t : Int) (n m : Nat) (hm : m < (enc n).length) : (unf (t :: (enc n).take m)).2.2.2 = 3:=by
 unfold unf
 have hd:=decL_cut n m hm
 rw [List.drop_succ_cons,List.drop_zero,hd]
 simp only
 rw [if_neg (by simp),if_pos (by simp)]
theorem frame_len (t : Int) (l : List Int) : (frameF t l).length = 1 + (enc (l.length : Int)).length + l.length + 4:=by
 simp [frameF,sum4];omega
theorem unframe_frame (t : Int) (l rest : List Int) (hl : l.length ≤ 1048576) (ht : 0 ≤ t ∧ t ≤ 255) (hb : ∀ c ∈ l,0 ≤ c ∧ c ≤ 255) :
  unf (frameF t l ++ rest) = (t,l,((frameF t l).length : Int),0):=by
 have hS:=sum_range _ (head_bytes t l ht hb hl)
 have e : frameF t l ++ rest = t :: (enc (l.length : Int) ++ (l ++ (sum4 (crcSum (headF t l)) ++ rest))):=by simp [frameF]
 rw [e,unf_of t l.length _ hl (by simp [sum4])]
 rw [List.drop_left,List.take_left]
 have e4 : (sum4 (crcSum (headF t l)) ++ rest).take 4 = sum4 (crcSum (headF t l)):=List.take_left' (by rfl)
 rw [e4,be_sum4 _ hS]
 unfold headF
 rw [if_neg (by simp),frame_len]
 simp only [Prod.mk.injEq,true_and,and_true]
 omega
theorem unframe_prefix (t : Int) (l : List Int) (m : Nat) (hl : l.length ≤ 1048576) (hm : m < (frameF t l).length) : (unf ((frameF t l).take m)).2.2.2 = 3:=by
 rw [frame_len] at hm
 cases m with
 | zero=>rfl
 | succ m =>
  unfold frameF
  rw [List.take_succ_cons,List.take_append]
  by_cases h : m < (enc (l.length : Int)).length
  ·rw [show m - (enc (l.length : Int)).length = 0 by omega,List.take_zero,List.append_nil]
   exact unf_cut t l.length m h
  ·rw [List.take_of_length_le (l:=enc _) (by omega)]
   exact unf_short t l.length _ hl (by simp [sum4];omega)
theorem unframe_set (t : Int) (l : List Int) (p : Nat) (c : Int) (hl : l.length ≤ 1048576) (ht : 0 ≤ t ∧ t ≤ 255) (hb : ∀ c ∈ l,0 ≤ c ∧ c ≤ 255)
  (hc : 0 ≤ c ∧ c ≤ 255) (hp : 1 + (enc (l.length : Int)).length ≤ p) (hp' : p < (frameF t l).length) (hne : c ≠ (frameF t l).getD p 0) : (unf ((frameF t l).set p c)).2.2.2 = 4:=by
 rw [frame_len] at hp'
 obtain ⟨q,rfl⟩ : ∃ q,p = (enc (l.length : Int)).length + q + 1:=⟨p - 1 - (enc (l.length : Int)).length,by omega⟩
 have hh:=head_bytes t l ht hb hl
 have hS:=sum_range _ hh
 have hget : (frameF t l).getD ((enc (l.length : Int)).length + q + 1) 0 = (l ++ sum4 (crcSum (headF t l))).getD q 0:=by
  unfold frameF
  rw [List.getD_cons_succ,List.getD_eq_getElem?_getD,List.getElem?_append_right (by omega),Nat.add_sub_cancel_left,← List.getD_eq_getElem?_getD]
 rw [hget] at hne
 have hset : (frameF t l).set ((enc (l.length : Int)).length + q + 1) c = t :: (enc (l.length : Int) ++ (l ++ sum4 (crcSum (headF t l))).set q c):=by
  unfold frameF
  rw [List.set_cons_succ,List.set_append_right _ _ (by omega),Nat.add_sub_cancel_left]
 rw [hset,unf_of t l.length _ hl (by simp [sum4])]
 by_cases h : q < l.length
 ·have e1 : (l ++ sum4 (crcSum (headF t l))).set q c = l.set q c ++ sum4 (crcSum (headF t l)):=List.set_append_left _ _ h
  have e2 : (l.set q c ++ sum4 (crcSum (headF t l))).drop l.length = sum4 (crcSum (headF t l)):=List.drop_left' (by simp)
  have e3 : (l.set q c ++ sum4 (crcSum (headF t l))).take l.length = l.set q c:=List.take_left' (by simp)
  have e4 : (sum4 (crcSum (headF t l))).take 4 = sum4 (crcSum (headF t l)):=rfl
  rw [e1,e2,e3,e4,be_sum4 _ hS]
  have hs : t :: (enc (l.length : Int) ++ l.set q c) = (headF t l).set ((enc (l.length : Int)).length + q + 1) c:=by
   unfold headF
   rw [List.set_cons_succ,List.set_append_right _ _ (by omega),Nat.add_sub_cancel_left]
  have hg : (headF t l).getD ((enc (l.length : Int)).length + q + 1) 0 = l.getD q 0:=by
   unfold headF
   rw [List.getD_cons_succ,List.getD_eq_getElem?_getD,List.getElem?_append_right (by omega),Nat.add_sub_cancel_left,← List.getD_eq_getElem?_getD]
  have hn2 : c ≠ l.getD q 0:=by
   rw [List.getD_eq_getElem?_getD,List.getElem?_append_left h,← List.getD_eq_getElem?_getD] at hne
   exact hne
  have hx:=sum_set (headF t l) ((enc (l.length : Int)).length + q + 1) c (by simp [headF];omega) hc hh (by rw [hg];exact hn2)
  rw [if_pos (by rw [hs];exact fun e=>hx e.symm)]
 ·obtain ⟨r,rfl⟩ : ∃ r,q = l.length + r:=⟨q - l.length,by omega⟩
  have hr : r < 4:=by omega
  have e1 : (l ++ sum4 (crcSum (headF t l))).set (l.length + r) c = l ++ (sum4 (crcSum (headF t l))).set r c:=by
   rw [List.set_append_right _ _ (by omega),Nat.add_sub_cancel_left]
  have hn2 : c ≠ (sum4 (crcSum (headF t l))).getD r 0:=by
   rw [List.getD_eq_getElem?_getD,List.getElem?_append_right (by omega),Nat.add_sub_cancel_left,← List.getD_eq_getElem?_getD] at hne
   exact hne
  have e4 : ((sum4 (crcSum (headF t l))).set r c).take 4 = (sum4 (crcSum (headF t l))).set r c:=List.take_of_length_le (by simp [sum4])
  rw [e1,List.drop_left,List.take_left,e4]
  have hx:=be_set (crcSum (headF t l)) c r hr hc hn2
  rw [if_pos (show _ ≠ crcSum (t :: (enc (l.length : Int) ++ l)) from hx)]
end Go.Proofs.Ytepnddmalheoiaa.WireC
