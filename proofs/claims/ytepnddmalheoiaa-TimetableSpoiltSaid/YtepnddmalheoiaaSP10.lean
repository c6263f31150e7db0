/- For timetableSpoilt_holds: texts of this session and words of the kit's print, those alone that the proof uses. -/
import Derived.Test.YtepnddmalheoiaaProg
import Derived.Below
import Derived.Deep.Draws
import Derived.Deep.AppendLies
import Derived.Maps.AppendAt
import Derived.OwnWalk
import Derived.Laws.BytesArg
import Derived.Laws.MakeOwn
import Derived.Laws.OwnMore
import Derived.Deep.OwnRows
import Derived.Tactics
import Derived.Lib.ConvBytes
import Derived.Laws.Slices
import Derived.WalkKit
import Derived.KernelRfl
import Derived.RowKit3
import Derived.Deep.LoopGhost
import Derived.Deep.QuietTactic
import Derived.BigQuiet
import Derived.WideLaws
import Derived.Deep.DeepCutAuto
import Derived.Deep.CutBlock
import Derived.Deep.RegionHeld3
import Derived.Laws.Rows
import Derived.Lib.AppendStr
import Derived.ArgAppend
import Derived.Laws.IdiomCopy
import Derived.OrdersHeld
import Derived.Laws.BitsLemmas
import Derived.RowKit
import Derived.Deep.WholeRow
import Derived.Laws.ResultCell
import Derived.Lib.SlBytesConst
import Derived.Outline
import Derived.Laws.StructEq
import Derived.IntWalk
import Derived.Test.YtepnddmalheoiaaSP0
import Derived.Test.YtepnddmalheoiaaSP1
import Derived.Test.YtepnddmalheoiaaSP2
import Derived.Test.YtepnddmalheoiaaSP3
import Derived.Test.YtepnddmalheoiaaSP4
import Derived.Test.YtepnddmalheoiaaSP5
import Derived.Test.YtepnddmalheoiaaSP6
import Derived.Test.YtepnddmalheoiaaSP7
import Derived.Test.YtepnddmalheoiaaSP8
import Derived.Test.YtepnddmalheoiaaSP9
set_option linter.unusedVariables false
set_option linter.unusedSimpArgs false
namespace Go.Proofs.Ytepnddmalheoiaa.TtB
open Go.RowKit Go.Proofs.Ytepnddmalheoiaa.H Go.Proofs.Ytepnddmalheoiaa.Q Go.Proofs.Ytepnddmalheoiaa.TtA Go.Proofs.YtepnddmalheoiaaW.PrintWords
def offS (c : Int) : Bool:=decide (-840 ≤ c ∧ c ≤ 840)
theorem poff (c : Int) : zca.f c = some (offS c):=by unfold zca.f offS;split <;> simp <;> omega
theorem roff (c : Int) : zbo.f c = some (offS c):=by unfold zbo.f offS;split <;> simp <;> omega
def atS (c : Int) : Bool:=decide (0 ≤ c ∧ c < 52596000)
theorem rinst (c : Int) : zcg.f c = some (atS c):=by unfold zcg.f atS;split <;> simp <;> omega
def shS (sh : List S44) : Nat → Nat → Int
 | 0,_=>0
 | n + 1,i=>if (atS (zbu sh (i : Int)).f0 && offS (zbu sh (i : Int)).f1) = true then (if 0 < i ∧ (zbu sh (i : Int)).f0 ≤ (zbu sh ((i - 1 : Nat) : Int)).f0 then 8 else shS sh n (i + 1)) else 5
theorem pz_l0 (sh : List S44) (a : ByteArray) (b : Int) (hl : sh.length ≤ 16) (n : Nat) : ∀ k i : Nat,2 * n < k → i + n = sh.length → zbk.l0 k sh (sh.length : Int) (i : Int) a b sh = some (shS sh n i):=by
 induction n with
 | zero =>
  intro k i hk hi
  obtain ⟨k,rfl⟩ : ∃ m,k = m + 1:=⟨k - 1,by omega⟩
  simp only [zbk.l0,shS]
  rw [if_neg (by omega)]
 | succ n ih =>
  intro k i hk hi
  obtain ⟨k,rfl⟩ : ∃ m,k = m + 2:=⟨k - 2,by omega⟩
  have hjt : zbk.j1 (k + 1) (i : Int) sh (sh.length : Int) (i : Int) true a b sh (zbu sh (i : Int)).f0 (zbu sh (i : Int)).f1 = some 5:=by simp only [zbk.j1];rw [if_pos trivial]
  have hjf : zbk.j1 (k + 1) (i : Int) sh (sh.length : Int) (i : Int) false a b sh (zbu sh (i : Int)).f0 (zbu sh (i : Int)).f1 = some (if 0 < i ∧ (zbu sh (i : Int)).f0 ≤ (zbu sh ((i - 1 : Nat) : Int)).f0 then 8 else shS sh n (i + 1)):=by
   simp only [zbk.j1]
   rw [if_neg (show ¬ (false = true) by simp),w1 i (by omega),ih k (i + 1) (by omega) (by omega)]
   by_cases h0 : 0 < i
   ·rw [if_pos (show (i : Int) > 0 by omega),w1' i (by omega) h0,if_pos (show 0 ≤ ((i - 1 : Nat) : Int) by omega),if_pos (show ((i - 1 : Nat) : Int) < (sh.length : Int) by omega)]
    by_cases h1 : (zbu sh (i : Int)).f0 ≤ (zbu sh ((i - 1 : Nat) : Int)).f0
    ·rw [if_pos h1,if_pos ⟨h0,h1⟩]
    ·rw [if_neg h1,if_neg (fun h=>h1 h.2)]
   ·rw [if_neg (show ¬ (i : Int) > 0 by omega),if_neg (fun h=>h0 h.1)]
  simp only [zbk.l0,shS]
  rw [if_pos (by omega),if_pos (by omega),if_pos (by omega),hjt,poff,Option.bind_some]
  unfold atS
  by_cases h1 : (zbu sh (i : Int)).f0 < 0
  ·rw [if_pos h1,decide_eq_false (by omega)];simp
  ·rw [if_neg h1]
   by_cases h2 : (zbu sh (i : Int)).f0 ≥ 52596000
   ·rw [if_pos h2,decide_eq_false (by omega)];simp
   ·rw [if_neg h2,decide_eq_true (by omega)]
    cases offS (zbu sh (i : Int)).f1
    ·rw [Bool.not_false,hjt];simp
    ·rw [Bool.not_true,hjf];simp
theorem rz_l0 (sh : List S44) (a : ByteArray) (b : Int) (hl : sh.length ≤ 16) (n : Nat) : ∀ k i : Nat,2 * n < k → i + n = sh.length → zap.l0 k (i : Int) a b sh = some (shS sh n i):=by
 induction n with
 | zero =>
  intro k i hk hi
  obtain ⟨k,rfl⟩ : ∃ m,k = m + 1:=⟨k - 1,by omega⟩
  simp only [zap.l0,shS]
  rw [if_neg (by omega)]
 | succ n ih =>
  intro k i hk hi
  obtain ⟨k,rfl⟩ : ∃ m,k = m + 2:=⟨k - 2,by omega⟩
  have hjt : zap.j1 (k + 1) (i : Int) true a b sh = some 5:=by simp only [zap.j1];rw [if_pos trivial]
  have hjf : zap.j1 (k + 1) (i : Int) false a b sh = some (if 0 < i ∧ (zbu sh (i : Int)).f0 ≤ (zbu sh ((i - 1 : Nat) : Int)).f0 then 8 else shS sh n (i + 1)):=by
   simp only [zap.j1]
   rw [if_neg (show ¬ (false = true) by simp),w1 i (by omega),ih k (i + 1) (by omega) (by omega)]
   by_cases h0 : 0 < i
   ·rw [if_pos (show (i : Int) > 0 by omega),if_pos (show 0 ≤ (i : Int) by omega),if_pos (show (i : Int) < (sh.length : Int) by omega),w1' i (by omega) h0,if_pos (show 0 ≤ ((i - 1 : Nat) : Int) by omega),if_pos (show ((i - 1 : Nat) : Int) < (sh.length : Int) by omega)]
    by_cases h1 : (zbu sh (i : Int)).f0 ≤ (zbu sh ((i - 1 : Nat) : Int)).f0
    ·rw [if_pos h1,if_pos ⟨h0,h1⟩]
    ·rw [if_neg h1,if_neg (fun h=>h1 h.2)]
   ·rw [if_neg (show ¬ (i : Int) > 0 by omega),if_neg (fun h=>h0 h.1)]
  simp only [zap.l0,shS]
  rw [if_pos (by omega),if_pos (by omega),rinst,Option.bind_some,roff,Option.bind_some,hjt]
  cases atS (zbu sh (i : Int)).f0
  ·simp
  ·cases offS (zbu sh (i : Int)).f1
   ·rw [if_pos rfl,Bool.not_false,hjt];simp
   ·rw [if_pos rfl,Bool.not_true,hjf];simp
def zoneS (a : ByteArray) (o : Int) (sh : List S44) : Int:=if nameS a = true then (if offS o = true then (if (sh.length : Int) > 16 then 10 else shS sh sh.length 0) else 5) else 1
theorem pzone (a : ByteArray) (o : Int) (sh : List S44) (k : Nat) (hk : 40 ≤ k) : zbk.f k a o sh = some (zoneS a o sh):=by
 unfold zbk.f zoneS
 rw [pname,Option.bind_some,poff,Option.bind_some]
 repeat' split
 all_goals first|rfl|skip
 exact pz_l0 sh a o (by omega) sh.length k 0 (by omega) (by omega)
theorem rzone (a : ByteArray) (o : Int) (sh : List S44) (k : Nat) (hk : 40 ≤ k) : zap.f k a o sh = some (zoneS a o sh):=by
 unfold zap.f zoneS
 rw [rname a k (by omega),Option.bind_some,roff,Option.bind_some]
 repeat' split
 all_goals first|rfl|skip
 exact rz_l0 sh a o (by omega) sh.length k 0 (by omega) (by omega)
def ix (q : Nat → Bool) : Nat → Nat → Int
 | 0,_=>-1
 | n + 1,i=>if q i = true then (i : Int) else ix q n (i + 1)
theorem ix_congr (q q' : Nat → Bool) (n : Nat) : ∀ i,(∀ j,i ≤ j → j < i + n → q j = q' j) → ix q n i = ix q' n i:=by
 induction n with
 | zero=>intro i _;rfl
 | succ n ih =>
  intro i h
  simp only [ix]
  rw [h i (by omega) (by omega),ih (i + 1) (fun j h1 h2=>h j (by omega) (by omega))]
theorem ix_range (q : Nat → Bool) (n : Nat) : ∀ i,ix q n i = -1 ∨ ((i : Int) ≤ ix q n i ∧ ix q n i < (i : Int) + n):=by
 induction n with
 | zero=>intro i;exact .inl rfl
 | succ n ih =>
  intro i
  simp only [ix]
  split
  ·right;omega
  ·have:=ih (i + 1);omega
theorem ix_split (q : Nat → Bool) (m n : Nat) : ∀ i,ix q (m + n) i = if ix q m i = -1 then ix q n (i + m) else ix q m i:=by
 induction m with
 | zero=>intro i;simp [ix]
 | succ m ih =>
  intro i
  rw [show m + 1 + n = (m + n) + 1 by omega]
  by_cases h : q i = true
  ·have e1 : ix q (m + 1) i = (i : Int):=if_pos h
   have e2 : ix q (m + n + 1) i = (i : Int):=if_pos h
   rw [e2,if_neg (by rw [e1];omega),e1]
  ·have e1 : ix q (m + 1) i = ix q m (i + 1):=if_neg h
   have e2 : ix q (m + n + 1) i = ix q (m + n) (i + 1):=if_neg h
   have h3:=ih (i + 1)
   rw [e2,h3]
   by_cases h1 : ix q m (i + 1) = -1
   ·rw [if_pos h1,if_pos (by rw [e1];exact h1),show i + 1 + m = i + (m + 1) by omega]
   ·rw [if_neg h1,if_neg (by rw [e1];exact h1),e1]
theorem ix_before (q : Nat → Bool) (i n : Nat) (hi : i < n) (hq : q i = true) : ix q n 0 < (i : Int) ↔ ix q i 0 ≥ 0:=by
 obtain ⟨m,rfl⟩ : ∃ m,n = i + (m + 1):=⟨n - i - 1,by omega⟩
 rw [ix_split q i (m + 1) 0]
 have h:=ix_range q i 0
 by_cases h1 : ix q i 0 = -1
 ·have e : ix q (m + 1) (0 + i) = ((0 + i : Nat) : Int):=if_pos (by rw [Nat.zero_add];exact hq)
  rw [if_pos h1,e,h1];omega
 ·rw [if_neg h1];omega
def zq (l : List S42) (a : ByteArray) (j : Nat) : Bool:=(zbi l (j : Int)).f0.toList == a.toList
def aq (l : List S39) (a : ByteArray) (j : Nat) : Bool:=(zbd l (j : Int)).f0.toList == a.toList
theorem pzi (l : List S42) (a : ByteArray) (hl : l.length < 4611686018427387904) (n : Nat) : ∀ k i : Nat,n < k → i + n = l.length → zbj.l0 k a l (l.length : Int) (i : Int) = some (ix (zq l a) n i):=by
 induction n with
 | zero =>
  intro k i hk hi
  obtain ⟨k,rfl⟩ : ∃ m,k = m + 1:=⟨k - 1,by omega⟩
  simp only [zbj.l0,ix]
  rw [if_neg (by omega)]
 | succ n ih =>
  intro k i hk hi
  obtain ⟨k,rfl⟩ : ∃ m,k = m + 1:=⟨k - 1,by omega⟩
  simp only [zbj.l0,ix,zq,beq_iff_eq]
  rw [if_pos (by omega),if_pos (by omega),if_pos (by omega),w1 i (by omega),ih k (i + 1) (by omega) (by omega)]
  split <;> rfl
theorem rzi (l : List S42) (a : ByteArray) (hl : l.length < 4611686018427387904) (n : Nat) : ∀ k i : Nat,n < k → i + n = l.length → zba.l0 k l a (i : Int) = some (ix (zq l a) n i):=by
 induction n with
 | zero =>
  intro k i hk hi
  obtain ⟨k,rfl⟩ : ∃ m,k = m + 1:=⟨k - 1,by omega⟩
  simp only [zba.l0,ix]
  rw [if_neg (by omega)]
 | succ n ih =>
  intro k i hk hi
  obtain ⟨k,rfl⟩ : ∃ m,k = m + 1:=⟨k - 1,by omega⟩
  simp only [zba.l0,ix,zq,beq_iff_eq]
  rw [if_pos (by omega),if_pos (by omega),w1 i (by omega),ih k (i + 1) (by omega) (by omega)]
  split <;> rfl
theorem pai (l : List S39) (a : ByteArray) (hl : l.length < 4611686018427387904) (n : Nat) : ∀ k i : Nat,n < k → i + n = l.length → zbc.l0 k a l (l.length : Int) (i : Int) = some (ix (aq l a) n i):=by
 induction n with
 | zero =>
  intro k i hk hi
  obtain ⟨k,rfl⟩ : ∃ m,k = m + 1:=⟨k - 1,by omega⟩
  simp only [zbc.l0,ix]
  rw [if_neg (by omega)]
 | succ n ih =>
  intro k i hk hi
  obtain ⟨k,rfl⟩ : ∃ m,k = m + 1:=⟨k - 1,by omega⟩
  simp only [zbc.l0,ix,aq,beq_iff_eq]
  rw [if_pos (by omega),if_pos (by omega),if_pos (by omega),w1 i (by omega),ih k (i + 1) (by omega) (by omega)]
  split <;> rfl
theorem rai (l : List S39) (a : ByteArray) (hl : l.length < 4611686018427387904) (n : Nat) : ∀ k i : Nat,n < k → i + n = l.length → zav.l0 k l a (i : Int) = some (ix (aq l a) n i):=by
 induction n with
 | zero =>
  intro k i hk hi
  obtain ⟨k,rfl⟩ : ∃ m,k = m + 1:=⟨k - 1,by omega⟩
  simp only [zav.l0,ix]
  rw [if_neg (by omega)]
 | succ n ih =>
  intro k i hk hi
  obtain ⟨k,rfl⟩ : ∃ m,k = m + 1:=⟨k - 1,by omega⟩
  simp only [zav.l0,ix,aq,beq_iff_eq]
  rw [if_pos (by omega),if_pos (by omega),w1 i (by omega),ih k (i + 1) (by omega) (by omega)]
  split <;> rfl
def zoneI (l : List S42) (a : ByteArray) : Int:=ix (zq l a) l.length 0
def portI (l : List S39) (a : ByteArray) : Int:=ix (aq l a) l.length 0
theorem pzoneI (l : List S42) (a : ByteArray) (k : Nat) (hl : l.length < k) (hk : k ≤ 4611686018427387904) : zbj.f k l a = some (zoneI l a):=pzi l a (by omega) l.length k 0 hl (by omega)
theorem rzoneI (l : List S42) (a : ByteArray) (k : Nat) (hl : l.length < k) (hk : k ≤ 4611686018427387904) : zba.f k l a = some (zoneI l a):=rzi l a (by omega) l.length k 0 hl (by omega)
theorem pportI (l : List S39) (a : ByteArray) (k : Nat) (hl : l.length < k) (hk : k ≤ 4611686018427387904) : zbc.f k l a = some (portI l a):=pai l a (by omega) l.length k 0 hl (by omega)
theorem rportI (l : List S39) (a : ByteArray) (k : Nat) (hl : l.length < k) (hk : k ≤ 4611686018427387904) : zav.f k l a = some (portI l a):=rai l a (by omega) l.length k 0 hl (by omega)
theorem zone_take (l : List S42) (a : ByteArray) (i : Nat) (hi : i < l.length) (hq : zq l a i = true) : zoneI (l.take i) a ≥ 0 ↔ zoneI l a < (i : Int):=by
 have e : zoneI (l.take i) a = ix (zq l a) i 0:=by
  unfold zoneI
  rw [List.length_take,Nat.min_eq_left (by omega)]
  refine ix_congr _ _ i 0 fun j _ hj=>?_
  simp [zq,zbi,List.getD_eq_getElem?_getD,show j < i by omega]
 rw [e]
 exact (ix_before (zq l a) i l.length hi hq).symm
theorem port_take (l : List S39) (a : ByteArray) (i : Nat) (hi : i < l.length) (hq : aq l a i = true) : portI (l.take i) a ≥ 0 ↔ portI l a < (i : Int):=by
 have e : portI (l.take i) a = ix (aq l a) i 0:=by
  unfold portI
  rw [List.length_take,Nat.min_eq_left (by omega)]
  refine ix_congr _ _ i 0 fun j _ hj=>?_
  simp [aq,zbd,List.getD_eq_getElem?_getD,show j < i by omega]
 rw [e]
 exact (ix_before (aq l a) i l.length hi hq).symm
end Go.Proofs.Ytepnddmalheoiaa.TtB
namespace Go.Proofs.Ytepnddmalheoiaa.TtC
open Go.RowKit Go.Proofs.Ytepnddmalheoiaa.H Go.Proofs.Ytepnddmalheoiaa.Q Go.Proofs.Ytepnddmalheoiaa.TtA Go.Proofs.Ytepnddmalheoiaa.TtB Go.Proofs.YtepnddmalheoiaaW.PrintWords
def oneN (c : Int) : Bool:=decide (0 ≤ c ∧ c ≤ 8)
def needS (f : S36) : Bool:=oneN f.f6.f0 && (oneN f.f6.f1 && oneN f.f6.f2)
theorem one_false {c : Int} (h : c < 0 ∨ c > 8) : oneN c = false:=decide_eq_false (by omega)
theorem one_true {c : Int} (h : ¬ c < 0) (h' : ¬ c > 8) : oneN c = true:=decide_eq_true (by omega)
theorem s01 : wrap64 (0 + 1) = 1:=by unfold wrap64;omega
theorem s12 : wrap64 (1 + 1) = 2:=by unfold wrap64;omega
theorem s23 : wrap64 (2 + 1) = 3:=by unfold wrap64;omega
theorem rd0 (a b c : Int) : rd [a,b,c] 0 = a:=rfl
theorem rd1 (a b c : Int) : rd [a,b,c] 1 = b:=rfl
theorem rd2 (a b c : Int) : rd [a,b,c] 2 = c:=rfl
theorem pneed (k : Nat) (hk : 5 ≤ k) (f : S36) : zcb.f k f.f0 f.f1 f.f2 f.f3 f.f4 f.f5 f.f6.f0 f.f6.f1 f.f6.f2 = some (needS f):=by
 obtain ⟨k,rfl⟩ : ∃ m,k = m + 4:=⟨k - 4,by omega⟩
 unfold zcb.f needS
 simp only [zcb.l0,s01,s12,s23,rd0,rd1,rd2]
 rw [if_pos (show (0 : Int) < 3 by decide),if_pos (show (0 : Int) ≤ 0 by decide)]
 by_cases a0 : f.f6.f0 < 0
 ·rw [if_pos a0,one_false (.inl a0)];rfl
 rw [if_neg a0]
 by_cases b0 : f.f6.f0 > 8
 ·rw [if_pos b0,one_false (.inr b0)];rfl
 rw [if_neg b0,one_true a0 b0,if_pos (show (1 : Int) < 3 by decide),if_pos (show (0 : Int) ≤ 1 by decide)]
 by_cases a1 : f.f6.f1 < 0
 ·rw [if_pos a1,one_false (.inl a1)];rfl
 rw [if_neg a1]
 by_cases b1 : f.f6.f1 > 8
 ·rw [if_pos b1,one_false (.inr b1)];rfl
 rw [if_neg b1,one_true a1 b1,if_pos (show (2 : Int) < 3 by decide),if_pos (show (0 : Int) ≤ 2 by decide)]
 by_cases a2 : f.f6.f2 < 0
 ·rw [if_pos a2,one_false (.inl a2)];rfl
 rw [if_neg a2]
 by_cases b2 : f.f6.f2 > 8
 ·rw [if_pos b2,one_false (.inr b2)];rfl
 rw [if_neg b2,one_true a2 b2,if_neg (show ¬ (3 : Int) < 3 by decide)];rfl
def flightS (ps : List S39) (f : S36) : Int :=
 if (codeS f.f0 && nameS f.f5) = true then
  if portI ps f.f1 < 0 ∨ portI ps f.f2 < 0 then 6 else
  if f.f1.toList = f.f2.toList then 14 else
  if f.f3 < 2880 ∨ f.f4 > 52593120 ∨ f.f4 ≤ f.f3 ∨ wrap64 (f.f4 - f.f3) > 1440 ∨ needS f = false then 5 else 0
 else 1
theorem pj1 (k : Nat) (hk : 6 ≤ k) (f : S36) : zau.j1 k false f.f0 f.f1 f.f2 f.f3 f.f4 f.f5 f.f6.f0 f.f6.f1 f.f6.f2 =
  some (if f.f1.toList = f.f2.toList then 14 else if f.f3 < 2880 ∨ f.f4 > 52593120 ∨ f.f4 ≤ f.f3 ∨ wrap64 (f.f4 - f.f3) > 1440 ∨ needS f = false then 5 else 0):=by
 obtain ⟨k,rfl⟩ : ∃ m,k = m + 1:=⟨k - 1,by omega⟩
 simp only [zau.j1]
 rw [if_neg (show ¬ (false = true) by simp),pneed k (by omega)]
 by_cases h1 : f.f1.toList = f.f2.toList
 ·rw [if_pos h1,if_pos h1]
 rw [if_neg h1,if_neg h1]
 by_cases h2 : f.f3 < 2880
 ·rw [if_pos h2,if_pos (.inl h2)]
 rw [if_neg h2]
 by_cases h3 : f.f4 > 52593120
 ·rw [if_pos h3,if_pos (.inr (.inl h3))]
 rw [if_neg h3]
 by_cases h4 : f.f4 ≤ f.f3
 ·rw [if_pos h4,if_pos (.inr (.inr (.inl h4)))]
 rw [if_neg h4]
 by_cases h5 : wrap64 (f.f4 - f.f3) > 1440
 ·rw [if_pos h5,if_pos (.inr (.inr (.inr (.inl h5))))]
 rw [if_neg h5,Option.bind_some]
 by_cases h6 : needS f = true
 ·rw [if_pos h6,if_neg]
  rintro (h|h|h|h|h)
  ·exact h2 h
  ·exact h3 h
  ·exact h4 h
  ·exact h5 h
  ·rw [h6] at h;exact absurd h (by simp)
 ·rw [if_neg h6,if_pos (.inr (.inr (.inr (.inr (by simpa using h6)))))]
theorem pflight (zs : List S42) (ps : List S39) (fs : List S36) (f : S36) (k : Nat) (hk : ps.length + 10 ≤ k) (hk2 : k ≤ 4611686018427387904) :
  zau.f k zs ps fs f.f0 f.f1 f.f2 f.f3 f.f4 f.f5 f.f6.f0 f.f6.f1 f.f6.f2 = some (flightS ps f):=by
 obtain ⟨k,rfl⟩ : ∃ m,k = m + 2:=⟨k - 2,by omega⟩
 unfold zau.f flightS
 rw [pcode,Option.bind_some,pname,Option.bind_some]
 have hj : zau.j0 (k + 2) true zs ps fs f.f0 f.f1 f.f2 f.f3 f.f4 f.f5 f.f6.f0 f.f6.f1 f.f6.f2 = some 1:=by simp only [zau.j0];rw [if_pos trivial]
 cases codeS f.f0
 ·rw [if_neg (by simp),hj];simp
 rw [if_pos rfl]
 cases nameS f.f5
 ·rw [Bool.not_false,hj];simp
 rw [Bool.not_true,if_pos (by rfl)]
 simp only [zau.j0]
 rw [if_neg (show ¬ (false = true) by simp),pportI ps _ (k + 1) (by omega) (by omega),Option.bind_some,pportI ps _ (k + 1) (by omega) (by omega),Option.bind_some]
 have ht : zau.j1 (k + 1) true f.f0 f.f1 f.f2 f.f3 f.f4 f.f5 f.f6.f0 f.f6.f1 f.f6.f2 = some 6:=by simp only [zau.j1];rw [if_pos trivial]
 by_cases h1 : portI ps f.f1 < 0
 ·rw [if_pos h1,ht,if_pos (.inl h1)]
 rw [if_neg h1]
 by_cases h2 : portI ps f.f2 < 0
 ·rw [decide_eq_true h2,ht,if_pos (.inr h2)]
 rw [decide_eq_false h2,pj1 (k + 1) (by omega),if_neg (show ¬ (portI ps f.f1 < 0 ∨ portI ps f.f2 < 0) from fun h=>h.elim h1 h2)]
def ordS (ps : List S39) (fs : List S36) (i : Nat) : Int :=
 if flightS ps (zaj fs (i : Int)) = 0 then
  if 0 < i then
   (if (zaj fs (i : Int)).f3 < (zaj fs ((i - 1 : Nat) : Int)).f3 then 8 else if (zaj fs (i : Int)).f3 = (zaj fs ((i - 1 : Nat) : Int)).f3 then (if Op.bytesLess (zaj fs ((i - 1 : Nat) : Int)).f0.toList (zaj fs (i : Int)).f0.toList = true then 0 else 8) else 0)
  else 0
 else flightS ps (zaj fs (i : Int))
theorem rl0 (zs : List S42) (ps : List S39) (fs : List S36) (f : S36) (i : Nat) (hi : i < fs.length) (hl : fs.length < 4611686018427387904) (k : Nat) (hk : 5 ≤ k) :
  zaq.l0 k (i : Int) 0 zs ps fs f.f0 f.f1 f.f2 f.f3 f.f4 f.f5 f.f6.f0 f.f6.f1 f.f6.f2 = some (if needS f = true then
   (if 0 < i then (if f.f3 < (zaj fs ((i - 1 : Nat) : Int)).f3 then 8 else if f.f3 = (zaj fs ((i - 1 : Nat) : Int)).f3 then (if Op.bytesLess (zaj fs ((i - 1 : Nat) : Int)).f0.toList f.f0.toList = true then 0 else 8) else 0) else 0) else 5):=by
 obtain ⟨k,rfl⟩ : ∃ m,k = m + 4:=⟨k - 4,by omega⟩
 unfold needS
 simp only [zaq.l0,s01,s12,s23,rd0,rd1,rd2]
 rw [if_pos (show (0 : Int) < 3 by decide),if_pos (show (0 : Int) ≤ 0 by decide)]
 by_cases a0 : f.f6.f0 < 0
 ·rw [if_pos a0,one_false (.inl a0)];rfl
 rw [if_neg a0]
 by_cases b0 : f.f6.f0 > 8
 ·rw [if_pos b0,one_false (.inr b0)];rfl
 rw [if_neg b0,one_true a0 b0,if_pos (show (1 : Int) < 3 by decide),if_pos (show (0 : Int) ≤ 1 by decide)]
 by_cases a1 : f.f6.f1 < 0
 ·rw [if_pos a1,one_false (.inl a1)];rfl
 rw [if_neg a1]
 by_cases b1 : f.f6.f1 > 8
 ·rw [if_pos b1,one_false (.inr b1)];rfl
 rw [if_neg b1,one_true a1 b1,if_pos (show (2 : Int) < 3 by decide),if_pos (show (0 : Int) ≤ 2 by decide)]
 by_cases a2 : f.f6.f2 < 0
 ·rw [if_pos a2,one_false (.inl a2)];rfl
 rw [if_neg a2]
 by_cases b2 : f.f6.f2 > 8
 ·rw [if_pos b2,one_false (.inr b2)];rfl
 rw [if_neg b2,one_true a2 b2,if_neg (show ¬ (3 : Int) < 3 by decide),if_pos (show (true && (true && true)) = true by rfl)]
 by_cases h0 : 0 < i
 ·rw [if_pos (show (i : Int) > 0 by omega),w1' i (by omega) h0,if_pos (show 0 ≤ ((i - 1 : Nat) : Int) by omega),if_pos (show ((i - 1 : Nat) : Int) < (fs.length : Int) by omega),if_pos h0]
  repeat' split
  all_goals rfl
 ·rw [if_neg (show ¬ (i : Int) > 0 by omega),if_neg h0]
theorem ord_ne {ps : List S39} {fs : List S36} {i : Nat} {e : Int} (h : flightS ps (zaj fs (i : Int)) = e) (he : e ≠ 0) : ordS ps fs i = e:=by
 unfold ordS
 rw [if_neg (by rw [h];exact he),h]
theorem ord_ok {ps : List S39} {fs : List S36} {i : Nat} (h : flightS ps (zaj fs (i : Int)) = 0) : ordS ps fs i =
  (if 0 < i then
   (if (zaj fs (i : Int)).f3 < (zaj fs ((i - 1 : Nat) : Int)).f3 then 8 else if (zaj fs (i : Int)).f3 = (zaj fs ((i - 1 : Nat) : Int)).f3 then (if Op.bytesLess (zaj fs ((i - 1 : Nat) : Int)).f0.toList (zaj fs (i : Int)).f0.toList = true then 0 else 8) else 0)
  else 0):=if_pos h
theorem fl_no {ps : List S39} {f : S36} (h : (codeS f.f0 && nameS f.f5) = false) : flightS ps f = 1:=by unfold flightS;rw [if_neg (by rw [h];simp)]
theorem fl_yes {ps : List S39} {f : S36} (h1 : codeS f.f0 = true) (h2 : nameS f.f5 = true) : flightS ps f =
  if portI ps f.f1 < 0 ∨ portI ps f.f2 < 0 then 6 else
  if f.f1.toList = f.f2.toList then 14 else
  if f.f3 < 2880 ∨ f.f4 > 52593120 ∨ f.f4 ≤ f.f3 ∨ wrap64 (f.f4 - f.f3) > 1440 ∨ needS f = false then 5 else 0:=by unfold flightS;rw [h1,h2];exact if_pos rfl
theorem rflight (zs : List S42) (ps : List S39) (fs : List S36) (i : Nat) (hi : i < fs.length) (k : Nat) (hk : ps.length + 30 ≤ k) (hk2 : k ≤ 4611686018427387904) (hl : fs.length < 4611686018427387904) (hs : (zaj fs (i : Int)).f0.size < k) :
  zaq.f k zs ps fs (i : Int) = some (ordS ps fs i):=by
 obtain ⟨k,rfl⟩ : ∃ m,k = m + 3:=⟨k - 3,by omega⟩
 unfold zaq.f
 rw [if_pos (by omega),if_pos (by omega)]
 have hl0:=rl0 zs ps fs (zaj fs (i : Int)) i hi hl k (by omega)
 have hne:=@ord_ne ps fs i
 have hok:=@ord_ok ps fs i
 have hno:=@fl_no ps (zaj fs (i : Int))
 have hye:=@fl_yes ps (zaj fs (i : Int))
 generalize hf : zaj fs (i : Int) = f at *
 rw [rcode _ (by omega) _ hs,Option.bind_some,rname _ _ (by omega),Option.bind_some]
 have hj : zaq.j0 (k + 3) (i : Int) true zs ps fs f.f0 f.f1 f.f2 f.f3 f.f4 f.f5 f.f6.f0 f.f6.f1 f.f6.f2 = some 1:=by simp only [zaq.j0];rw [if_pos trivial]
 by_cases c1 : codeS f.f0 = true
 case neg =>
  have c1 : codeS f.f0 = false:=by simpa using c1
  rw [c1,if_neg (by simp),hj,hne (hno (by rw [c1];rfl)) (by decide)]
 rw [if_pos c1]
 by_cases c2 : nameS f.f5 = true
 case neg =>
  have c2 : nameS f.f5 = false:=by simpa using c2
  rw [c2,Bool.not_false,hj,hne (hno (by rw [c1,c2];rfl)) (by decide)]
 have hv:=hye c1 c2
 rw [c2,Bool.not_true]
 simp only [zaq.j0]
 rw [if_neg (show ¬ (false = true) by simp),rportI ps _ (k + 2) (by omega) (by omega),Option.bind_some,rportI ps _ (k + 2) (by omega) (by omega),Option.bind_some]
 have ht : zaq.j1 (k + 2) (i : Int) true zs ps fs f.f0 f.f1 f.f2 f.f3 f.f4 f.f5 f.f6.f0 f.f6.f1 f.f6.f2 = some 6:=by simp only [zaq.j1];rw [if_pos trivial]
 by_cases h1 : portI ps f.f1 < 0
 ·rw [if_pos h1,ht,hne (hv.trans (if_pos (.inl h1))) (by decide)]
 rw [if_neg h1]
 by_cases h2 : portI ps f.f2 < 0
 ·rw [decide_eq_true h2,ht,hne (hv.trans (if_pos (.inr h2))) (by decide)]
 replace hv:=hv.trans (if_neg (fun h=>h.elim h1 h2))
 rw [decide_eq_false h2]
 simp only [zaq.j1]
 rw [if_neg (show ¬ (false = true) by simp)]
 by_cases h3 : f.f1.toList = f.f2.toList
 ·rw [if_pos h3,hne (hv.trans (if_pos h3)) (by decide)]
 replace hv:=hv.trans (if_neg h3)
 rw [if_neg h3]
 have h5 : zaq.j2 (k + 1) (i : Int) true zs ps fs f.f0 f.f1 f.f2 f.f3 f.f4 f.f5 f.f6.f0 f.f6.f1 f.f6.f2 = some 5:=by simp only [zaq.j2];rw [if_pos trivial]
 by_cases h6 : f.f3 < 2880
 ·rw [if_pos h6,h5,hne (hv.trans (if_pos (.inl h6))) (by decide)]
 rw [if_neg h6]
 by_cases h7 : f.f4 > 52593120
 ·rw [if_pos h7,h5,hne (hv.trans (if_pos (.inr (.inl h7)))) (by decide)]
 rw [if_neg h7]
 by_cases h8 : f.f4 ≤ f.f3
 ·rw [if_pos h8,h5,hne (hv.trans (if_pos (.inr (.inr (.inl h8))))) (by decide)]
 rw [if_neg h8]
 by_cases h9 : wrap64 (f.f4 - f.f3) > 1440
 ·rw [decide_eq_true h9,h5,hne (hv.trans (if_pos (.inr (.inr (.inr (.inl h9)))))) (by decide)]
 rw [decide_eq_false h9]
 simp only [zaq.j2]
 rw [if_neg (show ¬ (false = true) by simp),hl0]
 by_cases hn : needS f = true
 ·have hne' : ¬ (f.f3 < 2880 ∨ f.f4 > 52593120 ∨ f.f4 ≤ f.f3 ∨ wrap64 (f.f4 - f.f3) > 1440 ∨ needS f = false):=by
   rintro (h|h|h|h|h)
   ·exact h6 h
   ·exact h7 h
   ·exact h8 h
   ·exact h9 h
   ·rw [hn] at h;exact absurd h (by simp)
  rw [if_pos hn,hok (hv.trans (if_neg hne'))]
 ·rw [if_neg hn,hne (hv.trans (if_pos (.inr (.inr (.inr (.inr (by simpa using hn))))))) (by decide)]
def flL (ps : List S39) (fs : List S36) : Nat → Nat → Int
 | 0,_=>0
 | n + 1,i=>if ordS ps fs i = 0 then flL ps fs n (i + 1) else ordS ps fs i
def portV (zs : List S42) (ps : List S39) (i : Nat) : Int :=
 if portS (zbd ps (i : Int)).f0 = true then (if portI ps (zbd ps (i : Int)).f0 < (i : Int) then 7 else if zoneI zs (zbd ps (i : Int)).f1 < 0 then 6 else 0) else 1
def apL (zs : List S42) (ps : List S39) (fs : List S36) : Nat → Nat → Int
 | 0,_=>flL ps fs fs.length 0
 | n + 1,i=>if portV zs ps i = 0 then apL zs ps fs n (i + 1) else portV zs ps i
def zoneV (zs : List S42) (i : Nat) : Int :=
 if zoneS (zbi zs (i : Int)).f0 (zbi zs (i : Int)).f1 (zbi zs (i : Int)).f2 = 0 then (if zoneI zs (zbi zs (i : Int)).f0 < (i : Int) then 7 else 0) else zoneS (zbi zs (i : Int)).f0 (zbi zs (i : Int)).f1 (zbi zs (i : Int)).f2
def zoL (zs : List S42) (ps : List S39) (fs : List S36) : Nat → Nat → Int
 | 0,_=>apL zs ps fs ps.length 0
 | n + 1,i=>if zoneV zs i = 0 then zoL zs ps fs n (i + 1) else zoneV zs i
def validS (zs : List S42) (ps : List S39) (fs : List S36) : Int:=if zs.length > 16 ∨ ps.length > 64 ∨ fs.length > 200 then 10 else zoL zs ps fs zs.length 0
theorem pV2 (zs : List S42) (ps : List S39) (fs : List S36) (hp : ps.length ≤ 64) (hf : fs.length ≤ 200) (n : Nat) : ∀ k i : Nat,n + 100 ≤ k → k ≤ 4611686018427387904 → i + n = fs.length → zan.l2 k fs (fs.length : Int) (i : Int) zs ps fs = some (flL ps fs n i):=by
 induction n with
 | zero =>
  intro k i hk hk2 hi
  obtain ⟨k,rfl⟩ : ∃ m,k = m + 1:=⟨k - 1,by omega⟩
  simp only [zan.l2,flL]
  rw [if_neg (by omega)]
 | succ n ih =>
  intro k i hk hk2 hi
  obtain ⟨k,rfl⟩ : ∃ m,k = m + 1:=⟨k - 1,by omega⟩
  simp only [zan.l2,flL]
  rw [if_pos (by omega),if_pos (by omega),if_pos (by omega),pflight zs ps fs _ k (by omega) (by omega),Option.bind_some,w1 i (by omega),ih k (i + 1) (by omega) (by omega) (by omega)]
  by_cases h : flightS ps (zaj fs (i : Int)) = 0
  ·rw [if_pos h,ord_ok h]
   by_cases h0 : 0 < i
   ·rw [if_pos (show (i : Int) > 0 by omega),w1' i (by omega) h0,if_pos (show 0 ≤ ((i - 1 : Nat) : Int) by omega),if_pos (show ((i - 1 : Nat) : Int) < (fs.length : Int) by omega),if_pos h0]
    unfold timetable_after.f
    generalize zaj fs (i : Int) = f
    generalize zaj fs ((i - 1 : Nat) : Int) = g
    by_cases h1 : f.f3 < g.f3
    ·rw [if_neg (by omega),if_neg (by omega),if_pos h1];rfl
    ·by_cases h2 : f.f3 = g.f3
     ·rw [if_neg (by omega),if_pos h2,if_neg h1,if_pos h2,Option.bind_some]
      cases Op.bytesLess g.f0.toList f.f0.toList <;> rfl
     ·rw [if_pos (by omega),if_neg h1,if_neg h2];rfl
   ·rw [if_neg (by omega),if_neg h0];rfl
  ·rw [if_neg h,ord_ne rfl h,if_neg h]
theorem rV2 (zs : List S42) (ps : List S39) (fs : List S36) (hp : ps.length ≤ 64) (hf : fs.length ≤ 200) (K : Nat) (hs : ∀ f ∈ fs,f.f0.size ≤ K) (n : Nat) : ∀ k i : Nat,n + 100 + K ≤ k → k ≤ 4611686018427387904 → i + n = fs.length → zar.l2 k (i : Int) zs ps fs = some (flL ps fs n i):=by
 induction n with
 | zero =>
  intro k i hk hk2 hi
  obtain ⟨k,rfl⟩ : ∃ m,k = m + 1:=⟨k - 1,by omega⟩
  simp only [zar.l2,flL]
  rw [if_neg (by omega)]
 | succ n ih =>
  intro k i hk hk2 hi
  obtain ⟨k,rfl⟩ : ∃ m,k = m + 1:=⟨k - 1,by omega⟩
  have hsz : (zaj fs (i : Int)).f0.size ≤ K:=by
   refine hs _ ?_
   unfold zaj
   rw [Int.toNat_natCast,List.getD_eq_getElem?_getD,List.getElem?_eq_getElem (by omega)]
   exact List.getElem_mem _
  simp only [zar.l2,flL]
  rw [if_pos (by omega),rflight zs ps fs i (by omega) k (by omega) (by omega) (by omega) (by omega),Option.bind_some,w1 i (by omega),ih k (i + 1) (by omega) (by omega) (by omega)]
  split <;> rfl
theorem pV1 (zs : List S42) (ps : List S39) (fs : List S36) (hz : zs.length ≤ 16) (hp : ps.length ≤ 64) (hf : fs.length ≤ 200) (n : Nat) : ∀ k i : Nat,n + 500 ≤ k → k ≤ 4611686018427387904 → i + n = ps.length → zan.l1 k (ps.length : Int) (i : Int) zs ps fs = some (apL zs ps fs n i):=by
 induction n with
 | zero =>
  intro k i hk hk2 hi
  obtain ⟨k,rfl⟩ : ∃ m,k = m + 1:=⟨k - 1,by omega⟩
  simp only [zan.l1,apL]
  rw [if_neg (by omega)]
  exact pV2 zs ps fs hp hf fs.length k 0 (by omega) (by omega) (by omega)
 | succ n ih =>
  intro k i hk hk2 hi
  obtain ⟨k,rfl⟩ : ∃ m,k = m + 1:=⟨k - 1,by omega⟩
  simp only [zan.l1,apL]
  have hc : timetable_checkAirport.f k zs ps fs (i : Int) = some (portV zs ps i):=by
   unfold timetable_checkAirport.f portV
   rw [if_pos (by omega),if_pos (by omega),pport,Option.bind_some,pportI ps _ k (by omega) (by omega),Option.bind_some,pzoneI zs _ k (by omega) (by omega),Option.bind_some]
   repeat' split
   all_goals rfl
  rw [if_pos (by omega),hc,Option.bind_some,w1 i (by omega),ih k (i + 1) (by omega) (by omega) (by omega)]
  split <;> rfl
theorem rV1 (zs : List S42) (ps : List S39) (fs : List S36) (hz : zs.length ≤ 16) (hp : ps.length ≤ 64) (hf : fs.length ≤ 200) (K : Nat) (hs : ∀ f ∈ fs,f.f0.size ≤ K) (n : Nat) : ∀ k i : Nat,n + 500 + K ≤ k → k ≤ 4611686018427387904 → i + n = ps.length → zar.l1 k (i : Int) zs ps fs = some (apL zs ps fs n i):=by
 induction n with
 | zero =>
  intro k i hk hk2 hi
  obtain ⟨k,rfl⟩ : ∃ m,k = m + 1:=⟨k - 1,by omega⟩
  simp only [zar.l1,apL]
  rw [if_neg (by omega)]
  exact rV2 zs ps fs hp hf K hs fs.length k 0 (by omega) (by omega) (by omega)
 | succ n ih =>
  intro k i hk hk2 hi
  obtain ⟨k,rfl⟩ : ∃ m,k = m + 1:=⟨k - 1,by omega⟩
  have ht:=port_take ps (zbd ps (i : Int)).f0 i (by omega) (by simp [aq])
  simp only [zar.l1,apL]
  rw [if_pos (by omega),if_pos (by omega),rport,Option.bind_some,if_pos (show (i : Int) ≤ (ps.length : Int) by omega),Int.toNat_natCast,rportI (ps.take i) _ k (by rw [List.length_take];omega) (by omega),Option.bind_some,rzoneI zs _ k (by omega) (by omega),Option.bind_some,w1 i (by omega),ih k (i + 1) (by omega) (by omega) (by omega)]
  by_cases hS : portS (zbd ps (i : Int)).f0 = true
  ·rw [if_pos hS]
   by_cases h1 : portI ps (zbd ps (i : Int)).f0 < (i : Int)
   ·have hv : portV zs ps i = 7:=by unfold portV;rw [if_pos hS,if_pos h1]
    rw [if_pos (ht.2 h1),hv];rfl
   ·rw [if_neg (fun h=>h1 (ht.1 h))]
    by_cases h2 : zoneI zs (zbd ps (i : Int)).f1 < 0
    ·have hv : portV zs ps i = 6:=by unfold portV;rw [if_pos hS,if_neg h1,if_pos h2]
     rw [if_pos h2,hv];rfl
    ·have hv : portV zs ps i = 0:=by unfold portV;rw [if_pos hS,if_neg h1,if_neg h2]
     rw [if_neg h2,hv];rfl
  ·have hv : portV zs ps i = 1:=by unfold portV;rw [if_neg hS]
   rw [if_neg hS,hv];rfl
theorem pV0 (zs : List S42) (ps : List S39) (fs : List S36) (hz : zs.length ≤ 16) (hp : ps.length ≤ 64) (hf : fs.length ≤ 200) (n : Nat) : ∀ k i : Nat,n + 1000 ≤ k → k ≤ 4611686018427387904 → i + n = zs.length → zan.l0 k zs (zs.length : Int) (i : Int) zs ps fs = some (zoL zs ps fs n i):=by
 induction n with
 | zero =>
  intro k i hk hk2 hi
  obtain ⟨k,rfl⟩ : ∃ m,k = m + 1:=⟨k - 1,by omega⟩
  simp only [zan.l0,zoL]
  rw [if_neg (by omega)]
  exact pV1 zs ps fs hz hp hf ps.length k 0 (by omega) (by omega) (by omega)
 | succ n ih =>
  intro k i hk hk2 hi
  obtain ⟨k,rfl⟩ : ∃ m,k = m + 1:=⟨k - 1,by omega⟩
  simp only [zan.l0,zoL]
  rw [if_pos (by omega),if_pos (by omega),if_pos (by omega),pzone _ _ _ k (by omega),Option.bind_some,pzoneI zs _ k (by omega) (by omega),Option.bind_some,w1 i (by omega),ih k (i + 1) (by omega) (by omega) (by omega)]
  by_cases h : zoneS (zbi zs (i : Int)).f0 (zbi zs (i : Int)).f1 (zbi zs (i : Int)).f2 = 0
  ·rw [if_pos h]
   by_cases h1 : zoneI zs (zbi zs (i : Int)).f0 < (i : Int)
   ·have hv : zoneV zs i = 7:=by unfold zoneV;rw [if_pos h,if_pos h1]
    rw [if_pos h1,hv];rfl
   ·have hv : zoneV zs i = 0:=by unfold zoneV;rw [if_pos h,if_neg h1]
    rw [if_neg h1,hv];rfl
  ·have hv : zoneV zs i = zoneS (zbi zs (i : Int)).f0 (zbi zs (i : Int)).f1 (zbi zs (i : Int)).f2:=by unfold zoneV;rw [if_neg h]
   rw [if_neg h,if_neg (by rw [hv];exact h),hv]
theorem rV0 (zs : List S42) (ps : List S39) (fs : List S36) (hz : zs.length ≤ 16) (hp : ps.length ≤ 64) (hf : fs.length ≤ 200) (K : Nat) (hs : ∀ f ∈ fs,f.f0.size ≤ K) (n : Nat) : ∀ k i : Nat,n + 1000 + K ≤ k → k ≤ 4611686018427387904 → i + n = zs.length → zar.l0 k (i : Int) zs ps fs = some (zoL zs ps fs n i):=by
 induction n with
 | zero =>
  intro k i hk hk2 hi
  obtain ⟨k,rfl⟩ : ∃ m,k = m + 1:=⟨k - 1,by omega⟩
  simp only [zar.l0,zoL]
  rw [if_neg (by omega)]
  exact rV1 zs ps fs hz hp hf K hs ps.length k 0 (by omega) (by omega) (by omega)
 | succ n ih =>
  intro k i hk hk2 hi
  obtain ⟨k,rfl⟩ : ∃ m,k = m + 1:=⟨k - 1,by omega⟩
  have ht:=zone_take zs (zbi zs (i : Int)).f0 i (by omega) (by simp [zq])
  simp only [zar.l0,zoL]
  rw [if_pos (by omega),if_pos (by omega),rzone _ _ _ k (by omega),Option.bind_some,if_pos (show (i : Int) ≤ (zs.length : Int) by omega),Int.toNat_natCast,rzoneI (zs.take i) _ k (by rw [List.length_take];omega) (by omega),Option.bind_some,w1 i (by omega),ih k (i + 1) (by omega) (by omega) (by omega)]
  by_cases h : zoneS (zbi zs (i : Int)).f0 (zbi zs (i : Int)).f1 (zbi zs (i : Int)).f2 = 0
  ·rw [if_pos h]
   by_cases h1 : zoneI zs (zbi zs (i : Int)).f0 < (i : Int)
   ·have hv : zoneV zs i = 7:=by unfold zoneV;rw [if_pos h,if_pos h1]
    rw [if_pos (ht.2 h1),hv];rfl
   ·have hv : zoneV zs i = 0:=by unfold zoneV;rw [if_pos h,if_neg h1]
    rw [if_neg (fun h=>h1 (ht.1 h)),hv];rfl
  ·have hv : zoneV zs i = zoneS (zbi zs (i : Int)).f0 (zbi zs (i : Int)).f1 (zbi zs (i : Int)).f2:=by unfold zoneV;rw [if_neg h]
   rw [if_neg h,if_neg (by rw [hv];exact h),hv]
theorem pvalid (zs : List S42) (ps : List S39) (fs : List S36) (k : Nat) (hk : 1100 ≤ k) (hk2 : k ≤ 4611686018427387904) : zan.f k zs ps fs = some (validS zs ps fs):=by
 obtain ⟨k,rfl⟩ : ∃ m,k = m + 1:=⟨k - 1,by omega⟩
 have ht : zan.j0 (k + 1) true zs ps fs = some 10:=by simp only [zan.j0];rw [if_pos trivial]
 unfold zan.f validS
 by_cases h1 : (zs.length : Int) > 16
 ·rw [if_pos h1,ht,if_pos (.inl (by omega))]
 rw [if_neg h1]
 by_cases h2 : (ps.length : Int) > 64
 ·rw [if_pos h2,ht,if_pos (.inr (.inl (by omega)))]
 rw [if_neg h2]
 by_cases h3 : (fs.length : Int) > 200
 ·rw [decide_eq_true h3,ht,if_pos (.inr (.inr (by omega)))]
 rw [decide_eq_false h3,if_neg (by omega)]
 simp only [zan.j0]
 rw [if_neg (show ¬ (false = true) by simp)]
 exact pV0 zs ps fs (by omega) (by omega) (by omega) zs.length k 0 (by omega) (by omega) (by omega)
theorem rvalid (zs : List S42) (ps : List S39) (fs : List S36) (K : Nat) (hs : ∀ f ∈ fs,f.f0.size ≤ K) (k : Nat) (hk : 1100 + K ≤ k) (hk2 : k ≤ 4611686018427387904) : zar.f k zs ps fs = some (validS zs ps fs):=by
 obtain ⟨k,rfl⟩ : ∃ m,k = m + 1:=⟨k - 1,by omega⟩
 have ht : zar.j0 (k + 1) true zs ps fs = some 10:=by simp only [zar.j0];rw [if_pos trivial]
 unfold zar.f validS
 by_cases h1 : (zs.length : Int) > 16
 ·rw [if_pos h1,ht,if_pos (.inl (by omega))]
 rw [if_neg h1]
 by_cases h2 : (ps.length : Int) > 64
 ·rw [if_pos h2,ht,if_pos (.inr (.inl (by omega)))]
 rw [if_neg h2]
 by_cases h3 : (fs.length : Int) > 200
 ·rw [decide_eq_true h3,ht,if_pos (.inr (.inr (by omega)))]
 rw [decide_eq_false h3,if_neg (by omega)]
 simp only [zar.j0]
 rw [if_neg (show ¬ (false = true) by simp)]
 exact rV0 zs ps fs (by omega) (by omega) (by omega) K hs zs.length k 0 (by omega) (by omega) (by omega)
end Go.Proofs.Ytepnddmalheoiaa.TtC
namespace Go.Proofs.Ytepnddmalheoiaa.Q
open Go.Proofs.Ytepnddmalheoiaa.H
open Go.RowKit Go.Proofs.YtepnddmalheoiaaW.PrintWords Go.Proofs.YtepnddmalheoiaaW.PrintLast Go.Proofs.YtepnddmalheoiaaW.PrintMore
attribute [local go_sem] str_leq str_geq str_gtr max2_int min2_int max_two min_two max_three min_three max_four min_four   -- for this text's walks alone
def pairingbase_At.f (l0 : List Int) (a1 : Int) : Option (Int):=if (l0.length : Int) = 0 then (some (Go.bits .and .i64 a1 65535)) else (if 0 ≤ (Int.tmod a1 (l0.length : Int)) then (if (Int.tmod a1 (l0.length : Int)) < (l0.length : Int) then (some (wrap64 ((Go.bits .and .i64 (rd l0 (Int.tmod a1 (l0.length : Int))) 65535) + (wrap64 (Int.tdiv a1 (l0.length : Int)))))) else (none)) else (none))
set_option maxHeartbeats 8000000 in
set_option maxRecDepth 100000 in
theorem pairingbase_At.calls (A0 : Option Addr) (c0 : Nat) (l0 : List Int) (a1 : Int) (r : Int) (w : World) (hr0 : Kd.C (Kd.int .i64) w A0 l0.length l0) (hc0 : l0.length ≤ c0) (h : pairingbase_At.f l0 a1 = some r) :
  Calls Try.prog 38 #[.slice A0 l0.length c0,.int .i64 a1] w fun e w'=>e = .returned (.int .i64 r) ∧ zay w w':=by
 have HR0:=zac.mk hr0
 have HC0:=zac.mk hc0
 clear hr0 hc0
 have H : (if (l0.length : Int) = 0 then (some (Go.bits .and .i64 a1 65535)) else (if 0 ≤ (Int.tmod a1 (l0.length : Int)) then (if (Int.tmod a1 (l0.length : Int)) < (l0.length : Int) then (some (wrap64 ((Go.bits .and .i64 (rd l0 (Int.tmod a1 (l0.length : Int))) 65535) + (wrap64 (Int.tdiv a1 (l0.length : Int)))))) else (none)) else (none))) = some r:=h
 clear h
 by_cases c3 : (l0.length : Int) = 0
 ·rw [if_pos c3] at H
  have c3b0 : ((l0.length : Int) == 0) = true:=beq_iff_eq.mpr c3
  have c3b1 : ((l0.length : Int) != 0) = false:=bne_eq_false_iff_eq.mpr c3
  clear c3
  obtain rfl:=Option.some.inj H
  go_enter Try.func38,Try.ntmps38
  go_wp2
  repeat (go_quiet (fail);try go_wp2)
  go_ret
  exact ⟨by first|rfl|(simp;done)|(simp [*];done),by repeat (first|exact zay.refl _|apply zay.step)⟩
 ·rw [if_neg c3] at H
  have c3b0 : ((l0.length : Int) == 0) = false:=beq_eq_false_iff_ne.mpr c3
  have c3b1 : ((l0.length : Int) != 0) = true:=bne_iff_ne.mpr c3
  have c3b2 : ¬ (l0 = []):=fun h_=>c3 (by rw [h_];rfl)
  obtain ⟨ji4,hji4⟩ : ∃ j_ : Int,(Int.tmod a1 (l0.length : Int)) = j_:=⟨_,rfl⟩
  replace H : (if 0 ≤ (ji4) then (if (ji4) < (l0.length : Int) then (some (wrap64 ((Go.bits .and .i64 (rd l0 (ji4)) 65535) + (wrap64 (Int.tdiv a1 (l0.length : Int)))))) else (none)) else (none)) = some r:=by first|(rw [hji4] at H;exact H)|(simp only [hji4] at H ⊢;exact H)
  by_cases c5 : 0 ≤ (ji4)
  ·rw [if_pos c5] at H
   have c5b0 : decide (0 ≤ (ji4)) = true:=decide_eq_true c5
   clear c5
   by_cases c6 : (ji4) < (l0.length : Int)
   ·rw [if_pos c6] at H
    have c6b0 : decide ((ji4) < (l0.length : Int)) = true:=decide_eq_true c6
    clear c6
    obtain rfl:=Option.some.inj H
    have p101 : 0 ≤ ((ji4) : Int):=of_decide_eq_true (by first|(with_reducible assumption)|assumption)
    have q101 : (ji4) < (l0.length : Int):=of_decide_eq_true (by first|(with_reducible assumption)|assumption)
    obtain ⟨ad101,e101,hx101_0⟩:=Kd.at_int HR0.out (ji4) p101 q101
    cases e101
    replace p101:=eq_true p101
    replace q101:=eq_true q101
    go_enter Try.func38,Try.ntmps38
    go_wp2
    repeat (go_quiet (fail);try go_wp2)
    go_ret
    exact ⟨by first|rfl|(simp;done)|(simp only [← hji4] <;> (first|rfl|simp))|(simp [*];done),by repeat (first|exact zay.refl _|apply zay.step)⟩
   ·rw [if_neg c6] at H
    exact absurd H (by simp)
  ·rw [if_neg c5] at H
   exact absurd H (by simp)
end Go.Proofs.Ytepnddmalheoiaa.Q
namespace Go.Proofs.Ytepnddmalheoiaa.Q
open Go.Proofs.Ytepnddmalheoiaa.H
open Go.RowKit Go.Proofs.YtepnddmalheoiaaW.PrintWords Go.Proofs.YtepnddmalheoiaaW.PrintLast Go.Proofs.YtepnddmalheoiaaW.PrintMore
def oS1 : Obj:=.cells #[.int .i64 1441500,.int .i64 120,.int .i64 1444000,.int .i64 60] 44 (0,0)
def oS2 : Obj:=.cells #[.int .i64 1442900,.int .i64 (-240)] 44 (0,0)
def oZ (n : Nat) : Obj:=.cells #[.string ⟨#[117,116,99]⟩,.int .i64 0,.slice none 0 0,.string ⟨#[111,115,108,111]⟩,.int .i64 60,.slice (some ⟨n,0,none⟩) 2 2,.string ⟨#[121,111,114,107]⟩,.int .i64 (-300),.slice (some ⟨n + 1,0,none⟩) 1 1] 42 (0,0)
def oA : Obj:=.cells #[.string ⟨#[65,65,65]⟩,.string ⟨#[117,116,99]⟩,.string ⟨#[66,66,66]⟩,.string ⟨#[111,115,108,111]⟩,.string ⟨#[67,67,67]⟩,.string ⟨#[121,111,114,107]⟩] 39 (0,0)
def oC : Obj:=.cells #[.string ⟨#[65,65,65]⟩,.string ⟨#[66,66,66]⟩,.string ⟨#[67,67,67]⟩] 9 (0,0)
set_option maxHeartbeats 8000000 in
set_option maxRecDepth 100000 in
theorem zones_calls (w : World) : Calls Try.prog 36 #[] w fun e w'=>e = .returned (.slice (some ⟨w.heap.size + 2,0,none⟩) 3 3) ∧ w' = ((w.alloc oS1).alloc oS2).alloc (oZ w.heap.size):=by
 go_enter Try.func36,Try.ntmps36
 go_wp2
 go_ret
 exact ⟨rfl,rfl⟩
set_option maxHeartbeats 8000000 in
set_option maxRecDepth 100000 in
theorem airports_calls (w : World) : Calls Try.prog 37 #[] w fun e w'=>e = .returned (.slice (some ⟨w.heap.size,0,none⟩) 3 3) ∧ w' = w.alloc oA:=by
 go_enter Try.func37,Try.ntmps37
 go_wp2
 go_ret
 exact ⟨rfl,rfl⟩
set_option maxHeartbeats 8000000 in
set_option maxRecDepth 100000 in
theorem codes_calls (w : World) : Calls Try.prog 39 #[] w fun e w'=>e = .returned (.slice (some ⟨w.heap.size,0,none⟩) 3 3) ∧ w' = w.alloc oC:=by
 go_enter Try.func39,Try.ntmps39
 go_wp2
 go_ret
 exact ⟨rfl,rfl⟩
def atN (l : List Int) (i : Int) : Int:=(pairingbase_At.f l i).getD 0
def AtOk (l : List Int) : Prop:=∀ i : Int,0 ≤ i → i ≤ 8 → pairingbase_At.f l i = some (atN l i) ∧ 0 ≤ atN l i ∧ atN l i ≤ 70000
def bAt (n a : Int) : Int:=if n % 7 = 6 then 0 else a
def bTo (n a : Int) : Int:=if a = 0 then 1 + n / 8 % 2 else if n % 11 = 10 then 3 - a else 0
def gapL : List Int:=[30,45,45,60,90,150,600,780]
def codeL : List ByteArray:=[⟨#[65,65,65]⟩,⟨#[66,66,66]⟩,⟨#[67,67,67]⟩]
def typeL : List ByteArray:=[⟨#[97,51,50,48]⟩,⟨#[98,55,51,55]⟩,⟨#[101,49,57,48]⟩]
def codeF (j : Int) : ByteArray:=codeL.getD j.toNat ⟨#[]⟩
def typeF (j : Int) : ByteArray:=typeL.getD j.toNat ⟨#[]⟩
def numF (i : Int) : ByteArray:=(⟨#[70]⟩ : ByteArray) ++ strOfNums [48 + i]
def bDep (n clock : Int) : Int:=clock + rd gapL (n / 16 % 8)
def bArr (n dep : Int) : Int:=dep + 60 + 15 * (n / 128 % 6)
def bFlight (i n a dep : Int) : S36:=⟨numF i,codeF a,codeF (bTo n a),dep,bArr n dep,typeF (n / 1024 % 3),⟨1,1,2⟩⟩
def bClock (n dep : Int) : Int:=if n % 5 = 4 then dep + 20 else bArr n dep
def bFs (l : List Int) : Nat → Int → Int → Int → List S36
 | 0,_,_,_=>[]
 | g + 1,i,a,clock=>bFlight i (atN l (2 + i)) (bAt (atN l (2 + i)) a) (bDep (atN l (2 + i)) clock) :: bFs l g (i + 1) (bTo (atN l (2 + i)) (bAt (atN l (2 + i)) a)) (bClock (atN l (2 + i)) (bDep (atN l (2 + i)) clock))
def bM (l : List Int) : Int:=2 + atN l 1 % 6
def bAll (l : List Int) : List S36:=bFs l (bM l).toNat 0 0 (1440000 + 15 * (atN l 0 % 96))
def oG : Obj:=.cells #[.int .i64 30,.int .i64 45,.int .i64 45,.int .i64 60,.int .i64 90,.int .i64 150,.int .i64 600,.int .i64 780] 3 (0,0)
def oY : Obj:=.cells #[.string ⟨#[97,51,50,48]⟩,.string ⟨#[98,55,51,55]⟩,.string ⟨#[101,49,57,48]⟩] 9 (0,0)
def oT (n : Nat) (v : Value) : Obj:=.cells #[.slice (some ⟨n + 3,0,none⟩) 3 3,.slice (some ⟨n + 4,0,none⟩) 3 3,v] 26 (0,0)
def oR : Obj:=.cells #[.slice none 0 0,.slice none 0 0,.slice none 0 0] 26 (0,0)
structure BOut (w W : World) (v : Value) (fs : List S36) : Prop where
 be : Below w.heap.size w W
 s1 : W.heap[w.heap.size + 1]? = some oS1
 s2 : W.heap[w.heap.size + 2]? = some oS2
 z : W.heap[w.heap.size + 3]? = some (oZ (w.heap.size + 1))
 a : W.heap[w.heap.size + 4]? = some oA
 f : Kd.R k36 36 W w.heap.size (fun k=>w.heap.size + 8 ≤ k) v fs
structure BPt (w W : World) (v : Value) (fs : List S36) : Prop extends BOut w W v fs where
 b0 : W.heap[w.heap.size]? = some oR
 t : W.heap[w.heap.size + 5]? = some (oT w.heap.size v)
 g : W.heap[w.heap.size + 6]? = some oG
 y : W.heap[w.heap.size + 7]? = some oY
theorem BOut.below {w W W1 : World} {v : Value} {fs : List S36} (h : BOut w W v fs) (hb : Below W.heap.size W W1) : BOut w W1 v fs :=
 ⟨zao h.be hb,zat h.s1 hb,zat h.s2 hb,zat h.z hb,zat h.a hb,Kd.R_below h.f hb⟩
theorem BOut.far {w W : World} {v : Value} {fs : List S36} (h : BOut w W v fs) (j : Nat) (u : Value) : BOut w (W.setCell ⟨w.heap.size,j,none⟩ u) v fs :=
 ⟨zai h.be (Nat.le_refl _),zaz h.s1 (by show _ ≠ w.heap.size;omega) _,zaz h.s2 (by show _ ≠ w.heap.size;omega) _,zaz h.z (by show _ ≠ w.heap.size;omega) _,zaz h.a (by show _ ≠ w.heap.size;omega) _,Kd.R_far (p:=⟨w.heap.size,j,none⟩) h.f (fun k hk=>by show k ≠ w.heap.size;omega) _⟩
theorem BPt.below {w W W1 : World} {v : Value} {fs : List S36} (h : BPt w W v fs) (hb : Below W.heap.size W W1) : BPt w W1 v fs :=
 ⟨h.toBOut.below hb,zat h.b0 hb,zat h.t hb,zat h.g hb,zat h.y hb⟩
theorem BPt.drawn {w W : World} {v : Value} {fs : List S36} (h : BPt w W v fs) (n : Nat) : BPt w (W.drewN n) v fs:=h.below (zab (Below.refl _ _) n)
theorem gap_range (j : Int) (h0 : 0 ≤ j) (h1 : j < 8) : 0 ≤ rd gapL j ∧ rd gapL j ≤ 780:=by
 obtain rfl|rfl|rfl|rfl|rfl|rfl|rfl|rfl : j = 0 ∨ j = 1 ∨ j = 2 ∨ j = 3 ∨ j = 4 ∨ j = 5 ∨ j = 6 ∨ j = 7:=by omega
 all_goals decide
theorem str_one (x : Int) : (strOfNums [x]).size = 1:=rfl
theorem string_of_blk {W : World} {g : Nat} {x : Int} (h : W.heap[g]? = some (.cells #[.int .u8 x] 5 (0,0))) : (convert 46 9 (.slice (some ⟨g,0,none⟩) 1 1)).run Try.prog W = .ok (.string (strOfNums [x])) W:=by
 have hC : Kd.C (Kd.int .u8) W (some ⟨g,0,none⟩) 1 [x]:=by
  refine ⟨rfl,by decide,fun _=>⟨_,rfl,fun j p hj=>?_⟩⟩
  have hj0 : j = 0:=by
   have:=(List.getElem?_eq_some_iff.1 hj).1
   simpa using this
  subst hj0
  obtain rfl : x = p:=by simpa using hj
  refine ⟨[.int .u8 x],rfl,rfl,fun i u hu=>?_⟩
  have hi : i = 0:=by
   have:=(List.getElem?_eq_some_iff.1 hu).1
   simpa using this
  subst hi
  have hs : (Kd.int .u8).sz = 1:=rfl
  rw [hs,add_plain]
  exact (zad h (0 * 1 + 0)).trans hu
 exact Kd.C_string Try.underlying46 Try.underlying5 Try.underlying9 hC
theorem code_cell {W : World} {g : Nat} (h : W.heap[g]? = some oC) (j : Int) (h0 : 0 ≤ j) (h1 : j < 3) : W.cell? ⟨g,j.toNat,none⟩ = some (.string (codeF j)):=by
 obtain rfl|rfl|rfl : j = 0 ∨ j = 1 ∨ j = 2:=by omega
 all_goals exact (zad h _).trans rfl
theorem type_cell {W : World} {g : Nat} (h : W.heap[g]? = some oY) (j : Int) (h0 : 0 ≤ j) (h1 : j < 3) : W.cell? ⟨g,j.toNat,none⟩ = some (.string (typeF j)):=by
 obtain rfl|rfl|rfl : j = 0 ∨ j = 1 ∨ j = 2:=by omega
 all_goals exact (zad h _).trans rfl
theorem below_set9 {w W : World} {g : Nat} {v0 v1 v2 v3 v4 v5 v6 v7 v8 : Value} (h : Below w.heap.size w W) (hg : w.heap.size ≤ g) :
  Below w.heap.size w (((((((((W.setCell ⟨g,0,none⟩ v0).setCell ⟨g,1,none⟩ v1).setCell ⟨g,2,none⟩ v2).setCell ⟨g,3,none⟩ v3).setCell ⟨g,4,none⟩ v4).setCell ⟨g,5,none⟩ v5).setCell ⟨g,6,none⟩ v6).setCell ⟨g,7,none⟩ v7).setCell ⟨g,8,none⟩ v8) :=
 zai (zai (zai (zai (zai (zai (zai (zai (zai h hg) hg) hg) hg) hg) hg) hg) hg) hg
theorem blk_put9 {W : World} {g : Nat} {u0 u1 u2 u3 u4 u5 u6 u7 u8 v0 v1 v2 v3 v4 v5 v6 v7 v8 : Value} {t : TypeId} (h : W.heap[g]? = some (.cells #[u0,u1,u2,u3,u4,u5,u6,u7,u8] t (0,0))) :
  (((((((((W.setCell ⟨g,0,none⟩ v0).setCell ⟨g,1,none⟩ v1).setCell ⟨g,2,none⟩ v2).setCell ⟨g,3,none⟩ v3).setCell ⟨g,4,none⟩ v4).setCell ⟨g,5,none⟩ v5).setCell ⟨g,6,none⟩ v6).setCell ⟨g,7,none⟩ v7).setCell ⟨g,8,none⟩ v8).heap[g]? = some (.cells #[v0,v1,v2,v3,v4,v5,v6,v7,v8] t (0,0)):=by
 refine zaw (cs:=#[v0,v1,v2,v3,v4,v5,v6,v7,u8]) ?_ 8 _ rfl
 refine zaw (cs:=#[v0,v1,v2,v3,v4,v5,v6,u7,u8]) ?_ 7 _ rfl
 refine zaw (cs:=#[v0,v1,v2,v3,v4,v5,u6,u7,u8]) ?_ 6 _ rfl
 refine zaw (cs:=#[v0,v1,v2,v3,v4,u5,u6,u7,u8]) ?_ 5 _ rfl
 refine zaw (cs:=#[v0,v1,v2,v3,u4,u5,u6,u7,u8]) ?_ 4 _ rfl
 refine zaw (cs:=#[v0,v1,v2,u3,u4,u5,u6,u7,u8]) ?_ 3 _ rfl
 refine zaw (cs:=#[v0,v1,u2,u3,u4,u5,u6,u7,u8]) ?_ 2 _ rfl
 refine zaw (cs:=#[v0,u1,u2,u3,u4,u5,u6,u7,u8]) ?_ 1 _ rfl
 refine zaw (cs:=#[u0,u1,u2,u3,u4,u5,u6,u7,u8]) ?_ 0 _ rfl
 exact h
theorem BPt.app {w W W1 : World} {v v1 : Value} {fs fs1 : List S36} {g : Nat} {c0 c1 c2 c3 c5 c6 c7 c8 : Value} {x : Int} (h : BPt w W v fs) (hG : w.heap.size + 8 ≤ g ∧ ∀ k,v.ownBlock = some k → k ≠ g) (hb : Below w.heap.size W W1) (hg : W.grownBy W1 v.ownBlock) (ho : Kd.R k36 36 W1 w.heap.size (fun k=>w.heap.size + 8 ≤ k) v1 fs1)
  (h12 : W.heap[g]? = some (.cells #[c0,c1,c2,c3,.int .i64 x,c5,c6,c7,c8] 36 (0,0))) :
  BPt w (W1.setCell ⟨w.heap.size + 5,2,none⟩ v1) v1 fs1 ∧ W1.cell? ⟨w.heap.size + 5,2,none⟩ = some v ∧ W1.frozen? ⟨w.heap.size + 5,2,none⟩ = false ∧ W1.cell? ⟨g,4,none⟩ = some (.int .i64 x) ∧ (W1.setCell ⟨w.heap.size + 5,2,none⟩ v1).cell? ⟨g,4,none⟩ = some (.int .i64 x):=by
 have ne : ∀ j,j < w.heap.size + 8 → some j ≠ v.ownBlock:=fun j hj he=>by have:=h.f.1 j he.symm;omega
 have t1:=zcj h.t hg (ne _ (by omega))
 refine ⟨⟨⟨zai (h.be.trans hb) (by show w.heap.size ≤ w.heap.size + 5;omega),zaz (zcj h.s1 hg (ne _ (by omega))) (by show _ ≠ w.heap.size + 5;omega) _,zaz (zcj h.s2 hg (ne _ (by omega))) (by show _ ≠ w.heap.size + 5;omega) _,zaz (zcj h.z hg (ne _ (by omega))) (by show _ ≠ w.heap.size + 5;omega) _,zaz (zcj h.a hg (ne _ (by omega))) (by show _ ≠ w.heap.size + 5;omega) _,Kd.R_far (p:=⟨w.heap.size + 5,2,none⟩) ho (fun k hk=>by show k ≠ w.heap.size + 5;omega) _⟩,zaz (zcj h.b0 hg (ne _ (by omega))) (by show _ ≠ w.heap.size + 5;omega) _,?_,zaz (zcj h.g hg (ne _ (by omega))) (by show _ ≠ w.heap.size + 5;omega) _,zaz (zcj h.y hg (ne _ (by omega))) (by show _ ≠ w.heap.size + 5;omega) _⟩,(zad t1 2).trans rfl,zaa t1 2,?_,?_⟩
 ·exact zaw (cs:=#[.slice (some ⟨w.heap.size + 3,0,none⟩) 3 3,.slice (some ⟨w.heap.size + 4,0,none⟩) 3 3,v]) t1 2 _ rfl
 ·exact (zad (zcj h12 hg (fun he=>hG.2 g he.symm rfl)) 4).trans rfl
 ·exact (zad (zaz (p:=⟨w.heap.size + 5,2,none⟩) (zcj h12 hg (fun he=>hG.2 g he.symm rfl)) (by show g ≠ w.heap.size + 5;omega) _) 4).trans rfl
def base.T17 : Bool × List (List Nat × List Nat):=(true,[([],[]),([0],[0]),([1],[1]),([2],[2]),([3],[3]),([4],[4]),([],[]),([],[]),([6,7],[6,7]),([8],[8]),([6],[]),([],[]),([10,11],[10,11]),([12],[12]),([],[]),([],[]),([15],[15]),([],[]),([17],[17]),([18],[18]),([19],[19]),([16,20],[16,20]),([],[]),([],[]),([23],[23]),([24],[24]),([22,25],[22,25]),([26],[26]),([],[]),([5,9,13,14,21,27,28],[5,9,13,14,21,27,28]),([],[]),([30,29,10,0,1,2,3,4,5,6,7,8,9,10,11,12,13,14,15,16,17,18,19,20,21,22,23,24,25,26,27,28,29,30],[29,30])])
def base.B17 : List Nat:=[0,1,3,7,15,31,0,0,192,448,64,0,3136,7232,0,0,32768,0,131072,393216,917504,2064384,0,0,8388608,25165824,62914560,130023424,0,536870911,0,2147483647]
theorem base.tab17 : rtab .any (opsOf Try.f13 17) = base.T17:=by kernel_rfl
theorem base.bits17 : waitsOk base.T17.2 base.B17 = true:=by kernel_rfl
set_option maxHeartbeats 8000000 in
set_option maxRecDepth 100000 in
theorem base_calls (A0 : Option Addr) (c0 : Nat) (l : List Int) (w : World) (hr0 : Kd.C (Kd.int .i64) w A0 l.length l) (hc0 : l.length ≤ c0) (hat : AtOk l) :
  Calls Try.prog 13 #[.slice A0 l.length c0] w fun e w'=>∃ v : Value,e = .returned (.agg #[.slice (some ⟨w.heap.size + 3,0,none⟩) 3 3,.slice (some ⟨w.heap.size + 4,0,none⟩) 3 3,v]) ∧ BOut w w' v (bAll l):=by
 have hu26:=Try.underlying26
 have HR:=zac.mk hr0
 have HC:=zac.mk hc0
 have HAt:=zac.mk hat
 clear hr0 hc0 hat
 go_enter Try.func13,Try.ntmps13
 go_wp2_with fail
 refine (zones_calls _).mono ?_
 rintro e_ w1 ⟨he,hw1⟩
 obtain rfl : e_ = .returned (.slice (some ⟨w.heap.size + 3,0,none⟩) 3 3):=by rw [he];simp
 have hP1 : Below w.heap.size w w1 ∧ w1.heap.size = w.heap.size + 4 ∧ w1.heap[w.heap.size]? = some oR ∧ w1.heap[w.heap.size + 1]? = some oS1 ∧ w1.heap[w.heap.size + 2]? = some oS2 ∧ w1.heap[w.heap.size + 3]? = some (oZ (w.heap.size + 1)):=by
  have hw1 : w1 = (((w.alloc oR).alloc oS1).alloc oS2).alloc (oZ (w.alloc oR).heap.size):=hw1
  have e0:=zag (zag (zag (heap_alloc_new w oR) oS1) oS2) (oZ (w.alloc oR).heap.size)
  have e1:=zag (zag (heap_alloc_new (w.alloc oR) oS1) oS2) (oZ (w.alloc oR).heap.size)
  have e2:=zag (heap_alloc_new ((w.alloc oR).alloc oS1) oS2) (oZ (w.alloc oR).heap.size)
  have e3:=heap_alloc_new (((w.alloc oR).alloc oS1).alloc oS2) (oZ (w.alloc oR).heap.size)
  simp only [World.size_alloc] at e0 e1 e2 e3
  rw [World.size_alloc] at hw1
  rw [hw1]
  exact ⟨zae (zae (zae (zae (Below.refl _ _) _) _) _) _,by simp only [World.size_alloc],e0,e1,e2,e3⟩
 have HP1:=zac.mk hP1
 clear he hw1 hP1
 go_wp2_with fail
 refine (airports_calls _).mono ?_
 rintro e_ w2 ⟨he,hw2⟩
 obtain rfl : e_ = .returned (.slice (some ⟨w.heap.size + 4,0,none⟩) 3 3):=by rw [he,HP1.out.2.1]
 have hP2 : Below w.heap.size w w2 ∧ w2.heap.size = w.heap.size + 5 ∧ w2.heap[w.heap.size]? = some oR ∧ w2.heap[w.heap.size + 1]? = some oS1 ∧ w2.heap[w.heap.size + 2]? = some oS2 ∧ w2.heap[w.heap.size + 3]? = some (oZ (w.heap.size + 1)) ∧ w2.heap[w.heap.size + 4]? = some oA:=by
  obtain ⟨h1,h2,h3,h4,h5,h6⟩:=HP1.out
  have e4:=heap_alloc_new w1 oA
  rw [h2] at e4
  rw [hw2]
  exact ⟨zae h1 _,by rw [World.size_alloc,h2],zag h3 _,zag h4 _,zag h5 _,zag h6 _,e4⟩
 have HP2:=zac.mk hP2
 clear he hw2 hP2 HP1
 obtain ⟨a0,ha00,ha01⟩:=HAt.out 0 (by omega) (by omega)
 have HA0:=zac.mk a0
 clear a0
 generalize hn0 : atN l 0 = n0 at *
 have HN0:=zac.mk hn0
 clear hn0
 go_wp2_with fail
 refine (pairingbase_At.calls _ _ l 0 n0 _ (Kd.C_alloc (Kd.C_below HR.out HP2.out.1) _) HC.out HA0.out).mono ?_
 rintro e_ w3 ⟨rfl,⟨nd,rfl⟩⟩
 have hs2:=HP2.out.2.1
 have e1 : w2.heap.size = w.heap.size + 5:=hs2
 have e2 : w2.heap.size + 1 = w.heap.size + 6:=by omega
 have e3 : w2.heap.size + 1 + 1 = w.heap.size + 7:=by omega
 have E1:=zac.mk e1
 have E2:=zac.mk e2
 have E3:=zac.mk e3
 clear hs2 e1 e2 e3
 go_wp2
 have HB0 : BPt w ((((w2.alloc (oT w.heap.size (.slice none 0 0))).drewN nd).alloc oG).alloc oY) (.slice none 0 0) []:=by
  obtain ⟨h1,h2,h3,h4,h5,h6,h7⟩:=HP2.out
  have f5:=heap_alloc_new w2 (oT w.heap.size (.slice none 0 0))
  have f6:=heap_alloc_new ((w2.alloc (oT w.heap.size (.slice none 0 0))).drewN nd) oG
  have f7:=heap_alloc_new (((w2.alloc (oT w.heap.size (.slice none 0 0))).drewN nd).alloc oG) oY
  have hsn : ((w2.alloc (oT w.heap.size (.slice none 0 0))).drewN nd).heap.size = w2.heap.size + 1:=by simp
  simp only [World.size_alloc,hsn,h2] at f5 f6 f7
  exact ⟨⟨zae (zae (zab (zae h1 _) _) _) _,zag (zag (zah (zag h4 _) _) _) _,zag (zag (zah (zag h5 _) _) _) _,zag (zag (zah (zag h6 _) _) _) _,zag (zag (zah (zag h7 _) _) _) _,Kd.R_nil _ _ _ _ _⟩,zag (zag (zah (zag h3 _) _) _) _,zag (zag (zah f5 _) _) _,zag f6 _,f7⟩
 have HBP:=zac.mk HB0
 clear HB0
 rw [E3.out,E2.out,E1.out]
 have hm1:=HAt.out 1 (by omega) (by omega)
 have HM1:=zac.mk hm1
 have HMv:=zac.mk (show bM l = 2 + atN l 1 % 6 from rfl)
 clear hm1
 go_loopg [4,5,8] (bM l).toNat (fun gk v4 v5 v8 wx=>∃ (i a clock : Int) (v : Value) (fs : List S36),v4 = .int .i64 a ∧ v5 = .int .i64 clock ∧ v8 = .int .i64 i ∧ zac (0 ≤ i ∧ i + gk = bM l ∧ 0 ≤ a ∧ a ≤ 2 ∧ 0 ≤ clock ∧ clock ≤ 1441425 + 1000 * i ∧ (fs.length : Int) = i ∧ fs ++ bFs l gk i a clock = bAll l) ∧ zac (BPt w wx v fs))
 case atStart =>
  have hm:=HMv.out
  exact ⟨0,0,_,.slice none 0 0,[],rfl,rfl,rfl,⟨by omega,by omega,by omega,by omega,by omega,by omega,rfl,by rw [List.nil_append,bAll,HN0.out]⟩,HBP⟩
 case round =>
  clear HBP
  obtain ⟨i,a,clock,v,fs,rfl,rfl,rfl,HF,HBP⟩:=hrel
  have HD:=zac.mk (Kd.C_below HR.out HBP.out.be)
  go_wp2_with fail
  refine (pairingbase_At.calls _ _ l 1 (atN l 1) _ HD.out HC.out HM1.out.1).mono ?_
  rintro e_ w4 ⟨rfl,⟨nd1,rfl⟩⟩
  obtain ⟨_,hn10,hn11⟩:=HM1.out
  have hm:=HMv.out
  obtain ⟨hi0,hig,ha0,ha2,hc0,hc1,hlen,htot⟩:=HF.out
  cases gk with
  | zero =>
   have c1 : decide (i < 2 + atN l 1 % 6) = false:=decide_eq_false (by omega)
   have hfs : fs = bAll l:=by rw [← htot];simp [bFs]
   have HFs:=zac.mk hfs
   have HB2:=zac.mk (HBP.out.drawn nd1)
   obtain ⟨Af,cf,rfl⟩:=Kd.R_slice HBP.out.f
   have ht0:=(zad HBP.out.t 0).trans rfl
   have ht1:=(zad HBP.out.t 1).trans rfl
   have ht2 : wr.cell? ⟨w.heap.size + 5,2,none⟩ = some (.slice Af fs.length cf):=(zad HBP.out.t 2).trans rfl
   have hr0:=(zad HBP.out.b0 0).trans rfl
   have hr1:=(zad HBP.out.b0 1).trans rfl
   have hr2:=(zad HBP.out.b0 2).trans rfl
   have hf0:=zaa HBP.out.b0 0
   have hf1:=zaa HBP.out.b0 1
   have hf2:=zaa HBP.out.b0 2
   clear hfs htot
   go_wp2
   refine bodyPost_ret (results_cell_row rfl _ _ w.heap.size 26 #[.slice (some ⟨w.heap.size + 3,0,none⟩) 3 3,.slice (some ⟨w.heap.size + 4,0,none⟩) 3 3,.slice Af fs.length cf] (0,0) _ rfl (zaw (zaw (zaw HB2.out.b0 0 _ rfl) 1 _ rfl) 2 _ rfl) hu26 rfl (by kernel_rfl)) rfl ⟨_,rfl,?_⟩
   rw [← HFs.out]
   exact ((HB2.out.toBOut.far 0 _).far 1 _).far 2 _
  | succ gk =>
   have c1 : decide (i < 2 + atN l 1 % 6) = true:=decide_eq_true (by omega)
   have HG:=zac.mk (And.intro hig (And.intro hlen htot))
   have hi6 : i ≤ 6:=by omega
   clear hig hlen htot hm HF
   obtain ⟨hn1,hn2,hn3⟩:=HAt.out (2 + i) (by omega) (by omega)
   have HN:=zac.mk hn1
   clear hn1
   generalize hn : atN l (2 + i) = n at *
   have HNe:=zac.mk hn
   clear hn
   go_wp2_with fail
   refine (pairingbase_At.calls _ _ l (2 + i) n _ (Kd.C_drewN HD.out _) HC.out HN.out).mono ?_
   rintro e_ w5 ⟨rfl,⟨nd2,rfl⟩⟩
   have HB2:=zac.mk (HBP.out.drawn (nd1 + nd2))
   clear HBP HD
   go_upto_if 37 with (fail)
   go_cut [4] (fun v4 wc=>v4 = .int .i64 (bAt n a) ∧ zac (BPt w wc v fs))
   case first =>
    by_cases h6 : n % 7 = 6
    ·have e6:=zac.mk (show bAt n a = 0 from by unfold bAt;rw [if_pos h6])
     go_wp2
     go_meet
     case rel=>exact ⟨by rw [e6.out],HB2⟩
    ·have e6:=zac.mk (show bAt n a = a from by unfold bAt;rw [if_neg h6])
     go_wp2
     go_meet
     case rel=>exact ⟨by rw [e6.out],HB2⟩
   case rest =>
    clear HB2
    obtain ⟨rfl,HB2⟩:=hcut
    have ha : 0 ≤ bAt n a ∧ bAt n a ≤ 2:=by unfold bAt;split <;> omega
    have HBAT:=zac.mk (show bFs l (gk + 1) i a clock = bFlight i (atN l (2 + i)) (bAt (atN l (2 + i)) a) (bDep (atN l (2 + i)) clock) :: bFs l gk (i + 1) (bTo (atN l (2 + i)) (bAt (atN l (2 + i)) a)) (bClock (atN l (2 + i)) (bDep (atN l (2 + i)) clock)) from rfl)
    generalize hb : bAt n a = x4 at *
    have HBb:=zac.mk hb
    obtain ⟨hb0,hb2⟩:=ha
    clear hb
    go_upto_if 39 with (fail)
    go_cut [10] (fun v10 wc=>v10 = .int .i64 (bTo n x4) ∧ zac (BPt w wc v fs))
    case first =>
     by_cases h6 : x4 = 0
     ·have e6:=zac.mk (show bTo n x4 = 1 + n / 8 % 2 from by unfold bTo;rw [if_pos h6])
      have c1 : (x4 == 0) = true:=beq_iff_eq.mpr h6
      go_wp2
      go_meet
      case rel=>exact ⟨by rw [e6.out],HB2⟩
     ·have c1 : (x4 == 0) = false:=beq_eq_false_iff_ne.mpr h6
      by_cases h7 : n % 11 = 10
      ·have e6:=zac.mk (show bTo n x4 = 3 - x4 from by unfold bTo;rw [if_neg h6,if_pos h7])
       go_wp2
       go_meet
       case rel=>exact ⟨by rw [e6.out],HB2⟩
      ·have e6:=zac.mk (show bTo n x4 = 0 from by unfold bTo;rw [if_neg h6,if_neg h7])
       go_wp2
       go_meet
       case rel=>exact ⟨by rw [e6.out],HB2⟩
    case rest =>
     clear HB2
     obtain ⟨rfl,HB2⟩:=hcut
     have ht : 0 ≤ bTo n x4 ∧ bTo n x4 ≤ 2:=by unfold bTo;repeat' split <;> omega
     generalize hb : bTo n x4 = x10 at *
     have HBt:=zac.mk hb
     obtain ⟨ht0,ht2⟩:=ht
     clear hb
     have hgap:=ar_cell (w:=wc) HB2.out.g 0 8 gapL (n / 16 % 8) rfl (fun i hi=>by match i,hi with|0,_=>rfl|1,_=>rfl|2,_=>rfl|3,_=>rfl|4,_=>rfl|5,_=>rfl|6,_=>rfl|7,_=>rfl) (by omega) (by omega)
     rw [Nat.zero_add] at hgap
     have hgr : 0 ≤ rd gapL (n / 16 % 8) ∧ rd gapL (n / 16 % 8) ≤ 780:=gap_range _ (by omega) (by omega)
     have q8 : (n / 16 % 8 < 8) = True:=eq_true (by omega)
     have p8 : (0 ≤ n / 16 % 8) = True:=eq_true (by omega)
     have HDep:=zac.mk (show bDep n clock = clock + rd gapL (n / 16 % 8) from rfl)
     generalize rd gapL (n / 16 % 8) = gv at *
     go_upto_region 17 with (fail)
     have hd0 : 0 ≤ clock + gv ∧ clock + gv ≤ 1441425 + 1000 * i + 780:=by omega
     rw [← HDep.out] at hd0
     obtain ⟨hd0,hd1⟩:=hd0
     rw [← HDep.out]
     generalize hdq : bDep n clock = dep at *
     have HDq:=zac.mk hdq
     clear hdq
     have P4:=zac.mk (show 0 ≤ x4 ∧ x4 < 3 from ⟨hb0,by omega⟩)
     have P10:=zac.mk (show 0 ≤ x10 ∧ x10 < 3 from ⟨ht0,by omega⟩)
     have PN:=zac.mk (show 0 ≤ n / 1024 % 3 ∧ n / 1024 % 3 < 3 from ⟨by omega,by omega⟩)
     have m1 : Int.tmod (n / 1024) 3 = n / 1024 % 3:=Int.tmod_eq_emod_of_nonneg (by omega)
     have m2 : Int.tmod (n / 128) 6 = n / 128 % 6:=Int.tmod_eq_emod_of_nonneg (by omega)
     have m3 : IntKind.i64.wrap (48 + i) = 48 + i:=IntWalk.i64_in _ (by omega)
     have m4 : IntKind.u8.wrap (48 + i) = 48 + i:=by rw [IntKind.wrap_u8];omega
     have m5 : IntKind.i64.wrap (dep + 60) = dep + 60:=IntWalk.i64_in _ (by omega)
     have m6 : IntKind.i64.wrap (15 * (n / 128 % 6)) = 15 * (n / 128 % 6):=IntWalk.i64_in _ (by omega)
     have m7 : IntKind.i64.wrap (dep + 60 + 15 * (n / 128 % 6)) = dep + 60 + 15 * (n / 128 % 6):=IntWalk.i64_in _ (by omega)
     have m8 : (0 ≤ n / 1024 % 3) = True:=eq_true PN.out.1
     have m9 : (n / 1024 % 3 < 3) = True:=eq_true PN.out.2
     go_cut [12] (fun v12 wc=>∃ g12 : Nat,v12 = .pointer (some ⟨g12,0,none⟩) ∧ zac (w.heap.size + 8 ≤ g12 ∧ ∀ k,v.ownBlock = some k → k ≠ g12) ∧ zac (wc.heap[g12]? = some (.cells #[.string ((⟨#[70]⟩ : ByteArray) ++ strOfNums [48 + i]),.string (codeF x4),.string (codeF x10),.int .i64 dep,.int .i64 (dep + 60 + 15 * (n / 128 % 6)),.string (typeF (n / 1024 % 3)),.int .i64 1,.int .i64 1,.int .i64 2] 36 (0,0))) ∧ zac (BPt w wc v fs))
     case first =>
      clear hgap
      refine start_ (n:=32) (S:=fun w'=>True) (ds:=[]) #[false,false,false,false,false,false,false,false,false,false,false,false,false,false,false,false,false,false,false,false,false,false,false,false,false,false,false,false,false,false,false,false] (by kernel_rfl) rfl rfl trivial (fun hHeld=>?_)
      refine with_tabW base.tab17 base.bits17 (fun HT_ HW_=>?_)
      have HBP6:=zac.mk (HB2.out.below (below_drew (Below.refl _ _)))
      clear HB2
      generalize wc.drew = w7 at HBP6 hHeld ⊢
      have HBP7:=HBP6
      clear HBP6
      have HB:=zac.mk (Below.refl w7.heap.size w7)
      refine pure_ (i:=0) (N:=some 57) (v:=?_) (a':=?_) #[true,false,false,false,false,false,false,false,false,false,false,false,false,false,false,false,false,false,false,false,false,false,false,false,false,false,false,false,false,false,false,false] rfl rfl (zbx HT_.out (by kernel_rfl)) (fun _ _ _ h=>h) (Or.inl ⟨by rfl,?_⟩) ?_ ?_
      rotate_left
      ·intro w'
       go_simp
       with_reducible rfl
      rotate_left
      ·simp only [Act.put,List.setIfInBounds_toArray,List.set_cons_zero,List.set_cons_succ,i64_w,i32_w]
       rfl
      refine pure_ (i:=1) (N:=some 58) (v:=?_) (a':=?_) #[true,true,false,false,false,false,false,false,false,false,false,false,false,false,false,false,false,false,false,false,false,false,false,false,false,false,false,false,false,false,false,false] rfl rfl (zbx HT_.out (by kernel_rfl)) (fun _ _ _ h=>h) (Or.inl ⟨by rfl,?_⟩) ?_ ?_
      rotate_left
      ·intro w'
       go_simp
       with_reducible rfl
      rotate_left
      ·simp only [Act.put,List.setIfInBounds_toArray,List.set_cons_zero,List.set_cons_succ,i64_w,i32_w]
       rfl
      refine pure_ (i:=2) (N:=some 59) (v:=?_) (a':=?_) #[true,true,true,false,false,false,false,false,false,false,false,false,false,false,false,false,false,false,false,false,false,false,false,false,false,false,false,false,false,false,false,false] rfl rfl (zbx HT_.out (by kernel_rfl)) (fun _ _ _ h=>h) (Or.inl ⟨by rfl,?_⟩) ?_ ?_
      rotate_left
      ·intro w'
       go_simp
       with_reducible rfl
      rotate_left
      ·simp only [Act.put,List.setIfInBounds_toArray,List.set_cons_zero,List.set_cons_succ,i64_w,i32_w]
       rfl
      refine pure_ (i:=7) (N:=some 64) (v:=?_) (a':=?_) #[true,true,true,false,false,false,false,true,false,false,false,false,false,false,false,false,false,false,false,false,false,false,false,false,false,false,false,false,false,false,false,false] rfl rfl (zbx HT_.out (by kernel_rfl)) (fun _ _ _ h=>h) (Or.inl ⟨by rfl,?_⟩) ?_ ?_
      rotate_left
      ·intro w'
       go_simp
       with_reducible rfl
      rotate_left
      ·simp only [Act.put,List.setIfInBounds_toArray,List.set_cons_zero,List.set_cons_succ,i64_w,i32_w]
       rfl
      refine pure_ (i:=11) (N:=some 68) (v:=?_) (a':=?_) #[true,true,true,false,false,false,false,true,false,false,false,true,false,false,false,false,false,false,false,false,false,false,false,false,false,false,false,false,false,false,false,false] rfl rfl (zbx HT_.out (by kernel_rfl)) (fun _ _ _ h=>h) (Or.inl ⟨by rfl,?_⟩) ?_ ?_
      rotate_left
      ·intro w'
       go_simp
       with_reducible rfl
      rotate_left
      ·simp only [Act.put,List.setIfInBounds_toArray,List.set_cons_zero,List.set_cons_succ,i64_w,i32_w]
       rfl
      refine pure_ (i:=14) (N:=some 71) (v:=?_) (a':=?_) #[true,true,true,false,false,false,false,true,false,false,false,true,false,false,true,false,false,false,false,false,false,false,false,false,false,false,false,false,false,false,false,false] rfl rfl (zbx HT_.out (by kernel_rfl)) (fun _ _ _ h=>h) (Or.inl ⟨by rfl,?_⟩) ?_ ?_
      rotate_left
      ·intro w'
       go_simp
       with_reducible rfl
      rotate_left
      ·simp only [Act.put,List.setIfInBounds_toArray,List.set_cons_zero,List.set_cons_succ,i64_w,i32_w]
       rfl
      refine pure_ (i:=15) (N:=some 72) (v:=?_) (a':=?_) #[true,true,true,false,false,false,false,true,false,false,false,true,false,false,true,true,false,false,false,false,false,false,false,false,false,false,false,false,false,false,false,false] rfl rfl (zbx HT_.out (by kernel_rfl)) (fun _ _ _ h=>h) (Or.inl ⟨by rfl,?_⟩) ?_ ?_
      rotate_left
      ·intro w'
       go_simp
       with_reducible rfl
      rotate_left
      ·simp only [Act.put,List.setIfInBounds_toArray,List.set_cons_zero,List.set_cons_succ,i64_w,i32_w]
       rfl
      refine pure_ (i:=16) (N:=some 73) (v:=?_) (a':=?_) #[true,true,true,false,false,false,false,true,false,false,false,true,false,false,true,true,true,false,false,false,false,false,false,false,false,false,false,false,false,false,false,false] rfl rfl (zbx HT_.out (by kernel_rfl)) (fun _ _ _ h=>h) (Or.inl ⟨by rfl,?_⟩) ?_ ?_
      rotate_left
      ·intro w'
       go_simp
       with_reducible rfl
      rotate_left
      ·simp only [Act.put,List.setIfInBounds_toArray,List.set_cons_zero,List.set_cons_succ,i64_w,i32_w]
       rfl
      refine pure_ (i:=17) (N:=some 74) (v:=?_) (a':=?_) #[true,true,true,false,false,false,false,true,false,false,false,true,false,false,true,true,true,true,false,false,false,false,false,false,false,false,false,false,false,false,false,false] rfl rfl (zbx HT_.out (by kernel_rfl)) (fun _ _ _ h=>h) (Or.inl ⟨by rfl,?_⟩) ?_ ?_
      rotate_left
      ·intro w'
       go_simp
       with_reducible rfl
      rotate_left
      ·simp only [Act.put,List.setIfInBounds_toArray,List.set_cons_zero,List.set_cons_succ,i64_w,i32_w]
       rfl
      refine pure_ (i:=18) (N:=some 75) (v:=?_) (a':=?_) #[true,true,true,false,false,false,false,true,false,false,false,true,false,false,true,true,true,true,true,false,false,false,false,false,false,false,false,false,false,false,false,false] rfl rfl (zbx HT_.out (by kernel_rfl)) (fun _ _ _ h=>h) (Or.inl ⟨by rfl,?_⟩) ?_ ?_
      rotate_left
      ·intro w'
       go_simp
       with_reducible rfl
      rotate_left
      ·simp only [Act.put,List.setIfInBounds_toArray,List.set_cons_zero,List.set_cons_succ,i64_w,i32_w]
       rfl
      refine pure_ (i:=19) (N:=some 76) (v:=?_) (a':=?_) #[true,true,true,false,false,false,false,true,false,false,false,true,false,false,true,true,true,true,true,true,false,false,false,false,false,false,false,false,false,false,false,false] rfl rfl (zbx HT_.out (by kernel_rfl)) (fun _ _ _ h=>h) (Or.inl ⟨by rfl,?_⟩) ?_ ?_
      rotate_left
      ·intro w'
       go_simp
       with_reducible rfl
      rotate_left
      ·simp only [Act.put,List.setIfInBounds_toArray,List.set_cons_zero,List.set_cons_succ,i64_w,i32_w]
       rfl
      refine pure_ (i:=20) (N:=some 77) (v:=?_) (a':=?_) #[true,true,true,false,false,false,false,true,false,false,false,true,false,false,true,true,true,true,true,true,true,false,false,false,false,false,false,false,false,false,false,false] rfl rfl (zbx HT_.out (by kernel_rfl)) (fun _ _ _ h=>h) (Or.inl ⟨by rfl,?_⟩) ?_ ?_
      rotate_left
      ·intro w'
       go_simp
       with_reducible rfl
      rotate_left
      ·simp only [Act.put,List.setIfInBounds_toArray,List.set_cons_zero,List.set_cons_succ,i64_w,i32_w]
       rfl
      refine pure_ (i:=21) (N:=some 78) (v:=?_) (a':=?_) #[true,true,true,false,false,false,false,true,false,false,false,true,false,false,true,true,true,true,true,true,true,true,false,false,false,false,false,false,false,false,false,false] rfl rfl (zbx HT_.out (by kernel_rfl)) (fun _ _ _ h=>h) (Or.inl ⟨by rfl,?_⟩) ?_ ?_
      rotate_left
      ·intro w'
       go_simp
       with_reducible rfl
      rotate_left
      ·simp only [Act.put,List.setIfInBounds_toArray,List.set_cons_zero,List.set_cons_succ,i64_w,i32_w]
       rfl
      refine pure_ (i:=22) (N:=some 79) (v:=?_) (a':=?_) #[true,true,true,false,false,false,false,true,false,false,false,true,false,false,true,true,true,true,true,true,true,true,true,false,false,false,false,false,false,false,false,false] rfl rfl (zbx HT_.out (by kernel_rfl)) (fun _ _ _ h=>h) (Or.inl ⟨by rfl,?_⟩) ?_ ?_
      rotate_left
      ·intro w'
       go_simp
       with_reducible rfl
      rotate_left
      ·simp only [Act.put,List.setIfInBounds_toArray,List.set_cons_zero,List.set_cons_succ,i64_w,i32_w]
       rfl
      refine pure_ (i:=23) (N:=some 80) (v:=?_) (a':=?_) #[true,true,true,false,false,false,false,true,false,false,false,true,false,false,true,true,true,true,true,true,true,true,true,true,false,false,false,false,false,false,false,false] rfl rfl (zbx HT_.out (by kernel_rfl)) (fun _ _ _ h=>h) (Or.inl ⟨by rfl,?_⟩) ?_ ?_
      rotate_left
      ·intro w'
       go_simp
       with_reducible rfl
      rotate_left
      ·simp only [Act.put,List.setIfInBounds_toArray,List.set_cons_zero,List.set_cons_succ,i64_w,i32_w]
       rfl
      refine pure_ (i:=24) (N:=some 81) (v:=?_) (a':=?_) #[true,true,true,false,false,false,false,true,false,false,false,true,false,false,true,true,true,true,true,true,true,true,true,true,true,false,false,false,false,false,false,false] rfl rfl (zbx HT_.out (by kernel_rfl)) (fun _ _ _ h=>h) (Or.inl ⟨by rfl,?_⟩) ?_ ?_
      rotate_left
      ·intro w'
       go_simp
       with_reducible rfl
      rotate_left
      ·simp only [Act.put,List.setIfInBounds_toArray,List.set_cons_zero,List.set_cons_succ,i64_w,i32_w]
       rfl
      refine pure_ (i:=25) (N:=some 82) (v:=?_) (a':=?_) #[true,true,true,false,false,false,false,true,false,false,false,true,false,false,true,true,true,true,true,true,true,true,true,true,true,true,false,false,false,false,false,false] rfl rfl (zbx HT_.out (by kernel_rfl)) (fun _ _ _ h=>h) (Or.inl ⟨by rfl,?_⟩) ?_ ?_
      rotate_left
      ·intro w'
       go_simp
       with_reducible rfl
      rotate_left
      ·simp only [Act.put,List.setIfInBounds_toArray,List.set_cons_zero,List.set_cons_succ,i64_w,i32_w]
       rfl
      refine pure_ (i:=26) (N:=some 83) (v:=?_) (a':=?_) #[true,true,true,false,false,false,false,true,false,false,false,true,false,false,true,true,true,true,true,true,true,true,true,true,true,true,true,false,false,false,false,false] rfl rfl (zbx HT_.out (by kernel_rfl)) (fun _ _ _ h=>h) (Or.inl ⟨by rfl,?_⟩) ?_ ?_
      rotate_left
      ·intro w'
       go_simp
       with_reducible rfl
      rotate_left
      ·simp only [Act.put,List.setIfInBounds_toArray,List.set_cons_zero,List.set_cons_succ,i64_w,i32_w]
       rfl
      refine pure_ (i:=28) (N:=some 85) (v:=?_) (a':=?_) #[true,true,true,false,false,false,false,true,false,false,false,true,false,false,true,true,true,true,true,true,true,true,true,true,true,true,true,false,true,false,false,false] rfl rfl (zbx HT_.out (by kernel_rfl)) (fun _ _ _ h=>h) (Or.inl ⟨by rfl,?_⟩) ?_ ?_
      rotate_left
      ·intro w'
       go_simp
       with_reducible rfl
      rotate_left
      ·simp only [Act.put,List.setIfInBounds_toArray,List.set_cons_zero,List.set_cons_succ,i64_w,i32_w]
       rfl
      refine inv_at [3,4,5,6,8,9,10,12,13,27,29,30,31] (fun a0_ b a w'=>∃ (g60 : Nat) (g63 : Nat) (g67 : Nat) (g12 : Nat) (m3_ : Value) (m6_ : Value) (m8_ : Value) (m10_ : Value) (m12_ : Value) (m30_ : Value),a = putSel a0_ b [(3,60,m3_),(4,61,.string (strOfNums [48 + i])),(5,62,.string ((⟨#[70]⟩ : ByteArray) ++ strOfNums [48 + i])),(6,63,m6_),(8,65,m8_),(9,66,.string (codeF x4)),(10,67,m10_),(12,69,m12_),(13,70,.string (codeF x10)),(27,84,.string (typeF (n / 1024 % 3))),(29,86,.agg #[.string ((⟨#[70]⟩ : ByteArray) ++ strOfNums [48 + i]),.string (codeF x4),.string (codeF x10),.int .i64 dep,.int .i64 (dep + 60 + 15 * (n / 128 % 6)),.string (typeF (n / 1024 % 3)),.int .i64 1,.int .i64 1,.int .i64 2]),(30,12,m30_)] ∧ (Below w7.heap.size w7 w') ∧ (b 3 = true → b 31 = false → w'.heap[g60]? = some (.cells #[.int .u8 (48 + i)] 5 (0,0))) ∧ (b 6 = true → b 31 = false → w'.heap[g63]? = some oC) ∧ (b 10 = true → b 31 = false → w'.heap[g67]? = some oC) ∧ (b 30 = true → b 31 = false → w'.heap[g12]? = some (.cells #[.string ⟨#[]⟩,.string ⟨#[]⟩,.string ⟨#[]⟩,.int .i64 0,.int .i64 0,.string ⟨#[]⟩,.int .i64 0,.int .i64 0,.int .i64 0] 36 (0,0))) ∧ (b 30 = true → w7.heap.size ≤ g12) ∧ (b 31 = true → w'.heap[g12]? = some (.cells #[.string ((⟨#[70]⟩ : ByteArray) ++ strOfNums [48 + i]),.string (codeF x4),.string (codeF x10),.int .i64 dep,.int .i64 (dep + 60 + 15 * (n / 128 % 6)),.string (typeF (n / 1024 % 3)),.int .i64 1,.int .i64 1,.int .i64 2] 36 (0,0))) ∧ (b 3 = true → (m3_ : Value) = .slice (some ⟨g60,0,none⟩) 1 1) ∧ (b 6 = true → (m6_ : Value) = .slice (some ⟨g63,0,none⟩) 3 3) ∧ (b 8 = true → (m8_ : Value) = .pointer (some ⟨g63,x4.toNat,none⟩)) ∧ (b 10 = true → (m10_ : Value) = .slice (some ⟨g67,0,none⟩) 3 3) ∧ (b 12 = true → (m12_ : Value) = .pointer (some ⟨g67,x10.toNat,none⟩)) ∧ (b 30 = true → (m30_ : Value) = .pointer (some ⟨g12,0,none⟩))) HT_.out HW_.out (by kernel_rfl) (by kernel_rfl) ?_ ?_ ?_
      ·exact ⟨0,0,0,0,.bool false,.bool false,.bool false,.bool false,.bool false,.bool false,by simp only [putSel,Bool.false_eq_true,if_false],HB.out,fun h_=>absurd h_ (by decide),fun h_=>absurd h_ (by decide),fun h_=>absurd h_ (by decide),fun h_=>absurd h_ (by decide),fun h_=>absurd h_ (by decide),fun h_=>absurd h_ (by decide),fun h_=>absurd h_ (by decide),fun h_=>absurd h_ (by decide),fun h_=>absurd h_ (by decide),fun h_=>absurd h_ (by decide),fun h_=>absurd h_ (by decide),fun h_=>absurd h_ (by decide)⟩
      ·skip
       clear HB
       refine steps_cons ?_ ?_
       ·rintro b a w' ⟨g60,g63,g67,g12,m3_,m6_,m8_,m10_,m12_,m30_,ha,Q_HB,Q_F60,Q_F63,Q_F67,Q_F12,Q_G12,Q_F12b,Q_X3_,Q_X6_,Q_X8_,Q_X10_,Q_X12_,Q_X30_⟩ hb_ hon hoff
        refine ⟨_,rfl,fun K hK=>?_⟩
        have e59 : a.tmps[59]? = some (.int .u8 (48 + i)):=by rw [ha];exact (putSel_off rfl).trans rfl
        replace ha:=zac.mk ha
        have HB:=zac.mk Q_HB
        refine value_ (w1:=w'.alloc (.cells #[.int .u8 (48 + i)] 5 (0,0))) (v:=.slice (some ⟨w'.heap.size,0,none⟩) 1 1) (by rfl) rfl ?_ ?_
        ·go_simp
         try rfl
        refine hK.out _ _ ⟨w'.heap.size,g63,g67,g12,(.slice (some ⟨w'.heap.size,0,none⟩) 1 1),m6_,m8_,m10_,m12_,m30_,(by rw [ha.out];exact putSel_upk 0 hb_ rfl rfl rfl),zae HB.out _,fun _ _=>heap_alloc_new _ _,fun h0_ h1_=>zag (Q_F63 h0_ h1_) _,fun h0_ h1_=>zag (Q_F67 h0_ h1_) _,fun h0_ h1_=>zag (Q_F12 h0_ h1_) _,Q_G12,fun h0_=>absurd ((hoff 31 (by kernel_rfl)).symm.trans h0_) (by decide),fun _=>rfl,Q_X6_,Q_X8_,Q_X10_,Q_X12_,Q_X30_⟩
       refine steps_cons ?_ ?_
       ·rintro b a w' ⟨g60,g63,g67,g12,m3_,m6_,m8_,m10_,m12_,m30_,ha,Q_HB,Q_F60,Q_F63,Q_F67,Q_F12,Q_G12,Q_F12b,Q_X3_,Q_X6_,Q_X8_,Q_X10_,Q_X12_,Q_X30_⟩ hb_ hon hoff
        refine ⟨_,rfl,fun K hK=>?_⟩
        have e60 : a.tmps[60]? = some (m3_):=by rw [ha];exact putSel_on (e:=(3,60,m3_)) 0 rfl rfl (hon 3 (by kernel_rfl)) rfl
        rw [Q_X3_ (hon 3 (by kernel_rfl))] at e60
        replace ha:=zac.mk ha
        have HB:=zac.mk Q_HB
        have F60:=zac.mk (Q_F60 (hon 3 (by kernel_rfl)) (hoff 31 (by kernel_rfl)))
        have hcv:=string_of_blk F60.out
        refine value_ (w1:=w') (v:=.string (strOfNums [48 + i])) (by rfl) rfl ?_ ?_
        ·go_simp
         (try simp only [i64_w])
         try rfl
        refine hK.out _ _ ⟨g60,g63,g67,g12,m3_,m6_,m8_,m10_,m12_,m30_,(by rw [ha.out];exact putSel_upk 1 hb_ rfl rfl rfl),Q_HB,Q_F60,Q_F63,Q_F67,Q_F12,Q_G12,fun h0_=>absurd ((hoff 31 (by kernel_rfl)).symm.trans h0_) (by decide),Q_X3_,Q_X6_,Q_X8_,Q_X10_,Q_X12_,Q_X30_⟩
       refine steps_cons ?_ ?_
       ·rintro b a w' ⟨g60,g63,g67,g12,m3_,m6_,m8_,m10_,m12_,m30_,ha,Q_HB,Q_F60,Q_F63,Q_F67,Q_F12,Q_G12,Q_F12b,Q_X3_,Q_X6_,Q_X8_,Q_X10_,Q_X12_,Q_X30_⟩ hb_ hon hoff
        refine ⟨_,rfl,fun K hK=>?_⟩
        have e61 : a.tmps[61]? = some (.string (strOfNums [48 + i])):=by rw [ha];exact putSel_on (e:=(4,61,.string (strOfNums [48 + i]))) 1 rfl rfl (hon 4 (by kernel_rfl)) rfl
        replace ha:=zac.mk ha
        have HB:=zac.mk Q_HB
        have F60:=zac.mk (Q_F60 (hon 3 (by kernel_rfl)) (hoff 31 (by kernel_rfl)))
        have hsz_ : 1 + (strOfNums [48 + i]).size ≤ 9223372036854775807:=by rw [str_one];decide
        refine value_ (w1:=w') (v:=.string ((⟨#[70]⟩ : ByteArray) ++ strOfNums [48 + i])) (by rfl) rfl ?_ ?_
        ·go_simp
         (try simp only [i64_w])
         try rfl
        refine hK.out _ _ ⟨g60,g63,g67,g12,m3_,m6_,m8_,m10_,m12_,m30_,(by rw [ha.out];exact putSel_upk 2 hb_ rfl rfl rfl),Q_HB,Q_F60,Q_F63,Q_F67,Q_F12,Q_G12,fun h0_=>absurd ((hoff 31 (by kernel_rfl)).symm.trans h0_) (by decide),Q_X3_,Q_X6_,Q_X8_,Q_X10_,Q_X12_,Q_X30_⟩
       refine steps_cons ?_ ?_
       ·rintro b a w' ⟨g60,g63,g67,g12,m3_,m6_,m8_,m10_,m12_,m30_,ha,Q_HB,Q_F60,Q_F63,Q_F67,Q_F12,Q_G12,Q_F12b,Q_X3_,Q_X6_,Q_X8_,Q_X10_,Q_X12_,Q_X30_⟩ hb_ hon hoff
        refine ⟨_,rfl,fun K hK=>?_⟩
        replace ha:=zac.mk ha
        have HB:=zac.mk Q_HB
        refine goes_ Try.func39 (by kernel_rfl) rfl #[] (by rfl) rfl rfl (by first|(simp only [List.map_toArray,List.map_cons,List.map_nil,Act.eval,Array.getD_eq_getD_getElem?,Option.getD_some];done)|(simp only [List.map_toArray,List.map_cons,List.map_nil,Act.eval,Array.getD_eq_getD_getElem?,Option.getD_some];rfl)) ?_
        with_reducible refine (codes_calls _).mono ?_
        rintro e w2_ ⟨rfl,rfl⟩
        refine ⟨_,rfl,?_⟩
        refine hK.out _ _ ⟨g60,w'.heap.size,g67,g12,m3_,(.slice (some ⟨w'.heap.size,0,none⟩) 3 3),m8_,m10_,m12_,m30_,(by rw [ha.out];exact putSel_upk 3 hb_ rfl rfl rfl),zae HB.out _,fun h0_ h1_=>zag (Q_F60 h0_ h1_) _,fun _ _=>heap_alloc_new _ _,fun h0_ _=>absurd ((hoff 10 (by kernel_rfl)).symm.trans h0_) (by decide),fun h0_ h1_=>zag (Q_F12 h0_ h1_) _,Q_G12,fun h0_=>absurd ((hoff 31 (by kernel_rfl)).symm.trans h0_) (by decide),Q_X3_,fun _=>rfl,fun h0_=>absurd ((hoff 8 (by kernel_rfl)).symm.trans h0_) (by decide),fun h0_=>absurd ((hoff 10 (by kernel_rfl)).symm.trans h0_) (by decide),fun h0_=>absurd ((hoff 12 (by kernel_rfl)).symm.trans h0_) (by decide),Q_X30_⟩
       refine steps_cons ?_ ?_
       ·rintro b a w' ⟨g60,g63,g67,g12,m3_,m6_,m8_,m10_,m12_,m30_,ha,Q_HB,Q_F60,Q_F63,Q_F67,Q_F12,Q_G12,Q_F12b,Q_X3_,Q_X6_,Q_X8_,Q_X10_,Q_X12_,Q_X30_⟩ hb_ hon hoff
        refine ⟨_,rfl,fun K hK=>?_⟩
        have e63 : a.tmps[63]? = some (m6_):=by rw [ha];exact putSel_on (e:=(6,63,m6_)) 3 rfl rfl (hon 6 (by kernel_rfl)) rfl
        rw [Q_X6_ (hon 6 (by kernel_rfl))] at e63
        have e64 : a.tmps[64]? = some (.int .i64 x4):=by rw [ha];exact (putSel_off rfl).trans rfl
        replace ha:=zac.mk ha
        have HB:=zac.mk Q_HB
        have F63:=zac.mk (Q_F63 (hon 6 (by kernel_rfl)) (hoff 31 (by kernel_rfl)))
        have p4_:=eq_true P4.out.1
        have q4_:=eq_true (show x4 < 3 from P4.out.2)
        refine value_ (w1:=w') (v:=.pointer (some ⟨g63,x4.toNat,none⟩)) (by rfl) rfl ?_ ?_
        ·go_simp
         (try simp only [i64_w])
         try rfl
        refine hK.out _ _ ⟨g60,g63,g67,g12,m3_,m6_,(.pointer (some ⟨g63,x4.toNat,none⟩)),m10_,m12_,m30_,(by rw [ha.out];exact putSel_upk 4 hb_ rfl rfl rfl),Q_HB,Q_F60,Q_F63,Q_F67,Q_F12,Q_G12,fun h0_=>absurd ((hoff 31 (by kernel_rfl)).symm.trans h0_) (by decide),Q_X3_,Q_X6_,fun _=>rfl,Q_X10_,Q_X12_,Q_X30_⟩
       refine steps_cons ?_ ?_
       ·rintro b a w' ⟨g60,g63,g67,g12,m3_,m6_,m8_,m10_,m12_,m30_,ha,Q_HB,Q_F60,Q_F63,Q_F67,Q_F12,Q_G12,Q_F12b,Q_X3_,Q_X6_,Q_X8_,Q_X10_,Q_X12_,Q_X30_⟩ hb_ hon hoff
        refine ⟨_,rfl,fun K hK=>?_⟩
        have e65 : a.tmps[65]? = some (m8_):=by rw [ha];exact putSel_on (e:=(8,65,m8_)) 4 rfl rfl (hon 8 (by kernel_rfl)) rfl
        rw [Q_X8_ (hon 8 (by kernel_rfl))] at e65
        replace ha:=zac.mk ha
        have HB:=zac.mk Q_HB
        have F63:=zac.mk (Q_F63 (hon 6 (by kernel_rfl)) (hoff 31 (by kernel_rfl)))
        have hcv:=code_cell F63.out x4 P4.out.1 P4.out.2
        refine value_ (w1:=w') (v:=.string (codeF x4)) (by rfl) rfl ?_ ?_
        ·go_simp
         (try simp only [i64_w])
         try rfl
        refine hK.out _ _ ⟨g60,g63,g67,g12,m3_,m6_,m8_,m10_,m12_,m30_,(by rw [ha.out];exact putSel_upk 5 hb_ rfl rfl rfl),Q_HB,Q_F60,Q_F63,Q_F67,Q_F12,Q_G12,fun h0_=>absurd ((hoff 31 (by kernel_rfl)).symm.trans h0_) (by decide),Q_X3_,Q_X6_,Q_X8_,Q_X10_,Q_X12_,Q_X30_⟩
       refine steps_cons ?_ ?_
       ·rintro b a w' ⟨g60,g63,g67,g12,m3_,m6_,m8_,m10_,m12_,m30_,ha,Q_HB,Q_F60,Q_F63,Q_F67,Q_F12,Q_G12,Q_F12b,Q_X3_,Q_X6_,Q_X8_,Q_X10_,Q_X12_,Q_X30_⟩ hb_ hon hoff
        refine ⟨_,rfl,fun K hK=>?_⟩
        replace ha:=zac.mk ha
        have HB:=zac.mk Q_HB
        have F63:=zac.mk (Q_F63 (hon 6 (by kernel_rfl)) (hoff 31 (by kernel_rfl)))
        refine goes_ Try.func39 (by kernel_rfl) rfl #[] (by rfl) rfl rfl (by first|(simp only [List.map_toArray,List.map_cons,List.map_nil,Act.eval,Array.getD_eq_getD_getElem?,Option.getD_some];done)|(simp only [List.map_toArray,List.map_cons,List.map_nil,Act.eval,Array.getD_eq_getD_getElem?,Option.getD_some];rfl)) ?_
        with_reducible refine (codes_calls _).mono ?_
        rintro e w2_ ⟨rfl,rfl⟩
        refine ⟨_,rfl,?_⟩
        refine hK.out _ _ ⟨g60,g63,w'.heap.size,g12,m3_,m6_,m8_,(.slice (some ⟨w'.heap.size,0,none⟩) 3 3),m12_,m30_,(by rw [ha.out];exact putSel_upk 6 hb_ rfl rfl rfl),zae HB.out _,fun h0_ h1_=>zag (Q_F60 h0_ h1_) _,fun _ _=>zag F63.out _,fun _ _=>heap_alloc_new _ _,fun h0_ h1_=>zag (Q_F12 h0_ h1_) _,Q_G12,fun h0_=>absurd ((hoff 31 (by kernel_rfl)).symm.trans h0_) (by decide),Q_X3_,Q_X6_,Q_X8_,fun _=>rfl,fun h0_=>absurd ((hoff 12 (by kernel_rfl)).symm.trans h0_) (by decide),Q_X30_⟩
       refine steps_cons ?_ ?_
       ·rintro b a w' ⟨g60,g63,g67,g12,m3_,m6_,m8_,m10_,m12_,m30_,ha,Q_HB,Q_F60,Q_F63,Q_F67,Q_F12,Q_G12,Q_F12b,Q_X3_,Q_X6_,Q_X8_,Q_X10_,Q_X12_,Q_X30_⟩ hb_ hon hoff
        refine ⟨_,rfl,fun K hK=>?_⟩
        have e67 : a.tmps[67]? = some (m10_):=by rw [ha];exact putSel_on (e:=(10,67,m10_)) 6 rfl rfl (hon 10 (by kernel_rfl)) rfl
        rw [Q_X10_ (hon 10 (by kernel_rfl))] at e67
        have e68 : a.tmps[68]? = some (.int .i64 x10):=by rw [ha];exact (putSel_off rfl).trans rfl
        replace ha:=zac.mk ha
        have HB:=zac.mk Q_HB
        have F63:=zac.mk (Q_F63 (hon 6 (by kernel_rfl)) (hoff 31 (by kernel_rfl)))
        have F67:=zac.mk (Q_F67 (hon 10 (by kernel_rfl)) (hoff 31 (by kernel_rfl)))
        have p4_:=eq_true P10.out.1
        have q4_:=eq_true (show x10 < 3 from P10.out.2)
        refine value_ (w1:=w') (v:=.pointer (some ⟨g67,x10.toNat,none⟩)) (by rfl) rfl ?_ ?_
        ·go_simp
         (try simp only [i64_w])
         try rfl
        refine hK.out _ _ ⟨g60,g63,g67,g12,m3_,m6_,m8_,m10_,(.pointer (some ⟨g67,x10.toNat,none⟩)),m30_,(by rw [ha.out];exact putSel_upk 7 hb_ rfl rfl rfl),Q_HB,Q_F60,Q_F63,Q_F67,Q_F12,Q_G12,fun h0_=>absurd ((hoff 31 (by kernel_rfl)).symm.trans h0_) (by decide),Q_X3_,Q_X6_,Q_X8_,Q_X10_,fun _=>rfl,Q_X30_⟩
       refine steps_cons ?_ ?_
       ·rintro b a w' ⟨g60,g63,g67,g12,m3_,m6_,m8_,m10_,m12_,m30_,ha,Q_HB,Q_F60,Q_F63,Q_F67,Q_F12,Q_G12,Q_F12b,Q_X3_,Q_X6_,Q_X8_,Q_X10_,Q_X12_,Q_X30_⟩ hb_ hon hoff
        refine ⟨_,rfl,fun K hK=>?_⟩
        have e69 : a.tmps[69]? = some (m12_):=by rw [ha];exact putSel_on (e:=(12,69,m12_)) 7 rfl rfl (hon 12 (by kernel_rfl)) rfl
        rw [Q_X12_ (hon 12 (by kernel_rfl))] at e69
        replace ha:=zac.mk ha
        have HB:=zac.mk Q_HB
        have F63:=zac.mk (Q_F63 (hon 6 (by kernel_rfl)) (hoff 31 (by kernel_rfl)))
        have F67:=zac.mk (Q_F67 (hon 10 (by kernel_rfl)) (hoff 31 (by kernel_rfl)))
        have hcv:=code_cell F67.out x10 P10.out.1 P10.out.2
        refine value_ (w1:=w') (v:=.string (codeF x10)) (by rfl) rfl ?_ ?_
        ·go_simp
         (try simp only [i64_w])
         try rfl
        refine hK.out _ _ ⟨g60,g63,g67,g12,m3_,m6_,m8_,m10_,m12_,m30_,(by rw [ha.out];exact putSel_upk 8 hb_ rfl rfl rfl),Q_HB,Q_F60,Q_F63,Q_F67,Q_F12,Q_G12,fun h0_=>absurd ((hoff 31 (by kernel_rfl)).symm.trans h0_) (by decide),Q_X3_,Q_X6_,Q_X8_,Q_X10_,Q_X12_,Q_X30_⟩
       refine steps_cons ?_ ?_
       ·rintro b a w' ⟨g60,g63,g67,g12,m3_,m6_,m8_,m10_,m12_,m30_,ha,Q_HB,Q_F60,Q_F63,Q_F67,Q_F12,Q_G12,Q_F12b,Q_X3_,Q_X6_,Q_X8_,Q_X10_,Q_X12_,Q_X30_⟩ hb_ hon hoff
        refine ⟨_,rfl,fun K hK=>?_⟩
        have e83 : a.tmps[83]? = some (.pointer (some ⟨w.heap.size + 7,(n / 1024 % 3).toNat,none⟩)):=by rw [ha];exact (putSel_off rfl).trans rfl
        replace ha:=zac.mk ha
        have HB:=zac.mk Q_HB
        have hcv:=type_cell (HBP7.out.below HB.out).y (n / 1024 % 3) PN.out.1 PN.out.2
        refine value_ (w1:=w') (v:=.string (typeF (n / 1024 % 3))) (by rfl) rfl ?_ ?_
        ·go_simp
         (try simp only [i64_w])
         try rfl
        refine hK.out _ _ ⟨g60,g63,g67,g12,m3_,m6_,m8_,m10_,m12_,m30_,(by rw [ha.out];exact putSel_upk 9 hb_ rfl rfl rfl),Q_HB,Q_F60,Q_F63,Q_F67,Q_F12,Q_G12,fun h0_=>absurd ((hoff 31 (by kernel_rfl)).symm.trans h0_) (by decide),Q_X3_,Q_X6_,Q_X8_,Q_X10_,Q_X12_,Q_X30_⟩
       refine steps_cons ?_ ?_
       ·rintro b a w' ⟨g60,g63,g67,g12,m3_,m6_,m8_,m10_,m12_,m30_,ha,Q_HB,Q_F60,Q_F63,Q_F67,Q_F12,Q_G12,Q_F12b,Q_X3_,Q_X6_,Q_X8_,Q_X10_,Q_X12_,Q_X30_⟩ hb_ hon hoff
        refine ⟨_,rfl,fun K hK=>?_⟩
        have e62 : a.tmps[62]? = some (.string ((⟨#[70]⟩ : ByteArray) ++ strOfNums [48 + i])):=by rw [ha];exact putSel_on (e:=(5,62,.string ((⟨#[70]⟩ : ByteArray) ++ strOfNums [48 + i]))) 2 rfl rfl (hon 5 (by kernel_rfl)) rfl
        have e66 : a.tmps[66]? = some (.string (codeF x4)):=by rw [ha];exact putSel_on (e:=(9,66,.string (codeF x4))) 5 rfl rfl (hon 9 (by kernel_rfl)) rfl
        have e70 : a.tmps[70]? = some (.string (codeF x10)):=by rw [ha];exact putSel_on (e:=(13,70,.string (codeF x10))) 8 rfl rfl (hon 13 (by kernel_rfl)) rfl
        have e71 : a.tmps[71]? = some (.int .i64 dep):=by rw [ha];exact (putSel_off rfl).trans rfl
        have e78 : a.tmps[78]? = some (.int .i64 (dep + 60 + 15 * (n / 128 % 6))):=by rw [ha];exact (putSel_off rfl).trans rfl
        have e84 : a.tmps[84]? = some (.string (typeF (n / 1024 % 3))):=by rw [ha];exact putSel_on (e:=(27,84,.string (typeF (n / 1024 % 3)))) 9 rfl rfl (hon 27 (by kernel_rfl)) rfl
        have e85 : a.tmps[85]? = some (.agg #[.int .i64 1,.int .i64 1,.int .i64 2]):=by rw [ha];exact (putSel_off rfl).trans rfl
        replace ha:=zac.mk ha
        have HB:=zac.mk Q_HB
        have F60:=zac.mk (Q_F60 (hon 3 (by kernel_rfl)) (hoff 31 (by kernel_rfl)))
        have F63:=zac.mk (Q_F63 (hon 6 (by kernel_rfl)) (hoff 31 (by kernel_rfl)))
        have F67:=zac.mk (Q_F67 (hon 10 (by kernel_rfl)) (hoff 31 (by kernel_rfl)))
        refine value_ (w1:=w') (v:=.agg #[.string ((⟨#[70]⟩ : ByteArray) ++ strOfNums [48 + i]),.string (codeF x4),.string (codeF x10),.int .i64 dep,.int .i64 (dep + 60 + 15 * (n / 128 % 6)),.string (typeF (n / 1024 % 3)),.int .i64 1,.int .i64 1,.int .i64 2]) (by rfl) rfl ?_ ?_
        ·go_simp
         (try simp only [i64_w])
         try rfl
        refine hK.out _ _ ⟨g60,g63,g67,g12,m3_,m6_,m8_,m10_,m12_,m30_,(by rw [ha.out];exact putSel_upk 10 hb_ rfl rfl rfl),Q_HB,Q_F60,Q_F63,Q_F67,Q_F12,Q_G12,fun h0_=>absurd ((hoff 31 (by kernel_rfl)).symm.trans h0_) (by decide),Q_X3_,Q_X6_,Q_X8_,Q_X10_,Q_X12_,Q_X30_⟩
       refine steps_cons ?_ ?_
       ·rintro b a w' ⟨g60,g63,g67,g12,m3_,m6_,m8_,m10_,m12_,m30_,ha,Q_HB,Q_F60,Q_F63,Q_F67,Q_F12,Q_G12,Q_F12b,Q_X3_,Q_X6_,Q_X8_,Q_X10_,Q_X12_,Q_X30_⟩ hb_ hon hoff
        refine ⟨_,rfl,fun K hK=>?_⟩
        replace ha:=zac.mk ha
        have HB:=zac.mk Q_HB
        refine value_ (w1:=w'.alloc (.cells #[.string ⟨#[]⟩,.string ⟨#[]⟩,.string ⟨#[]⟩,.int .i64 0,.int .i64 0,.string ⟨#[]⟩,.int .i64 0,.int .i64 0,.int .i64 0] 36 (0,0))) (v:=.pointer (some ⟨w'.heap.size,0,none⟩)) (by rfl) rfl ?_ ?_
        ·go_simp
         try rfl
        refine hK.out _ _ ⟨g60,g63,g67,w'.heap.size,m3_,m6_,m8_,m10_,m12_,(.pointer (some ⟨w'.heap.size,0,none⟩)),(by rw [ha.out];exact putSel_upk 11 hb_ rfl rfl rfl),zae HB.out _,fun h0_ h1_=>zag (Q_F60 h0_ h1_) _,fun h0_ h1_=>zag (Q_F63 h0_ h1_) _,fun h0_ h1_=>zag (Q_F67 h0_ h1_) _,fun _ _=>heap_alloc_new _ _,fun _=>HB.out.size,fun h0_=>absurd ((hoff 31 (by kernel_rfl)).symm.trans h0_) (by decide),Q_X3_,Q_X6_,Q_X8_,Q_X10_,Q_X12_,fun _=>rfl⟩
       refine steps_cons ?_ ?_
       ·rintro b a w' ⟨g60,g63,g67,g12,m3_,m6_,m8_,m10_,m12_,m30_,ha,Q_HB,Q_F60,Q_F63,Q_F67,Q_F12,Q_G12,Q_F12b,Q_X3_,Q_X6_,Q_X8_,Q_X10_,Q_X12_,Q_X30_⟩ hb_ hon hoff
        refine ⟨_,rfl,fun K hK=>?_⟩
        have e12 : a.tmps[12]? = some (m30_):=by rw [ha];exact putSel_on (e:=(30,12,m30_)) 11 rfl rfl (hon 30 (by kernel_rfl)) rfl
        rw [Q_X30_ (hon 30 (by kernel_rfl))] at e12
        have e86 : a.tmps[86]? = some (.agg #[.string ((⟨#[70]⟩ : ByteArray) ++ strOfNums [48 + i]),.string (codeF x4),.string (codeF x10),.int .i64 dep,.int .i64 (dep + 60 + 15 * (n / 128 % 6)),.string (typeF (n / 1024 % 3)),.int .i64 1,.int .i64 1,.int .i64 2]):=by rw [ha];exact putSel_on (e:=(29,86,.agg #[.string ((⟨#[70]⟩ : ByteArray) ++ strOfNums [48 + i]),.string (codeF x4),.string (codeF x10),.int .i64 dep,.int .i64 (dep + 60 + 15 * (n / 128 % 6)),.string (typeF (n / 1024 % 3)),.int .i64 1,.int .i64 1,.int .i64 2])) 10 rfl rfl (hon 29 (by kernel_rfl)) rfl
        replace ha:=zac.mk ha
        have HB:=zac.mk Q_HB
        have F60:=zac.mk (Q_F60 (hon 3 (by kernel_rfl)) hb_)
        have F63:=zac.mk (Q_F63 (hon 6 (by kernel_rfl)) hb_)
        have F67:=zac.mk (Q_F67 (hon 10 (by kernel_rfl)) hb_)
        have F12:=zac.mk (Q_F12 (hon 30 (by kernel_rfl)) hb_)
        have G12:=zac.mk (Q_G12 (hon 30 (by kernel_rfl)))
        have hs0:=(zad F12.out 0).trans rfl
        have hs1:=(zad F12.out 1).trans rfl
        have hs2:=(zad F12.out 2).trans rfl
        have hs3:=(zad F12.out 3).trans rfl
        have hs4:=(zad F12.out 4).trans rfl
        have hs5:=(zad F12.out 5).trans rfl
        have hs6:=(zad F12.out 6).trans rfl
        have hs7:=(zad F12.out 7).trans rfl
        have hs8:=(zad F12.out 8).trans rfl
        have hf0:=zaa F12.out 0
        have hf1:=zaa F12.out 1
        have hf2:=zaa F12.out 2
        have hf3:=zaa F12.out 3
        have hf4:=zaa F12.out 4
        have hf5:=zaa F12.out 5
        have hf6:=zaa F12.out 6
        have hf7:=zaa F12.out 7
        have hf8:=zaa F12.out 8
        refine skip_ (w1:=?_) (by rfl) rfl ?_ ?_
        rotate_left
        ·go_simp
         rfl
        refine hK.out _ _ ⟨g60,g63,g67,g12,m3_,m6_,m8_,m10_,m12_,m30_,(by rw [ha.out];exact putSel_none (v:=undef) rfl),below_set9 HB.out G12.out,fun _ h1_=>absurd ((up_self b 31).symm.trans h1_) (by decide),fun _ h1_=>absurd ((up_self b 31).symm.trans h1_) (by decide),fun _ h1_=>absurd ((up_self b 31).symm.trans h1_) (by decide),fun _ h1_=>absurd ((up_self b 31).symm.trans h1_) (by decide),Q_G12,fun _=>blk_put9 F12.out,Q_X3_,Q_X6_,Q_X8_,Q_X10_,Q_X12_,Q_X30_⟩
       exact steps_nil
      ·rintro b a w' hall ⟨g60,g63,g67,g12,m3_,m6_,m8_,m10_,m12_,m30_,ha,Q_HB,Q_F60,Q_F63,Q_F67,Q_F12,Q_G12,Q_F12b,Q_X3_,Q_X6_,Q_X8_,Q_X10_,Q_X12_,Q_X30_⟩
       clear HB
       have hb3_:=hall 3 (by kernel_rfl)
       have hb4_:=hall 4 (by kernel_rfl)
       have hb5_:=hall 5 (by kernel_rfl)
       have hb6_:=hall 6 (by kernel_rfl)
       have hb8_:=hall 8 (by kernel_rfl)
       have hb9_:=hall 9 (by kernel_rfl)
       have hb10_:=hall 10 (by kernel_rfl)
       have hb12_:=hall 12 (by kernel_rfl)
       have hb13_:=hall 13 (by kernel_rfl)
       have hb27_:=hall 27 (by kernel_rfl)
       have hb29_:=hall 29 (by kernel_rfl)
       have hb30_:=hall 30 (by kernel_rfl)
       have hb31_:=hall 31 (by kernel_rfl)
       subst ha
       obtain rfl:=Q_X3_ hb3_
       obtain rfl:=Q_X6_ hb6_
       obtain rfl:=Q_X8_ hb8_
       obtain rfl:=Q_X10_ hb10_
       obtain rfl:=Q_X12_ hb12_
       obtain rfl:=Q_X30_ hb30_
       simp only [putSel,hb3_,hb4_,hb5_,hb6_,hb8_,hb9_,hb10_,hb12_,hb13_,hb27_,hb29_,hb30_,hb31_,if_true,Act.put,List.setIfInBounds_toArray,List.set_cons_zero,List.set_cons_succ]
       have HB:=zac.mk Q_HB
       clear Q_HB
       clear Q_F60
       clear Q_F63
       clear Q_F67
       clear Q_F12
       have G12:=zac.mk (Q_G12 hb30_)
       clear Q_G12
       have F12b:=zac.mk (Q_F12b hb31_)
       clear Q_F12b
       clear hall hb3_ hb4_ hb5_ hb6_ hb8_ hb9_ hb10_ hb12_ hb13_ hb27_ hb29_ hb30_ hb31_
       have HBo:=zac.mk (HBP7.out.below HB.out)
       have HG2:=zac.mk (show w.heap.size + 8 ≤ g12 ∧ ∀ k,v.ownBlock = some k → k ≠ g12 from ⟨Nat.le_trans (zbq HBP7.out.y) G12.out,fun k hk=>by have:=Kd.R_lt HBP7.out.f k hk;have:=G12.out;omega⟩)
       try go_wp2
       go_meet
       case rel=>exact ⟨g12,rfl,HG2,F12b,HBo⟩
     case rest =>
      clear HB2 hgap m1 m2 m3 m4 m5 m6 m7 m8 m9 P4 P10 PN
      obtain ⟨g12,rfl,HGe,HF12,HB2⟩:=hcut
      have ht0:=(zad HB2.out.t 0).trans rfl
      have ht1:=(zad HB2.out.t 1).trans rfl
      have ht2 : wc.cell? ⟨w.heap.size + 5,2,none⟩ = some v:=(zad HB2.out.t 2).trans rfl
      have hq0:=(zad HF12.out 0).trans rfl
      have hq1:=(zad HF12.out 1).trans rfl
      have hq2:=(zad HF12.out 2).trans rfl
      have hq3:=(zad HF12.out 3).trans rfl
      have hq4:=(zad HF12.out 4).trans rfl
      have hq5:=(zad HF12.out 5).trans rfl
      have hq6:=(zad HF12.out 6).trans rfl
      have hq7:=(zad HF12.out 7).trans rfl
      have hq8:=(zad HF12.out 8).trans rfl
      obtain ⟨Af,cf,rfl⟩:=Kd.R_slice HB2.out.f
      have hlf : fs.length ≤ 6:=by have:=HG.out.2.1;omega
      go_upto_if 97 with (at_builtin;refine Kd.R_append (w0:=wc) k36 w.heap.size rfl (.tmp 88) (.tmp 90) 24 36 (.agg #[(.string ⟨#[]⟩),(.string ⟨#[]⟩),(.string ⟨#[]⟩),(.int .i64 0),(.int .i64 0),(.string ⟨#[]⟩),(.int .i64 0),(.int .i64 0),(.int .i64 0)]) 104 rfl Try.underlying24 info36 rfl (by decide) (by omega) (.slice Af fs.length cf) fs ⟨(⟨#[70]⟩ : ByteArray) ++ strOfNums [48 + i],codeF x4,codeF x10,dep,dep + 60 + 15 * (n / 128 % 6),typeF (n / 1024 % 3),⟨1,1,2⟩⟩ [.string ((⟨#[70]⟩ : ByteArray) ++ strOfNums [48 + i]),.string (codeF x4),.string (codeF x10),.int .i64 dep,.int .i64 (dep + 60 + 15 * (n / 128 % 6)),.string (typeF (n / 1024 % 3)),.int .i64 1,.int .i64 1,.int .i64 2] (fun k=>w.heap.size + 8 ≤ k) (fun _=>False) rfl rfl (k36_mkM _ _ _ ⟨(⟨#[70]⟩ : ByteArray) ++ strOfNums [48 + i],codeF x4,codeF x10,dep,dep + 60 + 15 * (n / 128 % 6),typeF (n / 1024 % 3),⟨1,1,2⟩⟩) (fun _ hk=>hk.elim) (fun k hk=>Nat.le_trans (zbq HB2.out.y) hk) HB2.out.f (Below.refl _ _) (Below.size HB2.out.be) (by omega) ?_;intro v1 w9 ho hb9 hg9 hat9;obtain ⟨A9,c9,rfl⟩:=Kd.R_slice ho;have HP9:=zac.mk (BPt.app HB2.out HGe.out hb9 hg9 ho HF12.out);have ht2':=HP9.out.2.1;have hf2':=HP9.out.2.2.1;have hq4':=HP9.out.2.2.2.1;have hq5':=HP9.out.2.2.2.2;have hne1 : g12 ≠ w.heap.size + 5:=(by have:=HGe.out.1;omega);have hne2 : w.heap.size + 5 ≠ g12:=(by have:=HGe.out.1;omega);clear hg9 ho hb9 hat9)
      have hb3:=HP9.out.1
      simp only [List.length_append,List.length_cons,List.length_nil,Nat.zero_add] at hb3
      have HB3:=zac.mk hb3
      clear hb3
      clear HP9
      go_cut [5] (fun v5 wc=>v5 = .int .i64 (bClock n dep) ∧ zac (BPt w wc (.slice A9 (fs.length + 1) c9) (fs ++ [(⟨(⟨#[70]⟩ : ByteArray) ++ strOfNums [48 + i],codeF x4,codeF x10,dep,dep + 60 + 15 * (n / 128 % 6),typeF (n / 1024 % 3),⟨1,1,2⟩⟩ : S36)])))
      case first =>
       by_cases h6 : n % 5 = 4
       ·have e6:=zac.mk (show bClock n dep = dep + 20 from by unfold bClock;rw [if_pos h6])
        go_wp2
        go_meet
        case rel=>exact ⟨by rw [e6.out],HB3⟩
       ·have e6:=zac.mk (show bClock n dep = dep + 60 + 15 * (n / 128 % 6) from by unfold bClock bArr;rw [if_neg h6])
        go_wp2
        go_meet
        case rel=>exact ⟨by rw [e6.out],HB3⟩
      case rest =>
       clear HB3 ht2' hf2' hq4' HF12 hq0 hq1 hq2 hq3 hq4 hq5 hq6 hq7 hq8 ht0 ht1 ht2
       obtain ⟨rfl,HB3⟩:=hcut
       go_wp2
       go_roundg gk
       case measure=>omega
       case rel =>
        obtain ⟨hg1,hg2,hg3⟩:=HG.out
        have hck : 0 ≤ bClock n dep ∧ bClock n dep ≤ dep + 135:=by unfold bClock bArr;split <;> omega
        refine ⟨i + 1,x10,bClock n dep,_,_,rfl,rfl,rfl,⟨by omega,by omega,by omega,by omega,by omega,by omega,by simp;omega,?_⟩,HB3⟩
        rw [← hg3,HBAT.out,HNe.out,HBb.out,HDq.out,HBt.out]
        simp [bFlight,numF,bArr,HBt.out]
def portsB : List S39:=[⟨⟨#[65,65,65]⟩,⟨#[117,116,99]⟩⟩,⟨⟨#[66,66,66]⟩,⟨#[111,115,108,111]⟩⟩,⟨⟨#[67,67,67]⟩,⟨#[121,111,114,107]⟩⟩]
def atOkB (l : List Int) : Bool:=(List.range 9).all fun i=>decide (pairingbase_At.f l (i : Int) = some (atN l (i : Int)) ∧ 0 ≤ atN l (i : Int) ∧ atN l (i : Int) ≤ 70000)
theorem atOk_of {l : List Int} (h : atOkB l = true) : AtOk l:=by
 intro i h0 h1
 have h2:=List.all_eq_true.1 h i.toNat (List.mem_range.2 (by omega))
 have h3:=of_decide_eq_true h2
 rwa [show ((i.toNat : Nat) : Int) = i by omega] at h3
end Go.Proofs.Ytepnddmalheoiaa.Q
namespace Go.Proofs.Ytepnddmalheoiaa.Q
open Go.Proofs.Ytepnddmalheoiaa.H Go.Proofs.Ytepnddmalheoiaa.TtA Go.Proofs.Ytepnddmalheoiaa.TtB Go.Proofs.Ytepnddmalheoiaa.TtC
open Go.RowKit Go.Proofs.YtepnddmalheoiaaW.PrintWords Go.Proofs.YtepnddmalheoiaaW.PrintLast Go.Proofs.YtepnddmalheoiaaW.PrintMore
theorem num_code (i : Int) (h0 : 0 ≤ i) (h1 : i ≤ 6) : codeS (numF i) = true:=by
 obtain rfl|rfl|rfl|rfl|rfl|rfl|rfl : i = 0 ∨ i = 1 ∨ i = 2 ∨ i = 3 ∨ i = 4 ∨ i = 5 ∨ i = 6:=by omega
 all_goals decide +kernel
theorem typ_name (j : Int) (h0 : 0 ≤ j) (h1 : j ≤ 2) : nameS (typeF j) = true:=by
 obtain rfl|rfl|rfl : j = 0 ∨ j = 1 ∨ j = 2:=by omega
 all_goals decide +kernel
theorem code_port (j : Int) (h0 : 0 ≤ j) (h1 : j ≤ 2) : portI portsB (codeF j) = j:=by
 obtain rfl|rfl|rfl : j = 0 ∨ j = 1 ∨ j = 2:=by omega
 all_goals decide +kernel
theorem code_ne (a t : Int) (h0 : 0 ≤ a) (h1 : a ≤ 2) (h2 : 0 ≤ t) (h3 : t ≤ 2) (h : a ≠ t) : ¬ (codeF a).toList = (codeF t).toList:=by
 obtain rfl|rfl|rfl : a = 0 ∨ a = 1 ∨ a = 2:=by omega
 all_goals
  obtain rfl|rfl|rfl : t = 0 ∨ t = 1 ∨ t = 2:=by omega
  all_goals first|exact absurd rfl h|decide +kernel
def GoodF (i : Int) (f : S36) : Prop:=flightS portsB f = 0 ∧ f.f0 = numF i ∧ 1440000 ≤ f.f3 ∧ f.f3 ≤ 1450000 ∧ f.f3 < f.f4 ∧ f.f4 ≤ 1460000 ∧ ∃ a t j : Int,0 ≤ a ∧ a ≤ 2 ∧ 0 ≤ t ∧ t ≤ 2 ∧ a ≠ t ∧ 0 ≤ j ∧ j ≤ 2 ∧ f.f1 = codeF a ∧ f.f2 = codeF t ∧ f.f5 = typeF j ∧ f.f6 = ⟨1,1,2⟩
def Chain : Int → Int → List S36 → Prop
 | _,_,[]=>True
 | i,lo,f :: t=>GoodF i f ∧ lo ≤ f.f3 ∧ Chain (i + 1) (f.f3 + 1) t
theorem chain_lower (t : List S36) (i lo lo' : Int) (h : lo' ≤ lo) (hc : Chain i lo t) : Chain i lo' t:=by
 cases t with
 | nil=>trivial
 | cons f t=>exact ⟨hc.1,Int.le_trans h hc.2.1,hc.2.2⟩
theorem chain_bFs (l : List Int) (hat : AtOk l) (g : Nat) : ∀ (i a clock : Int),0 ≤ i → i + g ≤ 7 → 0 ≤ a → a ≤ 2 → 1440000 ≤ clock → clock ≤ 1441425 + 1000 * i → Chain i clock (bFs l g i a clock):=by
 induction g with
 | zero=>intro i a clock _ _ _ _ _ _;trivial
 | succ g ih =>
  intro i a clock h0 h1 h2 h3 h4 h5
  obtain ⟨_,hn0,hn1⟩:=hat (2 + i) (by omega) (by omega)
  unfold bFs
  generalize atN l (2 + i) = n at *
  have ha : 0 ≤ bAt n a ∧ bAt n a ≤ 2:=by unfold bAt;split <;> omega
  generalize bAt n a = x at *
  have ht : 0 ≤ bTo n x ∧ bTo n x ≤ 2 ∧ x ≠ bTo n x:=by unfold bTo;repeat' split <;> omega
  have hg:=gap_range (n / 16 % 8) (by omega) (by omega)
  have hg2 : 30 ≤ rd gapL (n / 16 % 8):=by
   have hj0 : 0 ≤ n / 16 % 8:=by omega
   have hj1 : n / 16 % 8 < 8:=by omega
   generalize n / 16 % 8 = j at *
   obtain rfl|rfl|rfl|rfl|rfl|rfl|rfl|rfl : j = 0 ∨ j = 1 ∨ j = 2 ∨ j = 3 ∨ j = 4 ∨ j = 5 ∨ j = 6 ∨ j = 7:=by omega
   all_goals decide
  have hd : bDep n clock = clock + rd gapL (n / 16 % 8):=rfl
  have hdep : clock ≤ bDep n clock ∧ bDep n clock ≤ clock + 780:=by omega
  generalize bDep n clock = dep at *
  have harr : dep + 60 ≤ bArr n dep ∧ bArr n dep ≤ dep + 135:=by unfold bArr;omega
  have hcl : dep + 1 ≤ bClock n dep ∧ bClock n dep ≤ dep + 135:=by unfold bClock;split <;> omega
  refine ⟨⟨?_,rfl,by show 1440000 ≤ dep;omega,by show dep ≤ 1450000;omega,by show dep < bArr n dep;omega,by show bArr n dep ≤ 1460000;omega,x,bTo n x,n / 1024 % 3,ha.1,ha.2,ht.1,ht.2.1,ht.2.2,by omega,by omega,rfl,rfl,rfl,rfl⟩,by show clock ≤ dep;omega,chain_lower _ _ _ _ hcl.1 (ih (i + 1) (bTo n x) (bClock n dep) (by omega) (by omega) ht.1 ht.2.1 (by omega) (by omega))⟩
  unfold flightS bFlight
  simp only
  rw [num_code i h0 (by omega),typ_name _ (by omega) (by omega),code_port x ha.1 ha.2,code_port _ ht.1 ht.2.1]
  have hw : wrap64 (bArr n dep - dep) = bArr n dep - dep:=by unfold wrap64;omega
  rw [if_pos (show (true && true) = true from rfl),if_neg (by omega),if_neg (code_ne _ _ ha.1 ha.2 ht.1 ht.2.1 ht.2.2),if_neg (by rw [hw];rintro (h|h|h|h|h) <;> first|omega|(have h2 : true = false:=h;cases h2))]
structure GoodL (fs : List S36) : Prop where
 len : fs.length ≤ 7
 at_ : ∀ i : Nat,i < fs.length → GoodF (i : Int) (zaj fs (i : Int))
 up : ∀ i : Nat,i + 1 < fs.length → (zaj fs (i : Int)).f3 < (zaj fs ((i + 1 : Nat) : Int)).f3
theorem rd_nat (fs : List S36) (i : Nat) : zaj fs (i : Int) = fs.getD i z36:=rfl
theorem chain_get (t : List S36) : ∀ (i lo : Int),Chain i lo t → (∀ j : Nat,j < t.length → GoodF (i + j) (t.getD j z36) ∧ lo ≤ (t.getD j z36).f3) ∧ ∀ j : Nat,j + 1 < t.length → (t.getD j z36).f3 < (t.getD (j + 1) z36).f3:=by
 induction t with
 | nil=>intro i lo _;exact ⟨fun j h=>absurd h (by simp),fun j h=>absurd h (by simp)⟩
 | cons f t ih =>
  rintro i lo ⟨h1,h2,h3⟩
  obtain ⟨a,b⟩:=ih _ _ h3
  refine ⟨fun j hj=>?_,fun j hj=>?_⟩
  ·cases j with
   | zero=>exact ⟨by simpa using h1,h2⟩
   | succ j =>
    obtain ⟨x,y⟩:=a j (by simpa using hj)
    have e : i + ((j + 1 : Nat) : Int) = i + 1 + (j : Int):=by omega
    rw [e]
    have e2 : ((f :: t).getD (j + 1) z36) = t.getD j z36:=rfl
    exact ⟨x,by rw [e2];omega⟩
  ·cases j with
   | zero =>
    have:=(a 0 (by simpa using hj)).2
    show f.f3 < (t.getD 0 z36).f3
    omega
   | succ j=>exact b j (by simpa using hj)
theorem bFs_length (l : List Int) (g : Nat) : ∀ i a clock,(bFs l g i a clock).length = g:=by
 induction g with
 | zero=>intro _ _ _;rfl
 | succ g ih=>intro i a clock;simp [bFs,ih]
theorem bAll_good (l : List Int) (hat : AtOk l) : GoodL (bAll l) ∧ 2 ≤ (bAll l).length:=by
 obtain ⟨_,h0,h1⟩:=hat 0 (by omega) (by omega)
 obtain ⟨_,g0,g1⟩:=hat 1 (by omega) (by omega)
 have hm : 2 ≤ bM l ∧ bM l ≤ 7:=by unfold bM;omega
 have hc:=chain_bFs l hat (bM l).toNat 0 0 (1440000 + 15 * (atN l 0 % 96)) (by omega) (by omega) (by omega) (by omega) (by omega) (by omega)
 have hl : (bAll l).length = (bM l).toNat:=bFs_length _ _ _ _ _
 obtain ⟨a,b⟩:=chain_get _ _ _ hc
 refine ⟨⟨by omega,fun i hi=>?_,fun i hi=>b i hi⟩,by omega⟩
 have:=(a i hi).1
 rwa [Int.zero_add] at this
theorem and_low (x y : Int) (m : Nat) (h0 : BitVec.ofInt 64 y = BitVec.ofNat 64 m) (hm : m < 9223372036854775808) : 0 ≤ Go.bits .and .i64 x y ∧ Go.bits .and .i64 x y ≤ m:=by
 have h1 : (BitVec.ofInt 64 x &&& BitVec.ofInt 64 y).toNat ≤ m:=by
  rw [BitVec.toNat_and,h0]
  exact Nat.le_trans Nat.and_le_right (by simp;omega)
 have h2 : Go.bits .and .i64 x y = IntKind.i64.wrap ((BitVec.ofInt 64 x &&& BitVec.ofInt 64 y).toNat : Int):=rfl
 rw [h2,wraps_i64 _ (by omega) (by omega)]
 omega
theorem low16 (x : Int) : 0 ≤ Go.bits .and .i64 x 65535 ∧ Go.bits .and .i64 x 65535 ≤ 65535:=and_low x 65535 65535 (by decide) (by decide)
theorem at_ok (l : List Int) (hl : l.length * 8 ≤ 140737488351232) : atOkB l = true:=by
 unfold atOkB
 refine List.all_eq_true.2 fun i hi=>?_
 have hi9 : i < 9:=List.mem_range.1 hi
 refine decide_eq_true ?_
 have key : ∃ v : Int,pairingbase_At.f l (i : Int) = some v ∧ 0 ≤ v ∧ v ≤ 70000:=by
  unfold pairingbase_At.f
  by_cases h0 : (l.length : Int) = 0
  ·rw [if_pos h0]
   obtain ⟨a,b⟩:=low16 (i : Int)
   exact ⟨_,rfl,a,by omega⟩
  ·rw [if_neg h0]
   have hm : Int.tmod (i : Int) (l.length : Int) = (i : Int) % (l.length : Int):=Int.tmod_eq_emod_of_nonneg (by omega)
   have hd : Int.tdiv (i : Int) (l.length : Int) = (i : Int) / (l.length : Int):=Int.tdiv_eq_ediv_of_nonneg (by omega)
   have hp : 0 < (l.length : Int):=by omega
   have e0:=Int.emod_nonneg (i : Int) h0
   have e1:=Int.emod_lt_of_pos (i : Int) hp
   have d0 : 0 ≤ (i : Int) / (l.length : Int):=Int.ediv_nonneg (by omega) (by omega)
   have d1 : (i : Int) / (l.length : Int) ≤ (i : Int):=Int.ediv_le_self _ (by omega)
   rw [hm,hd,if_pos e0,if_pos e1]
   obtain ⟨a,b⟩:=low16 (rd l ((i : Int) % (l.length : Int)))
   generalize Go.bits .and .i64 (rd l ((i : Int) % (l.length : Int))) 65535 = x at *
   generalize (i : Int) / (l.length : Int) = y at *
   refine ⟨_,rfl,?_,?_⟩ <;> (have w1 : wrap64 y = y:=by unfold wrap64;omega) <;> rw [w1] <;> unfold wrap64 <;> omega
 obtain ⟨v,h1,h2,h3⟩:=key
 have hv : atN l (i : Int) = v:=by unfold atN;rw [h1];rfl
 rw [hv]
 exact ⟨h1,h2,h3⟩
end Go.Proofs.Ytepnddmalheoiaa.Q
namespace Go.Proofs.Ytepnddmalheoiaa.H
open Go.RowKit Go.Proofs.YtepnddmalheoiaaW.PrintWords Go.Proofs.YtepnddmalheoiaaW.PrintLast Go.Proofs.YtepnddmalheoiaaW.PrintMore
def IsW (w0 W : World) (g : Nat) (bs : List Int) : Prop:=∃ v,W.heap[g]? = some (.cells #[v] 79 (0,0)) ∧ w0.heap.size ≤ g ∧ Kd.R (Kd.int .u8) 5 W w0.heap.size (fun k=>k ≠ g) v bs
theorem IsW.below {w0 W W1 : World} {g : Nat} {bs : List Int} (h : IsW w0 W g bs) (hb : Below W.heap.size W W1) : IsW w0 W1 g bs:=by
 obtain ⟨v,h1,h2,h3⟩:=h
 exact ⟨v,zcj h1 (grown_of_below hb none) (by simp),h2,Kd.R_below h3 hb⟩
def KeepT (w w' : World) : Prop:=∀ (i : Nat) (cs : Array Value) (t : TypeId) (fr : Nat × Nat),w.heap[i]? = some (.cells cs t fr) → t ≠ 79 → t ≠ 5 → w'.heap[i]? = some (.cells cs t fr)
theorem KeepT.refl (w : World) : KeepT w w:=fun _ _ _ _ h _ _=>h
theorem KeepT.trans {w w1 w2 : World} (h : KeepT w w1) (h' : KeepT w1 w2) : KeepT w w2:=fun i cs t fr hi h1 h2=>h' i cs t fr (h i cs t fr hi h1 h2) h1 h2
theorem KeepT.of_below {w w1 : World} (h : Below w.heap.size w w1) : KeepT w w1:=fun i cs t fr hi _ _=>(h.block i (zbq hi)).trans hi
theorem KeepT.of_grown {w w1 : World} {v : Value} {bs : List Int} {base : Nat} {ok : Nat → Prop} (hv : Kd.R (Kd.int .u8) 5 w base ok v bs) (h : w.grownBy w1 v.ownBlock) : KeepT w w1:=by
 intro i cs t fr hi _ h2
 refine (h.block i (zbq hi) ?_).trans hi
 intro he
 obtain ⟨_,_,_,q,hq,cells,hc⟩:=(Kd.R_bound hv).1 i he.symm
 simp only [List.mem_cons,Kd.int,Kd.scalar,List.not_mem_nil,or_false] at hq
 rw [hi] at hc
 injection hc with hc
 injection hc with _ ht
 exact h2 (ht.trans hq)
theorem KeepT.set {w : World} {g j : Nat} {cs : Array Value} {u : Value} (hb : w.heap[g]? = some (.cells cs 79 (0,0))) : KeepT w (w.setCell ⟨g,j,none⟩ u):=by
 intro i cs' t fr hi h1 _
 have hne : i ≠ g:=by
  rintro rfl
  rw [hb] at hi
  injection hi with hi
  injection hi with _ ht
  exact h1 ht.symm
 exact (Below.heap_setCell w ⟨g,j,none⟩ u i hne).trans hi
set_option maxHeartbeats 8000000 in
set_option maxRecDepth 100000 in
theorem writer_uint_calls (k g : Nat) (bs : List Int) (n : Int) (xs : List Int) (e : Int) (w0 w : World) (hI : IsW w0 w g bs) (hB : Below w0.heap.size w0 w) (hE : K.wire_EncodeUint.f k n = some (xs,e)) (hl : bs.length + xs.length ≤ 140737488355328) :
  Calls Try.prog 40 #[.pointer (some ⟨g,0,none⟩),.int .i64 n] w fun r w'=>r = .returned (.tuple #[]) ∧ IsW w0 w' g (bs ++ xs) ∧ Below w0.heap.size w0 w' ∧ KeepT w w':=by
 have HI:=zac.mk hI
 have HB:=zac.mk hB
 clear hI hB
 go_enter Try.func40,Try.ntmps40
 go_wp2_with fail
 refine (K.wire_EncodeUint.calls k n xs e _ hE).mono ?_
 rintro e_ w1 ⟨v0,rfl,hR,hb1⟩
 have HR:=zac.mk hR
 have HB1:=zac.mk (zao HB.out hb1)
 obtain ⟨v,hb,hg,hv⟩:=HI.out.below hb1
 have HK1:=zac.mk (KeepT.of_below hb1)
 clear hR hb1 HI
 have hc0 : w1.cell? ⟨g,0,none⟩ = some v:=(zad hb 0).trans rfl
 have hf0:=zaa hb 0
 have HBk:=zac.mk hb
 have HV:=zac.mk hv
 clear hb hv
 obtain ⟨A,c,hv0,hrd⟩:=own_reads (k:=.u8) (xs:=xs) (show w1.ownsRow w.heap.size 5 1 v0 xs.length (nums .u8 xs) from Kd.own_of_R HR.out)
 subst hv0
 have HRd:=zac.mk hrd
 have hs1 : w0.heap.size ≤ w1.heap.size:=HB1.out.size
 have hgv : some g ≠ v.ownBlock:=fun h=>HV.out.1 g h.symm rfl
 clear hrd
 go_wp2_with (at_builtin;refine print_append_row (w0:=w0) w0.heap.size rfl (.tmp 15) _ 46 5 .u8 1 rfl Try.underlying46 infoB (by decide) v bs xs A xs.length c rfl rfl (Kd.own_of_R HV.out) HRd.out HB1.out hs1 (by omega) ?_;intro v1 w2 ho hb2 hg2 hat;obtain ⟨A1,c1,hv1,_⟩:=own_reads ho;subst hv1;have hbk2:=zcj HBk.out hg2 hgv;have hc2 : w2.cell? ⟨g,0,none⟩ = some v:=(zad hbk2 0).trans rfl;have hf2:=zaa hbk2 0;have HBk2:=zac.mk hbk2;have HO2:=zac.mk ho;have HB2:=zac.mk hb2;have HAt:=zac.mk hat;have HK2:=zac.mk (KeepT.of_grown HV.out hg2);clear ho hb2 hg2 hat hbk2)
 have hok : ∀ q,(Value.slice A1 (bs ++ xs).length c1).ownBlock = some q → q ≠ g:=by
  intro q hq
  rcases HAt.out with h|⟨b,h,hb⟩
  ·exact HV.out.1 q (h ▸ hq)
  ·have : b = q:=Option.some.inj (h.symm.trans hq)
   have:=zbq HBk.out
   omega
 have hR2 : Kd.R (Kd.int .u8) 5 w2 w0.heap.size (fun q=>q ≠ g) (.slice A1 (bs ++ xs).length c1) (bs ++ xs):=Kd.R_of_own (h1:=fun _=>rfl) HO2.out hok
 rw [List.length_append] at hR2
 refine bodyPost_end (v:=.tuple #[]) (by simp [results,Try.results40,go_sem]) rfl ⟨rfl,⟨_,zaw HBk2.out 0 _ rfl,hg,Kd.R_far (p:=⟨g,0,none⟩) hR2 (fun q hq=>hq) _⟩,zai HB2.out hg,(HK1.out.trans HK2.out).trans (KeepT.set HBk2.out)⟩
set_option maxHeartbeats 8000000 in
set_option maxRecDepth 100000 in
theorem writer_int_calls (k g : Nat) (bs : List Int) (n : Int) (xs : List Int) (e : Int) (w0 w : World) (hI : IsW w0 w g bs) (hB : Below w0.heap.size w0 w) (hE : K.wire_EncodeInt.f k n = some (xs,e)) (hl : bs.length + xs.length ≤ 140737488355328) :
  Calls Try.prog 42 #[.pointer (some ⟨g,0,none⟩),.int .i64 n] w fun r w'=>r = .returned (.tuple #[]) ∧ IsW w0 w' g (bs ++ xs) ∧ Below w0.heap.size w0 w' ∧ KeepT w w':=by
 have HI:=zac.mk hI
 have HB:=zac.mk hB
 clear hI hB
 go_enter Try.func42,Try.ntmps42
 go_wp2_with fail
 refine (K.wire_EncodeInt.calls k n xs e _ hE).mono ?_
 rintro e_ w1 ⟨v0,rfl,hR,hb1⟩
 have HR:=zac.mk hR
 have HB1:=zac.mk (zao HB.out hb1)
 obtain ⟨v,hb,hg,hv⟩:=HI.out.below hb1
 have HK1:=zac.mk (KeepT.of_below hb1)
 clear hR hb1 HI
 have hc0 : w1.cell? ⟨g,0,none⟩ = some v:=(zad hb 0).trans rfl
 have hf0:=zaa hb 0
 have HBk:=zac.mk hb
 have HV:=zac.mk hv
 clear hb hv
 obtain ⟨A,c,hv0,hrd⟩:=own_reads (k:=.u8) (xs:=xs) (show w1.ownsRow w.heap.size 5 1 v0 xs.length (nums .u8 xs) from Kd.own_of_R HR.out)
 subst hv0
 have HRd:=zac.mk hrd
 have hs1 : w0.heap.size ≤ w1.heap.size:=HB1.out.size
 have hgv : some g ≠ v.ownBlock:=fun h=>HV.out.1 g h.symm rfl
 clear hrd
 go_wp2_with (at_builtin;refine print_append_row (w0:=w0) w0.heap.size rfl (.tmp 15) _ 46 5 .u8 1 rfl Try.underlying46 infoB (by decide) v bs xs A xs.length c rfl rfl (Kd.own_of_R HV.out) HRd.out HB1.out hs1 (by omega) ?_;intro v1 w2 ho hb2 hg2 hat;obtain ⟨A1,c1,hv1,_⟩:=own_reads ho;subst hv1;have hbk2:=zcj HBk.out hg2 hgv;have hc2 : w2.cell? ⟨g,0,none⟩ = some v:=(zad hbk2 0).trans rfl;have hf2:=zaa hbk2 0;have HBk2:=zac.mk hbk2;have HO2:=zac.mk ho;have HB2:=zac.mk hb2;have HAt:=zac.mk hat;have HK2:=zac.mk (KeepT.of_grown HV.out hg2);clear ho hb2 hg2 hat hbk2)
 have hok : ∀ q,(Value.slice A1 (bs ++ xs).length c1).ownBlock = some q → q ≠ g:=by
  intro q hq
  rcases HAt.out with h|⟨b,h,hb⟩
  ·exact HV.out.1 q (h ▸ hq)
  ·have : b = q:=Option.some.inj (h.symm.trans hq)
   have:=zbq HBk.out
   omega
 have hR2 : Kd.R (Kd.int .u8) 5 w2 w0.heap.size (fun q=>q ≠ g) (.slice A1 (bs ++ xs).length c1) (bs ++ xs):=Kd.R_of_own (h1:=fun _=>rfl) HO2.out hok
 rw [List.length_append] at hR2
 refine bodyPost_end (v:=.tuple #[]) (by simp [results,Try.results42,go_sem]) rfl ⟨rfl,⟨_,zaw HBk2.out 0 _ rfl,hg,Kd.R_far (p:=⟨g,0,none⟩) hR2 (fun q hq=>hq) _⟩,zai HB2.out hg,(HK1.out.trans HK2.out).trans (KeepT.set HBk2.out)⟩
def textsF (k : Nat) : List ByteArray → Option (List Int)
 | []=>some []
 | t :: ts=>(K.wire_EncodeText.f k t).bind fun r=>(textsF k ts).bind fun q=>some (r.1 ++ q)
set_option maxHeartbeats 8000000 in
set_option maxRecDepth 100000 in
theorem writer_text_calls (k g a c : Nat) (bs : List Int) (ts : List ByteArray) (out : List Int) (w0 w : World) (hI : IsW w0 w g bs) (hB : Below w0.heap.size w0 w) (ha : w.heap[a]? = some (.cells (ts.map Value.string).toArray 9 (0,0))) (hc : ts.length ≤ c) (hE : textsF k ts = some out) (hl : bs.length + out.length ≤ 140737488355328) (hn : ts.length < 4611686018427387904) :
  Calls Try.prog 41 #[.pointer (some ⟨g,0,none⟩),.slice (some ⟨a,0,none⟩) ts.length c] w fun r w'=>r = .returned (.tuple #[]) ∧ IsW w0 w' g (bs ++ out) ∧ Below w0.heap.size w0 w' ∧ KeepT w w':=by
 have HI:=zac.mk hI
 have HB:=zac.mk hB
 have HA:=zac.mk ha
 have HE:=zac.mk hE
 clear hI hB ha hE
 go_enter Try.func41,Try.ntmps41
 go_wp2
 go_loopg [10] ts.length (fun gk v10 wx=>∃ (x : Int) (bs1 rest : List Int),v10 = .int .i64 x ∧ 0 ≤ x ∧ x + gk = ts.length ∧ zac (textsF k (ts.drop x.toNat) = some rest ∧ bs1 ++ rest = bs ++ out) ∧ zac (IsW w0 wx g bs1) ∧ zac (Below w0.heap.size w0 wx) ∧ zac (KeepT w wx))
 case atStart=>exact ⟨0,bs,out,rfl,by omega,by omega,⟨by simpa using HE.out,rfl⟩,HI,HB,⟨KeepT.refl w⟩⟩
 case round =>
  obtain ⟨x,bs1,rest,rfl,h0,hj,HT,HI1,HB1,HK1⟩:=hrel
  cases gk with
  | zero =>
   have c1 : decide (x < (ts.length : Int)) = false:=decide_eq_false (by omega)
   obtain ⟨h1,h2⟩:=HT.out
   rw [List.drop_eq_nil_of_le (by omega)] at h1
   obtain rfl:=Option.some.inj h1
   rw [List.append_nil] at h2
   subst h2
   go_wp2
   exact bodyPost_end (v:=.tuple #[]) (by simp [results,Try.results41,go_sem]) rfl ⟨rfl,HI1.out,HB1.out,HK1.out⟩
  | succ gk =>
   have c1 : decide (x < (ts.length : Int)) = true:=decide_eq_true (by omega)
   have p4 : (0 ≤ x) = True:=eq_true (by omega)
   have q4 : (x < (ts.length : Int)) = True:=eq_true (by omega)
   obtain ⟨h1,h2⟩:=HT.out
   rw [List.drop_eq_getElem_cons (show x.toNat < ts.length by omega)] at h1
   have hget : ts[x.toNat]? = some ts[x.toNat]:=List.getElem?_eq_getElem (by omega)
   generalize ts[x.toNat] = t at *
   obtain ⟨⟨xs,e⟩,hE1,h1⟩:=Option.bind_eq_some_iff.1 h1
   obtain ⟨q,hq,h1⟩:=Option.bind_eq_some_iff.1 h1
   obtain rfl:=Option.some.inj h1
   have ha1:=HK1.out a _ _ _ HA.out (by decide) (by decide)
   have hcell : wr.cell? ⟨a,x.toNat,none⟩ = some (.string t):=by rw [zad ha1];simp [hget]
   have hfa:=zaa ha1 x.toNat
   have HE1:=zac.mk hE1
   have HQ:=zac.mk hq
   have H2:=zac.mk h2
   clear hE1 hq h2 HT ha1
   go_wp2_with fail
   refine (K.wire_EncodeText.calls k t xs e _ HE1.out).mono ?_
   rintro e_ w1 ⟨v0,rfl,hR,hb1⟩
   have HR:=zac.mk hR
   have HB2:=zac.mk (zao HB1.out hb1)
   obtain ⟨v,hb,hg,hv⟩:=HI1.out.below hb1
   have HK2:=zac.mk (KeepT.of_below hb1)
   clear hR hb1 HI1
   have hc0 : w1.cell? ⟨g,0,none⟩ = some v:=(zad hb 0).trans rfl
   have hf0:=zaa hb 0
   have HBk:=zac.mk hb
   have HV:=zac.mk hv
   clear hb hv
   obtain ⟨A,c0,hv0,hrd⟩:=own_reads (k:=.u8) (xs:=xs) (show w1.ownsRow wr.heap.size 5 1 v0 xs.length (nums .u8 xs) from Kd.own_of_R HR.out)
   subst hv0
   have HRd:=zac.mk hrd
   have hs1 : w0.heap.size ≤ w1.heap.size:=HB2.out.size
   have hgv : some g ≠ v.ownBlock:=fun h=>HV.out.1 g h.symm rfl
   have hlen:=congrArg List.length H2.out
   simp only [List.length_append] at hlen
   clear hrd
   go_wp2_with (at_builtin;refine print_append_row (w0:=w0) w0.heap.size rfl (.tmp 23) _ 46 5 .u8 1 rfl Try.underlying46 infoB (by decide) v bs1 xs A xs.length c0 rfl rfl (Kd.own_of_R HV.out) HRd.out HB2.out hs1 (by omega) ?_;intro v1 w2 ho hb2 hg2 hat;obtain ⟨A1,c1_,hv1,_⟩:=own_reads ho;subst hv1;have hbk2:=zcj HBk.out hg2 hgv;have hc2 : w2.cell? ⟨g,0,none⟩ = some v:=(zad hbk2 0).trans rfl;have hf2:=zaa hbk2 0;have HBk2:=zac.mk hbk2;have HO2:=zac.mk ho;have HB3:=zac.mk hb2;have HAt:=zac.mk hat;have HK3:=zac.mk (KeepT.of_grown HV.out hg2);clear ho hb2 hg2 hat hbk2)
   have hok : ∀ q,(Value.slice A1 (bs1 ++ xs).length c1_).ownBlock = some q → q ≠ g:=by
    intro q hq
    rcases HAt.out with h|⟨b,h,hb⟩
    ·exact HV.out.1 q (h ▸ hq)
    ·have : b = q:=Option.some.inj (h.symm.trans hq)
     have:=zbq HBk.out
     omega
   have hR2 : Kd.R (Kd.int .u8) 5 w2 w0.heap.size (fun q=>q ≠ g) (.slice A1 (bs1 ++ xs).length c1_) (bs1 ++ xs):=Kd.R_of_own (h1:=fun _=>rfl) HO2.out hok
   rw [List.length_append] at hR2
   have hw : wrap64 (x + 1) = x + 1:=by unfold wrap64;omega
   go_roundg gk
   case measure=>omega
   case rel =>
    refine ⟨x + 1,bs1 ++ xs,q,by first|rfl|rw [hw],by omega,by omega,⟨?_,?_⟩,⟨⟨_,zaw HBk2.out 0 _ rfl,hg,Kd.R_far (p:=⟨g,0,none⟩) hR2 (fun q hq=>hq) _⟩⟩,⟨zai HB3.out hg⟩,⟨((HK1.out.trans HK2.out).trans HK3.out).trans (KeepT.set HBk2.out)⟩⟩
    ·rw [show (x + 1).toNat = x.toNat + 1 by omega];exact HQ.out
    ·rw [List.append_assoc];exact H2.out
end Go.Proofs.Ytepnddmalheoiaa.H
namespace Go.Proofs.Ytepnddmalheoiaa.Q
open Go.Proofs.Ytepnddmalheoiaa.H
open Go.RowKit Go.Proofs.YtepnddmalheoiaaW.PrintWords Go.Proofs.YtepnddmalheoiaaW.PrintLast Go.Proofs.YtepnddmalheoiaaW.PrintMore
def shiftsF (k : Nat) : List S44 → Option (List Int)
 | []=>some []
 | s :: t=>(K.wire_EncodeUint.f k s.f0).bind fun a=>(K.wire_EncodeInt.f k s.f1).bind fun b=>(shiftsF k t).bind fun r=>some (a.1 ++ (b.1 ++ r))
def zonesF (k : Nat) : List S42 → Option (List Int)
 | []=>some []
 | z :: t=>(textsF k [z.f0]).bind fun a=>(K.wire_EncodeInt.f k z.f1).bind fun b=>(K.wire_EncodeUint.f k (z.f2.length : Int)).bind fun c=>(shiftsF k z.f2).bind fun d=>(zonesF k t).bind fun r=>some (a ++ (b.1 ++ (c.1 ++ (d ++ r))))
def portsF (k : Nat) : List S39 → Option (List Int)
 | []=>some []
 | p :: t=>(textsF k [p.f0,p.f1]).bind fun a=>(portsF k t).bind fun r=>some (a ++ r)
def uintsF (k : Nat) : List Int → Option (List Int)
 | []=>some []
 | n :: t=>(K.wire_EncodeUint.f k n).bind fun a=>(uintsF k t).bind fun r=>some (a.1 ++ r)
def flightsF (k : Nat) : List S36 → Option (List Int)
 | []=>some []
 | f :: t=>(textsF k [f.f0,f.f1,f.f2]).bind fun a=>(K.wire_EncodeUint.f k f.f3).bind fun b=>(K.wire_EncodeUint.f k f.f4).bind fun c=>(textsF k [f.f5]).bind fun d=>(uintsF k [f.f6.f0,f.f6.f1,f.f6.f2]).bind fun e=>(flightsF k t).bind fun r=>some (a ++ (b.1 ++ (c.1 ++ (d ++ (e ++ r)))))
def bodyF (k : Nat) (zs : List S42) (ps : List S39) (fs : List S36) : Option (List Int) :=
 (K.wire_EncodeUint.f k (zs.length : Int)).bind fun a=>(zonesF k zs).bind fun b=>(K.wire_EncodeUint.f k (ps.length : Int)).bind fun c=>(portsF k ps).bind fun d=>(K.wire_EncodeUint.f k (fs.length : Int)).bind fun e=>(flightsF k fs).bind fun f=>some (a.1 ++ (b ++ (c.1 ++ (d ++ (e.1 ++ f)))))
def timetable_Encode.f (k : Nat) (zs : List S42) (ps : List S39) (fs : List S36) : Option (List Int × Int) :=
 (zan.f k zs ps fs).bind fun e=>if e = 0 then (bodyF k zs ps fs).bind fun b=>if b.length ≤ 140737488355328 then (if b.length > 1048576 then some ([],10) else K.wire_Frame.f k 1 b) else none else some ([],e)
theorem heap_two (w : World) (o1 o2 : Obj) : ((w.alloc o1).alloc o2).heap[w.heap.size + 1]? = some o2:=by
 have h:=heap_alloc_new (w.alloc o1) o2
 simpa using h
structure Pt (w W : World) (g : Nat) (T : Array Value) (bs : List Int) : Prop where
 wr : IsW w W g bs
 be : Below w.heap.size w W
 tt : W.heap[w.heap.size]? = some (.cells T 26 (0,0))
theorem Pt.alloc {w W : World} {g : Nat} {T : Array Value} {bs : List Int} (h : Pt w W g T bs) (o : Obj) : Pt w (W.alloc o) g T bs :=
 ⟨h.wr.below (zae (Below.refl _ _) o),zae h.be o,zag h.tt o⟩
theorem Pt.step {w W W1 : World} {g : Nat} {T : Array Value} {bs bs1 : List Int} (h : Pt w W g T bs) (h1 : IsW w W1 g bs1 ∧ Below w.heap.size w W1 ∧ KeepT W W1) : Pt w W1 g T bs1 :=
 ⟨h1.1,h1.2.1,h1.2.2 _ _ _ _ h.tt (by decide) (by decide)⟩
set_option maxHeartbeats 8000000 in
set_option maxRecDepth 100000 in
theorem timetable_Encode.calls (k : Nat) (A0_0 : Option Addr) (c0_0 : Nat) (l0_0 : List S42) (A0_1 : Option Addr) (c0_1 : Nat) (l0_1 : List S39) (A0_2 : Option Addr) (c0_2 : Nat) (l0_2 : List S36) (r1 : List Int) (r2 : Int) (w : World) (hr0_0 : Kd.C k42 w A0_0 l0_0.length l0_0) (hc0_0 : l0_0.length ≤ c0_0) (hr0_1 : Kd.C k39 w A0_1 l0_1.length l0_1) (hc0_1 : l0_1.length ≤ c0_1) (hr0_2 : Kd.C k36 w A0_2 l0_2.length l0_2) (hc0_2 : l0_2.length ≤ c0_2) (h : timetable_Encode.f k l0_0 l0_1 l0_2 = some (r1,r2)) :
  Calls Try.prog 14 #[.agg #[.slice A0_0 l0_0.length c0_0,.slice A0_1 l0_1.length c0_1,.slice A0_2 l0_2.length c0_2]] w fun e w'=>∃ v0_ : Value,e = .returned (.tuple #[v0_,.int .i64 r2]) ∧ Kd.R (Kd.int .u8) 5 w' w.heap.size (fun _=>True) v0_ r1 ∧ Below w.heap.size w w':=by
 have HR0:=zac.mk hr0_0
 have HR1:=zac.mk hr0_1
 have HR2:=zac.mk hr0_2
 have HC0:=zac.mk hc0_0
 have HC1:=zac.mk hc0_1
 have HC2:=zac.mk hc0_2
 have hu26:=Try.underlying26
 have L0:=zac.mk hr0_0.2.1
 have L1:=zac.mk hr0_1.2.1
 have L2:=zac.mk hr0_2.2.1
 unfold timetable_Encode.f at h
 obtain ⟨e,hV,h⟩:=Option.bind_eq_some_iff.1 h
 have HV:=zac.mk hV
 have HH:=zac.mk h
 clear hr0_0 hr0_1 hr0_2 hc0_0 hc0_1 hc0_2 h hV
 go_enter Try.func14,Try.ntmps14
 go_wp2_with fail
 refine (zan.calls k _ _ l0_0 _ _ l0_1 _ _ l0_2 e _ (Kd.C_alloc HR0.out _) HC0.out (Kd.C_alloc HR1.out _) HC1.out (Kd.C_alloc HR2.out _) HC2.out HV.out).mono ?_
 rintro e_ w1 ⟨rfl,hb1⟩
 have HB1:=zac.mk (zao (zae (Below.refl w.heap.size w) _) hb1)
 have HBK:=zac.mk (zat (heap_alloc_new w _) hb1)
 clear hb1
 have H:=HH.out
 by_cases he : e = 0
 ·have c1 : (e != 0) = false:=bne_eq_false_iff_eq.mpr he
  rw [if_pos he] at H
  obtain ⟨b,hbody,H⟩:=Option.bind_eq_some_iff.1 H
  have hlen : b.length ≤ 140737488355328:=by
   by_cases hq : b.length ≤ 140737488355328
   ·exact hq
   ·rw [if_neg hq] at H;cases H
  rw [if_pos hlen] at H
  unfold bodyF at hbody
  obtain ⟨⟨n1,e1⟩,hn1,hbody⟩:=Option.bind_eq_some_iff.1 hbody
  obtain ⟨zb,hzb,hbody⟩:=Option.bind_eq_some_iff.1 hbody
  obtain ⟨⟨n2,e2⟩,hn2,hbody⟩:=Option.bind_eq_some_iff.1 hbody
  obtain ⟨pb,hpb,hbody⟩:=Option.bind_eq_some_iff.1 hbody
  obtain ⟨⟨n3,e3⟩,hn3,hbody⟩:=Option.bind_eq_some_iff.1 hbody
  obtain ⟨fb,hfb,hbody⟩:=Option.bind_eq_some_iff.1 hbody
  have hbody:=Option.some.inj hbody
  simp only at hbody
  subst hbody
  simp only [List.length_append] at hlen
  have HLEN:=zac.mk hlen
  have HZ:=zac.mk hzb
  have HP:=zac.mk hpb
  have HF:=zac.mk hfb
  have HN1:=zac.mk hn1
  have HN2:=zac.mk hn2
  have HN3:=zac.mk hn3
  have HE:=zac.mk H
  clear hzb hpb hfb hn1 hn2 hn3 hlen H HH he
  obtain ⟨T,hT⟩ : ∃ T : Array Value,T = #[.slice A0_0 l0_0.length c0_0,.slice A0_1 l0_1.length c0_1,.slice A0_2 l0_2.length c0_2]:=⟨_,rfl⟩
  have HPt:=zac.mk (show Pt w (w1.alloc (.cells #[.slice none 0 0] 79 (0,0))) w1.heap.size #[.slice A0_0 l0_0.length c0_0,.slice A0_1 l0_1.length c0_1,.slice A0_2 l0_2.length c0_2] [] from
   ⟨⟨_,heap_alloc_new _ _,HB1.out.size,Kd.R_nil _ _ _ _ _⟩,zae HB1.out _,zag HBK.out _⟩)
  have ha0:=(zad HPt.out.tt 0).trans rfl
  have ha1:=(zad HPt.out.tt 1).trans rfl
  have ha2:=(zad HPt.out.tt 2).trans rfl
  go_wp2_with fail
  refine (writer_uint_calls k w1.heap.size [] _ n1 e1 w _ HPt.out.wr HPt.out.be HN1.out (by have:=HLEN.out;simp;omega)).mono ?_
  rintro e_ w2 ⟨rfl,h2⟩
  have HPt2:=zac.mk (HPt.out.step h2)
  have ha0:=(zad HPt2.out.tt 0).trans rfl
  have ha1:=(zad HPt2.out.tt 1).trans rfl
  have ha2:=(zad HPt2.out.tt 2).trans rfl
  clear h2 HPt
  go_wp2
  go_loopg [31] l0_0.length (fun gk v31 wx=>∃ (x : Int) (bs1 rest : List Int),v31 = .int .i64 x ∧ 0 ≤ x ∧ x + gk = l0_0.length ∧ zac (zonesF k (l0_0.drop x.toNat) = some rest ∧ bs1 ++ rest = n1 ++ zb) ∧ zac (Pt w wx w1.heap.size #[.slice A0_0 l0_0.length c0_0,.slice A0_1 l0_1.length c0_1,.slice A0_2 l0_2.length c0_2] bs1))
  case atStart=>exact ⟨0,n1,zb,rfl,by omega,by omega,⟨by simpa using HZ.out,rfl⟩,⟨by simpa using HPt2.out⟩⟩
  case round =>
   obtain ⟨x,bs1,rest,rfl,h0,hj,HT,HPt⟩:=hrel
   cases gk with
   | zero =>
    have c1 : decide (x < (l0_0.length : Int)) = false:=decide_eq_false (by omega)
    obtain ⟨h1,h2⟩:=HT.out
    rw [List.drop_eq_nil_of_le (by omega)] at h1
    obtain rfl:=Option.some.inj h1
    rw [List.append_nil] at h2
    subst h2
    have ha0:=(zad HPt.out.tt 0).trans rfl
    have ha1:=(zad HPt.out.tt 1).trans rfl
    have ha2:=(zad HPt.out.tt 2).trans rfl
    go_wp2_with fail
    refine (writer_uint_calls k w1.heap.size (n1 ++ zb) _ n2 e2 w _ HPt.out.wr HPt.out.be HN2.out (by have:=HLEN.out;simp at this ⊢;omega)).mono ?_
    rintro e_ w3 ⟨rfl,h8⟩
    have HPq:=zac.mk (HPt.out.step h8)
    clear h8 HPt
    have ha0:=(zad HPq.out.tt 0).trans rfl
    have ha1:=(zad HPq.out.tt 1).trans rfl
    have ha2:=(zad HPq.out.tt 2).trans rfl
    go_wp2
    go_loopg [74] l0_1.length (fun gk v74 wx=>∃ (x : Int) (bs1 rest : List Int),v74 = .int .i64 x ∧ 0 ≤ x ∧ x + gk = l0_1.length ∧ zac (portsF k (l0_1.drop x.toNat) = some rest ∧ bs1 ++ rest = n1 ++ zb ++ n2 ++ pb) ∧ zac (Pt w wx w1.heap.size #[.slice A0_0 l0_0.length c0_0,.slice A0_1 l0_1.length c0_1,.slice A0_2 l0_2.length c0_2] bs1))
    case atStart=>exact ⟨0,n1 ++ zb ++ n2,pb,rfl,by omega,by omega,⟨by simpa using HP.out,rfl⟩,⟨HPq.out⟩⟩
    case round =>
     obtain ⟨x,bs1,rest,rfl,h0,hj,HT,HPt⟩:=hrel
     cases gk with
     | zero =>
      have c1 : decide (x < (l0_1.length : Int)) = false:=decide_eq_false (by omega)
      obtain ⟨h1,h2⟩:=HT.out
      rw [List.drop_eq_nil_of_le (by omega)] at h1
      obtain rfl:=Option.some.inj h1
      rw [List.append_nil] at h2
      subst h2
      have ha0:=(zad HPt.out.tt 0).trans rfl
      have ha1:=(zad HPt.out.tt 1).trans rfl
      have ha2:=(zad HPt.out.tt 2).trans rfl
      go_wp2_with fail
      refine (writer_uint_calls k w1.heap.size (n1 ++ zb ++ n2 ++ pb) _ n3 e3 w _ HPt.out.wr HPt.out.be HN3.out (by have:=HLEN.out;simp at this ⊢;omega)).mono ?_
      rintro e_ w4 ⟨rfl,h8⟩
      have HPr:=zac.mk (HPt.out.step h8)
      clear h8 HPt
      have ha0:=(zad HPr.out.tt 0).trans rfl
      have ha1:=(zad HPr.out.tt 1).trans rfl
      have ha2:=(zad HPr.out.tt 2).trans rfl
      go_wp2
      go_loopg [94] l0_2.length (fun gk v94 wx=>∃ (x : Int) (bs1 rest : List Int),v94 = .int .i64 x ∧ 0 ≤ x ∧ x + gk = l0_2.length ∧ zac (flightsF k (l0_2.drop x.toNat) = some rest ∧ bs1 ++ rest = n1 ++ zb ++ n2 ++ pb ++ n3 ++ fb) ∧ zac (Pt w wx w1.heap.size #[.slice A0_0 l0_0.length c0_0,.slice A0_1 l0_1.length c0_1,.slice A0_2 l0_2.length c0_2] bs1))
      case atStart=>exact ⟨0,n1 ++ zb ++ n2 ++ pb ++ n3,fb,rfl,by omega,by omega,⟨by simpa using HF.out,rfl⟩,⟨HPr.out⟩⟩
      case round =>
       obtain ⟨x,bs1,rest,rfl,h0,hj,HT,HPt⟩:=hrel
       cases gk with
       | zero =>
        have c1 : decide (x < (l0_2.length : Int)) = false:=decide_eq_false (by omega)
        obtain ⟨h1,h2⟩:=HT.out
        rw [List.drop_eq_nil_of_le (by omega)] at h1
        obtain rfl:=Option.some.inj h1
        rw [List.append_nil] at h2
        subst h2
        obtain ⟨v,hvb,hvg,hvr⟩:=HPt.out.wr
        obtain ⟨Av,cv,rfl,hlv,hCv⟩:=Kd.R_reads hvr
        have hv0:=(zad hvb 0).trans rfl
        have HCv:=zac.mk hCv
        have HLv:=zac.mk hlv
        clear hvb hvr hCv hlv
        have H:=HE.out
        have hb : n1 ++ (zb ++ (n2 ++ (pb ++ (n3 ++ fb)))) = n1 ++ zb ++ n2 ++ pb ++ n3 ++ fb:=by simp only [List.append_assoc]
        rw [hb] at H
        clear hb HE
        generalize n1 ++ zb ++ n2 ++ pb ++ n3 ++ fb = b at *
        by_cases hbig : b.length > 1048576
        ·have d1 : decide ((b.length : Int) > 1048576) = true:=decide_eq_true (by omega)
         have d2 : decide (1048576 < (b.length : Int)) = true:=decide_eq_true (by omega)
         have d3 : decide (1048576 < b.length) = true:=decide_eq_true (by omega)
         rw [if_pos hbig] at H
         obtain ⟨rfl,rfl⟩ : r1 = [] ∧ r2 = 10:=by simpa [eq_comm] using H
         go_wp2
         exact bodyPost_ret (v:=.tuple #[.slice none 0 0,.int .i64 10]) (by simp [results,Try.results14,go_sem]) rfl ⟨_,rfl,Kd.R_nil _ _ _ _ _,HPt.out.be⟩
        ·have d1 : decide ((b.length : Int) > 1048576) = false:=decide_eq_false (by omega)
         have d2 : decide (1048576 < (b.length : Int)) = false:=decide_eq_false (by omega)
         have d3 : decide (1048576 < b.length) = false:=decide_eq_false (by omega)
         rw [if_neg hbig] at H
         have HE:=zac.mk H
         clear H
         go_wp2_with fail
         refine (K.wire_Frame.calls k 1 _ _ b r1 r2 _ HCv.out HLv.out HE.out).mono ?_
         rintro e_ w5 ⟨vf,rfl,hR,hb5⟩
         have HR5:=zac.mk hR
         have HB5:=zac.mk hb5
         clear hR hb5
         go_wp2
         exact bodyPost_ret (v:=.tuple #[vf,.int .i64 r2]) (by simp [results,Try.results14,go_sem]) rfl ⟨_,rfl,Kd.R_lower HR5.out HPt.out.be.size,zao HPt.out.be HB5.out⟩
       | succ gk =>
        have c1 : decide (x < (l0_2.length : Int)) = true:=decide_eq_true (by omega)
        have p4 : (0 ≤ x) = True:=eq_true (by omega)
        have q4 : (x < (l0_2.length : Int)) = True:=eq_true (by omega)
        obtain ⟨h1,h2⟩:=HT.out
        rw [List.drop_eq_getElem_cons (show x.toNat < l0_2.length by omega)] at h1
        have hget : l0_2[x.toNat] = zaj l0_2 x:=by simp [zaj,List.getD_eq_getElem?_getD,show x.toNat < l0_2.length by omega]
        rw [hget] at h1
        obtain ⟨ad,e0,hx0,hx1,hx2,hx3,hx4,hx5,hx6,hx7,hx8⟩:=at_T36 HR2.out x h0 (by omega)
        generalize zaj l0_2 x = f at *
        cases e0
        replace hx0:=(HPt.out.be.cell (World.block_lt_of_cell? w _ hx0)).trans hx0
        replace hx1:=(HPt.out.be.cell (World.block_lt_of_cell? w _ hx1)).trans hx1
        replace hx2:=(HPt.out.be.cell (World.block_lt_of_cell? w _ hx2)).trans hx2
        replace hx3:=(HPt.out.be.cell (World.block_lt_of_cell? w _ hx3)).trans hx3
        replace hx4:=(HPt.out.be.cell (World.block_lt_of_cell? w _ hx4)).trans hx4
        replace hx5:=(HPt.out.be.cell (World.block_lt_of_cell? w _ hx5)).trans hx5
        replace hx6:=(HPt.out.be.cell (World.block_lt_of_cell? w _ hx6)).trans hx6
        replace hx7:=(HPt.out.be.cell (World.block_lt_of_cell? w _ hx7)).trans hx7
        replace hx8:=(HPt.out.be.cell (World.block_lt_of_cell? w _ hx8)).trans hx8
        obtain ⟨ta,h3,h1⟩:=Option.bind_eq_some_iff.1 h1
        obtain ⟨⟨tb,e4⟩,h4,h1⟩:=Option.bind_eq_some_iff.1 h1
        obtain ⟨⟨tc,e5⟩,h5,h1⟩:=Option.bind_eq_some_iff.1 h1
        obtain ⟨td,h6,h1⟩:=Option.bind_eq_some_iff.1 h1
        obtain ⟨te,h9,h1⟩:=Option.bind_eq_some_iff.1 h1
        obtain ⟨q,h7,h1⟩:=Option.bind_eq_some_iff.1 h1
        obtain rfl:=Option.some.inj h1
        have hL:=congrArg List.length h2
        simp only [List.length_append] at hL
        have H2:=zac.mk h2
        have H3:=zac.mk h3
        have H4:=zac.mk h4
        have H5:=zac.mk h5
        have H6:=zac.mk h6
        have H9:=zac.mk h9
        have H7:=zac.mk h7
        have HLB:=zac.mk hL
        clear hL h2 h3 h4 h5 h6 h7 h9 h1 hget HT
        have HPa:=zac.mk ((HPt.out.alloc (.cells #[.string f.f0,.string f.f1,.string f.f2,.int .i64 f.f3,.int .i64 f.f4,.string f.f5,.int .i64 f.f6.f0,.int .i64 f.f6.f1,.int .i64 f.f6.f2] 36 (0,0))).alloc (.cells #[.string f.f0,.string f.f1,.string f.f2] 9 (0,0)))
        have HZb:=zac.mk (zag (heap_alloc_new wr (.cells #[.string f.f0,.string f.f1,.string f.f2,.int .i64 f.f3,.int .i64 f.f4,.string f.f5,.int .i64 f.f6.f0,.int .i64 f.f6.f1,.int .i64 f.f6.f2] 36 (0,0))) (.cells #[.string f.f0,.string f.f1,.string f.f2] 9 (0,0)))
        go_wp2_with fail
        refine (writer_text_calls k w1.heap.size (wr.heap.size + 1) 3 bs1 [f.f0,f.f1,f.f2] ta w _ HPa.out.wr HPa.out.be (heap_two _ _ _) (by simp) H3.out (by have:=HLEN.out;have:=HLB.out;simp at this ⊢;omega) (by simp)).mono ?_
        rintro e_ w5 ⟨rfl,h8⟩
        have HPb:=zac.mk (HPa.out.step h8)
        have HZ3:=zac.mk (h8.2.2 _ _ _ _ HZb.out (by decide) (by decide))
        clear h8 HPa HZb HPt
        have hz0:=(zad HZ3.out 0).trans rfl
        have hz1:=(zad HZ3.out 1).trans rfl
        have hz2:=(zad HZ3.out 2).trans rfl
        have hz3:=(zad HZ3.out 3).trans rfl
        have hz4:=(zad HZ3.out 4).trans rfl
        have hz5:=(zad HZ3.out 5).trans rfl
        have hz6:=(zad HZ3.out 6).trans rfl
        have hz7:=(zad HZ3.out 7).trans rfl
        have hz8:=(zad HZ3.out 8).trans rfl
        go_wp2_with fail
        refine (writer_uint_calls k w1.heap.size (bs1 ++ ta) _ tb e4 w _ HPb.out.wr HPb.out.be H4.out (by have:=HLEN.out;have:=HLB.out;simp at this ⊢;omega)).mono ?_
        rintro e_ w6 ⟨rfl,h8⟩
        have HPc:=zac.mk (HPb.out.step h8)
        have HZ4:=zac.mk (h8.2.2 _ _ _ _ HZ3.out (by decide) (by decide))
        clear h8 HPb HZ3
        have hz0:=(zad HZ4.out 0).trans rfl
        have hz1:=(zad HZ4.out 1).trans rfl
        have hz2:=(zad HZ4.out 2).trans rfl
        have hz3:=(zad HZ4.out 3).trans rfl
        have hz4:=(zad HZ4.out 4).trans rfl
        have hz5:=(zad HZ4.out 5).trans rfl
        have hz6:=(zad HZ4.out 6).trans rfl
        have hz7:=(zad HZ4.out 7).trans rfl
        have hz8:=(zad HZ4.out 8).trans rfl
        go_wp2_with fail
        refine (writer_uint_calls k w1.heap.size (bs1 ++ ta ++ tb) _ tc e5 w _ HPc.out.wr HPc.out.be H5.out (by have:=HLEN.out;have:=HLB.out;simp at this ⊢;omega)).mono ?_
        rintro e_ w7 ⟨rfl,h8⟩
        have HPd:=zac.mk (HPc.out.step h8)
        have HZ5:=zac.mk (h8.2.2 _ _ _ _ HZ4.out (by decide) (by decide))
        clear h8 HPc HZ4
        have hz0:=(zad HZ5.out 0).trans rfl
        have hz1:=(zad HZ5.out 1).trans rfl
        have hz2:=(zad HZ5.out 2).trans rfl
        have hz3:=(zad HZ5.out 3).trans rfl
        have hz4:=(zad HZ5.out 4).trans rfl
        have hz5:=(zad HZ5.out 5).trans rfl
        have hz6:=(zad HZ5.out 6).trans rfl
        have hz7:=(zad HZ5.out 7).trans rfl
        have hz8:=(zad HZ5.out 8).trans rfl
        have HPe:=zac.mk (HPd.out.alloc (.cells #[.string f.f5] 9 (0,0)))
        have HZ6:=zac.mk (zag HZ5.out (.cells #[.string f.f5] 9 (0,0)))
        go_wp2_with fail
        refine (writer_text_calls k w1.heap.size w7.heap.size 1 (bs1 ++ ta ++ tb ++ tc) [f.f5] td w _ HPe.out.wr HPe.out.be (heap_alloc_new _ _) (by simp) H6.out (by have:=HLEN.out;have:=HLB.out;simp at this ⊢;omega) (by simp)).mono ?_
        rintro e_ w8 ⟨rfl,h8⟩
        have HPf:=zac.mk (HPe.out.step h8)
        have HZ7:=zac.mk (h8.2.2 _ _ _ _ HZ6.out (by decide) (by decide))
        clear h8 HPd HPe HZ5 HZ6
        have hz0:=(zad HZ7.out 0).trans rfl
        have hz1:=(zad HZ7.out 1).trans rfl
        have hz2:=(zad HZ7.out 2).trans rfl
        have hz3:=(zad HZ7.out 3).trans rfl
        have hz4:=(zad HZ7.out 4).trans rfl
        have hz5:=(zad HZ7.out 5).trans rfl
        have hz6:=(zad HZ7.out 6).trans rfl
        have hz7:=(zad HZ7.out 7).trans rfl
        have hz8:=(zad HZ7.out 8).trans rfl
        obtain ⟨wo,rfl⟩ : ∃ wo : World,wo = wr:=⟨_,rfl⟩
        obtain ⟨gj,rfl⟩ : ∃ gj : Nat,gj = gk:=⟨_,rfl⟩
        obtain ⟨ns,hns⟩ : ∃ ns : List Int,ns = [f.f6.f0,f.f6.f1,f.f6.f2]:=⟨_,rfl⟩
        have hn3 : ns.length = 3:=by rw [hns];rfl
        rw [← hns] at H9
        go_wp2
        go_loopg [122] 3 (fun gk v122 wx=>∃ (y : Int) (bs2 r2 : List Int),v122 = .int .i64 y ∧ 0 ≤ y ∧ y + gk = 3 ∧ zac (uintsF k (ns.drop y.toNat) = some r2 ∧ bs2 ++ r2 = bs1 ++ ta ++ tb ++ tc ++ td ++ te) ∧ zac (Pt w wx w1.heap.size #[.slice A0_0 l0_0.length c0_0,.slice A0_1 l0_1.length c0_1,.slice (some ad) l0_2.length c0_2] bs2))
        case atStart=>exact ⟨0,bs1 ++ ta ++ tb ++ tc ++ td,te,rfl,by omega,by omega,⟨by simpa using H9.out,rfl⟩,HPf⟩
        case round =>
         obtain ⟨y,bs2,r2,rfl,h10,hj2,HT2,HPg⟩:=hrel
         cases gk with
         | zero =>
          have c2 : decide (y < 3) = false:=decide_eq_false (by omega)
          obtain ⟨h1,h2⟩:=HT2.out
          rw [List.drop_eq_nil_of_le (by omega)] at h1
          obtain rfl:=Option.some.inj h1
          rw [List.append_nil] at h2
          subst h2
          have hw : wrap64 (x + 1) = x + 1:=by unfold wrap64;have:=L2.out;omega
          go_wp2
          go_roundg gj
          case measure=>omega
          case rel =>
           refine ⟨x + 1,_,q,by first|rfl|rw [hw],by omega,by omega,⟨?_,?_⟩,HPg⟩
           ·rw [show (x + 1).toNat = x.toNat + 1 by omega];exact H7.out
           ·have:=H2.out;simp only [List.append_assoc] at this ⊢;exact this
         | succ gk =>
          have c2 : decide (y < 3) = true:=decide_eq_true (by omega)
          obtain ⟨h1,h2⟩:=HT2.out
          rw [List.drop_eq_getElem_cons (show y.toNat < ns.length by omega)] at h1
          have hget : ns[y.toNat] = rd ns y:=by simp [rd,List.getD_eq_getElem?_getD,show y.toNat < ns.length by omega]
          rw [hget] at h1
          have hai:=fun (W_ : World)=>ar_run (P:=Try.prog) Try.underlying34 Try.underlying3 (by kernel_rfl) ns y hn3 h10 (by omega) W_
          rw [hns] at hai
          simp only [List.map_cons,List.map_nil] at hai
          rw [← hns] at hai
          generalize rd ns y = n0 at *
          obtain ⟨⟨sa,e6⟩,h3,h1⟩:=Option.bind_eq_some_iff.1 h1
          obtain ⟨q2,h7,h1⟩:=Option.bind_eq_some_iff.1 h1
          obtain rfl:=Option.some.inj h1
          have hL2:=congrArg List.length h2
          simp only [List.length_append] at hL2
          have HL2:=zac.mk hL2
          have H22:=zac.mk h2
          have H23:=zac.mk h3
          have H27:=zac.mk h7
          clear hL2 h2 h3 h7 h1 hget HT2
          go_wp2_with fail
          refine (writer_uint_calls k w1.heap.size bs2 _ sa e6 w _ HPg.out.wr HPg.out.be H23.out (by have:=HLB.out;have:=HL2.out;have:=HLEN.out;simp at this ⊢;omega)).mono ?_
          rintro e_ w9 ⟨rfl,h8⟩
          have HPh:=zac.mk (HPg.out.step h8)
          clear h8 HPg
          have hw : wrap64 (y + 1) = y + 1:=by unfold wrap64;omega
          go_wp2
          go_roundg gk
          case measure=>omega
          case rel =>
           refine ⟨y + 1,_,q2,by first|rfl|rw [hw],by omega,by omega,⟨?_,?_⟩,HPh⟩
           ·rw [show (y + 1).toNat = y.toNat + 1 by omega];exact H27.out
           ·have:=H22.out;simp only [List.append_assoc] at this ⊢;exact this
     | succ gk =>
      have c1 : decide (x < (l0_1.length : Int)) = true:=decide_eq_true (by omega)
      have p4 : (0 ≤ x) = True:=eq_true (by omega)
      have q4 : (x < (l0_1.length : Int)) = True:=eq_true (by omega)
      obtain ⟨h1,h2⟩:=HT.out
      rw [List.drop_eq_getElem_cons (show x.toNat < l0_1.length by omega)] at h1
      have hget : l0_1[x.toNat] = zbd l0_1 x:=by simp [zbd,List.getD_eq_getElem?_getD,show x.toNat < l0_1.length by omega]
      rw [hget] at h1
      obtain ⟨ad,e0,hx0,hx1⟩:=at_T39 HR1.out x h0 (by omega)
      generalize zbd l0_1 x = a at *
      cases e0
      replace hx0:=(HPt.out.be.cell (World.block_lt_of_cell? w _ hx0)).trans hx0
      replace hx1:=(HPt.out.be.cell (World.block_lt_of_cell? w _ hx1)).trans hx1
      obtain ⟨ta,h3,h1⟩:=Option.bind_eq_some_iff.1 h1
      obtain ⟨q,h7,h1⟩:=Option.bind_eq_some_iff.1 h1
      obtain rfl:=Option.some.inj h1
      have hL:=congrArg List.length h2
      simp only [List.length_append] at hL
      have H2:=zac.mk h2
      have H3:=zac.mk h3
      have H7:=zac.mk h7
      have HLB:=zac.mk hL
      clear hL h2 h3 h7 h1 hget HT
      have HPa:=zac.mk ((HPt.out.alloc (.cells #[.string a.f0,.string a.f1] 39 (0,0))).alloc (.cells #[.string a.f0,.string a.f1] 9 (0,0)))
      go_wp2_with fail
      refine (writer_text_calls k w1.heap.size (wr.heap.size + 1) 2 bs1 [a.f0,a.f1] ta w _ HPa.out.wr HPa.out.be (heap_two _ _ _) (by simp) H3.out (by have:=HLEN.out;have:=HLB.out;simp at this ⊢;omega) (by simp)).mono ?_
      rintro e_ w4 ⟨rfl,h8⟩
      have HPb:=zac.mk (HPa.out.step h8)
      clear h8 HPa HPt
      have hw : wrap64 (x + 1) = x + 1:=by unfold wrap64;have:=L1.out;omega
      go_wp2
      go_roundg gk
      case measure=>omega
      case rel =>
       refine ⟨x + 1,_,q,by first|rfl|rw [hw],by omega,by omega,⟨?_,?_⟩,HPb⟩
       ·rw [show (x + 1).toNat = x.toNat + 1 by omega];exact H7.out
       ·have:=H2.out;simp only [List.append_assoc] at this ⊢;exact this
   | succ gk =>
    have c1 : decide (x < (l0_0.length : Int)) = true:=decide_eq_true (by omega)
    have p4 : (0 ≤ x) = True:=eq_true (by omega)
    have q4 : (x < (l0_0.length : Int)) = True:=eq_true (by omega)
    obtain ⟨h1,h2⟩:=HT.out
    rw [List.drop_eq_getElem_cons (show x.toNat < l0_0.length by omega)] at h1
    have hget : l0_0[x.toNat] = zbi l0_0 x:=by simp [zbi,List.getD_eq_getElem?_getD,show x.toNat < l0_0.length by omega]
    rw [hget] at h1
    obtain ⟨ad,Az,cz,e0,hx0,hx1,hx2,hlz,hCz⟩:=at_T42 HR0.out x h0 (by omega)
    generalize zbi l0_0 x = z at *
    cases e0
    replace hx0:=(HPt.out.be.cell (World.block_lt_of_cell? w _ hx0)).trans hx0
    replace hx1:=(HPt.out.be.cell (World.block_lt_of_cell? w _ hx1)).trans hx1
    replace hx2:=(HPt.out.be.cell (World.block_lt_of_cell? w _ hx2)).trans hx2
    obtain ⟨ta,h3,h1⟩:=Option.bind_eq_some_iff.1 h1
    obtain ⟨⟨tb,e4⟩,h4,h1⟩:=Option.bind_eq_some_iff.1 h1
    obtain ⟨⟨tc,e5⟩,h5,h1⟩:=Option.bind_eq_some_iff.1 h1
    obtain ⟨td,h6,h1⟩:=Option.bind_eq_some_iff.1 h1
    obtain ⟨q,h7,h1⟩:=Option.bind_eq_some_iff.1 h1
    obtain rfl:=Option.some.inj h1
    have hL:=congrArg List.length h2
    simp only [List.length_append] at hL
    have H2:=zac.mk h2
    have H3:=zac.mk h3
    have H4:=zac.mk h4
    have H5:=zac.mk h5
    have H6:=zac.mk h6
    have H7:=zac.mk h7
    have HL:=zac.mk hL
    have HCz:=zac.mk hCz
    clear hL h2 h3 h4 h5 h6 h7 h1 hCz hget HT
    have HPa:=zac.mk ((HPt.out.alloc (.cells #[.string z.f0,.int .i64 z.f1,.slice Az z.f2.length cz] 42 (0,0))).alloc (.cells #[.string z.f0] 9 (0,0)))
    have HZb:=zac.mk (zag (heap_alloc_new wr (.cells #[.string z.f0,.int .i64 z.f1,.slice Az z.f2.length cz] 42 (0,0))) (.cells #[.string z.f0] 9 (0,0)))
    go_wp2_with fail
    refine (writer_text_calls k w1.heap.size (wr.heap.size + 1) 1 bs1 [z.f0] ta w _ HPa.out.wr HPa.out.be (heap_two _ _ _) (by simp) H3.out (by have:=HL.out;have:=HLEN.out;omega) (by simp)).mono ?_
    rintro e_ w3 ⟨rfl,h8⟩
    have HPb:=zac.mk (HPa.out.step h8)
    have HZ3:=zac.mk (h8.2.2 _ _ _ _ HZb.out (by decide) (by decide))
    clear h8 HPa HZb HPt
    have hz0:=(zad HZ3.out 0).trans rfl
    have hz1:=(zad HZ3.out 1).trans rfl
    have hz2:=(zad HZ3.out 2).trans rfl
    go_wp2_with fail
    refine (writer_int_calls k w1.heap.size (bs1 ++ ta) _ tb e4 w _ HPb.out.wr HPb.out.be H4.out (by have:=HL.out;have:=HLEN.out;simp;omega)).mono ?_
    rintro e_ w4 ⟨rfl,h8⟩
    have HPc:=zac.mk (HPb.out.step h8)
    have HZ4:=zac.mk (h8.2.2 _ _ _ _ HZ3.out (by decide) (by decide))
    clear h8 HPb HZ3
    have hz0:=(zad HZ4.out 0).trans rfl
    have hz1:=(zad HZ4.out 1).trans rfl
    have hz2:=(zad HZ4.out 2).trans rfl
    go_wp2_with fail
    refine (writer_uint_calls k w1.heap.size (bs1 ++ ta ++ tb) _ tc e5 w _ HPc.out.wr HPc.out.be H5.out (by have:=HL.out;have:=HLEN.out;simp;omega)).mono ?_
    rintro e_ w5 ⟨rfl,h8⟩
    have HPd:=zac.mk (HPc.out.step h8)
    have HZ5:=zac.mk (h8.2.2 _ _ _ _ HZ4.out (by decide) (by decide))
    clear h8 HPc HZ4
    have hz0:=(zad HZ5.out 0).trans rfl
    have hz1:=(zad HZ5.out 1).trans rfl
    have hz2:=(zad HZ5.out 2).trans rfl
    go_wp2
    obtain ⟨wo,rfl⟩ : ∃ wo : World,wo = wr:=⟨_,rfl⟩
    obtain ⟨gj,rfl⟩ : ∃ gj : Nat,gj = gk:=⟨_,rfl⟩
    go_loopg [52] z.f2.length (fun gk2 v52 wx=>∃ (y : Int) (bs2 r2 : List Int),v52 = .int .i64 y ∧ 0 ≤ y ∧ y + gk2 = z.f2.length ∧ zac (shiftsF k (z.f2.drop y.toNat) = some r2 ∧ bs2 ++ r2 = bs1 ++ ta ++ tb ++ tc ++ td) ∧ zac (Pt w wx w1.heap.size #[(.slice (some ad) l0_0.length c0_0),.slice A0_1 l0_1.length c0_1,.slice A0_2 l0_2.length c0_2] bs2))
    case atStart=>exact ⟨0,bs1 ++ ta ++ tb ++ tc,td,rfl,by omega,by omega,⟨by simpa using H6.out,rfl⟩,HPd⟩
    case round =>
     obtain ⟨y,bs2,r2,rfl,h10,hj2,HT2,HPe⟩:=hrel
     cases gk with
     | zero =>
      have c2 : decide (y < (z.f2.length : Int)) = false:=decide_eq_false (by omega)
      obtain ⟨h1,h2⟩:=HT2.out
      rw [List.drop_eq_nil_of_le (by omega)] at h1
      obtain rfl:=Option.some.inj h1
      rw [List.append_nil] at h2
      subst h2
      have hw : wrap64 (x + 1) = x + 1:=by unfold wrap64;have:=L0.out;omega
      go_wp2
      go_roundg gj
      case measure=>omega
      case rel =>
       refine ⟨x + 1,_,q,by first|rfl|rw [hw],by omega,by omega,⟨?_,?_⟩,HPe⟩
       ·rw [show (x + 1).toNat = x.toNat + 1 by omega];exact H7.out
       ·have:=H2.out;simp only [List.append_assoc] at this ⊢;exact this
     | succ gk =>
      have c2 : decide (y < (z.f2.length : Int)) = true:=decide_eq_true (by omega)
      have p5 : (0 ≤ y) = True:=eq_true (by omega)
      have q5 : (y < (z.f2.length : Int)) = True:=eq_true (by omega)
      obtain ⟨h1,h2⟩:=HT2.out
      rw [List.drop_eq_getElem_cons (show y.toNat < z.f2.length by omega)] at h1
      have hget : z.f2[y.toNat] = zbu z.f2 y:=by simp [zbu,List.getD_eq_getElem?_getD,show y.toNat < z.f2.length by omega]
      rw [hget] at h1
      obtain ⟨ad2,e0,hs0,hs1⟩:=at_T44 HCz.out y h10 (by omega)
      generalize zbu z.f2 y = sh at *
      cases e0
      replace hs0:=(HPe.out.be.cell (World.block_lt_of_cell? w _ hs0)).trans hs0
      replace hs1:=(HPe.out.be.cell (World.block_lt_of_cell? w _ hs1)).trans hs1
      obtain ⟨⟨sa,e6⟩,h3,h1⟩:=Option.bind_eq_some_iff.1 h1
      obtain ⟨⟨sb,e7⟩,h4,h1⟩:=Option.bind_eq_some_iff.1 h1
      obtain ⟨q2,h7,h1⟩:=Option.bind_eq_some_iff.1 h1
      obtain rfl:=Option.some.inj h1
      have hL2:=congrArg List.length h2
      simp only [List.length_append] at hL2
      have HL2:=zac.mk hL2
      have H22:=zac.mk h2
      have H23:=zac.mk h3
      have H24:=zac.mk h4
      have H27:=zac.mk h7
      clear hL2 h2 h3 h4 h7 h1 hget HT2
      have HPf:=zac.mk (HPe.out.alloc (.cells #[.int .i64 sh.f0,.int .i64 sh.f1] 44 (0,0)))
      have HS1:=zac.mk (heap_alloc_new wr (.cells #[.int .i64 sh.f0,.int .i64 sh.f1] 44 (0,0)))
      have LS:=zac.mk (show z.f2.length ≤ 9223372036854775807 from HCz.out.2.1)
      have hv0:=(zad HS1.out 0).trans rfl
      have hv1:=(zad HS1.out 1).trans rfl
      go_wp2_with fail
      refine (writer_uint_calls k w1.heap.size bs2 _ sa e6 w _ HPf.out.wr HPf.out.be H23.out (by have:=HL.out;have:=HL2.out;have:=HLEN.out;simp at this ⊢;omega)).mono ?_
      rintro e_ w6 ⟨rfl,h8⟩
      have HPg:=zac.mk (HPf.out.step h8)
      have HS2:=zac.mk (h8.2.2 _ _ _ _ HS1.out (by decide) (by decide))
      clear h8 HPf HS1
      have hv0:=(zad HS2.out 0).trans rfl
      have hv1:=(zad HS2.out 1).trans rfl
      go_wp2_with fail
      refine (writer_int_calls k w1.heap.size (bs2 ++ sa) _ sb e7 w _ HPg.out.wr HPg.out.be H24.out (by have:=HL.out;have:=HL2.out;have:=HLEN.out;simp at this ⊢;omega)).mono ?_
      rintro e_ w7 ⟨rfl,h8⟩
      have HPh:=zac.mk (HPg.out.step h8)
      clear h8 HPg HS2
      have hw : wrap64 (y + 1) = y + 1:=by unfold wrap64;have:=LS.out;omega
      go_wp2
      go_roundg gk
      case measure=>omega
      case rel =>
       refine ⟨y + 1,_,q2,by first|rfl|rw [hw],by omega,by omega,⟨?_,?_⟩,HPh⟩
       ·rw [show (y + 1).toNat = y.toNat + 1 by omega];exact H27.out
       ·have:=H22.out;simp only [List.append_assoc] at this ⊢;exact this
 ·have c1 : (e != 0) = true:=bne_iff_ne.mpr he
  rw [if_neg he] at H
  obtain ⟨rfl,rfl⟩ : r1 = [] ∧ r2 = e:=by simpa [eq_comm] using H
  go_wp2
  exact bodyPost_ret (v:=.tuple #[.slice none 0 0,.int .i64 _]) (by simp [results,Try.results14,go_sem]) rfl ⟨_,rfl,Kd.R_nil _ _ _ _ _,HB1.out⟩
end Go.Proofs.Ytepnddmalheoiaa.Q
