/- For timetableValid_holds: texts of this session and words of the kit's print, those alone that the proof uses. -/
import Derived.Test.YtepnddmalheoiaaProg
import Derived.Below
import Derived.Deep.Draws
import Derived.Deep.AppendLies
import Derived.Maps.AppendAt
import Derived.OwnWalk
import Derived.Laws.BytesArg
import Derived.Laws.MakeOwn
import Derived.Laws.OwnMore
import Derived.Deep.OwnRows
import Derived.Tactics
import Derived.Lib.ConvBytes
import Derived.Laws.Slices
import Derived.WalkKit
import Derived.KernelRfl
import Derived.RowKit3
import Derived.Deep.LoopGhost
import Derived.Deep.QuietTactic
import Derived.BigQuiet
import Derived.WideLaws
import Derived.Deep.DeepCutAuto
import Derived.Deep.CutBlock
import Derived.Deep.RegionHeld3
import Derived.Laws.Rows
import Derived.Lib.AppendStr
import Derived.ArgAppend
import Derived.Laws.IdiomCopy
import Derived.OrdersHeld
import Derived.Laws.BitsLemmas
import Derived.RowKit
import Derived.Deep.WholeRow
import Derived.Laws.ResultCell
import Derived.Lib.SlBytesConst
import Derived.Outline
import Derived.Laws.StructEq
import Derived.ProofKit
import Derived.OpenShut
import Derived.SizedLaws
import Derived.ChangeArms
import Derived.WideShapes
import Derived.Test.YtepnddmalheoiaaSV0
import Derived.Test.YtepnddmalheoiaaSV1
import Derived.Test.YtepnddmalheoiaaSV2
import Derived.Test.YtepnddmalheoiaaSV3
import Derived.Test.YtepnddmalheoiaaSV4
import Derived.Test.YtepnddmalheoiaaSV5
import Derived.Test.YtepnddmalheoiaaSV6
import Derived.Test.YtepnddmalheoiaaSV7
import Derived.Test.YtepnddmalheoiaaSV8
import Derived.Test.YtepnddmalheoiaaSV9
namespace Go.Proofs.Ytepnddmalheoiaa.TtB
open Go.RowKit Go.Proofs.Ytepnddmalheoiaa.H Go.Proofs.Ytepnddmalheoiaa.Q Go.Proofs.Ytepnddmalheoiaa.TtA Go.Proofs.YtepnddmalheoiaaW.PrintWords
def offS (c : Int) : Bool:=decide (-840 ≤ c ∧ c ≤ 840)
theorem poff (c : Int) : zone_offsetOK.f c = some (offS c):=by unfold zone_offsetOK.f offS;split <;> simp <;> omega
theorem roff (c : Int) : pairingref5_offset.f c = some (offS c):=by unfold pairingref5_offset.f offS;split <;> simp <;> omega
def atS (c : Int) : Bool:=decide (0 ≤ c ∧ c < 52596000)
theorem rinst (c : Int) : pairingref5_instant.f c = some (atS c):=by unfold pairingref5_instant.f atS;split <;> simp <;> omega
def shS (sh : List S44) : Nat → Nat → Int
 | 0,_=>0
 | n + 1,i=>if (atS (rd_T44 sh (i : Int)).f0 && offS (rd_T44 sh (i : Int)).f1) = true then (if 0 < i ∧ (rd_T44 sh (i : Int)).f0 ≤ (rd_T44 sh ((i - 1 : Nat) : Int)).f0 then 8 else shS sh n (i + 1)) else 5
theorem pz_l0 (sh : List S44) (a : ByteArray) (b : Int) (hl : sh.length ≤ 16) (n : Nat) : ∀ k i : Nat,2 * n < k → i + n = sh.length → zone_Validate.l0 k sh (sh.length : Int) (i : Int) a b sh = some (shS sh n i):=by
 induction n with
 | zero =>
  intro k i hk hi
  obtain ⟨k,rfl⟩ : ∃ m,k = m + 1:=⟨k - 1,by omega⟩
  simp only [zone_Validate.l0,shS]
  rw [if_neg (by omega)]
 | succ n ih =>
  intro k i hk hi
  obtain ⟨k,rfl⟩ : ∃ m,k = m + 2:=⟨k - 2,by omega⟩
  have hjt : zone_Validate.j1 (k + 1) (i : Int) sh (sh.length : Int) (i : Int) true a b sh (rd_T44 sh (i : Int)).f0 (rd_T44 sh (i : Int)).f1 = some 5:=by simp only [zone_Validate.j1];rw [if_pos trivial]
  have hjf : zone_Validate.j1 (k + 1) (i : Int) sh (sh.length : Int) (i : Int) false a b sh (rd_T44 sh (i : Int)).f0 (rd_T44 sh (i : Int)).f1 = some (if 0 < i ∧ (rd_T44 sh (i : Int)).f0 ≤ (rd_T44 sh ((i - 1 : Nat) : Int)).f0 then 8 else shS sh n (i + 1)):=by
   simp only [zone_Validate.j1]
   rw [if_neg (show ¬ (false = true) by simp),w1 i (by omega),ih k (i + 1) (by omega) (by omega)]
   by_cases h0 : 0 < i
   ·rw [if_pos (show (i : Int) > 0 by omega),w1' i (by omega) h0,if_pos (show 0 ≤ ((i - 1 : Nat) : Int) by omega),if_pos (show ((i - 1 : Nat) : Int) < (sh.length : Int) by omega)]
    by_cases h1 : (rd_T44 sh (i : Int)).f0 ≤ (rd_T44 sh ((i - 1 : Nat) : Int)).f0
    ·rw [if_pos h1,if_pos ⟨h0,h1⟩]
    ·rw [if_neg h1,if_neg (fun h=>h1 h.2)]
   ·rw [if_neg (show ¬ (i : Int) > 0 by omega),if_neg (fun h=>h0 h.1)]
  simp only [zone_Validate.l0,shS]
  rw [if_pos (by omega),if_pos (by omega),if_pos (by omega),hjt,poff,Option.bind_some]
  unfold atS
  by_cases h1 : (rd_T44 sh (i : Int)).f0 < 0
  ·rw [if_pos h1,decide_eq_false (by omega)];simp
  ·rw [if_neg h1]
   by_cases h2 : (rd_T44 sh (i : Int)).f0 ≥ 52596000
   ·rw [if_pos h2,decide_eq_false (by omega)];simp
   ·rw [if_neg h2,decide_eq_true (by omega)]
    cases offS (rd_T44 sh (i : Int)).f1
    ·rw [Bool.not_false,hjt];simp
    ·rw [Bool.not_true,hjf];simp
theorem rz_l0 (sh : List S44) (a : ByteArray) (b : Int) (hl : sh.length ≤ 16) (n : Nat) : ∀ k i : Nat,2 * n < k → i + n = sh.length → pairingref5_ValidateZone.l0 k (i : Int) a b sh = some (shS sh n i):=by
 induction n with
 | zero =>
  intro k i hk hi
  obtain ⟨k,rfl⟩ : ∃ m,k = m + 1:=⟨k - 1,by omega⟩
  simp only [pairingref5_ValidateZone.l0,shS]
  rw [if_neg (by omega)]
 | succ n ih =>
  intro k i hk hi
  obtain ⟨k,rfl⟩ : ∃ m,k = m + 2:=⟨k - 2,by omega⟩
  have hjt : pairingref5_ValidateZone.j1 (k + 1) (i : Int) true a b sh = some 5:=by simp only [pairingref5_ValidateZone.j1];rw [if_pos trivial]
  have hjf : pairingref5_ValidateZone.j1 (k + 1) (i : Int) false a b sh = some (if 0 < i ∧ (rd_T44 sh (i : Int)).f0 ≤ (rd_T44 sh ((i - 1 : Nat) : Int)).f0 then 8 else shS sh n (i + 1)):=by
   simp only [pairingref5_ValidateZone.j1]
   rw [if_neg (show ¬ (false = true) by simp),w1 i (by omega),ih k (i + 1) (by omega) (by omega)]
   by_cases h0 : 0 < i
   ·rw [if_pos (show (i : Int) > 0 by omega),if_pos (show 0 ≤ (i : Int) by omega),if_pos (show (i : Int) < (sh.length : Int) by omega),w1' i (by omega) h0,if_pos (show 0 ≤ ((i - 1 : Nat) : Int) by omega),if_pos (show ((i - 1 : Nat) : Int) < (sh.length : Int) by omega)]
    by_cases h1 : (rd_T44 sh (i : Int)).f0 ≤ (rd_T44 sh ((i - 1 : Nat) : Int)).f0
    ·rw [if_pos h1,if_pos ⟨h0,h1⟩]
    ·rw [if_neg h1,if_neg (fun h=>h1 h.2)]
   ·rw [if_neg (show ¬ (i : Int) > 0 by omega),if_neg (fun h=>h0 h.1)]
  simp only [pairingref5_ValidateZone.l0,shS]
  rw [if_pos (by omega),if_pos (by omega),rinst,Option.bind_some,roff,Option.bind_some,hjt]
  cases atS (rd_T44 sh (i : Int)).f0
  ·simp
  ·cases offS (rd_T44 sh (i : Int)).f1
   ·rw [if_pos rfl,Bool.not_false,hjt];simp
   ·rw [if_pos rfl,Bool.not_true,hjf];simp
def zoneS (a : ByteArray) (o : Int) (sh : List S44) : Int:=if nameS a = true then (if offS o = true then (if (sh.length : Int) > 16 then 10 else shS sh sh.length 0) else 5) else 1
theorem pzone (a : ByteArray) (o : Int) (sh : List S44) (k : Nat) (hk : 40 ≤ k) : zone_Validate.f k a o sh = some (zoneS a o sh):=by
 unfold zone_Validate.f zoneS
 rw [pname,Option.bind_some,poff,Option.bind_some]
 repeat' split
 all_goals first|rfl|skip
 exact pz_l0 sh a o (by omega) sh.length k 0 (by omega) (by omega)
theorem rzone (a : ByteArray) (o : Int) (sh : List S44) (k : Nat) (hk : 40 ≤ k) : pairingref5_ValidateZone.f k a o sh = some (zoneS a o sh):=by
 unfold pairingref5_ValidateZone.f zoneS
 rw [rname a k (by omega),Option.bind_some,roff,Option.bind_some]
 repeat' split
 all_goals first|rfl|skip
 exact rz_l0 sh a o (by omega) sh.length k 0 (by omega) (by omega)
def ix (q : Nat → Bool) : Nat → Nat → Int
 | 0,_=>-1
 | n + 1,i=>if q i = true then (i : Int) else ix q n (i + 1)
theorem ix_congr (q q' : Nat → Bool) (n : Nat) : ∀ i,(∀ j,i ≤ j → j < i + n → q j = q' j) → ix q n i = ix q' n i:=by
 induction n with
 | zero=>intro i _;rfl
 | succ n ih =>
  intro i h
  simp only [ix]
  rw [h i (by omega) (by omega),ih (i + 1) (fun j h1 h2=>h j (by omega) (by omega))]
theorem ix_range (q : Nat → Bool) (n : Nat) : ∀ i,ix q n i = -1 ∨ ((i : Int) ≤ ix q n i ∧ ix q n i < (i : Int) + n):=by
 induction n with
 | zero=>intro i;exact .inl rfl
 | succ n ih =>
  intro i
  simp only [ix]
  split
  ·right;omega
  ·have:=ih (i + 1);omega
theorem ix_split (q : Nat → Bool) (m n : Nat) : ∀ i,ix q (m + n) i = if ix q m i = -1 then ix q n (i + m) else ix q m i:=by
 induction m with
 | zero=>intro i;simp [ix]
 | succ m ih =>
  intro i
  rw [show m + 1 + n = (m + n) + 1 by omega]
  by_cases h : q i = true
  ·have e1 : ix q (m + 1) i = (i : Int):=if_pos h
   have e2 : ix q (m + n + 1) i = (i : Int):=if_pos h
   rw [e2,if_neg (by rw [e1];omega),e1]
  ·have e1 : ix q (m + 1) i = ix q m (i + 1):=if_neg h
   have e2 : ix q (m + n + 1) i = ix q (m + n) (i + 1):=if_neg h
   have h3:=ih (i + 1)
   rw [e2,h3]
   by_cases h1 : ix q m (i + 1) = -1
   ·rw [if_pos h1,if_pos (by rw [e1];exact h1),show i + 1 + m = i + (m + 1) by omega]
   ·rw [if_neg h1,if_neg (by rw [e1];exact h1),e1]
theorem ix_before (q : Nat → Bool) (i n : Nat) (hi : i < n) (hq : q i = true) : ix q n 0 < (i : Int) ↔ ix q i 0 ≥ 0:=by
 obtain ⟨m,rfl⟩ : ∃ m,n = i + (m + 1):=⟨n - i - 1,by omega⟩
 rw [ix_split q i (m + 1) 0]
 have h:=ix_range q i 0
 by_cases h1 : ix q i 0 = -1
 ·have e : ix q (m + 1) (0 + i) = ((0 + i : Nat) : Int):=if_pos (by rw [Nat.zero_add];exact hq)
  rw [if_pos h1,e,h1];omega
 ·rw [if_neg h1];omega
def zq (l : List S42) (a : ByteArray) (j : Nat) : Bool:=(rd_T42 l (j : Int)).f0.toList == a.toList
def aq (l : List S39) (a : ByteArray) (j : Nat) : Bool:=(rd_T39 l (j : Int)).f0.toList == a.toList
theorem pzi (l : List S42) (a : ByteArray) (hl : l.length < 4611686018427387904) (n : Nat) : ∀ k i : Nat,n < k → i + n = l.length → timetable_zoneIndex.l0 k a l (l.length : Int) (i : Int) = some (ix (zq l a) n i):=by
 induction n with
 | zero =>
  intro k i hk hi
  obtain ⟨k,rfl⟩ : ∃ m,k = m + 1:=⟨k - 1,by omega⟩
  simp only [timetable_zoneIndex.l0,ix]
  rw [if_neg (by omega)]
 | succ n ih =>
  intro k i hk hi
  obtain ⟨k,rfl⟩ : ∃ m,k = m + 1:=⟨k - 1,by omega⟩
  simp only [timetable_zoneIndex.l0,ix,zq,beq_iff_eq]
  rw [if_pos (by omega),if_pos (by omega),if_pos (by omega),w1 i (by omega),ih k (i + 1) (by omega) (by omega)]
  split <;> rfl
theorem rzi (l : List S42) (a : ByteArray) (hl : l.length < 4611686018427387904) (n : Nat) : ∀ k i : Nat,n < k → i + n = l.length → pairingref9_ZoneIndex.l0 k l a (i : Int) = some (ix (zq l a) n i):=by
 induction n with
 | zero =>
  intro k i hk hi
  obtain ⟨k,rfl⟩ : ∃ m,k = m + 1:=⟨k - 1,by omega⟩
  simp only [pairingref9_ZoneIndex.l0,ix]
  rw [if_neg (by omega)]
 | succ n ih =>
  intro k i hk hi
  obtain ⟨k,rfl⟩ : ∃ m,k = m + 1:=⟨k - 1,by omega⟩
  simp only [pairingref9_ZoneIndex.l0,ix,zq,beq_iff_eq]
  rw [if_pos (by omega),if_pos (by omega),w1 i (by omega),ih k (i + 1) (by omega) (by omega)]
  split <;> rfl
theorem pai (l : List S39) (a : ByteArray) (hl : l.length < 4611686018427387904) (n : Nat) : ∀ k i : Nat,n < k → i + n = l.length → timetable_airportIndex.l0 k a l (l.length : Int) (i : Int) = some (ix (aq l a) n i):=by
 induction n with
 | zero =>
  intro k i hk hi
  obtain ⟨k,rfl⟩ : ∃ m,k = m + 1:=⟨k - 1,by omega⟩
  simp only [timetable_airportIndex.l0,ix]
  rw [if_neg (by omega)]
 | succ n ih =>
  intro k i hk hi
  obtain ⟨k,rfl⟩ : ∃ m,k = m + 1:=⟨k - 1,by omega⟩
  simp only [timetable_airportIndex.l0,ix,aq,beq_iff_eq]
  rw [if_pos (by omega),if_pos (by omega),if_pos (by omega),w1 i (by omega),ih k (i + 1) (by omega) (by omega)]
  split <;> rfl
theorem rai (l : List S39) (a : ByteArray) (hl : l.length < 4611686018427387904) (n : Nat) : ∀ k i : Nat,n < k → i + n = l.length → pairingref9_AirportIndex.l0 k l a (i : Int) = some (ix (aq l a) n i):=by
 induction n with
 | zero =>
  intro k i hk hi
  obtain ⟨k,rfl⟩ : ∃ m,k = m + 1:=⟨k - 1,by omega⟩
  simp only [pairingref9_AirportIndex.l0,ix]
  rw [if_neg (by omega)]
 | succ n ih =>
  intro k i hk hi
  obtain ⟨k,rfl⟩ : ∃ m,k = m + 1:=⟨k - 1,by omega⟩
  simp only [pairingref9_AirportIndex.l0,ix,aq,beq_iff_eq]
  rw [if_pos (by omega),if_pos (by omega),w1 i (by omega),ih k (i + 1) (by omega) (by omega)]
  split <;> rfl
def zoneI (l : List S42) (a : ByteArray) : Int:=ix (zq l a) l.length 0
def portI (l : List S39) (a : ByteArray) : Int:=ix (aq l a) l.length 0
theorem pzoneI (l : List S42) (a : ByteArray) (k : Nat) (hl : l.length < k) (hk : k ≤ 4611686018427387904) : timetable_zoneIndex.f k l a = some (zoneI l a):=pzi l a (by omega) l.length k 0 hl (by omega)
theorem rzoneI (l : List S42) (a : ByteArray) (k : Nat) (hl : l.length < k) (hk : k ≤ 4611686018427387904) : pairingref9_ZoneIndex.f k l a = some (zoneI l a):=rzi l a (by omega) l.length k 0 hl (by omega)
theorem pportI (l : List S39) (a : ByteArray) (k : Nat) (hl : l.length < k) (hk : k ≤ 4611686018427387904) : timetable_airportIndex.f k l a = some (portI l a):=pai l a (by omega) l.length k 0 hl (by omega)
theorem rportI (l : List S39) (a : ByteArray) (k : Nat) (hl : l.length < k) (hk : k ≤ 4611686018427387904) : pairingref9_AirportIndex.f k l a = some (portI l a):=rai l a (by omega) l.length k 0 hl (by omega)
theorem zone_take (l : List S42) (a : ByteArray) (i : Nat) (hi : i < l.length) (hq : zq l a i = true) : zoneI (l.take i) a ≥ 0 ↔ zoneI l a < (i : Int):=by
 have e : zoneI (l.take i) a = ix (zq l a) i 0:=by
  unfold zoneI
  rw [List.length_take,Nat.min_eq_left (by omega)]
  refine ix_congr _ _ i 0 fun j _ hj=>?_
  simp [zq,rd_T42,List.getD_eq_getElem?_getD,show j < i by omega]
 rw [e]
 exact (ix_before (zq l a) i l.length hi hq).symm
theorem port_take (l : List S39) (a : ByteArray) (i : Nat) (hi : i < l.length) (hq : aq l a i = true) : portI (l.take i) a ≥ 0 ↔ portI l a < (i : Int):=by
 have e : portI (l.take i) a = ix (aq l a) i 0:=by
  unfold portI
  rw [List.length_take,Nat.min_eq_left (by omega)]
  refine ix_congr _ _ i 0 fun j _ hj=>?_
  simp [aq,rd_T39,List.getD_eq_getElem?_getD,show j < i by omega]
 rw [e]
 exact (ix_before (aq l a) i l.length hi hq).symm
end Go.Proofs.Ytepnddmalheoiaa.TtB
namespace Go.Proofs.Ytepnddmalheoiaa.TtC
open Go.RowKit Go.Proofs.Ytepnddmalheoiaa.H Go.Proofs.Ytepnddmalheoiaa.Q Go.Proofs.Ytepnddmalheoiaa.TtA Go.Proofs.Ytepnddmalheoiaa.TtB Go.Proofs.YtepnddmalheoiaaW.PrintWords
def oneN (c : Int) : Bool:=decide (0 ≤ c ∧ c ≤ 8)
def needS (f : S36) : Bool:=oneN f.f6.f0 && (oneN f.f6.f1 && oneN f.f6.f2)
theorem one_false {c : Int} (h : c < 0 ∨ c > 8) : oneN c = false:=decide_eq_false (by omega)
theorem one_true {c : Int} (h : ¬ c < 0) (h' : ¬ c > 8) : oneN c = true:=decide_eq_true (by omega)
theorem s01 : wrap64 (0 + 1) = 1:=by unfold wrap64;omega
theorem s12 : wrap64 (1 + 1) = 2:=by unfold wrap64;omega
theorem s23 : wrap64 (2 + 1) = 3:=by unfold wrap64;omega
theorem rd0 (a b c : Int) : rd [a,b,c] 0 = a:=rfl
theorem rd1 (a b c : Int) : rd [a,b,c] 1 = b:=rfl
theorem rd2 (a b c : Int) : rd [a,b,c] 2 = c:=rfl
theorem pneed (k : Nat) (hk : 5 ≤ k) (f : S36) : timetable_needOK.f k f.f0 f.f1 f.f2 f.f3 f.f4 f.f5 f.f6.f0 f.f6.f1 f.f6.f2 = some (needS f):=by
 obtain ⟨k,rfl⟩ : ∃ m,k = m + 4:=⟨k - 4,by omega⟩
 unfold timetable_needOK.f needS
 simp only [timetable_needOK.l0,s01,s12,s23,rd0,rd1,rd2]
 rw [if_pos (show (0 : Int) < 3 by decide),if_pos (show (0 : Int) ≤ 0 by decide)]
 by_cases a0 : f.f6.f0 < 0
 ·rw [if_pos a0,one_false (.inl a0)];rfl
 rw [if_neg a0]
 by_cases b0 : f.f6.f0 > 8
 ·rw [if_pos b0,one_false (.inr b0)];rfl
 rw [if_neg b0,one_true a0 b0,if_pos (show (1 : Int) < 3 by decide),if_pos (show (0 : Int) ≤ 1 by decide)]
 by_cases a1 : f.f6.f1 < 0
 ·rw [if_pos a1,one_false (.inl a1)];rfl
 rw [if_neg a1]
 by_cases b1 : f.f6.f1 > 8
 ·rw [if_pos b1,one_false (.inr b1)];rfl
 rw [if_neg b1,one_true a1 b1,if_pos (show (2 : Int) < 3 by decide),if_pos (show (0 : Int) ≤ 2 by decide)]
 by_cases a2 : f.f6.f2 < 0
 ·rw [if_pos a2,one_false (.inl a2)];rfl
 rw [if_neg a2]
 by_cases b2 : f.f6.f2 > 8
 ·rw [if_pos b2,one_false (.inr b2)];rfl
 rw [if_neg b2,one_true a2 b2,if_neg (show ¬ (3 : Int) < 3 by decide)];rfl
def flightS (ps : List S39) (f : S36) : Int :=
 if (codeS f.f0 && nameS f.f5) = true then
  if portI ps f.f1 < 0 ∨ portI ps f.f2 < 0 then 6 else
  if f.f1.toList = f.f2.toList then 14 else
  if f.f3 < 2880 ∨ f.f4 > 52593120 ∨ f.f4 ≤ f.f3 ∨ wrap64 (f.f4 - f.f3) > 1440 ∨ needS f = false then 5 else 0
 else 1
theorem pj1 (k : Nat) (hk : 6 ≤ k) (f : S36) : timetable_checkFlight.j1 k false f.f0 f.f1 f.f2 f.f3 f.f4 f.f5 f.f6.f0 f.f6.f1 f.f6.f2 =
  some (if f.f1.toList = f.f2.toList then 14 else if f.f3 < 2880 ∨ f.f4 > 52593120 ∨ f.f4 ≤ f.f3 ∨ wrap64 (f.f4 - f.f3) > 1440 ∨ needS f = false then 5 else 0):=by
 obtain ⟨k,rfl⟩ : ∃ m,k = m + 1:=⟨k - 1,by omega⟩
 simp only [timetable_checkFlight.j1]
 rw [if_neg (show ¬ (false = true) by simp),pneed k (by omega)]
 by_cases h1 : f.f1.toList = f.f2.toList
 ·rw [if_pos h1,if_pos h1]
 rw [if_neg h1,if_neg h1]
 by_cases h2 : f.f3 < 2880
 ·rw [if_pos h2,if_pos (.inl h2)]
 rw [if_neg h2]
 by_cases h3 : f.f4 > 52593120
 ·rw [if_pos h3,if_pos (.inr (.inl h3))]
 rw [if_neg h3]
 by_cases h4 : f.f4 ≤ f.f3
 ·rw [if_pos h4,if_pos (.inr (.inr (.inl h4)))]
 rw [if_neg h4]
 by_cases h5 : wrap64 (f.f4 - f.f3) > 1440
 ·rw [if_pos h5,if_pos (.inr (.inr (.inr (.inl h5))))]
 rw [if_neg h5,Option.bind_some]
 by_cases h6 : needS f = true
 ·rw [if_pos h6,if_neg]
  rintro (h|h|h|h|h)
  ·exact h2 h
  ·exact h3 h
  ·exact h4 h
  ·exact h5 h
  ·rw [h6] at h;exact absurd h (by simp)
 ·rw [if_neg h6,if_pos (.inr (.inr (.inr (.inr (by simpa using h6)))))]
theorem pflight (zs : List S42) (ps : List S39) (fs : List S36) (f : S36) (k : Nat) (hk : ps.length + 10 ≤ k) (hk2 : k ≤ 4611686018427387904) :
  timetable_checkFlight.f k zs ps fs f.f0 f.f1 f.f2 f.f3 f.f4 f.f5 f.f6.f0 f.f6.f1 f.f6.f2 = some (flightS ps f):=by
 obtain ⟨k,rfl⟩ : ∃ m,k = m + 2:=⟨k - 2,by omega⟩
 unfold timetable_checkFlight.f flightS
 rw [pcode,Option.bind_some,pname,Option.bind_some]
 have hj : timetable_checkFlight.j0 (k + 2) true zs ps fs f.f0 f.f1 f.f2 f.f3 f.f4 f.f5 f.f6.f0 f.f6.f1 f.f6.f2 = some 1:=by simp only [timetable_checkFlight.j0];rw [if_pos trivial]
 cases codeS f.f0
 ·rw [if_neg (by simp),hj];simp
 rw [if_pos rfl]
 cases nameS f.f5
 ·rw [Bool.not_false,hj];simp
 rw [Bool.not_true,if_pos (by rfl)]
 simp only [timetable_checkFlight.j0]
 rw [if_neg (show ¬ (false = true) by simp),pportI ps _ (k + 1) (by omega) (by omega),Option.bind_some,pportI ps _ (k + 1) (by omega) (by omega),Option.bind_some]
 have ht : timetable_checkFlight.j1 (k + 1) true f.f0 f.f1 f.f2 f.f3 f.f4 f.f5 f.f6.f0 f.f6.f1 f.f6.f2 = some 6:=by simp only [timetable_checkFlight.j1];rw [if_pos trivial]
 by_cases h1 : portI ps f.f1 < 0
 ·rw [if_pos h1,ht,if_pos (.inl h1)]
 rw [if_neg h1]
 by_cases h2 : portI ps f.f2 < 0
 ·rw [decide_eq_true h2,ht,if_pos (.inr h2)]
 rw [decide_eq_false h2,pj1 (k + 1) (by omega),if_neg (show ¬ (portI ps f.f1 < 0 ∨ portI ps f.f2 < 0) from fun h=>h.elim h1 h2)]
def ordS (ps : List S39) (fs : List S36) (i : Nat) : Int :=
 if flightS ps (rd_T36 fs (i : Int)) = 0 then
  if 0 < i then
   (if (rd_T36 fs (i : Int)).f3 < (rd_T36 fs ((i - 1 : Nat) : Int)).f3 then 8 else if (rd_T36 fs (i : Int)).f3 = (rd_T36 fs ((i - 1 : Nat) : Int)).f3 then (if Op.bytesLess (rd_T36 fs ((i - 1 : Nat) : Int)).f0.toList (rd_T36 fs (i : Int)).f0.toList = true then 0 else 8) else 0)
  else 0
 else flightS ps (rd_T36 fs (i : Int))
theorem rl0 (zs : List S42) (ps : List S39) (fs : List S36) (f : S36) (i : Nat) (hi : i < fs.length) (hl : fs.length < 4611686018427387904) (k : Nat) (hk : 5 ≤ k) :
  pairingref9_flight.l0 k (i : Int) 0 zs ps fs f.f0 f.f1 f.f2 f.f3 f.f4 f.f5 f.f6.f0 f.f6.f1 f.f6.f2 = some (if needS f = true then
   (if 0 < i then (if f.f3 < (rd_T36 fs ((i - 1 : Nat) : Int)).f3 then 8 else if f.f3 = (rd_T36 fs ((i - 1 : Nat) : Int)).f3 then (if Op.bytesLess (rd_T36 fs ((i - 1 : Nat) : Int)).f0.toList f.f0.toList = true then 0 else 8) else 0) else 0) else 5):=by
 obtain ⟨k,rfl⟩ : ∃ m,k = m + 4:=⟨k - 4,by omega⟩
 unfold needS
 simp only [pairingref9_flight.l0,s01,s12,s23,rd0,rd1,rd2]
 rw [if_pos (show (0 : Int) < 3 by decide),if_pos (show (0 : Int) ≤ 0 by decide)]
 by_cases a0 : f.f6.f0 < 0
 ·rw [if_pos a0,one_false (.inl a0)];rfl
 rw [if_neg a0]
 by_cases b0 : f.f6.f0 > 8
 ·rw [if_pos b0,one_false (.inr b0)];rfl
 rw [if_neg b0,one_true a0 b0,if_pos (show (1 : Int) < 3 by decide),if_pos (show (0 : Int) ≤ 1 by decide)]
 by_cases a1 : f.f6.f1 < 0
 ·rw [if_pos a1,one_false (.inl a1)];rfl
 rw [if_neg a1]
 by_cases b1 : f.f6.f1 > 8
 ·rw [if_pos b1,one_false (.inr b1)];rfl
 rw [if_neg b1,one_true a1 b1,if_pos (show (2 : Int) < 3 by decide),if_pos (show (0 : Int) ≤ 2 by decide)]
 by_cases a2 : f.f6.f2 < 0
 ·rw [if_pos a2,one_false (.inl a2)];rfl
 rw [if_neg a2]
 by_cases b2 : f.f6.f2 > 8
 ·rw [if_pos b2,one_false (.inr b2)];rfl
 rw [if_neg b2,one_true a2 b2,if_neg (show ¬ (3 : Int) < 3 by decide),if_pos (show (true && (true && true)) = true by rfl)]
 by_cases h0 : 0 < i
 ·rw [if_pos (show (i : Int) > 0 by omega),w1' i (by omega) h0,if_pos (show 0 ≤ ((i - 1 : Nat) : Int) by omega),if_pos (show ((i - 1 : Nat) : Int) < (fs.length : Int) by omega),if_pos h0]
  repeat' split
  all_goals rfl
 ·rw [if_neg (show ¬ (i : Int) > 0 by omega),if_neg h0]
theorem ord_ne {ps : List S39} {fs : List S36} {i : Nat} {e : Int} (h : flightS ps (rd_T36 fs (i : Int)) = e) (he : e ≠ 0) : ordS ps fs i = e:=by
 unfold ordS
 rw [if_neg (by rw [h];exact he),h]
theorem ord_ok {ps : List S39} {fs : List S36} {i : Nat} (h : flightS ps (rd_T36 fs (i : Int)) = 0) : ordS ps fs i =
  (if 0 < i then
   (if (rd_T36 fs (i : Int)).f3 < (rd_T36 fs ((i - 1 : Nat) : Int)).f3 then 8 else if (rd_T36 fs (i : Int)).f3 = (rd_T36 fs ((i - 1 : Nat) : Int)).f3 then (if Op.bytesLess (rd_T36 fs ((i - 1 : Nat) : Int)).f0.toList (rd_T36 fs (i : Int)).f0.toList = true then 0 else 8) else 0)
  else 0):=if_pos h
theorem fl_no {ps : List S39} {f : S36} (h : (codeS f.f0 && nameS f.f5) = false) : flightS ps f = 1:=by unfold flightS;rw [if_neg (by rw [h];simp)]
theorem fl_yes {ps : List S39} {f : S36} (h1 : codeS f.f0 = true) (h2 : nameS f.f5 = true) : flightS ps f =
  if portI ps f.f1 < 0 ∨ portI ps f.f2 < 0 then 6 else
  if f.f1.toList = f.f2.toList then 14 else
  if f.f3 < 2880 ∨ f.f4 > 52593120 ∨ f.f4 ≤ f.f3 ∨ wrap64 (f.f4 - f.f3) > 1440 ∨ needS f = false then 5 else 0:=by unfold flightS;rw [h1,h2];exact if_pos rfl
theorem rflight (zs : List S42) (ps : List S39) (fs : List S36) (i : Nat) (hi : i < fs.length) (k : Nat) (hk : ps.length + 30 ≤ k) (hk2 : k ≤ 4611686018427387904) (hl : fs.length < 4611686018427387904) (hs : (rd_T36 fs (i : Int)).f0.size < k) :
  pairingref9_flight.f k zs ps fs (i : Int) = some (ordS ps fs i):=by
 obtain ⟨k,rfl⟩ : ∃ m,k = m + 3:=⟨k - 3,by omega⟩
 unfold pairingref9_flight.f
 rw [if_pos (by omega),if_pos (by omega)]
 have hl0:=rl0 zs ps fs (rd_T36 fs (i : Int)) i hi hl k (by omega)
 have hne:=@ord_ne ps fs i
 have hok:=@ord_ok ps fs i
 have hno:=@fl_no ps (rd_T36 fs (i : Int))
 have hye:=@fl_yes ps (rd_T36 fs (i : Int))
 generalize hf : rd_T36 fs (i : Int) = f at *
 rw [rcode _ (by omega) _ hs,Option.bind_some,rname _ _ (by omega),Option.bind_some]
 have hj : pairingref9_flight.j0 (k + 3) (i : Int) true zs ps fs f.f0 f.f1 f.f2 f.f3 f.f4 f.f5 f.f6.f0 f.f6.f1 f.f6.f2 = some 1:=by simp only [pairingref9_flight.j0];rw [if_pos trivial]
 by_cases c1 : codeS f.f0 = true
 case neg =>
  have c1 : codeS f.f0 = false:=by simpa using c1
  rw [c1,if_neg (by simp),hj,hne (hno (by rw [c1];rfl)) (by decide)]
 rw [if_pos c1]
 by_cases c2 : nameS f.f5 = true
 case neg =>
  have c2 : nameS f.f5 = false:=by simpa using c2
  rw [c2,Bool.not_false,hj,hne (hno (by rw [c1,c2];rfl)) (by decide)]
 have hv:=hye c1 c2
 rw [c2,Bool.not_true]
 simp only [pairingref9_flight.j0]
 rw [if_neg (show ¬ (false = true) by simp),rportI ps _ (k + 2) (by omega) (by omega),Option.bind_some,rportI ps _ (k + 2) (by omega) (by omega),Option.bind_some]
 have ht : pairingref9_flight.j1 (k + 2) (i : Int) true zs ps fs f.f0 f.f1 f.f2 f.f3 f.f4 f.f5 f.f6.f0 f.f6.f1 f.f6.f2 = some 6:=by simp only [pairingref9_flight.j1];rw [if_pos trivial]
 by_cases h1 : portI ps f.f1 < 0
 ·rw [if_pos h1,ht,hne (hv.trans (if_pos (.inl h1))) (by decide)]
 rw [if_neg h1]
 by_cases h2 : portI ps f.f2 < 0
 ·rw [decide_eq_true h2,ht,hne (hv.trans (if_pos (.inr h2))) (by decide)]
 replace hv:=hv.trans (if_neg (fun h=>h.elim h1 h2))
 rw [decide_eq_false h2]
 simp only [pairingref9_flight.j1]
 rw [if_neg (show ¬ (false = true) by simp)]
 by_cases h3 : f.f1.toList = f.f2.toList
 ·rw [if_pos h3,hne (hv.trans (if_pos h3)) (by decide)]
 replace hv:=hv.trans (if_neg h3)
 rw [if_neg h3]
 have h5 : pairingref9_flight.j2 (k + 1) (i : Int) true zs ps fs f.f0 f.f1 f.f2 f.f3 f.f4 f.f5 f.f6.f0 f.f6.f1 f.f6.f2 = some 5:=by simp only [pairingref9_flight.j2];rw [if_pos trivial]
 by_cases h6 : f.f3 < 2880
 ·rw [if_pos h6,h5,hne (hv.trans (if_pos (.inl h6))) (by decide)]
 rw [if_neg h6]
 by_cases h7 : f.f4 > 52593120
 ·rw [if_pos h7,h5,hne (hv.trans (if_pos (.inr (.inl h7)))) (by decide)]
 rw [if_neg h7]
 by_cases h8 : f.f4 ≤ f.f3
 ·rw [if_pos h8,h5,hne (hv.trans (if_pos (.inr (.inr (.inl h8))))) (by decide)]
 rw [if_neg h8]
 by_cases h9 : wrap64 (f.f4 - f.f3) > 1440
 ·rw [decide_eq_true h9,h5,hne (hv.trans (if_pos (.inr (.inr (.inr (.inl h9)))))) (by decide)]
 rw [decide_eq_false h9]
 simp only [pairingref9_flight.j2]
 rw [if_neg (show ¬ (false = true) by simp),hl0]
 by_cases hn : needS f = true
 ·have hne' : ¬ (f.f3 < 2880 ∨ f.f4 > 52593120 ∨ f.f4 ≤ f.f3 ∨ wrap64 (f.f4 - f.f3) > 1440 ∨ needS f = false):=by
   rintro (h|h|h|h|h)
   ·exact h6 h
   ·exact h7 h
   ·exact h8 h
   ·exact h9 h
   ·rw [hn] at h;exact absurd h (by simp)
  rw [if_pos hn,hok (hv.trans (if_neg hne'))]
 ·rw [if_neg hn,hne (hv.trans (if_pos (.inr (.inr (.inr (.inr (by simpa using hn))))))) (by decide)]
def flL (ps : List S39) (fs : List S36) : Nat → Nat → Int
 | 0,_=>0
 | n + 1,i=>if ordS ps fs i = 0 then flL ps fs n (i + 1) else ordS ps fs i
def portV (zs : List S42) (ps : List S39) (i : Nat) : Int :=
 if portS (rd_T39 ps (i : Int)).f0 = true then (if portI ps (rd_T39 ps (i : Int)).f0 < (i : Int) then 7 else if zoneI zs (rd_T39 ps (i : Int)).f1 < 0 then 6 else 0) else 1
def apL (zs : List S42) (ps : List S39) (fs : List S36) : Nat → Nat → Int
 | 0,_=>flL ps fs fs.length 0
 | n + 1,i=>if portV zs ps i = 0 then apL zs ps fs n (i + 1) else portV zs ps i
def zoneV (zs : List S42) (i : Nat) : Int :=
 if zoneS (rd_T42 zs (i : Int)).f0 (rd_T42 zs (i : Int)).f1 (rd_T42 zs (i : Int)).f2 = 0 then (if zoneI zs (rd_T42 zs (i : Int)).f0 < (i : Int) then 7 else 0) else zoneS (rd_T42 zs (i : Int)).f0 (rd_T42 zs (i : Int)).f1 (rd_T42 zs (i : Int)).f2
def zoL (zs : List S42) (ps : List S39) (fs : List S36) : Nat → Nat → Int
 | 0,_=>apL zs ps fs ps.length 0
 | n + 1,i=>if zoneV zs i = 0 then zoL zs ps fs n (i + 1) else zoneV zs i
def validS (zs : List S42) (ps : List S39) (fs : List S36) : Int:=if zs.length > 16 ∨ ps.length > 64 ∨ fs.length > 200 then 10 else zoL zs ps fs zs.length 0
theorem pV2 (zs : List S42) (ps : List S39) (fs : List S36) (hp : ps.length ≤ 64) (hf : fs.length ≤ 200) (n : Nat) : ∀ k i : Nat,n + 100 ≤ k → k ≤ 4611686018427387904 → i + n = fs.length → timetable_Validate.l2 k fs (fs.length : Int) (i : Int) zs ps fs = some (flL ps fs n i):=by
 induction n with
 | zero =>
  intro k i hk hk2 hi
  obtain ⟨k,rfl⟩ : ∃ m,k = m + 1:=⟨k - 1,by omega⟩
  simp only [timetable_Validate.l2,flL]
  rw [if_neg (by omega)]
 | succ n ih =>
  intro k i hk hk2 hi
  obtain ⟨k,rfl⟩ : ∃ m,k = m + 1:=⟨k - 1,by omega⟩
  simp only [timetable_Validate.l2,flL]
  rw [if_pos (by omega),if_pos (by omega),if_pos (by omega),pflight zs ps fs _ k (by omega) (by omega),Option.bind_some,w1 i (by omega),ih k (i + 1) (by omega) (by omega) (by omega)]
  by_cases h : flightS ps (rd_T36 fs (i : Int)) = 0
  ·rw [if_pos h,ord_ok h]
   by_cases h0 : 0 < i
   ·rw [if_pos (show (i : Int) > 0 by omega),w1' i (by omega) h0,if_pos (show 0 ≤ ((i - 1 : Nat) : Int) by omega),if_pos (show ((i - 1 : Nat) : Int) < (fs.length : Int) by omega),if_pos h0]
    unfold timetable_after.f
    generalize rd_T36 fs (i : Int) = f
    generalize rd_T36 fs ((i - 1 : Nat) : Int) = g
    by_cases h1 : f.f3 < g.f3
    ·rw [if_neg (by omega),if_neg (by omega),if_pos h1];rfl
    ·by_cases h2 : f.f3 = g.f3
     ·rw [if_neg (by omega),if_pos h2,if_neg h1,if_pos h2,Option.bind_some]
      cases Op.bytesLess g.f0.toList f.f0.toList <;> rfl
     ·rw [if_pos (by omega),if_neg h1,if_neg h2];rfl
   ·rw [if_neg (by omega),if_neg h0];rfl
  ·rw [if_neg h,ord_ne rfl h,if_neg h]
theorem rV2 (zs : List S42) (ps : List S39) (fs : List S36) (hp : ps.length ≤ 64) (hf : fs.length ≤ 200) (K : Nat) (hs : ∀ f ∈ fs,f.f0.size ≤ K) (n : Nat) : ∀ k i : Nat,n + 100 + K ≤ k → k ≤ 4611686018427387904 → i + n = fs.length → pairingref9_Validate.l2 k (i : Int) zs ps fs = some (flL ps fs n i):=by
 induction n with
 | zero =>
  intro k i hk hk2 hi
  obtain ⟨k,rfl⟩ : ∃ m,k = m + 1:=⟨k - 1,by omega⟩
  simp only [pairingref9_Validate.l2,flL]
  rw [if_neg (by omega)]
 | succ n ih =>
  intro k i hk hk2 hi
  obtain ⟨k,rfl⟩ : ∃ m,k = m + 1:=⟨k - 1,by omega⟩
  have hsz : (rd_T36 fs (i : Int)).f0.size ≤ K:=by
   refine hs _ ?_
   unfold rd_T36
   rw [Int.toNat_natCast,List.getD_eq_getElem?_getD,List.getElem?_eq_getElem (by omega)]
   exact List.getElem_mem _
  simp only [pairingref9_Validate.l2,flL]
  rw [if_pos (by omega),rflight zs ps fs i (by omega) k (by omega) (by omega) (by omega) (by omega),Option.bind_some,w1 i (by omega),ih k (i + 1) (by omega) (by omega) (by omega)]
  split <;> rfl
theorem pV1 (zs : List S42) (ps : List S39) (fs : List S36) (hz : zs.length ≤ 16) (hp : ps.length ≤ 64) (hf : fs.length ≤ 200) (n : Nat) : ∀ k i : Nat,n + 500 ≤ k → k ≤ 4611686018427387904 → i + n = ps.length → timetable_Validate.l1 k (ps.length : Int) (i : Int) zs ps fs = some (apL zs ps fs n i):=by
 induction n with
 | zero =>
  intro k i hk hk2 hi
  obtain ⟨k,rfl⟩ : ∃ m,k = m + 1:=⟨k - 1,by omega⟩
  simp only [timetable_Validate.l1,apL]
  rw [if_neg (by omega)]
  exact pV2 zs ps fs hp hf fs.length k 0 (by omega) (by omega) (by omega)
 | succ n ih =>
  intro k i hk hk2 hi
  obtain ⟨k,rfl⟩ : ∃ m,k = m + 1:=⟨k - 1,by omega⟩
  simp only [timetable_Validate.l1,apL]
  have hc : timetable_checkAirport.f k zs ps fs (i : Int) = some (portV zs ps i):=by
   unfold timetable_checkAirport.f portV
   rw [if_pos (by omega),if_pos (by omega),pport,Option.bind_some,pportI ps _ k (by omega) (by omega),Option.bind_some,pzoneI zs _ k (by omega) (by omega),Option.bind_some]
   repeat' split
   all_goals rfl
  rw [if_pos (by omega),hc,Option.bind_some,w1 i (by omega),ih k (i + 1) (by omega) (by omega) (by omega)]
  split <;> rfl
theorem rV1 (zs : List S42) (ps : List S39) (fs : List S36) (hz : zs.length ≤ 16) (hp : ps.length ≤ 64) (hf : fs.length ≤ 200) (K : Nat) (hs : ∀ f ∈ fs,f.f0.size ≤ K) (n : Nat) : ∀ k i : Nat,n + 500 + K ≤ k → k ≤ 4611686018427387904 → i + n = ps.length → pairingref9_Validate.l1 k (i : Int) zs ps fs = some (apL zs ps fs n i):=by
 induction n with
 | zero =>
  intro k i hk hk2 hi
  obtain ⟨k,rfl⟩ : ∃ m,k = m + 1:=⟨k - 1,by omega⟩
  simp only [pairingref9_Validate.l1,apL]
  rw [if_neg (by omega)]
  exact rV2 zs ps fs hp hf K hs fs.length k 0 (by omega) (by omega) (by omega)
 | succ n ih =>
  intro k i hk hk2 hi
  obtain ⟨k,rfl⟩ : ∃ m,k = m + 1:=⟨k - 1,by omega⟩
  have ht:=port_take ps (rd_T39 ps (i : Int)).f0 i (by omega) (by simp [aq])
  simp only [pairingref9_Validate.l1,apL]
  rw [if_pos (by omega),if_pos (by omega),rport,Option.bind_some,if_pos (show (i : Int) ≤ (ps.length : Int) by omega),Int.toNat_natCast,rportI (ps.take i) _ k (by rw [List.length_take];omega) (by omega),Option.bind_some,rzoneI zs _ k (by omega) (by omega),Option.bind_some,w1 i (by omega),ih k (i + 1) (by omega) (by omega) (by omega)]
  by_cases hS : portS (rd_T39 ps (i : Int)).f0 = true
  ·rw [if_pos hS]
   by_cases h1 : portI ps (rd_T39 ps (i : Int)).f0 < (i : Int)
   ·have hv : portV zs ps i = 7:=by unfold portV;rw [if_pos hS,if_pos h1]
    rw [if_pos (ht.2 h1),hv];rfl
   ·rw [if_neg (fun h=>h1 (ht.1 h))]
    by_cases h2 : zoneI zs (rd_T39 ps (i : Int)).f1 < 0
    ·have hv : portV zs ps i = 6:=by unfold portV;rw [if_pos hS,if_neg h1,if_pos h2]
     rw [if_pos h2,hv];rfl
    ·have hv : portV zs ps i = 0:=by unfold portV;rw [if_pos hS,if_neg h1,if_neg h2]
     rw [if_neg h2,hv];rfl
  ·have hv : portV zs ps i = 1:=by unfold portV;rw [if_neg hS]
   rw [if_neg hS,hv];rfl
theorem pV0 (zs : List S42) (ps : List S39) (fs : List S36) (hz : zs.length ≤ 16) (hp : ps.length ≤ 64) (hf : fs.length ≤ 200) (n : Nat) : ∀ k i : Nat,n + 1000 ≤ k → k ≤ 4611686018427387904 → i + n = zs.length → timetable_Validate.l0 k zs (zs.length : Int) (i : Int) zs ps fs = some (zoL zs ps fs n i):=by
 induction n with
 | zero =>
  intro k i hk hk2 hi
  obtain ⟨k,rfl⟩ : ∃ m,k = m + 1:=⟨k - 1,by omega⟩
  simp only [timetable_Validate.l0,zoL]
  rw [if_neg (by omega)]
  exact pV1 zs ps fs hz hp hf ps.length k 0 (by omega) (by omega) (by omega)
 | succ n ih =>
  intro k i hk hk2 hi
  obtain ⟨k,rfl⟩ : ∃ m,k = m + 1:=⟨k - 1,by omega⟩
  simp only [timetable_Validate.l0,zoL]
  rw [if_pos (by omega),if_pos (by omega),if_pos (by omega),pzone _ _ _ k (by omega),Option.bind_some,pzoneI zs _ k (by omega) (by omega),Option.bind_some,w1 i (by omega),ih k (i + 1) (by omega) (by omega) (by omega)]
  by_cases h : zoneS (rd_T42 zs (i : Int)).f0 (rd_T42 zs (i : Int)).f1 (rd_T42 zs (i : Int)).f2 = 0
  ·rw [if_pos h]
   by_cases h1 : zoneI zs (rd_T42 zs (i : Int)).f0 < (i : Int)
   ·have hv : zoneV zs i = 7:=by unfold zoneV;rw [if_pos h,if_pos h1]
    rw [if_pos h1,hv];rfl
   ·have hv : zoneV zs i = 0:=by unfold zoneV;rw [if_pos h,if_neg h1]
    rw [if_neg h1,hv];rfl
  ·have hv : zoneV zs i = zoneS (rd_T42 zs (i : Int)).f0 (rd_T42 zs (i : Int)).f1 (rd_T42 zs (i : Int)).f2:=by unfold zoneV;rw [if_neg h]
   rw [if_neg h,if_neg (by rw [hv];exact h),hv]
theorem rV0 (zs : List S42) (ps : List S39) (fs : List S36) (hz : zs.length ≤ 16) (hp : ps.length ≤ 64) (hf : fs.length ≤ 200) (K : Nat) (hs : ∀ f ∈ fs,f.f0.size ≤ K) (n : Nat) : ∀ k i : Nat,n + 1000 + K ≤ k → k ≤ 4611686018427387904 → i + n = zs.length → pairingref9_Validate.l0 k (i : Int) zs ps fs = some (zoL zs ps fs n i):=by
 induction n with
 | zero =>
  intro k i hk hk2 hi
  obtain ⟨k,rfl⟩ : ∃ m,k = m + 1:=⟨k - 1,by omega⟩
  simp only [pairingref9_Validate.l0,zoL]
  rw [if_neg (by omega)]
  exact rV1 zs ps fs hz hp hf K hs ps.length k 0 (by omega) (by omega) (by omega)
 | succ n ih =>
  intro k i hk hk2 hi
  obtain ⟨k,rfl⟩ : ∃ m,k = m + 1:=⟨k - 1,by omega⟩
  have ht:=zone_take zs (rd_T42 zs (i : Int)).f0 i (by omega) (by simp [zq])
  simp only [pairingref9_Validate.l0,zoL]
  rw [if_pos (by omega),if_pos (by omega),rzone _ _ _ k (by omega),Option.bind_some,if_pos (show (i : Int) ≤ (zs.length : Int) by omega),Int.toNat_natCast,rzoneI (zs.take i) _ k (by rw [List.length_take];omega) (by omega),Option.bind_some,w1 i (by omega),ih k (i + 1) (by omega) (by omega) (by omega)]
  by_cases h : zoneS (rd_T42 zs (i : Int)).f0 (rd_T42 zs (i : Int)).f1 (rd_T42 zs (i : Int)).f2 = 0
  ·rw [if_pos h]
   by_cases h1 : zoneI zs (rd_T42 zs (i : Int)).f0 < (i : Int)
   ·have hv : zoneV zs i = 7:=by unfold zoneV;rw [if_pos h,if_pos h1]
    rw [if_pos (ht.2 h1),hv];rfl
   ·have hv : zoneV zs i = 0:=by unfold zoneV;rw [if_pos h,if_neg h1]
    rw [if_neg (fun h=>h1 (ht.1 h)),hv];rfl
  ·have hv : zoneV zs i = zoneS (rd_T42 zs (i : Int)).f0 (rd_T42 zs (i : Int)).f1 (rd_T42 zs (i : Int)).f2:=by unfold zoneV;rw [if_neg h]
   rw [if_neg h,if_neg (by rw [hv];exact h),hv]
theorem pvalid (zs : List S42) (ps : List S39) (fs : List S36) (k : Nat) (hk : 1100 ≤ k) (hk2 : k ≤ 4611686018427387904) : timetable_Validate.f k zs ps fs = some (validS zs ps fs):=by
 obtain ⟨k,rfl⟩ : ∃ m,k = m + 1:=⟨k - 1,by omega⟩
 have ht : timetable_Validate.j0 (k + 1) true zs ps fs = some 10:=by simp only [timetable_Validate.j0];rw [if_pos trivial]
 unfold timetable_Validate.f validS
 by_cases h1 : (zs.length : Int) > 16
 ·rw [if_pos h1,ht,if_pos (.inl (by omega))]
 rw [if_neg h1]
 by_cases h2 : (ps.length : Int) > 64
 ·rw [if_pos h2,ht,if_pos (.inr (.inl (by omega)))]
 rw [if_neg h2]
 by_cases h3 : (fs.length : Int) > 200
 ·rw [decide_eq_true h3,ht,if_pos (.inr (.inr (by omega)))]
 rw [decide_eq_false h3,if_neg (by omega)]
 simp only [timetable_Validate.j0]
 rw [if_neg (show ¬ (false = true) by simp)]
 exact pV0 zs ps fs (by omega) (by omega) (by omega) zs.length k 0 (by omega) (by omega) (by omega)
theorem rvalid (zs : List S42) (ps : List S39) (fs : List S36) (K : Nat) (hs : ∀ f ∈ fs,f.f0.size ≤ K) (k : Nat) (hk : 1100 + K ≤ k) (hk2 : k ≤ 4611686018427387904) : pairingref9_Validate.f k zs ps fs = some (validS zs ps fs):=by
 obtain ⟨k,rfl⟩ : ∃ m,k = m + 1:=⟨k - 1,by omega⟩
 have ht : pairingref9_Validate.j0 (k + 1) true zs ps fs = some 10:=by simp only [pairingref9_Validate.j0];rw [if_pos trivial]
 unfold pairingref9_Validate.f validS
 by_cases h1 : (zs.length : Int) > 16
 ·rw [if_pos h1,ht,if_pos (.inl (by omega))]
 rw [if_neg h1]
 by_cases h2 : (ps.length : Int) > 64
 ·rw [if_pos h2,ht,if_pos (.inr (.inl (by omega)))]
 rw [if_neg h2]
 by_cases h3 : (fs.length : Int) > 200
 ·rw [decide_eq_true h3,ht,if_pos (.inr (.inr (by omega)))]
 rw [decide_eq_false h3,if_neg (by omega)]
 simp only [pairingref9_Validate.j0]
 rw [if_neg (show ¬ (false = true) by simp)]
 exact rV0 zs ps fs (by omega) (by omega) (by omega) K hs zs.length k 0 (by omega) (by omega) (by omega)
end Go.Proofs.Ytepnddmalheoiaa.TtC
namespace Go.Proofs.Ytepnddmalheoiaa.Q
open Go.Proofs.Ytepnddmalheoiaa.H
open Go.RowKit Go.Proofs.YtepnddmalheoiaaW.PrintWords Go.Proofs.YtepnddmalheoiaaW.PrintLast Go.Proofs.YtepnddmalheoiaaW.PrintMore
set_option linter.unusedVariables false
set_option linter.unusedSimpArgs false
def InI (x : Int) : Prop:=-9223372036854775808 ≤ x ∧ x ≤ 9223372036854775807
def InS (s : ByteArray) : Prop:=s.size ≤ 140737488351232
theorem inI_of {x : Int} (h : (Lit.int .i64 x).wf = true) : InI x:=bounds_i64 h
def gShift (s : S44) : Prop:=InI s.f0 ∧ InI s.f1
def gZone (z : S42) : Prop:=InS z.f0 ∧ InI z.f1 ∧ (∀ s ∈ z.f2,gShift s) ∧ z.f2.length * 16 ≤ 140737488351232
def gPort (p : S39) : Prop:=InS p.f0 ∧ InS p.f1
def gFlight (f : S36) : Prop:=InS f.f0 ∧ InS f.f1 ∧ InS f.f2 ∧ InI f.f3 ∧ InI f.f4 ∧ InS f.f5 ∧ InI f.f6.f0 ∧ InI f.f6.f1 ∧ InI f.f6.f2
theorem o_int : Opens Try.prog 3 (Kd.int .i64) InI:=opens_mono (opens_int Try.underlying3) fun _ h=>inI_of h
theorem o_str : Opens Try.prog 9 Kd.string InS:=opens_string Try.underlying9
theorem c_int : Try.prog.cellsOf 3 = 1:=by kernel_rfl
theorem c_str : Try.prog.cellsOf 9 = 1:=by kernel_rfl
theorem c_arr : Try.prog.cellsOf 34 = 3:=by kernel_rfl
theorem c_shs : Try.prog.cellsOf 40 = 1:=by kernel_rfl
theorem c_shift : Try.prog.cellsOf 44 = 2:=by kernel_rfl
theorem c_zone : Try.prog.cellsOf 42 = 3:=by kernel_rfl
theorem c_port : Try.prog.cellsOf 39 = 2:=by kernel_rfl
theorem c_flight : Try.prog.cellsOf 36 = 9:=by kernel_rfl
theorem o_shift : Opens Try.prog 44 k44 gShift :=
 opens_iso (opens_struct Try.underlying44 c_shift (opensL_cons o_int c_int (opensL_last o_int c_int))) (fun x : S44=>(x.f0,x.f1)) (fun a=>⟨a.1,a.2⟩) (fun _=>rfl)
theorem o_shs : Opens Try.prog 40 (Kd.slice 44 k44) (fun xs=>(∀ x ∈ xs,gShift x) ∧ xs.length * 16 ≤ 140737488351232):=opens_slice Try.underlying40 o_shift c_shift (by kernel_rfl)
theorem o_zone : Opens Try.prog 42 k42 gZone :=
 opens_iso (opens_struct Try.underlying42 c_zone (opensL_cons o_str c_str (opensL_cons o_int c_int (opensL_last o_shs c_shs)))) (fun x : S42=>(x.f0,x.f1,x.f2)) (fun a=>⟨a.1,a.2.1,a.2.2⟩) (fun _=>rfl)
theorem o_port : Opens Try.prog 39 k39 gPort :=
 opens_iso (opens_struct Try.underlying39 c_port (opensL_cons o_str c_str (opensL_last o_str c_str))) (fun x : S39=>(x.f0,x.f1)) (fun a=>⟨a.1,a.2⟩) (fun _=>rfl)
theorem l_arr : OpensL Try.prog ((List.range 3).map fun i=>(3,i * Try.prog.cellsOf 3)) 0 (Kd.pair (Kd.int .i64) (Kd.pair (Kd.int .i64) (Kd.int .i64))) (fun y=>InI y.1 ∧ InI y.2.1 ∧ InI y.2.2):=by
 rw [c_int]
 exact opensL_cons o_int c_int (opensL_cons o_int c_int (opensL_last o_int c_int))
theorem o_arr : Opens Try.prog 34 k34 (fun x=>InI x.f0 ∧ InI x.f1 ∧ InI x.f2) :=
 opens_iso (opens_array Try.underlying34 c_arr l_arr) (fun x : S34=>(x.f0,x.f1,x.f2)) (fun a=>⟨a.1,a.2.1,a.2.2⟩) (fun _=>rfl)
theorem o_flight : Opens Try.prog 36 k36 gFlight :=
 opens_iso (opens_struct Try.underlying36 c_flight (opensL_cons o_str c_str (opensL_cons o_str c_str (opensL_cons o_str c_str (opensL_cons o_int c_int (opensL_cons o_int c_int (opensL_cons o_str c_str (opensL_last o_arr c_arr)))))))) (fun x : S36=>(x.f0,x.f1,x.f2,x.f3,x.f4,x.f5,x.f6)) (fun a=>⟨a.1,a.2.1,a.2.2.1,a.2.2.2.1,a.2.2.2.2.1,a.2.2.2.2.2.1,a.2.2.2.2.2.2⟩) (fun _=>rfl)
def gTT (zs : List S42) (ps : List S39) (fs : List S36) : Prop:=((∀ z ∈ zs,gZone z) ∧ zs.length * 48 ≤ 140737488351232) ∧ ((∀ p ∈ ps,gPort p) ∧ ps.length * 32 ≤ 140737488351232) ∧ ((∀ f ∈ fs,gFlight f) ∧ fs.length * 104 ≤ 140737488351232)
def kO26 : Kd (List S42 × List S39 × List S36):=Kd.pair (Kd.slice 42 k42) (Kd.pair (Kd.slice 39 k39) (Kd.slice 36 k36))
def gO26 (y : List S42 × List S39 × List S36) : Prop:=gTT y.1 y.2.1 y.2.2
theorem oO26 : Opens Try.prog 26 kO26 gO26 :=
 opens_struct Try.underlying26 (by kernel_rfl) (opensL_cons (opens_slice Try.underlying22 o_zone c_zone (by kernel_rfl)) (by kernel_rfl) (opensL_cons (opens_slice Try.underlying23 o_port c_port (by kernel_rfl)) (by kernel_rfl) (opensL_last (opens_slice Try.underlying24 o_flight c_flight (by kernel_rfl)) (by kernel_rfl))))
theorem tt_cells {W : World} {y : List S42 × List S39 × List S36} {cs : Array Value} (h : kO26.K W y cs.toList) :
  ∃ A0 c0 A1 c1 A2 c2,cs = #[.slice A0 y.1.length c0,.slice A1 y.2.1.length c1,.slice A2 y.2.2.length c2] ∧ Kd.C k42 W A0 y.1.length y.1 ∧ y.1.length ≤ c0 ∧ Kd.C k39 W A1 y.2.1.length y.2.1 ∧ y.2.1.length ≤ c1 ∧ Kd.C k36 W A2 y.2.2.length y.2.2 ∧ y.2.2.length ≤ c2:=by
 obtain ⟨_,_,he,⟨A0,c0,rfl,l0,h0⟩,_,_,rfl,⟨A1,c1,rfl,l1,h1⟩,⟨A2,c2,rfl,l2,h2⟩⟩:=h
 exact ⟨A0,c0,A1,c1,A2,c2,by cases cs;simpa using he,h0,l0,h1,l1,h2,l2⟩
end Go.Proofs.Ytepnddmalheoiaa.Q
namespace Go.Proofs.Ytepnddmalheoiaa.H
open Go.RowKit Go.Proofs.YtepnddmalheoiaaW.PrintWords Go.Proofs.YtepnddmalheoiaaW.PrintLast Go.Proofs.YtepnddmalheoiaaW.PrintMore
set_option linter.unusedVariables false
set_option linter.unusedSimpArgs false
def IsW (w0 W : World) (g : Nat) (bs : List Int) : Prop:=∃ v,W.heap[g]? = some (.cells #[v] 79 (0,0)) ∧ w0.heap.size ≤ g ∧ Kd.R (Kd.int .u8) 5 W w0.heap.size (fun k=>k ≠ g) v bs
theorem IsW.below {w0 W W1 : World} {g : Nat} {bs : List Int} (h : IsW w0 W g bs) (hb : Below W.heap.size W W1) : IsW w0 W1 g bs:=by
 obtain ⟨v,h1,h2,h3⟩:=h
 exact ⟨v,blk_grown h1 (grown_of_below hb none) (by simp),h2,Kd.R_below h3 hb⟩
def KeepT (w w' : World) : Prop:=∀ (i : Nat) (cs : Array Value) (t : TypeId) (fr : Nat × Nat),w.heap[i]? = some (.cells cs t fr) → t ≠ 79 → t ≠ 5 → w'.heap[i]? = some (.cells cs t fr)
theorem KeepT.refl (w : World) : KeepT w w:=fun _ _ _ _ h _ _=>h
theorem KeepT.trans {w w1 w2 : World} (h : KeepT w w1) (h' : KeepT w1 w2) : KeepT w w2:=fun i cs t fr hi h1 h2=>h' i cs t fr (h i cs t fr hi h1 h2) h1 h2
theorem KeepT.of_below {w w1 : World} (h : Below w.heap.size w w1) : KeepT w w1:=fun i cs t fr hi _ _=>(h.block i (blk_lt hi)).trans hi
theorem KeepT.of_grown {w w1 : World} {v : Value} {bs : List Int} {base : Nat} {ok : Nat → Prop} (hv : Kd.R (Kd.int .u8) 5 w base ok v bs) (h : w.grownBy w1 v.ownBlock) : KeepT w w1:=by
 intro i cs t fr hi _ h2
 refine (h.block i (blk_lt hi) ?_).trans hi
 intro he
 obtain ⟨_,_,_,q,hq,cells,hc⟩:=(Kd.R_bound hv).1 i he.symm
 simp only [List.mem_cons,Kd.int,Kd.scalar,List.not_mem_nil,or_false] at hq
 rw [hi] at hc
 injection hc with hc
 injection hc with _ ht
 exact h2 (ht.trans hq)
theorem KeepT.set {w : World} {g j : Nat} {cs : Array Value} {u : Value} (hb : w.heap[g]? = some (.cells cs 79 (0,0))) : KeepT w (w.setCell ⟨g,j,none⟩ u):=by
 intro i cs' t fr hi h1 _
 have hne : i ≠ g:=by
  rintro rfl
  rw [hb] at hi
  injection hi with hi
  injection hi with _ ht
  exact h1 ht.symm
 exact (Below.heap_setCell w ⟨g,j,none⟩ u i hne).trans hi
set_option maxHeartbeats 8000000 in
set_option maxRecDepth 100000 in
theorem writer_uint_calls (k g : Nat) (bs : List Int) (n : Int) (xs : List Int) (e : Int) (w0 w : World) (hI : IsW w0 w g bs) (hB : Below w0.heap.size w0 w) (hE : K.wire_EncodeUint.f k n = some (xs,e)) (hl : bs.length + xs.length ≤ 140737488355328) :
  Calls Try.prog 40 #[.pointer (some ⟨g,0,none⟩),.int .i64 n] w fun r w'=>r = .returned (.tuple #[]) ∧ IsW w0 w' g (bs ++ xs) ∧ Below w0.heap.size w0 w' ∧ KeepT w w':=by
 have HI:=Aside0.mk hI
 have HB:=Aside0.mk hB
 clear hI hB
 go_enter Try.func40,Try.ntmps40
 go_wp2_with fail
 refine (K.wire_EncodeUint.calls k n xs e _ hE).mono ?_
 rintro e_ w1 ⟨v0,rfl,hR,hb1⟩
 have HR:=Aside0.mk hR
 have HB1:=Aside0.mk (below_step HB.out hb1)
 obtain ⟨v,hb,hg,hv⟩:=HI.out.below hb1
 have HK1:=Aside0.mk (KeepT.of_below hb1)
 clear hR hb1 HI
 have hc0 : w1.cell? ⟨g,0,none⟩ = some v:=(blk_cell hb 0).trans rfl
 have hf0:=blk_frozen hb 0
 have HBk:=Aside0.mk hb
 have HV:=Aside0.mk hv
 clear hb hv
 obtain ⟨A,c,hv0,hrd⟩:=own_reads (k:=.u8) (xs:=xs) (show w1.ownsRow w.heap.size 5 1 v0 xs.length (nums .u8 xs) from Kd.own_of_R HR.out)
 subst hv0
 have HRd:=Aside0.mk hrd
 have hs1 : w0.heap.size ≤ w1.heap.size:=HB1.out.size
 have hgv : some g ≠ v.ownBlock:=fun h=>HV.out.1 g h.symm rfl
 clear hrd
 go_wp2_with (at_builtin;refine print_append_row (w0:=w0) w0.heap.size rfl (.tmp 15) _ 46 5 .u8 1 rfl Try.underlying46 infoB (by decide) v bs xs A xs.length c rfl rfl (Kd.own_of_R HV.out) HRd.out HB1.out hs1 (by omega) ?_;intro v1 w2 ho hb2 hg2 hat;obtain ⟨A1,c1,hv1,_⟩:=own_reads ho;subst hv1;have hbk2:=blk_grown HBk.out hg2 hgv;have hc2 : w2.cell? ⟨g,0,none⟩ = some v:=(blk_cell hbk2 0).trans rfl;have hf2:=blk_frozen hbk2 0;have HBk2:=Aside0.mk hbk2;have HO2:=Aside0.mk ho;have HB2:=Aside0.mk hb2;have HAt:=Aside0.mk hat;have HK2:=Aside0.mk (KeepT.of_grown HV.out hg2);clear ho hb2 hg2 hat hbk2)
 have hok : ∀ q,(Value.slice A1 (bs ++ xs).length c1).ownBlock = some q → q ≠ g:=by
  intro q hq
  rcases HAt.out with h|⟨b,h,hb⟩
  ·exact HV.out.1 q (h ▸ hq)
  ·have : b = q:=Option.some.inj (h.symm.trans hq)
   have:=blk_lt HBk.out
   omega
 have hR2 : Kd.R (Kd.int .u8) 5 w2 w0.heap.size (fun q=>q ≠ g) (.slice A1 (bs ++ xs).length c1) (bs ++ xs):=Kd.R_of_own (h1:=fun _=>rfl) HO2.out hok
 rw [List.length_append] at hR2
 refine bodyPost_end (v:=.tuple #[]) (by simp [results,Try.results40,go_sem]) rfl ⟨rfl,⟨_,blk_put HBk2.out 0 _ rfl,hg,Kd.R_far (p:=⟨g,0,none⟩) hR2 (fun q hq=>hq) _⟩,below_set HB2.out hg,(HK1.out.trans HK2.out).trans (KeepT.set HBk2.out)⟩
set_option maxHeartbeats 8000000 in
set_option maxRecDepth 100000 in
theorem writer_int_calls (k g : Nat) (bs : List Int) (n : Int) (xs : List Int) (e : Int) (w0 w : World) (hI : IsW w0 w g bs) (hB : Below w0.heap.size w0 w) (hE : K.wire_EncodeInt.f k n = some (xs,e)) (hl : bs.length + xs.length ≤ 140737488355328) :
  Calls Try.prog 42 #[.pointer (some ⟨g,0,none⟩),.int .i64 n] w fun r w'=>r = .returned (.tuple #[]) ∧ IsW w0 w' g (bs ++ xs) ∧ Below w0.heap.size w0 w' ∧ KeepT w w':=by
 have HI:=Aside0.mk hI
 have HB:=Aside0.mk hB
 clear hI hB
 go_enter Try.func42,Try.ntmps42
 go_wp2_with fail
 refine (K.wire_EncodeInt.calls k n xs e _ hE).mono ?_
 rintro e_ w1 ⟨v0,rfl,hR,hb1⟩
 have HR:=Aside0.mk hR
 have HB1:=Aside0.mk (below_step HB.out hb1)
 obtain ⟨v,hb,hg,hv⟩:=HI.out.below hb1
 have HK1:=Aside0.mk (KeepT.of_below hb1)
 clear hR hb1 HI
 have hc0 : w1.cell? ⟨g,0,none⟩ = some v:=(blk_cell hb 0).trans rfl
 have hf0:=blk_frozen hb 0
 have HBk:=Aside0.mk hb
 have HV:=Aside0.mk hv
 clear hb hv
 obtain ⟨A,c,hv0,hrd⟩:=own_reads (k:=.u8) (xs:=xs) (show w1.ownsRow w.heap.size 5 1 v0 xs.length (nums .u8 xs) from Kd.own_of_R HR.out)
 subst hv0
 have HRd:=Aside0.mk hrd
 have hs1 : w0.heap.size ≤ w1.heap.size:=HB1.out.size
 have hgv : some g ≠ v.ownBlock:=fun h=>HV.out.1 g h.symm rfl
 clear hrd
 go_wp2_with (at_builtin;refine print_append_row (w0:=w0) w0.heap.size rfl (.tmp 15) _ 46 5 .u8 1 rfl Try.underlying46 infoB (by decide) v bs xs A xs.length c rfl rfl (Kd.own_of_R HV.out) HRd.out HB1.out hs1 (by omega) ?_;intro v1 w2 ho hb2 hg2 hat;obtain ⟨A1,c1,hv1,_⟩:=own_reads ho;subst hv1;have hbk2:=blk_grown HBk.out hg2 hgv;have hc2 : w2.cell? ⟨g,0,none⟩ = some v:=(blk_cell hbk2 0).trans rfl;have hf2:=blk_frozen hbk2 0;have HBk2:=Aside0.mk hbk2;have HO2:=Aside0.mk ho;have HB2:=Aside0.mk hb2;have HAt:=Aside0.mk hat;have HK2:=Aside0.mk (KeepT.of_grown HV.out hg2);clear ho hb2 hg2 hat hbk2)
 have hok : ∀ q,(Value.slice A1 (bs ++ xs).length c1).ownBlock = some q → q ≠ g:=by
  intro q hq
  rcases HAt.out with h|⟨b,h,hb⟩
  ·exact HV.out.1 q (h ▸ hq)
  ·have : b = q:=Option.some.inj (h.symm.trans hq)
   have:=blk_lt HBk.out
   omega
 have hR2 : Kd.R (Kd.int .u8) 5 w2 w0.heap.size (fun q=>q ≠ g) (.slice A1 (bs ++ xs).length c1) (bs ++ xs):=Kd.R_of_own (h1:=fun _=>rfl) HO2.out hok
 rw [List.length_append] at hR2
 refine bodyPost_end (v:=.tuple #[]) (by simp [results,Try.results42,go_sem]) rfl ⟨rfl,⟨_,blk_put HBk2.out 0 _ rfl,hg,Kd.R_far (p:=⟨g,0,none⟩) hR2 (fun q hq=>hq) _⟩,below_set HB2.out hg,(HK1.out.trans HK2.out).trans (KeepT.set HBk2.out)⟩
def textsF (k : Nat) : List ByteArray → Option (List Int)
 | []=>some []
 | t :: ts=>(K.wire_EncodeText.f k t).bind fun r=>(textsF k ts).bind fun q=>some (r.1 ++ q)
set_option maxHeartbeats 8000000 in
set_option maxRecDepth 100000 in
theorem writer_text_calls (k g a c : Nat) (bs : List Int) (ts : List ByteArray) (out : List Int) (w0 w : World) (hI : IsW w0 w g bs) (hB : Below w0.heap.size w0 w) (ha : w.heap[a]? = some (.cells (ts.map Value.string).toArray 9 (0,0))) (hc : ts.length ≤ c) (hE : textsF k ts = some out) (hl : bs.length + out.length ≤ 140737488355328) (hn : ts.length < 4611686018427387904) :
  Calls Try.prog 41 #[.pointer (some ⟨g,0,none⟩),.slice (some ⟨a,0,none⟩) ts.length c] w fun r w'=>r = .returned (.tuple #[]) ∧ IsW w0 w' g (bs ++ out) ∧ Below w0.heap.size w0 w' ∧ KeepT w w':=by
 have HI:=Aside0.mk hI
 have HB:=Aside0.mk hB
 have HA:=Aside0.mk ha
 have HE:=Aside0.mk hE
 clear hI hB ha hE
 go_enter Try.func41,Try.ntmps41
 go_wp2
 go_loopg [10] ts.length (fun gk v10 wx=>∃ (x : Int) (bs1 rest : List Int),v10 = .int .i64 x ∧ 0 ≤ x ∧ x + gk = ts.length ∧ Aside0 (textsF k (ts.drop x.toNat) = some rest ∧ bs1 ++ rest = bs ++ out) ∧ Aside0 (IsW w0 wx g bs1) ∧ Aside0 (Below w0.heap.size w0 wx) ∧ Aside0 (KeepT w wx))
 case atStart=>exact ⟨0,bs,out,rfl,by omega,by omega,⟨by simpa using HE.out,rfl⟩,HI,HB,⟨KeepT.refl w⟩⟩
 case round =>
  obtain ⟨x,bs1,rest,rfl,h0,hj,HT,HI1,HB1,HK1⟩:=hrel
  cases gk with
  | zero =>
   have c1 : decide (x < (ts.length : Int)) = false:=decide_eq_false (by omega)
   obtain ⟨h1,h2⟩:=HT.out
   rw [List.drop_eq_nil_of_le (by omega)] at h1
   obtain rfl:=Option.some.inj h1
   rw [List.append_nil] at h2
   subst h2
   go_wp2
   exact bodyPost_end (v:=.tuple #[]) (by simp [results,Try.results41,go_sem]) rfl ⟨rfl,HI1.out,HB1.out,HK1.out⟩
  | succ gk =>
   have c1 : decide (x < (ts.length : Int)) = true:=decide_eq_true (by omega)
   have p4 : (0 ≤ x) = True:=eq_true (by omega)
   have q4 : (x < (ts.length : Int)) = True:=eq_true (by omega)
   obtain ⟨h1,h2⟩:=HT.out
   rw [List.drop_eq_getElem_cons (show x.toNat < ts.length by omega)] at h1
   have hget : ts[x.toNat]? = some ts[x.toNat]:=List.getElem?_eq_getElem (by omega)
   generalize ts[x.toNat] = t at *
   obtain ⟨⟨xs,e⟩,hE1,h1⟩:=Option.bind_eq_some_iff.1 h1
   obtain ⟨q,hq,h1⟩:=Option.bind_eq_some_iff.1 h1
   obtain rfl:=Option.some.inj h1
   have ha1:=HK1.out a _ _ _ HA.out (by decide) (by decide)
   have hcell : wr.cell? ⟨a,x.toNat,none⟩ = some (.string t):=by rw [blk_cell ha1];simp [hget]
   have hfa:=blk_frozen ha1 x.toNat
   have HE1:=Aside0.mk hE1
   have HQ:=Aside0.mk hq
   have H2:=Aside0.mk h2
   clear hE1 hq h2 HT ha1
   go_wp2_with fail
   refine (K.wire_EncodeText.calls k t xs e _ HE1.out).mono ?_
   rintro e_ w1 ⟨v0,rfl,hR,hb1⟩
   have HR:=Aside0.mk hR
   have HB2:=Aside0.mk (below_step HB1.out hb1)
   obtain ⟨v,hb,hg,hv⟩:=HI1.out.below hb1
   have HK2:=Aside0.mk (KeepT.of_below hb1)
   clear hR hb1 HI1
   have hc0 : w1.cell? ⟨g,0,none⟩ = some v:=(blk_cell hb 0).trans rfl
   have hf0:=blk_frozen hb 0
   have HBk:=Aside0.mk hb
   have HV:=Aside0.mk hv
   clear hb hv
   obtain ⟨A,c0,hv0,hrd⟩:=own_reads (k:=.u8) (xs:=xs) (show w1.ownsRow wr.heap.size 5 1 v0 xs.length (nums .u8 xs) from Kd.own_of_R HR.out)
   subst hv0
   have HRd:=Aside0.mk hrd
   have hs1 : w0.heap.size ≤ w1.heap.size:=HB2.out.size
   have hgv : some g ≠ v.ownBlock:=fun h=>HV.out.1 g h.symm rfl
   have hlen:=congrArg List.length H2.out
   simp only [List.length_append] at hlen
   clear hrd
   go_wp2_with (at_builtin;refine print_append_row (w0:=w0) w0.heap.size rfl (.tmp 23) _ 46 5 .u8 1 rfl Try.underlying46 infoB (by decide) v bs1 xs A xs.length c0 rfl rfl (Kd.own_of_R HV.out) HRd.out HB2.out hs1 (by omega) ?_;intro v1 w2 ho hb2 hg2 hat;obtain ⟨A1,c1_,hv1,_⟩:=own_reads ho;subst hv1;have hbk2:=blk_grown HBk.out hg2 hgv;have hc2 : w2.cell? ⟨g,0,none⟩ = some v:=(blk_cell hbk2 0).trans rfl;have hf2:=blk_frozen hbk2 0;have HBk2:=Aside0.mk hbk2;have HO2:=Aside0.mk ho;have HB3:=Aside0.mk hb2;have HAt:=Aside0.mk hat;have HK3:=Aside0.mk (KeepT.of_grown HV.out hg2);clear ho hb2 hg2 hat hbk2)
   have hok : ∀ q,(Value.slice A1 (bs1 ++ xs).length c1_).ownBlock = some q → q ≠ g:=by
    intro q hq
    rcases HAt.out with h|⟨b,h,hb⟩
    ·exact HV.out.1 q (h ▸ hq)
    ·have : b = q:=Option.some.inj (h.symm.trans hq)
     have:=blk_lt HBk.out
     omega
   have hR2 : Kd.R (Kd.int .u8) 5 w2 w0.heap.size (fun q=>q ≠ g) (.slice A1 (bs1 ++ xs).length c1_) (bs1 ++ xs):=Kd.R_of_own (h1:=fun _=>rfl) HO2.out hok
   rw [List.length_append] at hR2
   have hw : wrap64 (x + 1) = x + 1:=by unfold wrap64;omega
   go_roundg gk
   case measure=>omega
   case rel =>
    refine ⟨x + 1,bs1 ++ xs,q,by first|rfl|rw [hw],by omega,by omega,⟨?_,?_⟩,⟨⟨_,blk_put HBk2.out 0 _ rfl,hg,Kd.R_far (p:=⟨g,0,none⟩) hR2 (fun q hq=>hq) _⟩⟩,⟨below_set HB3.out hg⟩,⟨((HK1.out.trans HK2.out).trans HK3.out).trans (KeepT.set HBk2.out)⟩⟩
    ·rw [show (x + 1).toNat = x.toNat + 1 by omega];exact HQ.out
    ·rw [List.append_assoc];exact H2.out
end Go.Proofs.Ytepnddmalheoiaa.H
namespace Go.Proofs.Ytepnddmalheoiaa.Q
open Go.Proofs.Ytepnddmalheoiaa.H
open Go.RowKit Go.Proofs.YtepnddmalheoiaaW.PrintWords Go.Proofs.YtepnddmalheoiaaW.PrintLast Go.Proofs.YtepnddmalheoiaaW.PrintMore
set_option linter.unusedVariables false
set_option linter.unusedSimpArgs false
def shiftsF (k : Nat) : List S44 → Option (List Int)
 | []=>some []
 | s :: t=>(K.wire_EncodeUint.f k s.f0).bind fun a=>(K.wire_EncodeInt.f k s.f1).bind fun b=>(shiftsF k t).bind fun r=>some (a.1 ++ (b.1 ++ r))
def zonesF (k : Nat) : List S42 → Option (List Int)
 | []=>some []
 | z :: t=>(textsF k [z.f0]).bind fun a=>(K.wire_EncodeInt.f k z.f1).bind fun b=>(K.wire_EncodeUint.f k (z.f2.length : Int)).bind fun c=>(shiftsF k z.f2).bind fun d=>(zonesF k t).bind fun r=>some (a ++ (b.1 ++ (c.1 ++ (d ++ r))))
def portsF (k : Nat) : List S39 → Option (List Int)
 | []=>some []
 | p :: t=>(textsF k [p.f0,p.f1]).bind fun a=>(portsF k t).bind fun r=>some (a ++ r)
def uintsF (k : Nat) : List Int → Option (List Int)
 | []=>some []
 | n :: t=>(K.wire_EncodeUint.f k n).bind fun a=>(uintsF k t).bind fun r=>some (a.1 ++ r)
def flightsF (k : Nat) : List S36 → Option (List Int)
 | []=>some []
 | f :: t=>(textsF k [f.f0,f.f1,f.f2]).bind fun a=>(K.wire_EncodeUint.f k f.f3).bind fun b=>(K.wire_EncodeUint.f k f.f4).bind fun c=>(textsF k [f.f5]).bind fun d=>(uintsF k [f.f6.f0,f.f6.f1,f.f6.f2]).bind fun e=>(flightsF k t).bind fun r=>some (a ++ (b.1 ++ (c.1 ++ (d ++ (e ++ r)))))
def bodyF (k : Nat) (zs : List S42) (ps : List S39) (fs : List S36) : Option (List Int) :=
 (K.wire_EncodeUint.f k (zs.length : Int)).bind fun a=>(zonesF k zs).bind fun b=>(K.wire_EncodeUint.f k (ps.length : Int)).bind fun c=>(portsF k ps).bind fun d=>(K.wire_EncodeUint.f k (fs.length : Int)).bind fun e=>(flightsF k fs).bind fun f=>some (a.1 ++ (b ++ (c.1 ++ (d ++ (e.1 ++ f)))))
def timetable_Encode.f (k : Nat) (zs : List S42) (ps : List S39) (fs : List S36) : Option (List Int × Int) :=
 (timetable_Validate.f k zs ps fs).bind fun e=>if e = 0 then (bodyF k zs ps fs).bind fun b=>if b.length ≤ 140737488355328 then (if b.length > 1048576 then some ([],10) else K.wire_Frame.f k 1 b) else none else some ([],e)
theorem heap_two (w : World) (o1 o2 : Obj) : ((w.alloc o1).alloc o2).heap[w.heap.size + 1]? = some o2:=by
 have h:=heap_alloc_new (w.alloc o1) o2
 simpa using h
structure Pt (w W : World) (g : Nat) (T : Array Value) (bs : List Int) : Prop where
 wr : IsW w W g bs
 be : Below w.heap.size w W
 tt : W.heap[w.heap.size]? = some (.cells T 26 (0,0))
theorem Pt.alloc {w W : World} {g : Nat} {T : Array Value} {bs : List Int} (h : Pt w W g T bs) (o : Obj) : Pt w (W.alloc o) g T bs :=
 ⟨h.wr.below (below_alloc (Below.refl _ _) o),below_alloc h.be o,blk_alloc h.tt o⟩
theorem Pt.step {w W W1 : World} {g : Nat} {T : Array Value} {bs bs1 : List Int} (h : Pt w W g T bs) (h1 : IsW w W1 g bs1 ∧ Below w.heap.size w W1 ∧ KeepT W W1) : Pt w W1 g T bs1 :=
 ⟨h1.1,h1.2.1,h1.2.2 _ _ _ _ h.tt (by decide) (by decide)⟩
set_option maxHeartbeats 8000000 in
set_option maxRecDepth 100000 in
theorem timetable_Encode.calls (k : Nat) (A0_0 : Option Addr) (c0_0 : Nat) (l0_0 : List S42) (A0_1 : Option Addr) (c0_1 : Nat) (l0_1 : List S39) (A0_2 : Option Addr) (c0_2 : Nat) (l0_2 : List S36) (r1 : List Int) (r2 : Int) (w : World) (hr0_0 : Kd.C k42 w A0_0 l0_0.length l0_0) (hc0_0 : l0_0.length ≤ c0_0) (hr0_1 : Kd.C k39 w A0_1 l0_1.length l0_1) (hc0_1 : l0_1.length ≤ c0_1) (hr0_2 : Kd.C k36 w A0_2 l0_2.length l0_2) (hc0_2 : l0_2.length ≤ c0_2) (h : timetable_Encode.f k l0_0 l0_1 l0_2 = some (r1,r2)) :
  Calls Try.prog 14 #[.agg #[.slice A0_0 l0_0.length c0_0,.slice A0_1 l0_1.length c0_1,.slice A0_2 l0_2.length c0_2]] w fun e w'=>∃ v0_ : Value,e = .returned (.tuple #[v0_,.int .i64 r2]) ∧ Kd.R (Kd.int .u8) 5 w' w.heap.size (fun _=>True) v0_ r1 ∧ Below w.heap.size w w':=by
 have HR0:=Aside0.mk hr0_0
 have HR1:=Aside0.mk hr0_1
 have HR2:=Aside0.mk hr0_2
 have HC0:=Aside0.mk hc0_0
 have HC1:=Aside0.mk hc0_1
 have HC2:=Aside0.mk hc0_2
 have hu26:=Try.underlying26
 have L0:=Aside0.mk hr0_0.2.1
 have L1:=Aside0.mk hr0_1.2.1
 have L2:=Aside0.mk hr0_2.2.1
 unfold timetable_Encode.f at h
 obtain ⟨e,hV,h⟩:=Option.bind_eq_some_iff.1 h
 have HV:=Aside0.mk hV
 have HH:=Aside0.mk h
 clear hr0_0 hr0_1 hr0_2 hc0_0 hc0_1 hc0_2 h hV
 go_enter Try.func14,Try.ntmps14
 go_wp2_with fail
 refine (timetable_Validate.calls k _ _ l0_0 _ _ l0_1 _ _ l0_2 e _ (Kd.C_alloc HR0.out _) HC0.out (Kd.C_alloc HR1.out _) HC1.out (Kd.C_alloc HR2.out _) HC2.out HV.out).mono ?_
 rintro e_ w1 ⟨rfl,hb1⟩
 have HB1:=Aside0.mk (below_step (below_alloc (Below.refl w.heap.size w) _) hb1)
 have HBK:=Aside0.mk (blk_below (heap_alloc_new w _) hb1)
 clear hb1
 have H:=HH.out
 by_cases he : e = 0
 ·have c1 : (e != 0) = false:=bne_eq_false_iff_eq.mpr he
  rw [if_pos he] at H
  obtain ⟨b,hbody,H⟩:=Option.bind_eq_some_iff.1 H
  have hlen : b.length ≤ 140737488355328:=by
   by_cases hq : b.length ≤ 140737488355328
   ·exact hq
   ·rw [if_neg hq] at H;cases H
  rw [if_pos hlen] at H
  unfold bodyF at hbody
  obtain ⟨⟨n1,e1⟩,hn1,hbody⟩:=Option.bind_eq_some_iff.1 hbody
  obtain ⟨zb,hzb,hbody⟩:=Option.bind_eq_some_iff.1 hbody
  obtain ⟨⟨n2,e2⟩,hn2,hbody⟩:=Option.bind_eq_some_iff.1 hbody
  obtain ⟨pb,hpb,hbody⟩:=Option.bind_eq_some_iff.1 hbody
  obtain ⟨⟨n3,e3⟩,hn3,hbody⟩:=Option.bind_eq_some_iff.1 hbody
  obtain ⟨fb,hfb,hbody⟩:=Option.bind_eq_some_iff.1 hbody
  have hbody:=Option.some.inj hbody
  simp only at hbody
  subst hbody
  simp only [List.length_append] at hlen
  have HLEN:=Aside0.mk hlen
  have HZ:=Aside0.mk hzb
  have HP:=Aside0.mk hpb
  have HF:=Aside0.mk hfb
  have HN1:=Aside0.mk hn1
  have HN2:=Aside0.mk hn2
  have HN3:=Aside0.mk hn3
  have HE:=Aside0.mk H
  clear hzb hpb hfb hn1 hn2 hn3 hlen H HH he
  obtain ⟨T,hT⟩ : ∃ T : Array Value,T = #[.slice A0_0 l0_0.length c0_0,.slice A0_1 l0_1.length c0_1,.slice A0_2 l0_2.length c0_2]:=⟨_,rfl⟩
  have HPt:=Aside0.mk (show Pt w (w1.alloc (.cells #[.slice none 0 0] 79 (0,0))) w1.heap.size #[.slice A0_0 l0_0.length c0_0,.slice A0_1 l0_1.length c0_1,.slice A0_2 l0_2.length c0_2] [] from
   ⟨⟨_,heap_alloc_new _ _,HB1.out.size,Kd.R_nil _ _ _ _ _⟩,below_alloc HB1.out _,blk_alloc HBK.out _⟩)
  have ha0:=(blk_cell HPt.out.tt 0).trans rfl
  have ha1:=(blk_cell HPt.out.tt 1).trans rfl
  have ha2:=(blk_cell HPt.out.tt 2).trans rfl
  go_wp2_with fail
  refine (writer_uint_calls k w1.heap.size [] _ n1 e1 w _ HPt.out.wr HPt.out.be HN1.out (by have:=HLEN.out;simp;omega)).mono ?_
  rintro e_ w2 ⟨rfl,h2⟩
  have HPt2:=Aside0.mk (HPt.out.step h2)
  have ha0:=(blk_cell HPt2.out.tt 0).trans rfl
  have ha1:=(blk_cell HPt2.out.tt 1).trans rfl
  have ha2:=(blk_cell HPt2.out.tt 2).trans rfl
  clear h2 HPt
  go_wp2
  go_loopg [31] l0_0.length (fun gk v31 wx=>∃ (x : Int) (bs1 rest : List Int),v31 = .int .i64 x ∧ 0 ≤ x ∧ x + gk = l0_0.length ∧ Aside0 (zonesF k (l0_0.drop x.toNat) = some rest ∧ bs1 ++ rest = n1 ++ zb) ∧ Aside0 (Pt w wx w1.heap.size #[.slice A0_0 l0_0.length c0_0,.slice A0_1 l0_1.length c0_1,.slice A0_2 l0_2.length c0_2] bs1))
  case atStart=>exact ⟨0,n1,zb,rfl,by omega,by omega,⟨by simpa using HZ.out,rfl⟩,⟨by simpa using HPt2.out⟩⟩
  case round =>
   obtain ⟨x,bs1,rest,rfl,h0,hj,HT,HPt⟩:=hrel
   cases gk with
   | zero =>
    have c1 : decide (x < (l0_0.length : Int)) = false:=decide_eq_false (by omega)
    obtain ⟨h1,h2⟩:=HT.out
    rw [List.drop_eq_nil_of_le (by omega)] at h1
    obtain rfl:=Option.some.inj h1
    rw [List.append_nil] at h2
    subst h2
    have ha0:=(blk_cell HPt.out.tt 0).trans rfl
    have ha1:=(blk_cell HPt.out.tt 1).trans rfl
    have ha2:=(blk_cell HPt.out.tt 2).trans rfl
    go_wp2_with fail
    refine (writer_uint_calls k w1.heap.size (n1 ++ zb) _ n2 e2 w _ HPt.out.wr HPt.out.be HN2.out (by have:=HLEN.out;simp at this ⊢;omega)).mono ?_
    rintro e_ w3 ⟨rfl,h8⟩
    have HPq:=Aside0.mk (HPt.out.step h8)
    clear h8 HPt
    have ha0:=(blk_cell HPq.out.tt 0).trans rfl
    have ha1:=(blk_cell HPq.out.tt 1).trans rfl
    have ha2:=(blk_cell HPq.out.tt 2).trans rfl
    go_wp2
    go_loopg [74] l0_1.length (fun gk v74 wx=>∃ (x : Int) (bs1 rest : List Int),v74 = .int .i64 x ∧ 0 ≤ x ∧ x + gk = l0_1.length ∧ Aside0 (portsF k (l0_1.drop x.toNat) = some rest ∧ bs1 ++ rest = n1 ++ zb ++ n2 ++ pb) ∧ Aside0 (Pt w wx w1.heap.size #[.slice A0_0 l0_0.length c0_0,.slice A0_1 l0_1.length c0_1,.slice A0_2 l0_2.length c0_2] bs1))
    case atStart=>exact ⟨0,n1 ++ zb ++ n2,pb,rfl,by omega,by omega,⟨by simpa using HP.out,rfl⟩,⟨HPq.out⟩⟩
    case round =>
     obtain ⟨x,bs1,rest,rfl,h0,hj,HT,HPt⟩:=hrel
     cases gk with
     | zero =>
      have c1 : decide (x < (l0_1.length : Int)) = false:=decide_eq_false (by omega)
      obtain ⟨h1,h2⟩:=HT.out
      rw [List.drop_eq_nil_of_le (by omega)] at h1
      obtain rfl:=Option.some.inj h1
      rw [List.append_nil] at h2
      subst h2
      have ha0:=(blk_cell HPt.out.tt 0).trans rfl
      have ha1:=(blk_cell HPt.out.tt 1).trans rfl
      have ha2:=(blk_cell HPt.out.tt 2).trans rfl
      go_wp2_with fail
      refine (writer_uint_calls k w1.heap.size (n1 ++ zb ++ n2 ++ pb) _ n3 e3 w _ HPt.out.wr HPt.out.be HN3.out (by have:=HLEN.out;simp at this ⊢;omega)).mono ?_
      rintro e_ w4 ⟨rfl,h8⟩
      have HPr:=Aside0.mk (HPt.out.step h8)
      clear h8 HPt
      have ha0:=(blk_cell HPr.out.tt 0).trans rfl
      have ha1:=(blk_cell HPr.out.tt 1).trans rfl
      have ha2:=(blk_cell HPr.out.tt 2).trans rfl
      go_wp2
      go_loopg [94] l0_2.length (fun gk v94 wx=>∃ (x : Int) (bs1 rest : List Int),v94 = .int .i64 x ∧ 0 ≤ x ∧ x + gk = l0_2.length ∧ Aside0 (flightsF k (l0_2.drop x.toNat) = some rest ∧ bs1 ++ rest = n1 ++ zb ++ n2 ++ pb ++ n3 ++ fb) ∧ Aside0 (Pt w wx w1.heap.size #[.slice A0_0 l0_0.length c0_0,.slice A0_1 l0_1.length c0_1,.slice A0_2 l0_2.length c0_2] bs1))
      case atStart=>exact ⟨0,n1 ++ zb ++ n2 ++ pb ++ n3,fb,rfl,by omega,by omega,⟨by simpa using HF.out,rfl⟩,⟨HPr.out⟩⟩
      case round =>
       obtain ⟨x,bs1,rest,rfl,h0,hj,HT,HPt⟩:=hrel
       cases gk with
       | zero =>
        have c1 : decide (x < (l0_2.length : Int)) = false:=decide_eq_false (by omega)
        obtain ⟨h1,h2⟩:=HT.out
        rw [List.drop_eq_nil_of_le (by omega)] at h1
        obtain rfl:=Option.some.inj h1
        rw [List.append_nil] at h2
        subst h2
        obtain ⟨v,hvb,hvg,hvr⟩:=HPt.out.wr
        obtain ⟨Av,cv,rfl,hlv,hCv⟩:=Kd.R_reads hvr
        have hv0:=(blk_cell hvb 0).trans rfl
        have HCv:=Aside0.mk hCv
        have HLv:=Aside0.mk hlv
        clear hvb hvr hCv hlv
        have H:=HE.out
        have hb : n1 ++ (zb ++ (n2 ++ (pb ++ (n3 ++ fb)))) = n1 ++ zb ++ n2 ++ pb ++ n3 ++ fb:=by simp only [List.append_assoc]
        rw [hb] at H
        clear hb HE
        generalize n1 ++ zb ++ n2 ++ pb ++ n3 ++ fb = b at *
        by_cases hbig : b.length > 1048576
        ·have d1 : decide ((b.length : Int) > 1048576) = true:=decide_eq_true (by omega)
         have d2 : decide (1048576 < (b.length : Int)) = true:=decide_eq_true (by omega)
         have d3 : decide (1048576 < b.length) = true:=decide_eq_true (by omega)
         rw [if_pos hbig] at H
         obtain ⟨rfl,rfl⟩ : r1 = [] ∧ r2 = 10:=by simpa [eq_comm] using H
         go_wp2
         exact bodyPost_ret (v:=.tuple #[.slice none 0 0,.int .i64 10]) (by simp [results,Try.results14,go_sem]) rfl ⟨_,rfl,Kd.R_nil _ _ _ _ _,HPt.out.be⟩
        ·have d1 : decide ((b.length : Int) > 1048576) = false:=decide_eq_false (by omega)
         have d2 : decide (1048576 < (b.length : Int)) = false:=decide_eq_false (by omega)
         have d3 : decide (1048576 < b.length) = false:=decide_eq_false (by omega)
         rw [if_neg hbig] at H
         have HE:=Aside0.mk H
         clear H
         go_wp2_with fail
         refine (K.wire_Frame.calls k 1 _ _ b r1 r2 _ HCv.out HLv.out HE.out).mono ?_
         rintro e_ w5 ⟨vf,rfl,hR,hb5⟩
         have HR5:=Aside0.mk hR
         have HB5:=Aside0.mk hb5
         clear hR hb5
         go_wp2
         exact bodyPost_ret (v:=.tuple #[vf,.int .i64 r2]) (by simp [results,Try.results14,go_sem]) rfl ⟨_,rfl,Kd.R_lower HR5.out HPt.out.be.size,below_step HPt.out.be HB5.out⟩
       | succ gk =>
        have c1 : decide (x < (l0_2.length : Int)) = true:=decide_eq_true (by omega)
        have p4 : (0 ≤ x) = True:=eq_true (by omega)
        have q4 : (x < (l0_2.length : Int)) = True:=eq_true (by omega)
        obtain ⟨h1,h2⟩:=HT.out
        rw [List.drop_eq_getElem_cons (show x.toNat < l0_2.length by omega)] at h1
        have hget : l0_2[x.toNat] = rd_T36 l0_2 x:=by simp [rd_T36,List.getD_eq_getElem?_getD,show x.toNat < l0_2.length by omega]
        rw [hget] at h1
        obtain ⟨ad,e0,hx0,hx1,hx2,hx3,hx4,hx5,hx6,hx7,hx8⟩:=at_T36 HR2.out x h0 (by omega)
        generalize rd_T36 l0_2 x = f at *
        cases e0
        replace hx0:=(HPt.out.be.cell (World.block_lt_of_cell? w _ hx0)).trans hx0
        replace hx1:=(HPt.out.be.cell (World.block_lt_of_cell? w _ hx1)).trans hx1
        replace hx2:=(HPt.out.be.cell (World.block_lt_of_cell? w _ hx2)).trans hx2
        replace hx3:=(HPt.out.be.cell (World.block_lt_of_cell? w _ hx3)).trans hx3
        replace hx4:=(HPt.out.be.cell (World.block_lt_of_cell? w _ hx4)).trans hx4
        replace hx5:=(HPt.out.be.cell (World.block_lt_of_cell? w _ hx5)).trans hx5
        replace hx6:=(HPt.out.be.cell (World.block_lt_of_cell? w _ hx6)).trans hx6
        replace hx7:=(HPt.out.be.cell (World.block_lt_of_cell? w _ hx7)).trans hx7
        replace hx8:=(HPt.out.be.cell (World.block_lt_of_cell? w _ hx8)).trans hx8
        obtain ⟨ta,h3,h1⟩:=Option.bind_eq_some_iff.1 h1
        obtain ⟨⟨tb,e4⟩,h4,h1⟩:=Option.bind_eq_some_iff.1 h1
        obtain ⟨⟨tc,e5⟩,h5,h1⟩:=Option.bind_eq_some_iff.1 h1
        obtain ⟨td,h6,h1⟩:=Option.bind_eq_some_iff.1 h1
        obtain ⟨te,h9,h1⟩:=Option.bind_eq_some_iff.1 h1
        obtain ⟨q,h7,h1⟩:=Option.bind_eq_some_iff.1 h1
        obtain rfl:=Option.some.inj h1
        have hL:=congrArg List.length h2
        simp only [List.length_append] at hL
        have H2:=Aside0.mk h2
        have H3:=Aside0.mk h3
        have H4:=Aside0.mk h4
        have H5:=Aside0.mk h5
        have H6:=Aside0.mk h6
        have H9:=Aside0.mk h9
        have H7:=Aside0.mk h7
        have HLB:=Aside0.mk hL
        clear hL h2 h3 h4 h5 h6 h7 h9 h1 hget HT
        have HPa:=Aside0.mk ((HPt.out.alloc (.cells #[.string f.f0,.string f.f1,.string f.f2,.int .i64 f.f3,.int .i64 f.f4,.string f.f5,.int .i64 f.f6.f0,.int .i64 f.f6.f1,.int .i64 f.f6.f2] 36 (0,0))).alloc (.cells #[.string f.f0,.string f.f1,.string f.f2] 9 (0,0)))
        have HZb:=Aside0.mk (blk_alloc (heap_alloc_new wr (.cells #[.string f.f0,.string f.f1,.string f.f2,.int .i64 f.f3,.int .i64 f.f4,.string f.f5,.int .i64 f.f6.f0,.int .i64 f.f6.f1,.int .i64 f.f6.f2] 36 (0,0))) (.cells #[.string f.f0,.string f.f1,.string f.f2] 9 (0,0)))
        go_wp2_with fail
        refine (writer_text_calls k w1.heap.size (wr.heap.size + 1) 3 bs1 [f.f0,f.f1,f.f2] ta w _ HPa.out.wr HPa.out.be (heap_two _ _ _) (by simp) H3.out (by have:=HLEN.out;have:=HLB.out;simp at this ⊢;omega) (by simp)).mono ?_
        rintro e_ w5 ⟨rfl,h8⟩
        have HPb:=Aside0.mk (HPa.out.step h8)
        have HZ3:=Aside0.mk (h8.2.2 _ _ _ _ HZb.out (by decide) (by decide))
        clear h8 HPa HZb HPt
        have hz0:=(blk_cell HZ3.out 0).trans rfl
        have hz1:=(blk_cell HZ3.out 1).trans rfl
        have hz2:=(blk_cell HZ3.out 2).trans rfl
        have hz3:=(blk_cell HZ3.out 3).trans rfl
        have hz4:=(blk_cell HZ3.out 4).trans rfl
        have hz5:=(blk_cell HZ3.out 5).trans rfl
        have hz6:=(blk_cell HZ3.out 6).trans rfl
        have hz7:=(blk_cell HZ3.out 7).trans rfl
        have hz8:=(blk_cell HZ3.out 8).trans rfl
        go_wp2_with fail
        refine (writer_uint_calls k w1.heap.size (bs1 ++ ta) _ tb e4 w _ HPb.out.wr HPb.out.be H4.out (by have:=HLEN.out;have:=HLB.out;simp at this ⊢;omega)).mono ?_
        rintro e_ w6 ⟨rfl,h8⟩
        have HPc:=Aside0.mk (HPb.out.step h8)
        have HZ4:=Aside0.mk (h8.2.2 _ _ _ _ HZ3.out (by decide) (by decide))
        clear h8 HPb HZ3
        have hz0:=(blk_cell HZ4.out 0).trans rfl
        have hz1:=(blk_cell HZ4.out 1).trans rfl
        have hz2:=(blk_cell HZ4.out 2).trans rfl
        have hz3:=(blk_cell HZ4.out 3).trans rfl
        have hz4:=(blk_cell HZ4.out 4).trans rfl
        have hz5:=(blk_cell HZ4.out 5).trans rfl
        have hz6:=(blk_cell HZ4.out 6).trans rfl
        have hz7:=(blk_cell HZ4.out 7).trans rfl
        have hz8:=(blk_cell HZ4.out 8).trans rfl
        go_wp2_with fail
        refine (writer_uint_calls k w1.heap.size (bs1 ++ ta ++ tb) _ tc e5 w _ HPc.out.wr HPc.out.be H5.out (by have:=HLEN.out;have:=HLB.out;simp at this ⊢;omega)).mono ?_
        rintro e_ w7 ⟨rfl,h8⟩
        have HPd:=Aside0.mk (HPc.out.step h8)
        have HZ5:=Aside0.mk (h8.2.2 _ _ _ _ HZ4.out (by decide) (by decide))
        clear h8 HPc HZ4
        have hz0:=(blk_cell HZ5.out 0).trans rfl
        have hz1:=(blk_cell HZ5.out 1).trans rfl
        have hz2:=(blk_cell HZ5.out 2).trans rfl
        have hz3:=(blk_cell HZ5.out 3).trans rfl
        have hz4:=(blk_cell HZ5.out 4).trans rfl
        have hz5:=(blk_cell HZ5.out 5).trans rfl
        have hz6:=(blk_cell HZ5.out 6).trans rfl
        have hz7:=(blk_cell HZ5.out 7).trans rfl
        have hz8:=(blk_cell HZ5.out 8).trans rfl
        have HPe:=Aside0.mk (HPd.out.alloc (.cells #[.string f.f5] 9 (0,0)))
        have HZ6:=Aside0.mk (blk_alloc HZ5.out (.cells #[.string f.f5] 9 (0,0)))
        go_wp2_with fail
        refine (writer_text_calls k w1.heap.size w7.heap.size 1 (bs1 ++ ta ++ tb ++ tc) [f.f5] td w _ HPe.out.wr HPe.out.be (heap_alloc_new _ _) (by simp) H6.out (by have:=HLEN.out;have:=HLB.out;simp at this ⊢;omega) (by simp)).mono ?_
        rintro e_ w8 ⟨rfl,h8⟩
        have HPf:=Aside0.mk (HPe.out.step h8)
        have HZ7:=Aside0.mk (h8.2.2 _ _ _ _ HZ6.out (by decide) (by decide))
        clear h8 HPd HPe HZ5 HZ6
        have hz0:=(blk_cell HZ7.out 0).trans rfl
        have hz1:=(blk_cell HZ7.out 1).trans rfl
        have hz2:=(blk_cell HZ7.out 2).trans rfl
        have hz3:=(blk_cell HZ7.out 3).trans rfl
        have hz4:=(blk_cell HZ7.out 4).trans rfl
        have hz5:=(blk_cell HZ7.out 5).trans rfl
        have hz6:=(blk_cell HZ7.out 6).trans rfl
        have hz7:=(blk_cell HZ7.out 7).trans rfl
        have hz8:=(blk_cell HZ7.out 8).trans rfl
        obtain ⟨wo,rfl⟩ : ∃ wo : World,wo = wr:=⟨_,rfl⟩
        obtain ⟨gj,rfl⟩ : ∃ gj : Nat,gj = gk:=⟨_,rfl⟩
        obtain ⟨ns,hns⟩ : ∃ ns : List Int,ns = [f.f6.f0,f.f6.f1,f.f6.f2]:=⟨_,rfl⟩
        have hn3 : ns.length = 3:=by rw [hns];rfl
        rw [← hns] at H9
        go_wp2
        go_loopg [122] 3 (fun gk v122 wx=>∃ (y : Int) (bs2 r2 : List Int),v122 = .int .i64 y ∧ 0 ≤ y ∧ y + gk = 3 ∧ Aside0 (uintsF k (ns.drop y.toNat) = some r2 ∧ bs2 ++ r2 = bs1 ++ ta ++ tb ++ tc ++ td ++ te) ∧ Aside0 (Pt w wx w1.heap.size #[.slice A0_0 l0_0.length c0_0,.slice A0_1 l0_1.length c0_1,.slice (some ad) l0_2.length c0_2] bs2))
        case atStart=>exact ⟨0,bs1 ++ ta ++ tb ++ tc ++ td,te,rfl,by omega,by omega,⟨by simpa using H9.out,rfl⟩,HPf⟩
        case round =>
         obtain ⟨y,bs2,r2,rfl,h10,hj2,HT2,HPg⟩:=hrel
         cases gk with
         | zero =>
          have c2 : decide (y < 3) = false:=decide_eq_false (by omega)
          obtain ⟨h1,h2⟩:=HT2.out
          rw [List.drop_eq_nil_of_le (by omega)] at h1
          obtain rfl:=Option.some.inj h1
          rw [List.append_nil] at h2
          subst h2
          have hw : wrap64 (x + 1) = x + 1:=by unfold wrap64;have:=L2.out;omega
          go_wp2
          go_roundg gj
          case measure=>omega
          case rel =>
           refine ⟨x + 1,_,q,by first|rfl|rw [hw],by omega,by omega,⟨?_,?_⟩,HPg⟩
           ·rw [show (x + 1).toNat = x.toNat + 1 by omega];exact H7.out
           ·have:=H2.out;simp only [List.append_assoc] at this ⊢;exact this
         | succ gk =>
          have c2 : decide (y < 3) = true:=decide_eq_true (by omega)
          obtain ⟨h1,h2⟩:=HT2.out
          rw [List.drop_eq_getElem_cons (show y.toNat < ns.length by omega)] at h1
          have hget : ns[y.toNat] = rd ns y:=by simp [rd,List.getD_eq_getElem?_getD,show y.toNat < ns.length by omega]
          rw [hget] at h1
          have hai:=fun (W_ : World)=>ar_run (P:=Try.prog) Try.underlying34 Try.underlying3 (by kernel_rfl) ns y hn3 h10 (by omega) W_
          rw [hns] at hai
          simp only [List.map_cons,List.map_nil] at hai
          rw [← hns] at hai
          generalize rd ns y = n0 at *
          obtain ⟨⟨sa,e6⟩,h3,h1⟩:=Option.bind_eq_some_iff.1 h1
          obtain ⟨q2,h7,h1⟩:=Option.bind_eq_some_iff.1 h1
          obtain rfl:=Option.some.inj h1
          have hL2:=congrArg List.length h2
          simp only [List.length_append] at hL2
          have HL2:=Aside0.mk hL2
          have H22:=Aside0.mk h2
          have H23:=Aside0.mk h3
          have H27:=Aside0.mk h7
          clear hL2 h2 h3 h7 h1 hget HT2
          go_wp2_with fail
          refine (writer_uint_calls k w1.heap.size bs2 _ sa e6 w _ HPg.out.wr HPg.out.be H23.out (by have:=HLB.out;have:=HL2.out;have:=HLEN.out;simp at this ⊢;omega)).mono ?_
          rintro e_ w9 ⟨rfl,h8⟩
          have HPh:=Aside0.mk (HPg.out.step h8)
          clear h8 HPg
          have hw : wrap64 (y + 1) = y + 1:=by unfold wrap64;omega
          go_wp2
          go_roundg gk
          case measure=>omega
          case rel =>
           refine ⟨y + 1,_,q2,by first|rfl|rw [hw],by omega,by omega,⟨?_,?_⟩,HPh⟩
           ·rw [show (y + 1).toNat = y.toNat + 1 by omega];exact H27.out
           ·have:=H22.out;simp only [List.append_assoc] at this ⊢;exact this
     | succ gk =>
      have c1 : decide (x < (l0_1.length : Int)) = true:=decide_eq_true (by omega)
      have p4 : (0 ≤ x) = True:=eq_true (by omega)
      have q4 : (x < (l0_1.length : Int)) = True:=eq_true (by omega)
      obtain ⟨h1,h2⟩:=HT.out
      rw [List.drop_eq_getElem_cons (show x.toNat < l0_1.length by omega)] at h1
      have hget : l0_1[x.toNat] = rd_T39 l0_1 x:=by simp [rd_T39,List.getD_eq_getElem?_getD,show x.toNat < l0_1.length by omega]
      rw [hget] at h1
      obtain ⟨ad,e0,hx0,hx1⟩:=at_T39 HR1.out x h0 (by omega)
      generalize rd_T39 l0_1 x = a at *
      cases e0
      replace hx0:=(HPt.out.be.cell (World.block_lt_of_cell? w _ hx0)).trans hx0
      replace hx1:=(HPt.out.be.cell (World.block_lt_of_cell? w _ hx1)).trans hx1
      obtain ⟨ta,h3,h1⟩:=Option.bind_eq_some_iff.1 h1
      obtain ⟨q,h7,h1⟩:=Option.bind_eq_some_iff.1 h1
      obtain rfl:=Option.some.inj h1
      have hL:=congrArg List.length h2
      simp only [List.length_append] at hL
      have H2:=Aside0.mk h2
      have H3:=Aside0.mk h3
      have H7:=Aside0.mk h7
      have HLB:=Aside0.mk hL
      clear hL h2 h3 h7 h1 hget HT
      have HPa:=Aside0.mk ((HPt.out.alloc (.cells #[.string a.f0,.string a.f1] 39 (0,0))).alloc (.cells #[.string a.f0,.string a.f1] 9 (0,0)))
      go_wp2_with fail
      refine (writer_text_calls k w1.heap.size (wr.heap.size + 1) 2 bs1 [a.f0,a.f1] ta w _ HPa.out.wr HPa.out.be (heap_two _ _ _) (by simp) H3.out (by have:=HLEN.out;have:=HLB.out;simp at this ⊢;omega) (by simp)).mono ?_
      rintro e_ w4 ⟨rfl,h8⟩
      have HPb:=Aside0.mk (HPa.out.step h8)
      clear h8 HPa HPt
      have hw : wrap64 (x + 1) = x + 1:=by unfold wrap64;have:=L1.out;omega
      go_wp2
      go_roundg gk
      case measure=>omega
      case rel =>
       refine ⟨x + 1,_,q,by first|rfl|rw [hw],by omega,by omega,⟨?_,?_⟩,HPb⟩
       ·rw [show (x + 1).toNat = x.toNat + 1 by omega];exact H7.out
       ·have:=H2.out;simp only [List.append_assoc] at this ⊢;exact this
   | succ gk =>
    have c1 : decide (x < (l0_0.length : Int)) = true:=decide_eq_true (by omega)
    have p4 : (0 ≤ x) = True:=eq_true (by omega)
    have q4 : (x < (l0_0.length : Int)) = True:=eq_true (by omega)
    obtain ⟨h1,h2⟩:=HT.out
    rw [List.drop_eq_getElem_cons (show x.toNat < l0_0.length by omega)] at h1
    have hget : l0_0[x.toNat] = rd_T42 l0_0 x:=by simp [rd_T42,List.getD_eq_getElem?_getD,show x.toNat < l0_0.length by omega]
    rw [hget] at h1
    obtain ⟨ad,Az,cz,e0,hx0,hx1,hx2,hlz,hCz⟩:=at_T42 HR0.out x h0 (by omega)
    generalize rd_T42 l0_0 x = z at *
    cases e0
    replace hx0:=(HPt.out.be.cell (World.block_lt_of_cell? w _ hx0)).trans hx0
    replace hx1:=(HPt.out.be.cell (World.block_lt_of_cell? w _ hx1)).trans hx1
    replace hx2:=(HPt.out.be.cell (World.block_lt_of_cell? w _ hx2)).trans hx2
    obtain ⟨ta,h3,h1⟩:=Option.bind_eq_some_iff.1 h1
    obtain ⟨⟨tb,e4⟩,h4,h1⟩:=Option.bind_eq_some_iff.1 h1
    obtain ⟨⟨tc,e5⟩,h5,h1⟩:=Option.bind_eq_some_iff.1 h1
    obtain ⟨td,h6,h1⟩:=Option.bind_eq_some_iff.1 h1
    obtain ⟨q,h7,h1⟩:=Option.bind_eq_some_iff.1 h1
    obtain rfl:=Option.some.inj h1
    have hL:=congrArg List.length h2
    simp only [List.length_append] at hL
    have H2:=Aside0.mk h2
    have H3:=Aside0.mk h3
    have H4:=Aside0.mk h4
    have H5:=Aside0.mk h5
    have H6:=Aside0.mk h6
    have H7:=Aside0.mk h7
    have HL:=Aside0.mk hL
    have HCz:=Aside0.mk hCz
    clear hL h2 h3 h4 h5 h6 h7 h1 hCz hget HT
    have HPa:=Aside0.mk ((HPt.out.alloc (.cells #[.string z.f0,.int .i64 z.f1,.slice Az z.f2.length cz] 42 (0,0))).alloc (.cells #[.string z.f0] 9 (0,0)))
    have HZb:=Aside0.mk (blk_alloc (heap_alloc_new wr (.cells #[.string z.f0,.int .i64 z.f1,.slice Az z.f2.length cz] 42 (0,0))) (.cells #[.string z.f0] 9 (0,0)))
    go_wp2_with fail
    refine (writer_text_calls k w1.heap.size (wr.heap.size + 1) 1 bs1 [z.f0] ta w _ HPa.out.wr HPa.out.be (heap_two _ _ _) (by simp) H3.out (by have:=HL.out;have:=HLEN.out;omega) (by simp)).mono ?_
    rintro e_ w3 ⟨rfl,h8⟩
    have HPb:=Aside0.mk (HPa.out.step h8)
    have HZ3:=Aside0.mk (h8.2.2 _ _ _ _ HZb.out (by decide) (by decide))
    clear h8 HPa HZb HPt
    have hz0:=(blk_cell HZ3.out 0).trans rfl
    have hz1:=(blk_cell HZ3.out 1).trans rfl
    have hz2:=(blk_cell HZ3.out 2).trans rfl
    go_wp2_with fail
    refine (writer_int_calls k w1.heap.size (bs1 ++ ta) _ tb e4 w _ HPb.out.wr HPb.out.be H4.out (by have:=HL.out;have:=HLEN.out;simp;omega)).mono ?_
    rintro e_ w4 ⟨rfl,h8⟩
    have HPc:=Aside0.mk (HPb.out.step h8)
    have HZ4:=Aside0.mk (h8.2.2 _ _ _ _ HZ3.out (by decide) (by decide))
    clear h8 HPb HZ3
    have hz0:=(blk_cell HZ4.out 0).trans rfl
    have hz1:=(blk_cell HZ4.out 1).trans rfl
    have hz2:=(blk_cell HZ4.out 2).trans rfl
    go_wp2_with fail
    refine (writer_uint_calls k w1.heap.size (bs1 ++ ta ++ tb) _ tc e5 w _ HPc.out.wr HPc.out.be H5.out (by have:=HL.out;have:=HLEN.out;simp;omega)).mono ?_
    rintro e_ w5 ⟨rfl,h8⟩
    have HPd:=Aside0.mk (HPc.out.step h8)
    have HZ5:=Aside0.mk (h8.2.2 _ _ _ _ HZ4.out (by decide) (by decide))
    clear h8 HPc HZ4
    have hz0:=(blk_cell HZ5.out 0).trans rfl
    have hz1:=(blk_cell HZ5.out 1).trans rfl
    have hz2:=(blk_cell HZ5.out 2).trans rfl
    go_wp2
    obtain ⟨wo,rfl⟩ : ∃ wo : World,wo = wr:=⟨_,rfl⟩
    obtain ⟨gj,rfl⟩ : ∃ gj : Nat,gj = gk:=⟨_,rfl⟩
    go_loopg [52] z.f2.length (fun gk2 v52 wx=>∃ (y : Int) (bs2 r2 : List Int),v52 = .int .i64 y ∧ 0 ≤ y ∧ y + gk2 = z.f2.length ∧ Aside0 (shiftsF k (z.f2.drop y.toNat) = some r2 ∧ bs2 ++ r2 = bs1 ++ ta ++ tb ++ tc ++ td) ∧ Aside0 (Pt w wx w1.heap.size #[(.slice (some ad) l0_0.length c0_0),.slice A0_1 l0_1.length c0_1,.slice A0_2 l0_2.length c0_2] bs2))
    case atStart=>exact ⟨0,bs1 ++ ta ++ tb ++ tc,td,rfl,by omega,by omega,⟨by simpa using H6.out,rfl⟩,HPd⟩
    case round =>
     obtain ⟨y,bs2,r2,rfl,h10,hj2,HT2,HPe⟩:=hrel
     cases gk with
     | zero =>
      have c2 : decide (y < (z.f2.length : Int)) = false:=decide_eq_false (by omega)
      obtain ⟨h1,h2⟩:=HT2.out
      rw [List.drop_eq_nil_of_le (by omega)] at h1
      obtain rfl:=Option.some.inj h1
      rw [List.append_nil] at h2
      subst h2
      have hw : wrap64 (x + 1) = x + 1:=by unfold wrap64;have:=L0.out;omega
      go_wp2
      go_roundg gj
      case measure=>omega
      case rel =>
       refine ⟨x + 1,_,q,by first|rfl|rw [hw],by omega,by omega,⟨?_,?_⟩,HPe⟩
       ·rw [show (x + 1).toNat = x.toNat + 1 by omega];exact H7.out
       ·have:=H2.out;simp only [List.append_assoc] at this ⊢;exact this
     | succ gk =>
      have c2 : decide (y < (z.f2.length : Int)) = true:=decide_eq_true (by omega)
      have p5 : (0 ≤ y) = True:=eq_true (by omega)
      have q5 : (y < (z.f2.length : Int)) = True:=eq_true (by omega)
      obtain ⟨h1,h2⟩:=HT2.out
      rw [List.drop_eq_getElem_cons (show y.toNat < z.f2.length by omega)] at h1
      have hget : z.f2[y.toNat] = rd_T44 z.f2 y:=by simp [rd_T44,List.getD_eq_getElem?_getD,show y.toNat < z.f2.length by omega]
      rw [hget] at h1
      obtain ⟨ad2,e0,hs0,hs1⟩:=at_T44 HCz.out y h10 (by omega)
      generalize rd_T44 z.f2 y = sh at *
      cases e0
      replace hs0:=(HPe.out.be.cell (World.block_lt_of_cell? w _ hs0)).trans hs0
      replace hs1:=(HPe.out.be.cell (World.block_lt_of_cell? w _ hs1)).trans hs1
      obtain ⟨⟨sa,e6⟩,h3,h1⟩:=Option.bind_eq_some_iff.1 h1
      obtain ⟨⟨sb,e7⟩,h4,h1⟩:=Option.bind_eq_some_iff.1 h1
      obtain ⟨q2,h7,h1⟩:=Option.bind_eq_some_iff.1 h1
      obtain rfl:=Option.some.inj h1
      have hL2:=congrArg List.length h2
      simp only [List.length_append] at hL2
      have HL2:=Aside0.mk hL2
      have H22:=Aside0.mk h2
      have H23:=Aside0.mk h3
      have H24:=Aside0.mk h4
      have H27:=Aside0.mk h7
      clear hL2 h2 h3 h4 h7 h1 hget HT2
      have HPf:=Aside0.mk (HPe.out.alloc (.cells #[.int .i64 sh.f0,.int .i64 sh.f1] 44 (0,0)))
      have HS1:=Aside0.mk (heap_alloc_new wr (.cells #[.int .i64 sh.f0,.int .i64 sh.f1] 44 (0,0)))
      have LS:=Aside0.mk (show z.f2.length ≤ 9223372036854775807 from HCz.out.2.1)
      have hv0:=(blk_cell HS1.out 0).trans rfl
      have hv1:=(blk_cell HS1.out 1).trans rfl
      go_wp2_with fail
      refine (writer_uint_calls k w1.heap.size bs2 _ sa e6 w _ HPf.out.wr HPf.out.be H23.out (by have:=HL.out;have:=HL2.out;have:=HLEN.out;simp at this ⊢;omega)).mono ?_
      rintro e_ w6 ⟨rfl,h8⟩
      have HPg:=Aside0.mk (HPf.out.step h8)
      have HS2:=Aside0.mk (h8.2.2 _ _ _ _ HS1.out (by decide) (by decide))
      clear h8 HPf HS1
      have hv0:=(blk_cell HS2.out 0).trans rfl
      have hv1:=(blk_cell HS2.out 1).trans rfl
      go_wp2_with fail
      refine (writer_int_calls k w1.heap.size (bs2 ++ sa) _ sb e7 w _ HPg.out.wr HPg.out.be H24.out (by have:=HL.out;have:=HL2.out;have:=HLEN.out;simp at this ⊢;omega)).mono ?_
      rintro e_ w7 ⟨rfl,h8⟩
      have HPh:=Aside0.mk (HPg.out.step h8)
      clear h8 HPg HS2
      have hw : wrap64 (y + 1) = y + 1:=by unfold wrap64;have:=LS.out;omega
      go_wp2
      go_roundg gk
      case measure=>omega
      case rel =>
       refine ⟨y + 1,_,q2,by first|rfl|rw [hw],by omega,by omega,⟨?_,?_⟩,HPh⟩
       ·rw [show (y + 1).toNat = y.toNat + 1 by omega];exact H27.out
       ·have:=H22.out;simp only [List.append_assoc] at this ⊢;exact this
 ·have c1 : (e != 0) = true:=bne_iff_ne.mpr he
  rw [if_neg he] at H
  obtain ⟨rfl,rfl⟩ : r1 = [] ∧ r2 = e:=by simpa [eq_comm] using H
  go_wp2
  exact bodyPost_ret (v:=.tuple #[.slice none 0 0,.int .i64 _]) (by simp [results,Try.results14,go_sem]) rfl ⟨_,rfl,Kd.R_nil _ _ _ _ _,HB1.out⟩
end Go.Proofs.Ytepnddmalheoiaa.Q
