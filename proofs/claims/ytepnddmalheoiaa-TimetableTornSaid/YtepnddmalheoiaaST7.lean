/- For timetableTorn_holds: texts of this session and words of the kit's print, those alone that the proof uses. -/
import Derived.Test.YtepnddmalheoiaaProg
import Derived.Below
import Derived.Deep.Draws
import Derived.Deep.AppendLies
import Derived.Maps.AppendAt
import Derived.OwnWalk
import Derived.Laws.BytesArg
import Derived.Laws.MakeOwn
import Derived.Laws.OwnMore
import Derived.Deep.OwnRows
import Derived.Tactics
import Derived.Lib.ConvBytes
import Derived.Laws.Slices
import Derived.WalkKit
import Derived.KernelRfl
import Derived.RowKit3
import Derived.Deep.LoopGhost
import Derived.Deep.QuietTactic
import Derived.BigQuiet
import Derived.WideLaws
import Derived.Deep.DeepCutAuto
import Derived.Deep.CutBlock
import Derived.Deep.RegionHeld3
import Derived.Laws.Rows
import Derived.Lib.AppendStr
import Derived.ArgAppend
import Derived.Laws.IdiomCopy
import Derived.OrdersHeld
import Derived.Laws.BitsLemmas
import Derived.RowKit
import Derived.Deep.WholeRow
import Derived.Laws.ResultCell
import Derived.Lib.SlBytesConst
import Derived.Outline
import Derived.Laws.StructEq
import Derived.IntWalk
import Derived.Test.YtepnddmalheoiaaST0
import Derived.Test.YtepnddmalheoiaaST1
import Derived.Test.YtepnddmalheoiaaST2
import Derived.Test.YtepnddmalheoiaaST3
import Derived.Test.YtepnddmalheoiaaST4
import Derived.Test.YtepnddmalheoiaaST5
import Derived.Test.YtepnddmalheoiaaST6
namespace Go.Proofs.Ytepnddmalheoiaa.TtC
open Go.RowKit Go.Proofs.Ytepnddmalheoiaa.H Go.Proofs.Ytepnddmalheoiaa.Q Go.Proofs.Ytepnddmalheoiaa.TtA Go.Proofs.Ytepnddmalheoiaa.TtB Go.Proofs.YtepnddmalheoiaaW.PrintWords
def oneN (c : Int) : Bool:=decide (0 ≤ c ∧ c ≤ 8)
def needS (f : S36) : Bool:=oneN f.f6.f0 && (oneN f.f6.f1 && oneN f.f6.f2)
theorem one_false {c : Int} (h : c < 0 ∨ c > 8) : oneN c = false:=decide_eq_false (by omega)
theorem one_true {c : Int} (h : ¬ c < 0) (h' : ¬ c > 8) : oneN c = true:=decide_eq_true (by omega)
theorem s01 : wrap64 (0 + 1) = 1:=by unfold wrap64;omega
theorem s12 : wrap64 (1 + 1) = 2:=by unfold wrap64;omega
theorem s23 : wrap64 (2 + 1) = 3:=by unfold wrap64;omega
theorem rd0 (a b c : Int) : rd [a,b,c] 0 = a:=rfl
theorem rd1 (a b c : Int) : rd [a,b,c] 1 = b:=rfl
theorem rd2 (a b c : Int) : rd [a,b,c] 2 = c:=rfl
theorem pneed (k : Nat) (hk : 5 ≤ k) (f : S36) : timetable_needOK.f k f.f0 f.f1 f.f2 f.f3 f.f4 f.f5 f.f6.f0 f.f6.f1 f.f6.f2 = some (needS f):=by
 obtain ⟨k,rfl⟩ : ∃ m,k = m + 4:=⟨k - 4,by omega⟩
 unfold timetable_needOK.f needS
 simp only [timetable_needOK.l0,s01,s12,s23,rd0,rd1,rd2]
 rw [if_pos (show (0 : Int) < 3 by decide),if_pos (show (0 : Int) ≤ 0 by decide)]
 by_cases a0 : f.f6.f0 < 0
 ·rw [if_pos a0,one_false (.inl a0)];rfl
 rw [if_neg a0]
 by_cases b0 : f.f6.f0 > 8
 ·rw [if_pos b0,one_false (.inr b0)];rfl
 rw [if_neg b0,one_true a0 b0,if_pos (show (1 : Int) < 3 by decide),if_pos (show (0 : Int) ≤ 1 by decide)]
 by_cases a1 : f.f6.f1 < 0
 ·rw [if_pos a1,one_false (.inl a1)];rfl
 rw [if_neg a1]
 by_cases b1 : f.f6.f1 > 8
 ·rw [if_pos b1,one_false (.inr b1)];rfl
 rw [if_neg b1,one_true a1 b1,if_pos (show (2 : Int) < 3 by decide),if_pos (show (0 : Int) ≤ 2 by decide)]
 by_cases a2 : f.f6.f2 < 0
 ·rw [if_pos a2,one_false (.inl a2)];rfl
 rw [if_neg a2]
 by_cases b2 : f.f6.f2 > 8
 ·rw [if_pos b2,one_false (.inr b2)];rfl
 rw [if_neg b2,one_true a2 b2,if_neg (show ¬ (3 : Int) < 3 by decide)];rfl
def flightS (ps : List S39) (f : S36) : Int :=
 if (codeS f.f0 && nameS f.f5) = true then
  if portI ps f.f1 < 0 ∨ portI ps f.f2 < 0 then 6 else
  if f.f1.toList = f.f2.toList then 14 else
  if f.f3 < 2880 ∨ f.f4 > 52593120 ∨ f.f4 ≤ f.f3 ∨ wrap64 (f.f4 - f.f3) > 1440 ∨ needS f = false then 5 else 0
 else 1
theorem pj1 (k : Nat) (hk : 6 ≤ k) (f : S36) : timetable_checkFlight.j1 k false f.f0 f.f1 f.f2 f.f3 f.f4 f.f5 f.f6.f0 f.f6.f1 f.f6.f2 =
  some (if f.f1.toList = f.f2.toList then 14 else if f.f3 < 2880 ∨ f.f4 > 52593120 ∨ f.f4 ≤ f.f3 ∨ wrap64 (f.f4 - f.f3) > 1440 ∨ needS f = false then 5 else 0):=by
 obtain ⟨k,rfl⟩ : ∃ m,k = m + 1:=⟨k - 1,by omega⟩
 simp only [timetable_checkFlight.j1]
 rw [if_neg (show ¬ (false = true) by simp),pneed k (by omega)]
 by_cases h1 : f.f1.toList = f.f2.toList
 ·rw [if_pos h1,if_pos h1]
 rw [if_neg h1,if_neg h1]
 by_cases h2 : f.f3 < 2880
 ·rw [if_pos h2,if_pos (.inl h2)]
 rw [if_neg h2]
 by_cases h3 : f.f4 > 52593120
 ·rw [if_pos h3,if_pos (.inr (.inl h3))]
 rw [if_neg h3]
 by_cases h4 : f.f4 ≤ f.f3
 ·rw [if_pos h4,if_pos (.inr (.inr (.inl h4)))]
 rw [if_neg h4]
 by_cases h5 : wrap64 (f.f4 - f.f3) > 1440
 ·rw [if_pos h5,if_pos (.inr (.inr (.inr (.inl h5))))]
 rw [if_neg h5,Option.bind_some]
 by_cases h6 : needS f = true
 ·rw [if_pos h6,if_neg]
  rintro (h|h|h|h|h)
  ·exact h2 h
  ·exact h3 h
  ·exact h4 h
  ·exact h5 h
  ·rw [h6] at h;exact absurd h (by simp)
 ·rw [if_neg h6,if_pos (.inr (.inr (.inr (.inr (by simpa using h6)))))]
theorem pflight (zs : List S42) (ps : List S39) (fs : List S36) (f : S36) (k : Nat) (hk : ps.length + 10 ≤ k) (hk2 : k ≤ 4611686018427387904) :
  timetable_checkFlight.f k zs ps fs f.f0 f.f1 f.f2 f.f3 f.f4 f.f5 f.f6.f0 f.f6.f1 f.f6.f2 = some (flightS ps f):=by
 obtain ⟨k,rfl⟩ : ∃ m,k = m + 2:=⟨k - 2,by omega⟩
 unfold timetable_checkFlight.f flightS
 rw [pcode,Option.bind_some,pname,Option.bind_some]
 have hj : timetable_checkFlight.j0 (k + 2) true zs ps fs f.f0 f.f1 f.f2 f.f3 f.f4 f.f5 f.f6.f0 f.f6.f1 f.f6.f2 = some 1:=by simp only [timetable_checkFlight.j0];rw [if_pos trivial]
 cases codeS f.f0
 ·rw [if_neg (by simp),hj];simp
 rw [if_pos rfl]
 cases nameS f.f5
 ·rw [Bool.not_false,hj];simp
 rw [Bool.not_true,if_pos (by rfl)]
 simp only [timetable_checkFlight.j0]
 rw [if_neg (show ¬ (false = true) by simp),pportI ps _ (k + 1) (by omega) (by omega),Option.bind_some,pportI ps _ (k + 1) (by omega) (by omega),Option.bind_some]
 have ht : timetable_checkFlight.j1 (k + 1) true f.f0 f.f1 f.f2 f.f3 f.f4 f.f5 f.f6.f0 f.f6.f1 f.f6.f2 = some 6:=by simp only [timetable_checkFlight.j1];rw [if_pos trivial]
 by_cases h1 : portI ps f.f1 < 0
 ·rw [if_pos h1,ht,if_pos (.inl h1)]
 rw [if_neg h1]
 by_cases h2 : portI ps f.f2 < 0
 ·rw [decide_eq_true h2,ht,if_pos (.inr h2)]
 rw [decide_eq_false h2,pj1 (k + 1) (by omega),if_neg (show ¬ (portI ps f.f1 < 0 ∨ portI ps f.f2 < 0) from fun h=>h.elim h1 h2)]
def ordS (ps : List S39) (fs : List S36) (i : Nat) : Int :=
 if flightS ps (rd_T36 fs (i : Int)) = 0 then
  if 0 < i then
   (if (rd_T36 fs (i : Int)).f3 < (rd_T36 fs ((i - 1 : Nat) : Int)).f3 then 8 else if (rd_T36 fs (i : Int)).f3 = (rd_T36 fs ((i - 1 : Nat) : Int)).f3 then (if Op.bytesLess (rd_T36 fs ((i - 1 : Nat) : Int)).f0.toList (rd_T36 fs (i : Int)).f0.toList = true then 0 else 8) else 0)
  else 0
 else flightS ps (rd_T36 fs (i : Int))
theorem ord_ne {ps : List S39} {fs : List S36} {i : Nat} {e : Int} (h : flightS ps (rd_T36 fs (i : Int)) = e) (he : e ≠ 0) : ordS ps fs i = e:=by
 unfold ordS
 rw [if_neg (by rw [h];exact he),h]
theorem ord_ok {ps : List S39} {fs : List S36} {i : Nat} (h : flightS ps (rd_T36 fs (i : Int)) = 0) : ordS ps fs i =
  (if 0 < i then
   (if (rd_T36 fs (i : Int)).f3 < (rd_T36 fs ((i - 1 : Nat) : Int)).f3 then 8 else if (rd_T36 fs (i : Int)).f3 = (rd_T36 fs ((i - 1 : Nat) : Int)).f3 then (if Op.bytesLess (rd_T36 fs ((i - 1 : Nat) : Int)).f0.toList (rd_T36 fs (i : Int)).f0.toList = true then 0 else 8) else 0)
  else 0):=if_pos h
def flL (ps : List S39) (fs : List S36) : Nat → Nat → Int
 | 0,_=>0
 | n + 1,i=>if ordS ps fs i = 0 then flL ps fs n (i + 1) else ordS ps fs i
def portV (zs : List S42) (ps : List S39) (i : Nat) : Int :=
 if portS (rd_T39 ps (i : Int)).f0 = true then (if portI ps (rd_T39 ps (i : Int)).f0 < (i : Int) then 7 else if zoneI zs (rd_T39 ps (i : Int)).f1 < 0 then 6 else 0) else 1
def apL (zs : List S42) (ps : List S39) (fs : List S36) : Nat → Nat → Int
 | 0,_=>flL ps fs fs.length 0
 | n + 1,i=>if portV zs ps i = 0 then apL zs ps fs n (i + 1) else portV zs ps i
def zoneV (zs : List S42) (i : Nat) : Int :=
 if zoneS (rd_T42 zs (i : Int)).f0 (rd_T42 zs (i : Int)).f1 (rd_T42 zs (i : Int)).f2 = 0 then (if zoneI zs (rd_T42 zs (i : Int)).f0 < (i : Int) then 7 else 0) else zoneS (rd_T42 zs (i : Int)).f0 (rd_T42 zs (i : Int)).f1 (rd_T42 zs (i : Int)).f2
def zoL (zs : List S42) (ps : List S39) (fs : List S36) : Nat → Nat → Int
 | 0,_=>apL zs ps fs ps.length 0
 | n + 1,i=>if zoneV zs i = 0 then zoL zs ps fs n (i + 1) else zoneV zs i
def validS (zs : List S42) (ps : List S39) (fs : List S36) : Int:=if zs.length > 16 ∨ ps.length > 64 ∨ fs.length > 200 then 10 else zoL zs ps fs zs.length 0
theorem pV2 (zs : List S42) (ps : List S39) (fs : List S36) (hp : ps.length ≤ 64) (hf : fs.length ≤ 200) (n : Nat) : ∀ k i : Nat,n + 100 ≤ k → k ≤ 4611686018427387904 → i + n = fs.length → timetable_Validate.l2 k fs (fs.length : Int) (i : Int) zs ps fs = some (flL ps fs n i):=by
 induction n with
 | zero =>
  intro k i hk hk2 hi
  obtain ⟨k,rfl⟩ : ∃ m,k = m + 1:=⟨k - 1,by omega⟩
  simp only [timetable_Validate.l2,flL]
  rw [if_neg (by omega)]
 | succ n ih =>
  intro k i hk hk2 hi
  obtain ⟨k,rfl⟩ : ∃ m,k = m + 1:=⟨k - 1,by omega⟩
  simp only [timetable_Validate.l2,flL]
  rw [if_pos (by omega),if_pos (by omega),if_pos (by omega),pflight zs ps fs _ k (by omega) (by omega),Option.bind_some,w1 i (by omega),ih k (i + 1) (by omega) (by omega) (by omega)]
  by_cases h : flightS ps (rd_T36 fs (i : Int)) = 0
  ·rw [if_pos h,ord_ok h]
   by_cases h0 : 0 < i
   ·rw [if_pos (show (i : Int) > 0 by omega),w1' i (by omega) h0,if_pos (show 0 ≤ ((i - 1 : Nat) : Int) by omega),if_pos (show ((i - 1 : Nat) : Int) < (fs.length : Int) by omega),if_pos h0]
    unfold timetable_after.f
    generalize rd_T36 fs (i : Int) = f
    generalize rd_T36 fs ((i - 1 : Nat) : Int) = g
    by_cases h1 : f.f3 < g.f3
    ·rw [if_neg (by omega),if_neg (by omega),if_pos h1];rfl
    ·by_cases h2 : f.f3 = g.f3
     ·rw [if_neg (by omega),if_pos h2,if_neg h1,if_pos h2,Option.bind_some]
      cases Op.bytesLess g.f0.toList f.f0.toList <;> rfl
     ·rw [if_pos (by omega),if_neg h1,if_neg h2];rfl
   ·rw [if_neg (by omega),if_neg h0];rfl
  ·rw [if_neg h,ord_ne rfl h,if_neg h]
theorem pV1 (zs : List S42) (ps : List S39) (fs : List S36) (hz : zs.length ≤ 16) (hp : ps.length ≤ 64) (hf : fs.length ≤ 200) (n : Nat) : ∀ k i : Nat,n + 500 ≤ k → k ≤ 4611686018427387904 → i + n = ps.length → timetable_Validate.l1 k (ps.length : Int) (i : Int) zs ps fs = some (apL zs ps fs n i):=by
 induction n with
 | zero =>
  intro k i hk hk2 hi
  obtain ⟨k,rfl⟩ : ∃ m,k = m + 1:=⟨k - 1,by omega⟩
  simp only [timetable_Validate.l1,apL]
  rw [if_neg (by omega)]
  exact pV2 zs ps fs hp hf fs.length k 0 (by omega) (by omega) (by omega)
 | succ n ih =>
  intro k i hk hk2 hi
  obtain ⟨k,rfl⟩ : ∃ m,k = m + 1:=⟨k - 1,by omega⟩
  simp only [timetable_Validate.l1,apL]
  have hc : timetable_checkAirport.f k zs ps fs (i : Int) = some (portV zs ps i):=by
   unfold timetable_checkAirport.f portV
   rw [if_pos (by omega),if_pos (by omega),pport,Option.bind_some,pportI ps _ k (by omega) (by omega),Option.bind_some,pzoneI zs _ k (by omega) (by omega),Option.bind_some]
   repeat' split
   all_goals rfl
  rw [if_pos (by omega),hc,Option.bind_some,w1 i (by omega),ih k (i + 1) (by omega) (by omega) (by omega)]
  split <;> rfl
theorem pV0 (zs : List S42) (ps : List S39) (fs : List S36) (hz : zs.length ≤ 16) (hp : ps.length ≤ 64) (hf : fs.length ≤ 200) (n : Nat) : ∀ k i : Nat,n + 1000 ≤ k → k ≤ 4611686018427387904 → i + n = zs.length → timetable_Validate.l0 k zs (zs.length : Int) (i : Int) zs ps fs = some (zoL zs ps fs n i):=by
 induction n with
 | zero =>
  intro k i hk hk2 hi
  obtain ⟨k,rfl⟩ : ∃ m,k = m + 1:=⟨k - 1,by omega⟩
  simp only [timetable_Validate.l0,zoL]
  rw [if_neg (by omega)]
  exact pV1 zs ps fs hz hp hf ps.length k 0 (by omega) (by omega) (by omega)
 | succ n ih =>
  intro k i hk hk2 hi
  obtain ⟨k,rfl⟩ : ∃ m,k = m + 1:=⟨k - 1,by omega⟩
  simp only [timetable_Validate.l0,zoL]
  rw [if_pos (by omega),if_pos (by omega),if_pos (by omega),pzone _ _ _ k (by omega),Option.bind_some,pzoneI zs _ k (by omega) (by omega),Option.bind_some,w1 i (by omega),ih k (i + 1) (by omega) (by omega) (by omega)]
  by_cases h : zoneS (rd_T42 zs (i : Int)).f0 (rd_T42 zs (i : Int)).f1 (rd_T42 zs (i : Int)).f2 = 0
  ·rw [if_pos h]
   by_cases h1 : zoneI zs (rd_T42 zs (i : Int)).f0 < (i : Int)
   ·have hv : zoneV zs i = 7:=by unfold zoneV;rw [if_pos h,if_pos h1]
    rw [if_pos h1,hv];rfl
   ·have hv : zoneV zs i = 0:=by unfold zoneV;rw [if_pos h,if_neg h1]
    rw [if_neg h1,hv];rfl
  ·have hv : zoneV zs i = zoneS (rd_T42 zs (i : Int)).f0 (rd_T42 zs (i : Int)).f1 (rd_T42 zs (i : Int)).f2:=by unfold zoneV;rw [if_neg h]
   rw [if_neg h,if_neg (by rw [hv];exact h),hv]
theorem pvalid (zs : List S42) (ps : List S39) (fs : List S36) (k : Nat) (hk : 1100 ≤ k) (hk2 : k ≤ 4611686018427387904) : timetable_Validate.f k zs ps fs = some (validS zs ps fs):=by
 obtain ⟨k,rfl⟩ : ∃ m,k = m + 1:=⟨k - 1,by omega⟩
 have ht : timetable_Validate.j0 (k + 1) true zs ps fs = some 10:=by simp only [timetable_Validate.j0];rw [if_pos trivial]
 unfold timetable_Validate.f validS
 by_cases h1 : (zs.length : Int) > 16
 ·rw [if_pos h1,ht,if_pos (.inl (by omega))]
 rw [if_neg h1]
 by_cases h2 : (ps.length : Int) > 64
 ·rw [if_pos h2,ht,if_pos (.inr (.inl (by omega)))]
 rw [if_neg h2]
 by_cases h3 : (fs.length : Int) > 200
 ·rw [decide_eq_true h3,ht,if_pos (.inr (.inr (by omega)))]
 rw [decide_eq_false h3,if_neg (by omega)]
 simp only [timetable_Validate.j0]
 rw [if_neg (show ¬ (false = true) by simp)]
 exact pV0 zs ps fs (by omega) (by omega) (by omega) zs.length k 0 (by omega) (by omega) (by omega)
end Go.Proofs.Ytepnddmalheoiaa.TtC
namespace Go.Proofs.Ytepnddmalheoiaa.Q
open Go.Proofs.Ytepnddmalheoiaa.H
open Go.RowKit Go.Proofs.YtepnddmalheoiaaW.PrintWords Go.Proofs.YtepnddmalheoiaaW.PrintLast Go.Proofs.YtepnddmalheoiaaW.PrintMore
attribute [local go_sem] str_leq str_geq str_gtr max2_int min2_int max_two min_two max_three min_three max_four min_four   -- for this text's walks alone
set_option linter.unusedVariables false
set_option linter.unusedSimpArgs false
def pairingbase_At.f (l0 : List Int) (a1 : Int) : Option (Int):=if (l0.length : Int) = 0 then (some (Go.bits .and .i64 a1 65535)) else (if 0 ≤ (Int.tmod a1 (l0.length : Int)) then (if (Int.tmod a1 (l0.length : Int)) < (l0.length : Int) then (some (wrap64 ((Go.bits .and .i64 (rd l0 (Int.tmod a1 (l0.length : Int))) 65535) + (wrap64 (Int.tdiv a1 (l0.length : Int)))))) else (none)) else (none))
set_option maxHeartbeats 8000000 in
set_option maxRecDepth 100000 in
theorem pairingbase_At.calls (A0 : Option Addr) (c0 : Nat) (l0 : List Int) (a1 : Int) (r : Int) (w : World) (hr0 : Kd.C (Kd.int .i64) w A0 l0.length l0) (hc0 : l0.length ≤ c0) (h : pairingbase_At.f l0 a1 = some r) :
  Calls Try.prog 38 #[.slice A0 l0.length c0,.int .i64 a1] w fun e w'=>e = .returned (.int .i64 r) ∧ Drawn0 w w':=by
 have HR0:=Aside0.mk hr0
 have HC0:=Aside0.mk hc0
 clear hr0 hc0
 have H : (if (l0.length : Int) = 0 then (some (Go.bits .and .i64 a1 65535)) else (if 0 ≤ (Int.tmod a1 (l0.length : Int)) then (if (Int.tmod a1 (l0.length : Int)) < (l0.length : Int) then (some (wrap64 ((Go.bits .and .i64 (rd l0 (Int.tmod a1 (l0.length : Int))) 65535) + (wrap64 (Int.tdiv a1 (l0.length : Int)))))) else (none)) else (none))) = some r:=h
 clear h
 by_cases c3 : (l0.length : Int) = 0
 ·rw [if_pos c3] at H
  have c3b0 : ((l0.length : Int) == 0) = true:=beq_iff_eq.mpr c3
  have c3b1 : ((l0.length : Int) != 0) = false:=bne_eq_false_iff_eq.mpr c3
  clear c3
  obtain rfl:=Option.some.inj H
  go_enter Try.func38,Try.ntmps38
  go_wp2
  repeat (go_quiet (fail);try go_wp2)
  go_ret
  exact ⟨by first|rfl|(simp;done)|(simp [*];done),by repeat (first|exact Drawn0.refl _|apply Drawn0.step)⟩
 ·rw [if_neg c3] at H
  have c3b0 : ((l0.length : Int) == 0) = false:=beq_eq_false_iff_ne.mpr c3
  have c3b1 : ((l0.length : Int) != 0) = true:=bne_iff_ne.mpr c3
  have c3b2 : ¬ (l0 = []):=fun h_=>c3 (by rw [h_];rfl)
  obtain ⟨ji4,hji4⟩ : ∃ j_ : Int,(Int.tmod a1 (l0.length : Int)) = j_:=⟨_,rfl⟩
  replace H : (if 0 ≤ (ji4) then (if (ji4) < (l0.length : Int) then (some (wrap64 ((Go.bits .and .i64 (rd l0 (ji4)) 65535) + (wrap64 (Int.tdiv a1 (l0.length : Int)))))) else (none)) else (none)) = some r:=by first|(rw [hji4] at H;exact H)|(simp only [hji4] at H ⊢;exact H)
  by_cases c5 : 0 ≤ (ji4)
  ·rw [if_pos c5] at H
   have c5b0 : decide (0 ≤ (ji4)) = true:=decide_eq_true c5
   clear c5
   by_cases c6 : (ji4) < (l0.length : Int)
   ·rw [if_pos c6] at H
    have c6b0 : decide ((ji4) < (l0.length : Int)) = true:=decide_eq_true c6
    clear c6
    obtain rfl:=Option.some.inj H
    have p101 : 0 ≤ ((ji4) : Int):=of_decide_eq_true (by first|(with_reducible assumption)|assumption)
    have q101 : (ji4) < (l0.length : Int):=of_decide_eq_true (by first|(with_reducible assumption)|assumption)
    obtain ⟨ad101,e101,hx101_0⟩:=Kd.at_int HR0.out (ji4) p101 q101
    cases e101
    replace p101:=eq_true p101
    replace q101:=eq_true q101
    go_enter Try.func38,Try.ntmps38
    go_wp2
    repeat (go_quiet (fail);try go_wp2)
    go_ret
    exact ⟨by first|rfl|(simp;done)|(simp only [← hji4] <;> (first|rfl|simp))|(simp [*];done),by repeat (first|exact Drawn0.refl _|apply Drawn0.step)⟩
   ·rw [if_neg c6] at H
    exact absurd H (by simp)
  ·rw [if_neg c5] at H
   exact absurd H (by simp)
end Go.Proofs.Ytepnddmalheoiaa.Q
namespace Go.Proofs.Ytepnddmalheoiaa.Q
open Go.Proofs.Ytepnddmalheoiaa.H
open Go.RowKit Go.Proofs.YtepnddmalheoiaaW.PrintWords Go.Proofs.YtepnddmalheoiaaW.PrintLast Go.Proofs.YtepnddmalheoiaaW.PrintMore
set_option linter.unusedVariables false
set_option linter.unusedSimpArgs false
def oS1 : Obj:=.cells #[.int .i64 1441500,.int .i64 120,.int .i64 1444000,.int .i64 60] 44 (0,0)
def oS2 : Obj:=.cells #[.int .i64 1442900,.int .i64 (-240)] 44 (0,0)
def oZ (n : Nat) : Obj:=.cells #[.string ⟨#[117,116,99]⟩,.int .i64 0,.slice none 0 0,.string ⟨#[111,115,108,111]⟩,.int .i64 60,.slice (some ⟨n,0,none⟩) 2 2,.string ⟨#[121,111,114,107]⟩,.int .i64 (-300),.slice (some ⟨n + 1,0,none⟩) 1 1] 42 (0,0)
def oA : Obj:=.cells #[.string ⟨#[65,65,65]⟩,.string ⟨#[117,116,99]⟩,.string ⟨#[66,66,66]⟩,.string ⟨#[111,115,108,111]⟩,.string ⟨#[67,67,67]⟩,.string ⟨#[121,111,114,107]⟩] 39 (0,0)
def oC : Obj:=.cells #[.string ⟨#[65,65,65]⟩,.string ⟨#[66,66,66]⟩,.string ⟨#[67,67,67]⟩] 9 (0,0)
set_option maxHeartbeats 8000000 in
set_option maxRecDepth 100000 in
theorem zones_calls (w : World) : Calls Try.prog 36 #[] w fun e w'=>e = .returned (.slice (some ⟨w.heap.size + 2,0,none⟩) 3 3) ∧ w' = ((w.alloc oS1).alloc oS2).alloc (oZ w.heap.size):=by
 go_enter Try.func36,Try.ntmps36
 go_wp2
 go_ret
 exact ⟨rfl,rfl⟩
set_option maxHeartbeats 8000000 in
set_option maxRecDepth 100000 in
theorem airports_calls (w : World) : Calls Try.prog 37 #[] w fun e w'=>e = .returned (.slice (some ⟨w.heap.size,0,none⟩) 3 3) ∧ w' = w.alloc oA:=by
 go_enter Try.func37,Try.ntmps37
 go_wp2
 go_ret
 exact ⟨rfl,rfl⟩
set_option maxHeartbeats 8000000 in
set_option maxRecDepth 100000 in
theorem codes_calls (w : World) : Calls Try.prog 39 #[] w fun e w'=>e = .returned (.slice (some ⟨w.heap.size,0,none⟩) 3 3) ∧ w' = w.alloc oC:=by
 go_enter Try.func39,Try.ntmps39
 go_wp2
 go_ret
 exact ⟨rfl,rfl⟩
def atN (l : List Int) (i : Int) : Int:=(pairingbase_At.f l i).getD 0
def AtOk (l : List Int) : Prop:=∀ i : Int,0 ≤ i → i ≤ 8 → pairingbase_At.f l i = some (atN l i) ∧ 0 ≤ atN l i ∧ atN l i ≤ 70000
def bAt (n a : Int) : Int:=if n % 7 = 6 then 0 else a
def bTo (n a : Int) : Int:=if a = 0 then 1 + n / 8 % 2 else if n % 11 = 10 then 3 - a else 0
def gapL : List Int:=[30,45,45,60,90,150,600,780]
def codeL : List ByteArray:=[⟨#[65,65,65]⟩,⟨#[66,66,66]⟩,⟨#[67,67,67]⟩]
def typeL : List ByteArray:=[⟨#[97,51,50,48]⟩,⟨#[98,55,51,55]⟩,⟨#[101,49,57,48]⟩]
def codeF (j : Int) : ByteArray:=codeL.getD j.toNat ⟨#[]⟩
def typeF (j : Int) : ByteArray:=typeL.getD j.toNat ⟨#[]⟩
def numF (i : Int) : ByteArray:=(⟨#[70]⟩ : ByteArray) ++ strOfNums [48 + i]
def bDep (n clock : Int) : Int:=clock + rd gapL (n / 16 % 8)
def bArr (n dep : Int) : Int:=dep + 60 + 15 * (n / 128 % 6)
def bFlight (i n a dep : Int) : S36:=⟨numF i,codeF a,codeF (bTo n a),dep,bArr n dep,typeF (n / 1024 % 3),⟨1,1,2⟩⟩
def bClock (n dep : Int) : Int:=if n % 5 = 4 then dep + 20 else bArr n dep
def bFs (l : List Int) : Nat → Int → Int → Int → List S36
 | 0,_,_,_=>[]
 | g + 1,i,a,clock=>bFlight i (atN l (2 + i)) (bAt (atN l (2 + i)) a) (bDep (atN l (2 + i)) clock) :: bFs l g (i + 1) (bTo (atN l (2 + i)) (bAt (atN l (2 + i)) a)) (bClock (atN l (2 + i)) (bDep (atN l (2 + i)) clock))
def bM (l : List Int) : Int:=2 + atN l 1 % 6
def bAll (l : List Int) : List S36:=bFs l (bM l).toNat 0 0 (1440000 + 15 * (atN l 0 % 96))
def oG : Obj:=.cells #[.int .i64 30,.int .i64 45,.int .i64 45,.int .i64 60,.int .i64 90,.int .i64 150,.int .i64 600,.int .i64 780] 3 (0,0)
def oY : Obj:=.cells #[.string ⟨#[97,51,50,48]⟩,.string ⟨#[98,55,51,55]⟩,.string ⟨#[101,49,57,48]⟩] 9 (0,0)
def oT (n : Nat) (v : Value) : Obj:=.cells #[.slice (some ⟨n + 3,0,none⟩) 3 3,.slice (some ⟨n + 4,0,none⟩) 3 3,v] 26 (0,0)
def oR : Obj:=.cells #[.slice none 0 0,.slice none 0 0,.slice none 0 0] 26 (0,0)
structure BOut (w W : World) (v : Value) (fs : List S36) : Prop where
 be : Below w.heap.size w W
 s1 : W.heap[w.heap.size + 1]? = some oS1
 s2 : W.heap[w.heap.size + 2]? = some oS2
 z : W.heap[w.heap.size + 3]? = some (oZ (w.heap.size + 1))
 a : W.heap[w.heap.size + 4]? = some oA
 f : Kd.R k36 36 W w.heap.size (fun k=>w.heap.size + 8 ≤ k) v fs
structure BPt (w W : World) (v : Value) (fs : List S36) : Prop extends BOut w W v fs where
 b0 : W.heap[w.heap.size]? = some oR
 t : W.heap[w.heap.size + 5]? = some (oT w.heap.size v)
 g : W.heap[w.heap.size + 6]? = some oG
 y : W.heap[w.heap.size + 7]? = some oY
theorem BOut.below {w W W1 : World} {v : Value} {fs : List S36} (h : BOut w W v fs) (hb : Below W.heap.size W W1) : BOut w W1 v fs :=
 ⟨below_step h.be hb,blk_below h.s1 hb,blk_below h.s2 hb,blk_below h.z hb,blk_below h.a hb,Kd.R_below h.f hb⟩
theorem BOut.far {w W : World} {v : Value} {fs : List S36} (h : BOut w W v fs) (j : Nat) (u : Value) : BOut w (W.setCell ⟨w.heap.size,j,none⟩ u) v fs :=
 ⟨below_set h.be (Nat.le_refl _),blk_far h.s1 (by show _ ≠ w.heap.size;omega) _,blk_far h.s2 (by show _ ≠ w.heap.size;omega) _,blk_far h.z (by show _ ≠ w.heap.size;omega) _,blk_far h.a (by show _ ≠ w.heap.size;omega) _,Kd.R_far (p:=⟨w.heap.size,j,none⟩) h.f (fun k hk=>by show k ≠ w.heap.size;omega) _⟩
theorem BPt.below {w W W1 : World} {v : Value} {fs : List S36} (h : BPt w W v fs) (hb : Below W.heap.size W W1) : BPt w W1 v fs :=
 ⟨h.toBOut.below hb,blk_below h.b0 hb,blk_below h.t hb,blk_below h.g hb,blk_below h.y hb⟩
theorem BPt.drawn {w W : World} {v : Value} {fs : List S36} (h : BPt w W v fs) (n : Nat) : BPt w (W.drewN n) v fs:=h.below (pw_below_drewN (Below.refl _ _) n)
theorem gap_range (j : Int) (h0 : 0 ≤ j) (h1 : j < 8) : 0 ≤ rd gapL j ∧ rd gapL j ≤ 780:=by
 obtain rfl|rfl|rfl|rfl|rfl|rfl|rfl|rfl : j = 0 ∨ j = 1 ∨ j = 2 ∨ j = 3 ∨ j = 4 ∨ j = 5 ∨ j = 6 ∨ j = 7:=by omega
 all_goals decide
theorem str_one (x : Int) : (strOfNums [x]).size = 1:=rfl
theorem string_of_blk {W : World} {g : Nat} {x : Int} (h : W.heap[g]? = some (.cells #[.int .u8 x] 5 (0,0))) : (convert 46 9 (.slice (some ⟨g,0,none⟩) 1 1)).run Try.prog W = .ok (.string (strOfNums [x])) W:=by
 have hC : Kd.C (Kd.int .u8) W (some ⟨g,0,none⟩) 1 [x]:=by
  refine ⟨rfl,by decide,fun _=>⟨_,rfl,fun j p hj=>?_⟩⟩
  have hj0 : j = 0:=by
   have:=(List.getElem?_eq_some_iff.1 hj).1
   simpa using this
  subst hj0
  obtain rfl : x = p:=by simpa using hj
  refine ⟨[.int .u8 x],rfl,rfl,fun i u hu=>?_⟩
  have hi : i = 0:=by
   have:=(List.getElem?_eq_some_iff.1 hu).1
   simpa using this
  subst hi
  have hs : (Kd.int .u8).sz = 1:=rfl
  rw [hs,add_plain]
  exact (blk_cell h (0 * 1 + 0)).trans hu
 exact Kd.C_string Try.underlying46 Try.underlying5 Try.underlying9 hC
theorem code_cell {W : World} {g : Nat} (h : W.heap[g]? = some oC) (j : Int) (h0 : 0 ≤ j) (h1 : j < 3) : W.cell? ⟨g,j.toNat,none⟩ = some (.string (codeF j)):=by
 obtain rfl|rfl|rfl : j = 0 ∨ j = 1 ∨ j = 2:=by omega
 all_goals exact (blk_cell h _).trans rfl
theorem type_cell {W : World} {g : Nat} (h : W.heap[g]? = some oY) (j : Int) (h0 : 0 ≤ j) (h1 : j < 3) : W.cell? ⟨g,j.toNat,none⟩ = some (.string (typeF j)):=by
 obtain rfl|rfl|rfl : j = 0 ∨ j = 1 ∨ j = 2:=by omega
 all_goals exact (blk_cell h _).trans rfl
theorem below_set9 {w W : World} {g : Nat} {v0 v1 v2 v3 v4 v5 v6 v7 v8 : Value} (h : Below w.heap.size w W) (hg : w.heap.size ≤ g) :
  Below w.heap.size w (((((((((W.setCell ⟨g,0,none⟩ v0).setCell ⟨g,1,none⟩ v1).setCell ⟨g,2,none⟩ v2).setCell ⟨g,3,none⟩ v3).setCell ⟨g,4,none⟩ v4).setCell ⟨g,5,none⟩ v5).setCell ⟨g,6,none⟩ v6).setCell ⟨g,7,none⟩ v7).setCell ⟨g,8,none⟩ v8) :=
 below_set (below_set (below_set (below_set (below_set (below_set (below_set (below_set (below_set h hg) hg) hg) hg) hg) hg) hg) hg) hg
theorem blk_put9 {W : World} {g : Nat} {u0 u1 u2 u3 u4 u5 u6 u7 u8 v0 v1 v2 v3 v4 v5 v6 v7 v8 : Value} {t : TypeId} (h : W.heap[g]? = some (.cells #[u0,u1,u2,u3,u4,u5,u6,u7,u8] t (0,0))) :
  (((((((((W.setCell ⟨g,0,none⟩ v0).setCell ⟨g,1,none⟩ v1).setCell ⟨g,2,none⟩ v2).setCell ⟨g,3,none⟩ v3).setCell ⟨g,4,none⟩ v4).setCell ⟨g,5,none⟩ v5).setCell ⟨g,6,none⟩ v6).setCell ⟨g,7,none⟩ v7).setCell ⟨g,8,none⟩ v8).heap[g]? = some (.cells #[v0,v1,v2,v3,v4,v5,v6,v7,v8] t (0,0)):=by
 refine blk_put (cs:=#[v0,v1,v2,v3,v4,v5,v6,v7,u8]) ?_ 8 _ rfl
 refine blk_put (cs:=#[v0,v1,v2,v3,v4,v5,v6,u7,u8]) ?_ 7 _ rfl
 refine blk_put (cs:=#[v0,v1,v2,v3,v4,v5,u6,u7,u8]) ?_ 6 _ rfl
 refine blk_put (cs:=#[v0,v1,v2,v3,v4,u5,u6,u7,u8]) ?_ 5 _ rfl
 refine blk_put (cs:=#[v0,v1,v2,v3,u4,u5,u6,u7,u8]) ?_ 4 _ rfl
 refine blk_put (cs:=#[v0,v1,v2,u3,u4,u5,u6,u7,u8]) ?_ 3 _ rfl
 refine blk_put (cs:=#[v0,v1,u2,u3,u4,u5,u6,u7,u8]) ?_ 2 _ rfl
 refine blk_put (cs:=#[v0,u1,u2,u3,u4,u5,u6,u7,u8]) ?_ 1 _ rfl
 refine blk_put (cs:=#[u0,u1,u2,u3,u4,u5,u6,u7,u8]) ?_ 0 _ rfl
 exact h
theorem BPt.app {w W W1 : World} {v v1 : Value} {fs fs1 : List S36} {g : Nat} {c0 c1 c2 c3 c5 c6 c7 c8 : Value} {x : Int} (h : BPt w W v fs) (hG : w.heap.size + 8 ≤ g ∧ ∀ k,v.ownBlock = some k → k ≠ g) (hb : Below w.heap.size W W1) (hg : W.grownBy W1 v.ownBlock) (ho : Kd.R k36 36 W1 w.heap.size (fun k=>w.heap.size + 8 ≤ k) v1 fs1)
  (h12 : W.heap[g]? = some (.cells #[c0,c1,c2,c3,.int .i64 x,c5,c6,c7,c8] 36 (0,0))) :
  BPt w (W1.setCell ⟨w.heap.size + 5,2,none⟩ v1) v1 fs1 ∧ W1.cell? ⟨w.heap.size + 5,2,none⟩ = some v ∧ W1.frozen? ⟨w.heap.size + 5,2,none⟩ = false ∧ W1.cell? ⟨g,4,none⟩ = some (.int .i64 x) ∧ (W1.setCell ⟨w.heap.size + 5,2,none⟩ v1).cell? ⟨g,4,none⟩ = some (.int .i64 x):=by
 have ne : ∀ j,j < w.heap.size + 8 → some j ≠ v.ownBlock:=fun j hj he=>by have:=h.f.1 j he.symm;omega
 have t1:=blk_grown h.t hg (ne _ (by omega))
 refine ⟨⟨⟨below_set (h.be.trans hb) (by show w.heap.size ≤ w.heap.size + 5;omega),blk_far (blk_grown h.s1 hg (ne _ (by omega))) (by show _ ≠ w.heap.size + 5;omega) _,blk_far (blk_grown h.s2 hg (ne _ (by omega))) (by show _ ≠ w.heap.size + 5;omega) _,blk_far (blk_grown h.z hg (ne _ (by omega))) (by show _ ≠ w.heap.size + 5;omega) _,blk_far (blk_grown h.a hg (ne _ (by omega))) (by show _ ≠ w.heap.size + 5;omega) _,Kd.R_far (p:=⟨w.heap.size + 5,2,none⟩) ho (fun k hk=>by show k ≠ w.heap.size + 5;omega) _⟩,blk_far (blk_grown h.b0 hg (ne _ (by omega))) (by show _ ≠ w.heap.size + 5;omega) _,?_,blk_far (blk_grown h.g hg (ne _ (by omega))) (by show _ ≠ w.heap.size + 5;omega) _,blk_far (blk_grown h.y hg (ne _ (by omega))) (by show _ ≠ w.heap.size + 5;omega) _⟩,(blk_cell t1 2).trans rfl,blk_frozen t1 2,?_,?_⟩
 ·exact blk_put (cs:=#[.slice (some ⟨w.heap.size + 3,0,none⟩) 3 3,.slice (some ⟨w.heap.size + 4,0,none⟩) 3 3,v]) t1 2 _ rfl
 ·exact (blk_cell (blk_grown h12 hg (fun he=>hG.2 g he.symm rfl)) 4).trans rfl
 ·exact (blk_cell (blk_far (p:=⟨w.heap.size + 5,2,none⟩) (blk_grown h12 hg (fun he=>hG.2 g he.symm rfl)) (by show g ≠ w.heap.size + 5;omega) _) 4).trans rfl
def base.T17 : Bool × List (List Nat × List Nat):=(true,[([],[]),([0],[0]),([1],[1]),([2],[2]),([3],[3]),([4],[4]),([],[]),([],[]),([6,7],[6,7]),([8],[8]),([6],[]),([],[]),([10,11],[10,11]),([12],[12]),([],[]),([],[]),([15],[15]),([],[]),([17],[17]),([18],[18]),([19],[19]),([16,20],[16,20]),([],[]),([],[]),([23],[23]),([24],[24]),([22,25],[22,25]),([26],[26]),([],[]),([5,9,13,14,21,27,28],[5,9,13,14,21,27,28]),([],[]),([30,29,10,0,1,2,3,4,5,6,7,8,9,10,11,12,13,14,15,16,17,18,19,20,21,22,23,24,25,26,27,28,29,30],[29,30])])
def base.B17 : List Nat:=[0,1,3,7,15,31,0,0,192,448,64,0,3136,7232,0,0,32768,0,131072,393216,917504,2064384,0,0,8388608,25165824,62914560,130023424,0,536870911,0,2147483647]
theorem base.tab17 : rtab .any (opsOf Try.f13 17) = base.T17:=by kernel_rfl
theorem base.bits17 : waitsOk base.T17.2 base.B17 = true:=by kernel_rfl
set_option maxHeartbeats 8000000 in
set_option maxRecDepth 100000 in
theorem base_calls (A0 : Option Addr) (c0 : Nat) (l : List Int) (w : World) (hr0 : Kd.C (Kd.int .i64) w A0 l.length l) (hc0 : l.length ≤ c0) (hat : AtOk l) :
  Calls Try.prog 13 #[.slice A0 l.length c0] w fun e w'=>∃ v : Value,e = .returned (.agg #[.slice (some ⟨w.heap.size + 3,0,none⟩) 3 3,.slice (some ⟨w.heap.size + 4,0,none⟩) 3 3,v]) ∧ BOut w w' v (bAll l):=by
 have hu26:=Try.underlying26
 have HR:=Aside0.mk hr0
 have HC:=Aside0.mk hc0
 have HAt:=Aside0.mk hat
 clear hr0 hc0 hat
 go_enter Try.func13,Try.ntmps13
 go_wp2_with fail
 refine (zones_calls _).mono ?_
 rintro e_ w1 ⟨he,hw1⟩
 obtain rfl : e_ = .returned (.slice (some ⟨w.heap.size + 3,0,none⟩) 3 3):=by rw [he];simp
 have hP1 : Below w.heap.size w w1 ∧ w1.heap.size = w.heap.size + 4 ∧ w1.heap[w.heap.size]? = some oR ∧ w1.heap[w.heap.size + 1]? = some oS1 ∧ w1.heap[w.heap.size + 2]? = some oS2 ∧ w1.heap[w.heap.size + 3]? = some (oZ (w.heap.size + 1)):=by
  have hw1 : w1 = (((w.alloc oR).alloc oS1).alloc oS2).alloc (oZ (w.alloc oR).heap.size):=hw1
  have e0:=blk_alloc (blk_alloc (blk_alloc (heap_alloc_new w oR) oS1) oS2) (oZ (w.alloc oR).heap.size)
  have e1:=blk_alloc (blk_alloc (heap_alloc_new (w.alloc oR) oS1) oS2) (oZ (w.alloc oR).heap.size)
  have e2:=blk_alloc (heap_alloc_new ((w.alloc oR).alloc oS1) oS2) (oZ (w.alloc oR).heap.size)
  have e3:=heap_alloc_new (((w.alloc oR).alloc oS1).alloc oS2) (oZ (w.alloc oR).heap.size)
  simp only [World.size_alloc] at e0 e1 e2 e3
  rw [World.size_alloc] at hw1
  rw [hw1]
  exact ⟨below_alloc (below_alloc (below_alloc (below_alloc (Below.refl _ _) _) _) _) _,by simp only [World.size_alloc],e0,e1,e2,e3⟩
 have HP1:=Aside0.mk hP1
 clear he hw1 hP1
 go_wp2_with fail
 refine (airports_calls _).mono ?_
 rintro e_ w2 ⟨he,hw2⟩
 obtain rfl : e_ = .returned (.slice (some ⟨w.heap.size + 4,0,none⟩) 3 3):=by rw [he,HP1.out.2.1]
 have hP2 : Below w.heap.size w w2 ∧ w2.heap.size = w.heap.size + 5 ∧ w2.heap[w.heap.size]? = some oR ∧ w2.heap[w.heap.size + 1]? = some oS1 ∧ w2.heap[w.heap.size + 2]? = some oS2 ∧ w2.heap[w.heap.size + 3]? = some (oZ (w.heap.size + 1)) ∧ w2.heap[w.heap.size + 4]? = some oA:=by
  obtain ⟨h1,h2,h3,h4,h5,h6⟩:=HP1.out
  have e4:=heap_alloc_new w1 oA
  rw [h2] at e4
  rw [hw2]
  exact ⟨below_alloc h1 _,by rw [World.size_alloc,h2],blk_alloc h3 _,blk_alloc h4 _,blk_alloc h5 _,blk_alloc h6 _,e4⟩
 have HP2:=Aside0.mk hP2
 clear he hw2 hP2 HP1
 obtain ⟨a0,ha00,ha01⟩:=HAt.out 0 (by omega) (by omega)
 have HA0:=Aside0.mk a0
 clear a0
 generalize hn0 : atN l 0 = n0 at *
 have HN0:=Aside0.mk hn0
 clear hn0
 go_wp2_with fail
 refine (pairingbase_At.calls _ _ l 0 n0 _ (Kd.C_alloc (Kd.C_below HR.out HP2.out.1) _) HC.out HA0.out).mono ?_
 rintro e_ w3 ⟨rfl,⟨nd,rfl⟩⟩
 have hs2:=HP2.out.2.1
 have e1 : w2.heap.size = w.heap.size + 5:=hs2
 have e2 : w2.heap.size + 1 = w.heap.size + 6:=by omega
 have e3 : w2.heap.size + 1 + 1 = w.heap.size + 7:=by omega
 have E1:=Aside0.mk e1
 have E2:=Aside0.mk e2
 have E3:=Aside0.mk e3
 clear hs2 e1 e2 e3
 go_wp2
 have HB0 : BPt w ((((w2.alloc (oT w.heap.size (.slice none 0 0))).drewN nd).alloc oG).alloc oY) (.slice none 0 0) []:=by
  obtain ⟨h1,h2,h3,h4,h5,h6,h7⟩:=HP2.out
  have f5:=heap_alloc_new w2 (oT w.heap.size (.slice none 0 0))
  have f6:=heap_alloc_new ((w2.alloc (oT w.heap.size (.slice none 0 0))).drewN nd) oG
  have f7:=heap_alloc_new (((w2.alloc (oT w.heap.size (.slice none 0 0))).drewN nd).alloc oG) oY
  have hsn : ((w2.alloc (oT w.heap.size (.slice none 0 0))).drewN nd).heap.size = w2.heap.size + 1:=by simp
  simp only [World.size_alloc,hsn,h2] at f5 f6 f7
  exact ⟨⟨below_alloc (below_alloc (pw_below_drewN (below_alloc h1 _) _) _) _,blk_alloc (blk_alloc (blk_drewN (blk_alloc h4 _) _) _) _,blk_alloc (blk_alloc (blk_drewN (blk_alloc h5 _) _) _) _,blk_alloc (blk_alloc (blk_drewN (blk_alloc h6 _) _) _) _,blk_alloc (blk_alloc (blk_drewN (blk_alloc h7 _) _) _) _,Kd.R_nil _ _ _ _ _⟩,blk_alloc (blk_alloc (blk_drewN (blk_alloc h3 _) _) _) _,blk_alloc (blk_alloc (blk_drewN f5 _) _) _,blk_alloc f6 _,f7⟩
 have HBP:=Aside0.mk HB0
 clear HB0
 rw [E3.out,E2.out,E1.out]
 have hm1:=HAt.out 1 (by omega) (by omega)
 have HM1:=Aside0.mk hm1
 have HMv:=Aside0.mk (show bM l = 2 + atN l 1 % 6 from rfl)
 clear hm1
 go_loopg [4,5,8] (bM l).toNat (fun gk v4 v5 v8 wx=>∃ (i a clock : Int) (v : Value) (fs : List S36),v4 = .int .i64 a ∧ v5 = .int .i64 clock ∧ v8 = .int .i64 i ∧ Aside0 (0 ≤ i ∧ i + gk = bM l ∧ 0 ≤ a ∧ a ≤ 2 ∧ 0 ≤ clock ∧ clock ≤ 1441425 + 1000 * i ∧ (fs.length : Int) = i ∧ fs ++ bFs l gk i a clock = bAll l) ∧ Aside0 (BPt w wx v fs))
 case atStart =>
  have hm:=HMv.out
  exact ⟨0,0,_,.slice none 0 0,[],rfl,rfl,rfl,⟨by omega,by omega,by omega,by omega,by omega,by omega,rfl,by rw [List.nil_append,bAll,HN0.out]⟩,HBP⟩
 case round =>
  clear HBP
  obtain ⟨i,a,clock,v,fs,rfl,rfl,rfl,HF,HBP⟩:=hrel
  have HD:=Aside0.mk (Kd.C_below HR.out HBP.out.be)
  go_wp2_with fail
  refine (pairingbase_At.calls _ _ l 1 (atN l 1) _ HD.out HC.out HM1.out.1).mono ?_
  rintro e_ w4 ⟨rfl,⟨nd1,rfl⟩⟩
  obtain ⟨_,hn10,hn11⟩:=HM1.out
  have hm:=HMv.out
  obtain ⟨hi0,hig,ha0,ha2,hc0,hc1,hlen,htot⟩:=HF.out
  cases gk with
  | zero =>
   have c1 : decide (i < 2 + atN l 1 % 6) = false:=decide_eq_false (by omega)
   have hfs : fs = bAll l:=by rw [← htot];simp [bFs]
   have HFs:=Aside0.mk hfs
   have HB2:=Aside0.mk (HBP.out.drawn nd1)
   obtain ⟨Af,cf,rfl⟩:=Kd.R_slice HBP.out.f
   have ht0:=(blk_cell HBP.out.t 0).trans rfl
   have ht1:=(blk_cell HBP.out.t 1).trans rfl
   have ht2 : wr.cell? ⟨w.heap.size + 5,2,none⟩ = some (.slice Af fs.length cf):=(blk_cell HBP.out.t 2).trans rfl
   have hr0:=(blk_cell HBP.out.b0 0).trans rfl
   have hr1:=(blk_cell HBP.out.b0 1).trans rfl
   have hr2:=(blk_cell HBP.out.b0 2).trans rfl
   have hf0:=blk_frozen HBP.out.b0 0
   have hf1:=blk_frozen HBP.out.b0 1
   have hf2:=blk_frozen HBP.out.b0 2
   clear hfs htot
   go_wp2
   refine bodyPost_ret (results_cell_row rfl _ _ w.heap.size 26 #[.slice (some ⟨w.heap.size + 3,0,none⟩) 3 3,.slice (some ⟨w.heap.size + 4,0,none⟩) 3 3,.slice Af fs.length cf] (0,0) _ rfl (blk_put (blk_put (blk_put HB2.out.b0 0 _ rfl) 1 _ rfl) 2 _ rfl) hu26 rfl (by kernel_rfl)) rfl ⟨_,rfl,?_⟩
   rw [← HFs.out]
   exact ((HB2.out.toBOut.far 0 _).far 1 _).far 2 _
  | succ gk =>
   have c1 : decide (i < 2 + atN l 1 % 6) = true:=decide_eq_true (by omega)
   have HG:=Aside0.mk (And.intro hig (And.intro hlen htot))
   have hi6 : i ≤ 6:=by omega
   clear hig hlen htot hm HF
   obtain ⟨hn1,hn2,hn3⟩:=HAt.out (2 + i) (by omega) (by omega)
   have HN:=Aside0.mk hn1
   clear hn1
   generalize hn : atN l (2 + i) = n at *
   have HNe:=Aside0.mk hn
   clear hn
   go_wp2_with fail
   refine (pairingbase_At.calls _ _ l (2 + i) n _ (Kd.C_drewN HD.out _) HC.out HN.out).mono ?_
   rintro e_ w5 ⟨rfl,⟨nd2,rfl⟩⟩
   have HB2:=Aside0.mk (HBP.out.drawn (nd1 + nd2))
   clear HBP HD
   go_upto_if 37 with (fail)
   go_cut [4] (fun v4 wc=>v4 = .int .i64 (bAt n a) ∧ Aside0 (BPt w wc v fs))
   case first =>
    by_cases h6 : n % 7 = 6
    ·have e6:=Aside0.mk (show bAt n a = 0 from by unfold bAt;rw [if_pos h6])
     go_wp2
     go_meet
     case rel=>exact ⟨by rw [e6.out],HB2⟩
    ·have e6:=Aside0.mk (show bAt n a = a from by unfold bAt;rw [if_neg h6])
     go_wp2
     go_meet
     case rel=>exact ⟨by rw [e6.out],HB2⟩
   case rest =>
    clear HB2
    obtain ⟨rfl,HB2⟩:=hcut
    have ha : 0 ≤ bAt n a ∧ bAt n a ≤ 2:=by unfold bAt;split <;> omega
    have HBAT:=Aside0.mk (show bFs l (gk + 1) i a clock = bFlight i (atN l (2 + i)) (bAt (atN l (2 + i)) a) (bDep (atN l (2 + i)) clock) :: bFs l gk (i + 1) (bTo (atN l (2 + i)) (bAt (atN l (2 + i)) a)) (bClock (atN l (2 + i)) (bDep (atN l (2 + i)) clock)) from rfl)
    generalize hb : bAt n a = x4 at *
    have HBb:=Aside0.mk hb
    obtain ⟨hb0,hb2⟩:=ha
    clear hb
    go_upto_if 39 with (fail)
    go_cut [10] (fun v10 wc=>v10 = .int .i64 (bTo n x4) ∧ Aside0 (BPt w wc v fs))
    case first =>
     by_cases h6 : x4 = 0
     ·have e6:=Aside0.mk (show bTo n x4 = 1 + n / 8 % 2 from by unfold bTo;rw [if_pos h6])
      have c1 : (x4 == 0) = true:=beq_iff_eq.mpr h6
      go_wp2
      go_meet
      case rel=>exact ⟨by rw [e6.out],HB2⟩
     ·have c1 : (x4 == 0) = false:=beq_eq_false_iff_ne.mpr h6
      by_cases h7 : n % 11 = 10
      ·have e6:=Aside0.mk (show bTo n x4 = 3 - x4 from by unfold bTo;rw [if_neg h6,if_pos h7])
       go_wp2
       go_meet
       case rel=>exact ⟨by rw [e6.out],HB2⟩
      ·have e6:=Aside0.mk (show bTo n x4 = 0 from by unfold bTo;rw [if_neg h6,if_neg h7])
       go_wp2
       go_meet
       case rel=>exact ⟨by rw [e6.out],HB2⟩
    case rest =>
     clear HB2
     obtain ⟨rfl,HB2⟩:=hcut
     have ht : 0 ≤ bTo n x4 ∧ bTo n x4 ≤ 2:=by unfold bTo;repeat' split <;> omega
     generalize hb : bTo n x4 = x10 at *
     have HBt:=Aside0.mk hb
     obtain ⟨ht0,ht2⟩:=ht
     clear hb
     have hgap:=ar_cell (w:=wc) HB2.out.g 0 8 gapL (n / 16 % 8) rfl (fun i hi=>by match i,hi with|0,_=>rfl|1,_=>rfl|2,_=>rfl|3,_=>rfl|4,_=>rfl|5,_=>rfl|6,_=>rfl|7,_=>rfl) (by omega) (by omega)
     rw [Nat.zero_add] at hgap
     have hgr : 0 ≤ rd gapL (n / 16 % 8) ∧ rd gapL (n / 16 % 8) ≤ 780:=gap_range _ (by omega) (by omega)
     have q8 : (n / 16 % 8 < 8) = True:=eq_true (by omega)
     have p8 : (0 ≤ n / 16 % 8) = True:=eq_true (by omega)
     have HDep:=Aside0.mk (show bDep n clock = clock + rd gapL (n / 16 % 8) from rfl)
     generalize rd gapL (n / 16 % 8) = gv at *
     go_upto_region 17 with (fail)
     have hd0 : 0 ≤ clock + gv ∧ clock + gv ≤ 1441425 + 1000 * i + 780:=by omega
     rw [← HDep.out] at hd0
     obtain ⟨hd0,hd1⟩:=hd0
     rw [← HDep.out]
     generalize hdq : bDep n clock = dep at *
     have HDq:=Aside0.mk hdq
     clear hdq
     have P4:=Aside0.mk (show 0 ≤ x4 ∧ x4 < 3 from ⟨hb0,by omega⟩)
     have P10:=Aside0.mk (show 0 ≤ x10 ∧ x10 < 3 from ⟨ht0,by omega⟩)
     have PN:=Aside0.mk (show 0 ≤ n / 1024 % 3 ∧ n / 1024 % 3 < 3 from ⟨by omega,by omega⟩)
     have m1 : Int.tmod (n / 1024) 3 = n / 1024 % 3:=Int.tmod_eq_emod_of_nonneg (by omega)
     have m2 : Int.tmod (n / 128) 6 = n / 128 % 6:=Int.tmod_eq_emod_of_nonneg (by omega)
     have m3 : IntKind.i64.wrap (48 + i) = 48 + i:=IntWalk.i64_in _ (by omega)
     have m4 : IntKind.u8.wrap (48 + i) = 48 + i:=by rw [IntKind.wrap_u8];omega
     have m5 : IntKind.i64.wrap (dep + 60) = dep + 60:=IntWalk.i64_in _ (by omega)
     have m6 : IntKind.i64.wrap (15 * (n / 128 % 6)) = 15 * (n / 128 % 6):=IntWalk.i64_in _ (by omega)
     have m7 : IntKind.i64.wrap (dep + 60 + 15 * (n / 128 % 6)) = dep + 60 + 15 * (n / 128 % 6):=IntWalk.i64_in _ (by omega)
     have m8 : (0 ≤ n / 1024 % 3) = True:=eq_true PN.out.1
     have m9 : (n / 1024 % 3 < 3) = True:=eq_true PN.out.2
     go_cut [12] (fun v12 wc=>∃ g12 : Nat,v12 = .pointer (some ⟨g12,0,none⟩) ∧ Aside0 (w.heap.size + 8 ≤ g12 ∧ ∀ k,v.ownBlock = some k → k ≠ g12) ∧ Aside0 (wc.heap[g12]? = some (.cells #[.string ((⟨#[70]⟩ : ByteArray) ++ strOfNums [48 + i]),.string (codeF x4),.string (codeF x10),.int .i64 dep,.int .i64 (dep + 60 + 15 * (n / 128 % 6)),.string (typeF (n / 1024 % 3)),.int .i64 1,.int .i64 1,.int .i64 2] 36 (0,0))) ∧ Aside0 (BPt w wc v fs))
     case first =>
      clear hgap
      refine start_ (n:=32) (S:=fun w'=>True) (ds:=[]) #[false,false,false,false,false,false,false,false,false,false,false,false,false,false,false,false,false,false,false,false,false,false,false,false,false,false,false,false,false,false,false,false] (by kernel_rfl) rfl rfl trivial (fun hHeld=>?_)
      refine with_tabW base.tab17 base.bits17 (fun HT_ HW_=>?_)
      have HBP6:=Aside0.mk (HB2.out.below (below_drew (Below.refl _ _)))
      clear HB2
      generalize wc.drew = w7 at HBP6 hHeld ⊢
      have HBP7:=HBP6
      clear HBP6
      have HB:=Aside0.mk (Below.refl w7.heap.size w7)
      refine pure_ (i:=0) (N:=some 57) (v:=?_) (a':=?_) #[true,false,false,false,false,false,false,false,false,false,false,false,false,false,false,false,false,false,false,false,false,false,false,false,false,false,false,false,false,false,false,false] rfl rfl (any_of HT_.out (by kernel_rfl)) (fun _ _ _ h=>h) (Or.inl ⟨by rfl,?_⟩) ?_ ?_
      rotate_left
      ·intro w'
       go_simp
       with_reducible rfl
      rotate_left
      ·simp only [Act.put,List.setIfInBounds_toArray,List.set_cons_zero,List.set_cons_succ,i64_w,i32_w]
       rfl
      refine pure_ (i:=1) (N:=some 58) (v:=?_) (a':=?_) #[true,true,false,false,false,false,false,false,false,false,false,false,false,false,false,false,false,false,false,false,false,false,false,false,false,false,false,false,false,false,false,false] rfl rfl (any_of HT_.out (by kernel_rfl)) (fun _ _ _ h=>h) (Or.inl ⟨by rfl,?_⟩) ?_ ?_
      rotate_left
      ·intro w'
       go_simp
       with_reducible rfl
      rotate_left
      ·simp only [Act.put,List.setIfInBounds_toArray,List.set_cons_zero,List.set_cons_succ,i64_w,i32_w]
       rfl
      refine pure_ (i:=2) (N:=some 59) (v:=?_) (a':=?_) #[true,true,true,false,false,false,false,false,false,false,false,false,false,false,false,false,false,false,false,false,false,false,false,false,false,false,false,false,false,false,false,false] rfl rfl (any_of HT_.out (by kernel_rfl)) (fun _ _ _ h=>h) (Or.inl ⟨by rfl,?_⟩) ?_ ?_
      rotate_left
      ·intro w'
       go_simp
       with_reducible rfl
      rotate_left
      ·simp only [Act.put,List.setIfInBounds_toArray,List.set_cons_zero,List.set_cons_succ,i64_w,i32_w]
       rfl
      refine pure_ (i:=7) (N:=some 64) (v:=?_) (a':=?_) #[true,true,true,false,false,false,false,true,false,false,false,false,false,false,false,false,false,false,false,false,false,false,false,false,false,false,false,false,false,false,false,false] rfl rfl (any_of HT_.out (by kernel_rfl)) (fun _ _ _ h=>h) (Or.inl ⟨by rfl,?_⟩) ?_ ?_
      rotate_left
      ·intro w'
       go_simp
       with_reducible rfl
      rotate_left
      ·simp only [Act.put,List.setIfInBounds_toArray,List.set_cons_zero,List.set_cons_succ,i64_w,i32_w]
       rfl
      refine pure_ (i:=11) (N:=some 68) (v:=?_) (a':=?_) #[true,true,true,false,false,false,false,true,false,false,false,true,false,false,false,false,false,false,false,false,false,false,false,false,false,false,false,false,false,false,false,false] rfl rfl (any_of HT_.out (by kernel_rfl)) (fun _ _ _ h=>h) (Or.inl ⟨by rfl,?_⟩) ?_ ?_
      rotate_left
      ·intro w'
       go_simp
       with_reducible rfl
      rotate_left
      ·simp only [Act.put,List.setIfInBounds_toArray,List.set_cons_zero,List.set_cons_succ,i64_w,i32_w]
       rfl
      refine pure_ (i:=14) (N:=some 71) (v:=?_) (a':=?_) #[true,true,true,false,false,false,false,true,false,false,false,true,false,false,true,false,false,false,false,false,false,false,false,false,false,false,false,false,false,false,false,false] rfl rfl (any_of HT_.out (by kernel_rfl)) (fun _ _ _ h=>h) (Or.inl ⟨by rfl,?_⟩) ?_ ?_
      rotate_left
      ·intro w'
       go_simp
       with_reducible rfl
      rotate_left
      ·simp only [Act.put,List.setIfInBounds_toArray,List.set_cons_zero,List.set_cons_succ,i64_w,i32_w]
       rfl
      refine pure_ (i:=15) (N:=some 72) (v:=?_) (a':=?_) #[true,true,true,false,false,false,false,true,false,false,false,true,false,false,true,true,false,false,false,false,false,false,false,false,false,false,false,false,false,false,false,false] rfl rfl (any_of HT_.out (by kernel_rfl)) (fun _ _ _ h=>h) (Or.inl ⟨by rfl,?_⟩) ?_ ?_
      rotate_left
      ·intro w'
       go_simp
       with_reducible rfl
      rotate_left
      ·simp only [Act.put,List.setIfInBounds_toArray,List.set_cons_zero,List.set_cons_succ,i64_w,i32_w]
       rfl
      refine pure_ (i:=16) (N:=some 73) (v:=?_) (a':=?_) #[true,true,true,false,false,false,false,true,false,false,false,true,false,false,true,true,true,false,false,false,false,false,false,false,false,false,false,false,false,false,false,false] rfl rfl (any_of HT_.out (by kernel_rfl)) (fun _ _ _ h=>h) (Or.inl ⟨by rfl,?_⟩) ?_ ?_
      rotate_left
      ·intro w'
       go_simp
       with_reducible rfl
      rotate_left
      ·simp only [Act.put,List.setIfInBounds_toArray,List.set_cons_zero,List.set_cons_succ,i64_w,i32_w]
       rfl
      refine pure_ (i:=17) (N:=some 74) (v:=?_) (a':=?_) #[true,true,true,false,false,false,false,true,false,false,false,true,false,false,true,true,true,true,false,false,false,false,false,false,false,false,false,false,false,false,false,false] rfl rfl (any_of HT_.out (by kernel_rfl)) (fun _ _ _ h=>h) (Or.inl ⟨by rfl,?_⟩) ?_ ?_
      rotate_left
      ·intro w'
       go_simp
       with_reducible rfl
      rotate_left
      ·simp only [Act.put,List.setIfInBounds_toArray,List.set_cons_zero,List.set_cons_succ,i64_w,i32_w]
       rfl
      refine pure_ (i:=18) (N:=some 75) (v:=?_) (a':=?_) #[true,true,true,false,false,false,false,true,false,false,false,true,false,false,true,true,true,true,true,false,false,false,false,false,false,false,false,false,false,false,false,false] rfl rfl (any_of HT_.out (by kernel_rfl)) (fun _ _ _ h=>h) (Or.inl ⟨by rfl,?_⟩) ?_ ?_
      rotate_left
      ·intro w'
       go_simp
       with_reducible rfl
      rotate_left
      ·simp only [Act.put,List.setIfInBounds_toArray,List.set_cons_zero,List.set_cons_succ,i64_w,i32_w]
       rfl
      refine pure_ (i:=19) (N:=some 76) (v:=?_) (a':=?_) #[true,true,true,false,false,false,false,true,false,false,false,true,false,false,true,true,true,true,true,true,false,false,false,false,false,false,false,false,false,false,false,false] rfl rfl (any_of HT_.out (by kernel_rfl)) (fun _ _ _ h=>h) (Or.inl ⟨by rfl,?_⟩) ?_ ?_
      rotate_left
      ·intro w'
       go_simp
       with_reducible rfl
      rotate_left
      ·simp only [Act.put,List.setIfInBounds_toArray,List.set_cons_zero,List.set_cons_succ,i64_w,i32_w]
       rfl
      refine pure_ (i:=20) (N:=some 77) (v:=?_) (a':=?_) #[true,true,true,false,false,false,false,true,false,false,false,true,false,false,true,true,true,true,true,true,true,false,false,false,false,false,false,false,false,false,false,false] rfl rfl (any_of HT_.out (by kernel_rfl)) (fun _ _ _ h=>h) (Or.inl ⟨by rfl,?_⟩) ?_ ?_
      rotate_left
      ·intro w'
       go_simp
       with_reducible rfl
      rotate_left
      ·simp only [Act.put,List.setIfInBounds_toArray,List.set_cons_zero,List.set_cons_succ,i64_w,i32_w]
       rfl
      refine pure_ (i:=21) (N:=some 78) (v:=?_) (a':=?_) #[true,true,true,false,false,false,false,true,false,false,false,true,false,false,true,true,true,true,true,true,true,true,false,false,false,false,false,false,false,false,false,false] rfl rfl (any_of HT_.out (by kernel_rfl)) (fun _ _ _ h=>h) (Or.inl ⟨by rfl,?_⟩) ?_ ?_
      rotate_left
      ·intro w'
       go_simp
       with_reducible rfl
      rotate_left
      ·simp only [Act.put,List.setIfInBounds_toArray,List.set_cons_zero,List.set_cons_succ,i64_w,i32_w]
       rfl
      refine pure_ (i:=22) (N:=some 79) (v:=?_) (a':=?_) #[true,true,true,false,false,false,false,true,false,false,false,true,false,false,true,true,true,true,true,true,true,true,true,false,false,false,false,false,false,false,false,false] rfl rfl (any_of HT_.out (by kernel_rfl)) (fun _ _ _ h=>h) (Or.inl ⟨by rfl,?_⟩) ?_ ?_
      rotate_left
      ·intro w'
       go_simp
       with_reducible rfl
      rotate_left
      ·simp only [Act.put,List.setIfInBounds_toArray,List.set_cons_zero,List.set_cons_succ,i64_w,i32_w]
       rfl
      refine pure_ (i:=23) (N:=some 80) (v:=?_) (a':=?_) #[true,true,true,false,false,false,false,true,false,false,false,true,false,false,true,true,true,true,true,true,true,true,true,true,false,false,false,false,false,false,false,false] rfl rfl (any_of HT_.out (by kernel_rfl)) (fun _ _ _ h=>h) (Or.inl ⟨by rfl,?_⟩) ?_ ?_
      rotate_left
      ·intro w'
       go_simp
       with_reducible rfl
      rotate_left
      ·simp only [Act.put,List.setIfInBounds_toArray,List.set_cons_zero,List.set_cons_succ,i64_w,i32_w]
       rfl
      refine pure_ (i:=24) (N:=some 81) (v:=?_) (a':=?_) #[true,true,true,false,false,false,false,true,false,false,false,true,false,false,true,true,true,true,true,true,true,true,true,true,true,false,false,false,false,false,false,false] rfl rfl (any_of HT_.out (by kernel_rfl)) (fun _ _ _ h=>h) (Or.inl ⟨by rfl,?_⟩) ?_ ?_
      rotate_left
      ·intro w'
       go_simp
       with_reducible rfl
      rotate_left
      ·simp only [Act.put,List.setIfInBounds_toArray,List.set_cons_zero,List.set_cons_succ,i64_w,i32_w]
       rfl
      refine pure_ (i:=25) (N:=some 82) (v:=?_) (a':=?_) #[true,true,true,false,false,false,false,true,false,false,false,true,false,false,true,true,true,true,true,true,true,true,true,true,true,true,false,false,false,false,false,false] rfl rfl (any_of HT_.out (by kernel_rfl)) (fun _ _ _ h=>h) (Or.inl ⟨by rfl,?_⟩) ?_ ?_
      rotate_left
      ·intro w'
       go_simp
       with_reducible rfl
      rotate_left
      ·simp only [Act.put,List.setIfInBounds_toArray,List.set_cons_zero,List.set_cons_succ,i64_w,i32_w]
       rfl
      refine pure_ (i:=26) (N:=some 83) (v:=?_) (a':=?_) #[true,true,true,false,false,false,false,true,false,false,false,true,false,false,true,true,true,true,true,true,true,true,true,true,true,true,true,false,false,false,false,false] rfl rfl (any_of HT_.out (by kernel_rfl)) (fun _ _ _ h=>h) (Or.inl ⟨by rfl,?_⟩) ?_ ?_
      rotate_left
      ·intro w'
       go_simp
       with_reducible rfl
      rotate_left
      ·simp only [Act.put,List.setIfInBounds_toArray,List.set_cons_zero,List.set_cons_succ,i64_w,i32_w]
       rfl
      refine pure_ (i:=28) (N:=some 85) (v:=?_) (a':=?_) #[true,true,true,false,false,false,false,true,false,false,false,true,false,false,true,true,true,true,true,true,true,true,true,true,true,true,true,false,true,false,false,false] rfl rfl (any_of HT_.out (by kernel_rfl)) (fun _ _ _ h=>h) (Or.inl ⟨by rfl,?_⟩) ?_ ?_
      rotate_left
      ·intro w'
       go_simp
       with_reducible rfl
      rotate_left
      ·simp only [Act.put,List.setIfInBounds_toArray,List.set_cons_zero,List.set_cons_succ,i64_w,i32_w]
       rfl
      refine inv_at [3,4,5,6,8,9,10,12,13,27,29,30,31] (fun a0_ b a w'=>∃ (g60 : Nat) (g63 : Nat) (g67 : Nat) (g12 : Nat) (m3_ : Value) (m6_ : Value) (m8_ : Value) (m10_ : Value) (m12_ : Value) (m30_ : Value),a = putSel a0_ b [(3,60,m3_),(4,61,.string (strOfNums [48 + i])),(5,62,.string ((⟨#[70]⟩ : ByteArray) ++ strOfNums [48 + i])),(6,63,m6_),(8,65,m8_),(9,66,.string (codeF x4)),(10,67,m10_),(12,69,m12_),(13,70,.string (codeF x10)),(27,84,.string (typeF (n / 1024 % 3))),(29,86,.agg #[.string ((⟨#[70]⟩ : ByteArray) ++ strOfNums [48 + i]),.string (codeF x4),.string (codeF x10),.int .i64 dep,.int .i64 (dep + 60 + 15 * (n / 128 % 6)),.string (typeF (n / 1024 % 3)),.int .i64 1,.int .i64 1,.int .i64 2]),(30,12,m30_)] ∧ (Below w7.heap.size w7 w') ∧ (b 3 = true → b 31 = false → w'.heap[g60]? = some (.cells #[.int .u8 (48 + i)] 5 (0,0))) ∧ (b 6 = true → b 31 = false → w'.heap[g63]? = some oC) ∧ (b 10 = true → b 31 = false → w'.heap[g67]? = some oC) ∧ (b 30 = true → b 31 = false → w'.heap[g12]? = some (.cells #[.string ⟨#[]⟩,.string ⟨#[]⟩,.string ⟨#[]⟩,.int .i64 0,.int .i64 0,.string ⟨#[]⟩,.int .i64 0,.int .i64 0,.int .i64 0] 36 (0,0))) ∧ (b 30 = true → w7.heap.size ≤ g12) ∧ (b 31 = true → w'.heap[g12]? = some (.cells #[.string ((⟨#[70]⟩ : ByteArray) ++ strOfNums [48 + i]),.string (codeF x4),.string (codeF x10),.int .i64 dep,.int .i64 (dep + 60 + 15 * (n / 128 % 6)),.string (typeF (n / 1024 % 3)),.int .i64 1,.int .i64 1,.int .i64 2] 36 (0,0))) ∧ (b 3 = true → (m3_ : Value) = .slice (some ⟨g60,0,none⟩) 1 1) ∧ (b 6 = true → (m6_ : Value) = .slice (some ⟨g63,0,none⟩) 3 3) ∧ (b 8 = true → (m8_ : Value) = .pointer (some ⟨g63,x4.toNat,none⟩)) ∧ (b 10 = true → (m10_ : Value) = .slice (some ⟨g67,0,none⟩) 3 3) ∧ (b 12 = true → (m12_ : Value) = .pointer (some ⟨g67,x10.toNat,none⟩)) ∧ (b 30 = true → (m30_ : Value) = .pointer (some ⟨g12,0,none⟩))) HT_.out HW_.out (by kernel_rfl) (by kernel_rfl) ?_ ?_ ?_
      ·exact ⟨0,0,0,0,.bool false,.bool false,.bool false,.bool false,.bool false,.bool false,by simp only [putSel,Bool.false_eq_true,if_false],HB.out,fun h_=>absurd h_ (by decide),fun h_=>absurd h_ (by decide),fun h_=>absurd h_ (by decide),fun h_=>absurd h_ (by decide),fun h_=>absurd h_ (by decide),fun h_=>absurd h_ (by decide),fun h_=>absurd h_ (by decide),fun h_=>absurd h_ (by decide),fun h_=>absurd h_ (by decide),fun h_=>absurd h_ (by decide),fun h_=>absurd h_ (by decide),fun h_=>absurd h_ (by decide)⟩
      ·skip
       clear HB
       refine steps_cons ?_ ?_
       ·rintro b a w' ⟨g60,g63,g67,g12,m3_,m6_,m8_,m10_,m12_,m30_,ha,Q_HB,Q_F60,Q_F63,Q_F67,Q_F12,Q_G12,Q_F12b,Q_X3_,Q_X6_,Q_X8_,Q_X10_,Q_X12_,Q_X30_⟩ hb_ hon hoff
        refine ⟨_,rfl,fun K hK=>?_⟩
        have e59 : a.tmps[59]? = some (.int .u8 (48 + i)):=by rw [ha];exact (putSel_off rfl).trans rfl
        replace ha:=Aside0.mk ha
        have HB:=Aside0.mk Q_HB
        refine value_ (w1:=w'.alloc (.cells #[.int .u8 (48 + i)] 5 (0,0))) (v:=.slice (some ⟨w'.heap.size,0,none⟩) 1 1) (by rfl) rfl ?_ ?_
        ·go_simp
         try rfl
        refine hK.out _ _ ⟨w'.heap.size,g63,g67,g12,(.slice (some ⟨w'.heap.size,0,none⟩) 1 1),m6_,m8_,m10_,m12_,m30_,(by rw [ha.out];exact putSel_upk 0 hb_ rfl rfl rfl),below_alloc HB.out _,fun _ _=>heap_alloc_new _ _,fun h0_ h1_=>blk_alloc (Q_F63 h0_ h1_) _,fun h0_ h1_=>blk_alloc (Q_F67 h0_ h1_) _,fun h0_ h1_=>blk_alloc (Q_F12 h0_ h1_) _,Q_G12,fun h0_=>absurd ((hoff 31 (by kernel_rfl)).symm.trans h0_) (by decide),fun _=>rfl,Q_X6_,Q_X8_,Q_X10_,Q_X12_,Q_X30_⟩
       refine steps_cons ?_ ?_
       ·rintro b a w' ⟨g60,g63,g67,g12,m3_,m6_,m8_,m10_,m12_,m30_,ha,Q_HB,Q_F60,Q_F63,Q_F67,Q_F12,Q_G12,Q_F12b,Q_X3_,Q_X6_,Q_X8_,Q_X10_,Q_X12_,Q_X30_⟩ hb_ hon hoff
        refine ⟨_,rfl,fun K hK=>?_⟩
        have e60 : a.tmps[60]? = some (m3_):=by rw [ha];exact putSel_on (e:=(3,60,m3_)) 0 rfl rfl (hon 3 (by kernel_rfl)) rfl
        rw [Q_X3_ (hon 3 (by kernel_rfl))] at e60
        replace ha:=Aside0.mk ha
        have HB:=Aside0.mk Q_HB
        have F60:=Aside0.mk (Q_F60 (hon 3 (by kernel_rfl)) (hoff 31 (by kernel_rfl)))
        have hcv:=string_of_blk F60.out
        refine value_ (w1:=w') (v:=.string (strOfNums [48 + i])) (by rfl) rfl ?_ ?_
        ·go_simp
         (try simp only [i64_w])
         try rfl
        refine hK.out _ _ ⟨g60,g63,g67,g12,m3_,m6_,m8_,m10_,m12_,m30_,(by rw [ha.out];exact putSel_upk 1 hb_ rfl rfl rfl),Q_HB,Q_F60,Q_F63,Q_F67,Q_F12,Q_G12,fun h0_=>absurd ((hoff 31 (by kernel_rfl)).symm.trans h0_) (by decide),Q_X3_,Q_X6_,Q_X8_,Q_X10_,Q_X12_,Q_X30_⟩
       refine steps_cons ?_ ?_
       ·rintro b a w' ⟨g60,g63,g67,g12,m3_,m6_,m8_,m10_,m12_,m30_,ha,Q_HB,Q_F60,Q_F63,Q_F67,Q_F12,Q_G12,Q_F12b,Q_X3_,Q_X6_,Q_X8_,Q_X10_,Q_X12_,Q_X30_⟩ hb_ hon hoff
        refine ⟨_,rfl,fun K hK=>?_⟩
        have e61 : a.tmps[61]? = some (.string (strOfNums [48 + i])):=by rw [ha];exact putSel_on (e:=(4,61,.string (strOfNums [48 + i]))) 1 rfl rfl (hon 4 (by kernel_rfl)) rfl
        replace ha:=Aside0.mk ha
        have HB:=Aside0.mk Q_HB
        have F60:=Aside0.mk (Q_F60 (hon 3 (by kernel_rfl)) (hoff 31 (by kernel_rfl)))
        have hsz_ : 1 + (strOfNums [48 + i]).size ≤ 9223372036854775807:=by rw [str_one];decide
        refine value_ (w1:=w') (v:=.string ((⟨#[70]⟩ : ByteArray) ++ strOfNums [48 + i])) (by rfl) rfl ?_ ?_
        ·go_simp
         (try simp only [i64_w])
         try rfl
        refine hK.out _ _ ⟨g60,g63,g67,g12,m3_,m6_,m8_,m10_,m12_,m30_,(by rw [ha.out];exact putSel_upk 2 hb_ rfl rfl rfl),Q_HB,Q_F60,Q_F63,Q_F67,Q_F12,Q_G12,fun h0_=>absurd ((hoff 31 (by kernel_rfl)).symm.trans h0_) (by decide),Q_X3_,Q_X6_,Q_X8_,Q_X10_,Q_X12_,Q_X30_⟩
       refine steps_cons ?_ ?_
       ·rintro b a w' ⟨g60,g63,g67,g12,m3_,m6_,m8_,m10_,m12_,m30_,ha,Q_HB,Q_F60,Q_F63,Q_F67,Q_F12,Q_G12,Q_F12b,Q_X3_,Q_X6_,Q_X8_,Q_X10_,Q_X12_,Q_X30_⟩ hb_ hon hoff
        refine ⟨_,rfl,fun K hK=>?_⟩
        replace ha:=Aside0.mk ha
        have HB:=Aside0.mk Q_HB
        refine goes_ Try.func39 (by kernel_rfl) rfl #[] (by rfl) rfl rfl (by first|(simp only [List.map_toArray,List.map_cons,List.map_nil,Act.eval,Array.getD_eq_getD_getElem?,Option.getD_some];done)|(simp only [List.map_toArray,List.map_cons,List.map_nil,Act.eval,Array.getD_eq_getD_getElem?,Option.getD_some];rfl)) ?_
        with_reducible refine (codes_calls _).mono ?_
        rintro e w2_ ⟨rfl,rfl⟩
        refine ⟨_,rfl,?_⟩
        refine hK.out _ _ ⟨g60,w'.heap.size,g67,g12,m3_,(.slice (some ⟨w'.heap.size,0,none⟩) 3 3),m8_,m10_,m12_,m30_,(by rw [ha.out];exact putSel_upk 3 hb_ rfl rfl rfl),below_alloc HB.out _,fun h0_ h1_=>blk_alloc (Q_F60 h0_ h1_) _,fun _ _=>heap_alloc_new _ _,fun h0_ _=>absurd ((hoff 10 (by kernel_rfl)).symm.trans h0_) (by decide),fun h0_ h1_=>blk_alloc (Q_F12 h0_ h1_) _,Q_G12,fun h0_=>absurd ((hoff 31 (by kernel_rfl)).symm.trans h0_) (by decide),Q_X3_,fun _=>rfl,fun h0_=>absurd ((hoff 8 (by kernel_rfl)).symm.trans h0_) (by decide),fun h0_=>absurd ((hoff 10 (by kernel_rfl)).symm.trans h0_) (by decide),fun h0_=>absurd ((hoff 12 (by kernel_rfl)).symm.trans h0_) (by decide),Q_X30_⟩
       refine steps_cons ?_ ?_
       ·rintro b a w' ⟨g60,g63,g67,g12,m3_,m6_,m8_,m10_,m12_,m30_,ha,Q_HB,Q_F60,Q_F63,Q_F67,Q_F12,Q_G12,Q_F12b,Q_X3_,Q_X6_,Q_X8_,Q_X10_,Q_X12_,Q_X30_⟩ hb_ hon hoff
        refine ⟨_,rfl,fun K hK=>?_⟩
        have e63 : a.tmps[63]? = some (m6_):=by rw [ha];exact putSel_on (e:=(6,63,m6_)) 3 rfl rfl (hon 6 (by kernel_rfl)) rfl
        rw [Q_X6_ (hon 6 (by kernel_rfl))] at e63
        have e64 : a.tmps[64]? = some (.int .i64 x4):=by rw [ha];exact (putSel_off rfl).trans rfl
        replace ha:=Aside0.mk ha
        have HB:=Aside0.mk Q_HB
        have F63:=Aside0.mk (Q_F63 (hon 6 (by kernel_rfl)) (hoff 31 (by kernel_rfl)))
        have p4_:=eq_true P4.out.1
        have q4_:=eq_true (show x4 < 3 from P4.out.2)
        refine value_ (w1:=w') (v:=.pointer (some ⟨g63,x4.toNat,none⟩)) (by rfl) rfl ?_ ?_
        ·go_simp
         (try simp only [i64_w])
         try rfl
        refine hK.out _ _ ⟨g60,g63,g67,g12,m3_,m6_,(.pointer (some ⟨g63,x4.toNat,none⟩)),m10_,m12_,m30_,(by rw [ha.out];exact putSel_upk 4 hb_ rfl rfl rfl),Q_HB,Q_F60,Q_F63,Q_F67,Q_F12,Q_G12,fun h0_=>absurd ((hoff 31 (by kernel_rfl)).symm.trans h0_) (by decide),Q_X3_,Q_X6_,fun _=>rfl,Q_X10_,Q_X12_,Q_X30_⟩
       refine steps_cons ?_ ?_
       ·rintro b a w' ⟨g60,g63,g67,g12,m3_,m6_,m8_,m10_,m12_,m30_,ha,Q_HB,Q_F60,Q_F63,Q_F67,Q_F12,Q_G12,Q_F12b,Q_X3_,Q_X6_,Q_X8_,Q_X10_,Q_X12_,Q_X30_⟩ hb_ hon hoff
        refine ⟨_,rfl,fun K hK=>?_⟩
        have e65 : a.tmps[65]? = some (m8_):=by rw [ha];exact putSel_on (e:=(8,65,m8_)) 4 rfl rfl (hon 8 (by kernel_rfl)) rfl
        rw [Q_X8_ (hon 8 (by kernel_rfl))] at e65
        replace ha:=Aside0.mk ha
        have HB:=Aside0.mk Q_HB
        have F63:=Aside0.mk (Q_F63 (hon 6 (by kernel_rfl)) (hoff 31 (by kernel_rfl)))
        have hcv:=code_cell F63.out x4 P4.out.1 P4.out.2
        refine value_ (w1:=w') (v:=.string (codeF x4)) (by rfl) rfl ?_ ?_
        ·go_simp
         (try simp only [i64_w])
         try rfl
        refine hK.out _ _ ⟨g60,g63,g67,g12,m3_,m6_,m8_,m10_,m12_,m30_,(by rw [ha.out];exact putSel_upk 5 hb_ rfl rfl rfl),Q_HB,Q_F60,Q_F63,Q_F67,Q_F12,Q_G12,fun h0_=>absurd ((hoff 31 (by kernel_rfl)).symm.trans h0_) (by decide),Q_X3_,Q_X6_,Q_X8_,Q_X10_,Q_X12_,Q_X30_⟩
       refine steps_cons ?_ ?_
       ·rintro b a w' ⟨g60,g63,g67,g12,m3_,m6_,m8_,m10_,m12_,m30_,ha,Q_HB,Q_F60,Q_F63,Q_F67,Q_F12,Q_G12,Q_F12b,Q_X3_,Q_X6_,Q_X8_,Q_X10_,Q_X12_,Q_X30_⟩ hb_ hon hoff
        refine ⟨_,rfl,fun K hK=>?_⟩
        replace ha:=Aside0.mk ha
        have HB:=Aside0.mk Q_HB
        have F63:=Aside0.mk (Q_F63 (hon 6 (by kernel_rfl)) (hoff 31 (by kernel_rfl)))
        refine goes_ Try.func39 (by kernel_rfl) rfl #[] (by rfl) rfl rfl (by first|(simp only [List.map_toArray,List.map_cons,List.map_nil,Act.eval,Array.getD_eq_getD_getElem?,Option.getD_some];done)|(simp only [List.map_toArray,List.map_cons,List.map_nil,Act.eval,Array.getD_eq_getD_getElem?,Option.getD_some];rfl)) ?_
        with_reducible refine (codes_calls _).mono ?_
        rintro e w2_ ⟨rfl,rfl⟩
        refine ⟨_,rfl,?_⟩
        refine hK.out _ _ ⟨g60,g63,w'.heap.size,g12,m3_,m6_,m8_,(.slice (some ⟨w'.heap.size,0,none⟩) 3 3),m12_,m30_,(by rw [ha.out];exact putSel_upk 6 hb_ rfl rfl rfl),below_alloc HB.out _,fun h0_ h1_=>blk_alloc (Q_F60 h0_ h1_) _,fun _ _=>blk_alloc F63.out _,fun _ _=>heap_alloc_new _ _,fun h0_ h1_=>blk_alloc (Q_F12 h0_ h1_) _,Q_G12,fun h0_=>absurd ((hoff 31 (by kernel_rfl)).symm.trans h0_) (by decide),Q_X3_,Q_X6_,Q_X8_,fun _=>rfl,fun h0_=>absurd ((hoff 12 (by kernel_rfl)).symm.trans h0_) (by decide),Q_X30_⟩
       refine steps_cons ?_ ?_
       ·rintro b a w' ⟨g60,g63,g67,g12,m3_,m6_,m8_,m10_,m12_,m30_,ha,Q_HB,Q_F60,Q_F63,Q_F67,Q_F12,Q_G12,Q_F12b,Q_X3_,Q_X6_,Q_X8_,Q_X10_,Q_X12_,Q_X30_⟩ hb_ hon hoff
        refine ⟨_,rfl,fun K hK=>?_⟩
        have e67 : a.tmps[67]? = some (m10_):=by rw [ha];exact putSel_on (e:=(10,67,m10_)) 6 rfl rfl (hon 10 (by kernel_rfl)) rfl
        rw [Q_X10_ (hon 10 (by kernel_rfl))] at e67
        have e68 : a.tmps[68]? = some (.int .i64 x10):=by rw [ha];exact (putSel_off rfl).trans rfl
        replace ha:=Aside0.mk ha
        have HB:=Aside0.mk Q_HB
        have F63:=Aside0.mk (Q_F63 (hon 6 (by kernel_rfl)) (hoff 31 (by kernel_rfl)))
        have F67:=Aside0.mk (Q_F67 (hon 10 (by kernel_rfl)) (hoff 31 (by kernel_rfl)))
        have p4_:=eq_true P10.out.1
        have q4_:=eq_true (show x10 < 3 from P10.out.2)
        refine value_ (w1:=w') (v:=.pointer (some ⟨g67,x10.toNat,none⟩)) (by rfl) rfl ?_ ?_
        ·go_simp
         (try simp only [i64_w])
         try rfl
        refine hK.out _ _ ⟨g60,g63,g67,g12,m3_,m6_,m8_,m10_,(.pointer (some ⟨g67,x10.toNat,none⟩)),m30_,(by rw [ha.out];exact putSel_upk 7 hb_ rfl rfl rfl),Q_HB,Q_F60,Q_F63,Q_F67,Q_F12,Q_G12,fun h0_=>absurd ((hoff 31 (by kernel_rfl)).symm.trans h0_) (by decide),Q_X3_,Q_X6_,Q_X8_,Q_X10_,fun _=>rfl,Q_X30_⟩
       refine steps_cons ?_ ?_
       ·rintro b a w' ⟨g60,g63,g67,g12,m3_,m6_,m8_,m10_,m12_,m30_,ha,Q_HB,Q_F60,Q_F63,Q_F67,Q_F12,Q_G12,Q_F12b,Q_X3_,Q_X6_,Q_X8_,Q_X10_,Q_X12_,Q_X30_⟩ hb_ hon hoff
        refine ⟨_,rfl,fun K hK=>?_⟩
        have e69 : a.tmps[69]? = some (m12_):=by rw [ha];exact putSel_on (e:=(12,69,m12_)) 7 rfl rfl (hon 12 (by kernel_rfl)) rfl
        rw [Q_X12_ (hon 12 (by kernel_rfl))] at e69
        replace ha:=Aside0.mk ha
        have HB:=Aside0.mk Q_HB
        have F63:=Aside0.mk (Q_F63 (hon 6 (by kernel_rfl)) (hoff 31 (by kernel_rfl)))
        have F67:=Aside0.mk (Q_F67 (hon 10 (by kernel_rfl)) (hoff 31 (by kernel_rfl)))
        have hcv:=code_cell F67.out x10 P10.out.1 P10.out.2
        refine value_ (w1:=w') (v:=.string (codeF x10)) (by rfl) rfl ?_ ?_
        ·go_simp
         (try simp only [i64_w])
         try rfl
        refine hK.out _ _ ⟨g60,g63,g67,g12,m3_,m6_,m8_,m10_,m12_,m30_,(by rw [ha.out];exact putSel_upk 8 hb_ rfl rfl rfl),Q_HB,Q_F60,Q_F63,Q_F67,Q_F12,Q_G12,fun h0_=>absurd ((hoff 31 (by kernel_rfl)).symm.trans h0_) (by decide),Q_X3_,Q_X6_,Q_X8_,Q_X10_,Q_X12_,Q_X30_⟩
       refine steps_cons ?_ ?_
       ·rintro b a w' ⟨g60,g63,g67,g12,m3_,m6_,m8_,m10_,m12_,m30_,ha,Q_HB,Q_F60,Q_F63,Q_F67,Q_F12,Q_G12,Q_F12b,Q_X3_,Q_X6_,Q_X8_,Q_X10_,Q_X12_,Q_X30_⟩ hb_ hon hoff
        refine ⟨_,rfl,fun K hK=>?_⟩
        have e83 : a.tmps[83]? = some (.pointer (some ⟨w.heap.size + 7,(n / 1024 % 3).toNat,none⟩)):=by rw [ha];exact (putSel_off rfl).trans rfl
        replace ha:=Aside0.mk ha
        have HB:=Aside0.mk Q_HB
        have hcv:=type_cell (HBP7.out.below HB.out).y (n / 1024 % 3) PN.out.1 PN.out.2
        refine value_ (w1:=w') (v:=.string (typeF (n / 1024 % 3))) (by rfl) rfl ?_ ?_
        ·go_simp
         (try simp only [i64_w])
         try rfl
        refine hK.out _ _ ⟨g60,g63,g67,g12,m3_,m6_,m8_,m10_,m12_,m30_,(by rw [ha.out];exact putSel_upk 9 hb_ rfl rfl rfl),Q_HB,Q_F60,Q_F63,Q_F67,Q_F12,Q_G12,fun h0_=>absurd ((hoff 31 (by kernel_rfl)).symm.trans h0_) (by decide),Q_X3_,Q_X6_,Q_X8_,Q_X10_,Q_X12_,Q_X30_⟩
       refine steps_cons ?_ ?_
       ·rintro b a w' ⟨g60,g63,g67,g12,m3_,m6_,m8_,m10_,m12_,m30_,ha,Q_HB,Q_F60,Q_F63,Q_F67,Q_F12,Q_G12,Q_F12b,Q_X3_,Q_X6_,Q_X8_,Q_X10_,Q_X12_,Q_X30_⟩ hb_ hon hoff
        refine ⟨_,rfl,fun K hK=>?_⟩
        have e62 : a.tmps[62]? = some (.string ((⟨#[70]⟩ : ByteArray) ++ strOfNums [48 + i])):=by rw [ha];exact putSel_on (e:=(5,62,.string ((⟨#[70]⟩ : ByteArray) ++ strOfNums [48 + i]))) 2 rfl rfl (hon 5 (by kernel_rfl)) rfl
        have e66 : a.tmps[66]? = some (.string (codeF x4)):=by rw [ha];exact putSel_on (e:=(9,66,.string (codeF x4))) 5 rfl rfl (hon 9 (by kernel_rfl)) rfl
        have e70 : a.tmps[70]? = some (.string (codeF x10)):=by rw [ha];exact putSel_on (e:=(13,70,.string (codeF x10))) 8 rfl rfl (hon 13 (by kernel_rfl)) rfl
        have e71 : a.tmps[71]? = some (.int .i64 dep):=by rw [ha];exact (putSel_off rfl).trans rfl
        have e78 : a.tmps[78]? = some (.int .i64 (dep + 60 + 15 * (n / 128 % 6))):=by rw [ha];exact (putSel_off rfl).trans rfl
        have e84 : a.tmps[84]? = some (.string (typeF (n / 1024 % 3))):=by rw [ha];exact putSel_on (e:=(27,84,.string (typeF (n / 1024 % 3)))) 9 rfl rfl (hon 27 (by kernel_rfl)) rfl
        have e85 : a.tmps[85]? = some (.agg #[.int .i64 1,.int .i64 1,.int .i64 2]):=by rw [ha];exact (putSel_off rfl).trans rfl
        replace ha:=Aside0.mk ha
        have HB:=Aside0.mk Q_HB
        have F60:=Aside0.mk (Q_F60 (hon 3 (by kernel_rfl)) (hoff 31 (by kernel_rfl)))
        have F63:=Aside0.mk (Q_F63 (hon 6 (by kernel_rfl)) (hoff 31 (by kernel_rfl)))
        have F67:=Aside0.mk (Q_F67 (hon 10 (by kernel_rfl)) (hoff 31 (by kernel_rfl)))
        refine value_ (w1:=w') (v:=.agg #[.string ((⟨#[70]⟩ : ByteArray) ++ strOfNums [48 + i]),.string (codeF x4),.string (codeF x10),.int .i64 dep,.int .i64 (dep + 60 + 15 * (n / 128 % 6)),.string (typeF (n / 1024 % 3)),.int .i64 1,.int .i64 1,.int .i64 2]) (by rfl) rfl ?_ ?_
        ·go_simp
         (try simp only [i64_w])
         try rfl
        refine hK.out _ _ ⟨g60,g63,g67,g12,m3_,m6_,m8_,m10_,m12_,m30_,(by rw [ha.out];exact putSel_upk 10 hb_ rfl rfl rfl),Q_HB,Q_F60,Q_F63,Q_F67,Q_F12,Q_G12,fun h0_=>absurd ((hoff 31 (by kernel_rfl)).symm.trans h0_) (by decide),Q_X3_,Q_X6_,Q_X8_,Q_X10_,Q_X12_,Q_X30_⟩
       refine steps_cons ?_ ?_
       ·rintro b a w' ⟨g60,g63,g67,g12,m3_,m6_,m8_,m10_,m12_,m30_,ha,Q_HB,Q_F60,Q_F63,Q_F67,Q_F12,Q_G12,Q_F12b,Q_X3_,Q_X6_,Q_X8_,Q_X10_,Q_X12_,Q_X30_⟩ hb_ hon hoff
        refine ⟨_,rfl,fun K hK=>?_⟩
        replace ha:=Aside0.mk ha
        have HB:=Aside0.mk Q_HB
        refine value_ (w1:=w'.alloc (.cells #[.string ⟨#[]⟩,.string ⟨#[]⟩,.string ⟨#[]⟩,.int .i64 0,.int .i64 0,.string ⟨#[]⟩,.int .i64 0,.int .i64 0,.int .i64 0] 36 (0,0))) (v:=.pointer (some ⟨w'.heap.size,0,none⟩)) (by rfl) rfl ?_ ?_
        ·go_simp
         try rfl
        refine hK.out _ _ ⟨g60,g63,g67,w'.heap.size,m3_,m6_,m8_,m10_,m12_,(.pointer (some ⟨w'.heap.size,0,none⟩)),(by rw [ha.out];exact putSel_upk 11 hb_ rfl rfl rfl),below_alloc HB.out _,fun h0_ h1_=>blk_alloc (Q_F60 h0_ h1_) _,fun h0_ h1_=>blk_alloc (Q_F63 h0_ h1_) _,fun h0_ h1_=>blk_alloc (Q_F67 h0_ h1_) _,fun _ _=>heap_alloc_new _ _,fun _=>HB.out.size,fun h0_=>absurd ((hoff 31 (by kernel_rfl)).symm.trans h0_) (by decide),Q_X3_,Q_X6_,Q_X8_,Q_X10_,Q_X12_,fun _=>rfl⟩
       refine steps_cons ?_ ?_
       ·rintro b a w' ⟨g60,g63,g67,g12,m3_,m6_,m8_,m10_,m12_,m30_,ha,Q_HB,Q_F60,Q_F63,Q_F67,Q_F12,Q_G12,Q_F12b,Q_X3_,Q_X6_,Q_X8_,Q_X10_,Q_X12_,Q_X30_⟩ hb_ hon hoff
        refine ⟨_,rfl,fun K hK=>?_⟩
        have e12 : a.tmps[12]? = some (m30_):=by rw [ha];exact putSel_on (e:=(30,12,m30_)) 11 rfl rfl (hon 30 (by kernel_rfl)) rfl
        rw [Q_X30_ (hon 30 (by kernel_rfl))] at e12
        have e86 : a.tmps[86]? = some (.agg #[.string ((⟨#[70]⟩ : ByteArray) ++ strOfNums [48 + i]),.string (codeF x4),.string (codeF x10),.int .i64 dep,.int .i64 (dep + 60 + 15 * (n / 128 % 6)),.string (typeF (n / 1024 % 3)),.int .i64 1,.int .i64 1,.int .i64 2]):=by rw [ha];exact putSel_on (e:=(29,86,.agg #[.string ((⟨#[70]⟩ : ByteArray) ++ strOfNums [48 + i]),.string (codeF x4),.string (codeF x10),.int .i64 dep,.int .i64 (dep + 60 + 15 * (n / 128 % 6)),.string (typeF (n / 1024 % 3)),.int .i64 1,.int .i64 1,.int .i64 2])) 10 rfl rfl (hon 29 (by kernel_rfl)) rfl
        replace ha:=Aside0.mk ha
        have HB:=Aside0.mk Q_HB
        have F60:=Aside0.mk (Q_F60 (hon 3 (by kernel_rfl)) hb_)
        have F63:=Aside0.mk (Q_F63 (hon 6 (by kernel_rfl)) hb_)
        have F67:=Aside0.mk (Q_F67 (hon 10 (by kernel_rfl)) hb_)
        have F12:=Aside0.mk (Q_F12 (hon 30 (by kernel_rfl)) hb_)
        have G12:=Aside0.mk (Q_G12 (hon 30 (by kernel_rfl)))
        have hs0:=(blk_cell F12.out 0).trans rfl
        have hs1:=(blk_cell F12.out 1).trans rfl
        have hs2:=(blk_cell F12.out 2).trans rfl
        have hs3:=(blk_cell F12.out 3).trans rfl
        have hs4:=(blk_cell F12.out 4).trans rfl
        have hs5:=(blk_cell F12.out 5).trans rfl
        have hs6:=(blk_cell F12.out 6).trans rfl
        have hs7:=(blk_cell F12.out 7).trans rfl
        have hs8:=(blk_cell F12.out 8).trans rfl
        have hf0:=blk_frozen F12.out 0
        have hf1:=blk_frozen F12.out 1
        have hf2:=blk_frozen F12.out 2
        have hf3:=blk_frozen F12.out 3
        have hf4:=blk_frozen F12.out 4
        have hf5:=blk_frozen F12.out 5
        have hf6:=blk_frozen F12.out 6
        have hf7:=blk_frozen F12.out 7
        have hf8:=blk_frozen F12.out 8
        refine skip_ (w1:=?_) (by rfl) rfl ?_ ?_
        rotate_left
        ·go_simp
         rfl
        refine hK.out _ _ ⟨g60,g63,g67,g12,m3_,m6_,m8_,m10_,m12_,m30_,(by rw [ha.out];exact putSel_none (v:=undef) rfl),below_set9 HB.out G12.out,fun _ h1_=>absurd ((up_self b 31).symm.trans h1_) (by decide),fun _ h1_=>absurd ((up_self b 31).symm.trans h1_) (by decide),fun _ h1_=>absurd ((up_self b 31).symm.trans h1_) (by decide),fun _ h1_=>absurd ((up_self b 31).symm.trans h1_) (by decide),Q_G12,fun _=>blk_put9 F12.out,Q_X3_,Q_X6_,Q_X8_,Q_X10_,Q_X12_,Q_X30_⟩
       exact steps_nil
      ·rintro b a w' hall ⟨g60,g63,g67,g12,m3_,m6_,m8_,m10_,m12_,m30_,ha,Q_HB,Q_F60,Q_F63,Q_F67,Q_F12,Q_G12,Q_F12b,Q_X3_,Q_X6_,Q_X8_,Q_X10_,Q_X12_,Q_X30_⟩
       clear HB
       have hb3_:=hall 3 (by kernel_rfl)
       have hb4_:=hall 4 (by kernel_rfl)
       have hb5_:=hall 5 (by kernel_rfl)
       have hb6_:=hall 6 (by kernel_rfl)
       have hb8_:=hall 8 (by kernel_rfl)
       have hb9_:=hall 9 (by kernel_rfl)
       have hb10_:=hall 10 (by kernel_rfl)
       have hb12_:=hall 12 (by kernel_rfl)
       have hb13_:=hall 13 (by kernel_rfl)
       have hb27_:=hall 27 (by kernel_rfl)
       have hb29_:=hall 29 (by kernel_rfl)
       have hb30_:=hall 30 (by kernel_rfl)
       have hb31_:=hall 31 (by kernel_rfl)
       subst ha
       obtain rfl:=Q_X3_ hb3_
       obtain rfl:=Q_X6_ hb6_
       obtain rfl:=Q_X8_ hb8_
       obtain rfl:=Q_X10_ hb10_
       obtain rfl:=Q_X12_ hb12_
       obtain rfl:=Q_X30_ hb30_
       simp only [putSel,hb3_,hb4_,hb5_,hb6_,hb8_,hb9_,hb10_,hb12_,hb13_,hb27_,hb29_,hb30_,hb31_,if_true,Act.put,List.setIfInBounds_toArray,List.set_cons_zero,List.set_cons_succ]
       have HB:=Aside0.mk Q_HB
       clear Q_HB
       clear Q_F60
       clear Q_F63
       clear Q_F67
       clear Q_F12
       have G12:=Aside0.mk (Q_G12 hb30_)
       clear Q_G12
       have F12b:=Aside0.mk (Q_F12b hb31_)
       clear Q_F12b
       clear hall hb3_ hb4_ hb5_ hb6_ hb8_ hb9_ hb10_ hb12_ hb13_ hb27_ hb29_ hb30_ hb31_
       have HBo:=Aside0.mk (HBP7.out.below HB.out)
       have HG2:=Aside0.mk (show w.heap.size + 8 ≤ g12 ∧ ∀ k,v.ownBlock = some k → k ≠ g12 from ⟨Nat.le_trans (blk_lt HBP7.out.y) G12.out,fun k hk=>by have:=Kd.R_lt HBP7.out.f k hk;have:=G12.out;omega⟩)
       try go_wp2
       go_meet
       case rel=>exact ⟨g12,rfl,HG2,F12b,HBo⟩
     case rest =>
      clear HB2 hgap m1 m2 m3 m4 m5 m6 m7 m8 m9 P4 P10 PN
      obtain ⟨g12,rfl,HGe,HF12,HB2⟩:=hcut
      have ht0:=(blk_cell HB2.out.t 0).trans rfl
      have ht1:=(blk_cell HB2.out.t 1).trans rfl
      have ht2 : wc.cell? ⟨w.heap.size + 5,2,none⟩ = some v:=(blk_cell HB2.out.t 2).trans rfl
      have hq0:=(blk_cell HF12.out 0).trans rfl
      have hq1:=(blk_cell HF12.out 1).trans rfl
      have hq2:=(blk_cell HF12.out 2).trans rfl
      have hq3:=(blk_cell HF12.out 3).trans rfl
      have hq4:=(blk_cell HF12.out 4).trans rfl
      have hq5:=(blk_cell HF12.out 5).trans rfl
      have hq6:=(blk_cell HF12.out 6).trans rfl
      have hq7:=(blk_cell HF12.out 7).trans rfl
      have hq8:=(blk_cell HF12.out 8).trans rfl
      obtain ⟨Af,cf,rfl⟩:=Kd.R_slice HB2.out.f
      have hlf : fs.length ≤ 6:=by have:=HG.out.2.1;omega
      go_upto_if 97 with (at_builtin;refine Kd.R_append (w0:=wc) k36 w.heap.size rfl (.tmp 88) (.tmp 90) 24 36 (.agg #[(.string ⟨#[]⟩),(.string ⟨#[]⟩),(.string ⟨#[]⟩),(.int .i64 0),(.int .i64 0),(.string ⟨#[]⟩),(.int .i64 0),(.int .i64 0),(.int .i64 0)]) 104 rfl Try.underlying24 info36 rfl (by decide) (by omega) (.slice Af fs.length cf) fs ⟨(⟨#[70]⟩ : ByteArray) ++ strOfNums [48 + i],codeF x4,codeF x10,dep,dep + 60 + 15 * (n / 128 % 6),typeF (n / 1024 % 3),⟨1,1,2⟩⟩ [.string ((⟨#[70]⟩ : ByteArray) ++ strOfNums [48 + i]),.string (codeF x4),.string (codeF x10),.int .i64 dep,.int .i64 (dep + 60 + 15 * (n / 128 % 6)),.string (typeF (n / 1024 % 3)),.int .i64 1,.int .i64 1,.int .i64 2] (fun k=>w.heap.size + 8 ≤ k) (fun _=>False) rfl rfl (k36_mkM _ _ _ ⟨(⟨#[70]⟩ : ByteArray) ++ strOfNums [48 + i],codeF x4,codeF x10,dep,dep + 60 + 15 * (n / 128 % 6),typeF (n / 1024 % 3),⟨1,1,2⟩⟩) (fun _ hk=>hk.elim) (fun k hk=>Nat.le_trans (blk_lt HB2.out.y) hk) HB2.out.f (Below.refl _ _) (Below.size HB2.out.be) (by omega) ?_;intro v1 w9 ho hb9 hg9 hat9;obtain ⟨A9,c9,rfl⟩:=Kd.R_slice ho;have HP9:=Aside0.mk (BPt.app HB2.out HGe.out hb9 hg9 ho HF12.out);have ht2':=HP9.out.2.1;have hf2':=HP9.out.2.2.1;have hq4':=HP9.out.2.2.2.1;have hq5':=HP9.out.2.2.2.2;have hne1 : g12 ≠ w.heap.size + 5:=(by have:=HGe.out.1;omega);have hne2 : w.heap.size + 5 ≠ g12:=(by have:=HGe.out.1;omega);clear hg9 ho hb9 hat9)
      have hb3:=HP9.out.1
      simp only [List.length_append,List.length_cons,List.length_nil,Nat.zero_add] at hb3
      have HB3:=Aside0.mk hb3
      clear hb3
      clear HP9
      go_cut [5] (fun v5 wc=>v5 = .int .i64 (bClock n dep) ∧ Aside0 (BPt w wc (.slice A9 (fs.length + 1) c9) (fs ++ [(⟨(⟨#[70]⟩ : ByteArray) ++ strOfNums [48 + i],codeF x4,codeF x10,dep,dep + 60 + 15 * (n / 128 % 6),typeF (n / 1024 % 3),⟨1,1,2⟩⟩ : S36)])))
      case first =>
       by_cases h6 : n % 5 = 4
       ·have e6:=Aside0.mk (show bClock n dep = dep + 20 from by unfold bClock;rw [if_pos h6])
        go_wp2
        go_meet
        case rel=>exact ⟨by rw [e6.out],HB3⟩
       ·have e6:=Aside0.mk (show bClock n dep = dep + 60 + 15 * (n / 128 % 6) from by unfold bClock bArr;rw [if_neg h6])
        go_wp2
        go_meet
        case rel=>exact ⟨by rw [e6.out],HB3⟩
      case rest =>
       clear HB3 ht2' hf2' hq4' HF12 hq0 hq1 hq2 hq3 hq4 hq5 hq6 hq7 hq8 ht0 ht1 ht2
       obtain ⟨rfl,HB3⟩:=hcut
       go_wp2
       go_roundg gk
       case measure=>omega
       case rel =>
        obtain ⟨hg1,hg2,hg3⟩:=HG.out
        have hck : 0 ≤ bClock n dep ∧ bClock n dep ≤ dep + 135:=by unfold bClock bArr;split <;> omega
        refine ⟨i + 1,x10,bClock n dep,_,_,rfl,rfl,rfl,⟨by omega,by omega,by omega,by omega,by omega,by omega,by simp;omega,?_⟩,HB3⟩
        rw [← hg3,HBAT.out,HNe.out,HBb.out,HDq.out,HBt.out]
        simp [bFlight,numF,bArr,HBt.out]
def zonesB : List S42:=[⟨⟨#[117,116,99]⟩,0,[]⟩,⟨⟨#[111,115,108,111]⟩,60,[⟨1441500,120⟩,⟨1444000,60⟩]⟩,⟨⟨#[121,111,114,107]⟩,-300,[⟨1442900,-240⟩]⟩]
def portsB : List S39:=[⟨⟨#[65,65,65]⟩,⟨#[117,116,99]⟩⟩,⟨⟨#[66,66,66]⟩,⟨#[111,115,108,111]⟩⟩,⟨⟨#[67,67,67]⟩,⟨#[121,111,114,107]⟩⟩]
def atOkB (l : List Int) : Bool:=(List.range 9).all fun i=>decide (pairingbase_At.f l (i : Int) = some (atN l (i : Int)) ∧ 0 ≤ atN l (i : Int) ∧ atN l (i : Int) ≤ 70000)
theorem atOk_of {l : List Int} (h : atOkB l = true) : AtOk l:=by
 intro i h0 h1
 have h2:=List.all_eq_true.1 h i.toNat (List.mem_range.2 (by omega))
 have h3:=of_decide_eq_true h2
 rwa [show ((i.toNat : Nat) : Int) = i by omega] at h3
theorem shift_row {w W : World} {g : Nat} {ok : Nat → Prop} {xs : List S44} {cs : Array Value} (hb : W.heap[g]? = some (.cells cs 44 (0,0))) (hg : w.heap.size ≤ g) (hc : cs.size = xs.length * 2) (hm : xs.length ≤ 1000) (hok : ok g) (hr : Reps (k44.M W w.heap.size (fun k=>ok k ∧ some k ≠ (Value.slice (some ⟨g,0,none⟩) xs.length xs.length).ownBlock)) 2 xs cs.toList) : k44.R 44 W w.heap.size ok (.slice (some ⟨g,0,none⟩) xs.length xs.length) xs:=by
 have hs : k44.sz = 2:=rfl
 refine ⟨fun k hk=>?_,cs.toList,⟨by rw [hs];simpa using hc,.inr ⟨g,xs.length,cs,rfl,hg,hb,Nat.le_refl _,by unfold maxLen;omega,hc,?_⟩⟩,hr⟩
 ·obtain rfl : g = k:=by simpa [Value.ownBlock] using hk
  exact hok
 ·exact List.take_of_length_le (by simp [hc,show k44.sz = 2 from rfl])
theorem zonesB_S {w W : World} {v : Value} {fs : List S36} (h : BOut w W v fs) : Kd.S k42 42 W w.heap.size (fun _=>True) (.slice (some ⟨w.heap.size + 3,0,none⟩) 3 3) zonesB:=by
 refine ⟨fun b=>if b = w.heap.size + 1 then 1 else if b = w.heap.size + 2 then 2 else 0,fun _ _=>trivial,_,⟨rfl,.inr ⟨w.heap.size + 3,3,_,rfl,by omega,h.z,Nat.le_refl _,by decide,rfl,rfl⟩⟩,?_⟩
 refine Reps.c3 (k42_mkM _ _ _ (⟨⟨#[117,116,99]⟩,0,[]⟩ : S42) (Kd.R_nil _ _ _ _ _)) (Reps.c3 (k42_mkM _ _ _ (⟨⟨#[111,115,108,111]⟩,60,[⟨1441500,120⟩,⟨1444000,60⟩]⟩ : S42) ?_) (Reps.c3 (k42_mkM _ _ _ (⟨⟨#[121,111,114,107]⟩,-300,[⟨1442900,-240⟩]⟩ : S42) ?_) (Reps.none _ _)))
 ·exact shift_row h.s1 (by omega) rfl (by decide) ⟨⟨trivial,by simp [Value.ownBlock]⟩,by simp⟩ (Reps.c2 (k44_mkM _ _ _ (⟨1441500,120⟩ : S44)) (Reps.c2 (k44_mkM _ _ _ (⟨1444000,60⟩ : S44)) (Reps.none _ _)))
 ·exact shift_row h.s2 (by omega) rfl (by decide) ⟨⟨trivial,by simp [Value.ownBlock]⟩,by simp⟩ (Reps.c2 (k44_mkM _ _ _ (⟨1442900,-240⟩ : S44)) (Reps.none _ _))
theorem portsB_R {w W : World} {v : Value} {fs : List S36} (h : BOut w W v fs) : Kd.R k39 39 W w.heap.size (fun _=>True) (.slice (some ⟨w.heap.size + 4,0,none⟩) 3 3) portsB:=by
 refine ⟨fun _ _=>trivial,_,⟨rfl,.inr ⟨w.heap.size + 4,3,_,rfl,by omega,h.a,Nat.le_refl _,by decide,rfl,rfl⟩⟩,?_⟩
 exact Reps.c2 (k39_mkM _ _ _ (⟨⟨#[65,65,65]⟩,⟨#[117,116,99]⟩⟩ : S39)) (Reps.c2 (k39_mkM _ _ _ (⟨⟨#[66,66,66]⟩,⟨#[111,115,108,111]⟩⟩ : S39)) (Reps.c2 (k39_mkM _ _ _ (⟨⟨#[67,67,67]⟩,⟨#[121,111,114,107]⟩⟩ : S39)) (Reps.none _ _)))
def pairingbase_Timetable.f (l : List Int) : Option (List S42 × List S39 × List S36):=if atOkB l = true then some (zonesB,portsB,bAll l) else none
theorem pairingbase_Timetable.calls (A0 : Option Addr) (c0 : Nat) (l0 : List Int) (r1 : List S42) (r2 : List S39) (r3 : List S36) (w : World) (hr0 : Kd.C (Kd.int .i64) w A0 l0.length l0) (hc0 : l0.length ≤ c0) (h : pairingbase_Timetable.f l0 = some (r1,r2,r3)) :
  Calls Try.prog 13 #[.slice A0 l0.length c0] w fun e w'=>∃ v0_ v1_ v2_ : Value,e = .returned (.agg #[v0_,v1_,v2_]) ∧ Kd.S k42 42 w' w.heap.size (fun _=>True) v0_ r1 ∧ Kd.R k39 39 w' w.heap.size (fun _=>True) v1_ r2 ∧ Kd.R k36 36 w' w.heap.size (fun _=>True) v2_ r3 ∧ Below w.heap.size w w':=by
 unfold pairingbase_Timetable.f at h
 split at h
 ·rename_i hb
  have h:=Option.some.inj h
  simp only [Prod.mk.injEq] at h
  obtain ⟨rfl,rfl,rfl⟩:=h
  refine (base_calls A0 c0 l0 w hr0 hc0 (atOk_of hb)).mono ?_
  rintro e w' ⟨v,rfl,hO⟩
  exact ⟨_,_,_,rfl,zonesB_S hO,portsB_R hO,Kd.R_mono hO.f (fun _ _=>trivial),hO.be⟩
 ·cases h
end Go.Proofs.Ytepnddmalheoiaa.Q
namespace Go.Proofs.Ytepnddmalheoiaa.Q
open Go.Proofs.Ytepnddmalheoiaa.H Go.Proofs.Ytepnddmalheoiaa.TtA Go.Proofs.Ytepnddmalheoiaa.TtB Go.Proofs.Ytepnddmalheoiaa.TtC
open Go.RowKit Go.Proofs.YtepnddmalheoiaaW.PrintWords Go.Proofs.YtepnddmalheoiaaW.PrintLast Go.Proofs.YtepnddmalheoiaaW.PrintMore
set_option linter.unusedVariables false
set_option linter.unusedSimpArgs false
theorem num_code (i : Int) (h0 : 0 ≤ i) (h1 : i ≤ 6) : codeS (numF i) = true:=by
 obtain rfl|rfl|rfl|rfl|rfl|rfl|rfl : i = 0 ∨ i = 1 ∨ i = 2 ∨ i = 3 ∨ i = 4 ∨ i = 5 ∨ i = 6:=by omega
 all_goals decide +kernel
theorem typ_name (j : Int) (h0 : 0 ≤ j) (h1 : j ≤ 2) : nameS (typeF j) = true:=by
 obtain rfl|rfl|rfl : j = 0 ∨ j = 1 ∨ j = 2:=by omega
 all_goals decide +kernel
theorem code_port (j : Int) (h0 : 0 ≤ j) (h1 : j ≤ 2) : portI portsB (codeF j) = j:=by
 obtain rfl|rfl|rfl : j = 0 ∨ j = 1 ∨ j = 2:=by omega
 all_goals decide +kernel
theorem code_ne (a t : Int) (h0 : 0 ≤ a) (h1 : a ≤ 2) (h2 : 0 ≤ t) (h3 : t ≤ 2) (h : a ≠ t) : ¬ (codeF a).toList = (codeF t).toList:=by
 obtain rfl|rfl|rfl : a = 0 ∨ a = 1 ∨ a = 2:=by omega
 all_goals
  obtain rfl|rfl|rfl : t = 0 ∨ t = 1 ∨ t = 2:=by omega
  all_goals first|exact absurd rfl h|decide +kernel
def GoodF (i : Int) (f : S36) : Prop:=flightS portsB f = 0 ∧ f.f0 = numF i ∧ 1440000 ≤ f.f3 ∧ f.f3 ≤ 1450000 ∧ f.f3 < f.f4 ∧ f.f4 ≤ 1460000 ∧ ∃ a t j : Int,0 ≤ a ∧ a ≤ 2 ∧ 0 ≤ t ∧ t ≤ 2 ∧ a ≠ t ∧ 0 ≤ j ∧ j ≤ 2 ∧ f.f1 = codeF a ∧ f.f2 = codeF t ∧ f.f5 = typeF j ∧ f.f6 = ⟨1,1,2⟩
def Chain : Int → Int → List S36 → Prop
 | _,_,[]=>True
 | i,lo,f :: t=>GoodF i f ∧ lo ≤ f.f3 ∧ Chain (i + 1) (f.f3 + 1) t
theorem chain_lower (t : List S36) (i lo lo' : Int) (h : lo' ≤ lo) (hc : Chain i lo t) : Chain i lo' t:=by
 cases t with
 | nil=>trivial
 | cons f t=>exact ⟨hc.1,Int.le_trans h hc.2.1,hc.2.2⟩
theorem chain_bFs (l : List Int) (hat : AtOk l) (g : Nat) : ∀ (i a clock : Int),0 ≤ i → i + g ≤ 7 → 0 ≤ a → a ≤ 2 → 1440000 ≤ clock → clock ≤ 1441425 + 1000 * i → Chain i clock (bFs l g i a clock):=by
 induction g with
 | zero=>intro i a clock _ _ _ _ _ _;trivial
 | succ g ih =>
  intro i a clock h0 h1 h2 h3 h4 h5
  obtain ⟨_,hn0,hn1⟩:=hat (2 + i) (by omega) (by omega)
  unfold bFs
  generalize atN l (2 + i) = n at *
  have ha : 0 ≤ bAt n a ∧ bAt n a ≤ 2:=by unfold bAt;split <;> omega
  generalize bAt n a = x at *
  have ht : 0 ≤ bTo n x ∧ bTo n x ≤ 2 ∧ x ≠ bTo n x:=by unfold bTo;repeat' split <;> omega
  have hg:=gap_range (n / 16 % 8) (by omega) (by omega)
  have hg2 : 30 ≤ rd gapL (n / 16 % 8):=by
   have hj0 : 0 ≤ n / 16 % 8:=by omega
   have hj1 : n / 16 % 8 < 8:=by omega
   generalize n / 16 % 8 = j at *
   obtain rfl|rfl|rfl|rfl|rfl|rfl|rfl|rfl : j = 0 ∨ j = 1 ∨ j = 2 ∨ j = 3 ∨ j = 4 ∨ j = 5 ∨ j = 6 ∨ j = 7:=by omega
   all_goals decide
  have hd : bDep n clock = clock + rd gapL (n / 16 % 8):=rfl
  have hdep : clock ≤ bDep n clock ∧ bDep n clock ≤ clock + 780:=by omega
  generalize bDep n clock = dep at *
  have harr : dep + 60 ≤ bArr n dep ∧ bArr n dep ≤ dep + 135:=by unfold bArr;omega
  have hcl : dep + 1 ≤ bClock n dep ∧ bClock n dep ≤ dep + 135:=by unfold bClock;split <;> omega
  refine ⟨⟨?_,rfl,by show 1440000 ≤ dep;omega,by show dep ≤ 1450000;omega,by show dep < bArr n dep;omega,by show bArr n dep ≤ 1460000;omega,x,bTo n x,n / 1024 % 3,ha.1,ha.2,ht.1,ht.2.1,ht.2.2,by omega,by omega,rfl,rfl,rfl,rfl⟩,by show clock ≤ dep;omega,chain_lower _ _ _ _ hcl.1 (ih (i + 1) (bTo n x) (bClock n dep) (by omega) (by omega) ht.1 ht.2.1 (by omega) (by omega))⟩
  unfold flightS bFlight
  simp only
  rw [num_code i h0 (by omega),typ_name _ (by omega) (by omega),code_port x ha.1 ha.2,code_port _ ht.1 ht.2.1]
  have hw : wrap64 (bArr n dep - dep) = bArr n dep - dep:=by unfold wrap64;omega
  rw [if_pos (show (true && true) = true from rfl),if_neg (by omega),if_neg (code_ne _ _ ha.1 ha.2 ht.1 ht.2.1 ht.2.2),if_neg (by rw [hw];rintro (h|h|h|h|h) <;> first|omega|(have h2 : true = false:=h;cases h2))]
structure GoodL (fs : List S36) : Prop where
 len : fs.length ≤ 7
 at_ : ∀ i : Nat,i < fs.length → GoodF (i : Int) (rd_T36 fs (i : Int))
 up : ∀ i : Nat,i + 1 < fs.length → (rd_T36 fs (i : Int)).f3 < (rd_T36 fs ((i + 1 : Nat) : Int)).f3
theorem rd_nat (fs : List S36) (i : Nat) : rd_T36 fs (i : Int) = fs.getD i z36:=rfl
theorem chain_get (t : List S36) : ∀ (i lo : Int),Chain i lo t → (∀ j : Nat,j < t.length → GoodF (i + j) (t.getD j z36) ∧ lo ≤ (t.getD j z36).f3) ∧ ∀ j : Nat,j + 1 < t.length → (t.getD j z36).f3 < (t.getD (j + 1) z36).f3:=by
 induction t with
 | nil=>intro i lo _;exact ⟨fun j h=>absurd h (by simp),fun j h=>absurd h (by simp)⟩
 | cons f t ih =>
  rintro i lo ⟨h1,h2,h3⟩
  obtain ⟨a,b⟩:=ih _ _ h3
  refine ⟨fun j hj=>?_,fun j hj=>?_⟩
  ·cases j with
   | zero=>exact ⟨by simpa using h1,h2⟩
   | succ j =>
    obtain ⟨x,y⟩:=a j (by simpa using hj)
    have e : i + ((j + 1 : Nat) : Int) = i + 1 + (j : Int):=by omega
    rw [e]
    have e2 : ((f :: t).getD (j + 1) z36) = t.getD j z36:=rfl
    exact ⟨x,by rw [e2];omega⟩
  ·cases j with
   | zero =>
    have:=(a 0 (by simpa using hj)).2
    show f.f3 < (t.getD 0 z36).f3
    omega
   | succ j=>exact b j (by simpa using hj)
theorem bFs_length (l : List Int) (g : Nat) : ∀ i a clock,(bFs l g i a clock).length = g:=by
 induction g with
 | zero=>intro _ _ _;rfl
 | succ g ih=>intro i a clock;simp [bFs,ih]
theorem bAll_good (l : List Int) (hat : AtOk l) : GoodL (bAll l) ∧ 2 ≤ (bAll l).length:=by
 obtain ⟨_,h0,h1⟩:=hat 0 (by omega) (by omega)
 obtain ⟨_,g0,g1⟩:=hat 1 (by omega) (by omega)
 have hm : 2 ≤ bM l ∧ bM l ≤ 7:=by unfold bM;omega
 have hc:=chain_bFs l hat (bM l).toNat 0 0 (1440000 + 15 * (atN l 0 % 96)) (by omega) (by omega) (by omega) (by omega) (by omega) (by omega)
 have hl : (bAll l).length = (bM l).toNat:=bFs_length _ _ _ _ _
 obtain ⟨a,b⟩:=chain_get _ _ _ hc
 refine ⟨⟨by omega,fun i hi=>?_,fun i hi=>b i hi⟩,by omega⟩
 have:=(a i hi).1
 rwa [Int.zero_add] at this
theorem good_ord {fs : List S36} (h : GoodL fs) (i : Nat) (hi : i < fs.length) : ordS portsB fs i = 0:=by
 unfold ordS
 rw [if_pos (h.at_ i hi).1]
 by_cases h0 : 0 < i
 ·rw [if_pos h0]
  have:=h.up (i - 1) (by omega)
  rw [show i - 1 + 1 = i by omega] at this
  rw [if_neg (by omega),if_neg (by omega)]
 ·rw [if_neg h0]
theorem good_flL {fs : List S36} (h : GoodL fs) (n : Nat) : ∀ i,i + n = fs.length → flL portsB fs n i = 0:=by
 induction n with
 | zero=>intro i _;rfl
 | succ n ih=>intro i hi;unfold flL;rw [if_pos (good_ord h i (by omega))];exact ih (i + 1) (by omega)
theorem zonesB_ok : zoneV zonesB 0 = 0 ∧ zoneV zonesB 1 = 0 ∧ zoneV zonesB 2 = 0 ∧ portV zonesB portsB 0 = 0 ∧ portV zonesB portsB 1 = 0 ∧ portV zonesB portsB 2 = 0:=by decide +kernel
theorem good_valid {fs : List S36} (h : GoodL fs) : validS zonesB portsB fs = 0:=by
 unfold validS
 have hl:=h.len
 rw [if_neg (by rintro (h|h|h) <;> first|omega|exact absurd h (by decide))]
 show zoL zonesB portsB fs 3 0 = 0
 obtain ⟨z0,z1,z2,p0,p1,p2⟩:=zonesB_ok
 unfold zoL;rw [if_pos z0];show zoL zonesB portsB fs 2 1 = 0
 unfold zoL;rw [if_pos z1];show zoL zonesB portsB fs 1 2 = 0
 unfold zoL;rw [if_pos z2];show zoL zonesB portsB fs 0 3 = 0
 unfold zoL
 show apL zonesB portsB fs 3 0 = 0
 unfold apL;rw [if_pos p0];show apL zonesB portsB fs 2 1 = 0
 unfold apL;rw [if_pos p1];show apL zonesB portsB fs 1 2 = 0
 unfold apL;rw [if_pos p2];show apL zonesB portsB fs 0 3 = 0
 unfold apL
 exact good_flL h _ 0 (by omega)
theorem and_low (x y : Int) (m : Nat) (h0 : BitVec.ofInt 64 y = BitVec.ofNat 64 m) (hm : m < 9223372036854775808) : 0 ≤ Go.bits .and .i64 x y ∧ Go.bits .and .i64 x y ≤ m:=by
 have h1 : (BitVec.ofInt 64 x &&& BitVec.ofInt 64 y).toNat ≤ m:=by
  rw [BitVec.toNat_and,h0]
  exact Nat.le_trans Nat.and_le_right (by simp;omega)
 have h2 : Go.bits .and .i64 x y = IntKind.i64.wrap ((BitVec.ofInt 64 x &&& BitVec.ofInt 64 y).toNat : Int):=rfl
 rw [h2,wraps_i64 _ (by omega) (by omega)]
 omega
theorem low16 (x : Int) : 0 ≤ Go.bits .and .i64 x 65535 ∧ Go.bits .and .i64 x 65535 ≤ 65535:=and_low x 65535 65535 (by decide) (by decide)
theorem at_ok (l : List Int) (hl : l.length * 8 ≤ 140737488351232) : atOkB l = true:=by
 unfold atOkB
 refine List.all_eq_true.2 fun i hi=>?_
 have hi9 : i < 9:=List.mem_range.1 hi
 refine decide_eq_true ?_
 have key : ∃ v : Int,pairingbase_At.f l (i : Int) = some v ∧ 0 ≤ v ∧ v ≤ 70000:=by
  unfold pairingbase_At.f
  by_cases h0 : (l.length : Int) = 0
  ·rw [if_pos h0]
   obtain ⟨a,b⟩:=low16 (i : Int)
   exact ⟨_,rfl,a,by omega⟩
  ·rw [if_neg h0]
   have hm : Int.tmod (i : Int) (l.length : Int) = (i : Int) % (l.length : Int):=Int.tmod_eq_emod_of_nonneg (by omega)
   have hd : Int.tdiv (i : Int) (l.length : Int) = (i : Int) / (l.length : Int):=Int.tdiv_eq_ediv_of_nonneg (by omega)
   have hp : 0 < (l.length : Int):=by omega
   have e0:=Int.emod_nonneg (i : Int) h0
   have e1:=Int.emod_lt_of_pos (i : Int) hp
   have d0 : 0 ≤ (i : Int) / (l.length : Int):=Int.ediv_nonneg (by omega) (by omega)
   have d1 : (i : Int) / (l.length : Int) ≤ (i : Int):=Int.ediv_le_self _ (by omega)
   rw [hm,hd,if_pos e0,if_pos e1]
   obtain ⟨a,b⟩:=low16 (rd l ((i : Int) % (l.length : Int)))
   generalize Go.bits .and .i64 (rd l ((i : Int) % (l.length : Int))) 65535 = x at *
   generalize (i : Int) / (l.length : Int) = y at *
   refine ⟨_,rfl,?_,?_⟩ <;> (have w1 : wrap64 y = y:=by unfold wrap64;omega) <;> rw [w1] <;> unfold wrap64 <;> omega
 obtain ⟨v,h1,h2,h3⟩:=key
 have hv : atN l (i : Int) = v:=by unfold atN;rw [h1];rfl
 rw [hv]
 exact ⟨h1,h2,h3⟩
end Go.Proofs.Ytepnddmalheoiaa.Q
