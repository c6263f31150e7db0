/- For timetableSpoilt_holds: texts of this session and words of the kit's print, those alone that the proof uses. -/
import Derived.Test.YtepnddmalheoiaaProg
import Derived.Below
import Derived.Deep.Draws
import Derived.Deep.AppendLies
import Derived.Maps.AppendAt
import Derived.OwnWalk
import Derived.Laws.BytesArg
import Derived.Laws.MakeOwn
import Derived.Laws.OwnMore
import Derived.Deep.OwnRows
import Derived.Tactics
import Derived.Lib.ConvBytes
import Derived.Laws.Slices
import Derived.WalkKit
import Derived.KernelRfl
import Derived.RowKit3
import Derived.Deep.LoopGhost
import Derived.Deep.QuietTactic
import Derived.BigQuiet
import Derived.WideLaws
import Derived.Deep.DeepCutAuto
import Derived.Deep.CutBlock
import Derived.Deep.RegionHeld3
import Derived.Laws.Rows
import Derived.Lib.AppendStr
import Derived.ArgAppend
import Derived.Laws.IdiomCopy
import Derived.OrdersHeld
import Derived.Laws.BitsLemmas
import Derived.RowKit
import Derived.Deep.WholeRow
import Derived.Laws.ResultCell
import Derived.Lib.SlBytesConst
import Derived.Outline
import Derived.Laws.StructEq
import Derived.Test.YtepnddmalheoiaaSP0
import Derived.Test.YtepnddmalheoiaaSP1
import Derived.Test.YtepnddmalheoiaaSP2
import Derived.Test.YtepnddmalheoiaaSP3
import Derived.Test.YtepnddmalheoiaaSP4
set_option linter.unusedVariables false
set_option linter.unusedSimpArgs false
namespace Go.Proofs.Ytepnddmalheoiaa.Q
open Go.Proofs.Ytepnddmalheoiaa.H
open Go.RowKit Go.Proofs.YtepnddmalheoiaaW.PrintWords Go.Proofs.YtepnddmalheoiaaW.PrintLast Go.Proofs.YtepnddmalheoiaaW.PrintMore
attribute [local go_sem] str_leq str_geq str_gtr max2_int min2_int max_two min_two max_three min_three max_four min_four   -- for this text's walks alone
mutual
def zau.j0 : Nat → Bool → List (S42) → List (S39) → List (S36) → ByteArray → ByteArray → ByteArray → Int → Int → ByteArray → Int → Int → Int → Option (Int)
 | 0,_,_,_,_,_,_,_,_,_,_,_,_,_=>none
 | k + 1,x5,x171000,x171001,x171002,x172000,x172001,x172002,x172003,x172004,x172005,x172006,x172007,x172008=>if x5 = true then (some 1) else ((zbc.f k x171001 x172001).bind fun t174=>(if t174 < 0 then (zau.j1 k true x172000 x172001 x172002 x172003 x172004 x172005 x172006 x172007 x172008) else ((zbc.f k x171001 x172002).bind fun t175=>(zau.j1 k (decide (t175 < 0)) x172000 x172001 x172002 x172003 x172004 x172005 x172006 x172007 x172008))))
def zau.j1 : Nat → Bool → ByteArray → ByteArray → ByteArray → Int → Int → ByteArray → Int → Int → Int → Option (Int)
 | 0,_,_,_,_,_,_,_,_,_,_=>none
 | k + 1,x16,x172000,x172001,x172002,x172003,x172004,x172005,x172006,x172007,x172008=>if x16 = true then (some 6) else (if x172001.toList = x172002.toList then (some 14) else (if x172003 < 2880 then (some 5) else (if x172004 > 52593120 then (some 5) else (if x172004 ≤ x172003 then (some 5) else (if (wrap64 (x172004 - x172003)) > 1440 then (some 5) else ((zcb.f k x172000 x172001 x172002 x172003 x172004 x172005 x172006 x172007 x172008).bind fun t176=>(if t176 = true then (some 0) else (some 5))))))))
end
def zau.f (k : Nat) (l0_0 : List (S42)) (l0_1 : List (S39)) (l0_2 : List (S36)) (a1_0 : ByteArray) (a1_1 : ByteArray) (a1_2 : ByteArray) (a1_3 : Int) (a1_4 : Int) (a1_5 : ByteArray) (a1_6 : Int) (a1_7 : Int) (a1_8 : Int) : Option (Int):=(text_IsCode.f a1_0).bind fun t172=>(if t172 = true then ((zcf.f a1_5).bind fun t173=>(zau.j0 k (!t173) l0_0 l0_1 l0_2 a1_0 a1_1 a1_2 a1_3 a1_4 a1_5 a1_6 a1_7 a1_8)) else (zau.j0 k true l0_0 l0_1 l0_2 a1_0 a1_1 a1_2 a1_3 a1_4 a1_5 a1_6 a1_7 a1_8))
set_option maxHeartbeats 8000000 in
set_option maxRecDepth 100000 in
theorem zau.calls (k : Nat) (A0_0 : Option Addr) (c0_0 : Nat) (l0_0 : List (S42)) (A0_1 : Option Addr) (c0_1 : Nat) (l0_1 : List (S39)) (A0_2 : Option Addr) (c0_2 : Nat) (l0_2 : List (S36)) (a1_0 : ByteArray) (a1_1 : ByteArray) (a1_2 : ByteArray) (a1_3 : Int) (a1_4 : Int) (a1_5 : ByteArray) (a1_6 : Int) (a1_7 : Int) (a1_8 : Int) (r : Int) (w : World) (hr0_0 : Kd.C k42 w A0_0 l0_0.length l0_0) (hc0_0 : l0_0.length ≤ c0_0) (hr0_1 : Kd.C k39 w A0_1 l0_1.length l0_1) (hc0_1 : l0_1.length ≤ c0_1) (hr0_2 : Kd.C k36 w A0_2 l0_2.length l0_2) (hc0_2 : l0_2.length ≤ c0_2) (h : zau.f k l0_0 l0_1 l0_2 a1_0 a1_1 a1_2 a1_3 a1_4 a1_5 a1_6 a1_7 a1_8 = some r) :
  Calls Try.prog 29 #[.agg #[.slice A0_0 l0_0.length c0_0,.slice A0_1 l0_1.length c0_1,.slice A0_2 l0_2.length c0_2],.agg #[.string a1_0,.string a1_1,.string a1_2,.int .i64 a1_3,.int .i64 a1_4,.string a1_5,.int .i64 a1_6,.int .i64 a1_7,.int .i64 a1_8]] w fun e w'=>e = .returned (.int .i64 r) ∧ Below w.heap.size w w':=by
 have hu26:=Try.underlying26
 have hu36:=Try.underlying36
 have HR0_0:=zac.mk hr0_0
 have HC0_0:=zac.mk hc0_0
 clear hr0_0 hc0_0
 have HR0_1:=zac.mk hr0_1
 have HC0_1:=zac.mk hc0_1
 clear hr0_1 hc0_1
 have HR0_2:=zac.mk hr0_2
 have HC0_2:=zac.mk hc0_2
 clear hr0_2 hc0_2
 have HB:=zac.mk (Below.refl w.heap.size w)
 have H : ((text_IsCode.f a1_0).bind fun t172=>(if t172 = true then ((zcf.f a1_5).bind fun t173=>(zau.j0 k (!t173) l0_0 l0_1 l0_2 a1_0 a1_1 a1_2 a1_3 a1_4 a1_5 a1_6 a1_7 a1_8)) else (zau.j0 k true l0_0 l0_1 l0_2 a1_0 a1_1 a1_2 a1_3 a1_4 a1_5 a1_6 a1_7 a1_8))) = some r:=h
 clear h
 have HC3:=zac.mk H
 clear H
 go_enter Try.func29,Try.ntmps29
 go_upto_region 1 with (first|((with_reducible refine zbh (N:=2) rfl ?_);refine zbf ?hg (N:=2) ?hd (cs:=#[.slice A0_0 l0_0.length c0_0,.slice A0_1 l0_1.length c0_1,.slice A0_2 l0_2.length c0_2]) (t:=26) ?hr ?_;(case hd=>rfl);(case hg=>rfl);(case hr=>first|(go_simp;done)|(go_simp;rfl));intro gb170 hg w4 hbox hb;have n0_:=zac.mk (zao (by repeat (first|(with_reducible first|exact HB.out|apply zae|apply zab|apply zaf)|exact HB.out)) hb);have n1_:=zac.mk (hbox);have n2_:=zac.mk ((by rw [hg];exact (zam (by repeat (first|(with_reducible first|exact HB.out|apply zae|apply zab|apply zaf)|exact HB.out))) : w.heap.size ≤ gb170));have n3_:=zac.mk ((by rw [hg];exact (zam (by repeat (first|(with_reducible first|exact HB.out|apply zae|apply zab|apply zaf)|exact HB.out))) : w.heap.size ≤ gb170));clear HB;have HB:=n0_;have BK170:=n1_;have GW170:=n2_;have GE170:=n3_;clear n0_ n1_ n2_ n3_;clear hb hbox hg)|((with_reducible refine zbh (N:=3) rfl ?_);refine zbf ?hg (N:=3) ?hd (cs:=#[.string a1_0,.string a1_1,.string a1_2,.int .i64 a1_3,.int .i64 a1_4,.string a1_5,.int .i64 a1_6,.int .i64 a1_7,.int .i64 a1_8]) (t:=36) ?hr ?_;(case hd=>rfl);(case hg=>rfl);(case hr=>first|(go_simp;done)|(go_simp;rfl));intro gb171 hg w5 hbox hb;have n0_:=zac.mk (zat (g:=gb170) (o:=.cells #[.slice A0_0 l0_0.length c0_0,.slice A0_1 l0_1.length c0_1,.slice A0_2 l0_2.length c0_2] 26 (0,0)) (by (with_reducible repeat (first|refine zah ?_ _|refine zak ?_|refine zag ?_ _));exact BK170.out) hb);have n1_:=zac.mk (zao (by repeat (first|(with_reducible first|exact HB.out|apply zae|apply zab|apply zaf|refine zai ?_ GE170.out)|exact HB.out)) hb);have n2_:=zac.mk (hbox);have n3_:=zac.mk ((by rw [hg];exact (zam (by repeat (first|(with_reducible first|exact HB.out|apply zae|apply zab|apply zaf|refine zai ?_ GE170.out)|exact HB.out))) : w.heap.size ≤ gb171));have n4_:=zac.mk ((by rw [hg];exact (zam (by repeat (first|(with_reducible first|exact HB.out|apply zae|apply zab|apply zaf|refine zai ?_ GE170.out)|exact HB.out))) : w.heap.size ≤ gb171));have n5_:=zac.mk ((by rw [hg];exact Nat.ne_of_lt (zbq (g:=gb170) (o:=.cells #[.slice A0_0 l0_0.length c0_0,.slice A0_1 l0_1.length c0_1,.slice A0_2 l0_2.length c0_2] 26 (0,0)) (by (with_reducible repeat (first|refine zah ?_ _|refine zak ?_|refine zag ?_ _));exact BK170.out)) : gb170 ≠ gb171));have n6_:=zac.mk ((by rw [hg];exact Nat.ne_of_gt (zbq (g:=gb170) (o:=.cells #[.slice A0_0 l0_0.length c0_0,.slice A0_1 l0_1.length c0_1,.slice A0_2 l0_2.length c0_2] 26 (0,0)) (by (with_reducible repeat (first|refine zah ?_ _|refine zak ?_|refine zag ?_ _));exact BK170.out)) : gb171 ≠ gb170));clear BK170;clear HB;have BK170:=n0_;have HB:=n1_;have BK171:=n2_;have GW171:=n3_;have GE171:=n4_;have NB170_171:=n5_;have NB171_170:=n6_;clear n0_ n1_ n2_ n3_ n4_ n5_ n6_;clear hb hbox hg))
 (try simp only [Act.put,List.setIfInBounds_toArray,List.set_cons_zero,List.set_cons_succ])
 go_cut [5] (fun v5 wc=>∃ (kq : Nat) (x5_2 : Bool),v5 = .bool x5_2 ∧ zac (zau.j0 kq x5_2 l0_0 l0_1 l0_2 a1_0 a1_1 a1_2 a1_3 a1_4 a1_5 a1_6 a1_7 a1_8 = some r) ∧ zac (kq ≤ k) ∧ zac (wc.heap[gb170]? = some (.cells #[(.slice A0_0 l0_0.length c0_0),(.slice A0_1 l0_1.length c0_1),(.slice A0_2 l0_2.length c0_2)] 26 (0,0))) ∧ zac (wc.heap[gb171]? = some (.cells #[.string a1_0,.string a1_1,.string a1_2,.int .i64 a1_3,.int .i64 a1_4,.string a1_5,.int .i64 a1_6,.int .i64 a1_7,.int .i64 a1_8] 36 (0,0))) ∧ zac (Below w.heap.size w wc))
 case first =>
  have H:=HC3.out
  clear HC3
  replace H:=Option.bind_eq_some_iff.mp H
  obtain ⟨t172,A60,H⟩:=H
  replace H : (if t172 = true then ((zcf.f a1_5).bind fun t173=>(zau.j0 k (!t173) l0_0 l0_1 l0_2 a1_0 a1_1 a1_2 a1_3 a1_4 a1_5 a1_6 a1_7 a1_8)) else (zau.j0 k true l0_0 l0_1 l0_2 a1_0 a1_1 a1_2 a1_3 a1_4 a1_5 a1_6 a1_7 a1_8)) = some r:=H
  have A6:=zac.mk A60
  clear A60
  by_cases c7 : t172 = true
  ·subst c7
   have H1 : ((zcf.f a1_5).bind fun t173=>(zau.j0 k (!t173) l0_0 l0_1 l0_2 a1_0 a1_1 a1_2 a1_3 a1_4 a1_5 a1_6 a1_7 a1_8)) = some r:=by rw [if_pos rfl] at H;exact H
   clear H
   have H:=H1
   clear H1
   replace H:=Option.bind_eq_some_iff.mp H
   obtain ⟨t173,A80,H⟩:=H
   replace H : (zau.j0 k (!t173) l0_0 l0_1 l0_2 a1_0 a1_1 a1_2 a1_3 a1_4 a1_5 a1_6 a1_7 a1_8) = some r:=H
   have A8:=zac.mk A80
   clear A80
   have H':=zac.mk H
   clear H
   have hnb9:=NB171_170.out
   have hnc9:=NB170_171.out
   have hcz10_0 : w5.cell? ⟨gb171,0,none⟩ = some (.string a1_0):=(zad BK171.out 0).trans rfl
   have hcz10_1 : w5.cell? ⟨gb171,1,none⟩ = some (.string a1_1):=(zad BK171.out 1).trans rfl
   have hcz10_2 : w5.cell? ⟨gb171,2,none⟩ = some (.string a1_2):=(zad BK171.out 2).trans rfl
   have hcz10_3 : w5.cell? ⟨gb171,3,none⟩ = some (.int .i64 a1_3):=(zad BK171.out 3).trans rfl
   have hcz10_4 : w5.cell? ⟨gb171,4,none⟩ = some (.int .i64 a1_4):=(zad BK171.out 4).trans rfl
   have hcz10_5 : w5.cell? ⟨gb171,5,none⟩ = some (.string a1_5):=(zad BK171.out 5).trans rfl
   have hcz10_6 : w5.cell? ⟨gb171,6,none⟩ = some (.int .i64 a1_6):=(zad BK171.out 6).trans rfl
   have hcz10_7 : w5.cell? ⟨gb171,7,none⟩ = some (.int .i64 a1_7):=(zad BK171.out 7).trans rfl
   have hcz10_8 : w5.cell? ⟨gb171,8,none⟩ = some (.int .i64 a1_8):=(zad BK171.out 8).trans rfl
   have hfz10_0:=zaa BK171.out 0
   have hfz10_1:=zaa BK171.out 1
   have hfz10_2:=zaa BK171.out 2
   have hfz10_3:=zaa BK171.out 3
   have hfz10_4:=zaa BK171.out 4
   have hfz10_5:=zaa BK171.out 5
   have hfz10_6:=zaa BK171.out 6
   have hfz10_7:=zaa BK171.out 7
   have hfz10_8:=zaa BK171.out 8
   go_wp2_with (first|((with_reducible refine zbe (f:=57) rfl ?_);refine zce (some 8) rfl rfl Try.func57 (by kernel_rfl) rfl #[.string a1_0] rfl (by (try simp only [List.map_toArray,List.map_cons,List.map_nil]);first|done|rfl|(simp only [List.length_drop,List.length_take];rfl)) ?_;(with_reducible refine (text_IsCode.calls a1_0 true _ A6.out).mono ?_);rintro e w' ⟨rfl,⟨nd,rfl⟩⟩;refine ⟨_,rfl,?_⟩)|(go_at_call 54;(with_reducible refine (zcf.calls a1_5 t173 _ A8.out).mono ?_);rintro e w' ⟨rfl,⟨nd,rfl⟩⟩))
   go_meet
   case rel=>exact ⟨_,(!t173),(by first|rfl|(simp;done)|(simp [*];done)),H',⟨by first|omega|exact Nat.le_refl _⟩,⟨by (with_reducible repeat (first|refine zah ?_ _|refine zak ?_|refine zag ?_ _));exact BK170.out⟩,⟨by (with_reducible repeat (first|refine zah ?_ _|refine zak ?_|refine zag ?_ _));exact BK171.out⟩,⟨by repeat (first|(with_reducible first|exact HB.out|apply zae|apply zab|apply zaf|refine zai ?_ GE170.out|refine zai ?_ GE171.out)|exact HB.out)⟩⟩
  ·replace c7:=Bool.eq_false_iff.mpr c7
   subst c7
   have H1 : (zau.j0 k true l0_0 l0_1 l0_2 a1_0 a1_1 a1_2 a1_3 a1_4 a1_5 a1_6 a1_7 a1_8) = some r:=by rw [if_neg (show ¬ (false = true) by decide)] at H;exact H
   clear H
   have H:=H1
   clear H1
   have H':=zac.mk H
   clear H
   have hnb11:=NB171_170.out
   have hnc11:=NB170_171.out
   have hcz12_0 : w5.cell? ⟨gb171,0,none⟩ = some (.string a1_0):=(zad BK171.out 0).trans rfl
   have hcz12_1 : w5.cell? ⟨gb171,1,none⟩ = some (.string a1_1):=(zad BK171.out 1).trans rfl
   have hcz12_2 : w5.cell? ⟨gb171,2,none⟩ = some (.string a1_2):=(zad BK171.out 2).trans rfl
   have hcz12_3 : w5.cell? ⟨gb171,3,none⟩ = some (.int .i64 a1_3):=(zad BK171.out 3).trans rfl
   have hcz12_4 : w5.cell? ⟨gb171,4,none⟩ = some (.int .i64 a1_4):=(zad BK171.out 4).trans rfl
   have hcz12_5 : w5.cell? ⟨gb171,5,none⟩ = some (.string a1_5):=(zad BK171.out 5).trans rfl
   have hcz12_6 : w5.cell? ⟨gb171,6,none⟩ = some (.int .i64 a1_6):=(zad BK171.out 6).trans rfl
   have hcz12_7 : w5.cell? ⟨gb171,7,none⟩ = some (.int .i64 a1_7):=(zad BK171.out 7).trans rfl
   have hcz12_8 : w5.cell? ⟨gb171,8,none⟩ = some (.int .i64 a1_8):=(zad BK171.out 8).trans rfl
   have hfz12_0:=zaa BK171.out 0
   have hfz12_1:=zaa BK171.out 1
   have hfz12_2:=zaa BK171.out 2
   have hfz12_3:=zaa BK171.out 3
   have hfz12_4:=zaa BK171.out 4
   have hfz12_5:=zaa BK171.out 5
   have hfz12_6:=zaa BK171.out 6
   have hfz12_7:=zaa BK171.out 7
   have hfz12_8:=zaa BK171.out 8
   go_wp2_with (first|((with_reducible refine zbe (f:=57) rfl ?_);refine zce (some 8) rfl rfl Try.func57 (by kernel_rfl) rfl #[.string a1_0] rfl (by (try simp only [List.map_toArray,List.map_cons,List.map_nil]);first|done|rfl|(simp only [List.length_drop,List.length_take];rfl)) ?_;(with_reducible refine (text_IsCode.calls a1_0 false _ A6.out).mono ?_);rintro e w' ⟨rfl,⟨nd,rfl⟩⟩;refine ⟨_,rfl,?_⟩))
   go_meet
   case rel=>exact ⟨_,(true),(by first|rfl|(simp;done)|(simp [*];done)),H',⟨by first|omega|exact Nat.le_refl _⟩,⟨by (with_reducible repeat (first|refine zah ?_ _|refine zak ?_|refine zag ?_ _));exact BK170.out⟩,⟨by (with_reducible repeat (first|refine zah ?_ _|refine zak ?_|refine zag ?_ _));exact BK171.out⟩,⟨by repeat (first|(with_reducible first|exact HB.out|apply zae|apply zab|apply zaf|refine zai ?_ GE170.out|refine zai ?_ GE171.out)|exact HB.out)⟩⟩
 case rest =>
  clear HC3
  obtain ⟨kq,x5_2,rfl,HA,HJ2,BK170,BK171,HB⟩:=hcut
  cases kq with
  | zero=>exact absurd HA.out (by simp [zau.j0])
  | succ kj2 =>
   have H:=HA.out
   clear HA
   simp only [zau.j0] at H
   by_cases c13 : x5_2 = true
   ·subst c13
    have H1 : (some 1) = some r:=by rw [if_pos rfl] at H;exact H
    clear H
    have H:=H1
    clear H1
    obtain rfl:=Option.some.inj H
    go_wp2
    go_ret
    exact ⟨by first|rfl|(simp [errW_none,errW_some] <;> rfl)|(simp [*,errW_none,errW_some] <;> rfl),by repeat (first|(with_reducible first|exact HB.out|apply zae|apply zab|apply zaf|refine zai ?_ GE170.out|refine zai ?_ GE171.out)|exact HB.out)⟩
   ·replace c13:=Bool.eq_false_iff.mpr c13
    subst c13
    have H1 : ((zbc.f kj2 l0_1 a1_1).bind fun t174=>(if t174 < 0 then (zau.j1 kj2 true a1_0 a1_1 a1_2 a1_3 a1_4 a1_5 a1_6 a1_7 a1_8) else ((zbc.f kj2 l0_1 a1_2).bind fun t175=>(zau.j1 kj2 (decide (t175 < 0)) a1_0 a1_1 a1_2 a1_3 a1_4 a1_5 a1_6 a1_7 a1_8)))) = some r:=by rw [if_neg (show ¬ (false = true) by decide)] at H;exact H
    clear H
    have H:=H1
    clear H1
    have HC14:=zac.mk H
    clear H
    go_upto_region 3 with (fail)
    go_cut [16] (fun v16 wc=>∃ (kq : Nat) (x16_13 : Bool),v16 = .bool x16_13 ∧ zac (zau.j1 kq x16_13 a1_0 a1_1 a1_2 a1_3 a1_4 a1_5 a1_6 a1_7 a1_8 = some r) ∧ zac (kq ≤ kj2) ∧ zac (wc.heap[gb170]? = some (.cells #[(.slice A0_0 l0_0.length c0_0),(.slice A0_1 l0_1.length c0_1),(.slice A0_2 l0_2.length c0_2)] 26 (0,0))) ∧ zac (wc.heap[gb171]? = some (.cells #[.string a1_0,.string a1_1,.string a1_2,.int .i64 a1_3,.int .i64 a1_4,.string a1_5,.int .i64 a1_6,.int .i64 a1_7,.int .i64 a1_8] 36 (0,0))) ∧ zac (Below w.heap.size w wc))
    case first =>
     have H:=HC14.out
     clear HC14
     replace H:=Option.bind_eq_some_iff.mp H
     obtain ⟨t174,A150,H⟩:=H
     replace H : (if t174 < 0 then (zau.j1 kj2 true a1_0 a1_1 a1_2 a1_3 a1_4 a1_5 a1_6 a1_7 a1_8) else ((zbc.f kj2 l0_1 a1_2).bind fun t175=>(zau.j1 kj2 (decide (t175 < 0)) a1_0 a1_1 a1_2 a1_3 a1_4 a1_5 a1_6 a1_7 a1_8))) = some r:=H
     have A15:=zac.mk A150
     clear A150
     by_cases c16 : t174 < 0
     ·rw [if_pos c16] at H
      have c16b0 : decide (t174 < 0) = true:=decide_eq_true c16
      clear c16
      (first|rw [c16b0]|(simp only [i64_w,i32_w];rw [c16b0])|skip)
      have H':=zac.mk H
      clear H
      have hnb17:=NB170_171.out
      have hnc17:=NB171_170.out
      have hcz18_0 : wc.cell? ⟨gb170,0,none⟩ = some (.slice A0_0 l0_0.length c0_0):=(zad BK170.out 0).trans rfl
      have hcz18_1 : wc.cell? ⟨gb170,1,none⟩ = some (.slice A0_1 l0_1.length c0_1):=(zad BK170.out 1).trans rfl
      have hcz18_2 : wc.cell? ⟨gb170,2,none⟩ = some (.slice A0_2 l0_2.length c0_2):=(zad BK170.out 2).trans rfl
      have hfz18_0:=zaa BK170.out 0
      have hfz18_1:=zaa BK170.out 1
      have hfz18_2:=zaa BK170.out 2
      have hcz19_0 : wc.cell? ⟨gb171,0,none⟩ = some (.string a1_0):=(zad BK171.out 0).trans rfl
      have hcz19_1 : wc.cell? ⟨gb171,1,none⟩ = some (.string a1_1):=(zad BK171.out 1).trans rfl
      have hcz19_2 : wc.cell? ⟨gb171,2,none⟩ = some (.string a1_2):=(zad BK171.out 2).trans rfl
      have hcz19_3 : wc.cell? ⟨gb171,3,none⟩ = some (.int .i64 a1_3):=(zad BK171.out 3).trans rfl
      have hcz19_4 : wc.cell? ⟨gb171,4,none⟩ = some (.int .i64 a1_4):=(zad BK171.out 4).trans rfl
      have hcz19_5 : wc.cell? ⟨gb171,5,none⟩ = some (.string a1_5):=(zad BK171.out 5).trans rfl
      have hcz19_6 : wc.cell? ⟨gb171,6,none⟩ = some (.int .i64 a1_6):=(zad BK171.out 6).trans rfl
      have hcz19_7 : wc.cell? ⟨gb171,7,none⟩ = some (.int .i64 a1_7):=(zad BK171.out 7).trans rfl
      have hcz19_8 : wc.cell? ⟨gb171,8,none⟩ = some (.int .i64 a1_8):=(zad BK171.out 8).trans rfl
      have hfz19_0:=zaa BK171.out 0
      have hfz19_1:=zaa BK171.out 1
      have hfz19_2:=zaa BK171.out 2
      have hfz19_3:=zaa BK171.out 3
      have hfz19_4:=zaa BK171.out 4
      have hfz19_5:=zaa BK171.out 5
      have hfz19_6:=zaa BK171.out 6
      have hfz19_7:=zaa BK171.out 7
      have hfz19_8:=zaa BK171.out 8
      go_wp2_with (first|((with_reducible refine zbe (f:=52) rfl ?_);refine zce (some 21) rfl rfl Try.func52 (by kernel_rfl) rfl #[.slice A0_1 l0_1.length c0_1,.string a1_1] rfl (by (try simp only [List.map_toArray,List.map_cons,List.map_nil]);first|done|rfl|(simp only [List.length_drop,List.length_take];rfl)) ?_;(with_reducible refine (zbc.calls kj2 _ _ l0_1 a1_1 t174 _ ?side1 ?side2 A15.out).mono ?_);(case side1=>repeat (first|exact (Kd.C_below HR0_1.out HB.out)|(with_reducible refine Kd.C_alloc ?_ _)|(with_reducible refine Kd.C_drewN ?_ _)|(with_reducible refine Kd.C_drew ?_)));(case side2=>exact HC0_1.out);rintro e w20 ⟨rfl,hb⟩;refine ⟨_,rfl,?_⟩;have n0_:=zac.mk (zat (g:=gb170) (o:=.cells #[.slice A0_0 l0_0.length c0_0,.slice A0_1 l0_1.length c0_1,.slice A0_2 l0_2.length c0_2] 26 (0,0)) (by (with_reducible repeat (first|refine zah ?_ _|refine zak ?_|refine zag ?_ _));exact BK170.out) hb);have n1_:=zac.mk (zat (g:=gb171) (o:=.cells #[.string a1_0,.string a1_1,.string a1_2,.int .i64 a1_3,.int .i64 a1_4,.string a1_5,.int .i64 a1_6,.int .i64 a1_7,.int .i64 a1_8] 36 (0,0)) (by (with_reducible repeat (first|refine zah ?_ _|refine zak ?_|refine zag ?_ _));exact BK171.out) hb);have n2_:=zac.mk (zao (by repeat (first|(with_reducible first|exact HB.out|apply zae|apply zab|apply zaf|refine zai ?_ GE170.out|refine zai ?_ GE171.out)|exact HB.out)) hb);clear BK170;clear BK171;clear HB;have BK170:=n0_;have BK171:=n1_;have HB:=n2_;clear n0_ n1_ n2_;(try clear hb);(try clear hb2);(try clear hk);(try clear hi)))
      go_meet
      case rel=>exact ⟨_,(true),(by first|rfl|(simp;done)|(simp [*];done)),H',⟨by have:=HJ2.out;first|omega|exact Nat.le_refl _⟩,⟨by (with_reducible repeat (first|refine zah ?_ _|refine zak ?_|refine zag ?_ _));exact BK170.out⟩,⟨by (with_reducible repeat (first|refine zah ?_ _|refine zak ?_|refine zag ?_ _));exact BK171.out⟩,⟨by repeat (first|(with_reducible first|exact HB.out|apply zae|apply zab|apply zaf|refine zai ?_ GE170.out|refine zai ?_ GE171.out)|exact HB.out)⟩⟩
     ·rw [if_neg c16] at H
      have c16b0 : decide (t174 < 0) = false:=decide_eq_false c16
      clear c16
      (first|rw [c16b0]|(simp only [i64_w,i32_w];rw [c16b0])|skip)
      replace H:=Option.bind_eq_some_iff.mp H
      obtain ⟨t175,A210,H⟩:=H
      replace H : (zau.j1 kj2 (decide (t175 < 0)) a1_0 a1_1 a1_2 a1_3 a1_4 a1_5 a1_6 a1_7 a1_8) = some r:=H
      have A21:=zac.mk A210
      clear A210
      have H':=zac.mk H
      clear H
      have hnb22:=NB170_171.out
      have hnc22:=NB171_170.out
      have hcz23_0 : wc.cell? ⟨gb170,0,none⟩ = some (.slice A0_0 l0_0.length c0_0):=(zad BK170.out 0).trans rfl
      have hcz23_1 : wc.cell? ⟨gb170,1,none⟩ = some (.slice A0_1 l0_1.length c0_1):=(zad BK170.out 1).trans rfl
      have hcz23_2 : wc.cell? ⟨gb170,2,none⟩ = some (.slice A0_2 l0_2.length c0_2):=(zad BK170.out 2).trans rfl
      have hfz23_0:=zaa BK170.out 0
      have hfz23_1:=zaa BK170.out 1
      have hfz23_2:=zaa BK170.out 2
      have hcz24_0 : wc.cell? ⟨gb171,0,none⟩ = some (.string a1_0):=(zad BK171.out 0).trans rfl
      have hcz24_1 : wc.cell? ⟨gb171,1,none⟩ = some (.string a1_1):=(zad BK171.out 1).trans rfl
      have hcz24_2 : wc.cell? ⟨gb171,2,none⟩ = some (.string a1_2):=(zad BK171.out 2).trans rfl
      have hcz24_3 : wc.cell? ⟨gb171,3,none⟩ = some (.int .i64 a1_3):=(zad BK171.out 3).trans rfl
      have hcz24_4 : wc.cell? ⟨gb171,4,none⟩ = some (.int .i64 a1_4):=(zad BK171.out 4).trans rfl
      have hcz24_5 : wc.cell? ⟨gb171,5,none⟩ = some (.string a1_5):=(zad BK171.out 5).trans rfl
      have hcz24_6 : wc.cell? ⟨gb171,6,none⟩ = some (.int .i64 a1_6):=(zad BK171.out 6).trans rfl
      have hcz24_7 : wc.cell? ⟨gb171,7,none⟩ = some (.int .i64 a1_7):=(zad BK171.out 7).trans rfl
      have hcz24_8 : wc.cell? ⟨gb171,8,none⟩ = some (.int .i64 a1_8):=(zad BK171.out 8).trans rfl
      have hfz24_0:=zaa BK171.out 0
      have hfz24_1:=zaa BK171.out 1
      have hfz24_2:=zaa BK171.out 2
      have hfz24_3:=zaa BK171.out 3
      have hfz24_4:=zaa BK171.out 4
      have hfz24_5:=zaa BK171.out 5
      have hfz24_6:=zaa BK171.out 6
      have hfz24_7:=zaa BK171.out 7
      have hfz24_8:=zaa BK171.out 8
      go_wp2_with (first|((with_reducible refine zbe (f:=52) rfl ?_);refine zce (some 21) rfl rfl Try.func52 (by kernel_rfl) rfl #[.slice A0_1 l0_1.length c0_1,.string a1_1] rfl (by (try simp only [List.map_toArray,List.map_cons,List.map_nil]);first|done|rfl|(simp only [List.length_drop,List.length_take];rfl)) ?_;(with_reducible refine (zbc.calls kj2 _ _ l0_1 a1_1 t174 _ ?side1 ?side2 A15.out).mono ?_);(case side1=>repeat (first|exact (Kd.C_below HR0_1.out HB.out)|(with_reducible refine Kd.C_alloc ?_ _)|(with_reducible refine Kd.C_drewN ?_ _)|(with_reducible refine Kd.C_drew ?_)));(case side2=>exact HC0_1.out);rintro e w25 ⟨rfl,hb⟩;refine ⟨_,rfl,?_⟩;have n0_:=zac.mk (zat (g:=gb170) (o:=.cells #[.slice A0_0 l0_0.length c0_0,.slice A0_1 l0_1.length c0_1,.slice A0_2 l0_2.length c0_2] 26 (0,0)) (by (with_reducible repeat (first|refine zah ?_ _|refine zak ?_|refine zag ?_ _));exact BK170.out) hb);have n1_:=zac.mk (zat (g:=gb171) (o:=.cells #[.string a1_0,.string a1_1,.string a1_2,.int .i64 a1_3,.int .i64 a1_4,.string a1_5,.int .i64 a1_6,.int .i64 a1_7,.int .i64 a1_8] 36 (0,0)) (by (with_reducible repeat (first|refine zah ?_ _|refine zak ?_|refine zag ?_ _));exact BK171.out) hb);have n2_:=zac.mk (zao (by repeat (first|(with_reducible first|exact HB.out|apply zae|apply zab|apply zaf|refine zai ?_ GE170.out|refine zai ?_ GE171.out)|exact HB.out)) hb);clear BK170;clear BK171;clear HB;have BK170:=n0_;have BK171:=n1_;have HB:=n2_;clear n0_ n1_ n2_;(try clear hb);(try clear hb2);(try clear hk);(try clear hi);have hcz26_0 : w25.cell? ⟨gb170,0,none⟩ = some (.slice A0_0 l0_0.length c0_0):=(zad BK170.out 0).trans rfl;have hcz26_1 : w25.cell? ⟨gb170,1,none⟩ = some (.slice A0_1 l0_1.length c0_1):=(zad BK170.out 1).trans rfl;have hcz26_2 : w25.cell? ⟨gb170,2,none⟩ = some (.slice A0_2 l0_2.length c0_2):=(zad BK170.out 2).trans rfl;have hfz26_0:=zaa BK170.out 0;have hfz26_1:=zaa BK170.out 1;have hfz26_2:=zaa BK170.out 2;have hcz27_0 : w25.cell? ⟨gb171,0,none⟩ = some (.string a1_0):=(zad BK171.out 0).trans rfl;have hcz27_1 : w25.cell? ⟨gb171,1,none⟩ = some (.string a1_1):=(zad BK171.out 1).trans rfl;have hcz27_2 : w25.cell? ⟨gb171,2,none⟩ = some (.string a1_2):=(zad BK171.out 2).trans rfl;have hcz27_3 : w25.cell? ⟨gb171,3,none⟩ = some (.int .i64 a1_3):=(zad BK171.out 3).trans rfl;have hcz27_4 : w25.cell? ⟨gb171,4,none⟩ = some (.int .i64 a1_4):=(zad BK171.out 4).trans rfl;have hcz27_5 : w25.cell? ⟨gb171,5,none⟩ = some (.string a1_5):=(zad BK171.out 5).trans rfl;have hcz27_6 : w25.cell? ⟨gb171,6,none⟩ = some (.int .i64 a1_6):=(zad BK171.out 6).trans rfl;have hcz27_7 : w25.cell? ⟨gb171,7,none⟩ = some (.int .i64 a1_7):=(zad BK171.out 7).trans rfl;have hcz27_8 : w25.cell? ⟨gb171,8,none⟩ = some (.int .i64 a1_8):=(zad BK171.out 8).trans rfl;have hfz27_0:=zaa BK171.out 0;have hfz27_1:=zaa BK171.out 1;have hfz27_2:=zaa BK171.out 2;have hfz27_3:=zaa BK171.out 3;have hfz27_4:=zaa BK171.out 4;have hfz27_5:=zaa BK171.out 5;have hfz27_6:=zaa BK171.out 6;have hfz27_7:=zaa BK171.out 7;have hfz27_8:=zaa BK171.out 8)|(go_at_call 52;(with_reducible refine (zbc.calls kj2 _ _ l0_1 a1_2 t175 _ ?side1 ?side2 A21.out).mono ?_);(case side1=>repeat (first|exact (Kd.C_below HR0_1.out HB.out)|(with_reducible refine Kd.C_alloc ?_ _)|(with_reducible refine Kd.C_drewN ?_ _)|(with_reducible refine Kd.C_drew ?_)));(case side2=>exact HC0_1.out);rintro e w28 ⟨rfl,hb⟩;have n0_:=zac.mk (zat (g:=gb170) (o:=.cells #[.slice A0_0 l0_0.length c0_0,.slice A0_1 l0_1.length c0_1,.slice A0_2 l0_2.length c0_2] 26 (0,0)) (by (with_reducible repeat (first|refine zah ?_ _|refine zak ?_|refine zag ?_ _));exact BK170.out) hb);have n1_:=zac.mk (zat (g:=gb171) (o:=.cells #[.string a1_0,.string a1_1,.string a1_2,.int .i64 a1_3,.int .i64 a1_4,.string a1_5,.int .i64 a1_6,.int .i64 a1_7,.int .i64 a1_8] 36 (0,0)) (by (with_reducible repeat (first|refine zah ?_ _|refine zak ?_|refine zag ?_ _));exact BK171.out) hb);have n2_:=zac.mk (zao (by repeat (first|(with_reducible first|exact HB.out|apply zae|apply zab|apply zaf|refine zai ?_ GE170.out|refine zai ?_ GE171.out)|exact HB.out)) hb);clear BK170;clear BK171;clear HB;have BK170:=n0_;have BK171:=n1_;have HB:=n2_;clear n0_ n1_ n2_;(try clear hb);(try clear hb2);(try clear hk);(try clear hi)))
      go_meet
      case rel=>exact ⟨_,(decide (t175 < 0)),(by first|rfl|(simp;done)|(simp [*];done)),H',⟨by have:=HJ2.out;first|omega|exact Nat.le_refl _⟩,⟨by (with_reducible repeat (first|refine zah ?_ _|refine zak ?_|refine zag ?_ _));exact BK170.out⟩,⟨by (with_reducible repeat (first|refine zah ?_ _|refine zak ?_|refine zag ?_ _));exact BK171.out⟩,⟨by repeat (first|(with_reducible first|exact HB.out|apply zae|apply zab|apply zaf|refine zai ?_ GE170.out|refine zai ?_ GE171.out)|exact HB.out)⟩⟩
    case rest =>
     clear HC14
     try clear c13
     obtain ⟨kq,x16_13,rfl,HA,HJ13,BK170,BK171,HB⟩:=hcut
     cases kq with
     | zero=>exact absurd HA.out (by simp [zau.j1])
     | succ kj13 =>
      have H:=HA.out
      clear HA
      simp only [zau.j1] at H
      by_cases c29 : x16_13 = true
      ·subst c29
       have H1 : (some 6) = some r:=by rw [if_pos rfl] at H;exact H
       clear H
       have H:=H1
       clear H1
       obtain rfl:=Option.some.inj H
       go_wp2
       go_ret
       exact ⟨by first|rfl|(simp [errW_none,errW_some] <;> rfl)|(simp [*,errW_none,errW_some] <;> rfl),by repeat (first|(with_reducible first|exact HB.out|apply zae|apply zab|apply zaf|refine zai ?_ GE170.out|refine zai ?_ GE171.out)|exact HB.out)⟩
      ·replace c29:=Bool.eq_false_iff.mpr c29
       subst c29
       have H1 : (if a1_1.toList = a1_2.toList then (some 14) else (if a1_3 < 2880 then (some 5) else (if a1_4 > 52593120 then (some 5) else (if a1_4 ≤ a1_3 then (some 5) else (if (wrap64 (a1_4 - a1_3)) > 1440 then (some 5) else ((zcb.f kj13 a1_0 a1_1 a1_2 a1_3 a1_4 a1_5 a1_6 a1_7 a1_8).bind fun t176=>(if t176 = true then (some 0) else (some 5)))))))) = some r:=by rw [if_neg (show ¬ (false = true) by decide)] at H;exact H
       clear H
       have H:=H1
       clear H1
       by_cases c30 : a1_1.toList = a1_2.toList
       ·rw [if_pos c30] at H
        have c30b0 : (a1_1.toList == a1_2.toList) = true:=beq_iff_eq.mpr c30
        have c30b1 : (a1_1.toList != a1_2.toList) = false:=bne_eq_false_iff_eq.mpr c30
        clear c30
        obtain rfl:=Option.some.inj H
        have hnb31:=NB171_170.out
        have hnc31:=NB170_171.out
        have hcz32_0 : wc.cell? ⟨gb171,0,none⟩ = some (.string a1_0):=(zad BK171.out 0).trans rfl
        have hcz32_1 : wc.cell? ⟨gb171,1,none⟩ = some (.string a1_1):=(zad BK171.out 1).trans rfl
        have hcz32_2 : wc.cell? ⟨gb171,2,none⟩ = some (.string a1_2):=(zad BK171.out 2).trans rfl
        have hcz32_3 : wc.cell? ⟨gb171,3,none⟩ = some (.int .i64 a1_3):=(zad BK171.out 3).trans rfl
        have hcz32_4 : wc.cell? ⟨gb171,4,none⟩ = some (.int .i64 a1_4):=(zad BK171.out 4).trans rfl
        have hcz32_5 : wc.cell? ⟨gb171,5,none⟩ = some (.string a1_5):=(zad BK171.out 5).trans rfl
        have hcz32_6 : wc.cell? ⟨gb171,6,none⟩ = some (.int .i64 a1_6):=(zad BK171.out 6).trans rfl
        have hcz32_7 : wc.cell? ⟨gb171,7,none⟩ = some (.int .i64 a1_7):=(zad BK171.out 7).trans rfl
        have hcz32_8 : wc.cell? ⟨gb171,8,none⟩ = some (.int .i64 a1_8):=(zad BK171.out 8).trans rfl
        have hfz32_0:=zaa BK171.out 0
        have hfz32_1:=zaa BK171.out 1
        have hfz32_2:=zaa BK171.out 2
        have hfz32_3:=zaa BK171.out 3
        have hfz32_4:=zaa BK171.out 4
        have hfz32_5:=zaa BK171.out 5
        have hfz32_6:=zaa BK171.out 6
        have hfz32_7:=zaa BK171.out 7
        have hfz32_8:=zaa BK171.out 8
        go_wp2
        go_ret
        exact ⟨by first|rfl|(simp [errW_none,errW_some] <;> rfl)|(simp [*,errW_none,errW_some] <;> rfl),by repeat (first|(with_reducible first|exact HB.out|apply zae|apply zab|apply zaf|refine zai ?_ GE170.out|refine zai ?_ GE171.out)|exact HB.out)⟩
       ·rw [if_neg c30] at H
        have c30b0 : (a1_1.toList == a1_2.toList) = false:=beq_eq_false_iff_ne.mpr c30
        have c30b1 : (a1_1.toList != a1_2.toList) = true:=bne_iff_ne.mpr c30
        by_cases c33 : a1_3 < 2880
        ·rw [if_pos c33] at H
         have c33b0 : decide (a1_3 < 2880) = true:=decide_eq_true c33
         clear c33
         obtain rfl:=Option.some.inj H
         have hnb34:=NB171_170.out
         have hnc34:=NB170_171.out
         have hcz35_0 : wc.cell? ⟨gb171,0,none⟩ = some (.string a1_0):=(zad BK171.out 0).trans rfl
         have hcz35_1 : wc.cell? ⟨gb171,1,none⟩ = some (.string a1_1):=(zad BK171.out 1).trans rfl
         have hcz35_2 : wc.cell? ⟨gb171,2,none⟩ = some (.string a1_2):=(zad BK171.out 2).trans rfl
         have hcz35_3 : wc.cell? ⟨gb171,3,none⟩ = some (.int .i64 a1_3):=(zad BK171.out 3).trans rfl
         have hcz35_4 : wc.cell? ⟨gb171,4,none⟩ = some (.int .i64 a1_4):=(zad BK171.out 4).trans rfl
         have hcz35_5 : wc.cell? ⟨gb171,5,none⟩ = some (.string a1_5):=(zad BK171.out 5).trans rfl
         have hcz35_6 : wc.cell? ⟨gb171,6,none⟩ = some (.int .i64 a1_6):=(zad BK171.out 6).trans rfl
         have hcz35_7 : wc.cell? ⟨gb171,7,none⟩ = some (.int .i64 a1_7):=(zad BK171.out 7).trans rfl
         have hcz35_8 : wc.cell? ⟨gb171,8,none⟩ = some (.int .i64 a1_8):=(zad BK171.out 8).trans rfl
         have hfz35_0:=zaa BK171.out 0
         have hfz35_1:=zaa BK171.out 1
         have hfz35_2:=zaa BK171.out 2
         have hfz35_3:=zaa BK171.out 3
         have hfz35_4:=zaa BK171.out 4
         have hfz35_5:=zaa BK171.out 5
         have hfz35_6:=zaa BK171.out 6
         have hfz35_7:=zaa BK171.out 7
         have hfz35_8:=zaa BK171.out 8
         go_wp2
         go_ret
         exact ⟨by first|rfl|(simp [errW_none,errW_some] <;> rfl)|(simp [*,errW_none,errW_some] <;> rfl),by repeat (first|(with_reducible first|exact HB.out|apply zae|apply zab|apply zaf|refine zai ?_ GE170.out|refine zai ?_ GE171.out)|exact HB.out)⟩
        ·rw [if_neg c33] at H
         have c33b0 : decide (a1_3 < 2880) = false:=decide_eq_false c33
         clear c33
         by_cases c36 : a1_4 > 52593120
         ·rw [if_pos c36] at H
          have c36b0 : decide (52593120 < a1_4) = true:=decide_eq_true c36
          clear c36
          obtain rfl:=Option.some.inj H
          have hnb37:=NB171_170.out
          have hnc37:=NB170_171.out
          have hcz38_0 : wc.cell? ⟨gb171,0,none⟩ = some (.string a1_0):=(zad BK171.out 0).trans rfl
          have hcz38_1 : wc.cell? ⟨gb171,1,none⟩ = some (.string a1_1):=(zad BK171.out 1).trans rfl
          have hcz38_2 : wc.cell? ⟨gb171,2,none⟩ = some (.string a1_2):=(zad BK171.out 2).trans rfl
          have hcz38_3 : wc.cell? ⟨gb171,3,none⟩ = some (.int .i64 a1_3):=(zad BK171.out 3).trans rfl
          have hcz38_4 : wc.cell? ⟨gb171,4,none⟩ = some (.int .i64 a1_4):=(zad BK171.out 4).trans rfl
          have hcz38_5 : wc.cell? ⟨gb171,5,none⟩ = some (.string a1_5):=(zad BK171.out 5).trans rfl
          have hcz38_6 : wc.cell? ⟨gb171,6,none⟩ = some (.int .i64 a1_6):=(zad BK171.out 6).trans rfl
          have hcz38_7 : wc.cell? ⟨gb171,7,none⟩ = some (.int .i64 a1_7):=(zad BK171.out 7).trans rfl
          have hcz38_8 : wc.cell? ⟨gb171,8,none⟩ = some (.int .i64 a1_8):=(zad BK171.out 8).trans rfl
          have hfz38_0:=zaa BK171.out 0
          have hfz38_1:=zaa BK171.out 1
          have hfz38_2:=zaa BK171.out 2
          have hfz38_3:=zaa BK171.out 3
          have hfz38_4:=zaa BK171.out 4
          have hfz38_5:=zaa BK171.out 5
          have hfz38_6:=zaa BK171.out 6
          have hfz38_7:=zaa BK171.out 7
          have hfz38_8:=zaa BK171.out 8
          go_wp2
          go_ret
          exact ⟨by first|rfl|(simp [errW_none,errW_some] <;> rfl)|(simp [*,errW_none,errW_some] <;> rfl),by repeat (first|(with_reducible first|exact HB.out|apply zae|apply zab|apply zaf|refine zai ?_ GE170.out|refine zai ?_ GE171.out)|exact HB.out)⟩
         ·rw [if_neg c36] at H
          have c36b0 : decide (52593120 < a1_4) = false:=decide_eq_false c36
          clear c36
          by_cases c39 : a1_4 ≤ a1_3
          ·rw [if_pos c39] at H
           have c39b0 : decide (a1_4 ≤ a1_3) = true:=decide_eq_true c39
           clear c39
           obtain rfl:=Option.some.inj H
           have hnb40:=NB171_170.out
           have hnc40:=NB170_171.out
           have hcz41_0 : wc.cell? ⟨gb171,0,none⟩ = some (.string a1_0):=(zad BK171.out 0).trans rfl
           have hcz41_1 : wc.cell? ⟨gb171,1,none⟩ = some (.string a1_1):=(zad BK171.out 1).trans rfl
           have hcz41_2 : wc.cell? ⟨gb171,2,none⟩ = some (.string a1_2):=(zad BK171.out 2).trans rfl
           have hcz41_3 : wc.cell? ⟨gb171,3,none⟩ = some (.int .i64 a1_3):=(zad BK171.out 3).trans rfl
           have hcz41_4 : wc.cell? ⟨gb171,4,none⟩ = some (.int .i64 a1_4):=(zad BK171.out 4).trans rfl
           have hcz41_5 : wc.cell? ⟨gb171,5,none⟩ = some (.string a1_5):=(zad BK171.out 5).trans rfl
           have hcz41_6 : wc.cell? ⟨gb171,6,none⟩ = some (.int .i64 a1_6):=(zad BK171.out 6).trans rfl
           have hcz41_7 : wc.cell? ⟨gb171,7,none⟩ = some (.int .i64 a1_7):=(zad BK171.out 7).trans rfl
           have hcz41_8 : wc.cell? ⟨gb171,8,none⟩ = some (.int .i64 a1_8):=(zad BK171.out 8).trans rfl
           have hfz41_0:=zaa BK171.out 0
           have hfz41_1:=zaa BK171.out 1
           have hfz41_2:=zaa BK171.out 2
           have hfz41_3:=zaa BK171.out 3
           have hfz41_4:=zaa BK171.out 4
           have hfz41_5:=zaa BK171.out 5
           have hfz41_6:=zaa BK171.out 6
           have hfz41_7:=zaa BK171.out 7
           have hfz41_8:=zaa BK171.out 8
           go_wp2
           go_ret
           exact ⟨by first|rfl|(simp [errW_none,errW_some] <;> rfl)|(simp [*,errW_none,errW_some] <;> rfl),by repeat (first|(with_reducible first|exact HB.out|apply zae|apply zab|apply zaf|refine zai ?_ GE170.out|refine zai ?_ GE171.out)|exact HB.out)⟩
          ·rw [if_neg c39] at H
           have c39b0 : decide (a1_4 ≤ a1_3) = false:=decide_eq_false c39
           clear c39
           by_cases c42 : (wrap64 (a1_4 - a1_3)) > 1440
           ·rw [if_pos c42] at H
            have c42b0 : decide (1440 < (wrap64 (a1_4 - a1_3))) = true:=decide_eq_true c42
            clear c42
            obtain rfl:=Option.some.inj H
            have hnb43:=NB171_170.out
            have hnc43:=NB170_171.out
            have hcz44_0 : wc.cell? ⟨gb171,0,none⟩ = some (.string a1_0):=(zad BK171.out 0).trans rfl
            have hcz44_1 : wc.cell? ⟨gb171,1,none⟩ = some (.string a1_1):=(zad BK171.out 1).trans rfl
            have hcz44_2 : wc.cell? ⟨gb171,2,none⟩ = some (.string a1_2):=(zad BK171.out 2).trans rfl
            have hcz44_3 : wc.cell? ⟨gb171,3,none⟩ = some (.int .i64 a1_3):=(zad BK171.out 3).trans rfl
            have hcz44_4 : wc.cell? ⟨gb171,4,none⟩ = some (.int .i64 a1_4):=(zad BK171.out 4).trans rfl
            have hcz44_5 : wc.cell? ⟨gb171,5,none⟩ = some (.string a1_5):=(zad BK171.out 5).trans rfl
            have hcz44_6 : wc.cell? ⟨gb171,6,none⟩ = some (.int .i64 a1_6):=(zad BK171.out 6).trans rfl
            have hcz44_7 : wc.cell? ⟨gb171,7,none⟩ = some (.int .i64 a1_7):=(zad BK171.out 7).trans rfl
            have hcz44_8 : wc.cell? ⟨gb171,8,none⟩ = some (.int .i64 a1_8):=(zad BK171.out 8).trans rfl
            have hfz44_0:=zaa BK171.out 0
            have hfz44_1:=zaa BK171.out 1
            have hfz44_2:=zaa BK171.out 2
            have hfz44_3:=zaa BK171.out 3
            have hfz44_4:=zaa BK171.out 4
            have hfz44_5:=zaa BK171.out 5
            have hfz44_6:=zaa BK171.out 6
            have hfz44_7:=zaa BK171.out 7
            have hfz44_8:=zaa BK171.out 8
            go_wp2
            go_ret
            exact ⟨by first|rfl|(simp [errW_none,errW_some] <;> rfl)|(simp [*,errW_none,errW_some] <;> rfl),by repeat (first|(with_reducible first|exact HB.out|apply zae|apply zab|apply zaf|refine zai ?_ GE170.out|refine zai ?_ GE171.out)|exact HB.out)⟩
           ·rw [if_neg c42] at H
            have c42b0 : decide (1440 < (wrap64 (a1_4 - a1_3))) = false:=decide_eq_false c42
            clear c42
            replace H:=Option.bind_eq_some_iff.mp H
            obtain ⟨t176,A450,H⟩:=H
            replace H : (if t176 = true then (some 0) else (some 5)) = some r:=H
            have A45:=zac.mk A450
            clear A450
            by_cases c46 : t176 = true
            ·subst c46
             have H1 : (some 0) = some r:=by rw [if_pos rfl] at H;exact H
             clear H
             have H:=H1
             clear H1
             obtain rfl:=Option.some.inj H
             have hnb47:=NB171_170.out
             have hnc47:=NB170_171.out
             have hcz48_0 : wc.cell? ⟨gb171,0,none⟩ = some (.string a1_0):=(zad BK171.out 0).trans rfl
             have hcz48_1 : wc.cell? ⟨gb171,1,none⟩ = some (.string a1_1):=(zad BK171.out 1).trans rfl
             have hcz48_2 : wc.cell? ⟨gb171,2,none⟩ = some (.string a1_2):=(zad BK171.out 2).trans rfl
             have hcz48_3 : wc.cell? ⟨gb171,3,none⟩ = some (.int .i64 a1_3):=(zad BK171.out 3).trans rfl
             have hcz48_4 : wc.cell? ⟨gb171,4,none⟩ = some (.int .i64 a1_4):=(zad BK171.out 4).trans rfl
             have hcz48_5 : wc.cell? ⟨gb171,5,none⟩ = some (.string a1_5):=(zad BK171.out 5).trans rfl
             have hcz48_6 : wc.cell? ⟨gb171,6,none⟩ = some (.int .i64 a1_6):=(zad BK171.out 6).trans rfl
             have hcz48_7 : wc.cell? ⟨gb171,7,none⟩ = some (.int .i64 a1_7):=(zad BK171.out 7).trans rfl
             have hcz48_8 : wc.cell? ⟨gb171,8,none⟩ = some (.int .i64 a1_8):=(zad BK171.out 8).trans rfl
             have hfz48_0:=zaa BK171.out 0
             have hfz48_1:=zaa BK171.out 1
             have hfz48_2:=zaa BK171.out 2
             have hfz48_3:=zaa BK171.out 3
             have hfz48_4:=zaa BK171.out 4
             have hfz48_5:=zaa BK171.out 5
             have hfz48_6:=zaa BK171.out 6
             have hfz48_7:=zaa BK171.out 7
             have hfz48_8:=zaa BK171.out 8
             go_wp2_with (first|(go_at_call 58;(with_reducible refine (zcb.calls kj13 a1_0 a1_1 a1_2 a1_3 a1_4 a1_5 a1_6 a1_7 a1_8 true _ A45.out).mono ?_);rintro e w49 ⟨rfl,hb⟩;have n0_:=zac.mk (zat (g:=gb170) (o:=.cells #[.slice A0_0 l0_0.length c0_0,.slice A0_1 l0_1.length c0_1,.slice A0_2 l0_2.length c0_2] 26 (0,0)) (by (with_reducible repeat (first|refine zah ?_ _|refine zak ?_|refine zag ?_ _));exact BK170.out) hb);have n1_:=zac.mk (zat (g:=gb171) (o:=.cells #[.string a1_0,.string a1_1,.string a1_2,.int .i64 a1_3,.int .i64 a1_4,.string a1_5,.int .i64 a1_6,.int .i64 a1_7,.int .i64 a1_8] 36 (0,0)) (by (with_reducible repeat (first|refine zah ?_ _|refine zak ?_|refine zag ?_ _));exact BK171.out) hb);have n2_:=zac.mk (zao (by repeat (first|(with_reducible first|exact HB.out|apply zae|apply zab|apply zaf|refine zai ?_ GE170.out|refine zai ?_ GE171.out)|exact HB.out)) hb);clear BK170;clear BK171;clear HB;have BK170:=n0_;have BK171:=n1_;have HB:=n2_;clear n0_ n1_ n2_;(try clear hb);(try clear hb2);(try clear hk);(try clear hi)))
             go_ret
             exact ⟨by first|rfl|(simp [errW_none,errW_some] <;> rfl)|(simp [*,errW_none,errW_some] <;> rfl),by repeat (first|(with_reducible first|exact HB.out|apply zae|apply zab|apply zaf|refine zai ?_ GE170.out|refine zai ?_ GE171.out)|exact HB.out)⟩
            ·replace c46:=Bool.eq_false_iff.mpr c46
             subst c46
             have H1 : (some 5) = some r:=by rw [if_neg (show ¬ (false = true) by decide)] at H;exact H
             clear H
             have H:=H1
             clear H1
             obtain rfl:=Option.some.inj H
             have hnb50:=NB171_170.out
             have hnc50:=NB170_171.out
             have hcz51_0 : wc.cell? ⟨gb171,0,none⟩ = some (.string a1_0):=(zad BK171.out 0).trans rfl
             have hcz51_1 : wc.cell? ⟨gb171,1,none⟩ = some (.string a1_1):=(zad BK171.out 1).trans rfl
             have hcz51_2 : wc.cell? ⟨gb171,2,none⟩ = some (.string a1_2):=(zad BK171.out 2).trans rfl
             have hcz51_3 : wc.cell? ⟨gb171,3,none⟩ = some (.int .i64 a1_3):=(zad BK171.out 3).trans rfl
             have hcz51_4 : wc.cell? ⟨gb171,4,none⟩ = some (.int .i64 a1_4):=(zad BK171.out 4).trans rfl
             have hcz51_5 : wc.cell? ⟨gb171,5,none⟩ = some (.string a1_5):=(zad BK171.out 5).trans rfl
             have hcz51_6 : wc.cell? ⟨gb171,6,none⟩ = some (.int .i64 a1_6):=(zad BK171.out 6).trans rfl
             have hcz51_7 : wc.cell? ⟨gb171,7,none⟩ = some (.int .i64 a1_7):=(zad BK171.out 7).trans rfl
             have hcz51_8 : wc.cell? ⟨gb171,8,none⟩ = some (.int .i64 a1_8):=(zad BK171.out 8).trans rfl
             have hfz51_0:=zaa BK171.out 0
             have hfz51_1:=zaa BK171.out 1
             have hfz51_2:=zaa BK171.out 2
             have hfz51_3:=zaa BK171.out 3
             have hfz51_4:=zaa BK171.out 4
             have hfz51_5:=zaa BK171.out 5
             have hfz51_6:=zaa BK171.out 6
             have hfz51_7:=zaa BK171.out 7
             have hfz51_8:=zaa BK171.out 8
             go_wp2_with (first|(go_at_call 58;(with_reducible refine (zcb.calls kj13 a1_0 a1_1 a1_2 a1_3 a1_4 a1_5 a1_6 a1_7 a1_8 false _ A45.out).mono ?_);rintro e w52 ⟨rfl,hb⟩;have n0_:=zac.mk (zat (g:=gb170) (o:=.cells #[.slice A0_0 l0_0.length c0_0,.slice A0_1 l0_1.length c0_1,.slice A0_2 l0_2.length c0_2] 26 (0,0)) (by (with_reducible repeat (first|refine zah ?_ _|refine zak ?_|refine zag ?_ _));exact BK170.out) hb);have n1_:=zac.mk (zat (g:=gb171) (o:=.cells #[.string a1_0,.string a1_1,.string a1_2,.int .i64 a1_3,.int .i64 a1_4,.string a1_5,.int .i64 a1_6,.int .i64 a1_7,.int .i64 a1_8] 36 (0,0)) (by (with_reducible repeat (first|refine zah ?_ _|refine zak ?_|refine zag ?_ _));exact BK171.out) hb);have n2_:=zac.mk (zao (by repeat (first|(with_reducible first|exact HB.out|apply zae|apply zab|apply zaf|refine zai ?_ GE170.out|refine zai ?_ GE171.out)|exact HB.out)) hb);clear BK170;clear BK171;clear HB;have BK170:=n0_;have BK171:=n1_;have HB:=n2_;clear n0_ n1_ n2_;(try clear hb);(try clear hb2);(try clear hk);(try clear hi)))
             go_ret
             exact ⟨by first|rfl|(simp [errW_none,errW_some] <;> rfl)|(simp [*,errW_none,errW_some] <;> rfl),by repeat (first|(with_reducible first|exact HB.out|apply zae|apply zab|apply zaf|refine zai ?_ GE170.out|refine zai ?_ GE171.out)|exact HB.out)⟩
end Go.Proofs.Ytepnddmalheoiaa.Q
namespace Go.Proofs.Ytepnddmalheoiaa.Q
open Go.Proofs.Ytepnddmalheoiaa.H
open Go.RowKit Go.Proofs.YtepnddmalheoiaaW.PrintWords Go.Proofs.YtepnddmalheoiaaW.PrintLast Go.Proofs.YtepnddmalheoiaaW.PrintMore
attribute [local go_sem] str_leq str_geq str_gtr max2_int min2_int max_two min_two max_three min_three max_four min_four   -- for this text's walks alone
def timetable_after.f (a0_0 : ByteArray) (a0_1 : ByteArray) (a0_2 : ByteArray) (a0_3 : Int) (a0_4 : Int) (a0_5 : ByteArray) (a0_6 : Int) (a0_7 : Int) (a0_8 : Int) (a1_0 : ByteArray) (a1_1 : ByteArray) (a1_2 : ByteArray) (a1_3 : Int) (a1_4 : Int) (a1_5 : ByteArray) (a1_6 : Int) (a1_7 : Int) (a1_8 : Int) : Option (Bool):=if a0_3 > a1_3 then (some true) else (if a0_3 = a1_3 then (some (Op.bytesLess a1_0.toList a0_0.toList)) else (some false))
set_option maxHeartbeats 8000000 in
set_option maxRecDepth 100000 in
theorem timetable_after.calls (a0_0 : ByteArray) (a0_1 : ByteArray) (a0_2 : ByteArray) (a0_3 : Int) (a0_4 : Int) (a0_5 : ByteArray) (a0_6 : Int) (a0_7 : Int) (a0_8 : Int) (a1_0 : ByteArray) (a1_1 : ByteArray) (a1_2 : ByteArray) (a1_3 : Int) (a1_4 : Int) (a1_5 : ByteArray) (a1_6 : Int) (a1_7 : Int) (a1_8 : Int) (r : Bool) (w : World) (h : timetable_after.f a0_0 a0_1 a0_2 a0_3 a0_4 a0_5 a0_6 a0_7 a0_8 a1_0 a1_1 a1_2 a1_3 a1_4 a1_5 a1_6 a1_7 a1_8 = some r) :
  Calls Try.prog 30 #[.agg #[.string a0_0,.string a0_1,.string a0_2,.int .i64 a0_3,.int .i64 a0_4,.string a0_5,.int .i64 a0_6,.int .i64 a0_7,.int .i64 a0_8],.agg #[.string a1_0,.string a1_1,.string a1_2,.int .i64 a1_3,.int .i64 a1_4,.string a1_5,.int .i64 a1_6,.int .i64 a1_7,.int .i64 a1_8]] w fun e w'=>e = .returned (.bool r) ∧ Below w.heap.size w w':=by
 have hu36:=Try.underlying36
 have HB:=zac.mk (Below.refl w.heap.size w)
 have H : (if a0_3 > a1_3 then (some true) else (if a0_3 = a1_3 then (some (Op.bytesLess a1_0.toList a0_0.toList)) else (some false))) = some r:=h
 clear h
 by_cases c3 : a0_3 > a1_3
 ·rw [if_pos c3] at H
  have c3b0 : decide (a1_3 < a0_3) = true:=decide_eq_true c3
  clear c3
  obtain rfl:=Option.some.inj H
  go_enter Try.func30,Try.ntmps30
  go_wp2_with (first|((with_reducible refine zbh (N:=2) rfl ?_);refine zbf ?hg (N:=2) ?hd (cs:=#[.string a0_0,.string a0_1,.string a0_2,.int .i64 a0_3,.int .i64 a0_4,.string a0_5,.int .i64 a0_6,.int .i64 a0_7,.int .i64 a0_8]) (t:=36) ?hr ?_;(case hd=>rfl);(case hg=>rfl);(case hr=>first|(go_simp;done)|(go_simp;rfl));intro gb177 hg w4 hbox hb;have n0_:=zac.mk (zao (by repeat (first|(with_reducible first|exact HB.out|apply zae|apply zab|apply zaf)|exact HB.out)) hb);have n1_:=zac.mk (hbox);have n2_:=zac.mk ((by rw [hg];exact (zam (by repeat (first|(with_reducible first|exact HB.out|apply zae|apply zab|apply zaf)|exact HB.out))) : w.heap.size ≤ gb177));have n3_:=zac.mk ((by rw [hg];exact (zam (by repeat (first|(with_reducible first|exact HB.out|apply zae|apply zab|apply zaf)|exact HB.out))) : w.heap.size ≤ gb177));clear HB;have HB:=n0_;have BK177:=n1_;have GW177:=n2_;have GE177:=n3_;clear n0_ n1_ n2_ n3_;clear hb hbox hg)|((with_reducible refine zbh (N:=3) rfl ?_);refine zbf ?hg (N:=3) ?hd (cs:=#[.string a1_0,.string a1_1,.string a1_2,.int .i64 a1_3,.int .i64 a1_4,.string a1_5,.int .i64 a1_6,.int .i64 a1_7,.int .i64 a1_8]) (t:=36) ?hr ?_;(case hd=>rfl);(case hg=>rfl);(case hr=>first|(go_simp;done)|(go_simp;rfl));intro gb178 hg w5 hbox hb;have n0_:=zac.mk (zat (g:=gb177) (o:=.cells #[.string a0_0,.string a0_1,.string a0_2,.int .i64 a0_3,.int .i64 a0_4,.string a0_5,.int .i64 a0_6,.int .i64 a0_7,.int .i64 a0_8] 36 (0,0)) (by (with_reducible repeat (first|refine zah ?_ _|refine zak ?_|refine zag ?_ _));exact BK177.out) hb);have n1_:=zac.mk (zao (by repeat (first|(with_reducible first|exact HB.out|apply zae|apply zab|apply zaf|refine zai ?_ GE177.out)|exact HB.out)) hb);have n2_:=zac.mk (hbox);have n3_:=zac.mk ((by rw [hg];exact (zam (by repeat (first|(with_reducible first|exact HB.out|apply zae|apply zab|apply zaf|refine zai ?_ GE177.out)|exact HB.out))) : w.heap.size ≤ gb178));have n4_:=zac.mk ((by rw [hg];exact (zam (by repeat (first|(with_reducible first|exact HB.out|apply zae|apply zab|apply zaf|refine zai ?_ GE177.out)|exact HB.out))) : w.heap.size ≤ gb178));have n5_:=zac.mk ((by rw [hg];exact Nat.ne_of_lt (zbq (g:=gb177) (o:=.cells #[.string a0_0,.string a0_1,.string a0_2,.int .i64 a0_3,.int .i64 a0_4,.string a0_5,.int .i64 a0_6,.int .i64 a0_7,.int .i64 a0_8] 36 (0,0)) (by (with_reducible repeat (first|refine zah ?_ _|refine zak ?_|refine zag ?_ _));exact BK177.out)) : gb177 ≠ gb178));have n6_:=zac.mk ((by rw [hg];exact Nat.ne_of_gt (zbq (g:=gb177) (o:=.cells #[.string a0_0,.string a0_1,.string a0_2,.int .i64 a0_3,.int .i64 a0_4,.string a0_5,.int .i64 a0_6,.int .i64 a0_7,.int .i64 a0_8] 36 (0,0)) (by (with_reducible repeat (first|refine zah ?_ _|refine zak ?_|refine zag ?_ _));exact BK177.out)) : gb178 ≠ gb177));clear BK177;clear HB;have BK177:=n0_;have HB:=n1_;have BK178:=n2_;have GW178:=n3_;have GE178:=n4_;have NB177_178:=n5_;have NB178_177:=n6_;clear n0_ n1_ n2_ n3_ n4_ n5_ n6_;clear hb hbox hg;have hnb6:=NB177_178.out;have hnc6:=NB178_177.out;have hcz7_0 : w5.cell? ⟨gb177,0,none⟩ = some (.string a0_0):=(zad BK177.out 0).trans rfl;have hcz7_1 : w5.cell? ⟨gb177,1,none⟩ = some (.string a0_1):=(zad BK177.out 1).trans rfl;have hcz7_2 : w5.cell? ⟨gb177,2,none⟩ = some (.string a0_2):=(zad BK177.out 2).trans rfl;have hcz7_3 : w5.cell? ⟨gb177,3,none⟩ = some (.int .i64 a0_3):=(zad BK177.out 3).trans rfl;have hcz7_4 : w5.cell? ⟨gb177,4,none⟩ = some (.int .i64 a0_4):=(zad BK177.out 4).trans rfl;have hcz7_5 : w5.cell? ⟨gb177,5,none⟩ = some (.string a0_5):=(zad BK177.out 5).trans rfl;have hcz7_6 : w5.cell? ⟨gb177,6,none⟩ = some (.int .i64 a0_6):=(zad BK177.out 6).trans rfl;have hcz7_7 : w5.cell? ⟨gb177,7,none⟩ = some (.int .i64 a0_7):=(zad BK177.out 7).trans rfl;have hcz7_8 : w5.cell? ⟨gb177,8,none⟩ = some (.int .i64 a0_8):=(zad BK177.out 8).trans rfl;have hfz7_0:=zaa BK177.out 0;have hfz7_1:=zaa BK177.out 1;have hfz7_2:=zaa BK177.out 2;have hfz7_3:=zaa BK177.out 3;have hfz7_4:=zaa BK177.out 4;have hfz7_5:=zaa BK177.out 5;have hfz7_6:=zaa BK177.out 6;have hfz7_7:=zaa BK177.out 7;have hfz7_8:=zaa BK177.out 8;have hcz8_0 : w5.cell? ⟨gb178,0,none⟩ = some (.string a1_0):=(zad BK178.out 0).trans rfl;have hcz8_1 : w5.cell? ⟨gb178,1,none⟩ = some (.string a1_1):=(zad BK178.out 1).trans rfl;have hcz8_2 : w5.cell? ⟨gb178,2,none⟩ = some (.string a1_2):=(zad BK178.out 2).trans rfl;have hcz8_3 : w5.cell? ⟨gb178,3,none⟩ = some (.int .i64 a1_3):=(zad BK178.out 3).trans rfl;have hcz8_4 : w5.cell? ⟨gb178,4,none⟩ = some (.int .i64 a1_4):=(zad BK178.out 4).trans rfl;have hcz8_5 : w5.cell? ⟨gb178,5,none⟩ = some (.string a1_5):=(zad BK178.out 5).trans rfl;have hcz8_6 : w5.cell? ⟨gb178,6,none⟩ = some (.int .i64 a1_6):=(zad BK178.out 6).trans rfl;have hcz8_7 : w5.cell? ⟨gb178,7,none⟩ = some (.int .i64 a1_7):=(zad BK178.out 7).trans rfl;have hcz8_8 : w5.cell? ⟨gb178,8,none⟩ = some (.int .i64 a1_8):=(zad BK178.out 8).trans rfl;have hfz8_0:=zaa BK178.out 0;have hfz8_1:=zaa BK178.out 1;have hfz8_2:=zaa BK178.out 2;have hfz8_3:=zaa BK178.out 3;have hfz8_4:=zaa BK178.out 4;have hfz8_5:=zaa BK178.out 5;have hfz8_6:=zaa BK178.out 6;have hfz8_7:=zaa BK178.out 7;have hfz8_8:=zaa BK178.out 8))
  go_ret
  exact ⟨by first|rfl|(simp [errW_none,errW_some] <;> rfl)|(simp [*,errW_none,errW_some] <;> rfl),by repeat (first|(with_reducible first|exact HB.out|apply zae|apply zab|apply zaf|refine zai ?_ GE177.out|refine zai ?_ GE178.out)|exact HB.out)⟩
 ·rw [if_neg c3] at H
  have c3b0 : decide (a1_3 < a0_3) = false:=decide_eq_false c3
  clear c3
  by_cases c9 : a0_3 = a1_3
  ·rw [if_pos c9] at H
   have c9b0 : (a0_3 == a1_3) = true:=beq_iff_eq.mpr c9
   have c9b1 : (a0_3 != a1_3) = false:=bne_eq_false_iff_eq.mpr c9
   clear c9
   obtain rfl:=Option.some.inj H
   go_enter Try.func30,Try.ntmps30
   go_wp2_with (first|((with_reducible refine zbh (N:=2) rfl ?_);refine zbf ?hg (N:=2) ?hd (cs:=#[.string a0_0,.string a0_1,.string a0_2,.int .i64 a0_3,.int .i64 a0_4,.string a0_5,.int .i64 a0_6,.int .i64 a0_7,.int .i64 a0_8]) (t:=36) ?hr ?_;(case hd=>rfl);(case hg=>rfl);(case hr=>first|(go_simp;done)|(go_simp;rfl));intro gb177 hg w10 hbox hb;have n0_:=zac.mk (zao (by repeat (first|(with_reducible first|exact HB.out|apply zae|apply zab|apply zaf)|exact HB.out)) hb);have n1_:=zac.mk (hbox);have n2_:=zac.mk ((by rw [hg];exact (zam (by repeat (first|(with_reducible first|exact HB.out|apply zae|apply zab|apply zaf)|exact HB.out))) : w.heap.size ≤ gb177));have n3_:=zac.mk ((by rw [hg];exact (zam (by repeat (first|(with_reducible first|exact HB.out|apply zae|apply zab|apply zaf)|exact HB.out))) : w.heap.size ≤ gb177));clear HB;have HB:=n0_;have BK177:=n1_;have GW177:=n2_;have GE177:=n3_;clear n0_ n1_ n2_ n3_;clear hb hbox hg)|((with_reducible refine zbh (N:=3) rfl ?_);refine zbf ?hg (N:=3) ?hd (cs:=#[.string a1_0,.string a1_1,.string a1_2,.int .i64 a1_3,.int .i64 a1_4,.string a1_5,.int .i64 a1_6,.int .i64 a1_7,.int .i64 a1_8]) (t:=36) ?hr ?_;(case hd=>rfl);(case hg=>rfl);(case hr=>first|(go_simp;done)|(go_simp;rfl));intro gb178 hg w11 hbox hb;have n0_:=zac.mk (zat (g:=gb177) (o:=.cells #[.string a0_0,.string a0_1,.string a0_2,.int .i64 a0_3,.int .i64 a0_4,.string a0_5,.int .i64 a0_6,.int .i64 a0_7,.int .i64 a0_8] 36 (0,0)) (by (with_reducible repeat (first|refine zah ?_ _|refine zak ?_|refine zag ?_ _));exact BK177.out) hb);have n1_:=zac.mk (zao (by repeat (first|(with_reducible first|exact HB.out|apply zae|apply zab|apply zaf|refine zai ?_ GE177.out)|exact HB.out)) hb);have n2_:=zac.mk (hbox);have n3_:=zac.mk ((by rw [hg];exact (zam (by repeat (first|(with_reducible first|exact HB.out|apply zae|apply zab|apply zaf|refine zai ?_ GE177.out)|exact HB.out))) : w.heap.size ≤ gb178));have n4_:=zac.mk ((by rw [hg];exact (zam (by repeat (first|(with_reducible first|exact HB.out|apply zae|apply zab|apply zaf|refine zai ?_ GE177.out)|exact HB.out))) : w.heap.size ≤ gb178));have n5_:=zac.mk ((by rw [hg];exact Nat.ne_of_lt (zbq (g:=gb177) (o:=.cells #[.string a0_0,.string a0_1,.string a0_2,.int .i64 a0_3,.int .i64 a0_4,.string a0_5,.int .i64 a0_6,.int .i64 a0_7,.int .i64 a0_8] 36 (0,0)) (by (with_reducible repeat (first|refine zah ?_ _|refine zak ?_|refine zag ?_ _));exact BK177.out)) : gb177 ≠ gb178));have n6_:=zac.mk ((by rw [hg];exact Nat.ne_of_gt (zbq (g:=gb177) (o:=.cells #[.string a0_0,.string a0_1,.string a0_2,.int .i64 a0_3,.int .i64 a0_4,.string a0_5,.int .i64 a0_6,.int .i64 a0_7,.int .i64 a0_8] 36 (0,0)) (by (with_reducible repeat (first|refine zah ?_ _|refine zak ?_|refine zag ?_ _));exact BK177.out)) : gb178 ≠ gb177));clear BK177;clear HB;have BK177:=n0_;have HB:=n1_;have BK178:=n2_;have GW178:=n3_;have GE178:=n4_;have NB177_178:=n5_;have NB178_177:=n6_;clear n0_ n1_ n2_ n3_ n4_ n5_ n6_;clear hb hbox hg;have hnb12:=NB177_178.out;have hnc12:=NB178_177.out;have hcz13_0 : w11.cell? ⟨gb177,0,none⟩ = some (.string a0_0):=(zad BK177.out 0).trans rfl;have hcz13_1 : w11.cell? ⟨gb177,1,none⟩ = some (.string a0_1):=(zad BK177.out 1).trans rfl;have hcz13_2 : w11.cell? ⟨gb177,2,none⟩ = some (.string a0_2):=(zad BK177.out 2).trans rfl;have hcz13_3 : w11.cell? ⟨gb177,3,none⟩ = some (.int .i64 a0_3):=(zad BK177.out 3).trans rfl;have hcz13_4 : w11.cell? ⟨gb177,4,none⟩ = some (.int .i64 a0_4):=(zad BK177.out 4).trans rfl;have hcz13_5 : w11.cell? ⟨gb177,5,none⟩ = some (.string a0_5):=(zad BK177.out 5).trans rfl;have hcz13_6 : w11.cell? ⟨gb177,6,none⟩ = some (.int .i64 a0_6):=(zad BK177.out 6).trans rfl;have hcz13_7 : w11.cell? ⟨gb177,7,none⟩ = some (.int .i64 a0_7):=(zad BK177.out 7).trans rfl;have hcz13_8 : w11.cell? ⟨gb177,8,none⟩ = some (.int .i64 a0_8):=(zad BK177.out 8).trans rfl;have hfz13_0:=zaa BK177.out 0;have hfz13_1:=zaa BK177.out 1;have hfz13_2:=zaa BK177.out 2;have hfz13_3:=zaa BK177.out 3;have hfz13_4:=zaa BK177.out 4;have hfz13_5:=zaa BK177.out 5;have hfz13_6:=zaa BK177.out 6;have hfz13_7:=zaa BK177.out 7;have hfz13_8:=zaa BK177.out 8;have hcz14_0 : w11.cell? ⟨gb178,0,none⟩ = some (.string a1_0):=(zad BK178.out 0).trans rfl;have hcz14_1 : w11.cell? ⟨gb178,1,none⟩ = some (.string a1_1):=(zad BK178.out 1).trans rfl;have hcz14_2 : w11.cell? ⟨gb178,2,none⟩ = some (.string a1_2):=(zad BK178.out 2).trans rfl;have hcz14_3 : w11.cell? ⟨gb178,3,none⟩ = some (.int .i64 a1_3):=(zad BK178.out 3).trans rfl;have hcz14_4 : w11.cell? ⟨gb178,4,none⟩ = some (.int .i64 a1_4):=(zad BK178.out 4).trans rfl;have hcz14_5 : w11.cell? ⟨gb178,5,none⟩ = some (.string a1_5):=(zad BK178.out 5).trans rfl;have hcz14_6 : w11.cell? ⟨gb178,6,none⟩ = some (.int .i64 a1_6):=(zad BK178.out 6).trans rfl;have hcz14_7 : w11.cell? ⟨gb178,7,none⟩ = some (.int .i64 a1_7):=(zad BK178.out 7).trans rfl;have hcz14_8 : w11.cell? ⟨gb178,8,none⟩ = some (.int .i64 a1_8):=(zad BK178.out 8).trans rfl;have hfz14_0:=zaa BK178.out 0;have hfz14_1:=zaa BK178.out 1;have hfz14_2:=zaa BK178.out 2;have hfz14_3:=zaa BK178.out 3;have hfz14_4:=zaa BK178.out 4;have hfz14_5:=zaa BK178.out 5;have hfz14_6:=zaa BK178.out 6;have hfz14_7:=zaa BK178.out 7;have hfz14_8:=zaa BK178.out 8))
   go_ret
   exact ⟨by first|rfl|(simp [errW_none,errW_some] <;> rfl)|(simp [*,errW_none,errW_some] <;> rfl),by repeat (first|(with_reducible first|exact HB.out|apply zae|apply zab|apply zaf|refine zai ?_ GE177.out|refine zai ?_ GE178.out)|exact HB.out)⟩
  ·rw [if_neg c9] at H
   have c9b0 : (a0_3 == a1_3) = false:=beq_eq_false_iff_ne.mpr c9
   have c9b1 : (a0_3 != a1_3) = true:=bne_iff_ne.mpr c9
   obtain rfl:=Option.some.inj H
   go_enter Try.func30,Try.ntmps30
   go_wp2_with (first|((with_reducible refine zbh (N:=2) rfl ?_);refine zbf ?hg (N:=2) ?hd (cs:=#[.string a0_0,.string a0_1,.string a0_2,.int .i64 a0_3,.int .i64 a0_4,.string a0_5,.int .i64 a0_6,.int .i64 a0_7,.int .i64 a0_8]) (t:=36) ?hr ?_;(case hd=>rfl);(case hg=>rfl);(case hr=>first|(go_simp;done)|(go_simp;rfl));intro gb177 hg w15 hbox hb;have n0_:=zac.mk (zao (by repeat (first|(with_reducible first|exact HB.out|apply zae|apply zab|apply zaf)|exact HB.out)) hb);have n1_:=zac.mk (hbox);have n2_:=zac.mk ((by rw [hg];exact (zam (by repeat (first|(with_reducible first|exact HB.out|apply zae|apply zab|apply zaf)|exact HB.out))) : w.heap.size ≤ gb177));have n3_:=zac.mk ((by rw [hg];exact (zam (by repeat (first|(with_reducible first|exact HB.out|apply zae|apply zab|apply zaf)|exact HB.out))) : w.heap.size ≤ gb177));clear HB;have HB:=n0_;have BK177:=n1_;have GW177:=n2_;have GE177:=n3_;clear n0_ n1_ n2_ n3_;clear hb hbox hg)|((with_reducible refine zbh (N:=3) rfl ?_);refine zbf ?hg (N:=3) ?hd (cs:=#[.string a1_0,.string a1_1,.string a1_2,.int .i64 a1_3,.int .i64 a1_4,.string a1_5,.int .i64 a1_6,.int .i64 a1_7,.int .i64 a1_8]) (t:=36) ?hr ?_;(case hd=>rfl);(case hg=>rfl);(case hr=>first|(go_simp;done)|(go_simp;rfl));intro gb178 hg w16 hbox hb;have n0_:=zac.mk (zat (g:=gb177) (o:=.cells #[.string a0_0,.string a0_1,.string a0_2,.int .i64 a0_3,.int .i64 a0_4,.string a0_5,.int .i64 a0_6,.int .i64 a0_7,.int .i64 a0_8] 36 (0,0)) (by (with_reducible repeat (first|refine zah ?_ _|refine zak ?_|refine zag ?_ _));exact BK177.out) hb);have n1_:=zac.mk (zao (by repeat (first|(with_reducible first|exact HB.out|apply zae|apply zab|apply zaf|refine zai ?_ GE177.out)|exact HB.out)) hb);have n2_:=zac.mk (hbox);have n3_:=zac.mk ((by rw [hg];exact (zam (by repeat (first|(with_reducible first|exact HB.out|apply zae|apply zab|apply zaf|refine zai ?_ GE177.out)|exact HB.out))) : w.heap.size ≤ gb178));have n4_:=zac.mk ((by rw [hg];exact (zam (by repeat (first|(with_reducible first|exact HB.out|apply zae|apply zab|apply zaf|refine zai ?_ GE177.out)|exact HB.out))) : w.heap.size ≤ gb178));have n5_:=zac.mk ((by rw [hg];exact Nat.ne_of_lt (zbq (g:=gb177) (o:=.cells #[.string a0_0,.string a0_1,.string a0_2,.int .i64 a0_3,.int .i64 a0_4,.string a0_5,.int .i64 a0_6,.int .i64 a0_7,.int .i64 a0_8] 36 (0,0)) (by (with_reducible repeat (first|refine zah ?_ _|refine zak ?_|refine zag ?_ _));exact BK177.out)) : gb177 ≠ gb178));have n6_:=zac.mk ((by rw [hg];exact Nat.ne_of_gt (zbq (g:=gb177) (o:=.cells #[.string a0_0,.string a0_1,.string a0_2,.int .i64 a0_3,.int .i64 a0_4,.string a0_5,.int .i64 a0_6,.int .i64 a0_7,.int .i64 a0_8] 36 (0,0)) (by (with_reducible repeat (first|refine zah ?_ _|refine zak ?_|refine zag ?_ _));exact BK177.out)) : gb178 ≠ gb177));clear BK177;clear HB;have BK177:=n0_;have HB:=n1_;have BK178:=n2_;have GW178:=n3_;have GE178:=n4_;have NB177_178:=n5_;have NB178_177:=n6_;clear n0_ n1_ n2_ n3_ n4_ n5_ n6_;clear hb hbox hg;have hnb17:=NB177_178.out;have hnc17:=NB178_177.out;have hcz18_0 : w16.cell? ⟨gb177,0,none⟩ = some (.string a0_0):=(zad BK177.out 0).trans rfl;have hcz18_1 : w16.cell? ⟨gb177,1,none⟩ = some (.string a0_1):=(zad BK177.out 1).trans rfl;have hcz18_2 : w16.cell? ⟨gb177,2,none⟩ = some (.string a0_2):=(zad BK177.out 2).trans rfl;have hcz18_3 : w16.cell? ⟨gb177,3,none⟩ = some (.int .i64 a0_3):=(zad BK177.out 3).trans rfl;have hcz18_4 : w16.cell? ⟨gb177,4,none⟩ = some (.int .i64 a0_4):=(zad BK177.out 4).trans rfl;have hcz18_5 : w16.cell? ⟨gb177,5,none⟩ = some (.string a0_5):=(zad BK177.out 5).trans rfl;have hcz18_6 : w16.cell? ⟨gb177,6,none⟩ = some (.int .i64 a0_6):=(zad BK177.out 6).trans rfl;have hcz18_7 : w16.cell? ⟨gb177,7,none⟩ = some (.int .i64 a0_7):=(zad BK177.out 7).trans rfl;have hcz18_8 : w16.cell? ⟨gb177,8,none⟩ = some (.int .i64 a0_8):=(zad BK177.out 8).trans rfl;have hfz18_0:=zaa BK177.out 0;have hfz18_1:=zaa BK177.out 1;have hfz18_2:=zaa BK177.out 2;have hfz18_3:=zaa BK177.out 3;have hfz18_4:=zaa BK177.out 4;have hfz18_5:=zaa BK177.out 5;have hfz18_6:=zaa BK177.out 6;have hfz18_7:=zaa BK177.out 7;have hfz18_8:=zaa BK177.out 8;have hcz19_0 : w16.cell? ⟨gb178,0,none⟩ = some (.string a1_0):=(zad BK178.out 0).trans rfl;have hcz19_1 : w16.cell? ⟨gb178,1,none⟩ = some (.string a1_1):=(zad BK178.out 1).trans rfl;have hcz19_2 : w16.cell? ⟨gb178,2,none⟩ = some (.string a1_2):=(zad BK178.out 2).trans rfl;have hcz19_3 : w16.cell? ⟨gb178,3,none⟩ = some (.int .i64 a1_3):=(zad BK178.out 3).trans rfl;have hcz19_4 : w16.cell? ⟨gb178,4,none⟩ = some (.int .i64 a1_4):=(zad BK178.out 4).trans rfl;have hcz19_5 : w16.cell? ⟨gb178,5,none⟩ = some (.string a1_5):=(zad BK178.out 5).trans rfl;have hcz19_6 : w16.cell? ⟨gb178,6,none⟩ = some (.int .i64 a1_6):=(zad BK178.out 6).trans rfl;have hcz19_7 : w16.cell? ⟨gb178,7,none⟩ = some (.int .i64 a1_7):=(zad BK178.out 7).trans rfl;have hcz19_8 : w16.cell? ⟨gb178,8,none⟩ = some (.int .i64 a1_8):=(zad BK178.out 8).trans rfl;have hfz19_0:=zaa BK178.out 0;have hfz19_1:=zaa BK178.out 1;have hfz19_2:=zaa BK178.out 2;have hfz19_3:=zaa BK178.out 3;have hfz19_4:=zaa BK178.out 4;have hfz19_5:=zaa BK178.out 5;have hfz19_6:=zaa BK178.out 6;have hfz19_7:=zaa BK178.out 7;have hfz19_8:=zaa BK178.out 8))
   go_ret
   exact ⟨by first|rfl|(simp [errW_none,errW_some] <;> rfl)|(simp [*,errW_none,errW_some] <;> rfl),by repeat (first|(with_reducible first|exact HB.out|apply zae|apply zab|apply zaf|refine zai ?_ GE177.out|refine zai ?_ GE178.out)|exact HB.out)⟩
end Go.Proofs.Ytepnddmalheoiaa.Q
