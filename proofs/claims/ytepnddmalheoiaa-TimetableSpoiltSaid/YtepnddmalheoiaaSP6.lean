/- For timetableSpoilt_holds: texts of this session and words of the kit's print, those alone that the proof uses. -/
import Derived.Test.YtepnddmalheoiaaProg
import Derived.Below
import Derived.Deep.Draws
import Derived.Deep.AppendLies
import Derived.Maps.AppendAt
import Derived.OwnWalk
import Derived.Laws.BytesArg
import Derived.Laws.MakeOwn
import Derived.Laws.OwnMore
import Derived.Deep.OwnRows
import Derived.Tactics
import Derived.Lib.ConvBytes
import Derived.Laws.Slices
import Derived.WalkKit
import Derived.KernelRfl
import Derived.RowKit3
import Derived.Deep.LoopGhost
import Derived.Deep.QuietTactic
import Derived.BigQuiet
import Derived.WideLaws
import Derived.Deep.DeepCutAuto
import Derived.Deep.CutBlock
import Derived.Deep.RegionHeld3
import Derived.Laws.Rows
import Derived.Lib.AppendStr
import Derived.ArgAppend
import Derived.Laws.IdiomCopy
import Derived.OrdersHeld
import Derived.Laws.BitsLemmas
import Derived.RowKit
import Derived.Deep.WholeRow
import Derived.Laws.ResultCell
import Derived.Lib.SlBytesConst
import Derived.Outline
import Derived.Laws.StructEq
import Derived.Test.YtepnddmalheoiaaSP0
import Derived.Test.YtepnddmalheoiaaSP1
import Derived.Test.YtepnddmalheoiaaSP2
import Derived.Test.YtepnddmalheoiaaSP3
import Derived.Test.YtepnddmalheoiaaSP4
import Derived.Test.YtepnddmalheoiaaSP5
set_option linter.unusedVariables false
set_option linter.unusedSimpArgs false
namespace Go.Proofs.Ytepnddmalheoiaa.Q
open Go.Proofs.Ytepnddmalheoiaa.H
open Go.RowKit Go.Proofs.YtepnddmalheoiaaW.PrintWords Go.Proofs.YtepnddmalheoiaaW.PrintLast Go.Proofs.YtepnddmalheoiaaW.PrintMore
attribute [local go_sem] str_leq str_geq str_gtr max2_int min2_int max_two min_two max_three min_three max_four min_four   -- for this text's walks alone
mutual
def zan.j0 : Nat → Bool → List (S42) → List (S39) → List (S36) → Option (Int)
 | 0,_,_,_,_=>none
 | k + 1,x26,x180000,x180001,x180002=>if x26 = true then (some 10) else (zan.l0 k x180000 (x180000.length : Int) 0 x180000 x180001 x180002)
def zan.l0 : Nat → List (S42) → Int → Int → List (S42) → List (S39) → List (S36) → Option (Int)
 | 0,_,_,_,_,_,_=>none
 | k + 1,x28,x29,x30,x180000,x180001,x180002=>if x30 < x29 then (if 0 ≤ x30 then (if x30 < (x28.length : Int) then ((zbk.f k ((zbi x28 x30).f0) ((zbi x28 x30).f1) ((zbi x28 x30).f2)).bind fun t182=>(if t182 = 0 then ((zbj.f k x180000 ((zbi x28 x30).f0)).bind fun t183=>(if t183 < x30 then (some 7) else (zan.l0 k x28 x29 (wrap64 (x30 + 1)) x180000 x180001 x180002))) else (some t182))) else (none)) else (none)) else (zan.l1 k (x180001.length : Int) 0 x180000 x180001 x180002)
def zan.l1 : Nat → Int → Int → List (S42) → List (S39) → List (S36) → Option (Int)
 | 0,_,_,_,_,_=>none
 | k + 1,x50,x51,x180000,x180001,x180002=>if x51 < x50 then ((timetable_checkAirport.f k x180000 x180001 x180002 x51).bind fun t184=>(if t184 = 0 then (zan.l1 k x50 (wrap64 (x51 + 1)) x180000 x180001 x180002) else (some t184))) else (zan.l2 k x180002 (x180002.length : Int) 0 x180000 x180001 x180002)
def zan.l2 : Nat → List (S36) → Int → Int → List (S42) → List (S39) → List (S36) → Option (Int)
 | 0,_,_,_,_,_,_=>none
 | k + 1,x62,x63,x64,x180000,x180001,x180002=>if x64 < x63 then (if 0 ≤ x64 then (if x64 < (x62.length : Int) then ((zau.f k x180000 x180001 x180002 ((zaj x62 x64).f0) ((zaj x62 x64).f1) ((zaj x62 x64).f2) ((zaj x62 x64).f3) ((zaj x62 x64).f4) ((zaj x62 x64).f5) ((zaj x62 x64).f6.f0) ((zaj x62 x64).f6.f1) ((zaj x62 x64).f6.f2)).bind fun t187=>(if t187 = 0 then (if x64 > 0 then (if 0 ≤ (wrap64 (x64 - 1)) then (if (wrap64 (x64 - 1)) < (x180002.length : Int) then ((timetable_after.f ((zaj x62 x64).f0) ((zaj x62 x64).f1) ((zaj x62 x64).f2) ((zaj x62 x64).f3) ((zaj x62 x64).f4) ((zaj x62 x64).f5) ((zaj x62 x64).f6.f0) ((zaj x62 x64).f6.f1) ((zaj x62 x64).f6.f2) ((zaj x180002 (wrap64 (x64 - 1))).f0) ((zaj x180002 (wrap64 (x64 - 1))).f1) ((zaj x180002 (wrap64 (x64 - 1))).f2) ((zaj x180002 (wrap64 (x64 - 1))).f3) ((zaj x180002 (wrap64 (x64 - 1))).f4) ((zaj x180002 (wrap64 (x64 - 1))).f5) ((zaj x180002 (wrap64 (x64 - 1))).f6.f0) ((zaj x180002 (wrap64 (x64 - 1))).f6.f1) ((zaj x180002 (wrap64 (x64 - 1))).f6.f2)).bind fun t189=>(if t189 = true then (zan.l2 k x62 x63 (wrap64 (x64 + 1)) x180000 x180001 x180002) else (some 8))) else (none)) else (none)) else (zan.l2 k x62 x63 (wrap64 (x64 + 1)) x180000 x180001 x180002)) else (some t187))) else (none)) else (none)) else (some 0)
end
def zan.f (k : Nat) (l0_0 : List (S42)) (l0_1 : List (S39)) (l0_2 : List (S36)) : Option (Int):=if (l0_0.length : Int) > 16 then (zan.j0 k true l0_0 l0_1 l0_2) else (if (l0_1.length : Int) > 64 then (zan.j0 k true l0_0 l0_1 l0_2) else (zan.j0 k (decide ((l0_2.length : Int) > 200)) l0_0 l0_1 l0_2))
def zan.T25 : Bool × List (List Nat × List Nat):=(true,[([],[]),([0],[0]),([1],[1]),([2],[2]),([2],[2]),([4,2],[2,4]),([2],[2]),([6,2],[2,6]),([5,7,2],[2,5,7]),([8,2],[2,8]),([3,9,2,2],[2,3,9]),([10,2],[2,10]),([2,11],[2,11])])
def zan.B25 : List Nat:=[0,1,3,7,7,23,7,71,247,503,1023,2047,4095]
theorem zan.tab25 : rtab .any (opsOf Try.f11 25) = zan.T25:=by kernel_rfl
theorem zan.bits25 : waitsOk zan.T25.2 zan.B25 = true:=by kernel_rfl
set_option maxHeartbeats 8000000 in
set_option maxRecDepth 100000 in
theorem zan.calls (k : Nat) (A0_0 : Option Addr) (c0_0 : Nat) (l0_0 : List (S42)) (A0_1 : Option Addr) (c0_1 : Nat) (l0_1 : List (S39)) (A0_2 : Option Addr) (c0_2 : Nat) (l0_2 : List (S36)) (r : Int) (w : World) (hr0_0 : Kd.C k42 w A0_0 l0_0.length l0_0) (hc0_0 : l0_0.length ≤ c0_0) (hr0_1 : Kd.C k39 w A0_1 l0_1.length l0_1) (hc0_1 : l0_1.length ≤ c0_1) (hr0_2 : Kd.C k36 w A0_2 l0_2.length l0_2) (hc0_2 : l0_2.length ≤ c0_2) (h : zan.f k l0_0 l0_1 l0_2 = some r) :
  Calls Try.prog 11 #[.agg #[.slice A0_0 l0_0.length c0_0,.slice A0_1 l0_1.length c0_1,.slice A0_2 l0_2.length c0_2]] w fun e w'=>e = .returned (.int .i64 r) ∧ Below w.heap.size w w':=by
 have hu26:=Try.underlying26
 have hu42:=Try.underlying42
 have hu36:=Try.underlying36
 have HR0_0:=zac.mk hr0_0
 have HC0_0:=zac.mk hc0_0
 clear hr0_0 hc0_0
 have HR0_1:=zac.mk hr0_1
 have HC0_1:=zac.mk hc0_1
 clear hr0_1 hc0_1
 have HR0_2:=zac.mk hr0_2
 have HC0_2:=zac.mk hc0_2
 clear hr0_2 hc0_2
 have HB:=zac.mk (Below.refl w.heap.size w)
 have H : (if (l0_0.length : Int) > 16 then (zan.j0 k true l0_0 l0_1 l0_2) else (if (l0_1.length : Int) > 64 then (zan.j0 k true l0_0 l0_1 l0_2) else (zan.j0 k (decide ((l0_2.length : Int) > 200)) l0_0 l0_1 l0_2))) = some r:=h
 clear h
 have HC2:=zac.mk H
 clear H
 go_enter Try.func11,Try.ntmps11
 go_upto_region 1 with (first|((with_reducible refine zbh (N:=1) rfl ?_);(try (refine zci (by rfl) ?_;dsimp only));refine zbf ?hg (N:=1) ?hd (cs:=#[.slice A0_0 l0_0.length c0_0,.slice A0_1 l0_1.length c0_1,.slice A0_2 l0_2.length c0_2]) (t:=26) ?hr ?_;(case hd=>rfl);(case hg=>rfl);(case hr=>first|(go_simp;done)|(go_simp;rfl));intro gb179 hg w3 hbox hb;have n0_:=zac.mk (zao (by repeat (first|(with_reducible first|exact HB.out|apply zae|apply zab|apply zaf)|exact HB.out)) hb);have n1_:=zac.mk (hbox);have n2_:=zac.mk ((by rw [hg];exact (zam (by repeat (first|(with_reducible first|exact HB.out|apply zae|apply zab|apply zaf)|exact HB.out))) : w.heap.size ≤ gb179));have n3_:=zac.mk ((by rw [hg];exact (zam (by repeat (first|(with_reducible first|exact HB.out|apply zae|apply zab|apply zaf)|exact HB.out))) : w.heap.size ≤ gb179));clear HB;have HB:=n0_;have BK179:=n1_;have GW179:=n2_;have GE179:=n3_;clear n0_ n1_ n2_ n3_;clear hb hbox hg))
 (try simp only [Act.put,List.setIfInBounds_toArray,List.set_cons_zero,List.set_cons_succ])
 go_cut [26] (fun v26 wc=>∃ (kq : Nat) (x26_1 : Bool),v26 = .bool x26_1 ∧ zac (zan.j0 kq x26_1 l0_0 l0_1 l0_2 = some r) ∧ zac (kq ≤ k) ∧ zac (wc.heap[gb179]? = some (.cells #[(.slice A0_0 l0_0.length c0_0),(.slice A0_1 l0_1.length c0_1),(.slice A0_2 l0_2.length c0_2)] 26 (0,0))) ∧ zac (Below w.heap.size w wc))
 case first =>
  have H:=HC2.out
  clear HC2
  by_cases c4 : (l0_0.length : Int) > 16
  ·rw [if_pos c4] at H
   have c4b0 : decide (16 < (l0_0.length : Int)) = true:=decide_eq_true c4
   have c4b1 : decide (16 < l0_0.length) = true:=decide_eq_true (by omega)
   clear c4
   (first|rw [c4b0]|(simp only [i64_w,i32_w];rw [c4b0])|skip)
   have H':=zac.mk H
   clear H
   have hcz5_0 : w3.cell? ⟨gb179,0,none⟩ = some (.slice A0_0 l0_0.length c0_0):=(zad BK179.out 0).trans rfl
   have hcz5_1 : w3.cell? ⟨gb179,1,none⟩ = some (.slice A0_1 l0_1.length c0_1):=(zad BK179.out 1).trans rfl
   have hcz5_2 : w3.cell? ⟨gb179,2,none⟩ = some (.slice A0_2 l0_2.length c0_2):=(zad BK179.out 2).trans rfl
   have hfz5_0:=zaa BK179.out 0
   have hfz5_1:=zaa BK179.out 1
   have hfz5_2:=zaa BK179.out 2
   go_wp2
   go_meet
   case rel=>exact ⟨_,(true),(by first|rfl|(simp;done)|(simp [*];done)),H',⟨by first|omega|exact Nat.le_refl _⟩,⟨by (with_reducible repeat (first|refine zah ?_ _|refine zak ?_|refine zag ?_ _));exact BK179.out⟩,⟨by repeat (first|(with_reducible first|exact HB.out|apply zae|apply zab|apply zaf|refine zai ?_ GE179.out)|exact HB.out)⟩⟩
  ·rw [if_neg c4] at H
   have c4b0 : decide (16 < (l0_0.length : Int)) = false:=decide_eq_false c4
   have c4b1 : decide (16 < l0_0.length) = false:=decide_eq_false (by omega)
   clear c4
   (first|rw [c4b0]|(simp only [i64_w,i32_w];rw [c4b0])|skip)
   by_cases c6 : (l0_1.length : Int) > 64
   ·rw [if_pos c6] at H
    have c6b0 : decide (64 < (l0_1.length : Int)) = true:=decide_eq_true c6
    have c6b1 : decide (64 < l0_1.length) = true:=decide_eq_true (by omega)
    clear c6
    have H':=zac.mk H
    clear H
    have hcz7_0 : w3.cell? ⟨gb179,0,none⟩ = some (.slice A0_0 l0_0.length c0_0):=(zad BK179.out 0).trans rfl
    have hcz7_1 : w3.cell? ⟨gb179,1,none⟩ = some (.slice A0_1 l0_1.length c0_1):=(zad BK179.out 1).trans rfl
    have hcz7_2 : w3.cell? ⟨gb179,2,none⟩ = some (.slice A0_2 l0_2.length c0_2):=(zad BK179.out 2).trans rfl
    have hfz7_0:=zaa BK179.out 0
    have hfz7_1:=zaa BK179.out 1
    have hfz7_2:=zaa BK179.out 2
    go_wp2
    go_meet
    case rel=>exact ⟨_,(true),(by first|rfl|(simp;done)|(simp [*];done)),H',⟨by first|omega|exact Nat.le_refl _⟩,⟨by (with_reducible repeat (first|refine zah ?_ _|refine zak ?_|refine zag ?_ _));exact BK179.out⟩,⟨by repeat (first|(with_reducible first|exact HB.out|apply zae|apply zab|apply zaf|refine zai ?_ GE179.out)|exact HB.out)⟩⟩
   ·rw [if_neg c6] at H
    have c6b0 : decide (64 < (l0_1.length : Int)) = false:=decide_eq_false c6
    have c6b1 : decide (64 < l0_1.length) = false:=decide_eq_false (by omega)
    clear c6
    have H':=zac.mk H
    clear H
    have hcz8_0 : w3.cell? ⟨gb179,0,none⟩ = some (.slice A0_0 l0_0.length c0_0):=(zad BK179.out 0).trans rfl
    have hcz8_1 : w3.cell? ⟨gb179,1,none⟩ = some (.slice A0_1 l0_1.length c0_1):=(zad BK179.out 1).trans rfl
    have hcz8_2 : w3.cell? ⟨gb179,2,none⟩ = some (.slice A0_2 l0_2.length c0_2):=(zad BK179.out 2).trans rfl
    have hfz8_0:=zaa BK179.out 0
    have hfz8_1:=zaa BK179.out 1
    have hfz8_2:=zaa BK179.out 2
    go_wp2
    go_meet
    case rel=>exact ⟨_,(decide ((l0_2.length : Int) > 200)),(by first|rfl|(simp;done)|(simp [*];done)),H',⟨by first|omega|exact Nat.le_refl _⟩,⟨by (with_reducible repeat (first|refine zah ?_ _|refine zak ?_|refine zag ?_ _));exact BK179.out⟩,⟨by repeat (first|(with_reducible first|exact HB.out|apply zae|apply zab|apply zaf|refine zai ?_ GE179.out)|exact HB.out)⟩⟩
 case rest =>
  clear HC2
  obtain ⟨kq,x26_1,rfl,HA,HJ1,BK179,HB⟩:=hcut
  cases kq with
  | zero=>exact absurd HA.out (by simp [zan.j0])
  | succ kj1 =>
   have H:=HA.out
   clear HA
   simp only [zan.j0] at H
   by_cases c9 : x26_1 = true
   ·subst c9
    have H1 : (some 10) = some r:=by rw [if_pos rfl] at H;exact H
    clear H
    have H:=H1
    clear H1
    obtain rfl:=Option.some.inj H
    go_wp2
    go_ret
    exact ⟨by first|rfl|(simp [errW_none,errW_some] <;> rfl)|(simp [*,errW_none,errW_some] <;> rfl),by repeat (first|(with_reducible first|exact HB.out|apply zae|apply zab|apply zaf|refine zai ?_ GE179.out)|exact HB.out)⟩
   ·replace c9:=Bool.eq_false_iff.mpr c9
    subst c9
    have H1 : (zan.l0 kj1 l0_0 (l0_0.length : Int) 0 l0_0 l0_1 l0_2) = some r:=by rw [if_neg (show ¬ (false = true) by decide)] at H;exact H
    clear H
    have H:=H1
    clear H1
    have H':=zac.mk H
    clear H
    have hcz10_0 : wc.cell? ⟨gb179,0,none⟩ = some (.slice A0_0 l0_0.length c0_0):=(zad BK179.out 0).trans rfl
    have hcz10_1 : wc.cell? ⟨gb179,1,none⟩ = some (.slice A0_1 l0_1.length c0_1):=(zad BK179.out 1).trans rfl
    have hcz10_2 : wc.cell? ⟨gb179,2,none⟩ = some (.slice A0_2 l0_2.length c0_2):=(zad BK179.out 2).trans rfl
    have hfz10_0:=zaa BK179.out 0
    have hfz10_1:=zaa BK179.out 1
    have hfz10_2:=zaa BK179.out 2
    go_wp2
    go_loopg [30] kj1 (fun kq v30 w'=>∃ (x30_2 : Int),v30 = .int .i64 x30_2 ∧ zac (zan.l0 kq l0_0 (l0_0.length : Int) x30_2 l0_0 l0_1 l0_2 = some r) ∧ zac (kq ≤ kj1) ∧ zac (w'.heap[gb179]? = some (.cells #[(.slice A0_0 l0_0.length c0_0),(.slice A0_1 l0_1.length c0_1),(.slice A0_2 l0_2.length c0_2)] 26 (0,0))) ∧ zac (Below w.heap.size w w'))
    case atStart=>exact ⟨(0),(by first|rfl|(simp;done)|(simp [*];done)),H',⟨Nat.le_refl _⟩,⟨by (with_reducible repeat (first|refine zah ?_ _|refine zak ?_|refine zag ?_ _));exact BK179.out⟩,⟨by repeat (first|(with_reducible first|exact HB.out|apply zae|apply zab|apply zaf|refine zai ?_ GE179.out)|exact HB.out)⟩⟩
    case round =>
     clear H'
     try clear c9
     try clear hcz10_0
     try clear hcz10_1
     try clear hcz10_2
     try clear hfz10_0
     try clear hfz10_1
     try clear hfz10_2
     obtain ⟨x30_2,rfl,HA,HK2,BK179,HB⟩:=hrel
     cases gk with
     | zero=>exact absurd HA.out (by simp [zan.l0])
     | succ k2 =>
      have H:=HA.out
      clear HA
      simp only [zan.l0] at H
      by_cases c11 : x30_2 < (l0_0.length : Int)
      ·rw [if_pos c11] at H
       have c11b0 : decide (x30_2 < (l0_0.length : Int)) = true:=decide_eq_true c11
       clear c11
       by_cases c12 : 0 ≤ x30_2
       ·rw [if_pos c12] at H
        have c12b0 : decide (0 ≤ x30_2) = true:=decide_eq_true c12
        clear c12
        by_cases c13 : x30_2 < (l0_0.length : Int)
        ·rw [if_pos c13] at H
         have c13b0 : decide (x30_2 < (l0_0.length : Int)) = true:=decide_eq_true c13
         clear c13
         replace H:=Option.bind_eq_some_iff.mp H
         obtain ⟨t182,A140,H⟩:=H
         replace H : (if t182 = 0 then ((zbj.f k2 l0_0 ((zbi l0_0 x30_2).f0)).bind fun t183=>(if t183 < x30_2 then (some 7) else (zan.l0 k2 l0_0 (l0_0.length : Int) (wrap64 (x30_2 + 1)) l0_0 l0_1 l0_2))) else (some t182)) = some r:=H
         have A14:=zac.mk A140
         clear A140
         by_cases c15 : t182 = 0
         ·rw [if_pos c15] at H
          have c15b0 : (t182 == 0) = true:=beq_iff_eq.mpr c15
          have c15b1 : (t182 != 0) = false:=bne_eq_false_iff_eq.mpr c15
          clear c15
          replace H:=Option.bind_eq_some_iff.mp H
          obtain ⟨t183,A160,H⟩:=H
          replace H : (if t183 < x30_2 then (some 7) else (zan.l0 k2 l0_0 (l0_0.length : Int) (wrap64 (x30_2 + 1)) l0_0 l0_1 l0_2)) = some r:=H
          have A16:=zac.mk A160
          clear A160
          by_cases c17 : t183 < x30_2
          ·rw [if_pos c17] at H
           have c17b0 : decide (t183 < x30_2) = true:=decide_eq_true c17
           clear c17
           obtain rfl:=Option.some.inj H
           have p180 : 0 ≤ (x30_2 : Int):=of_decide_eq_true (by first|(with_reducible assumption)|assumption)
           have q180 : x30_2 < (l0_0.length : Int):=of_decide_eq_true (by first|(with_reducible assumption)|assumption)
           obtain ⟨ad180,A180_2,c180_2,e180,hx180_0,hx180_1,hx180_2,hl180_2,hi180_2⟩:=at_T42 HR0_0.out x30_2 p180 q180
           cases e180
           replace hx180_0:=(HB.out.cell (World.block_lt_of_cell? w _ hx180_0)).trans hx180_0
           replace hx180_1:=(HB.out.cell (World.block_lt_of_cell? w _ hx180_1)).trans hx180_1
           replace hx180_2:=(HB.out.cell (World.block_lt_of_cell? w _ hx180_2)).trans hx180_2
           have HR180_2:=zac.mk hi180_2
           have HC180_2:=zac.mk hl180_2
           clear hi180_2 hl180_2
           replace p180:=eq_true p180
           replace q180:=eq_true q180
           go_wp2_with (first|((with_reducible refine zbh (N:=4) rfl ?_);(try (refine zci (by rfl) ?_;dsimp only));refine zbf ?hg (N:=4) ?hd (cs:=#[.string (⟨#[]⟩ : ByteArray),.int .i64 0,.slice none 0 0]) (t:=42) ?hr ?_;(case hd=>rfl);(case hg=>rfl);(case hr=>first|(go_simp;done)|(go_simp;rfl));intro gb181 hg w18 hbox hb;have n0_:=zac.mk (zat (g:=gb179) (o:=.cells #[.slice (some ad180) l0_0.length c0_0,.slice A0_1 l0_1.length c0_1,.slice A0_2 l0_2.length c0_2] 26 (0,0)) (by (with_reducible repeat (first|refine zah ?_ _|refine zak ?_|refine zag ?_ _));exact BK179.out) hb);have n1_:=zac.mk (zao (by repeat (first|(with_reducible first|exact HB.out|apply zae|apply zab|apply zaf|refine zai ?_ GE179.out)|exact HB.out)) hb);have n2_:=zac.mk (hbox);have n3_:=zac.mk ((by rw [hg];exact (zam (by repeat (first|(with_reducible first|exact HB.out|apply zae|apply zab|apply zaf|refine zai ?_ GE179.out)|exact HB.out))) : w.heap.size ≤ gb181));have n4_:=zac.mk ((by rw [hg];exact (zam (by repeat (first|(with_reducible first|exact HB.out|apply zae|apply zab|apply zaf|refine zai ?_ GE179.out)|exact HB.out))) : w.heap.size ≤ gb181));have n5_:=zac.mk ((by rw [hg];exact Nat.ne_of_lt (zbq (g:=gb179) (o:=.cells #[.slice (some ad180) l0_0.length c0_0,.slice A0_1 l0_1.length c0_1,.slice A0_2 l0_2.length c0_2] 26 (0,0)) (by (with_reducible repeat (first|refine zah ?_ _|refine zak ?_|refine zag ?_ _));exact BK179.out)) : gb179 ≠ gb181));have n6_:=zac.mk ((by rw [hg];exact Nat.ne_of_gt (zbq (g:=gb179) (o:=.cells #[.slice (some ad180) l0_0.length c0_0,.slice A0_1 l0_1.length c0_1,.slice A0_2 l0_2.length c0_2] 26 (0,0)) (by (with_reducible repeat (first|refine zah ?_ _|refine zak ?_|refine zag ?_ _));exact BK179.out)) : gb181 ≠ gb179));clear BK179;clear HB;have BK179:=n0_;have HB:=n1_;have BK181:=n2_;have GW181:=n3_;have GE181:=n4_;have NB179_181:=n5_;have NB181_179:=n6_;clear n0_ n1_ n2_ n3_ n4_ n5_ n6_;clear hb hbox hg;have hnb19:=NB181_179.out;have hnc19:=NB179_181.out;have hcz20_0 : w18.cell? ⟨gb181,0,none⟩ = some (.string (⟨#[]⟩ : ByteArray)):=(zad BK181.out 0).trans rfl;have hcz20_1 : w18.cell? ⟨gb181,1,none⟩ = some (.int .i64 0):=(zad BK181.out 1).trans rfl;have hcz20_2 : w18.cell? ⟨gb181,2,none⟩ = some (.slice none 0 0):=(zad BK181.out 2).trans rfl;have hfz20_0:=zaa BK181.out 0;have hfz20_1:=zaa BK181.out 1;have hfz20_2:=zaa BK181.out 2)|((with_reducible refine zbe (f:=26) rfl ?_);refine zce (some 36) rfl rfl Try.func26 (by kernel_rfl) rfl #[.agg #[.string ((zbi l0_0 x30_2).f0),.int .i64 ((zbi l0_0 x30_2).f1),.slice A180_2 ((zbi l0_0 x30_2).f2).length c180_2]] rfl (by (try simp only [List.map_toArray,List.map_cons,List.map_nil]);first|done|rfl|(simp only [List.length_drop,List.length_take];rfl)) ?_;(with_reducible refine (zbk.calls k2 ((zbi l0_0 x30_2).f0) ((zbi l0_0 x30_2).f1) _ _ ((zbi l0_0 x30_2).f2) t182 _ ?side1 ?side2 A14.out).mono ?_);(case side1=>exact Kd.C_below HR180_2.out (by repeat (first|(with_reducible first|exact HB.out|apply zae|apply zab|apply zaf|refine zai ?_ GE179.out|refine zai ?_ GE181.out)|exact HB.out)));(case side2=>exact HC180_2.out);rintro e w21 ⟨rfl,hb⟩;refine ⟨_,rfl,?_⟩;have n0_:=zac.mk (zat (g:=gb179) (o:=.cells #[.slice (some ad180) l0_0.length c0_0,.slice A0_1 l0_1.length c0_1,.slice A0_2 l0_2.length c0_2] 26 (0,0)) (by (with_reducible repeat (first|refine zah ?_ _|refine zak ?_|refine zag ?_ _));refine zaz ?_ NB179_181.out _;(with_reducible repeat (first|refine zah ?_ _|refine zak ?_|refine zag ?_ _));refine zaz ?_ NB179_181.out _;(with_reducible repeat (first|refine zah ?_ _|refine zak ?_|refine zag ?_ _));refine zaz ?_ NB179_181.out _;(with_reducible repeat (first|refine zah ?_ _|refine zak ?_|refine zag ?_ _));exact BK179.out) hb);have n1_:=zac.mk (zat (g:=gb181) (o:=.cells #[.string ((zbi l0_0 x30_2).f0),.int .i64 ((zbi l0_0 x30_2).f1),.slice A180_2 ((zbi l0_0 x30_2).f2).length c180_2] 42 (0,0)) (by (with_reducible repeat (first|refine zah ?_ _|refine zak ?_|refine zag ?_ _));refine zaw (cs:=#[.string ((zbi l0_0 x30_2).f0),.int .i64 ((zbi l0_0 x30_2).f1),.slice none 0 0]) ?_ 2 _ rfl;(with_reducible repeat (first|refine zah ?_ _|refine zak ?_|refine zag ?_ _));refine zaw (cs:=#[.string ((zbi l0_0 x30_2).f0),.int .i64 0,.slice none 0 0]) ?_ 1 _ rfl;(with_reducible repeat (first|refine zah ?_ _|refine zak ?_|refine zag ?_ _));refine zaw (cs:=#[.string (⟨#[]⟩ : ByteArray),.int .i64 0,.slice none 0 0]) ?_ 0 _ rfl;(with_reducible repeat (first|refine zah ?_ _|refine zak ?_|refine zag ?_ _));exact BK181.out) hb);have n2_:=zac.mk (zao (by repeat (first|(with_reducible first|exact HB.out|apply zae|apply zab|apply zaf|refine zai ?_ GE179.out|refine zai ?_ GE181.out)|exact HB.out)) hb);clear BK179;clear BK181;clear HB;have BK179:=n0_;have BK181:=n1_;have HB:=n2_;clear n0_ n1_ n2_;(try clear hb);(try clear hb2);(try clear hk);(try clear hi);have hcz22_0 : w21.cell? ⟨gb179,0,none⟩ = some (.slice (some ad180) l0_0.length c0_0):=(zad BK179.out 0).trans rfl;have hcz22_1 : w21.cell? ⟨gb179,1,none⟩ = some (.slice A0_1 l0_1.length c0_1):=(zad BK179.out 1).trans rfl;have hcz22_2 : w21.cell? ⟨gb179,2,none⟩ = some (.slice A0_2 l0_2.length c0_2):=(zad BK179.out 2).trans rfl;have hfz22_0:=zaa BK179.out 0;have hfz22_1:=zaa BK179.out 1;have hfz22_2:=zaa BK179.out 2;have hcz23_0 : w21.cell? ⟨gb181,0,none⟩ = some (.string ((zbi l0_0 x30_2).f0)):=(zad BK181.out 0).trans rfl;have hcz23_1 : w21.cell? ⟨gb181,1,none⟩ = some (.int .i64 ((zbi l0_0 x30_2).f1)):=(zad BK181.out 1).trans rfl;have hcz23_2 : w21.cell? ⟨gb181,2,none⟩ = some (.slice A180_2 ((zbi l0_0 x30_2).f2).length c180_2):=(zad BK181.out 2).trans rfl;have hfz23_0:=zaa BK181.out 0;have hfz23_1:=zaa BK181.out 1;have hfz23_2:=zaa BK181.out 2)|((with_reducible refine zbe (f:=27) rfl ?_);refine zce (some 44) rfl rfl Try.func27 (by kernel_rfl) rfl #[.slice (some ad180) l0_0.length c0_0,.string ((zbi l0_0 x30_2).f0)] rfl (by (try simp only [List.map_toArray,List.map_cons,List.map_nil]);first|done|rfl|(simp only [List.length_drop,List.length_take];rfl)) ?_;(with_reducible refine (zbj.calls k2 _ _ l0_0 ((zbi l0_0 x30_2).f0) t183 _ ?side1 ?side2 A16.out).mono ?_);(case side1=>repeat (first|exact (Kd.C_below HR0_0.out HB.out)|(with_reducible refine Kd.C_alloc ?_ _)|(with_reducible refine Kd.C_drewN ?_ _)|(with_reducible refine Kd.C_drew ?_)));(case side2=>exact HC0_0.out);rintro e w24 ⟨rfl,hb⟩;refine ⟨_,rfl,?_⟩;have n0_:=zac.mk (zat (g:=gb179) (o:=.cells #[.slice (some ad180) l0_0.length c0_0,.slice A0_1 l0_1.length c0_1,.slice A0_2 l0_2.length c0_2] 26 (0,0)) (by (with_reducible repeat (first|refine zah ?_ _|refine zak ?_|refine zag ?_ _));exact BK179.out) hb);have n1_:=zac.mk (zat (g:=gb181) (o:=.cells #[.string ((zbi l0_0 x30_2).f0),.int .i64 ((zbi l0_0 x30_2).f1),.slice A180_2 ((zbi l0_0 x30_2).f2).length c180_2] 42 (0,0)) (by (with_reducible repeat (first|refine zah ?_ _|refine zak ?_|refine zag ?_ _));exact BK181.out) hb);have n2_:=zac.mk (zao (by repeat (first|(with_reducible first|exact HB.out|apply zae|apply zab|apply zaf|refine zai ?_ GE179.out|refine zai ?_ GE181.out)|exact HB.out)) hb);clear BK179;clear BK181;clear HB;have BK179:=n0_;have BK181:=n1_;have HB:=n2_;clear n0_ n1_ n2_;(try clear hb);(try clear hb2);(try clear hk);(try clear hi)))
           go_ret
           exact ⟨by first|rfl|(simp [errW_none,errW_some] <;> rfl)|(simp [*,errW_none,errW_some] <;> rfl),by repeat (first|(with_reducible first|exact HB.out|apply zae|apply zab|apply zaf|refine zai ?_ GE179.out|refine zai ?_ GE181.out)|exact HB.out)⟩
          ·rw [if_neg c17] at H
           have c17b0 : decide (t183 < x30_2) = false:=decide_eq_false c17
           clear c17
           have H':=zac.mk H
           clear H
           have p180 : 0 ≤ (x30_2 : Int):=of_decide_eq_true (by first|(with_reducible assumption)|assumption)
           have q180 : x30_2 < (l0_0.length : Int):=of_decide_eq_true (by first|(with_reducible assumption)|assumption)
           obtain ⟨ad180,A180_2,c180_2,e180,hx180_0,hx180_1,hx180_2,hl180_2,hi180_2⟩:=at_T42 HR0_0.out x30_2 p180 q180
           cases e180
           replace hx180_0:=(HB.out.cell (World.block_lt_of_cell? w _ hx180_0)).trans hx180_0
           replace hx180_1:=(HB.out.cell (World.block_lt_of_cell? w _ hx180_1)).trans hx180_1
           replace hx180_2:=(HB.out.cell (World.block_lt_of_cell? w _ hx180_2)).trans hx180_2
           have HR180_2:=zac.mk hi180_2
           have HC180_2:=zac.mk hl180_2
           clear hi180_2 hl180_2
           replace p180:=eq_true p180
           replace q180:=eq_true q180
           go_wp2_with (first|((with_reducible refine zbh (N:=4) rfl ?_);(try (refine zci (by rfl) ?_;dsimp only));refine zbf ?hg (N:=4) ?hd (cs:=#[.string (⟨#[]⟩ : ByteArray),.int .i64 0,.slice none 0 0]) (t:=42) ?hr ?_;(case hd=>rfl);(case hg=>rfl);(case hr=>first|(go_simp;done)|(go_simp;rfl));intro gb181 hg w25 hbox hb;have n0_:=zac.mk (zat (g:=gb179) (o:=.cells #[.slice (some ad180) l0_0.length c0_0,.slice A0_1 l0_1.length c0_1,.slice A0_2 l0_2.length c0_2] 26 (0,0)) (by (with_reducible repeat (first|refine zah ?_ _|refine zak ?_|refine zag ?_ _));exact BK179.out) hb);have n1_:=zac.mk (zao (by repeat (first|(with_reducible first|exact HB.out|apply zae|apply zab|apply zaf|refine zai ?_ GE179.out)|exact HB.out)) hb);have n2_:=zac.mk (hbox);have n3_:=zac.mk ((by rw [hg];exact (zam (by repeat (first|(with_reducible first|exact HB.out|apply zae|apply zab|apply zaf|refine zai ?_ GE179.out)|exact HB.out))) : w.heap.size ≤ gb181));have n4_:=zac.mk ((by rw [hg];exact (zam (by repeat (first|(with_reducible first|exact HB.out|apply zae|apply zab|apply zaf|refine zai ?_ GE179.out)|exact HB.out))) : w.heap.size ≤ gb181));have n5_:=zac.mk ((by rw [hg];exact Nat.ne_of_lt (zbq (g:=gb179) (o:=.cells #[.slice (some ad180) l0_0.length c0_0,.slice A0_1 l0_1.length c0_1,.slice A0_2 l0_2.length c0_2] 26 (0,0)) (by (with_reducible repeat (first|refine zah ?_ _|refine zak ?_|refine zag ?_ _));exact BK179.out)) : gb179 ≠ gb181));have n6_:=zac.mk ((by rw [hg];exact Nat.ne_of_gt (zbq (g:=gb179) (o:=.cells #[.slice (some ad180) l0_0.length c0_0,.slice A0_1 l0_1.length c0_1,.slice A0_2 l0_2.length c0_2] 26 (0,0)) (by (with_reducible repeat (first|refine zah ?_ _|refine zak ?_|refine zag ?_ _));exact BK179.out)) : gb181 ≠ gb179));clear BK179;clear HB;have BK179:=n0_;have HB:=n1_;have BK181:=n2_;have GW181:=n3_;have GE181:=n4_;have NB179_181:=n5_;have NB181_179:=n6_;clear n0_ n1_ n2_ n3_ n4_ n5_ n6_;clear hb hbox hg;have hnb26:=NB181_179.out;have hnc26:=NB179_181.out;have hcz27_0 : w25.cell? ⟨gb181,0,none⟩ = some (.string (⟨#[]⟩ : ByteArray)):=(zad BK181.out 0).trans rfl;have hcz27_1 : w25.cell? ⟨gb181,1,none⟩ = some (.int .i64 0):=(zad BK181.out 1).trans rfl;have hcz27_2 : w25.cell? ⟨gb181,2,none⟩ = some (.slice none 0 0):=(zad BK181.out 2).trans rfl;have hfz27_0:=zaa BK181.out 0;have hfz27_1:=zaa BK181.out 1;have hfz27_2:=zaa BK181.out 2)|((with_reducible refine zbe (f:=26) rfl ?_);refine zce (some 36) rfl rfl Try.func26 (by kernel_rfl) rfl #[.agg #[.string ((zbi l0_0 x30_2).f0),.int .i64 ((zbi l0_0 x30_2).f1),.slice A180_2 ((zbi l0_0 x30_2).f2).length c180_2]] rfl (by (try simp only [List.map_toArray,List.map_cons,List.map_nil]);first|done|rfl|(simp only [List.length_drop,List.length_take];rfl)) ?_;(with_reducible refine (zbk.calls k2 ((zbi l0_0 x30_2).f0) ((zbi l0_0 x30_2).f1) _ _ ((zbi l0_0 x30_2).f2) t182 _ ?side1 ?side2 A14.out).mono ?_);(case side1=>exact Kd.C_below HR180_2.out (by repeat (first|(with_reducible first|exact HB.out|apply zae|apply zab|apply zaf|refine zai ?_ GE179.out|refine zai ?_ GE181.out)|exact HB.out)));(case side2=>exact HC180_2.out);rintro e w28 ⟨rfl,hb⟩;refine ⟨_,rfl,?_⟩;have n0_:=zac.mk (zat (g:=gb179) (o:=.cells #[.slice (some ad180) l0_0.length c0_0,.slice A0_1 l0_1.length c0_1,.slice A0_2 l0_2.length c0_2] 26 (0,0)) (by (with_reducible repeat (first|refine zah ?_ _|refine zak ?_|refine zag ?_ _));refine zaz ?_ NB179_181.out _;(with_reducible repeat (first|refine zah ?_ _|refine zak ?_|refine zag ?_ _));refine zaz ?_ NB179_181.out _;(with_reducible repeat (first|refine zah ?_ _|refine zak ?_|refine zag ?_ _));refine zaz ?_ NB179_181.out _;(with_reducible repeat (first|refine zah ?_ _|refine zak ?_|refine zag ?_ _));exact BK179.out) hb);have n1_:=zac.mk (zat (g:=gb181) (o:=.cells #[.string ((zbi l0_0 x30_2).f0),.int .i64 ((zbi l0_0 x30_2).f1),.slice A180_2 ((zbi l0_0 x30_2).f2).length c180_2] 42 (0,0)) (by (with_reducible repeat (first|refine zah ?_ _|refine zak ?_|refine zag ?_ _));refine zaw (cs:=#[.string ((zbi l0_0 x30_2).f0),.int .i64 ((zbi l0_0 x30_2).f1),.slice none 0 0]) ?_ 2 _ rfl;(with_reducible repeat (first|refine zah ?_ _|refine zak ?_|refine zag ?_ _));refine zaw (cs:=#[.string ((zbi l0_0 x30_2).f0),.int .i64 0,.slice none 0 0]) ?_ 1 _ rfl;(with_reducible repeat (first|refine zah ?_ _|refine zak ?_|refine zag ?_ _));refine zaw (cs:=#[.string (⟨#[]⟩ : ByteArray),.int .i64 0,.slice none 0 0]) ?_ 0 _ rfl;(with_reducible repeat (first|refine zah ?_ _|refine zak ?_|refine zag ?_ _));exact BK181.out) hb);have n2_:=zac.mk (zao (by repeat (first|(with_reducible first|exact HB.out|apply zae|apply zab|apply zaf|refine zai ?_ GE179.out|refine zai ?_ GE181.out)|exact HB.out)) hb);clear BK179;clear BK181;clear HB;have BK179:=n0_;have BK181:=n1_;have HB:=n2_;clear n0_ n1_ n2_;(try clear hb);(try clear hb2);(try clear hk);(try clear hi);have hcz29_0 : w28.cell? ⟨gb179,0,none⟩ = some (.slice (some ad180) l0_0.length c0_0):=(zad BK179.out 0).trans rfl;have hcz29_1 : w28.cell? ⟨gb179,1,none⟩ = some (.slice A0_1 l0_1.length c0_1):=(zad BK179.out 1).trans rfl;have hcz29_2 : w28.cell? ⟨gb179,2,none⟩ = some (.slice A0_2 l0_2.length c0_2):=(zad BK179.out 2).trans rfl;have hfz29_0:=zaa BK179.out 0;have hfz29_1:=zaa BK179.out 1;have hfz29_2:=zaa BK179.out 2;have hcz30_0 : w28.cell? ⟨gb181,0,none⟩ = some (.string ((zbi l0_0 x30_2).f0)):=(zad BK181.out 0).trans rfl;have hcz30_1 : w28.cell? ⟨gb181,1,none⟩ = some (.int .i64 ((zbi l0_0 x30_2).f1)):=(zad BK181.out 1).trans rfl;have hcz30_2 : w28.cell? ⟨gb181,2,none⟩ = some (.slice A180_2 ((zbi l0_0 x30_2).f2).length c180_2):=(zad BK181.out 2).trans rfl;have hfz30_0:=zaa BK181.out 0;have hfz30_1:=zaa BK181.out 1;have hfz30_2:=zaa BK181.out 2)|((with_reducible refine zbe (f:=27) rfl ?_);refine zce (some 44) rfl rfl Try.func27 (by kernel_rfl) rfl #[.slice (some ad180) l0_0.length c0_0,.string ((zbi l0_0 x30_2).f0)] rfl (by (try simp only [List.map_toArray,List.map_cons,List.map_nil]);first|done|rfl|(simp only [List.length_drop,List.length_take];rfl)) ?_;(with_reducible refine (zbj.calls k2 _ _ l0_0 ((zbi l0_0 x30_2).f0) t183 _ ?side1 ?side2 A16.out).mono ?_);(case side1=>repeat (first|exact (Kd.C_below HR0_0.out HB.out)|(with_reducible refine Kd.C_alloc ?_ _)|(with_reducible refine Kd.C_drewN ?_ _)|(with_reducible refine Kd.C_drew ?_)));(case side2=>exact HC0_0.out);rintro e w31 ⟨rfl,hb⟩;refine ⟨_,rfl,?_⟩;have n0_:=zac.mk (zat (g:=gb179) (o:=.cells #[.slice (some ad180) l0_0.length c0_0,.slice A0_1 l0_1.length c0_1,.slice A0_2 l0_2.length c0_2] 26 (0,0)) (by (with_reducible repeat (first|refine zah ?_ _|refine zak ?_|refine zag ?_ _));exact BK179.out) hb);have n1_:=zac.mk (zat (g:=gb181) (o:=.cells #[.string ((zbi l0_0 x30_2).f0),.int .i64 ((zbi l0_0 x30_2).f1),.slice A180_2 ((zbi l0_0 x30_2).f2).length c180_2] 42 (0,0)) (by (with_reducible repeat (first|refine zah ?_ _|refine zak ?_|refine zag ?_ _));exact BK181.out) hb);have n2_:=zac.mk (zao (by repeat (first|(with_reducible first|exact HB.out|apply zae|apply zab|apply zaf|refine zai ?_ GE179.out|refine zai ?_ GE181.out)|exact HB.out)) hb);clear BK179;clear BK181;clear HB;have BK179:=n0_;have BK181:=n1_;have HB:=n2_;clear n0_ n1_ n2_;(try clear hb);(try clear hb2);(try clear hk);(try clear hi)))
           go_roundg k2
           case measure=>have:=HJ1.out;have:=HK2.out;omega
           case rel=>exact ⟨(wrap64 (x30_2 + 1)),(by first|rfl|(simp;done)|(simp [*];done)),H',⟨by have:=HJ1.out;have:=HK2.out;omega⟩,⟨by (with_reducible repeat (first|refine zah ?_ _|refine zak ?_|refine zag ?_ _));exact BK179.out⟩,⟨by repeat (first|(with_reducible first|exact HB.out|apply zae|apply zab|apply zaf|refine zai ?_ GE179.out|refine zai ?_ GE181.out)|exact HB.out)⟩⟩
         ·rw [if_neg c15] at H
          have c15b0 : (t182 == 0) = false:=beq_eq_false_iff_ne.mpr c15
          have c15b1 : (t182 != 0) = true:=bne_iff_ne.mpr c15
          obtain rfl:=Option.some.inj H
          have p180 : 0 ≤ (x30_2 : Int):=of_decide_eq_true (by first|(with_reducible assumption)|assumption)
          have q180 : x30_2 < (l0_0.length : Int):=of_decide_eq_true (by first|(with_reducible assumption)|assumption)
          obtain ⟨ad180,A180_2,c180_2,e180,hx180_0,hx180_1,hx180_2,hl180_2,hi180_2⟩:=at_T42 HR0_0.out x30_2 p180 q180
          cases e180
          replace hx180_0:=(HB.out.cell (World.block_lt_of_cell? w _ hx180_0)).trans hx180_0
          replace hx180_1:=(HB.out.cell (World.block_lt_of_cell? w _ hx180_1)).trans hx180_1
          replace hx180_2:=(HB.out.cell (World.block_lt_of_cell? w _ hx180_2)).trans hx180_2
          have HR180_2:=zac.mk hi180_2
          have HC180_2:=zac.mk hl180_2
          clear hi180_2 hl180_2
          replace p180:=eq_true p180
          replace q180:=eq_true q180
          go_wp2_with (first|((with_reducible refine zbh (N:=4) rfl ?_);(try (refine zci (by rfl) ?_;dsimp only));refine zbf ?hg (N:=4) ?hd (cs:=#[.string (⟨#[]⟩ : ByteArray),.int .i64 0,.slice none 0 0]) (t:=42) ?hr ?_;(case hd=>rfl);(case hg=>rfl);(case hr=>first|(go_simp;done)|(go_simp;rfl));intro gb181 hg w32 hbox hb;have n0_:=zac.mk (zat (g:=gb179) (o:=.cells #[.slice (some ad180) l0_0.length c0_0,.slice A0_1 l0_1.length c0_1,.slice A0_2 l0_2.length c0_2] 26 (0,0)) (by (with_reducible repeat (first|refine zah ?_ _|refine zak ?_|refine zag ?_ _));exact BK179.out) hb);have n1_:=zac.mk (zao (by repeat (first|(with_reducible first|exact HB.out|apply zae|apply zab|apply zaf|refine zai ?_ GE179.out)|exact HB.out)) hb);have n2_:=zac.mk (hbox);have n3_:=zac.mk ((by rw [hg];exact (zam (by repeat (first|(with_reducible first|exact HB.out|apply zae|apply zab|apply zaf|refine zai ?_ GE179.out)|exact HB.out))) : w.heap.size ≤ gb181));have n4_:=zac.mk ((by rw [hg];exact (zam (by repeat (first|(with_reducible first|exact HB.out|apply zae|apply zab|apply zaf|refine zai ?_ GE179.out)|exact HB.out))) : w.heap.size ≤ gb181));have n5_:=zac.mk ((by rw [hg];exact Nat.ne_of_lt (zbq (g:=gb179) (o:=.cells #[.slice (some ad180) l0_0.length c0_0,.slice A0_1 l0_1.length c0_1,.slice A0_2 l0_2.length c0_2] 26 (0,0)) (by (with_reducible repeat (first|refine zah ?_ _|refine zak ?_|refine zag ?_ _));exact BK179.out)) : gb179 ≠ gb181));have n6_:=zac.mk ((by rw [hg];exact Nat.ne_of_gt (zbq (g:=gb179) (o:=.cells #[.slice (some ad180) l0_0.length c0_0,.slice A0_1 l0_1.length c0_1,.slice A0_2 l0_2.length c0_2] 26 (0,0)) (by (with_reducible repeat (first|refine zah ?_ _|refine zak ?_|refine zag ?_ _));exact BK179.out)) : gb181 ≠ gb179));clear BK179;clear HB;have BK179:=n0_;have HB:=n1_;have BK181:=n2_;have GW181:=n3_;have GE181:=n4_;have NB179_181:=n5_;have NB181_179:=n6_;clear n0_ n1_ n2_ n3_ n4_ n5_ n6_;clear hb hbox hg;have hnb33:=NB181_179.out;have hnc33:=NB179_181.out;have hcz34_0 : w32.cell? ⟨gb181,0,none⟩ = some (.string (⟨#[]⟩ : ByteArray)):=(zad BK181.out 0).trans rfl;have hcz34_1 : w32.cell? ⟨gb181,1,none⟩ = some (.int .i64 0):=(zad BK181.out 1).trans rfl;have hcz34_2 : w32.cell? ⟨gb181,2,none⟩ = some (.slice none 0 0):=(zad BK181.out 2).trans rfl;have hfz34_0:=zaa BK181.out 0;have hfz34_1:=zaa BK181.out 1;have hfz34_2:=zaa BK181.out 2)|((with_reducible refine zbe (f:=26) rfl ?_);refine zce (some 36) rfl rfl Try.func26 (by kernel_rfl) rfl #[.agg #[.string ((zbi l0_0 x30_2).f0),.int .i64 ((zbi l0_0 x30_2).f1),.slice A180_2 ((zbi l0_0 x30_2).f2).length c180_2]] rfl (by (try simp only [List.map_toArray,List.map_cons,List.map_nil]);first|done|rfl|(simp only [List.length_drop,List.length_take];rfl)) ?_;(with_reducible refine (zbk.calls k2 ((zbi l0_0 x30_2).f0) ((zbi l0_0 x30_2).f1) _ _ ((zbi l0_0 x30_2).f2) t182 _ ?side1 ?side2 A14.out).mono ?_);(case side1=>exact Kd.C_below HR180_2.out (by repeat (first|(with_reducible first|exact HB.out|apply zae|apply zab|apply zaf|refine zai ?_ GE179.out|refine zai ?_ GE181.out)|exact HB.out)));(case side2=>exact HC180_2.out);rintro e w35 ⟨rfl,hb⟩;refine ⟨_,rfl,?_⟩;have n0_:=zac.mk (zat (g:=gb179) (o:=.cells #[.slice (some ad180) l0_0.length c0_0,.slice A0_1 l0_1.length c0_1,.slice A0_2 l0_2.length c0_2] 26 (0,0)) (by (with_reducible repeat (first|refine zah ?_ _|refine zak ?_|refine zag ?_ _));refine zaz ?_ NB179_181.out _;(with_reducible repeat (first|refine zah ?_ _|refine zak ?_|refine zag ?_ _));refine zaz ?_ NB179_181.out _;(with_reducible repeat (first|refine zah ?_ _|refine zak ?_|refine zag ?_ _));refine zaz ?_ NB179_181.out _;(with_reducible repeat (first|refine zah ?_ _|refine zak ?_|refine zag ?_ _));exact BK179.out) hb);have n1_:=zac.mk (zat (g:=gb181) (o:=.cells #[.string ((zbi l0_0 x30_2).f0),.int .i64 ((zbi l0_0 x30_2).f1),.slice A180_2 ((zbi l0_0 x30_2).f2).length c180_2] 42 (0,0)) (by (with_reducible repeat (first|refine zah ?_ _|refine zak ?_|refine zag ?_ _));refine zaw (cs:=#[.string ((zbi l0_0 x30_2).f0),.int .i64 ((zbi l0_0 x30_2).f1),.slice none 0 0]) ?_ 2 _ rfl;(with_reducible repeat (first|refine zah ?_ _|refine zak ?_|refine zag ?_ _));refine zaw (cs:=#[.string ((zbi l0_0 x30_2).f0),.int .i64 0,.slice none 0 0]) ?_ 1 _ rfl;(with_reducible repeat (first|refine zah ?_ _|refine zak ?_|refine zag ?_ _));refine zaw (cs:=#[.string (⟨#[]⟩ : ByteArray),.int .i64 0,.slice none 0 0]) ?_ 0 _ rfl;(with_reducible repeat (first|refine zah ?_ _|refine zak ?_|refine zag ?_ _));exact BK181.out) hb);have n2_:=zac.mk (zao (by repeat (first|(with_reducible first|exact HB.out|apply zae|apply zab|apply zaf|refine zai ?_ GE179.out|refine zai ?_ GE181.out)|exact HB.out)) hb);clear BK179;clear BK181;clear HB;have BK179:=n0_;have BK181:=n1_;have HB:=n2_;clear n0_ n1_ n2_;(try clear hb);(try clear hb2);(try clear hk);(try clear hi)))
          go_ret
          exact ⟨by first|rfl|(simp [errW_none,errW_some] <;> rfl)|(simp [*,errW_none,errW_some] <;> rfl),by repeat (first|(with_reducible first|exact HB.out|apply zae|apply zab|apply zaf|refine zai ?_ GE179.out|refine zai ?_ GE181.out)|exact HB.out)⟩
        ·rw [if_neg c13] at H
         exact absurd H (by simp)
       ·rw [if_neg c12] at H
        exact absurd H (by simp)
      ·rw [if_neg c11] at H
       have c11b0 : decide (x30_2 < (l0_0.length : Int)) = false:=decide_eq_false c11
       clear c11
       have H':=zac.mk H
       clear H
       have hcz36_0 : wr.cell? ⟨gb179,0,none⟩ = some (.slice A0_0 l0_0.length c0_0):=(zad BK179.out 0).trans rfl
       have hcz36_1 : wr.cell? ⟨gb179,1,none⟩ = some (.slice A0_1 l0_1.length c0_1):=(zad BK179.out 1).trans rfl
       have hcz36_2 : wr.cell? ⟨gb179,2,none⟩ = some (.slice A0_2 l0_2.length c0_2):=(zad BK179.out 2).trans rfl
       have hfz36_0:=zaa BK179.out 0
       have hfz36_1:=zaa BK179.out 1
       have hfz36_2:=zaa BK179.out 2
       go_wp2
       go_loopg [51] k2 (fun kq v51 w'=>∃ (x51_3 : Int),v51 = .int .i64 x51_3 ∧ zac (zan.l1 kq (l0_1.length : Int) x51_3 l0_0 l0_1 l0_2 = some r) ∧ zac (kq ≤ k2) ∧ zac (w'.heap[gb179]? = some (.cells #[(.slice A0_0 l0_0.length c0_0),(.slice A0_1 l0_1.length c0_1),(.slice A0_2 l0_2.length c0_2)] 26 (0,0))) ∧ zac (Below w.heap.size w w'))
       case atStart=>exact ⟨(0),(by first|rfl|(simp;done)|(simp [*];done)),H',⟨Nat.le_refl _⟩,⟨by (with_reducible repeat (first|refine zah ?_ _|refine zak ?_|refine zag ?_ _));exact BK179.out⟩,⟨by repeat (first|(with_reducible first|exact HB.out|apply zae|apply zab|apply zaf|refine zai ?_ GE179.out)|exact HB.out)⟩⟩
       case round =>
        clear H'
        try clear c9
        try clear c11
        try clear c11b0
        try clear hcz10_0
        try clear hcz10_1
        try clear hcz10_2
        try clear hcz36_0
        try clear hcz36_1
        try clear hcz36_2
        try clear hfz10_0
        try clear hfz10_1
        try clear hfz10_2
        try clear hfz36_0
        try clear hfz36_1
        try clear hfz36_2
        obtain ⟨x51_3,rfl,HA,HK3,BK179,HB⟩:=hrel
        cases gk with
        | zero=>exact absurd HA.out (by simp [zan.l1])
        | succ k3 =>
         have H:=HA.out
         clear HA
         simp only [zan.l1] at H
         by_cases c37 : x51_3 < (l0_1.length : Int)
         ·rw [if_pos c37] at H
          have c37b0 : decide (x51_3 < (l0_1.length : Int)) = true:=decide_eq_true c37
          clear c37
          replace H:=Option.bind_eq_some_iff.mp H
          obtain ⟨t184,A380,H⟩:=H
          replace H : (if t184 = 0 then (zan.l1 k3 (l0_1.length : Int) (wrap64 (x51_3 + 1)) l0_0 l0_1 l0_2) else (some t184)) = some r:=H
          have A38:=zac.mk A380
          clear A380
          by_cases c39 : t184 = 0
          ·rw [if_pos c39] at H
           have c39b0 : (t184 == 0) = true:=beq_iff_eq.mpr c39
           have c39b1 : (t184 != 0) = false:=bne_eq_false_iff_eq.mpr c39
           clear c39
           have H':=zac.mk H
           clear H
           have hcz40_0 : wr.cell? ⟨gb179,0,none⟩ = some (.slice A0_0 l0_0.length c0_0):=(zad BK179.out 0).trans rfl
           have hcz40_1 : wr.cell? ⟨gb179,1,none⟩ = some (.slice A0_1 l0_1.length c0_1):=(zad BK179.out 1).trans rfl
           have hcz40_2 : wr.cell? ⟨gb179,2,none⟩ = some (.slice A0_2 l0_2.length c0_2):=(zad BK179.out 2).trans rfl
           have hfz40_0:=zaa BK179.out 0
           have hfz40_1:=zaa BK179.out 1
           have hfz40_2:=zaa BK179.out 2
           go_wp2_with (first|((with_reducible refine zbe (f:=28) rfl ?_);refine zce (some 56) rfl rfl Try.func28 (by kernel_rfl) rfl #[.agg #[.slice A0_0 l0_0.length c0_0,.slice A0_1 l0_1.length c0_1,.slice A0_2 l0_2.length c0_2],.int .i64 x51_3] rfl (by (try simp only [List.map_toArray,List.map_cons,List.map_nil]);first|done|rfl|(simp only [List.length_drop,List.length_take];rfl)) ?_;(with_reducible refine (timetable_checkAirport.calls k3 _ _ l0_0 _ _ l0_1 _ _ l0_2 x51_3 t184 _ ?side1 ?side2 ?side3 ?side4 ?side5 ?side6 A38.out).mono ?_);(case side1=>repeat (first|exact (Kd.C_below HR0_0.out HB.out)|(with_reducible refine Kd.C_alloc ?_ _)|(with_reducible refine Kd.C_drewN ?_ _)|(with_reducible refine Kd.C_drew ?_)));(case side2=>exact HC0_0.out);(case side3=>repeat (first|exact (Kd.C_below HR0_1.out HB.out)|(with_reducible refine Kd.C_alloc ?_ _)|(with_reducible refine Kd.C_drewN ?_ _)|(with_reducible refine Kd.C_drew ?_)));(case side4=>exact HC0_1.out);(case side5=>repeat (first|exact (Kd.C_below HR0_2.out HB.out)|(with_reducible refine Kd.C_alloc ?_ _)|(with_reducible refine Kd.C_drewN ?_ _)|(with_reducible refine Kd.C_drew ?_)));(case side6=>exact HC0_2.out);rintro e w41 ⟨rfl,hb⟩;refine ⟨_,rfl,?_⟩;have n0_:=zac.mk (zat (g:=gb179) (o:=.cells #[.slice A0_0 l0_0.length c0_0,.slice A0_1 l0_1.length c0_1,.slice A0_2 l0_2.length c0_2] 26 (0,0)) (by (with_reducible repeat (first|refine zah ?_ _|refine zak ?_|refine zag ?_ _));exact BK179.out) hb);have n1_:=zac.mk (zao (by repeat (first|(with_reducible first|exact HB.out|apply zae|apply zab|apply zaf|refine zai ?_ GE179.out)|exact HB.out)) hb);clear BK179;clear HB;have BK179:=n0_;have HB:=n1_;clear n0_ n1_;(try clear hb);(try clear hb2);(try clear hk);(try clear hi)))
           go_roundg k3
           case measure=>have:=HJ1.out;have:=HK2.out;have:=HK3.out;omega
           case rel=>exact ⟨(wrap64 (x51_3 + 1)),(by first|rfl|(simp;done)|(simp [*];done)),H',⟨by have:=HJ1.out;have:=HK2.out;have:=HK3.out;omega⟩,⟨by (with_reducible repeat (first|refine zah ?_ _|refine zak ?_|refine zag ?_ _));exact BK179.out⟩,⟨by repeat (first|(with_reducible first|exact HB.out|apply zae|apply zab|apply zaf|refine zai ?_ GE179.out)|exact HB.out)⟩⟩
          ·rw [if_neg c39] at H
           have c39b0 : (t184 == 0) = false:=beq_eq_false_iff_ne.mpr c39
           have c39b1 : (t184 != 0) = true:=bne_iff_ne.mpr c39
           obtain rfl:=Option.some.inj H
           have hcz42_0 : wr.cell? ⟨gb179,0,none⟩ = some (.slice A0_0 l0_0.length c0_0):=(zad BK179.out 0).trans rfl
           have hcz42_1 : wr.cell? ⟨gb179,1,none⟩ = some (.slice A0_1 l0_1.length c0_1):=(zad BK179.out 1).trans rfl
           have hcz42_2 : wr.cell? ⟨gb179,2,none⟩ = some (.slice A0_2 l0_2.length c0_2):=(zad BK179.out 2).trans rfl
           have hfz42_0:=zaa BK179.out 0
           have hfz42_1:=zaa BK179.out 1
           have hfz42_2:=zaa BK179.out 2
           go_wp2_with (first|((with_reducible refine zbe (f:=28) rfl ?_);refine zce (some 56) rfl rfl Try.func28 (by kernel_rfl) rfl #[.agg #[.slice A0_0 l0_0.length c0_0,.slice A0_1 l0_1.length c0_1,.slice A0_2 l0_2.length c0_2],.int .i64 x51_3] rfl (by (try simp only [List.map_toArray,List.map_cons,List.map_nil]);first|done|rfl|(simp only [List.length_drop,List.length_take];rfl)) ?_;(with_reducible refine (timetable_checkAirport.calls k3 _ _ l0_0 _ _ l0_1 _ _ l0_2 x51_3 t184 _ ?side1 ?side2 ?side3 ?side4 ?side5 ?side6 A38.out).mono ?_);(case side1=>repeat (first|exact (Kd.C_below HR0_0.out HB.out)|(with_reducible refine Kd.C_alloc ?_ _)|(with_reducible refine Kd.C_drewN ?_ _)|(with_reducible refine Kd.C_drew ?_)));(case side2=>exact HC0_0.out);(case side3=>repeat (first|exact (Kd.C_below HR0_1.out HB.out)|(with_reducible refine Kd.C_alloc ?_ _)|(with_reducible refine Kd.C_drewN ?_ _)|(with_reducible refine Kd.C_drew ?_)));(case side4=>exact HC0_1.out);(case side5=>repeat (first|exact (Kd.C_below HR0_2.out HB.out)|(with_reducible refine Kd.C_alloc ?_ _)|(with_reducible refine Kd.C_drewN ?_ _)|(with_reducible refine Kd.C_drew ?_)));(case side6=>exact HC0_2.out);rintro e w43 ⟨rfl,hb⟩;refine ⟨_,rfl,?_⟩;have n0_:=zac.mk (zat (g:=gb179) (o:=.cells #[.slice A0_0 l0_0.length c0_0,.slice A0_1 l0_1.length c0_1,.slice A0_2 l0_2.length c0_2] 26 (0,0)) (by (with_reducible repeat (first|refine zah ?_ _|refine zak ?_|refine zag ?_ _));exact BK179.out) hb);have n1_:=zac.mk (zao (by repeat (first|(with_reducible first|exact HB.out|apply zae|apply zab|apply zaf|refine zai ?_ GE179.out)|exact HB.out)) hb);clear BK179;clear HB;have BK179:=n0_;have HB:=n1_;clear n0_ n1_;(try clear hb);(try clear hb2);(try clear hk);(try clear hi)))
           go_ret
           exact ⟨by first|rfl|(simp [errW_none,errW_some] <;> rfl)|(simp [*,errW_none,errW_some] <;> rfl),by repeat (first|(with_reducible first|exact HB.out|apply zae|apply zab|apply zaf|refine zai ?_ GE179.out)|exact HB.out)⟩
         ·rw [if_neg c37] at H
          have c37b0 : decide (x51_3 < (l0_1.length : Int)) = false:=decide_eq_false c37
          clear c37
          have H':=zac.mk H
          clear H
          have hcz44_0 : wr.cell? ⟨gb179,0,none⟩ = some (.slice A0_0 l0_0.length c0_0):=(zad BK179.out 0).trans rfl
          have hcz44_1 : wr.cell? ⟨gb179,1,none⟩ = some (.slice A0_1 l0_1.length c0_1):=(zad BK179.out 1).trans rfl
          have hcz44_2 : wr.cell? ⟨gb179,2,none⟩ = some (.slice A0_2 l0_2.length c0_2):=(zad BK179.out 2).trans rfl
          have hfz44_0:=zaa BK179.out 0
          have hfz44_1:=zaa BK179.out 1
          have hfz44_2:=zaa BK179.out 2
          go_wp2
          go_loopg [64] k3 (fun kq v64 w'=>∃ (x64_4 : Int),v64 = .int .i64 x64_4 ∧ zac (zan.l2 kq l0_2 (l0_2.length : Int) x64_4 l0_0 l0_1 l0_2 = some r) ∧ zac (kq ≤ k3) ∧ zac (w'.heap[gb179]? = some (.cells #[(.slice A0_0 l0_0.length c0_0),(.slice A0_1 l0_1.length c0_1),(.slice A0_2 l0_2.length c0_2)] 26 (0,0))) ∧ zac (Below w.heap.size w w'))
          case atStart=>exact ⟨(0),(by first|rfl|(simp;done)|(simp [*];done)),H',⟨Nat.le_refl _⟩,⟨by (with_reducible repeat (first|refine zah ?_ _|refine zak ?_|refine zag ?_ _));exact BK179.out⟩,⟨by repeat (first|(with_reducible first|exact HB.out|apply zae|apply zab|apply zaf|refine zai ?_ GE179.out)|exact HB.out)⟩⟩
          case round =>
           clear H'
           try clear c9
           try clear c11
           try clear c11b0
           try clear c37
           try clear c37b0
           try clear hcz10_0
           try clear hcz10_1
           try clear hcz10_2
           try clear hcz36_0
           try clear hcz36_1
           try clear hcz36_2
           try clear hcz44_0
           try clear hcz44_1
           try clear hcz44_2
           try clear hfz10_0
           try clear hfz10_1
           try clear hfz10_2
           try clear hfz36_0
           try clear hfz36_1
           try clear hfz36_2
           try clear hfz44_0
           try clear hfz44_1
           try clear hfz44_2
           obtain ⟨x64_4,rfl,HA,HK4,BK179,HB⟩:=hrel
           cases gk with
           | zero=>exact absurd HA.out (by simp [zan.l2])
           | succ k4 =>
            have H:=HA.out
            clear HA
            simp only [zan.l2] at H
            by_cases c45 : x64_4 < (l0_2.length : Int)
            ·rw [if_pos c45] at H
             have c45b0 : decide (x64_4 < (l0_2.length : Int)) = true:=decide_eq_true c45
             clear c45
             by_cases c46 : 0 ≤ x64_4
             ·rw [if_pos c46] at H
              have c46b0 : decide (0 ≤ x64_4) = true:=decide_eq_true c46
              clear c46
              by_cases c47 : x64_4 < (l0_2.length : Int)
              ·rw [if_pos c47] at H
               have c47b0 : decide (x64_4 < (l0_2.length : Int)) = true:=decide_eq_true c47
               clear c47
               replace H:=Option.bind_eq_some_iff.mp H
               obtain ⟨t187,A480,H⟩:=H
               replace H : (if t187 = 0 then (if x64_4 > 0 then (if 0 ≤ (wrap64 (x64_4 - 1)) then (if (wrap64 (x64_4 - 1)) < (l0_2.length : Int) then ((timetable_after.f ((zaj l0_2 x64_4).f0) ((zaj l0_2 x64_4).f1) ((zaj l0_2 x64_4).f2) ((zaj l0_2 x64_4).f3) ((zaj l0_2 x64_4).f4) ((zaj l0_2 x64_4).f5) ((zaj l0_2 x64_4).f6.f0) ((zaj l0_2 x64_4).f6.f1) ((zaj l0_2 x64_4).f6.f2) ((zaj l0_2 (wrap64 (x64_4 - 1))).f0) ((zaj l0_2 (wrap64 (x64_4 - 1))).f1) ((zaj l0_2 (wrap64 (x64_4 - 1))).f2) ((zaj l0_2 (wrap64 (x64_4 - 1))).f3) ((zaj l0_2 (wrap64 (x64_4 - 1))).f4) ((zaj l0_2 (wrap64 (x64_4 - 1))).f5) ((zaj l0_2 (wrap64 (x64_4 - 1))).f6.f0) ((zaj l0_2 (wrap64 (x64_4 - 1))).f6.f1) ((zaj l0_2 (wrap64 (x64_4 - 1))).f6.f2)).bind fun t189=>(if t189 = true then (zan.l2 k4 l0_2 (l0_2.length : Int) (wrap64 (x64_4 + 1)) l0_0 l0_1 l0_2) else (some 8))) else (none)) else (none)) else (zan.l2 k4 l0_2 (l0_2.length : Int) (wrap64 (x64_4 + 1)) l0_0 l0_1 l0_2)) else (some t187)) = some r:=H
               have A48:=zac.mk A480
               clear A480
               by_cases c49 : t187 = 0
               ·rw [if_pos c49] at H
                have c49b0 : (t187 == 0) = true:=beq_iff_eq.mpr c49
                have c49b1 : (t187 != 0) = false:=bne_eq_false_iff_eq.mpr c49
                clear c49
                by_cases c50 : x64_4 > 0
                ·rw [if_pos c50] at H
                 have c50b0 : decide (0 < x64_4) = true:=decide_eq_true c50
                 clear c50
                 obtain ⟨ji51,hji51⟩ : ∃ j_ : Int,(wrap64 (x64_4 - 1)) = j_:=⟨_,rfl⟩
                 replace H : (if 0 ≤ (ji51) then (if (ji51) < (l0_2.length : Int) then ((timetable_after.f ((zaj l0_2 x64_4).f0) ((zaj l0_2 x64_4).f1) ((zaj l0_2 x64_4).f2) ((zaj l0_2 x64_4).f3) ((zaj l0_2 x64_4).f4) ((zaj l0_2 x64_4).f5) ((zaj l0_2 x64_4).f6.f0) ((zaj l0_2 x64_4).f6.f1) ((zaj l0_2 x64_4).f6.f2) ((zaj l0_2 (ji51)).f0) ((zaj l0_2 (ji51)).f1) ((zaj l0_2 (ji51)).f2) ((zaj l0_2 (ji51)).f3) ((zaj l0_2 (ji51)).f4) ((zaj l0_2 (ji51)).f5) ((zaj l0_2 (ji51)).f6.f0) ((zaj l0_2 (ji51)).f6.f1) ((zaj l0_2 (ji51)).f6.f2)).bind fun t189=>(if t189 = true then (zan.l2 k4 l0_2 (l0_2.length : Int) (wrap64 (x64_4 + 1)) l0_0 l0_1 l0_2) else (some 8))) else (none)) else (none)) = some r:=by first|(rw [hji51] at H;exact H)|(simp only [hji51] at H ⊢;exact H)
                 (try rw [hji51] at A48)
                 have hji51w : (IntKind.i64.wrap (x64_4 - 1)) = ji51:=(i64_w _).trans hji51
                 by_cases c52 : 0 ≤ (ji51)
                 ·rw [if_pos c52] at H
                  have c52b0 : decide (0 ≤ (ji51)) = true:=decide_eq_true c52
                  clear c52
                  by_cases c53 : (ji51) < (l0_2.length : Int)
                  ·rw [if_pos c53] at H
                   have c53b0 : decide ((ji51) < (l0_2.length : Int)) = true:=decide_eq_true c53
                   clear c53
                   replace H:=Option.bind_eq_some_iff.mp H
                   obtain ⟨t189,A540,H⟩:=H
                   replace H : (if t189 = true then (zan.l2 k4 l0_2 (l0_2.length : Int) (wrap64 (x64_4 + 1)) l0_0 l0_1 l0_2) else (some 8)) = some r:=H
                   have A54:=zac.mk A540
                   clear A540
                   by_cases c55 : t189 = true
                   ·subst c55
                    have H1 : (zan.l2 k4 l0_2 (l0_2.length : Int) (wrap64 (x64_4 + 1)) l0_0 l0_1 l0_2) = some r:=by rw [if_pos rfl] at H;exact H
                    clear H
                    have H:=H1
                    clear H1
                    have H':=zac.mk H
                    clear H
                    have p185 : 0 ≤ (x64_4 : Int):=of_decide_eq_true (by first|(with_reducible assumption)|assumption)
                    have q185 : x64_4 < (l0_2.length : Int):=of_decide_eq_true (by first|(with_reducible assumption)|assumption)
                    obtain ⟨ad185,e185,hx185_0,hx185_1,hx185_2,hx185_3,hx185_4,hx185_5,hx185_6,hx185_7,hx185_8⟩:=at_T36 HR0_2.out x64_4 p185 q185
                    cases e185
                    replace hx185_0:=(HB.out.cell (World.block_lt_of_cell? w _ hx185_0)).trans hx185_0
                    replace hx185_1:=(HB.out.cell (World.block_lt_of_cell? w _ hx185_1)).trans hx185_1
                    replace hx185_2:=(HB.out.cell (World.block_lt_of_cell? w _ hx185_2)).trans hx185_2
                    replace hx185_3:=(HB.out.cell (World.block_lt_of_cell? w _ hx185_3)).trans hx185_3
                    replace hx185_4:=(HB.out.cell (World.block_lt_of_cell? w _ hx185_4)).trans hx185_4
                    replace hx185_5:=(HB.out.cell (World.block_lt_of_cell? w _ hx185_5)).trans hx185_5
                    replace hx185_6:=(HB.out.cell (World.block_lt_of_cell? w _ hx185_6)).trans hx185_6
                    replace hx185_7:=(HB.out.cell (World.block_lt_of_cell? w _ hx185_7)).trans hx185_7
                    replace hx185_8:=(HB.out.cell (World.block_lt_of_cell? w _ hx185_8)).trans hx185_8
                    replace p185:=eq_true p185
                    replace q185:=eq_true q185
                    try go_wp2_with (first|((with_reducible refine zbh (N:=9) rfl ?_);(try (refine zci (by rfl) ?_;dsimp only));refine zbf ?hg (N:=9) ?hd (cs:=#[.string (⟨#[]⟩ : ByteArray),.string (⟨#[]⟩ : ByteArray),.string (⟨#[]⟩ : ByteArray),.int .i64 0,.int .i64 0,.string (⟨#[]⟩ : ByteArray),.int .i64 0,.int .i64 0,.int .i64 0]) (t:=36) ?hr ?_;(case hd=>rfl);(case hg=>rfl);(case hr=>first|(go_simp;done)|(go_simp;rfl));intro gb186 hg w56 hbox hb;have n0_:=zac.mk (zat (g:=gb179) (o:=.cells #[.slice A0_0 l0_0.length c0_0,.slice A0_1 l0_1.length c0_1,.slice (some ad185) l0_2.length c0_2] 26 (0,0)) (by (with_reducible repeat (first|refine zah ?_ _|refine zak ?_|refine zag ?_ _));exact BK179.out) hb);have n1_:=zac.mk (zao (by repeat (first|(with_reducible first|exact HB.out|apply zae|apply zab|apply zaf|refine zai ?_ GE179.out)|exact HB.out)) hb);have n2_:=zac.mk (hbox);have n3_:=zac.mk ((by rw [hg];exact (zam (by repeat (first|(with_reducible first|exact HB.out|apply zae|apply zab|apply zaf|refine zai ?_ GE179.out)|exact HB.out))) : w.heap.size ≤ gb186));have n4_:=zac.mk ((by rw [hg];exact (zam (by repeat (first|(with_reducible first|exact HB.out|apply zae|apply zab|apply zaf|refine zai ?_ GE179.out)|exact HB.out))) : w.heap.size ≤ gb186));have n5_:=zac.mk ((by rw [hg];exact Nat.ne_of_lt (zbq (g:=gb179) (o:=.cells #[.slice A0_0 l0_0.length c0_0,.slice A0_1 l0_1.length c0_1,.slice (some ad185) l0_2.length c0_2] 26 (0,0)) (by (with_reducible repeat (first|refine zah ?_ _|refine zak ?_|refine zag ?_ _));exact BK179.out)) : gb179 ≠ gb186));have n6_:=zac.mk ((by rw [hg];exact Nat.ne_of_gt (zbq (g:=gb179) (o:=.cells #[.slice A0_0 l0_0.length c0_0,.slice A0_1 l0_1.length c0_1,.slice (some ad185) l0_2.length c0_2] 26 (0,0)) (by (with_reducible repeat (first|refine zah ?_ _|refine zak ?_|refine zag ?_ _));exact BK179.out)) : gb186 ≠ gb179));clear BK179;clear HB;have BK179:=n0_;have HB:=n1_;have BK186:=n2_;have GW186:=n3_;have GE186:=n4_;have NB179_186:=n5_;have NB186_179:=n6_;clear n0_ n1_ n2_ n3_ n4_ n5_ n6_;clear hb hbox hg;have hnb57:=NB186_179.out;have hnc57:=NB179_186.out;have hcz58_0 : w56.cell? ⟨gb186,0,none⟩ = some (.string (⟨#[]⟩ : ByteArray)):=(zad BK186.out 0).trans rfl;have hcz58_1 : w56.cell? ⟨gb186,1,none⟩ = some (.string (⟨#[]⟩ : ByteArray)):=(zad BK186.out 1).trans rfl;have hcz58_2 : w56.cell? ⟨gb186,2,none⟩ = some (.string (⟨#[]⟩ : ByteArray)):=(zad BK186.out 2).trans rfl;have hcz58_3 : w56.cell? ⟨gb186,3,none⟩ = some (.int .i64 0):=(zad BK186.out 3).trans rfl;have hcz58_4 : w56.cell? ⟨gb186,4,none⟩ = some (.int .i64 0):=(zad BK186.out 4).trans rfl;have hcz58_5 : w56.cell? ⟨gb186,5,none⟩ = some (.string (⟨#[]⟩ : ByteArray)):=(zad BK186.out 5).trans rfl;have hcz58_6 : w56.cell? ⟨gb186,6,none⟩ = some (.int .i64 0):=(zad BK186.out 6).trans rfl;have hcz58_7 : w56.cell? ⟨gb186,7,none⟩ = some (.int .i64 0):=(zad BK186.out 7).trans rfl;have hcz58_8 : w56.cell? ⟨gb186,8,none⟩ = some (.int .i64 0):=(zad BK186.out 8).trans rfl;have hfz58_0:=zaa BK186.out 0;have hfz58_1:=zaa BK186.out 1;have hfz58_2:=zaa BK186.out 2;have hfz58_3:=zaa BK186.out 3;have hfz58_4:=zaa BK186.out 4;have hfz58_5:=zaa BK186.out 5;have hfz58_6:=zaa BK186.out 6;have hfz58_7:=zaa BK186.out 7;have hfz58_8:=zaa BK186.out 8;have hcz59_0 : w56.cell? ⟨gb179,0,none⟩ = some (.slice A0_0 l0_0.length c0_0):=(zad BK179.out 0).trans rfl;have hcz59_1 : w56.cell? ⟨gb179,1,none⟩ = some (.slice A0_1 l0_1.length c0_1):=(zad BK179.out 1).trans rfl;have hcz59_2 : w56.cell? ⟨gb179,2,none⟩ = some (.slice (some ad185) l0_2.length c0_2):=(zad BK179.out 2).trans rfl;have hfz59_0:=zaa BK179.out 0;have hfz59_1:=zaa BK179.out 1;have hfz59_2:=zaa BK179.out 2)|((with_reducible refine zbe (f:=29) rfl ?_);refine zce (some 71) rfl rfl Try.func29 (by kernel_rfl) rfl #[.agg #[.slice A0_0 l0_0.length c0_0,.slice A0_1 l0_1.length c0_1,.slice (some ad185) l0_2.length c0_2],.agg #[.string ((zaj l0_2 x64_4).f0),.string ((zaj l0_2 x64_4).f1),.string ((zaj l0_2 x64_4).f2),.int .i64 ((zaj l0_2 x64_4).f3),.int .i64 ((zaj l0_2 x64_4).f4),.string ((zaj l0_2 x64_4).f5),.int .i64 ((zaj l0_2 x64_4).f6.f0),.int .i64 ((zaj l0_2 x64_4).f6.f1),.int .i64 ((zaj l0_2 x64_4).f6.f2)]] rfl (by (try simp only [List.map_toArray,List.map_cons,List.map_nil]);first|done|rfl|(simp only [List.length_drop,List.length_take];rfl)) ?_;(with_reducible refine (zau.calls k4 _ _ l0_0 _ _ l0_1 _ _ l0_2 ((zaj l0_2 x64_4).f0) ((zaj l0_2 x64_4).f1) ((zaj l0_2 x64_4).f2) ((zaj l0_2 x64_4).f3) ((zaj l0_2 x64_4).f4) ((zaj l0_2 x64_4).f5) ((zaj l0_2 x64_4).f6.f0) ((zaj l0_2 x64_4).f6.f1) ((zaj l0_2 x64_4).f6.f2) t187 _ ?side1 ?side2 ?side3 ?side4 ?side5 ?side6 A48.out).mono ?_);(case side1=>exact Kd.C_below HR0_0.out (by repeat (first|(with_reducible first|exact HB.out|apply zae|apply zab|apply zaf|refine zai ?_ GE179.out|refine zai ?_ GE186.out)|exact HB.out)));(case side2=>exact HC0_0.out);(case side3=>exact Kd.C_below HR0_1.out (by repeat (first|(with_reducible first|exact HB.out|apply zae|apply zab|apply zaf|refine zai ?_ GE179.out|refine zai ?_ GE186.out)|exact HB.out)));(case side4=>exact HC0_1.out);(case side5=>exact Kd.C_below HR0_2.out (by repeat (first|(with_reducible first|exact HB.out|apply zae|apply zab|apply zaf|refine zai ?_ GE179.out|refine zai ?_ GE186.out)|exact HB.out)));(case side6=>exact HC0_2.out);rintro e w60 ⟨rfl,hb⟩;refine ⟨_,rfl,?_⟩;have n0_:=zac.mk (zat (g:=gb179) (o:=.cells #[.slice A0_0 l0_0.length c0_0,.slice A0_1 l0_1.length c0_1,.slice (some ad185) l0_2.length c0_2] 26 (0,0)) (by (with_reducible repeat (first|refine zah ?_ _|refine zak ?_|refine zag ?_ _));refine zaz ?_ NB179_186.out _;(with_reducible repeat (first|refine zah ?_ _|refine zak ?_|refine zag ?_ _));refine zaz ?_ NB179_186.out _;(with_reducible repeat (first|refine zah ?_ _|refine zak ?_|refine zag ?_ _));refine zaz ?_ NB179_186.out _;(with_reducible repeat (first|refine zah ?_ _|refine zak ?_|refine zag ?_ _));refine zaz ?_ NB179_186.out _;(with_reducible repeat (first|refine zah ?_ _|refine zak ?_|refine zag ?_ _));refine zaz ?_ NB179_186.out _;(with_reducible repeat (first|refine zah ?_ _|refine zak ?_|refine zag ?_ _));refine zaz ?_ NB179_186.out _;(with_reducible repeat (first|refine zah ?_ _|refine zak ?_|refine zag ?_ _));refine zaz ?_ NB179_186.out _;(with_reducible repeat (first|refine zah ?_ _|refine zak ?_|refine zag ?_ _));refine zaz ?_ NB179_186.out _;(with_reducible repeat (first|refine zah ?_ _|refine zak ?_|refine zag ?_ _));refine zaz ?_ NB179_186.out _;(with_reducible repeat (first|refine zah ?_ _|refine zak ?_|refine zag ?_ _));exact BK179.out) hb);have n1_:=zac.mk (zat (g:=gb186) (o:=.cells #[.string ((zaj l0_2 x64_4).f0),.string ((zaj l0_2 x64_4).f1),.string ((zaj l0_2 x64_4).f2),.int .i64 ((zaj l0_2 x64_4).f3),.int .i64 ((zaj l0_2 x64_4).f4),.string ((zaj l0_2 x64_4).f5),.int .i64 ((zaj l0_2 x64_4).f6.f0),.int .i64 ((zaj l0_2 x64_4).f6.f1),.int .i64 ((zaj l0_2 x64_4).f6.f2)] 36 (0,0)) (by (with_reducible repeat (first|refine zah ?_ _|refine zak ?_|refine zag ?_ _));refine zaw (cs:=#[.string ((zaj l0_2 x64_4).f0),.string ((zaj l0_2 x64_4).f1),.string ((zaj l0_2 x64_4).f2),.int .i64 ((zaj l0_2 x64_4).f3),.int .i64 ((zaj l0_2 x64_4).f4),.string ((zaj l0_2 x64_4).f5),.int .i64 ((zaj l0_2 x64_4).f6.f0),.int .i64 ((zaj l0_2 x64_4).f6.f1),.int .i64 0]) ?_ 8 _ rfl;(with_reducible repeat (first|refine zah ?_ _|refine zak ?_|refine zag ?_ _));refine zaw (cs:=#[.string ((zaj l0_2 x64_4).f0),.string ((zaj l0_2 x64_4).f1),.string ((zaj l0_2 x64_4).f2),.int .i64 ((zaj l0_2 x64_4).f3),.int .i64 ((zaj l0_2 x64_4).f4),.string ((zaj l0_2 x64_4).f5),.int .i64 ((zaj l0_2 x64_4).f6.f0),.int .i64 0,.int .i64 0]) ?_ 7 _ rfl;(with_reducible repeat (first|refine zah ?_ _|refine zak ?_|refine zag ?_ _));refine zaw (cs:=#[.string ((zaj l0_2 x64_4).f0),.string ((zaj l0_2 x64_4).f1),.string ((zaj l0_2 x64_4).f2),.int .i64 ((zaj l0_2 x64_4).f3),.int .i64 ((zaj l0_2 x64_4).f4),.string ((zaj l0_2 x64_4).f5),.int .i64 0,.int .i64 0,.int .i64 0]) ?_ 6 _ rfl;(with_reducible repeat (first|refine zah ?_ _|refine zak ?_|refine zag ?_ _));refine zaw (cs:=#[.string ((zaj l0_2 x64_4).f0),.string ((zaj l0_2 x64_4).f1),.string ((zaj l0_2 x64_4).f2),.int .i64 ((zaj l0_2 x64_4).f3),.int .i64 ((zaj l0_2 x64_4).f4),.string (⟨#[]⟩ : ByteArray),.int .i64 0,.int .i64 0,.int .i64 0]) ?_ 5 _ rfl;(with_reducible repeat (first|refine zah ?_ _|refine zak ?_|refine zag ?_ _));refine zaw (cs:=#[.string ((zaj l0_2 x64_4).f0),.string ((zaj l0_2 x64_4).f1),.string ((zaj l0_2 x64_4).f2),.int .i64 ((zaj l0_2 x64_4).f3),.int .i64 0,.string (⟨#[]⟩ : ByteArray),.int .i64 0,.int .i64 0,.int .i64 0]) ?_ 4 _ rfl;(with_reducible repeat (first|refine zah ?_ _|refine zak ?_|refine zag ?_ _));refine zaw (cs:=#[.string ((zaj l0_2 x64_4).f0),.string ((zaj l0_2 x64_4).f1),.string ((zaj l0_2 x64_4).f2),.int .i64 0,.int .i64 0,.string (⟨#[]⟩ : ByteArray),.int .i64 0,.int .i64 0,.int .i64 0]) ?_ 3 _ rfl;(with_reducible repeat (first|refine zah ?_ _|refine zak ?_|refine zag ?_ _));refine zaw (cs:=#[.string ((zaj l0_2 x64_4).f0),.string ((zaj l0_2 x64_4).f1),.string (⟨#[]⟩ : ByteArray),.int .i64 0,.int .i64 0,.string (⟨#[]⟩ : ByteArray),.int .i64 0,.int .i64 0,.int .i64 0]) ?_ 2 _ rfl;(with_reducible repeat (first|refine zah ?_ _|refine zak ?_|refine zag ?_ _));refine zaw (cs:=#[.string ((zaj l0_2 x64_4).f0),.string (⟨#[]⟩ : ByteArray),.string (⟨#[]⟩ : ByteArray),.int .i64 0,.int .i64 0,.string (⟨#[]⟩ : ByteArray),.int .i64 0,.int .i64 0,.int .i64 0]) ?_ 1 _ rfl;(with_reducible repeat (first|refine zah ?_ _|refine zak ?_|refine zag ?_ _));refine zaw (cs:=#[.string (⟨#[]⟩ : ByteArray),.string (⟨#[]⟩ : ByteArray),.string (⟨#[]⟩ : ByteArray),.int .i64 0,.int .i64 0,.string (⟨#[]⟩ : ByteArray),.int .i64 0,.int .i64 0,.int .i64 0]) ?_ 0 _ rfl;(with_reducible repeat (first|refine zah ?_ _|refine zak ?_|refine zag ?_ _));exact BK186.out) hb);have n2_:=zac.mk (zao (by repeat (first|(with_reducible first|exact HB.out|apply zae|apply zab|apply zaf|refine zai ?_ GE179.out|refine zai ?_ GE186.out)|exact HB.out)) hb);clear BK179;clear BK186;clear HB;have BK179:=n0_;have BK186:=n1_;have HB:=n2_;clear n0_ n1_ n2_;(try clear hb);(try clear hb2);(try clear hk);(try clear hi)))
                    have n0_:=zac.mk (zak BK179.out)
                    have n1_:=zac.mk (zak BK186.out)
                    have n2_:=zac.mk (zaf HB.out)
                    clear BK179
                    clear BK186
                    clear HB
                    have BK179:=n0_
                    have BK186:=n1_
                    have HB:=n2_
                    clear n0_ n1_ n2_
                    have p188 : 0 ≤ ((ji51) : Int):=of_decide_eq_true (by first|(with_reducible assumption)|assumption)
                    have q188 : (ji51) < (l0_2.length : Int):=of_decide_eq_true (by first|(with_reducible assumption)|assumption)
                    obtain ⟨ad188,e188,hx188_0,hx188_1,hx188_2,hx188_3,hx188_4,hx188_5,hx188_6,hx188_7,hx188_8⟩:=at_T36 HR0_2.out (ji51) p188 q188
                    have hw188_8:=hx188_8
                    have hw188_7:=hx188_7
                    have hw188_6:=hx188_6
                    have hw188_5:=hx188_5
                    have hw188_4:=hx188_4
                    have hw188_3:=hx188_3
                    have hw188_2:=hx188_2
                    have hw188_1:=hx188_1
                    have hw188_0:=hx188_0
                    obtain rfl : ad185 = ad188:=(by injection e188)
                    replace hx188_0:=(HB.out.cell (World.block_lt_of_cell? w _ hx188_0)).trans hx188_0
                    replace hx188_1:=(HB.out.cell (World.block_lt_of_cell? w _ hx188_1)).trans hx188_1
                    replace hx188_2:=(HB.out.cell (World.block_lt_of_cell? w _ hx188_2)).trans hx188_2
                    replace hx188_3:=(HB.out.cell (World.block_lt_of_cell? w _ hx188_3)).trans hx188_3
                    replace hx188_4:=(HB.out.cell (World.block_lt_of_cell? w _ hx188_4)).trans hx188_4
                    replace hx188_5:=(HB.out.cell (World.block_lt_of_cell? w _ hx188_5)).trans hx188_5
                    replace hx188_6:=(HB.out.cell (World.block_lt_of_cell? w _ hx188_6)).trans hx188_6
                    replace hx188_7:=(HB.out.cell (World.block_lt_of_cell? w _ hx188_7)).trans hx188_7
                    replace hx188_8:=(HB.out.cell (World.block_lt_of_cell? w _ hx188_8)).trans hx188_8
                    replace p188:=eq_true p188
                    replace q188:=eq_true q188
                    refine start_ (n:=13) (S:=fun w'=>w'.cell? ⟨gb186,0,none⟩ = some (.string ((zaj l0_2 x64_4).f0)) ∧ w'.cell? ⟨gb186,1,none⟩ = some (.string ((zaj l0_2 x64_4).f1)) ∧ w'.cell? ⟨gb186,2,none⟩ = some (.string ((zaj l0_2 x64_4).f2)) ∧ w'.cell? ⟨gb186,3,none⟩ = some (.int .i64 ((zaj l0_2 x64_4).f3)) ∧ w'.cell? ⟨gb186,4,none⟩ = some (.int .i64 ((zaj l0_2 x64_4).f4)) ∧ w'.cell? ⟨gb186,5,none⟩ = some (.string ((zaj l0_2 x64_4).f5)) ∧ w'.cell? ⟨gb186,6,none⟩ = some (.int .i64 ((zaj l0_2 x64_4).f6.f0)) ∧ w'.cell? ⟨gb186,7,none⟩ = some (.int .i64 ((zaj l0_2 x64_4).f6.f1)) ∧ w'.cell? ⟨gb186,8,none⟩ = some (.int .i64 ((zaj l0_2 x64_4).f6.f2)) ∧ w'.cell? ⟨gb179,0,none⟩ = some (.slice A0_0 l0_0.length c0_0) ∧ w'.cell? ⟨gb179,1,none⟩ = some (.slice A0_1 l0_1.length c0_1) ∧ w'.cell? ⟨gb179,2,none⟩ = some (.slice (some ad185) l0_2.length c0_2) ∧ w'.cell? (ad185.add (((ji51)).toNat * 9)) = some (.string ((zaj l0_2 (ji51)).f0)) ∧ w'.cell? ⟨(ad185.add (((ji51)).toNat * 9)).block,(ad185.add (((ji51)).toNat * 9)).off + 1,none⟩ = some (.string ((zaj l0_2 (ji51)).f1)) ∧ w'.cell? ⟨(ad185.add (((ji51)).toNat * 9)).block,(ad185.add (((ji51)).toNat * 9)).off + 2,none⟩ = some (.string ((zaj l0_2 (ji51)).f2)) ∧ w'.cell? ⟨(ad185.add (((ji51)).toNat * 9)).block,(ad185.add (((ji51)).toNat * 9)).off + 3,none⟩ = some (.int .i64 ((zaj l0_2 (ji51)).f3)) ∧ w'.cell? ⟨(ad185.add (((ji51)).toNat * 9)).block,(ad185.add (((ji51)).toNat * 9)).off + 4,none⟩ = some (.int .i64 ((zaj l0_2 (ji51)).f4)) ∧ w'.cell? ⟨(ad185.add (((ji51)).toNat * 9)).block,(ad185.add (((ji51)).toNat * 9)).off + 5,none⟩ = some (.string ((zaj l0_2 (ji51)).f5)) ∧ w'.cell? ⟨(ad185.add (((ji51)).toNat * 9)).block,(ad185.add (((ji51)).toNat * 9)).off + 6,none⟩ = some (.int .i64 ((zaj l0_2 (ji51)).f6.f0)) ∧ w'.cell? ⟨(ad185.add (((ji51)).toNat * 9)).block,(ad185.add (((ji51)).toNat * 9)).off + 7,none⟩ = some (.int .i64 ((zaj l0_2 (ji51)).f6.f1)) ∧ w'.cell? ⟨(ad185.add (((ji51)).toNat * 9)).block,(ad185.add (((ji51)).toNat * 9)).off + 8,none⟩ = some (.int .i64 ((zaj l0_2 (ji51)).f6.f2))) (ds:=[]) #[false,false,false,false,false,false,false,false,false,false,false,false,false] (by kernel_rfl) rfl rfl ⟨(zad BK186.out 0).trans rfl,(zad BK186.out 1).trans rfl,(zad BK186.out 2).trans rfl,(zad BK186.out 3).trans rfl,(zad BK186.out 4).trans rfl,(zad BK186.out 5).trans rfl,(zad BK186.out 6).trans rfl,(zad BK186.out 7).trans rfl,(zad BK186.out 8).trans rfl,(zad BK179.out 0).trans rfl,(zad BK179.out 1).trans rfl,(zad BK179.out 2).trans rfl,((HB.out.cell (World.block_lt_of_cell? w _ hw188_0)).trans hw188_0),((HB.out.cell (World.block_lt_of_cell? w _ hw188_1)).trans hw188_1),((HB.out.cell (World.block_lt_of_cell? w _ hw188_2)).trans hw188_2),((HB.out.cell (World.block_lt_of_cell? w _ hw188_3)).trans hw188_3),((HB.out.cell (World.block_lt_of_cell? w _ hw188_4)).trans hw188_4),((HB.out.cell (World.block_lt_of_cell? w _ hw188_5)).trans hw188_5),((HB.out.cell (World.block_lt_of_cell? w _ hw188_6)).trans hw188_6),((HB.out.cell (World.block_lt_of_cell? w _ hw188_7)).trans hw188_7),((HB.out.cell (World.block_lt_of_cell? w _ hw188_8)).trans hw188_8)⟩ (fun hHeld=>?_);refine with_tabW zan.tab25 zan.bits25 (fun HT_ HW_=>?_)
                    generalize w60.drew = w61 at BK179 BK186 HB hx188_0 hx188_1 hx188_2 hx188_3 hx188_4 hx188_5 hx188_6 hx188_7 hx188_8 hHeld ⊢
                    refine pure_ (i:=0) (N:=some 75) (v:=?_) (a':=?_) #[true,false,false,false,false,false,false,false,false,false,false,false,false] rfl rfl (zbx HT_.out (by kernel_rfl)) (fun _ _ _ h=>h) (Or.inl ⟨by rfl,?_⟩) ?_ ?_
                    rotate_left
                    ·intro w'
                     go_simp
                     with_reducible rfl
                    rotate_left
                    ·simp only [Act.put,List.setIfInBounds_toArray,List.set_cons_zero,List.set_cons_succ,i64_w,i32_w]
                     rfl
                    refine pure_ (i:=1) (N:=some 76) (v:=?_) (a':=?_) #[true,true,false,false,false,false,false,false,false,false,false,false,false] rfl rfl (zbx HT_.out (by kernel_rfl)) (fun _ _ _ h=>h) (Or.inl ⟨by rfl,?_⟩) ?_ ?_
                    rotate_left
                    ·intro w'
                     go_simp
                     with_reducible rfl
                    rotate_left
                    ·simp only [Act.put,List.setIfInBounds_toArray,List.set_cons_zero,List.set_cons_succ,i64_w,i32_w]
                     rfl
                    refine pure_ (i:=2) (N:=some 77) (v:=?_) (a':=?_) #[true,true,true,false,false,false,false,false,false,false,false,false,false] rfl rfl (zbx HT_.out (by kernel_rfl)) (fun _ _ _ h=>h) (Or.inl ⟨by rfl,?_⟩) ?_ ?_
                    rotate_left
                    ·intro w'
                     go_simp
                     with_reducible rfl
                    rotate_left
                    ·simp only [Act.put,List.setIfInBounds_toArray,List.set_cons_zero,List.set_cons_succ,i64_w,i32_w]
                     rfl
                    refine pure_ (i:=4) (N:=some 79) (v:=?_) (a':=?_) #[true,true,true,false,true,false,false,false,false,false,false,false,false] rfl rfl (zbx HT_.out (by kernel_rfl)) (fun _ _ _ h=>h) (Or.inl ⟨by rfl,?_⟩) ?_ ?_
                    rotate_left
                    ·intro w'
                     go_simp
                     with_reducible rfl
                    rotate_left
                    ·simp only [Act.put,List.setIfInBounds_toArray,List.set_cons_zero,List.set_cons_succ,i64_w,i32_w]
                     rfl
                    refine pure_ (i:=6) (N:=some 81) (v:=?_) (a':=?_) #[true,true,true,false,true,false,true,false,false,false,false,false,false] rfl rfl (zbx HT_.out (by kernel_rfl)) (fun _ _ _ h=>h) (Or.inl ⟨by rfl,?_⟩) ?_ ?_
                    rotate_left
                    ·intro w'
                     go_simp
                     with_reducible rfl
                    rotate_left
                    ·simp only [Act.put,List.setIfInBounds_toArray,List.set_cons_zero,List.set_cons_succ,i64_w,i32_w]
                     rfl
                    refine pure_ (i:=7) (N:=some 82) (v:=?_) (a':=?_) #[true,true,true,false,true,false,true,true,false,false,false,false,false] rfl rfl (zbx HT_.out (by kernel_rfl)) (fun _ _ _ h=>h) (Or.inl ⟨by rfl,?_⟩) ?_ ?_
                    rotate_left
                    ·intro w'
                     go_simp
                     with_reducible rfl
                    rotate_left
                    ·simp only [Act.put,List.setIfInBounds_toArray,List.set_cons_zero,List.set_cons_succ,i64_w,i32_w]
                     rfl
                    refine take_ (i:=3) (N:=some 78) (v:=?_) (a':=?_) #[true,true,true,true,true,false,true,true,false,false,false,false,false] rfl rfl (take_ofW HT_.out HW_.out (by kernel_rfl)) (fun _ _ _ h=>h) (Or.inl ⟨by rfl,?_⟩) hHeld ?_ ?_
                    rotate_left
                    ·rintro w' ⟨s0,s1,s2,s3,s4,s5,s6,s7,s8,s9,s10,s11,s12,s13,s14,s15,s16,s17,s18,s19,s20⟩
                     go_simp
                     with_reducible rfl
                    rotate_left
                    ·simp only [Act.put,List.setIfInBounds_toArray,List.set_cons_zero,List.set_cons_succ,i64_w,i32_w]
                     rfl
                    refine take_ (i:=5) (N:=some 80) (v:=?_) (a':=?_) #[true,true,true,true,true,true,true,true,false,false,false,false,false] rfl rfl (take_ofW HT_.out HW_.out (by kernel_rfl)) (fun _ _ _ h=>h) (Or.inl ⟨by rfl,?_⟩) hHeld ?_ ?_
                    rotate_left
                    ·rintro w' ⟨s0,s1,s2,s3,s4,s5,s6,s7,s8,s9,s10,s11,s12,s13,s14,s15,s16,s17,s18,s19,s20⟩
                     go_simp
                     with_reducible rfl
                    rotate_left
                    ·simp only [Act.put,List.setIfInBounds_toArray,List.set_cons_zero,List.set_cons_succ,i64_w,i32_w]
                     rfl
                    refine pure_ (i:=8) (N:=some 83) (v:=?_) (a':=?_) #[true,true,true,true,true,true,true,true,true,false,false,false,false] rfl rfl (zbx HT_.out (by kernel_rfl)) (fun _ _ _ h=>h) (Or.inl ⟨by rfl,?_⟩) ?_ ?_
                    rotate_left
                    ·intro w'
                     go_simp
                     with_reducible rfl
                    rotate_left
                    ·simp only [Act.put,List.setIfInBounds_toArray,List.set_cons_zero,List.set_cons_succ,i64_w,i32_w]
                     rfl
                    refine take_ (i:=9) (N:=some 84) (v:=?_) (a':=?_) #[true,true,true,true,true,true,true,true,true,true,false,false,false] rfl rfl (take_ofW HT_.out HW_.out (by kernel_rfl)) (fun _ _ _ h=>h) (Or.inl ⟨by rfl,?_⟩) hHeld ?_ ?_
                    rotate_left
                    ·rintro w' ⟨s0,s1,s2,s3,s4,s5,s6,s7,s8,s9,s10,s11,s12,s13,s14,s15,s16,s17,s18,s19,s20⟩
                     go_simp
                     with_reducible rfl
                    rotate_left
                    ·simp only [Act.put,List.setIfInBounds_toArray,List.set_cons_zero,List.set_cons_succ,i64_w,i32_w]
                     rfl
                    refine one_ (i:=10) (N:=some 85) #[true,true,true,true,true,true,true,true,true,true,true,false,false] rfl rfl (one_of HT_.out (by kernel_rfl)) (by decide) (fun K hK=>?_)
                    refine goes_ Try.func30 (by kernel_rfl) rfl #[.agg #[.string ((zaj l0_2 x64_4).f0),.string ((zaj l0_2 x64_4).f1),.string ((zaj l0_2 x64_4).f2),.int .i64 ((zaj l0_2 x64_4).f3),.int .i64 ((zaj l0_2 x64_4).f4),.string ((zaj l0_2 x64_4).f5),.int .i64 ((zaj l0_2 x64_4).f6.f0),.int .i64 ((zaj l0_2 x64_4).f6.f1),.int .i64 ((zaj l0_2 x64_4).f6.f2)],.agg #[.string ((zaj l0_2 (ji51)).f0),.string ((zaj l0_2 (ji51)).f1),.string ((zaj l0_2 (ji51)).f2),.int .i64 ((zaj l0_2 (ji51)).f3),.int .i64 ((zaj l0_2 (ji51)).f4),.string ((zaj l0_2 (ji51)).f5),.int .i64 ((zaj l0_2 (ji51)).f6.f0),.int .i64 ((zaj l0_2 (ji51)).f6.f1),.int .i64 ((zaj l0_2 (ji51)).f6.f2)]] (by rfl) rfl rfl (by (try simp only [List.map_toArray,List.map_cons,List.map_nil]);first|done|(simp only [hji51];rfl)|rfl|(simp only [List.length_drop,List.length_take];rfl)) ?_
                    with_reducible refine (timetable_after.calls ((zaj l0_2 x64_4).f0) ((zaj l0_2 x64_4).f1) ((zaj l0_2 x64_4).f2) ((zaj l0_2 x64_4).f3) ((zaj l0_2 x64_4).f4) ((zaj l0_2 x64_4).f5) ((zaj l0_2 x64_4).f6.f0) ((zaj l0_2 x64_4).f6.f1) ((zaj l0_2 x64_4).f6.f2) ((zaj l0_2 (ji51)).f0) ((zaj l0_2 (ji51)).f1) ((zaj l0_2 (ji51)).f2) ((zaj l0_2 (ji51)).f3) ((zaj l0_2 (ji51)).f4) ((zaj l0_2 (ji51)).f5) ((zaj l0_2 (ji51)).f6.f0) ((zaj l0_2 (ji51)).f6.f1) ((zaj l0_2 (ji51)).f6.f2) true _ A54.out).mono ?_
                    rintro e w62 ⟨rfl,hb⟩
                    refine ⟨_,rfl,?_⟩
                    have n0_:=zac.mk (zat (g:=gb179) (o:=.cells #[.slice A0_0 l0_0.length c0_0,.slice A0_1 l0_1.length c0_1,.slice (some ad185) l0_2.length c0_2] 26 (0,0)) (by (with_reducible repeat (first|refine zah ?_ _|refine zak ?_|refine zag ?_ _));exact BK179.out) hb)
                    have n1_:=zac.mk (zat (g:=gb186) (o:=.cells #[.string ((zaj l0_2 x64_4).f0),.string ((zaj l0_2 x64_4).f1),.string ((zaj l0_2 x64_4).f2),.int .i64 ((zaj l0_2 x64_4).f3),.int .i64 ((zaj l0_2 x64_4).f4),.string ((zaj l0_2 x64_4).f5),.int .i64 ((zaj l0_2 x64_4).f6.f0),.int .i64 ((zaj l0_2 x64_4).f6.f1),.int .i64 ((zaj l0_2 x64_4).f6.f2)] 36 (0,0)) (by (with_reducible repeat (first|refine zah ?_ _|refine zak ?_|refine zag ?_ _));exact BK186.out) hb)
                    have n2_:=zac.mk (zao (by repeat (first|(with_reducible first|exact HB.out|apply zae|apply zab|apply zaf|refine zai ?_ GE179.out|refine zai ?_ GE186.out)|exact HB.out)) hb)
                    clear BK179
                    clear BK186
                    clear HB
                    have BK179:=n0_
                    have BK186:=n1_
                    have HB:=n2_
                    clear n0_ n1_ n2_
                    (try clear hb)
                    (try clear hb2)
                    (try clear hk)
                    (try clear hi)
                    refine hK.out _ _ ⟨(zad BK186.out 0).trans rfl,(zad BK186.out 1).trans rfl,(zad BK186.out 2).trans rfl,(zad BK186.out 3).trans rfl,(zad BK186.out 4).trans rfl,(zad BK186.out 5).trans rfl,(zad BK186.out 6).trans rfl,(zad BK186.out 7).trans rfl,(zad BK186.out 8).trans rfl,(zad BK179.out 0).trans rfl,(zad BK179.out 1).trans rfl,(zad BK179.out 2).trans rfl,((HB.out.cell (World.block_lt_of_cell? w _ hw188_0)).trans hw188_0),((HB.out.cell (World.block_lt_of_cell? w _ hw188_1)).trans hw188_1),((HB.out.cell (World.block_lt_of_cell? w _ hw188_2)).trans hw188_2),((HB.out.cell (World.block_lt_of_cell? w _ hw188_3)).trans hw188_3),((HB.out.cell (World.block_lt_of_cell? w _ hw188_4)).trans hw188_4),((HB.out.cell (World.block_lt_of_cell? w _ hw188_5)).trans hw188_5),((HB.out.cell (World.block_lt_of_cell? w _ hw188_6)).trans hw188_6),((HB.out.cell (World.block_lt_of_cell? w _ hw188_7)).trans hw188_7),((HB.out.cell (World.block_lt_of_cell? w _ hw188_8)).trans hw188_8)⟩ (fun hHeld=>?_)
                    clear hK K
                    refine norm_ (a':=?_) ?_ ?_
                    rotate_left
                    ·show Act.put _ (some 85) _ = _
                     simp only [Act.put,List.setIfInBounds_toArray,List.set_cons_zero,List.set_cons_succ,i64_w,i32_w]
                     rfl
                    refine pure_ (i:=11) (N:=some 86) (v:=?_) (a':=?_) #[true,true,true,true,true,true,true,true,true,true,true,true,false] rfl rfl (zbx HT_.out (by kernel_rfl)) (fun _ _ _ h=>h) (Or.inl ⟨by rfl,?_⟩) ?_ ?_
                    rotate_left
                    ·intro w'
                     go_simp
                     with_reducible rfl
                    rotate_left
                    ·simp only [Act.put,List.setIfInBounds_toArray,List.set_cons_zero,List.set_cons_succ,i64_w,i32_w]
                     rfl
                    refine pure_ (i:=12) (N:=some 87) (v:=?_) (a':=?_) #[true,true,true,true,true,true,true,true,true,true,true,true,true] rfl rfl (zbx HT_.out (by kernel_rfl)) (fun _ _ _ h=>h) (Or.inl ⟨by rfl,?_⟩) ?_ ?_
                    rotate_left
                    ·intro w'
                     go_simp
                     with_reducible rfl
                    rotate_left
                    ·simp only [Act.put,List.setIfInBounds_toArray,List.set_cons_zero,List.set_cons_succ,i64_w,i32_w]
                     rfl
                    refine done_ (done_of HT_.out (by kernel_rfl)) ?_
                    try go_wp2
                    go_roundg k4
                    case measure=>have:=HJ1.out;have:=HK2.out;have:=HK3.out;have:=HK4.out;omega
                    case rel=>exact ⟨(wrap64 (x64_4 + 1)),(by first|rfl|(simp;done)|(simp [*];done)),H',⟨by have:=HJ1.out;have:=HK2.out;have:=HK3.out;have:=HK4.out;omega⟩,⟨by (with_reducible repeat (first|refine zah ?_ _|refine zak ?_|refine zag ?_ _));exact BK179.out⟩,⟨by repeat (first|(with_reducible first|exact HB.out|apply zae|apply zab|apply zaf|refine zai ?_ GE179.out|refine zai ?_ GE186.out)|exact HB.out)⟩⟩
                   ·replace c55:=Bool.eq_false_iff.mpr c55
                    subst c55
                    have H1 : (some 8) = some r:=by rw [if_neg (show ¬ (false = true) by decide)] at H;exact H
                    clear H
                    have H:=H1
                    clear H1
                    obtain rfl:=Option.some.inj H
                    have p185 : 0 ≤ (x64_4 : Int):=of_decide_eq_true (by first|(with_reducible assumption)|assumption)
                    have q185 : x64_4 < (l0_2.length : Int):=of_decide_eq_true (by first|(with_reducible assumption)|assumption)
                    obtain ⟨ad185,e185,hx185_0,hx185_1,hx185_2,hx185_3,hx185_4,hx185_5,hx185_6,hx185_7,hx185_8⟩:=at_T36 HR0_2.out x64_4 p185 q185
                    cases e185
                    replace hx185_0:=(HB.out.cell (World.block_lt_of_cell? w _ hx185_0)).trans hx185_0
                    replace hx185_1:=(HB.out.cell (World.block_lt_of_cell? w _ hx185_1)).trans hx185_1
                    replace hx185_2:=(HB.out.cell (World.block_lt_of_cell? w _ hx185_2)).trans hx185_2
                    replace hx185_3:=(HB.out.cell (World.block_lt_of_cell? w _ hx185_3)).trans hx185_3
                    replace hx185_4:=(HB.out.cell (World.block_lt_of_cell? w _ hx185_4)).trans hx185_4
                    replace hx185_5:=(HB.out.cell (World.block_lt_of_cell? w _ hx185_5)).trans hx185_5
                    replace hx185_6:=(HB.out.cell (World.block_lt_of_cell? w _ hx185_6)).trans hx185_6
                    replace hx185_7:=(HB.out.cell (World.block_lt_of_cell? w _ hx185_7)).trans hx185_7
                    replace hx185_8:=(HB.out.cell (World.block_lt_of_cell? w _ hx185_8)).trans hx185_8
                    replace p185:=eq_true p185
                    replace q185:=eq_true q185
                    try go_wp2_with (first|((with_reducible refine zbh (N:=9) rfl ?_);(try (refine zci (by rfl) ?_;dsimp only));refine zbf ?hg (N:=9) ?hd (cs:=#[.string (⟨#[]⟩ : ByteArray),.string (⟨#[]⟩ : ByteArray),.string (⟨#[]⟩ : ByteArray),.int .i64 0,.int .i64 0,.string (⟨#[]⟩ : ByteArray),.int .i64 0,.int .i64 0,.int .i64 0]) (t:=36) ?hr ?_;(case hd=>rfl);(case hg=>rfl);(case hr=>first|(go_simp;done)|(go_simp;rfl));intro gb186 hg w63 hbox hb;have n0_:=zac.mk (zat (g:=gb179) (o:=.cells #[.slice A0_0 l0_0.length c0_0,.slice A0_1 l0_1.length c0_1,.slice (some ad185) l0_2.length c0_2] 26 (0,0)) (by (with_reducible repeat (first|refine zah ?_ _|refine zak ?_|refine zag ?_ _));exact BK179.out) hb);have n1_:=zac.mk (zao (by repeat (first|(with_reducible first|exact HB.out|apply zae|apply zab|apply zaf|refine zai ?_ GE179.out)|exact HB.out)) hb);have n2_:=zac.mk (hbox);have n3_:=zac.mk ((by rw [hg];exact (zam (by repeat (first|(with_reducible first|exact HB.out|apply zae|apply zab|apply zaf|refine zai ?_ GE179.out)|exact HB.out))) : w.heap.size ≤ gb186));have n4_:=zac.mk ((by rw [hg];exact (zam (by repeat (first|(with_reducible first|exact HB.out|apply zae|apply zab|apply zaf|refine zai ?_ GE179.out)|exact HB.out))) : w.heap.size ≤ gb186));have n5_:=zac.mk ((by rw [hg];exact Nat.ne_of_lt (zbq (g:=gb179) (o:=.cells #[.slice A0_0 l0_0.length c0_0,.slice A0_1 l0_1.length c0_1,.slice (some ad185) l0_2.length c0_2] 26 (0,0)) (by (with_reducible repeat (first|refine zah ?_ _|refine zak ?_|refine zag ?_ _));exact BK179.out)) : gb179 ≠ gb186));have n6_:=zac.mk ((by rw [hg];exact Nat.ne_of_gt (zbq (g:=gb179) (o:=.cells #[.slice A0_0 l0_0.length c0_0,.slice A0_1 l0_1.length c0_1,.slice (some ad185) l0_2.length c0_2] 26 (0,0)) (by (with_reducible repeat (first|refine zah ?_ _|refine zak ?_|refine zag ?_ _));exact BK179.out)) : gb186 ≠ gb179));clear BK179;clear HB;have BK179:=n0_;have HB:=n1_;have BK186:=n2_;have GW186:=n3_;have GE186:=n4_;have NB179_186:=n5_;have NB186_179:=n6_;clear n0_ n1_ n2_ n3_ n4_ n5_ n6_;clear hb hbox hg;have hnb64:=NB186_179.out;have hnc64:=NB179_186.out;have hcz65_0 : w63.cell? ⟨gb186,0,none⟩ = some (.string (⟨#[]⟩ : ByteArray)):=(zad BK186.out 0).trans rfl;have hcz65_1 : w63.cell? ⟨gb186,1,none⟩ = some (.string (⟨#[]⟩ : ByteArray)):=(zad BK186.out 1).trans rfl;have hcz65_2 : w63.cell? ⟨gb186,2,none⟩ = some (.string (⟨#[]⟩ : ByteArray)):=(zad BK186.out 2).trans rfl;have hcz65_3 : w63.cell? ⟨gb186,3,none⟩ = some (.int .i64 0):=(zad BK186.out 3).trans rfl;have hcz65_4 : w63.cell? ⟨gb186,4,none⟩ = some (.int .i64 0):=(zad BK186.out 4).trans rfl;have hcz65_5 : w63.cell? ⟨gb186,5,none⟩ = some (.string (⟨#[]⟩ : ByteArray)):=(zad BK186.out 5).trans rfl;have hcz65_6 : w63.cell? ⟨gb186,6,none⟩ = some (.int .i64 0):=(zad BK186.out 6).trans rfl;have hcz65_7 : w63.cell? ⟨gb186,7,none⟩ = some (.int .i64 0):=(zad BK186.out 7).trans rfl;have hcz65_8 : w63.cell? ⟨gb186,8,none⟩ = some (.int .i64 0):=(zad BK186.out 8).trans rfl;have hfz65_0:=zaa BK186.out 0;have hfz65_1:=zaa BK186.out 1;have hfz65_2:=zaa BK186.out 2;have hfz65_3:=zaa BK186.out 3;have hfz65_4:=zaa BK186.out 4;have hfz65_5:=zaa BK186.out 5;have hfz65_6:=zaa BK186.out 6;have hfz65_7:=zaa BK186.out 7;have hfz65_8:=zaa BK186.out 8;have hcz66_0 : w63.cell? ⟨gb179,0,none⟩ = some (.slice A0_0 l0_0.length c0_0):=(zad BK179.out 0).trans rfl;have hcz66_1 : w63.cell? ⟨gb179,1,none⟩ = some (.slice A0_1 l0_1.length c0_1):=(zad BK179.out 1).trans rfl;have hcz66_2 : w63.cell? ⟨gb179,2,none⟩ = some (.slice (some ad185) l0_2.length c0_2):=(zad BK179.out 2).trans rfl;have hfz66_0:=zaa BK179.out 0;have hfz66_1:=zaa BK179.out 1;have hfz66_2:=zaa BK179.out 2)|((with_reducible refine zbe (f:=29) rfl ?_);refine zce (some 71) rfl rfl Try.func29 (by kernel_rfl) rfl #[.agg #[.slice A0_0 l0_0.length c0_0,.slice A0_1 l0_1.length c0_1,.slice (some ad185) l0_2.length c0_2],.agg #[.string ((zaj l0_2 x64_4).f0),.string ((zaj l0_2 x64_4).f1),.string ((zaj l0_2 x64_4).f2),.int .i64 ((zaj l0_2 x64_4).f3),.int .i64 ((zaj l0_2 x64_4).f4),.string ((zaj l0_2 x64_4).f5),.int .i64 ((zaj l0_2 x64_4).f6.f0),.int .i64 ((zaj l0_2 x64_4).f6.f1),.int .i64 ((zaj l0_2 x64_4).f6.f2)]] rfl (by (try simp only [List.map_toArray,List.map_cons,List.map_nil]);first|done|rfl|(simp only [List.length_drop,List.length_take];rfl)) ?_;(with_reducible refine (zau.calls k4 _ _ l0_0 _ _ l0_1 _ _ l0_2 ((zaj l0_2 x64_4).f0) ((zaj l0_2 x64_4).f1) ((zaj l0_2 x64_4).f2) ((zaj l0_2 x64_4).f3) ((zaj l0_2 x64_4).f4) ((zaj l0_2 x64_4).f5) ((zaj l0_2 x64_4).f6.f0) ((zaj l0_2 x64_4).f6.f1) ((zaj l0_2 x64_4).f6.f2) t187 _ ?side1 ?side2 ?side3 ?side4 ?side5 ?side6 A48.out).mono ?_);(case side1=>exact Kd.C_below HR0_0.out (by repeat (first|(with_reducible first|exact HB.out|apply zae|apply zab|apply zaf|refine zai ?_ GE179.out|refine zai ?_ GE186.out)|exact HB.out)));(case side2=>exact HC0_0.out);(case side3=>exact Kd.C_below HR0_1.out (by repeat (first|(with_reducible first|exact HB.out|apply zae|apply zab|apply zaf|refine zai ?_ GE179.out|refine zai ?_ GE186.out)|exact HB.out)));(case side4=>exact HC0_1.out);(case side5=>exact Kd.C_below HR0_2.out (by repeat (first|(with_reducible first|exact HB.out|apply zae|apply zab|apply zaf|refine zai ?_ GE179.out|refine zai ?_ GE186.out)|exact HB.out)));(case side6=>exact HC0_2.out);rintro e w67 ⟨rfl,hb⟩;refine ⟨_,rfl,?_⟩;have n0_:=zac.mk (zat (g:=gb179) (o:=.cells #[.slice A0_0 l0_0.length c0_0,.slice A0_1 l0_1.length c0_1,.slice (some ad185) l0_2.length c0_2] 26 (0,0)) (by (with_reducible repeat (first|refine zah ?_ _|refine zak ?_|refine zag ?_ _));refine zaz ?_ NB179_186.out _;(with_reducible repeat (first|refine zah ?_ _|refine zak ?_|refine zag ?_ _));refine zaz ?_ NB179_186.out _;(with_reducible repeat (first|refine zah ?_ _|refine zak ?_|refine zag ?_ _));refine zaz ?_ NB179_186.out _;(with_reducible repeat (first|refine zah ?_ _|refine zak ?_|refine zag ?_ _));refine zaz ?_ NB179_186.out _;(with_reducible repeat (first|refine zah ?_ _|refine zak ?_|refine zag ?_ _));refine zaz ?_ NB179_186.out _;(with_reducible repeat (first|refine zah ?_ _|refine zak ?_|refine zag ?_ _));refine zaz ?_ NB179_186.out _;(with_reducible repeat (first|refine zah ?_ _|refine zak ?_|refine zag ?_ _));refine zaz ?_ NB179_186.out _;(with_reducible repeat (first|refine zah ?_ _|refine zak ?_|refine zag ?_ _));refine zaz ?_ NB179_186.out _;(with_reducible repeat (first|refine zah ?_ _|refine zak ?_|refine zag ?_ _));refine zaz ?_ NB179_186.out _;(with_reducible repeat (first|refine zah ?_ _|refine zak ?_|refine zag ?_ _));exact BK179.out) hb);have n1_:=zac.mk (zat (g:=gb186) (o:=.cells #[.string ((zaj l0_2 x64_4).f0),.string ((zaj l0_2 x64_4).f1),.string ((zaj l0_2 x64_4).f2),.int .i64 ((zaj l0_2 x64_4).f3),.int .i64 ((zaj l0_2 x64_4).f4),.string ((zaj l0_2 x64_4).f5),.int .i64 ((zaj l0_2 x64_4).f6.f0),.int .i64 ((zaj l0_2 x64_4).f6.f1),.int .i64 ((zaj l0_2 x64_4).f6.f2)] 36 (0,0)) (by (with_reducible repeat (first|refine zah ?_ _|refine zak ?_|refine zag ?_ _));refine zaw (cs:=#[.string ((zaj l0_2 x64_4).f0),.string ((zaj l0_2 x64_4).f1),.string ((zaj l0_2 x64_4).f2),.int .i64 ((zaj l0_2 x64_4).f3),.int .i64 ((zaj l0_2 x64_4).f4),.string ((zaj l0_2 x64_4).f5),.int .i64 ((zaj l0_2 x64_4).f6.f0),.int .i64 ((zaj l0_2 x64_4).f6.f1),.int .i64 0]) ?_ 8 _ rfl;(with_reducible repeat (first|refine zah ?_ _|refine zak ?_|refine zag ?_ _));refine zaw (cs:=#[.string ((zaj l0_2 x64_4).f0),.string ((zaj l0_2 x64_4).f1),.string ((zaj l0_2 x64_4).f2),.int .i64 ((zaj l0_2 x64_4).f3),.int .i64 ((zaj l0_2 x64_4).f4),.string ((zaj l0_2 x64_4).f5),.int .i64 ((zaj l0_2 x64_4).f6.f0),.int .i64 0,.int .i64 0]) ?_ 7 _ rfl;(with_reducible repeat (first|refine zah ?_ _|refine zak ?_|refine zag ?_ _));refine zaw (cs:=#[.string ((zaj l0_2 x64_4).f0),.string ((zaj l0_2 x64_4).f1),.string ((zaj l0_2 x64_4).f2),.int .i64 ((zaj l0_2 x64_4).f3),.int .i64 ((zaj l0_2 x64_4).f4),.string ((zaj l0_2 x64_4).f5),.int .i64 0,.int .i64 0,.int .i64 0]) ?_ 6 _ rfl;(with_reducible repeat (first|refine zah ?_ _|refine zak ?_|refine zag ?_ _));refine zaw (cs:=#[.string ((zaj l0_2 x64_4).f0),.string ((zaj l0_2 x64_4).f1),.string ((zaj l0_2 x64_4).f2),.int .i64 ((zaj l0_2 x64_4).f3),.int .i64 ((zaj l0_2 x64_4).f4),.string (⟨#[]⟩ : ByteArray),.int .i64 0,.int .i64 0,.int .i64 0]) ?_ 5 _ rfl;(with_reducible repeat (first|refine zah ?_ _|refine zak ?_|refine zag ?_ _));refine zaw (cs:=#[.string ((zaj l0_2 x64_4).f0),.string ((zaj l0_2 x64_4).f1),.string ((zaj l0_2 x64_4).f2),.int .i64 ((zaj l0_2 x64_4).f3),.int .i64 0,.string (⟨#[]⟩ : ByteArray),.int .i64 0,.int .i64 0,.int .i64 0]) ?_ 4 _ rfl;(with_reducible repeat (first|refine zah ?_ _|refine zak ?_|refine zag ?_ _));refine zaw (cs:=#[.string ((zaj l0_2 x64_4).f0),.string ((zaj l0_2 x64_4).f1),.string ((zaj l0_2 x64_4).f2),.int .i64 0,.int .i64 0,.string (⟨#[]⟩ : ByteArray),.int .i64 0,.int .i64 0,.int .i64 0]) ?_ 3 _ rfl;(with_reducible repeat (first|refine zah ?_ _|refine zak ?_|refine zag ?_ _));refine zaw (cs:=#[.string ((zaj l0_2 x64_4).f0),.string ((zaj l0_2 x64_4).f1),.string (⟨#[]⟩ : ByteArray),.int .i64 0,.int .i64 0,.string (⟨#[]⟩ : ByteArray),.int .i64 0,.int .i64 0,.int .i64 0]) ?_ 2 _ rfl;(with_reducible repeat (first|refine zah ?_ _|refine zak ?_|refine zag ?_ _));refine zaw (cs:=#[.string ((zaj l0_2 x64_4).f0),.string (⟨#[]⟩ : ByteArray),.string (⟨#[]⟩ : ByteArray),.int .i64 0,.int .i64 0,.string (⟨#[]⟩ : ByteArray),.int .i64 0,.int .i64 0,.int .i64 0]) ?_ 1 _ rfl;(with_reducible repeat (first|refine zah ?_ _|refine zak ?_|refine zag ?_ _));refine zaw (cs:=#[.string (⟨#[]⟩ : ByteArray),.string (⟨#[]⟩ : ByteArray),.string (⟨#[]⟩ : ByteArray),.int .i64 0,.int .i64 0,.string (⟨#[]⟩ : ByteArray),.int .i64 0,.int .i64 0,.int .i64 0]) ?_ 0 _ rfl;(with_reducible repeat (first|refine zah ?_ _|refine zak ?_|refine zag ?_ _));exact BK186.out) hb);have n2_:=zac.mk (zao (by repeat (first|(with_reducible first|exact HB.out|apply zae|apply zab|apply zaf|refine zai ?_ GE179.out|refine zai ?_ GE186.out)|exact HB.out)) hb);clear BK179;clear BK186;clear HB;have BK179:=n0_;have BK186:=n1_;have HB:=n2_;clear n0_ n1_ n2_;(try clear hb);(try clear hb2);(try clear hk);(try clear hi)))
                    have n0_:=zac.mk (zak BK179.out)
                    have n1_:=zac.mk (zak BK186.out)
                    have n2_:=zac.mk (zaf HB.out)
                    clear BK179
                    clear BK186
                    clear HB
                    have BK179:=n0_
                    have BK186:=n1_
                    have HB:=n2_
                    clear n0_ n1_ n2_
                    have p188 : 0 ≤ ((ji51) : Int):=of_decide_eq_true (by first|(with_reducible assumption)|assumption)
                    have q188 : (ji51) < (l0_2.length : Int):=of_decide_eq_true (by first|(with_reducible assumption)|assumption)
                    obtain ⟨ad188,e188,hx188_0,hx188_1,hx188_2,hx188_3,hx188_4,hx188_5,hx188_6,hx188_7,hx188_8⟩:=at_T36 HR0_2.out (ji51) p188 q188
                    have hw188_8:=hx188_8
                    have hw188_7:=hx188_7
                    have hw188_6:=hx188_6
                    have hw188_5:=hx188_5
                    have hw188_4:=hx188_4
                    have hw188_3:=hx188_3
                    have hw188_2:=hx188_2
                    have hw188_1:=hx188_1
                    have hw188_0:=hx188_0
                    obtain rfl : ad185 = ad188:=(by injection e188)
                    replace hx188_0:=(HB.out.cell (World.block_lt_of_cell? w _ hx188_0)).trans hx188_0
                    replace hx188_1:=(HB.out.cell (World.block_lt_of_cell? w _ hx188_1)).trans hx188_1
                    replace hx188_2:=(HB.out.cell (World.block_lt_of_cell? w _ hx188_2)).trans hx188_2
                    replace hx188_3:=(HB.out.cell (World.block_lt_of_cell? w _ hx188_3)).trans hx188_3
                    replace hx188_4:=(HB.out.cell (World.block_lt_of_cell? w _ hx188_4)).trans hx188_4
                    replace hx188_5:=(HB.out.cell (World.block_lt_of_cell? w _ hx188_5)).trans hx188_5
                    replace hx188_6:=(HB.out.cell (World.block_lt_of_cell? w _ hx188_6)).trans hx188_6
                    replace hx188_7:=(HB.out.cell (World.block_lt_of_cell? w _ hx188_7)).trans hx188_7
                    replace hx188_8:=(HB.out.cell (World.block_lt_of_cell? w _ hx188_8)).trans hx188_8
                    replace p188:=eq_true p188
                    replace q188:=eq_true q188
                    refine start_ (n:=13) (S:=fun w'=>w'.cell? ⟨gb186,0,none⟩ = some (.string ((zaj l0_2 x64_4).f0)) ∧ w'.cell? ⟨gb186,1,none⟩ = some (.string ((zaj l0_2 x64_4).f1)) ∧ w'.cell? ⟨gb186,2,none⟩ = some (.string ((zaj l0_2 x64_4).f2)) ∧ w'.cell? ⟨gb186,3,none⟩ = some (.int .i64 ((zaj l0_2 x64_4).f3)) ∧ w'.cell? ⟨gb186,4,none⟩ = some (.int .i64 ((zaj l0_2 x64_4).f4)) ∧ w'.cell? ⟨gb186,5,none⟩ = some (.string ((zaj l0_2 x64_4).f5)) ∧ w'.cell? ⟨gb186,6,none⟩ = some (.int .i64 ((zaj l0_2 x64_4).f6.f0)) ∧ w'.cell? ⟨gb186,7,none⟩ = some (.int .i64 ((zaj l0_2 x64_4).f6.f1)) ∧ w'.cell? ⟨gb186,8,none⟩ = some (.int .i64 ((zaj l0_2 x64_4).f6.f2)) ∧ w'.cell? ⟨gb179,0,none⟩ = some (.slice A0_0 l0_0.length c0_0) ∧ w'.cell? ⟨gb179,1,none⟩ = some (.slice A0_1 l0_1.length c0_1) ∧ w'.cell? ⟨gb179,2,none⟩ = some (.slice (some ad185) l0_2.length c0_2) ∧ w'.cell? (ad185.add (((ji51)).toNat * 9)) = some (.string ((zaj l0_2 (ji51)).f0)) ∧ w'.cell? ⟨(ad185.add (((ji51)).toNat * 9)).block,(ad185.add (((ji51)).toNat * 9)).off + 1,none⟩ = some (.string ((zaj l0_2 (ji51)).f1)) ∧ w'.cell? ⟨(ad185.add (((ji51)).toNat * 9)).block,(ad185.add (((ji51)).toNat * 9)).off + 2,none⟩ = some (.string ((zaj l0_2 (ji51)).f2)) ∧ w'.cell? ⟨(ad185.add (((ji51)).toNat * 9)).block,(ad185.add (((ji51)).toNat * 9)).off + 3,none⟩ = some (.int .i64 ((zaj l0_2 (ji51)).f3)) ∧ w'.cell? ⟨(ad185.add (((ji51)).toNat * 9)).block,(ad185.add (((ji51)).toNat * 9)).off + 4,none⟩ = some (.int .i64 ((zaj l0_2 (ji51)).f4)) ∧ w'.cell? ⟨(ad185.add (((ji51)).toNat * 9)).block,(ad185.add (((ji51)).toNat * 9)).off + 5,none⟩ = some (.string ((zaj l0_2 (ji51)).f5)) ∧ w'.cell? ⟨(ad185.add (((ji51)).toNat * 9)).block,(ad185.add (((ji51)).toNat * 9)).off + 6,none⟩ = some (.int .i64 ((zaj l0_2 (ji51)).f6.f0)) ∧ w'.cell? ⟨(ad185.add (((ji51)).toNat * 9)).block,(ad185.add (((ji51)).toNat * 9)).off + 7,none⟩ = some (.int .i64 ((zaj l0_2 (ji51)).f6.f1)) ∧ w'.cell? ⟨(ad185.add (((ji51)).toNat * 9)).block,(ad185.add (((ji51)).toNat * 9)).off + 8,none⟩ = some (.int .i64 ((zaj l0_2 (ji51)).f6.f2))) (ds:=[]) #[false,false,false,false,false,false,false,false,false,false,false,false,false] (by kernel_rfl) rfl rfl ⟨(zad BK186.out 0).trans rfl,(zad BK186.out 1).trans rfl,(zad BK186.out 2).trans rfl,(zad BK186.out 3).trans rfl,(zad BK186.out 4).trans rfl,(zad BK186.out 5).trans rfl,(zad BK186.out 6).trans rfl,(zad BK186.out 7).trans rfl,(zad BK186.out 8).trans rfl,(zad BK179.out 0).trans rfl,(zad BK179.out 1).trans rfl,(zad BK179.out 2).trans rfl,((HB.out.cell (World.block_lt_of_cell? w _ hw188_0)).trans hw188_0),((HB.out.cell (World.block_lt_of_cell? w _ hw188_1)).trans hw188_1),((HB.out.cell (World.block_lt_of_cell? w _ hw188_2)).trans hw188_2),((HB.out.cell (World.block_lt_of_cell? w _ hw188_3)).trans hw188_3),((HB.out.cell (World.block_lt_of_cell? w _ hw188_4)).trans hw188_4),((HB.out.cell (World.block_lt_of_cell? w _ hw188_5)).trans hw188_5),((HB.out.cell (World.block_lt_of_cell? w _ hw188_6)).trans hw188_6),((HB.out.cell (World.block_lt_of_cell? w _ hw188_7)).trans hw188_7),((HB.out.cell (World.block_lt_of_cell? w _ hw188_8)).trans hw188_8)⟩ (fun hHeld=>?_);refine with_tabW zan.tab25 zan.bits25 (fun HT_ HW_=>?_)
                    generalize w67.drew = w68 at BK179 BK186 HB hx188_0 hx188_1 hx188_2 hx188_3 hx188_4 hx188_5 hx188_6 hx188_7 hx188_8 hHeld ⊢
                    refine pure_ (i:=0) (N:=some 75) (v:=?_) (a':=?_) #[true,false,false,false,false,false,false,false,false,false,false,false,false] rfl rfl (zbx HT_.out (by kernel_rfl)) (fun _ _ _ h=>h) (Or.inl ⟨by rfl,?_⟩) ?_ ?_
                    rotate_left
                    ·intro w'
                     go_simp
                     with_reducible rfl
                    rotate_left
                    ·simp only [Act.put,List.setIfInBounds_toArray,List.set_cons_zero,List.set_cons_succ,i64_w,i32_w]
                     rfl
                    refine pure_ (i:=1) (N:=some 76) (v:=?_) (a':=?_) #[true,true,false,false,false,false,false,false,false,false,false,false,false] rfl rfl (zbx HT_.out (by kernel_rfl)) (fun _ _ _ h=>h) (Or.inl ⟨by rfl,?_⟩) ?_ ?_
                    rotate_left
                    ·intro w'
                     go_simp
                     with_reducible rfl
                    rotate_left
                    ·simp only [Act.put,List.setIfInBounds_toArray,List.set_cons_zero,List.set_cons_succ,i64_w,i32_w]
                     rfl
                    refine pure_ (i:=2) (N:=some 77) (v:=?_) (a':=?_) #[true,true,true,false,false,false,false,false,false,false,false,false,false] rfl rfl (zbx HT_.out (by kernel_rfl)) (fun _ _ _ h=>h) (Or.inl ⟨by rfl,?_⟩) ?_ ?_
                    rotate_left
                    ·intro w'
                     go_simp
                     with_reducible rfl
                    rotate_left
                    ·simp only [Act.put,List.setIfInBounds_toArray,List.set_cons_zero,List.set_cons_succ,i64_w,i32_w]
                     rfl
                    refine pure_ (i:=4) (N:=some 79) (v:=?_) (a':=?_) #[true,true,true,false,true,false,false,false,false,false,false,false,false] rfl rfl (zbx HT_.out (by kernel_rfl)) (fun _ _ _ h=>h) (Or.inl ⟨by rfl,?_⟩) ?_ ?_
                    rotate_left
                    ·intro w'
                     go_simp
                     with_reducible rfl
                    rotate_left
                    ·simp only [Act.put,List.setIfInBounds_toArray,List.set_cons_zero,List.set_cons_succ,i64_w,i32_w]
                     rfl
                    refine pure_ (i:=6) (N:=some 81) (v:=?_) (a':=?_) #[true,true,true,false,true,false,true,false,false,false,false,false,false] rfl rfl (zbx HT_.out (by kernel_rfl)) (fun _ _ _ h=>h) (Or.inl ⟨by rfl,?_⟩) ?_ ?_
                    rotate_left
                    ·intro w'
                     go_simp
                     with_reducible rfl
                    rotate_left
                    ·simp only [Act.put,List.setIfInBounds_toArray,List.set_cons_zero,List.set_cons_succ,i64_w,i32_w]
                     rfl
                    refine pure_ (i:=7) (N:=some 82) (v:=?_) (a':=?_) #[true,true,true,false,true,false,true,true,false,false,false,false,false] rfl rfl (zbx HT_.out (by kernel_rfl)) (fun _ _ _ h=>h) (Or.inl ⟨by rfl,?_⟩) ?_ ?_
                    rotate_left
                    ·intro w'
                     go_simp
                     with_reducible rfl
                    rotate_left
                    ·simp only [Act.put,List.setIfInBounds_toArray,List.set_cons_zero,List.set_cons_succ,i64_w,i32_w]
                     rfl
                    refine take_ (i:=3) (N:=some 78) (v:=?_) (a':=?_) #[true,true,true,true,true,false,true,true,false,false,false,false,false] rfl rfl (take_ofW HT_.out HW_.out (by kernel_rfl)) (fun _ _ _ h=>h) (Or.inl ⟨by rfl,?_⟩) hHeld ?_ ?_
                    rotate_left
                    ·rintro w' ⟨s0,s1,s2,s3,s4,s5,s6,s7,s8,s9,s10,s11,s12,s13,s14,s15,s16,s17,s18,s19,s20⟩
                     go_simp
                     with_reducible rfl
                    rotate_left
                    ·simp only [Act.put,List.setIfInBounds_toArray,List.set_cons_zero,List.set_cons_succ,i64_w,i32_w]
                     rfl
                    refine take_ (i:=5) (N:=some 80) (v:=?_) (a':=?_) #[true,true,true,true,true,true,true,true,false,false,false,false,false] rfl rfl (take_ofW HT_.out HW_.out (by kernel_rfl)) (fun _ _ _ h=>h) (Or.inl ⟨by rfl,?_⟩) hHeld ?_ ?_
                    rotate_left
                    ·rintro w' ⟨s0,s1,s2,s3,s4,s5,s6,s7,s8,s9,s10,s11,s12,s13,s14,s15,s16,s17,s18,s19,s20⟩
                     go_simp
                     with_reducible rfl
                    rotate_left
                    ·simp only [Act.put,List.setIfInBounds_toArray,List.set_cons_zero,List.set_cons_succ,i64_w,i32_w]
                     rfl
                    refine pure_ (i:=8) (N:=some 83) (v:=?_) (a':=?_) #[true,true,true,true,true,true,true,true,true,false,false,false,false] rfl rfl (zbx HT_.out (by kernel_rfl)) (fun _ _ _ h=>h) (Or.inl ⟨by rfl,?_⟩) ?_ ?_
                    rotate_left
                    ·intro w'
                     go_simp
                     with_reducible rfl
                    rotate_left
                    ·simp only [Act.put,List.setIfInBounds_toArray,List.set_cons_zero,List.set_cons_succ,i64_w,i32_w]
                     rfl
                    refine take_ (i:=9) (N:=some 84) (v:=?_) (a':=?_) #[true,true,true,true,true,true,true,true,true,true,false,false,false] rfl rfl (take_ofW HT_.out HW_.out (by kernel_rfl)) (fun _ _ _ h=>h) (Or.inl ⟨by rfl,?_⟩) hHeld ?_ ?_
                    rotate_left
                    ·rintro w' ⟨s0,s1,s2,s3,s4,s5,s6,s7,s8,s9,s10,s11,s12,s13,s14,s15,s16,s17,s18,s19,s20⟩
                     go_simp
                     with_reducible rfl
                    rotate_left
                    ·simp only [Act.put,List.setIfInBounds_toArray,List.set_cons_zero,List.set_cons_succ,i64_w,i32_w]
                     rfl
                    refine one_ (i:=10) (N:=some 85) #[true,true,true,true,true,true,true,true,true,true,true,false,false] rfl rfl (one_of HT_.out (by kernel_rfl)) (by decide) (fun K hK=>?_)
                    refine goes_ Try.func30 (by kernel_rfl) rfl #[.agg #[.string ((zaj l0_2 x64_4).f0),.string ((zaj l0_2 x64_4).f1),.string ((zaj l0_2 x64_4).f2),.int .i64 ((zaj l0_2 x64_4).f3),.int .i64 ((zaj l0_2 x64_4).f4),.string ((zaj l0_2 x64_4).f5),.int .i64 ((zaj l0_2 x64_4).f6.f0),.int .i64 ((zaj l0_2 x64_4).f6.f1),.int .i64 ((zaj l0_2 x64_4).f6.f2)],.agg #[.string ((zaj l0_2 (ji51)).f0),.string ((zaj l0_2 (ji51)).f1),.string ((zaj l0_2 (ji51)).f2),.int .i64 ((zaj l0_2 (ji51)).f3),.int .i64 ((zaj l0_2 (ji51)).f4),.string ((zaj l0_2 (ji51)).f5),.int .i64 ((zaj l0_2 (ji51)).f6.f0),.int .i64 ((zaj l0_2 (ji51)).f6.f1),.int .i64 ((zaj l0_2 (ji51)).f6.f2)]] (by rfl) rfl rfl (by (try simp only [List.map_toArray,List.map_cons,List.map_nil]);first|done|(simp only [hji51];rfl)|rfl|(simp only [List.length_drop,List.length_take];rfl)) ?_
                    with_reducible refine (timetable_after.calls ((zaj l0_2 x64_4).f0) ((zaj l0_2 x64_4).f1) ((zaj l0_2 x64_4).f2) ((zaj l0_2 x64_4).f3) ((zaj l0_2 x64_4).f4) ((zaj l0_2 x64_4).f5) ((zaj l0_2 x64_4).f6.f0) ((zaj l0_2 x64_4).f6.f1) ((zaj l0_2 x64_4).f6.f2) ((zaj l0_2 (ji51)).f0) ((zaj l0_2 (ji51)).f1) ((zaj l0_2 (ji51)).f2) ((zaj l0_2 (ji51)).f3) ((zaj l0_2 (ji51)).f4) ((zaj l0_2 (ji51)).f5) ((zaj l0_2 (ji51)).f6.f0) ((zaj l0_2 (ji51)).f6.f1) ((zaj l0_2 (ji51)).f6.f2) false _ A54.out).mono ?_
                    rintro e w69 ⟨rfl,hb⟩
                    refine ⟨_,rfl,?_⟩
                    have n0_:=zac.mk (zat (g:=gb179) (o:=.cells #[.slice A0_0 l0_0.length c0_0,.slice A0_1 l0_1.length c0_1,.slice (some ad185) l0_2.length c0_2] 26 (0,0)) (by (with_reducible repeat (first|refine zah ?_ _|refine zak ?_|refine zag ?_ _));exact BK179.out) hb)
                    have n1_:=zac.mk (zat (g:=gb186) (o:=.cells #[.string ((zaj l0_2 x64_4).f0),.string ((zaj l0_2 x64_4).f1),.string ((zaj l0_2 x64_4).f2),.int .i64 ((zaj l0_2 x64_4).f3),.int .i64 ((zaj l0_2 x64_4).f4),.string ((zaj l0_2 x64_4).f5),.int .i64 ((zaj l0_2 x64_4).f6.f0),.int .i64 ((zaj l0_2 x64_4).f6.f1),.int .i64 ((zaj l0_2 x64_4).f6.f2)] 36 (0,0)) (by (with_reducible repeat (first|refine zah ?_ _|refine zak ?_|refine zag ?_ _));exact BK186.out) hb)
                    have n2_:=zac.mk (zao (by repeat (first|(with_reducible first|exact HB.out|apply zae|apply zab|apply zaf|refine zai ?_ GE179.out|refine zai ?_ GE186.out)|exact HB.out)) hb)
                    clear BK179
                    clear BK186
                    clear HB
                    have BK179:=n0_
                    have BK186:=n1_
                    have HB:=n2_
                    clear n0_ n1_ n2_
                    (try clear hb)
                    (try clear hb2)
                    (try clear hk)
                    (try clear hi)
                    refine hK.out _ _ ⟨(zad BK186.out 0).trans rfl,(zad BK186.out 1).trans rfl,(zad BK186.out 2).trans rfl,(zad BK186.out 3).trans rfl,(zad BK186.out 4).trans rfl,(zad BK186.out 5).trans rfl,(zad BK186.out 6).trans rfl,(zad BK186.out 7).trans rfl,(zad BK186.out 8).trans rfl,(zad BK179.out 0).trans rfl,(zad BK179.out 1).trans rfl,(zad BK179.out 2).trans rfl,((HB.out.cell (World.block_lt_of_cell? w _ hw188_0)).trans hw188_0),((HB.out.cell (World.block_lt_of_cell? w _ hw188_1)).trans hw188_1),((HB.out.cell (World.block_lt_of_cell? w _ hw188_2)).trans hw188_2),((HB.out.cell (World.block_lt_of_cell? w _ hw188_3)).trans hw188_3),((HB.out.cell (World.block_lt_of_cell? w _ hw188_4)).trans hw188_4),((HB.out.cell (World.block_lt_of_cell? w _ hw188_5)).trans hw188_5),((HB.out.cell (World.block_lt_of_cell? w _ hw188_6)).trans hw188_6),((HB.out.cell (World.block_lt_of_cell? w _ hw188_7)).trans hw188_7),((HB.out.cell (World.block_lt_of_cell? w _ hw188_8)).trans hw188_8)⟩ (fun hHeld=>?_)
                    clear hK K
                    refine norm_ (a':=?_) ?_ ?_
                    rotate_left
                    ·show Act.put _ (some 85) _ = _
                     simp only [Act.put,List.setIfInBounds_toArray,List.set_cons_zero,List.set_cons_succ,i64_w,i32_w]
                     rfl
                    refine pure_ (i:=11) (N:=some 86) (v:=?_) (a':=?_) #[true,true,true,true,true,true,true,true,true,true,true,true,false] rfl rfl (zbx HT_.out (by kernel_rfl)) (fun _ _ _ h=>h) (Or.inl ⟨by rfl,?_⟩) ?_ ?_
                    rotate_left
                    ·intro w'
                     go_simp
                     with_reducible rfl
                    rotate_left
                    ·simp only [Act.put,List.setIfInBounds_toArray,List.set_cons_zero,List.set_cons_succ,i64_w,i32_w]
                     rfl
                    refine pure_ (i:=12) (N:=some 87) (v:=?_) (a':=?_) #[true,true,true,true,true,true,true,true,true,true,true,true,true] rfl rfl (zbx HT_.out (by kernel_rfl)) (fun _ _ _ h=>h) (Or.inl ⟨by rfl,?_⟩) ?_ ?_
                    rotate_left
                    ·intro w'
                     go_simp
                     with_reducible rfl
                    rotate_left
                    ·simp only [Act.put,List.setIfInBounds_toArray,List.set_cons_zero,List.set_cons_succ,i64_w,i32_w]
                     rfl
                    refine done_ (done_of HT_.out (by kernel_rfl)) ?_
                    try go_wp2
                    go_ret
                    exact ⟨by first|rfl|(simp [errW_none,errW_some] <;> rfl)|(simp only [← hji51];first|rfl|(simp [errW_none,errW_some] <;> rfl))|(simp [*,errW_none,errW_some] <;> rfl),by repeat (first|(with_reducible first|exact HB.out|apply zae|apply zab|apply zaf|refine zai ?_ GE179.out|refine zai ?_ GE186.out)|exact HB.out)⟩
                  ·rw [if_neg c53] at H
                   exact absurd H (by simp)
                 ·rw [if_neg c52] at H
                  exact absurd H (by simp)
                ·rw [if_neg c50] at H
                 have c50b0 : decide (0 < x64_4) = false:=decide_eq_false c50
                 clear c50
                 have H':=zac.mk H
                 clear H
                 have p185 : 0 ≤ (x64_4 : Int):=of_decide_eq_true (by first|(with_reducible assumption)|assumption)
                 have q185 : x64_4 < (l0_2.length : Int):=of_decide_eq_true (by first|(with_reducible assumption)|assumption)
                 obtain ⟨ad185,e185,hx185_0,hx185_1,hx185_2,hx185_3,hx185_4,hx185_5,hx185_6,hx185_7,hx185_8⟩:=at_T36 HR0_2.out x64_4 p185 q185
                 cases e185
                 replace hx185_0:=(HB.out.cell (World.block_lt_of_cell? w _ hx185_0)).trans hx185_0
                 replace hx185_1:=(HB.out.cell (World.block_lt_of_cell? w _ hx185_1)).trans hx185_1
                 replace hx185_2:=(HB.out.cell (World.block_lt_of_cell? w _ hx185_2)).trans hx185_2
                 replace hx185_3:=(HB.out.cell (World.block_lt_of_cell? w _ hx185_3)).trans hx185_3
                 replace hx185_4:=(HB.out.cell (World.block_lt_of_cell? w _ hx185_4)).trans hx185_4
                 replace hx185_5:=(HB.out.cell (World.block_lt_of_cell? w _ hx185_5)).trans hx185_5
                 replace hx185_6:=(HB.out.cell (World.block_lt_of_cell? w _ hx185_6)).trans hx185_6
                 replace hx185_7:=(HB.out.cell (World.block_lt_of_cell? w _ hx185_7)).trans hx185_7
                 replace hx185_8:=(HB.out.cell (World.block_lt_of_cell? w _ hx185_8)).trans hx185_8
                 replace p185:=eq_true p185
                 replace q185:=eq_true q185
                 try go_wp2_with (first|((with_reducible refine zbh (N:=9) rfl ?_);(try (refine zci (by rfl) ?_;dsimp only));refine zbf ?hg (N:=9) ?hd (cs:=#[.string (⟨#[]⟩ : ByteArray),.string (⟨#[]⟩ : ByteArray),.string (⟨#[]⟩ : ByteArray),.int .i64 0,.int .i64 0,.string (⟨#[]⟩ : ByteArray),.int .i64 0,.int .i64 0,.int .i64 0]) (t:=36) ?hr ?_;(case hd=>rfl);(case hg=>rfl);(case hr=>first|(go_simp;done)|(go_simp;rfl));intro gb186 hg w70 hbox hb;have n0_:=zac.mk (zat (g:=gb179) (o:=.cells #[.slice A0_0 l0_0.length c0_0,.slice A0_1 l0_1.length c0_1,.slice (some ad185) l0_2.length c0_2] 26 (0,0)) (by (with_reducible repeat (first|refine zah ?_ _|refine zak ?_|refine zag ?_ _));exact BK179.out) hb);have n1_:=zac.mk (zao (by repeat (first|(with_reducible first|exact HB.out|apply zae|apply zab|apply zaf|refine zai ?_ GE179.out)|exact HB.out)) hb);have n2_:=zac.mk (hbox);have n3_:=zac.mk ((by rw [hg];exact (zam (by repeat (first|(with_reducible first|exact HB.out|apply zae|apply zab|apply zaf|refine zai ?_ GE179.out)|exact HB.out))) : w.heap.size ≤ gb186));have n4_:=zac.mk ((by rw [hg];exact (zam (by repeat (first|(with_reducible first|exact HB.out|apply zae|apply zab|apply zaf|refine zai ?_ GE179.out)|exact HB.out))) : w.heap.size ≤ gb186));have n5_:=zac.mk ((by rw [hg];exact Nat.ne_of_lt (zbq (g:=gb179) (o:=.cells #[.slice A0_0 l0_0.length c0_0,.slice A0_1 l0_1.length c0_1,.slice (some ad185) l0_2.length c0_2] 26 (0,0)) (by (with_reducible repeat (first|refine zah ?_ _|refine zak ?_|refine zag ?_ _));exact BK179.out)) : gb179 ≠ gb186));have n6_:=zac.mk ((by rw [hg];exact Nat.ne_of_gt (zbq (g:=gb179) (o:=.cells #[.slice A0_0 l0_0.length c0_0,.slice A0_1 l0_1.length c0_1,.slice (some ad185) l0_2.length c0_2] 26 (0,0)) (by (with_reducible repeat (first|refine zah ?_ _|refine zak ?_|refine zag ?_ _));exact BK179.out)) : gb186 ≠ gb179));clear BK179;clear HB;have BK179:=n0_;have HB:=n1_;have BK186:=n2_;have GW186:=n3_;have GE186:=n4_;have NB179_186:=n5_;have NB186_179:=n6_;clear n0_ n1_ n2_ n3_ n4_ n5_ n6_;clear hb hbox hg;have hnb71:=NB186_179.out;have hnc71:=NB179_186.out;have hcz72_0 : w70.cell? ⟨gb186,0,none⟩ = some (.string (⟨#[]⟩ : ByteArray)):=(zad BK186.out 0).trans rfl;have hcz72_1 : w70.cell? ⟨gb186,1,none⟩ = some (.string (⟨#[]⟩ : ByteArray)):=(zad BK186.out 1).trans rfl;have hcz72_2 : w70.cell? ⟨gb186,2,none⟩ = some (.string (⟨#[]⟩ : ByteArray)):=(zad BK186.out 2).trans rfl;have hcz72_3 : w70.cell? ⟨gb186,3,none⟩ = some (.int .i64 0):=(zad BK186.out 3).trans rfl;have hcz72_4 : w70.cell? ⟨gb186,4,none⟩ = some (.int .i64 0):=(zad BK186.out 4).trans rfl;have hcz72_5 : w70.cell? ⟨gb186,5,none⟩ = some (.string (⟨#[]⟩ : ByteArray)):=(zad BK186.out 5).trans rfl;have hcz72_6 : w70.cell? ⟨gb186,6,none⟩ = some (.int .i64 0):=(zad BK186.out 6).trans rfl;have hcz72_7 : w70.cell? ⟨gb186,7,none⟩ = some (.int .i64 0):=(zad BK186.out 7).trans rfl;have hcz72_8 : w70.cell? ⟨gb186,8,none⟩ = some (.int .i64 0):=(zad BK186.out 8).trans rfl;have hfz72_0:=zaa BK186.out 0;have hfz72_1:=zaa BK186.out 1;have hfz72_2:=zaa BK186.out 2;have hfz72_3:=zaa BK186.out 3;have hfz72_4:=zaa BK186.out 4;have hfz72_5:=zaa BK186.out 5;have hfz72_6:=zaa BK186.out 6;have hfz72_7:=zaa BK186.out 7;have hfz72_8:=zaa BK186.out 8;have hcz73_0 : w70.cell? ⟨gb179,0,none⟩ = some (.slice A0_0 l0_0.length c0_0):=(zad BK179.out 0).trans rfl;have hcz73_1 : w70.cell? ⟨gb179,1,none⟩ = some (.slice A0_1 l0_1.length c0_1):=(zad BK179.out 1).trans rfl;have hcz73_2 : w70.cell? ⟨gb179,2,none⟩ = some (.slice (some ad185) l0_2.length c0_2):=(zad BK179.out 2).trans rfl;have hfz73_0:=zaa BK179.out 0;have hfz73_1:=zaa BK179.out 1;have hfz73_2:=zaa BK179.out 2)|((with_reducible refine zbe (f:=29) rfl ?_);refine zce (some 71) rfl rfl Try.func29 (by kernel_rfl) rfl #[.agg #[.slice A0_0 l0_0.length c0_0,.slice A0_1 l0_1.length c0_1,.slice (some ad185) l0_2.length c0_2],.agg #[.string ((zaj l0_2 x64_4).f0),.string ((zaj l0_2 x64_4).f1),.string ((zaj l0_2 x64_4).f2),.int .i64 ((zaj l0_2 x64_4).f3),.int .i64 ((zaj l0_2 x64_4).f4),.string ((zaj l0_2 x64_4).f5),.int .i64 ((zaj l0_2 x64_4).f6.f0),.int .i64 ((zaj l0_2 x64_4).f6.f1),.int .i64 ((zaj l0_2 x64_4).f6.f2)]] rfl (by (try simp only [List.map_toArray,List.map_cons,List.map_nil]);first|done|rfl|(simp only [List.length_drop,List.length_take];rfl)) ?_;(with_reducible refine (zau.calls k4 _ _ l0_0 _ _ l0_1 _ _ l0_2 ((zaj l0_2 x64_4).f0) ((zaj l0_2 x64_4).f1) ((zaj l0_2 x64_4).f2) ((zaj l0_2 x64_4).f3) ((zaj l0_2 x64_4).f4) ((zaj l0_2 x64_4).f5) ((zaj l0_2 x64_4).f6.f0) ((zaj l0_2 x64_4).f6.f1) ((zaj l0_2 x64_4).f6.f2) t187 _ ?side1 ?side2 ?side3 ?side4 ?side5 ?side6 A48.out).mono ?_);(case side1=>exact Kd.C_below HR0_0.out (by repeat (first|(with_reducible first|exact HB.out|apply zae|apply zab|apply zaf|refine zai ?_ GE179.out|refine zai ?_ GE186.out)|exact HB.out)));(case side2=>exact HC0_0.out);(case side3=>exact Kd.C_below HR0_1.out (by repeat (first|(with_reducible first|exact HB.out|apply zae|apply zab|apply zaf|refine zai ?_ GE179.out|refine zai ?_ GE186.out)|exact HB.out)));(case side4=>exact HC0_1.out);(case side5=>exact Kd.C_below HR0_2.out (by repeat (first|(with_reducible first|exact HB.out|apply zae|apply zab|apply zaf|refine zai ?_ GE179.out|refine zai ?_ GE186.out)|exact HB.out)));(case side6=>exact HC0_2.out);rintro e w74 ⟨rfl,hb⟩;refine ⟨_,rfl,?_⟩;have n0_:=zac.mk (zat (g:=gb179) (o:=.cells #[.slice A0_0 l0_0.length c0_0,.slice A0_1 l0_1.length c0_1,.slice (some ad185) l0_2.length c0_2] 26 (0,0)) (by (with_reducible repeat (first|refine zah ?_ _|refine zak ?_|refine zag ?_ _));refine zaz ?_ NB179_186.out _;(with_reducible repeat (first|refine zah ?_ _|refine zak ?_|refine zag ?_ _));refine zaz ?_ NB179_186.out _;(with_reducible repeat (first|refine zah ?_ _|refine zak ?_|refine zag ?_ _));refine zaz ?_ NB179_186.out _;(with_reducible repeat (first|refine zah ?_ _|refine zak ?_|refine zag ?_ _));refine zaz ?_ NB179_186.out _;(with_reducible repeat (first|refine zah ?_ _|refine zak ?_|refine zag ?_ _));refine zaz ?_ NB179_186.out _;(with_reducible repeat (first|refine zah ?_ _|refine zak ?_|refine zag ?_ _));refine zaz ?_ NB179_186.out _;(with_reducible repeat (first|refine zah ?_ _|refine zak ?_|refine zag ?_ _));refine zaz ?_ NB179_186.out _;(with_reducible repeat (first|refine zah ?_ _|refine zak ?_|refine zag ?_ _));refine zaz ?_ NB179_186.out _;(with_reducible repeat (first|refine zah ?_ _|refine zak ?_|refine zag ?_ _));refine zaz ?_ NB179_186.out _;(with_reducible repeat (first|refine zah ?_ _|refine zak ?_|refine zag ?_ _));exact BK179.out) hb);have n1_:=zac.mk (zat (g:=gb186) (o:=.cells #[.string ((zaj l0_2 x64_4).f0),.string ((zaj l0_2 x64_4).f1),.string ((zaj l0_2 x64_4).f2),.int .i64 ((zaj l0_2 x64_4).f3),.int .i64 ((zaj l0_2 x64_4).f4),.string ((zaj l0_2 x64_4).f5),.int .i64 ((zaj l0_2 x64_4).f6.f0),.int .i64 ((zaj l0_2 x64_4).f6.f1),.int .i64 ((zaj l0_2 x64_4).f6.f2)] 36 (0,0)) (by (with_reducible repeat (first|refine zah ?_ _|refine zak ?_|refine zag ?_ _));refine zaw (cs:=#[.string ((zaj l0_2 x64_4).f0),.string ((zaj l0_2 x64_4).f1),.string ((zaj l0_2 x64_4).f2),.int .i64 ((zaj l0_2 x64_4).f3),.int .i64 ((zaj l0_2 x64_4).f4),.string ((zaj l0_2 x64_4).f5),.int .i64 ((zaj l0_2 x64_4).f6.f0),.int .i64 ((zaj l0_2 x64_4).f6.f1),.int .i64 0]) ?_ 8 _ rfl;(with_reducible repeat (first|refine zah ?_ _|refine zak ?_|refine zag ?_ _));refine zaw (cs:=#[.string ((zaj l0_2 x64_4).f0),.string ((zaj l0_2 x64_4).f1),.string ((zaj l0_2 x64_4).f2),.int .i64 ((zaj l0_2 x64_4).f3),.int .i64 ((zaj l0_2 x64_4).f4),.string ((zaj l0_2 x64_4).f5),.int .i64 ((zaj l0_2 x64_4).f6.f0),.int .i64 0,.int .i64 0]) ?_ 7 _ rfl;(with_reducible repeat (first|refine zah ?_ _|refine zak ?_|refine zag ?_ _));refine zaw (cs:=#[.string ((zaj l0_2 x64_4).f0),.string ((zaj l0_2 x64_4).f1),.string ((zaj l0_2 x64_4).f2),.int .i64 ((zaj l0_2 x64_4).f3),.int .i64 ((zaj l0_2 x64_4).f4),.string ((zaj l0_2 x64_4).f5),.int .i64 0,.int .i64 0,.int .i64 0]) ?_ 6 _ rfl;(with_reducible repeat (first|refine zah ?_ _|refine zak ?_|refine zag ?_ _));refine zaw (cs:=#[.string ((zaj l0_2 x64_4).f0),.string ((zaj l0_2 x64_4).f1),.string ((zaj l0_2 x64_4).f2),.int .i64 ((zaj l0_2 x64_4).f3),.int .i64 ((zaj l0_2 x64_4).f4),.string (⟨#[]⟩ : ByteArray),.int .i64 0,.int .i64 0,.int .i64 0]) ?_ 5 _ rfl;(with_reducible repeat (first|refine zah ?_ _|refine zak ?_|refine zag ?_ _));refine zaw (cs:=#[.string ((zaj l0_2 x64_4).f0),.string ((zaj l0_2 x64_4).f1),.string ((zaj l0_2 x64_4).f2),.int .i64 ((zaj l0_2 x64_4).f3),.int .i64 0,.string (⟨#[]⟩ : ByteArray),.int .i64 0,.int .i64 0,.int .i64 0]) ?_ 4 _ rfl;(with_reducible repeat (first|refine zah ?_ _|refine zak ?_|refine zag ?_ _));refine zaw (cs:=#[.string ((zaj l0_2 x64_4).f0),.string ((zaj l0_2 x64_4).f1),.string ((zaj l0_2 x64_4).f2),.int .i64 0,.int .i64 0,.string (⟨#[]⟩ : ByteArray),.int .i64 0,.int .i64 0,.int .i64 0]) ?_ 3 _ rfl;(with_reducible repeat (first|refine zah ?_ _|refine zak ?_|refine zag ?_ _));refine zaw (cs:=#[.string ((zaj l0_2 x64_4).f0),.string ((zaj l0_2 x64_4).f1),.string (⟨#[]⟩ : ByteArray),.int .i64 0,.int .i64 0,.string (⟨#[]⟩ : ByteArray),.int .i64 0,.int .i64 0,.int .i64 0]) ?_ 2 _ rfl;(with_reducible repeat (first|refine zah ?_ _|refine zak ?_|refine zag ?_ _));refine zaw (cs:=#[.string ((zaj l0_2 x64_4).f0),.string (⟨#[]⟩ : ByteArray),.string (⟨#[]⟩ : ByteArray),.int .i64 0,.int .i64 0,.string (⟨#[]⟩ : ByteArray),.int .i64 0,.int .i64 0,.int .i64 0]) ?_ 1 _ rfl;(with_reducible repeat (first|refine zah ?_ _|refine zak ?_|refine zag ?_ _));refine zaw (cs:=#[.string (⟨#[]⟩ : ByteArray),.string (⟨#[]⟩ : ByteArray),.string (⟨#[]⟩ : ByteArray),.int .i64 0,.int .i64 0,.string (⟨#[]⟩ : ByteArray),.int .i64 0,.int .i64 0,.int .i64 0]) ?_ 0 _ rfl;(with_reducible repeat (first|refine zah ?_ _|refine zak ?_|refine zag ?_ _));exact BK186.out) hb);have n2_:=zac.mk (zao (by repeat (first|(with_reducible first|exact HB.out|apply zae|apply zab|apply zaf|refine zai ?_ GE179.out|refine zai ?_ GE186.out)|exact HB.out)) hb);clear BK179;clear BK186;clear HB;have BK179:=n0_;have BK186:=n1_;have HB:=n2_;clear n0_ n1_ n2_;(try clear hb);(try clear hb2);(try clear hk);(try clear hi)))
                 have n0_:=zac.mk (zak BK179.out)
                 have n1_:=zac.mk (zak BK186.out)
                 have n2_:=zac.mk (zaf HB.out)
                 clear BK179
                 clear BK186
                 clear HB
                 have BK179:=n0_
                 have BK186:=n1_
                 have HB:=n2_
                 clear n0_ n1_ n2_
                 refine start_ (n:=13) (S:=fun w'=>True) (ds:=[]) #[false,false,false,false,false,false,false,false,false,false,false,false,false] (by kernel_rfl) rfl rfl trivial (fun hHeld=>?_);refine with_tabW zan.tab25 zan.bits25 (fun HT_ HW_=>?_)
                 generalize w74.drew = w75 at BK179 BK186 HB hHeld ⊢
                 refine pure_ (i:=0) (N:=some 75) (v:=?_) (a':=?_) #[true,false,false,false,false,false,false,false,false,false,false,false,false] rfl rfl (zbx HT_.out (by kernel_rfl)) (fun _ _ _ h=>h) (Or.inl ⟨by rfl,?_⟩) ?_ ?_
                 rotate_left
                 ·intro w'
                  go_simp
                  with_reducible rfl
                 rotate_left
                 ·simp only [Act.put,List.setIfInBounds_toArray,List.set_cons_zero,List.set_cons_succ,i64_w,i32_w]
                  rfl
                 refine pure_ (i:=1) (N:=some 76) (v:=?_) (a':=?_) #[true,true,false,false,false,false,false,false,false,false,false,false,false] rfl rfl (zbx HT_.out (by kernel_rfl)) (fun _ _ _ h=>h) (Or.inl ⟨by rfl,?_⟩) ?_ ?_
                 rotate_left
                 ·intro w'
                  go_simp
                  with_reducible rfl
                 rotate_left
                 ·simp only [Act.put,List.setIfInBounds_toArray,List.set_cons_zero,List.set_cons_succ,i64_w,i32_w]
                  rfl
                 refine pure_ (i:=2) (N:=some 77) (v:=?_) (a':=?_) #[true,true,true,false,false,false,false,false,false,false,false,false,false] rfl rfl (zbx HT_.out (by kernel_rfl)) (fun _ _ _ h=>h) (Or.inl ⟨by rfl,?_⟩) ?_ ?_
                 rotate_left
                 ·intro w'
                  go_simp
                  with_reducible rfl
                 rotate_left
                 ·simp only [Act.put,List.setIfInBounds_toArray,List.set_cons_zero,List.set_cons_succ,i64_w,i32_w]
                  rfl
                 refine pure_ (i:=3) (N:=some 78) (v:=undef) (a':=?_) #[true,true,true,true,false,false,false,false,false,false,false,false,false] rfl rfl (zbx HT_.out (by kernel_rfl)) (fun _ _ _ h=>h) (Or.inr ⟨by rfl,rfl⟩) ?_ ?_
                 rotate_left
                 ·simp only [Act.put,List.setIfInBounds_toArray,List.set_cons_zero,List.set_cons_succ,i64_w,i32_w]
                  rfl
                 refine pure_ (i:=4) (N:=some 79) (v:=undef) (a':=?_) #[true,true,true,true,true,false,false,false,false,false,false,false,false] rfl rfl (zbx HT_.out (by kernel_rfl)) (fun _ _ _ h=>h) (Or.inr ⟨by rfl,rfl⟩) ?_ ?_
                 rotate_left
                 ·simp only [Act.put,List.setIfInBounds_toArray,List.set_cons_zero,List.set_cons_succ,i64_w,i32_w]
                  rfl
                 refine pure_ (i:=5) (N:=some 80) (v:=undef) (a':=?_) #[true,true,true,true,true,true,false,false,false,false,false,false,false] rfl rfl (zbx HT_.out (by kernel_rfl)) (fun _ _ _ h=>h) (Or.inr ⟨by rfl,rfl⟩) ?_ ?_
                 rotate_left
                 ·simp only [Act.put,List.setIfInBounds_toArray,List.set_cons_zero,List.set_cons_succ,i64_w,i32_w]
                  rfl
                 refine pure_ (i:=6) (N:=some 81) (v:=undef) (a':=?_) #[true,true,true,true,true,true,true,false,false,false,false,false,false] rfl rfl (zbx HT_.out (by kernel_rfl)) (fun _ _ _ h=>h) (Or.inr ⟨by rfl,rfl⟩) ?_ ?_
                 rotate_left
                 ·simp only [Act.put,List.setIfInBounds_toArray,List.set_cons_zero,List.set_cons_succ,i64_w,i32_w]
                  rfl
                 refine pure_ (i:=7) (N:=some 82) (v:=undef) (a':=?_) #[true,true,true,true,true,true,true,true,false,false,false,false,false] rfl rfl (zbx HT_.out (by kernel_rfl)) (fun _ _ _ h=>h) (Or.inr ⟨by rfl,rfl⟩) ?_ ?_
                 rotate_left
                 ·simp only [Act.put,List.setIfInBounds_toArray,List.set_cons_zero,List.set_cons_succ,i64_w,i32_w]
                  rfl
                 refine pure_ (i:=8) (N:=some 83) (v:=undef) (a':=?_) #[true,true,true,true,true,true,true,true,true,false,false,false,false] rfl rfl (zbx HT_.out (by kernel_rfl)) (fun _ _ _ h=>h) (Or.inr ⟨by rfl,rfl⟩) ?_ ?_
                 rotate_left
                 ·simp only [Act.put,List.setIfInBounds_toArray,List.set_cons_zero,List.set_cons_succ,i64_w,i32_w]
                  rfl
                 refine pure_ (i:=9) (N:=some 84) (v:=undef) (a':=?_) #[true,true,true,true,true,true,true,true,true,true,false,false,false] rfl rfl (zbx HT_.out (by kernel_rfl)) (fun _ _ _ h=>h) (Or.inr ⟨by rfl,rfl⟩) ?_ ?_
                 rotate_left
                 ·simp only [Act.put,List.setIfInBounds_toArray,List.set_cons_zero,List.set_cons_succ,i64_w,i32_w]
                  rfl
                 refine pure_ (i:=10) (N:=some 85) (v:=undef) (a':=?_) #[true,true,true,true,true,true,true,true,true,true,true,false,false] rfl rfl (zbx HT_.out (by kernel_rfl)) (fun _ _ _ h=>h) (Or.inr ⟨by rfl,rfl⟩) ?_ ?_
                 rotate_left
                 ·simp only [Act.put,List.setIfInBounds_toArray,List.set_cons_zero,List.set_cons_succ,i64_w,i32_w]
                  rfl
                 refine pure_ (i:=11) (N:=some 86) (v:=undef) (a':=?_) #[true,true,true,true,true,true,true,true,true,true,true,true,false] rfl rfl (zbx HT_.out (by kernel_rfl)) (fun _ _ _ h=>h) (Or.inr ⟨by rfl,rfl⟩) ?_ ?_
                 rotate_left
                 ·simp only [Act.put,List.setIfInBounds_toArray,List.set_cons_zero,List.set_cons_succ,i64_w,i32_w]
                  rfl
                 refine pure_ (i:=12) (N:=some 87) (v:=?_) (a':=?_) #[true,true,true,true,true,true,true,true,true,true,true,true,true] rfl rfl (zbx HT_.out (by kernel_rfl)) (fun _ _ _ h=>h) (Or.inl ⟨by rfl,?_⟩) ?_ ?_
                 rotate_left
                 ·intro w'
                  go_simp
                  with_reducible rfl
                 rotate_left
                 ·simp only [Act.put,List.setIfInBounds_toArray,List.set_cons_zero,List.set_cons_succ,i64_w,i32_w]
                  rfl
                 refine done_ (done_of HT_.out (by kernel_rfl)) ?_
                 try go_wp2
                 go_roundg k4
                 case measure=>have:=HJ1.out;have:=HK2.out;have:=HK3.out;have:=HK4.out;omega
                 case rel=>exact ⟨(wrap64 (x64_4 + 1)),(by first|rfl|(simp;done)|(simp [*];done)),H',⟨by have:=HJ1.out;have:=HK2.out;have:=HK3.out;have:=HK4.out;omega⟩,⟨by (with_reducible repeat (first|refine zah ?_ _|refine zak ?_|refine zag ?_ _));exact BK179.out⟩,⟨by repeat (first|(with_reducible first|exact HB.out|apply zae|apply zab|apply zaf|refine zai ?_ GE179.out|refine zai ?_ GE186.out)|exact HB.out)⟩⟩
               ·rw [if_neg c49] at H
                have c49b0 : (t187 == 0) = false:=beq_eq_false_iff_ne.mpr c49
                have c49b1 : (t187 != 0) = true:=bne_iff_ne.mpr c49
                obtain rfl:=Option.some.inj H
                have p185 : 0 ≤ (x64_4 : Int):=of_decide_eq_true (by first|(with_reducible assumption)|assumption)
                have q185 : x64_4 < (l0_2.length : Int):=of_decide_eq_true (by first|(with_reducible assumption)|assumption)
                obtain ⟨ad185,e185,hx185_0,hx185_1,hx185_2,hx185_3,hx185_4,hx185_5,hx185_6,hx185_7,hx185_8⟩:=at_T36 HR0_2.out x64_4 p185 q185
                cases e185
                replace hx185_0:=(HB.out.cell (World.block_lt_of_cell? w _ hx185_0)).trans hx185_0
                replace hx185_1:=(HB.out.cell (World.block_lt_of_cell? w _ hx185_1)).trans hx185_1
                replace hx185_2:=(HB.out.cell (World.block_lt_of_cell? w _ hx185_2)).trans hx185_2
                replace hx185_3:=(HB.out.cell (World.block_lt_of_cell? w _ hx185_3)).trans hx185_3
                replace hx185_4:=(HB.out.cell (World.block_lt_of_cell? w _ hx185_4)).trans hx185_4
                replace hx185_5:=(HB.out.cell (World.block_lt_of_cell? w _ hx185_5)).trans hx185_5
                replace hx185_6:=(HB.out.cell (World.block_lt_of_cell? w _ hx185_6)).trans hx185_6
                replace hx185_7:=(HB.out.cell (World.block_lt_of_cell? w _ hx185_7)).trans hx185_7
                replace hx185_8:=(HB.out.cell (World.block_lt_of_cell? w _ hx185_8)).trans hx185_8
                replace p185:=eq_true p185
                replace q185:=eq_true q185
                go_wp2_with (first|((with_reducible refine zbh (N:=9) rfl ?_);(try (refine zci (by rfl) ?_;dsimp only));refine zbf ?hg (N:=9) ?hd (cs:=#[.string (⟨#[]⟩ : ByteArray),.string (⟨#[]⟩ : ByteArray),.string (⟨#[]⟩ : ByteArray),.int .i64 0,.int .i64 0,.string (⟨#[]⟩ : ByteArray),.int .i64 0,.int .i64 0,.int .i64 0]) (t:=36) ?hr ?_;(case hd=>rfl);(case hg=>rfl);(case hr=>first|(go_simp;done)|(go_simp;rfl));intro gb186 hg w76 hbox hb;have n0_:=zac.mk (zat (g:=gb179) (o:=.cells #[.slice A0_0 l0_0.length c0_0,.slice A0_1 l0_1.length c0_1,.slice (some ad185) l0_2.length c0_2] 26 (0,0)) (by (with_reducible repeat (first|refine zah ?_ _|refine zak ?_|refine zag ?_ _));exact BK179.out) hb);have n1_:=zac.mk (zao (by repeat (first|(with_reducible first|exact HB.out|apply zae|apply zab|apply zaf|refine zai ?_ GE179.out)|exact HB.out)) hb);have n2_:=zac.mk (hbox);have n3_:=zac.mk ((by rw [hg];exact (zam (by repeat (first|(with_reducible first|exact HB.out|apply zae|apply zab|apply zaf|refine zai ?_ GE179.out)|exact HB.out))) : w.heap.size ≤ gb186));have n4_:=zac.mk ((by rw [hg];exact (zam (by repeat (first|(with_reducible first|exact HB.out|apply zae|apply zab|apply zaf|refine zai ?_ GE179.out)|exact HB.out))) : w.heap.size ≤ gb186));have n5_:=zac.mk ((by rw [hg];exact Nat.ne_of_lt (zbq (g:=gb179) (o:=.cells #[.slice A0_0 l0_0.length c0_0,.slice A0_1 l0_1.length c0_1,.slice (some ad185) l0_2.length c0_2] 26 (0,0)) (by (with_reducible repeat (first|refine zah ?_ _|refine zak ?_|refine zag ?_ _));exact BK179.out)) : gb179 ≠ gb186));have n6_:=zac.mk ((by rw [hg];exact Nat.ne_of_gt (zbq (g:=gb179) (o:=.cells #[.slice A0_0 l0_0.length c0_0,.slice A0_1 l0_1.length c0_1,.slice (some ad185) l0_2.length c0_2] 26 (0,0)) (by (with_reducible repeat (first|refine zah ?_ _|refine zak ?_|refine zag ?_ _));exact BK179.out)) : gb186 ≠ gb179));clear BK179;clear HB;have BK179:=n0_;have HB:=n1_;have BK186:=n2_;have GW186:=n3_;have GE186:=n4_;have NB179_186:=n5_;have NB186_179:=n6_;clear n0_ n1_ n2_ n3_ n4_ n5_ n6_;clear hb hbox hg;have hnb77:=NB186_179.out;have hnc77:=NB179_186.out;have hcz78_0 : w76.cell? ⟨gb186,0,none⟩ = some (.string (⟨#[]⟩ : ByteArray)):=(zad BK186.out 0).trans rfl;have hcz78_1 : w76.cell? ⟨gb186,1,none⟩ = some (.string (⟨#[]⟩ : ByteArray)):=(zad BK186.out 1).trans rfl;have hcz78_2 : w76.cell? ⟨gb186,2,none⟩ = some (.string (⟨#[]⟩ : ByteArray)):=(zad BK186.out 2).trans rfl;have hcz78_3 : w76.cell? ⟨gb186,3,none⟩ = some (.int .i64 0):=(zad BK186.out 3).trans rfl;have hcz78_4 : w76.cell? ⟨gb186,4,none⟩ = some (.int .i64 0):=(zad BK186.out 4).trans rfl;have hcz78_5 : w76.cell? ⟨gb186,5,none⟩ = some (.string (⟨#[]⟩ : ByteArray)):=(zad BK186.out 5).trans rfl;have hcz78_6 : w76.cell? ⟨gb186,6,none⟩ = some (.int .i64 0):=(zad BK186.out 6).trans rfl;have hcz78_7 : w76.cell? ⟨gb186,7,none⟩ = some (.int .i64 0):=(zad BK186.out 7).trans rfl;have hcz78_8 : w76.cell? ⟨gb186,8,none⟩ = some (.int .i64 0):=(zad BK186.out 8).trans rfl;have hfz78_0:=zaa BK186.out 0;have hfz78_1:=zaa BK186.out 1;have hfz78_2:=zaa BK186.out 2;have hfz78_3:=zaa BK186.out 3;have hfz78_4:=zaa BK186.out 4;have hfz78_5:=zaa BK186.out 5;have hfz78_6:=zaa BK186.out 6;have hfz78_7:=zaa BK186.out 7;have hfz78_8:=zaa BK186.out 8;have hcz79_0 : w76.cell? ⟨gb179,0,none⟩ = some (.slice A0_0 l0_0.length c0_0):=(zad BK179.out 0).trans rfl;have hcz79_1 : w76.cell? ⟨gb179,1,none⟩ = some (.slice A0_1 l0_1.length c0_1):=(zad BK179.out 1).trans rfl;have hcz79_2 : w76.cell? ⟨gb179,2,none⟩ = some (.slice (some ad185) l0_2.length c0_2):=(zad BK179.out 2).trans rfl;have hfz79_0:=zaa BK179.out 0;have hfz79_1:=zaa BK179.out 1;have hfz79_2:=zaa BK179.out 2)|((with_reducible refine zbe (f:=29) rfl ?_);refine zce (some 71) rfl rfl Try.func29 (by kernel_rfl) rfl #[.agg #[.slice A0_0 l0_0.length c0_0,.slice A0_1 l0_1.length c0_1,.slice (some ad185) l0_2.length c0_2],.agg #[.string ((zaj l0_2 x64_4).f0),.string ((zaj l0_2 x64_4).f1),.string ((zaj l0_2 x64_4).f2),.int .i64 ((zaj l0_2 x64_4).f3),.int .i64 ((zaj l0_2 x64_4).f4),.string ((zaj l0_2 x64_4).f5),.int .i64 ((zaj l0_2 x64_4).f6.f0),.int .i64 ((zaj l0_2 x64_4).f6.f1),.int .i64 ((zaj l0_2 x64_4).f6.f2)]] rfl (by (try simp only [List.map_toArray,List.map_cons,List.map_nil]);first|done|rfl|(simp only [List.length_drop,List.length_take];rfl)) ?_;(with_reducible refine (zau.calls k4 _ _ l0_0 _ _ l0_1 _ _ l0_2 ((zaj l0_2 x64_4).f0) ((zaj l0_2 x64_4).f1) ((zaj l0_2 x64_4).f2) ((zaj l0_2 x64_4).f3) ((zaj l0_2 x64_4).f4) ((zaj l0_2 x64_4).f5) ((zaj l0_2 x64_4).f6.f0) ((zaj l0_2 x64_4).f6.f1) ((zaj l0_2 x64_4).f6.f2) t187 _ ?side1 ?side2 ?side3 ?side4 ?side5 ?side6 A48.out).mono ?_);(case side1=>exact Kd.C_below HR0_0.out (by repeat (first|(with_reducible first|exact HB.out|apply zae|apply zab|apply zaf|refine zai ?_ GE179.out|refine zai ?_ GE186.out)|exact HB.out)));(case side2=>exact HC0_0.out);(case side3=>exact Kd.C_below HR0_1.out (by repeat (first|(with_reducible first|exact HB.out|apply zae|apply zab|apply zaf|refine zai ?_ GE179.out|refine zai ?_ GE186.out)|exact HB.out)));(case side4=>exact HC0_1.out);(case side5=>exact Kd.C_below HR0_2.out (by repeat (first|(with_reducible first|exact HB.out|apply zae|apply zab|apply zaf|refine zai ?_ GE179.out|refine zai ?_ GE186.out)|exact HB.out)));(case side6=>exact HC0_2.out);rintro e w80 ⟨rfl,hb⟩;refine ⟨_,rfl,?_⟩;have n0_:=zac.mk (zat (g:=gb179) (o:=.cells #[.slice A0_0 l0_0.length c0_0,.slice A0_1 l0_1.length c0_1,.slice (some ad185) l0_2.length c0_2] 26 (0,0)) (by (with_reducible repeat (first|refine zah ?_ _|refine zak ?_|refine zag ?_ _));refine zaz ?_ NB179_186.out _;(with_reducible repeat (first|refine zah ?_ _|refine zak ?_|refine zag ?_ _));refine zaz ?_ NB179_186.out _;(with_reducible repeat (first|refine zah ?_ _|refine zak ?_|refine zag ?_ _));refine zaz ?_ NB179_186.out _;(with_reducible repeat (first|refine zah ?_ _|refine zak ?_|refine zag ?_ _));refine zaz ?_ NB179_186.out _;(with_reducible repeat (first|refine zah ?_ _|refine zak ?_|refine zag ?_ _));refine zaz ?_ NB179_186.out _;(with_reducible repeat (first|refine zah ?_ _|refine zak ?_|refine zag ?_ _));refine zaz ?_ NB179_186.out _;(with_reducible repeat (first|refine zah ?_ _|refine zak ?_|refine zag ?_ _));refine zaz ?_ NB179_186.out _;(with_reducible repeat (first|refine zah ?_ _|refine zak ?_|refine zag ?_ _));refine zaz ?_ NB179_186.out _;(with_reducible repeat (first|refine zah ?_ _|refine zak ?_|refine zag ?_ _));refine zaz ?_ NB179_186.out _;(with_reducible repeat (first|refine zah ?_ _|refine zak ?_|refine zag ?_ _));exact BK179.out) hb);have n1_:=zac.mk (zat (g:=gb186) (o:=.cells #[.string ((zaj l0_2 x64_4).f0),.string ((zaj l0_2 x64_4).f1),.string ((zaj l0_2 x64_4).f2),.int .i64 ((zaj l0_2 x64_4).f3),.int .i64 ((zaj l0_2 x64_4).f4),.string ((zaj l0_2 x64_4).f5),.int .i64 ((zaj l0_2 x64_4).f6.f0),.int .i64 ((zaj l0_2 x64_4).f6.f1),.int .i64 ((zaj l0_2 x64_4).f6.f2)] 36 (0,0)) (by (with_reducible repeat (first|refine zah ?_ _|refine zak ?_|refine zag ?_ _));refine zaw (cs:=#[.string ((zaj l0_2 x64_4).f0),.string ((zaj l0_2 x64_4).f1),.string ((zaj l0_2 x64_4).f2),.int .i64 ((zaj l0_2 x64_4).f3),.int .i64 ((zaj l0_2 x64_4).f4),.string ((zaj l0_2 x64_4).f5),.int .i64 ((zaj l0_2 x64_4).f6.f0),.int .i64 ((zaj l0_2 x64_4).f6.f1),.int .i64 0]) ?_ 8 _ rfl;(with_reducible repeat (first|refine zah ?_ _|refine zak ?_|refine zag ?_ _));refine zaw (cs:=#[.string ((zaj l0_2 x64_4).f0),.string ((zaj l0_2 x64_4).f1),.string ((zaj l0_2 x64_4).f2),.int .i64 ((zaj l0_2 x64_4).f3),.int .i64 ((zaj l0_2 x64_4).f4),.string ((zaj l0_2 x64_4).f5),.int .i64 ((zaj l0_2 x64_4).f6.f0),.int .i64 0,.int .i64 0]) ?_ 7 _ rfl;(with_reducible repeat (first|refine zah ?_ _|refine zak ?_|refine zag ?_ _));refine zaw (cs:=#[.string ((zaj l0_2 x64_4).f0),.string ((zaj l0_2 x64_4).f1),.string ((zaj l0_2 x64_4).f2),.int .i64 ((zaj l0_2 x64_4).f3),.int .i64 ((zaj l0_2 x64_4).f4),.string ((zaj l0_2 x64_4).f5),.int .i64 0,.int .i64 0,.int .i64 0]) ?_ 6 _ rfl;(with_reducible repeat (first|refine zah ?_ _|refine zak ?_|refine zag ?_ _));refine zaw (cs:=#[.string ((zaj l0_2 x64_4).f0),.string ((zaj l0_2 x64_4).f1),.string ((zaj l0_2 x64_4).f2),.int .i64 ((zaj l0_2 x64_4).f3),.int .i64 ((zaj l0_2 x64_4).f4),.string (⟨#[]⟩ : ByteArray),.int .i64 0,.int .i64 0,.int .i64 0]) ?_ 5 _ rfl;(with_reducible repeat (first|refine zah ?_ _|refine zak ?_|refine zag ?_ _));refine zaw (cs:=#[.string ((zaj l0_2 x64_4).f0),.string ((zaj l0_2 x64_4).f1),.string ((zaj l0_2 x64_4).f2),.int .i64 ((zaj l0_2 x64_4).f3),.int .i64 0,.string (⟨#[]⟩ : ByteArray),.int .i64 0,.int .i64 0,.int .i64 0]) ?_ 4 _ rfl;(with_reducible repeat (first|refine zah ?_ _|refine zak ?_|refine zag ?_ _));refine zaw (cs:=#[.string ((zaj l0_2 x64_4).f0),.string ((zaj l0_2 x64_4).f1),.string ((zaj l0_2 x64_4).f2),.int .i64 0,.int .i64 0,.string (⟨#[]⟩ : ByteArray),.int .i64 0,.int .i64 0,.int .i64 0]) ?_ 3 _ rfl;(with_reducible repeat (first|refine zah ?_ _|refine zak ?_|refine zag ?_ _));refine zaw (cs:=#[.string ((zaj l0_2 x64_4).f0),.string ((zaj l0_2 x64_4).f1),.string (⟨#[]⟩ : ByteArray),.int .i64 0,.int .i64 0,.string (⟨#[]⟩ : ByteArray),.int .i64 0,.int .i64 0,.int .i64 0]) ?_ 2 _ rfl;(with_reducible repeat (first|refine zah ?_ _|refine zak ?_|refine zag ?_ _));refine zaw (cs:=#[.string ((zaj l0_2 x64_4).f0),.string (⟨#[]⟩ : ByteArray),.string (⟨#[]⟩ : ByteArray),.int .i64 0,.int .i64 0,.string (⟨#[]⟩ : ByteArray),.int .i64 0,.int .i64 0,.int .i64 0]) ?_ 1 _ rfl;(with_reducible repeat (first|refine zah ?_ _|refine zak ?_|refine zag ?_ _));refine zaw (cs:=#[.string (⟨#[]⟩ : ByteArray),.string (⟨#[]⟩ : ByteArray),.string (⟨#[]⟩ : ByteArray),.int .i64 0,.int .i64 0,.string (⟨#[]⟩ : ByteArray),.int .i64 0,.int .i64 0,.int .i64 0]) ?_ 0 _ rfl;(with_reducible repeat (first|refine zah ?_ _|refine zak ?_|refine zag ?_ _));exact BK186.out) hb);have n2_:=zac.mk (zao (by repeat (first|(with_reducible first|exact HB.out|apply zae|apply zab|apply zaf|refine zai ?_ GE179.out|refine zai ?_ GE186.out)|exact HB.out)) hb);clear BK179;clear BK186;clear HB;have BK179:=n0_;have BK186:=n1_;have HB:=n2_;clear n0_ n1_ n2_;(try clear hb);(try clear hb2);(try clear hk);(try clear hi)))
                go_ret
                exact ⟨by first|rfl|(simp [errW_none,errW_some] <;> rfl)|(simp [*,errW_none,errW_some] <;> rfl),by repeat (first|(with_reducible first|exact HB.out|apply zae|apply zab|apply zaf|refine zai ?_ GE179.out|refine zai ?_ GE186.out)|exact HB.out)⟩
              ·rw [if_neg c47] at H
               exact absurd H (by simp)
             ·rw [if_neg c46] at H
              exact absurd H (by simp)
            ·rw [if_neg c45] at H
             have c45b0 : decide (x64_4 < (l0_2.length : Int)) = false:=decide_eq_false c45
             clear c45
             obtain rfl:=Option.some.inj H
             go_wp2
             go_ret
             exact ⟨by first|rfl|(simp [errW_none,errW_some] <;> rfl)|(simp [*,errW_none,errW_some] <;> rfl),by repeat (first|(with_reducible first|exact HB.out|apply zae|apply zab|apply zaf|refine zai ?_ GE179.out)|exact HB.out)⟩
end Go.Proofs.Ytepnddmalheoiaa.Q
