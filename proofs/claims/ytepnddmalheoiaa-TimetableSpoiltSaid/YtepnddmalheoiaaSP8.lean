/- For timetableSpoilt_holds: texts of this session and words of the kit's print, those alone that the proof uses. -/
import Derived.Test.YtepnddmalheoiaaProg
import Derived.Below
import Derived.Deep.Draws
import Derived.Deep.AppendLies
import Derived.Maps.AppendAt
import Derived.OwnWalk
import Derived.Laws.BytesArg
import Derived.Laws.MakeOwn
import Derived.Laws.OwnMore
import Derived.Deep.OwnRows
import Derived.Tactics
import Derived.Lib.ConvBytes
import Derived.Laws.Slices
import Derived.WalkKit
import Derived.KernelRfl
import Derived.RowKit3
import Derived.Deep.LoopGhost
import Derived.Deep.QuietTactic
import Derived.BigQuiet
import Derived.WideLaws
import Derived.Deep.DeepCutAuto
import Derived.Deep.CutBlock
import Derived.Deep.RegionHeld3
import Derived.Laws.Rows
import Derived.Lib.AppendStr
import Derived.ArgAppend
import Derived.Laws.IdiomCopy
import Derived.OrdersHeld
import Derived.Laws.BitsLemmas
import Derived.RowKit
import Derived.Deep.WholeRow
import Derived.Laws.ResultCell
import Derived.Lib.SlBytesConst
import Derived.Outline
import Derived.Laws.StructEq
import Derived.Test.YtepnddmalheoiaaSP0
import Derived.Test.YtepnddmalheoiaaSP1
import Derived.Test.YtepnddmalheoiaaSP2
import Derived.Test.YtepnddmalheoiaaSP3
import Derived.Test.YtepnddmalheoiaaSP7
set_option linter.unusedVariables false
set_option linter.unusedSimpArgs false
namespace Go.Proofs.Ytepnddmalheoiaa.Q
open Go.Proofs.Ytepnddmalheoiaa.H
open Go.RowKit Go.Proofs.YtepnddmalheoiaaW.PrintWords Go.Proofs.YtepnddmalheoiaaW.PrintLast Go.Proofs.YtepnddmalheoiaaW.PrintMore
attribute [local go_sem] str_leq str_geq str_gtr max2_int min2_int max_two min_two max_three min_three max_four min_four   -- for this text's walks alone
mutual
def zaq.j0 : Nat → Int → Bool → List (S42) → List (S39) → List (S36) → ByteArray → ByteArray → ByteArray → Int → Int → ByteArray → Int → Int → Int → Option (Int)
 | 0,_,_,_,_,_,_,_,_,_,_,_,_,_,_=>none
 | k + 1,x1,x22,x121000,x121001,x121002,x123000,x123001,x123002,x123003,x123004,x123005,x123006,x123007,x123008=>if x22 = true then (some 1) else ((zav.f k x121001 x123001).bind fun t125=>(if t125 < 0 then (zaq.j1 k x1 true x121000 x121001 x121002 x123000 x123001 x123002 x123003 x123004 x123005 x123006 x123007 x123008) else ((zav.f k x121001 x123002).bind fun t126=>(zaq.j1 k x1 (decide (t126 < 0)) x121000 x121001 x121002 x123000 x123001 x123002 x123003 x123004 x123005 x123006 x123007 x123008))))
def zaq.j1 : Nat → Int → Bool → List (S42) → List (S39) → List (S36) → ByteArray → ByteArray → ByteArray → Int → Int → ByteArray → Int → Int → Int → Option (Int)
 | 0,_,_,_,_,_,_,_,_,_,_,_,_,_,_=>none
 | k + 1,x1,x36,x121000,x121001,x121002,x123000,x123001,x123002,x123003,x123004,x123005,x123006,x123007,x123008=>if x36 = true then (some 6) else (if x123001.toList = x123002.toList then (some 14) else (if x123003 < 2880 then (zaq.j2 k x1 true x121000 x121001 x121002 x123000 x123001 x123002 x123003 x123004 x123005 x123006 x123007 x123008) else (if x123004 > 52593120 then (zaq.j2 k x1 true x121000 x121001 x121002 x123000 x123001 x123002 x123003 x123004 x123005 x123006 x123007 x123008) else (if x123004 ≤ x123003 then (zaq.j2 k x1 true x121000 x121001 x121002 x123000 x123001 x123002 x123003 x123004 x123005 x123006 x123007 x123008) else (zaq.j2 k x1 (decide ((wrap64 (x123004 - x123003)) > 1440)) x121000 x121001 x121002 x123000 x123001 x123002 x123003 x123004 x123005 x123006 x123007 x123008)))))
def zaq.j2 : Nat → Int → Bool → List (S42) → List (S39) → List (S36) → ByteArray → ByteArray → ByteArray → Int → Int → ByteArray → Int → Int → Int → Option (Int)
 | 0,_,_,_,_,_,_,_,_,_,_,_,_,_,_=>none
 | k + 1,x1,x64,x121000,x121001,x121002,x123000,x123001,x123002,x123003,x123004,x123005,x123006,x123007,x123008=>if x64 = true then (some 5) else (zaq.l0 k x1 0 x121000 x121001 x121002 x123000 x123001 x123002 x123003 x123004 x123005 x123006 x123007 x123008)
def zaq.l0 : Nat → Int → Int → List (S42) → List (S39) → List (S36) → ByteArray → ByteArray → ByteArray → Int → Int → ByteArray → Int → Int → Int → Option (Int)
 | 0,_,_,_,_,_,_,_,_,_,_,_,_,_,_=>none
 | k + 1,x1,x6,x121000,x121001,x121002,x123000,x123001,x123002,x123003,x123004,x123005,x123006,x123007,x123008=>if x6 < 3 then (if 0 ≤ x6 then (if (rd [x123006,x123007,x123008] x6) < 0 then (some 5) else (if (rd [x123006,x123007,x123008] x6) > 8 then (some 5) else (zaq.l0 k x1 (wrap64 (x6 + 1)) x121000 x121001 x121002 x123000 x123001 x123002 x123003 x123004 x123005 x123006 x123007 x123008))) else (none)) else (if x1 > 0 then (if 0 ≤ (wrap64 (x1 - 1)) then (if (wrap64 (x1 - 1)) < (x121002.length : Int) then (if x123003 < ((zaj x121002 (wrap64 (x1 - 1))).f3) then (some 8) else (if x123003 = ((zaj x121002 (wrap64 (x1 - 1))).f3) then (if ((Op.bytesLess (((zaj x121002 (wrap64 (x1 - 1))).f0).toList) x123000.toList) = true) then (some 0) else (some 8)) else (some 0))) else (none)) else (none)) else (some 0))
end
def zaq.f (k : Nat) (l0_0 : List (S42)) (l0_1 : List (S39)) (l0_2 : List (S36)) (a1 : Int) : Option (Int):=if 0 ≤ a1 then (if a1 < (l0_2.length : Int) then ((zbm.f k ((zaj l0_2 a1).f0)).bind fun t123=>(if t123 = true then ((zas.f k ((zaj l0_2 a1).f5)).bind fun t124=>(zaq.j0 k a1 (!t124) l0_0 l0_1 l0_2 ((zaj l0_2 a1).f0) ((zaj l0_2 a1).f1) ((zaj l0_2 a1).f2) ((zaj l0_2 a1).f3) ((zaj l0_2 a1).f4) ((zaj l0_2 a1).f5) ((zaj l0_2 a1).f6.f0) ((zaj l0_2 a1).f6.f1) ((zaj l0_2 a1).f6.f2))) else (zaq.j0 k a1 true l0_0 l0_1 l0_2 ((zaj l0_2 a1).f0) ((zaj l0_2 a1).f1) ((zaj l0_2 a1).f2) ((zaj l0_2 a1).f3) ((zaj l0_2 a1).f4) ((zaj l0_2 a1).f5) ((zaj l0_2 a1).f6.f0) ((zaj l0_2 a1).f6.f1) ((zaj l0_2 a1).f6.f2)))) else (none)) else (none)
set_option maxHeartbeats 8000000 in
set_option maxRecDepth 100000 in
theorem zaq.calls (k : Nat) (A0_0 : Option Addr) (c0_0 : Nat) (l0_0 : List (S42)) (A0_1 : Option Addr) (c0_1 : Nat) (l0_1 : List (S39)) (A0_2 : Option Addr) (c0_2 : Nat) (l0_2 : List (S36)) (a1 : Int) (r : Int) (w : World) (hr0_0 : Kd.C k42 w A0_0 l0_0.length l0_0) (hc0_0 : l0_0.length ≤ c0_0) (hr0_1 : Kd.C k39 w A0_1 l0_1.length l0_1) (hc0_1 : l0_1.length ≤ c0_1) (hr0_2 : Kd.C k36 w A0_2 l0_2.length l0_2) (hc0_2 : l0_2.length ≤ c0_2) (h : zaq.f k l0_0 l0_1 l0_2 a1 = some r) :
  Calls Try.prog 35 #[.agg #[.slice A0_0 l0_0.length c0_0,.slice A0_1 l0_1.length c0_1,.slice A0_2 l0_2.length c0_2],.int .i64 a1] w fun e w'=>e = .returned (.int .i64 r) ∧ Below w.heap.size w w':=by
 have hu26:=Try.underlying26
 have hu36:=Try.underlying36
 have HR0_0:=zac.mk hr0_0
 have HC0_0:=zac.mk hc0_0
 clear hr0_0 hc0_0
 have HR0_1:=zac.mk hr0_1
 have HC0_1:=zac.mk hc0_1
 clear hr0_1 hc0_1
 have HR0_2:=zac.mk hr0_2
 have HC0_2:=zac.mk hc0_2
 clear hr0_2 hc0_2
 have HB:=zac.mk (Below.refl w.heap.size w)
 have H : (if 0 ≤ a1 then (if a1 < (l0_2.length : Int) then ((zbm.f k ((zaj l0_2 a1).f0)).bind fun t123=>(if t123 = true then ((zas.f k ((zaj l0_2 a1).f5)).bind fun t124=>(zaq.j0 k a1 (!t124) l0_0 l0_1 l0_2 ((zaj l0_2 a1).f0) ((zaj l0_2 a1).f1) ((zaj l0_2 a1).f2) ((zaj l0_2 a1).f3) ((zaj l0_2 a1).f4) ((zaj l0_2 a1).f5) ((zaj l0_2 a1).f6.f0) ((zaj l0_2 a1).f6.f1) ((zaj l0_2 a1).f6.f2))) else (zaq.j0 k a1 true l0_0 l0_1 l0_2 ((zaj l0_2 a1).f0) ((zaj l0_2 a1).f1) ((zaj l0_2 a1).f2) ((zaj l0_2 a1).f3) ((zaj l0_2 a1).f4) ((zaj l0_2 a1).f5) ((zaj l0_2 a1).f6.f0) ((zaj l0_2 a1).f6.f1) ((zaj l0_2 a1).f6.f2)))) else (none)) else (none)) = some r:=h
 clear h
 by_cases c3 : 0 ≤ a1
 ·rw [if_pos c3] at H
  have c3b0 : decide (0 ≤ a1) = true:=decide_eq_true c3
  clear c3
  by_cases c4 : a1 < (l0_2.length : Int)
  ·rw [if_pos c4] at H
   have c4b0 : decide (a1 < (l0_2.length : Int)) = true:=decide_eq_true c4
   clear c4
   have HC5:=zac.mk H
   clear H
   go_enter Try.func35,Try.ntmps35
   go_upto_region 2 with (first|((with_reducible refine zbh (N:=2) rfl ?_);refine zbf ?hg (N:=2) ?hd (cs:=#[.slice A0_0 l0_0.length c0_0,.slice A0_1 l0_1.length c0_1,.slice A0_2 l0_2.length c0_2]) (t:=26) ?hr ?_;(case hd=>rfl);(case hg=>rfl);(case hr=>first|(go_simp;done)|(go_simp;rfl));intro gb120 hg w6 hbox hb;have n0_:=zac.mk (zao (by repeat (first|(with_reducible first|exact HB.out|apply zae|apply zab|apply zaf)|exact HB.out)) hb);have n1_:=zac.mk (hbox);have n2_:=zac.mk ((by rw [hg];exact (zam (by repeat (first|(with_reducible first|exact HB.out|apply zae|apply zab|apply zaf)|exact HB.out))) : w.heap.size ≤ gb120));have n3_:=zac.mk ((by rw [hg];exact (zam (by repeat (first|(with_reducible first|exact HB.out|apply zae|apply zab|apply zaf)|exact HB.out))) : w.heap.size ≤ gb120));clear HB;have HB:=n0_;have BK120:=n1_;have GW120:=n2_;have GE120:=n3_;clear n0_ n1_ n2_ n3_;clear hb hbox hg;have hcz7_0 : w6.cell? ⟨gb120,0,none⟩ = some (.slice A0_0 l0_0.length c0_0):=(zad BK120.out 0).trans rfl;have hcz7_1 : w6.cell? ⟨gb120,1,none⟩ = some (.slice A0_1 l0_1.length c0_1):=(zad BK120.out 1).trans rfl;have hcz7_2 : w6.cell? ⟨gb120,2,none⟩ = some (.slice A0_2 l0_2.length c0_2):=(zad BK120.out 2).trans rfl;have hfz7_0:=zaa BK120.out 0;have hfz7_1:=zaa BK120.out 1;have hfz7_2:=zaa BK120.out 2;have p121 : 0 ≤ (a1 : Int):=of_decide_eq_true (by first|(with_reducible assumption)|assumption);have q121 : a1 < (l0_2.length : Int):=of_decide_eq_true (by first|(with_reducible assumption)|assumption);obtain ⟨ad121,e121,hx121_0,hx121_1,hx121_2,hx121_3,hx121_4,hx121_5,hx121_6,hx121_7,hx121_8⟩:=at_T36 HR0_2.out a1 p121 q121;cases e121;replace hx121_0:=(HB.out.cell (World.block_lt_of_cell? w _ hx121_0)).trans hx121_0;replace hx121_1:=(HB.out.cell (World.block_lt_of_cell? w _ hx121_1)).trans hx121_1;replace hx121_2:=(HB.out.cell (World.block_lt_of_cell? w _ hx121_2)).trans hx121_2;replace hx121_3:=(HB.out.cell (World.block_lt_of_cell? w _ hx121_3)).trans hx121_3;replace hx121_4:=(HB.out.cell (World.block_lt_of_cell? w _ hx121_4)).trans hx121_4;replace hx121_5:=(HB.out.cell (World.block_lt_of_cell? w _ hx121_5)).trans hx121_5;replace hx121_6:=(HB.out.cell (World.block_lt_of_cell? w _ hx121_6)).trans hx121_6;replace hx121_7:=(HB.out.cell (World.block_lt_of_cell? w _ hx121_7)).trans hx121_7;replace hx121_8:=(HB.out.cell (World.block_lt_of_cell? w _ hx121_8)).trans hx121_8;replace p121:=eq_true p121;replace q121:=eq_true q121)|((with_reducible refine zbh (N:=5) rfl ?_);refine zbf ?hg (N:=5) ?hd (cs:=#[.string (⟨#[]⟩ : ByteArray),.string (⟨#[]⟩ : ByteArray),.string (⟨#[]⟩ : ByteArray),.int .i64 0,.int .i64 0,.string (⟨#[]⟩ : ByteArray),.int .i64 0,.int .i64 0,.int .i64 0]) (t:=36) ?hr ?_;(case hd=>rfl);(case hg=>rfl);(case hr=>first|(go_simp;done)|(go_simp;rfl));intro gb122 hg w8 hbox hb;have n0_:=zac.mk (zat (g:=gb120) (o:=.cells #[.slice A0_0 l0_0.length c0_0,.slice A0_1 l0_1.length c0_1,.slice (some ad121) l0_2.length c0_2] 26 (0,0)) (by (with_reducible repeat (first|refine zah ?_ _|refine zak ?_|refine zag ?_ _));exact BK120.out) hb);have n1_:=zac.mk (zao (by repeat (first|(with_reducible first|exact HB.out|apply zae|apply zab|apply zaf|refine zai ?_ GE120.out)|exact HB.out)) hb);have n2_:=zac.mk (hbox);have n3_:=zac.mk ((by rw [hg];exact (zam (by repeat (first|(with_reducible first|exact HB.out|apply zae|apply zab|apply zaf|refine zai ?_ GE120.out)|exact HB.out))) : w.heap.size ≤ gb122));have n4_:=zac.mk ((by rw [hg];exact (zam (by repeat (first|(with_reducible first|exact HB.out|apply zae|apply zab|apply zaf|refine zai ?_ GE120.out)|exact HB.out))) : w.heap.size ≤ gb122));have n5_:=zac.mk ((by rw [hg];exact Nat.ne_of_lt (zbq (g:=gb120) (o:=.cells #[.slice A0_0 l0_0.length c0_0,.slice A0_1 l0_1.length c0_1,.slice (some ad121) l0_2.length c0_2] 26 (0,0)) (by (with_reducible repeat (first|refine zah ?_ _|refine zak ?_|refine zag ?_ _));exact BK120.out)) : gb120 ≠ gb122));have n6_:=zac.mk ((by rw [hg];exact Nat.ne_of_gt (zbq (g:=gb120) (o:=.cells #[.slice A0_0 l0_0.length c0_0,.slice A0_1 l0_1.length c0_1,.slice (some ad121) l0_2.length c0_2] 26 (0,0)) (by (with_reducible repeat (first|refine zah ?_ _|refine zak ?_|refine zag ?_ _));exact BK120.out)) : gb122 ≠ gb120));clear BK120;clear HB;have BK120:=n0_;have HB:=n1_;have BK122:=n2_;have GW122:=n3_;have GE122:=n4_;have NB120_122:=n5_;have NB122_120:=n6_;clear n0_ n1_ n2_ n3_ n4_ n5_ n6_;clear hb hbox hg;have hnb9:=NB122_120.out;have hnc9:=NB120_122.out;have hcz10_0 : w8.cell? ⟨gb122,0,none⟩ = some (.string (⟨#[]⟩ : ByteArray)):=(zad BK122.out 0).trans rfl;have hcz10_1 : w8.cell? ⟨gb122,1,none⟩ = some (.string (⟨#[]⟩ : ByteArray)):=(zad BK122.out 1).trans rfl;have hcz10_2 : w8.cell? ⟨gb122,2,none⟩ = some (.string (⟨#[]⟩ : ByteArray)):=(zad BK122.out 2).trans rfl;have hcz10_3 : w8.cell? ⟨gb122,3,none⟩ = some (.int .i64 0):=(zad BK122.out 3).trans rfl;have hcz10_4 : w8.cell? ⟨gb122,4,none⟩ = some (.int .i64 0):=(zad BK122.out 4).trans rfl;have hcz10_5 : w8.cell? ⟨gb122,5,none⟩ = some (.string (⟨#[]⟩ : ByteArray)):=(zad BK122.out 5).trans rfl;have hcz10_6 : w8.cell? ⟨gb122,6,none⟩ = some (.int .i64 0):=(zad BK122.out 6).trans rfl;have hcz10_7 : w8.cell? ⟨gb122,7,none⟩ = some (.int .i64 0):=(zad BK122.out 7).trans rfl;have hcz10_8 : w8.cell? ⟨gb122,8,none⟩ = some (.int .i64 0):=(zad BK122.out 8).trans rfl;have hfz10_0:=zaa BK122.out 0;have hfz10_1:=zaa BK122.out 1;have hfz10_2:=zaa BK122.out 2;have hfz10_3:=zaa BK122.out 3;have hfz10_4:=zaa BK122.out 4;have hfz10_5:=zaa BK122.out 5;have hfz10_6:=zaa BK122.out 6;have hfz10_7:=zaa BK122.out 7;have hfz10_8:=zaa BK122.out 8))
   (try simp only [Act.put,List.setIfInBounds_toArray,List.set_cons_zero,List.set_cons_succ])
   go_cut [22] (fun v22 wc=>∃ (kq : Nat) (x22_4 : Bool),v22 = .bool x22_4 ∧ zac (zaq.j0 kq a1 x22_4 l0_0 l0_1 l0_2 ((zaj l0_2 a1).f0) ((zaj l0_2 a1).f1) ((zaj l0_2 a1).f2) ((zaj l0_2 a1).f3) ((zaj l0_2 a1).f4) ((zaj l0_2 a1).f5) ((zaj l0_2 a1).f6.f0) ((zaj l0_2 a1).f6.f1) ((zaj l0_2 a1).f6.f2) = some r) ∧ zac (kq ≤ k) ∧ zac (wc.heap[gb120]? = some (.cells #[(.slice A0_0 l0_0.length c0_0),(.slice A0_1 l0_1.length c0_1),(.slice (some ad121) l0_2.length c0_2)] 26 (0,0))) ∧ zac (wc.heap[gb122]? = some (.cells #[.string ((zaj l0_2 a1).f0),.string ((zaj l0_2 a1).f1),.string ((zaj l0_2 a1).f2),.int .i64 ((zaj l0_2 a1).f3),.int .i64 ((zaj l0_2 a1).f4),.string ((zaj l0_2 a1).f5),.int .i64 ((zaj l0_2 a1).f6.f0),.int .i64 ((zaj l0_2 a1).f6.f1),.int .i64 ((zaj l0_2 a1).f6.f2)] 36 (0,0))) ∧ zac (Below w.heap.size w wc))
   case first =>
    have H:=HC5.out
    clear HC5
    replace H:=Option.bind_eq_some_iff.mp H
    obtain ⟨t123,A110,H⟩:=H
    replace H : (if t123 = true then ((zas.f k ((zaj l0_2 a1).f5)).bind fun t124=>(zaq.j0 k a1 (!t124) l0_0 l0_1 l0_2 ((zaj l0_2 a1).f0) ((zaj l0_2 a1).f1) ((zaj l0_2 a1).f2) ((zaj l0_2 a1).f3) ((zaj l0_2 a1).f4) ((zaj l0_2 a1).f5) ((zaj l0_2 a1).f6.f0) ((zaj l0_2 a1).f6.f1) ((zaj l0_2 a1).f6.f2))) else (zaq.j0 k a1 true l0_0 l0_1 l0_2 ((zaj l0_2 a1).f0) ((zaj l0_2 a1).f1) ((zaj l0_2 a1).f2) ((zaj l0_2 a1).f3) ((zaj l0_2 a1).f4) ((zaj l0_2 a1).f5) ((zaj l0_2 a1).f6.f0) ((zaj l0_2 a1).f6.f1) ((zaj l0_2 a1).f6.f2))) = some r:=H
    have A11:=zac.mk A110
    clear A110
    by_cases c12 : t123 = true
    ·subst c12
     have H1 : ((zas.f k ((zaj l0_2 a1).f5)).bind fun t124=>(zaq.j0 k a1 (!t124) l0_0 l0_1 l0_2 ((zaj l0_2 a1).f0) ((zaj l0_2 a1).f1) ((zaj l0_2 a1).f2) ((zaj l0_2 a1).f3) ((zaj l0_2 a1).f4) ((zaj l0_2 a1).f5) ((zaj l0_2 a1).f6.f0) ((zaj l0_2 a1).f6.f1) ((zaj l0_2 a1).f6.f2))) = some r:=by rw [if_pos rfl] at H;exact H
     clear H
     have H:=H1
     clear H1
     replace H:=Option.bind_eq_some_iff.mp H
     obtain ⟨t124,A130,H⟩:=H
     replace H : (zaq.j0 k a1 (!t124) l0_0 l0_1 l0_2 ((zaj l0_2 a1).f0) ((zaj l0_2 a1).f1) ((zaj l0_2 a1).f2) ((zaj l0_2 a1).f3) ((zaj l0_2 a1).f4) ((zaj l0_2 a1).f5) ((zaj l0_2 a1).f6.f0) ((zaj l0_2 a1).f6.f1) ((zaj l0_2 a1).f6.f2)) = some r:=H
     have A13:=zac.mk A130
     clear A130
     have H':=zac.mk H
     clear H
     have hnb14:=NB122_120.out
     have hnc14:=NB120_122.out
     have hcz15_0 : w8.cell? ⟨gb122,0,none⟩ = some (.string (⟨#[]⟩ : ByteArray)):=(zad BK122.out 0).trans rfl
     have hcz15_1 : w8.cell? ⟨gb122,1,none⟩ = some (.string (⟨#[]⟩ : ByteArray)):=(zad BK122.out 1).trans rfl
     have hcz15_2 : w8.cell? ⟨gb122,2,none⟩ = some (.string (⟨#[]⟩ : ByteArray)):=(zad BK122.out 2).trans rfl
     have hcz15_3 : w8.cell? ⟨gb122,3,none⟩ = some (.int .i64 0):=(zad BK122.out 3).trans rfl
     have hcz15_4 : w8.cell? ⟨gb122,4,none⟩ = some (.int .i64 0):=(zad BK122.out 4).trans rfl
     have hcz15_5 : w8.cell? ⟨gb122,5,none⟩ = some (.string (⟨#[]⟩ : ByteArray)):=(zad BK122.out 5).trans rfl
     have hcz15_6 : w8.cell? ⟨gb122,6,none⟩ = some (.int .i64 0):=(zad BK122.out 6).trans rfl
     have hcz15_7 : w8.cell? ⟨gb122,7,none⟩ = some (.int .i64 0):=(zad BK122.out 7).trans rfl
     have hcz15_8 : w8.cell? ⟨gb122,8,none⟩ = some (.int .i64 0):=(zad BK122.out 8).trans rfl
     have hfz15_0:=zaa BK122.out 0
     have hfz15_1:=zaa BK122.out 1
     have hfz15_2:=zaa BK122.out 2
     have hfz15_3:=zaa BK122.out 3
     have hfz15_4:=zaa BK122.out 4
     have hfz15_5:=zaa BK122.out 5
     have hfz15_6:=zaa BK122.out 6
     have hfz15_7:=zaa BK122.out 7
     have hfz15_8:=zaa BK122.out 8
     go_wp2_with (first|((with_reducible refine zbe (f:=63) rfl ?_);refine zce (some 15) rfl rfl Try.func63 (by kernel_rfl) rfl #[.string ((zaj l0_2 a1).f0)] rfl (by (try simp only [List.map_toArray,List.map_cons,List.map_nil]);first|done|rfl|(simp only [List.length_drop,List.length_take];rfl)) ?_;(with_reducible refine (zbm.calls k ((zaj l0_2 a1).f0) true _ A11.out).mono ?_);rintro e w' ⟨rfl,⟨nd,rfl⟩⟩;refine ⟨_,rfl,?_⟩)|(go_at_call 59;(with_reducible refine (zas.calls k ((zaj l0_2 a1).f5) t124 _ A13.out).mono ?_);rintro e w' ⟨rfl,⟨nd,rfl⟩⟩))
     go_meet
     case rel=>exact ⟨_,(!t124),(by first|rfl|(simp;done)|(simp [*];done)),H',⟨by first|omega|exact Nat.le_refl _⟩,⟨by (with_reducible repeat (first|refine zah ?_ _|refine zak ?_|refine zag ?_ _));refine zaz ?_ NB120_122.out _;(with_reducible repeat (first|refine zah ?_ _|refine zak ?_|refine zag ?_ _));refine zaz ?_ NB120_122.out _;(with_reducible repeat (first|refine zah ?_ _|refine zak ?_|refine zag ?_ _));refine zaz ?_ NB120_122.out _;(with_reducible repeat (first|refine zah ?_ _|refine zak ?_|refine zag ?_ _));refine zaz ?_ NB120_122.out _;(with_reducible repeat (first|refine zah ?_ _|refine zak ?_|refine zag ?_ _));refine zaz ?_ NB120_122.out _;(with_reducible repeat (first|refine zah ?_ _|refine zak ?_|refine zag ?_ _));refine zaz ?_ NB120_122.out _;(with_reducible repeat (first|refine zah ?_ _|refine zak ?_|refine zag ?_ _));refine zaz ?_ NB120_122.out _;(with_reducible repeat (first|refine zah ?_ _|refine zak ?_|refine zag ?_ _));refine zaz ?_ NB120_122.out _;(with_reducible repeat (first|refine zah ?_ _|refine zak ?_|refine zag ?_ _));refine zaz ?_ NB120_122.out _;(with_reducible repeat (first|refine zah ?_ _|refine zak ?_|refine zag ?_ _));exact BK120.out⟩,⟨by (with_reducible repeat (first|refine zah ?_ _|refine zak ?_|refine zag ?_ _));refine zaw (cs:=#[.string ((zaj l0_2 a1).f0),.string ((zaj l0_2 a1).f1),.string ((zaj l0_2 a1).f2),.int .i64 ((zaj l0_2 a1).f3),.int .i64 ((zaj l0_2 a1).f4),.string ((zaj l0_2 a1).f5),.int .i64 ((zaj l0_2 a1).f6.f0),.int .i64 ((zaj l0_2 a1).f6.f1),.int .i64 0]) ?_ 8 _ rfl;(with_reducible repeat (first|refine zah ?_ _|refine zak ?_|refine zag ?_ _));refine zaw (cs:=#[.string ((zaj l0_2 a1).f0),.string ((zaj l0_2 a1).f1),.string ((zaj l0_2 a1).f2),.int .i64 ((zaj l0_2 a1).f3),.int .i64 ((zaj l0_2 a1).f4),.string ((zaj l0_2 a1).f5),.int .i64 ((zaj l0_2 a1).f6.f0),.int .i64 0,.int .i64 0]) ?_ 7 _ rfl;(with_reducible repeat (first|refine zah ?_ _|refine zak ?_|refine zag ?_ _));refine zaw (cs:=#[.string ((zaj l0_2 a1).f0),.string ((zaj l0_2 a1).f1),.string ((zaj l0_2 a1).f2),.int .i64 ((zaj l0_2 a1).f3),.int .i64 ((zaj l0_2 a1).f4),.string ((zaj l0_2 a1).f5),.int .i64 0,.int .i64 0,.int .i64 0]) ?_ 6 _ rfl;(with_reducible repeat (first|refine zah ?_ _|refine zak ?_|refine zag ?_ _));refine zaw (cs:=#[.string ((zaj l0_2 a1).f0),.string ((zaj l0_2 a1).f1),.string ((zaj l0_2 a1).f2),.int .i64 ((zaj l0_2 a1).f3),.int .i64 ((zaj l0_2 a1).f4),.string (⟨#[]⟩ : ByteArray),.int .i64 0,.int .i64 0,.int .i64 0]) ?_ 5 _ rfl;(with_reducible repeat (first|refine zah ?_ _|refine zak ?_|refine zag ?_ _));refine zaw (cs:=#[.string ((zaj l0_2 a1).f0),.string ((zaj l0_2 a1).f1),.string ((zaj l0_2 a1).f2),.int .i64 ((zaj l0_2 a1).f3),.int .i64 0,.string (⟨#[]⟩ : ByteArray),.int .i64 0,.int .i64 0,.int .i64 0]) ?_ 4 _ rfl;(with_reducible repeat (first|refine zah ?_ _|refine zak ?_|refine zag ?_ _));refine zaw (cs:=#[.string ((zaj l0_2 a1).f0),.string ((zaj l0_2 a1).f1),.string ((zaj l0_2 a1).f2),.int .i64 0,.int .i64 0,.string (⟨#[]⟩ : ByteArray),.int .i64 0,.int .i64 0,.int .i64 0]) ?_ 3 _ rfl;(with_reducible repeat (first|refine zah ?_ _|refine zak ?_|refine zag ?_ _));refine zaw (cs:=#[.string ((zaj l0_2 a1).f0),.string ((zaj l0_2 a1).f1),.string (⟨#[]⟩ : ByteArray),.int .i64 0,.int .i64 0,.string (⟨#[]⟩ : ByteArray),.int .i64 0,.int .i64 0,.int .i64 0]) ?_ 2 _ rfl;(with_reducible repeat (first|refine zah ?_ _|refine zak ?_|refine zag ?_ _));refine zaw (cs:=#[.string ((zaj l0_2 a1).f0),.string (⟨#[]⟩ : ByteArray),.string (⟨#[]⟩ : ByteArray),.int .i64 0,.int .i64 0,.string (⟨#[]⟩ : ByteArray),.int .i64 0,.int .i64 0,.int .i64 0]) ?_ 1 _ rfl;(with_reducible repeat (first|refine zah ?_ _|refine zak ?_|refine zag ?_ _));refine zaw (cs:=#[.string (⟨#[]⟩ : ByteArray),.string (⟨#[]⟩ : ByteArray),.string (⟨#[]⟩ : ByteArray),.int .i64 0,.int .i64 0,.string (⟨#[]⟩ : ByteArray),.int .i64 0,.int .i64 0,.int .i64 0]) ?_ 0 _ rfl;(with_reducible repeat (first|refine zah ?_ _|refine zak ?_|refine zag ?_ _));exact BK122.out⟩,⟨by repeat (first|(with_reducible first|exact HB.out|apply zae|apply zab|apply zaf|refine zai ?_ GE120.out|refine zai ?_ GE122.out)|exact HB.out)⟩⟩
    ·replace c12:=Bool.eq_false_iff.mpr c12
     subst c12
     have H1 : (zaq.j0 k a1 true l0_0 l0_1 l0_2 ((zaj l0_2 a1).f0) ((zaj l0_2 a1).f1) ((zaj l0_2 a1).f2) ((zaj l0_2 a1).f3) ((zaj l0_2 a1).f4) ((zaj l0_2 a1).f5) ((zaj l0_2 a1).f6.f0) ((zaj l0_2 a1).f6.f1) ((zaj l0_2 a1).f6.f2)) = some r:=by rw [if_neg (show ¬ (false = true) by decide)] at H;exact H
     clear H
     have H:=H1
     clear H1
     have H':=zac.mk H
     clear H
     have hnb16:=NB122_120.out
     have hnc16:=NB120_122.out
     have hcz17_0 : w8.cell? ⟨gb122,0,none⟩ = some (.string (⟨#[]⟩ : ByteArray)):=(zad BK122.out 0).trans rfl
     have hcz17_1 : w8.cell? ⟨gb122,1,none⟩ = some (.string (⟨#[]⟩ : ByteArray)):=(zad BK122.out 1).trans rfl
     have hcz17_2 : w8.cell? ⟨gb122,2,none⟩ = some (.string (⟨#[]⟩ : ByteArray)):=(zad BK122.out 2).trans rfl
     have hcz17_3 : w8.cell? ⟨gb122,3,none⟩ = some (.int .i64 0):=(zad BK122.out 3).trans rfl
     have hcz17_4 : w8.cell? ⟨gb122,4,none⟩ = some (.int .i64 0):=(zad BK122.out 4).trans rfl
     have hcz17_5 : w8.cell? ⟨gb122,5,none⟩ = some (.string (⟨#[]⟩ : ByteArray)):=(zad BK122.out 5).trans rfl
     have hcz17_6 : w8.cell? ⟨gb122,6,none⟩ = some (.int .i64 0):=(zad BK122.out 6).trans rfl
     have hcz17_7 : w8.cell? ⟨gb122,7,none⟩ = some (.int .i64 0):=(zad BK122.out 7).trans rfl
     have hcz17_8 : w8.cell? ⟨gb122,8,none⟩ = some (.int .i64 0):=(zad BK122.out 8).trans rfl
     have hfz17_0:=zaa BK122.out 0
     have hfz17_1:=zaa BK122.out 1
     have hfz17_2:=zaa BK122.out 2
     have hfz17_3:=zaa BK122.out 3
     have hfz17_4:=zaa BK122.out 4
     have hfz17_5:=zaa BK122.out 5
     have hfz17_6:=zaa BK122.out 6
     have hfz17_7:=zaa BK122.out 7
     have hfz17_8:=zaa BK122.out 8
     go_wp2_with (first|((with_reducible refine zbe (f:=63) rfl ?_);refine zce (some 15) rfl rfl Try.func63 (by kernel_rfl) rfl #[.string ((zaj l0_2 a1).f0)] rfl (by (try simp only [List.map_toArray,List.map_cons,List.map_nil]);first|done|rfl|(simp only [List.length_drop,List.length_take];rfl)) ?_;(with_reducible refine (zbm.calls k ((zaj l0_2 a1).f0) false _ A11.out).mono ?_);rintro e w' ⟨rfl,⟨nd,rfl⟩⟩;refine ⟨_,rfl,?_⟩))
     go_meet
     case rel=>exact ⟨_,(true),(by first|rfl|(simp;done)|(simp [*];done)),H',⟨by first|omega|exact Nat.le_refl _⟩,⟨by (with_reducible repeat (first|refine zah ?_ _|refine zak ?_|refine zag ?_ _));refine zaz ?_ NB120_122.out _;(with_reducible repeat (first|refine zah ?_ _|refine zak ?_|refine zag ?_ _));refine zaz ?_ NB120_122.out _;(with_reducible repeat (first|refine zah ?_ _|refine zak ?_|refine zag ?_ _));refine zaz ?_ NB120_122.out _;(with_reducible repeat (first|refine zah ?_ _|refine zak ?_|refine zag ?_ _));refine zaz ?_ NB120_122.out _;(with_reducible repeat (first|refine zah ?_ _|refine zak ?_|refine zag ?_ _));refine zaz ?_ NB120_122.out _;(with_reducible repeat (first|refine zah ?_ _|refine zak ?_|refine zag ?_ _));refine zaz ?_ NB120_122.out _;(with_reducible repeat (first|refine zah ?_ _|refine zak ?_|refine zag ?_ _));refine zaz ?_ NB120_122.out _;(with_reducible repeat (first|refine zah ?_ _|refine zak ?_|refine zag ?_ _));refine zaz ?_ NB120_122.out _;(with_reducible repeat (first|refine zah ?_ _|refine zak ?_|refine zag ?_ _));refine zaz ?_ NB120_122.out _;(with_reducible repeat (first|refine zah ?_ _|refine zak ?_|refine zag ?_ _));exact BK120.out⟩,⟨by (with_reducible repeat (first|refine zah ?_ _|refine zak ?_|refine zag ?_ _));refine zaw (cs:=#[.string ((zaj l0_2 a1).f0),.string ((zaj l0_2 a1).f1),.string ((zaj l0_2 a1).f2),.int .i64 ((zaj l0_2 a1).f3),.int .i64 ((zaj l0_2 a1).f4),.string ((zaj l0_2 a1).f5),.int .i64 ((zaj l0_2 a1).f6.f0),.int .i64 ((zaj l0_2 a1).f6.f1),.int .i64 0]) ?_ 8 _ rfl;(with_reducible repeat (first|refine zah ?_ _|refine zak ?_|refine zag ?_ _));refine zaw (cs:=#[.string ((zaj l0_2 a1).f0),.string ((zaj l0_2 a1).f1),.string ((zaj l0_2 a1).f2),.int .i64 ((zaj l0_2 a1).f3),.int .i64 ((zaj l0_2 a1).f4),.string ((zaj l0_2 a1).f5),.int .i64 ((zaj l0_2 a1).f6.f0),.int .i64 0,.int .i64 0]) ?_ 7 _ rfl;(with_reducible repeat (first|refine zah ?_ _|refine zak ?_|refine zag ?_ _));refine zaw (cs:=#[.string ((zaj l0_2 a1).f0),.string ((zaj l0_2 a1).f1),.string ((zaj l0_2 a1).f2),.int .i64 ((zaj l0_2 a1).f3),.int .i64 ((zaj l0_2 a1).f4),.string ((zaj l0_2 a1).f5),.int .i64 0,.int .i64 0,.int .i64 0]) ?_ 6 _ rfl;(with_reducible repeat (first|refine zah ?_ _|refine zak ?_|refine zag ?_ _));refine zaw (cs:=#[.string ((zaj l0_2 a1).f0),.string ((zaj l0_2 a1).f1),.string ((zaj l0_2 a1).f2),.int .i64 ((zaj l0_2 a1).f3),.int .i64 ((zaj l0_2 a1).f4),.string (⟨#[]⟩ : ByteArray),.int .i64 0,.int .i64 0,.int .i64 0]) ?_ 5 _ rfl;(with_reducible repeat (first|refine zah ?_ _|refine zak ?_|refine zag ?_ _));refine zaw (cs:=#[.string ((zaj l0_2 a1).f0),.string ((zaj l0_2 a1).f1),.string ((zaj l0_2 a1).f2),.int .i64 ((zaj l0_2 a1).f3),.int .i64 0,.string (⟨#[]⟩ : ByteArray),.int .i64 0,.int .i64 0,.int .i64 0]) ?_ 4 _ rfl;(with_reducible repeat (first|refine zah ?_ _|refine zak ?_|refine zag ?_ _));refine zaw (cs:=#[.string ((zaj l0_2 a1).f0),.string ((zaj l0_2 a1).f1),.string ((zaj l0_2 a1).f2),.int .i64 0,.int .i64 0,.string (⟨#[]⟩ : ByteArray),.int .i64 0,.int .i64 0,.int .i64 0]) ?_ 3 _ rfl;(with_reducible repeat (first|refine zah ?_ _|refine zak ?_|refine zag ?_ _));refine zaw (cs:=#[.string ((zaj l0_2 a1).f0),.string ((zaj l0_2 a1).f1),.string (⟨#[]⟩ : ByteArray),.int .i64 0,.int .i64 0,.string (⟨#[]⟩ : ByteArray),.int .i64 0,.int .i64 0,.int .i64 0]) ?_ 2 _ rfl;(with_reducible repeat (first|refine zah ?_ _|refine zak ?_|refine zag ?_ _));refine zaw (cs:=#[.string ((zaj l0_2 a1).f0),.string (⟨#[]⟩ : ByteArray),.string (⟨#[]⟩ : ByteArray),.int .i64 0,.int .i64 0,.string (⟨#[]⟩ : ByteArray),.int .i64 0,.int .i64 0,.int .i64 0]) ?_ 1 _ rfl;(with_reducible repeat (first|refine zah ?_ _|refine zak ?_|refine zag ?_ _));refine zaw (cs:=#[.string (⟨#[]⟩ : ByteArray),.string (⟨#[]⟩ : ByteArray),.string (⟨#[]⟩ : ByteArray),.int .i64 0,.int .i64 0,.string (⟨#[]⟩ : ByteArray),.int .i64 0,.int .i64 0,.int .i64 0]) ?_ 0 _ rfl;(with_reducible repeat (first|refine zah ?_ _|refine zak ?_|refine zag ?_ _));exact BK122.out⟩,⟨by repeat (first|(with_reducible first|exact HB.out|apply zae|apply zab|apply zaf|refine zai ?_ GE120.out|refine zai ?_ GE122.out)|exact HB.out)⟩⟩
   case rest =>
    clear HC5
    try clear c3
    try clear c3b0
    try clear c4
    try clear c4b0
    try clear hcz10_0
    try clear hcz10_1
    try clear hcz10_2
    try clear hcz10_3
    try clear hcz10_4
    try clear hcz10_5
    try clear hcz10_6
    try clear hcz10_7
    try clear hcz10_8
    try clear hcz7_0
    try clear hcz7_1
    try clear hcz7_2
    try clear hfz10_0
    try clear hfz10_1
    try clear hfz10_2
    try clear hfz10_3
    try clear hfz10_4
    try clear hfz10_5
    try clear hfz10_6
    try clear hfz10_7
    try clear hfz10_8
    try clear hfz7_0
    try clear hfz7_1
    try clear hfz7_2
    try clear hx121_0
    try clear hx121_1
    try clear hx121_2
    try clear hx121_3
    try clear hx121_4
    try clear hx121_5
    try clear hx121_6
    try clear hx121_7
    try clear hx121_8
    try clear p121
    try clear q121
    obtain ⟨kq,x22_4,rfl,HA,HJ4,BK120,BK122,HB⟩:=hcut
    cases kq with
    | zero=>exact absurd HA.out (by simp [zaq.j0])
    | succ kj4 =>
     have H:=HA.out
     clear HA
     simp only [zaq.j0] at H
     by_cases c18 : x22_4 = true
     ·subst c18
      have H1 : (some 1) = some r:=by rw [if_pos rfl] at H;exact H
      clear H
      have H:=H1
      clear H1
      obtain rfl:=Option.some.inj H
      go_wp2
      go_ret
      exact ⟨by first|rfl|(simp [errW_none,errW_some] <;> rfl)|(simp [*,errW_none,errW_some] <;> rfl),by repeat (first|(with_reducible first|exact HB.out|apply zae|apply zab|apply zaf|refine zai ?_ GE120.out|refine zai ?_ GE122.out)|exact HB.out)⟩
     ·replace c18:=Bool.eq_false_iff.mpr c18
      subst c18
      have H1 : ((zav.f kj4 l0_1 ((zaj l0_2 a1).f1)).bind fun t125=>(if t125 < 0 then (zaq.j1 kj4 a1 true l0_0 l0_1 l0_2 ((zaj l0_2 a1).f0) ((zaj l0_2 a1).f1) ((zaj l0_2 a1).f2) ((zaj l0_2 a1).f3) ((zaj l0_2 a1).f4) ((zaj l0_2 a1).f5) ((zaj l0_2 a1).f6.f0) ((zaj l0_2 a1).f6.f1) ((zaj l0_2 a1).f6.f2)) else ((zav.f kj4 l0_1 ((zaj l0_2 a1).f2)).bind fun t126=>(zaq.j1 kj4 a1 (decide (t126 < 0)) l0_0 l0_1 l0_2 ((zaj l0_2 a1).f0) ((zaj l0_2 a1).f1) ((zaj l0_2 a1).f2) ((zaj l0_2 a1).f3) ((zaj l0_2 a1).f4) ((zaj l0_2 a1).f5) ((zaj l0_2 a1).f6.f0) ((zaj l0_2 a1).f6.f1) ((zaj l0_2 a1).f6.f2))))) = some r:=by rw [if_neg (show ¬ (false = true) by decide)] at H;exact H
      clear H
      have H:=H1
      clear H1
      have HC19:=zac.mk H
      clear H
      go_upto_region 4 with (fail)
      go_cut [36] (fun v36 wc=>∃ (kq : Nat) (x36_18 : Bool),v36 = .bool x36_18 ∧ zac (zaq.j1 kq a1 x36_18 l0_0 l0_1 l0_2 ((zaj l0_2 a1).f0) ((zaj l0_2 a1).f1) ((zaj l0_2 a1).f2) ((zaj l0_2 a1).f3) ((zaj l0_2 a1).f4) ((zaj l0_2 a1).f5) ((zaj l0_2 a1).f6.f0) ((zaj l0_2 a1).f6.f1) ((zaj l0_2 a1).f6.f2) = some r) ∧ zac (kq ≤ kj4) ∧ zac (wc.heap[gb120]? = some (.cells #[(.slice A0_0 l0_0.length c0_0),(.slice A0_1 l0_1.length c0_1),(.slice (some ad121) l0_2.length c0_2)] 26 (0,0))) ∧ zac (wc.heap[gb122]? = some (.cells #[.string ((zaj l0_2 a1).f0),.string ((zaj l0_2 a1).f1),.string ((zaj l0_2 a1).f2),.int .i64 ((zaj l0_2 a1).f3),.int .i64 ((zaj l0_2 a1).f4),.string ((zaj l0_2 a1).f5),.int .i64 ((zaj l0_2 a1).f6.f0),.int .i64 ((zaj l0_2 a1).f6.f1),.int .i64 ((zaj l0_2 a1).f6.f2)] 36 (0,0))) ∧ zac (Below w.heap.size w wc))
      case first =>
       have H:=HC19.out
       clear HC19
       replace H:=Option.bind_eq_some_iff.mp H
       obtain ⟨t125,A200,H⟩:=H
       replace H : (if t125 < 0 then (zaq.j1 kj4 a1 true l0_0 l0_1 l0_2 ((zaj l0_2 a1).f0) ((zaj l0_2 a1).f1) ((zaj l0_2 a1).f2) ((zaj l0_2 a1).f3) ((zaj l0_2 a1).f4) ((zaj l0_2 a1).f5) ((zaj l0_2 a1).f6.f0) ((zaj l0_2 a1).f6.f1) ((zaj l0_2 a1).f6.f2)) else ((zav.f kj4 l0_1 ((zaj l0_2 a1).f2)).bind fun t126=>(zaq.j1 kj4 a1 (decide (t126 < 0)) l0_0 l0_1 l0_2 ((zaj l0_2 a1).f0) ((zaj l0_2 a1).f1) ((zaj l0_2 a1).f2) ((zaj l0_2 a1).f3) ((zaj l0_2 a1).f4) ((zaj l0_2 a1).f5) ((zaj l0_2 a1).f6.f0) ((zaj l0_2 a1).f6.f1) ((zaj l0_2 a1).f6.f2)))) = some r:=H
       have A20:=zac.mk A200
       clear A200
       by_cases c21 : t125 < 0
       ·rw [if_pos c21] at H
        have c21b0 : decide (t125 < 0) = true:=decide_eq_true c21
        clear c21
        (first|rw [c21b0]|(simp only [i64_w,i32_w];rw [c21b0])|skip)
        have H':=zac.mk H
        clear H
        have hnb22:=NB120_122.out
        have hnc22:=NB122_120.out
        have hcz23_0 : wc.cell? ⟨gb120,0,none⟩ = some (.slice A0_0 l0_0.length c0_0):=(zad BK120.out 0).trans rfl
        have hcz23_1 : wc.cell? ⟨gb120,1,none⟩ = some (.slice A0_1 l0_1.length c0_1):=(zad BK120.out 1).trans rfl
        have hcz23_2 : wc.cell? ⟨gb120,2,none⟩ = some (.slice (some ad121) l0_2.length c0_2):=(zad BK120.out 2).trans rfl
        have hfz23_0:=zaa BK120.out 0
        have hfz23_1:=zaa BK120.out 1
        have hfz23_2:=zaa BK120.out 2
        have hcz24_0 : wc.cell? ⟨gb122,0,none⟩ = some (.string ((zaj l0_2 a1).f0)):=(zad BK122.out 0).trans rfl
        have hcz24_1 : wc.cell? ⟨gb122,1,none⟩ = some (.string ((zaj l0_2 a1).f1)):=(zad BK122.out 1).trans rfl
        have hcz24_2 : wc.cell? ⟨gb122,2,none⟩ = some (.string ((zaj l0_2 a1).f2)):=(zad BK122.out 2).trans rfl
        have hcz24_3 : wc.cell? ⟨gb122,3,none⟩ = some (.int .i64 ((zaj l0_2 a1).f3)):=(zad BK122.out 3).trans rfl
        have hcz24_4 : wc.cell? ⟨gb122,4,none⟩ = some (.int .i64 ((zaj l0_2 a1).f4)):=(zad BK122.out 4).trans rfl
        have hcz24_5 : wc.cell? ⟨gb122,5,none⟩ = some (.string ((zaj l0_2 a1).f5)):=(zad BK122.out 5).trans rfl
        have hcz24_6 : wc.cell? ⟨gb122,6,none⟩ = some (.int .i64 ((zaj l0_2 a1).f6.f0)):=(zad BK122.out 6).trans rfl
        have hcz24_7 : wc.cell? ⟨gb122,7,none⟩ = some (.int .i64 ((zaj l0_2 a1).f6.f1)):=(zad BK122.out 7).trans rfl
        have hcz24_8 : wc.cell? ⟨gb122,8,none⟩ = some (.int .i64 ((zaj l0_2 a1).f6.f2)):=(zad BK122.out 8).trans rfl
        have hfz24_0:=zaa BK122.out 0
        have hfz24_1:=zaa BK122.out 1
        have hfz24_2:=zaa BK122.out 2
        have hfz24_3:=zaa BK122.out 3
        have hfz24_4:=zaa BK122.out 4
        have hfz24_5:=zaa BK122.out 5
        have hfz24_6:=zaa BK122.out 6
        have hfz24_7:=zaa BK122.out 7
        have hfz24_8:=zaa BK122.out 8
        go_wp2_with (first|((with_reducible refine zbe (f:=34) rfl ?_);refine zce (some 27) rfl rfl Try.func34 (by kernel_rfl) rfl #[.slice A0_1 l0_1.length c0_1,.string ((zaj l0_2 a1).f1)] rfl (by (try simp only [List.map_toArray,List.map_cons,List.map_nil]);first|done|rfl|(simp only [List.length_drop,List.length_take];rfl)) ?_;(with_reducible refine (zav.calls kj4 _ _ l0_1 ((zaj l0_2 a1).f1) t125 _ ?side1 ?side2 A20.out).mono ?_);(case side1=>repeat (first|exact (Kd.C_below HR0_1.out HB.out)|(with_reducible refine Kd.C_alloc ?_ _)|(with_reducible refine Kd.C_drewN ?_ _)|(with_reducible refine Kd.C_drew ?_)));(case side2=>exact HC0_1.out);rintro e w' ⟨rfl,⟨nd,rfl⟩⟩;refine ⟨_,rfl,?_⟩))
        go_meet
        case rel=>exact ⟨_,(true),(by first|rfl|(simp;done)|(simp [*];done)),H',⟨by have:=HJ4.out;first|omega|exact Nat.le_refl _⟩,⟨by (with_reducible repeat (first|refine zah ?_ _|refine zak ?_|refine zag ?_ _));exact BK120.out⟩,⟨by (with_reducible repeat (first|refine zah ?_ _|refine zak ?_|refine zag ?_ _));exact BK122.out⟩,⟨by repeat (first|(with_reducible first|exact HB.out|apply zae|apply zab|apply zaf|refine zai ?_ GE120.out|refine zai ?_ GE122.out)|exact HB.out)⟩⟩
       ·rw [if_neg c21] at H
        have c21b0 : decide (t125 < 0) = false:=decide_eq_false c21
        clear c21
        (first|rw [c21b0]|(simp only [i64_w,i32_w];rw [c21b0])|skip)
        replace H:=Option.bind_eq_some_iff.mp H
        obtain ⟨t126,A250,H⟩:=H
        replace H : (zaq.j1 kj4 a1 (decide (t126 < 0)) l0_0 l0_1 l0_2 ((zaj l0_2 a1).f0) ((zaj l0_2 a1).f1) ((zaj l0_2 a1).f2) ((zaj l0_2 a1).f3) ((zaj l0_2 a1).f4) ((zaj l0_2 a1).f5) ((zaj l0_2 a1).f6.f0) ((zaj l0_2 a1).f6.f1) ((zaj l0_2 a1).f6.f2)) = some r:=H
        have A25:=zac.mk A250
        clear A250
        have H':=zac.mk H
        clear H
        have hnb26:=NB120_122.out
        have hnc26:=NB122_120.out
        have hcz27_0 : wc.cell? ⟨gb120,0,none⟩ = some (.slice A0_0 l0_0.length c0_0):=(zad BK120.out 0).trans rfl
        have hcz27_1 : wc.cell? ⟨gb120,1,none⟩ = some (.slice A0_1 l0_1.length c0_1):=(zad BK120.out 1).trans rfl
        have hcz27_2 : wc.cell? ⟨gb120,2,none⟩ = some (.slice (some ad121) l0_2.length c0_2):=(zad BK120.out 2).trans rfl
        have hfz27_0:=zaa BK120.out 0
        have hfz27_1:=zaa BK120.out 1
        have hfz27_2:=zaa BK120.out 2
        have hcz28_0 : wc.cell? ⟨gb122,0,none⟩ = some (.string ((zaj l0_2 a1).f0)):=(zad BK122.out 0).trans rfl
        have hcz28_1 : wc.cell? ⟨gb122,1,none⟩ = some (.string ((zaj l0_2 a1).f1)):=(zad BK122.out 1).trans rfl
        have hcz28_2 : wc.cell? ⟨gb122,2,none⟩ = some (.string ((zaj l0_2 a1).f2)):=(zad BK122.out 2).trans rfl
        have hcz28_3 : wc.cell? ⟨gb122,3,none⟩ = some (.int .i64 ((zaj l0_2 a1).f3)):=(zad BK122.out 3).trans rfl
        have hcz28_4 : wc.cell? ⟨gb122,4,none⟩ = some (.int .i64 ((zaj l0_2 a1).f4)):=(zad BK122.out 4).trans rfl
        have hcz28_5 : wc.cell? ⟨gb122,5,none⟩ = some (.string ((zaj l0_2 a1).f5)):=(zad BK122.out 5).trans rfl
        have hcz28_6 : wc.cell? ⟨gb122,6,none⟩ = some (.int .i64 ((zaj l0_2 a1).f6.f0)):=(zad BK122.out 6).trans rfl
        have hcz28_7 : wc.cell? ⟨gb122,7,none⟩ = some (.int .i64 ((zaj l0_2 a1).f6.f1)):=(zad BK122.out 7).trans rfl
        have hcz28_8 : wc.cell? ⟨gb122,8,none⟩ = some (.int .i64 ((zaj l0_2 a1).f6.f2)):=(zad BK122.out 8).trans rfl
        have hfz28_0:=zaa BK122.out 0
        have hfz28_1:=zaa BK122.out 1
        have hfz28_2:=zaa BK122.out 2
        have hfz28_3:=zaa BK122.out 3
        have hfz28_4:=zaa BK122.out 4
        have hfz28_5:=zaa BK122.out 5
        have hfz28_6:=zaa BK122.out 6
        have hfz28_7:=zaa BK122.out 7
        have hfz28_8:=zaa BK122.out 8
        go_wp2_with (first|((with_reducible refine zbe (f:=34) rfl ?_);refine zce (some 27) rfl rfl Try.func34 (by kernel_rfl) rfl #[.slice A0_1 l0_1.length c0_1,.string ((zaj l0_2 a1).f1)] rfl (by (try simp only [List.map_toArray,List.map_cons,List.map_nil]);first|done|rfl|(simp only [List.length_drop,List.length_take];rfl)) ?_;(with_reducible refine (zav.calls kj4 _ _ l0_1 ((zaj l0_2 a1).f1) t125 _ ?side1 ?side2 A20.out).mono ?_);(case side1=>repeat (first|exact (Kd.C_below HR0_1.out HB.out)|(with_reducible refine Kd.C_alloc ?_ _)|(with_reducible refine Kd.C_drewN ?_ _)|(with_reducible refine Kd.C_drew ?_)));(case side2=>exact HC0_1.out);rintro e w' ⟨rfl,⟨nd,rfl⟩⟩;refine ⟨_,rfl,?_⟩)|(go_at_call 34;(with_reducible refine (zav.calls kj4 _ _ l0_1 ((zaj l0_2 a1).f2) t126 _ ?side1 ?side2 A25.out).mono ?_);(case side1=>repeat (first|exact (Kd.C_below HR0_1.out (by repeat (first|(with_reducible first|exact HB.out|apply zae|apply zab|apply zaf|refine zai ?_ GE120.out|refine zai ?_ GE122.out)|exact HB.out)))|(with_reducible refine Kd.C_alloc ?_ _)|(with_reducible refine Kd.C_drewN ?_ _)|(with_reducible refine Kd.C_drew ?_)));(case side2=>exact HC0_1.out);rintro e w' ⟨rfl,⟨nd,rfl⟩⟩))
        go_meet
        case rel=>exact ⟨_,(decide (t126 < 0)),(by first|rfl|(simp;done)|(simp [*];done)),H',⟨by have:=HJ4.out;first|omega|exact Nat.le_refl _⟩,⟨by (with_reducible repeat (first|refine zah ?_ _|refine zak ?_|refine zag ?_ _));exact BK120.out⟩,⟨by (with_reducible repeat (first|refine zah ?_ _|refine zak ?_|refine zag ?_ _));exact BK122.out⟩,⟨by repeat (first|(with_reducible first|exact HB.out|apply zae|apply zab|apply zaf|refine zai ?_ GE120.out|refine zai ?_ GE122.out)|exact HB.out)⟩⟩
      case rest =>
       clear HC19
       try clear c3
       try clear c3b0
       try clear c4
       try clear c4b0
       try clear c18
       try clear hcz10_0
       try clear hcz10_1
       try clear hcz10_2
       try clear hcz10_3
       try clear hcz10_4
       try clear hcz10_5
       try clear hcz10_6
       try clear hcz10_7
       try clear hcz10_8
       try clear hcz7_0
       try clear hcz7_1
       try clear hcz7_2
       try clear hfz10_0
       try clear hfz10_1
       try clear hfz10_2
       try clear hfz10_3
       try clear hfz10_4
       try clear hfz10_5
       try clear hfz10_6
       try clear hfz10_7
       try clear hfz10_8
       try clear hfz7_0
       try clear hfz7_1
       try clear hfz7_2
       try clear hx121_0
       try clear hx121_1
       try clear hx121_2
       try clear hx121_3
       try clear hx121_4
       try clear hx121_5
       try clear hx121_6
       try clear hx121_7
       try clear hx121_8
       try clear p121
       try clear q121
       obtain ⟨kq,x36_18,rfl,HA,HJ18,BK120,BK122,HB⟩:=hcut
       cases kq with
       | zero=>exact absurd HA.out (by simp [zaq.j1])
       | succ kj18 =>
        have H:=HA.out
        clear HA
        simp only [zaq.j1] at H
        by_cases c29 : x36_18 = true
        ·subst c29
         have H1 : (some 6) = some r:=by rw [if_pos rfl] at H;exact H
         clear H
         have H:=H1
         clear H1
         obtain rfl:=Option.some.inj H
         go_wp2
         go_ret
         exact ⟨by first|rfl|(simp [errW_none,errW_some] <;> rfl)|(simp [*,errW_none,errW_some] <;> rfl),by repeat (first|(with_reducible first|exact HB.out|apply zae|apply zab|apply zaf|refine zai ?_ GE120.out|refine zai ?_ GE122.out)|exact HB.out)⟩
        ·replace c29:=Bool.eq_false_iff.mpr c29
         subst c29
         have H1 : (if ((zaj l0_2 a1).f1).toList = ((zaj l0_2 a1).f2).toList then (some 14) else (if ((zaj l0_2 a1).f3) < 2880 then (zaq.j2 kj18 a1 true l0_0 l0_1 l0_2 ((zaj l0_2 a1).f0) ((zaj l0_2 a1).f1) ((zaj l0_2 a1).f2) ((zaj l0_2 a1).f3) ((zaj l0_2 a1).f4) ((zaj l0_2 a1).f5) ((zaj l0_2 a1).f6.f0) ((zaj l0_2 a1).f6.f1) ((zaj l0_2 a1).f6.f2)) else (if ((zaj l0_2 a1).f4) > 52593120 then (zaq.j2 kj18 a1 true l0_0 l0_1 l0_2 ((zaj l0_2 a1).f0) ((zaj l0_2 a1).f1) ((zaj l0_2 a1).f2) ((zaj l0_2 a1).f3) ((zaj l0_2 a1).f4) ((zaj l0_2 a1).f5) ((zaj l0_2 a1).f6.f0) ((zaj l0_2 a1).f6.f1) ((zaj l0_2 a1).f6.f2)) else (if ((zaj l0_2 a1).f4) ≤ ((zaj l0_2 a1).f3) then (zaq.j2 kj18 a1 true l0_0 l0_1 l0_2 ((zaj l0_2 a1).f0) ((zaj l0_2 a1).f1) ((zaj l0_2 a1).f2) ((zaj l0_2 a1).f3) ((zaj l0_2 a1).f4) ((zaj l0_2 a1).f5) ((zaj l0_2 a1).f6.f0) ((zaj l0_2 a1).f6.f1) ((zaj l0_2 a1).f6.f2)) else (zaq.j2 kj18 a1 (decide ((wrap64 (((zaj l0_2 a1).f4) - ((zaj l0_2 a1).f3))) > 1440)) l0_0 l0_1 l0_2 ((zaj l0_2 a1).f0) ((zaj l0_2 a1).f1) ((zaj l0_2 a1).f2) ((zaj l0_2 a1).f3) ((zaj l0_2 a1).f4) ((zaj l0_2 a1).f5) ((zaj l0_2 a1).f6.f0) ((zaj l0_2 a1).f6.f1) ((zaj l0_2 a1).f6.f2)))))) = some r:=by rw [if_neg (show ¬ (false = true) by decide)] at H;exact H
         clear H
         have H:=H1
         clear H1
         by_cases c30 : ((zaj l0_2 a1).f1).toList = ((zaj l0_2 a1).f2).toList
         ·rw [if_pos c30] at H
          have c30b0 : (((zaj l0_2 a1).f1).toList == ((zaj l0_2 a1).f2).toList) = true:=beq_iff_eq.mpr c30
          have c30b1 : (((zaj l0_2 a1).f1).toList != ((zaj l0_2 a1).f2).toList) = false:=bne_eq_false_iff_eq.mpr c30
          clear c30
          obtain rfl:=Option.some.inj H
          have hnb31:=NB122_120.out
          have hnc31:=NB120_122.out
          have hcz32_0 : wc.cell? ⟨gb122,0,none⟩ = some (.string ((zaj l0_2 a1).f0)):=(zad BK122.out 0).trans rfl
          have hcz32_1 : wc.cell? ⟨gb122,1,none⟩ = some (.string ((zaj l0_2 a1).f1)):=(zad BK122.out 1).trans rfl
          have hcz32_2 : wc.cell? ⟨gb122,2,none⟩ = some (.string ((zaj l0_2 a1).f2)):=(zad BK122.out 2).trans rfl
          have hcz32_3 : wc.cell? ⟨gb122,3,none⟩ = some (.int .i64 ((zaj l0_2 a1).f3)):=(zad BK122.out 3).trans rfl
          have hcz32_4 : wc.cell? ⟨gb122,4,none⟩ = some (.int .i64 ((zaj l0_2 a1).f4)):=(zad BK122.out 4).trans rfl
          have hcz32_5 : wc.cell? ⟨gb122,5,none⟩ = some (.string ((zaj l0_2 a1).f5)):=(zad BK122.out 5).trans rfl
          have hcz32_6 : wc.cell? ⟨gb122,6,none⟩ = some (.int .i64 ((zaj l0_2 a1).f6.f0)):=(zad BK122.out 6).trans rfl
          have hcz32_7 : wc.cell? ⟨gb122,7,none⟩ = some (.int .i64 ((zaj l0_2 a1).f6.f1)):=(zad BK122.out 7).trans rfl
          have hcz32_8 : wc.cell? ⟨gb122,8,none⟩ = some (.int .i64 ((zaj l0_2 a1).f6.f2)):=(zad BK122.out 8).trans rfl
          have hfz32_0:=zaa BK122.out 0
          have hfz32_1:=zaa BK122.out 1
          have hfz32_2:=zaa BK122.out 2
          have hfz32_3:=zaa BK122.out 3
          have hfz32_4:=zaa BK122.out 4
          have hfz32_5:=zaa BK122.out 5
          have hfz32_6:=zaa BK122.out 6
          have hfz32_7:=zaa BK122.out 7
          have hfz32_8:=zaa BK122.out 8
          go_wp2
          go_ret
          exact ⟨by first|rfl|(simp [errW_none,errW_some] <;> rfl)|(simp [*,errW_none,errW_some] <;> rfl),by repeat (first|(with_reducible first|exact HB.out|apply zae|apply zab|apply zaf|refine zai ?_ GE120.out|refine zai ?_ GE122.out)|exact HB.out)⟩
         ·rw [if_neg c30] at H
          have c30b0 : (((zaj l0_2 a1).f1).toList == ((zaj l0_2 a1).f2).toList) = false:=beq_eq_false_iff_ne.mpr c30
          have c30b1 : (((zaj l0_2 a1).f1).toList != ((zaj l0_2 a1).f2).toList) = true:=bne_iff_ne.mpr c30
          have HC33:=zac.mk H
          clear H
          have hnb34:=NB122_120.out
          have hnc34:=NB120_122.out
          have hcz35_0 : wc.cell? ⟨gb122,0,none⟩ = some (.string ((zaj l0_2 a1).f0)):=(zad BK122.out 0).trans rfl
          have hcz35_1 : wc.cell? ⟨gb122,1,none⟩ = some (.string ((zaj l0_2 a1).f1)):=(zad BK122.out 1).trans rfl
          have hcz35_2 : wc.cell? ⟨gb122,2,none⟩ = some (.string ((zaj l0_2 a1).f2)):=(zad BK122.out 2).trans rfl
          have hcz35_3 : wc.cell? ⟨gb122,3,none⟩ = some (.int .i64 ((zaj l0_2 a1).f3)):=(zad BK122.out 3).trans rfl
          have hcz35_4 : wc.cell? ⟨gb122,4,none⟩ = some (.int .i64 ((zaj l0_2 a1).f4)):=(zad BK122.out 4).trans rfl
          have hcz35_5 : wc.cell? ⟨gb122,5,none⟩ = some (.string ((zaj l0_2 a1).f5)):=(zad BK122.out 5).trans rfl
          have hcz35_6 : wc.cell? ⟨gb122,6,none⟩ = some (.int .i64 ((zaj l0_2 a1).f6.f0)):=(zad BK122.out 6).trans rfl
          have hcz35_7 : wc.cell? ⟨gb122,7,none⟩ = some (.int .i64 ((zaj l0_2 a1).f6.f1)):=(zad BK122.out 7).trans rfl
          have hcz35_8 : wc.cell? ⟨gb122,8,none⟩ = some (.int .i64 ((zaj l0_2 a1).f6.f2)):=(zad BK122.out 8).trans rfl
          have hfz35_0:=zaa BK122.out 0
          have hfz35_1:=zaa BK122.out 1
          have hfz35_2:=zaa BK122.out 2
          have hfz35_3:=zaa BK122.out 3
          have hfz35_4:=zaa BK122.out 4
          have hfz35_5:=zaa BK122.out 5
          have hfz35_6:=zaa BK122.out 6
          have hfz35_7:=zaa BK122.out 7
          have hfz35_8:=zaa BK122.out 8
          go_upto_region 8 with (fail)
          go_cut [64] (fun v64 wc=>∃ (kq : Nat) (x64_32 : Bool),v64 = .bool x64_32 ∧ zac (zaq.j2 kq a1 x64_32 l0_0 l0_1 l0_2 ((zaj l0_2 a1).f0) ((zaj l0_2 a1).f1) ((zaj l0_2 a1).f2) ((zaj l0_2 a1).f3) ((zaj l0_2 a1).f4) ((zaj l0_2 a1).f5) ((zaj l0_2 a1).f6.f0) ((zaj l0_2 a1).f6.f1) ((zaj l0_2 a1).f6.f2) = some r) ∧ zac (kq ≤ kj18) ∧ zac (wc.heap[gb120]? = some (.cells #[(.slice A0_0 l0_0.length c0_0),(.slice A0_1 l0_1.length c0_1),(.slice (some ad121) l0_2.length c0_2)] 26 (0,0))) ∧ zac (wc.heap[gb122]? = some (.cells #[.string ((zaj l0_2 a1).f0),.string ((zaj l0_2 a1).f1),.string ((zaj l0_2 a1).f2),.int .i64 ((zaj l0_2 a1).f3),.int .i64 ((zaj l0_2 a1).f4),.string ((zaj l0_2 a1).f5),.int .i64 ((zaj l0_2 a1).f6.f0),.int .i64 ((zaj l0_2 a1).f6.f1),.int .i64 ((zaj l0_2 a1).f6.f2)] 36 (0,0))) ∧ zac (Below w.heap.size w wc))
          case first =>
           have H:=HC33.out
           clear HC33
           by_cases c36 : ((zaj l0_2 a1).f3) < 2880
           ·rw [if_pos c36] at H
            have c36b0 : decide (((zaj l0_2 a1).f3) < 2880) = true:=decide_eq_true c36
            clear c36
            (first|rw [c36b0]|(simp only [i64_w,i32_w];rw [c36b0])|skip)
            have H':=zac.mk H
            clear H
            have hnb37:=NB122_120.out
            have hnc37:=NB120_122.out
            have hcz38_0 : wc.cell? ⟨gb122,0,none⟩ = some (.string ((zaj l0_2 a1).f0)):=(zad BK122.out 0).trans rfl
            have hcz38_1 : wc.cell? ⟨gb122,1,none⟩ = some (.string ((zaj l0_2 a1).f1)):=(zad BK122.out 1).trans rfl
            have hcz38_2 : wc.cell? ⟨gb122,2,none⟩ = some (.string ((zaj l0_2 a1).f2)):=(zad BK122.out 2).trans rfl
            have hcz38_3 : wc.cell? ⟨gb122,3,none⟩ = some (.int .i64 ((zaj l0_2 a1).f3)):=(zad BK122.out 3).trans rfl
            have hcz38_4 : wc.cell? ⟨gb122,4,none⟩ = some (.int .i64 ((zaj l0_2 a1).f4)):=(zad BK122.out 4).trans rfl
            have hcz38_5 : wc.cell? ⟨gb122,5,none⟩ = some (.string ((zaj l0_2 a1).f5)):=(zad BK122.out 5).trans rfl
            have hcz38_6 : wc.cell? ⟨gb122,6,none⟩ = some (.int .i64 ((zaj l0_2 a1).f6.f0)):=(zad BK122.out 6).trans rfl
            have hcz38_7 : wc.cell? ⟨gb122,7,none⟩ = some (.int .i64 ((zaj l0_2 a1).f6.f1)):=(zad BK122.out 7).trans rfl
            have hcz38_8 : wc.cell? ⟨gb122,8,none⟩ = some (.int .i64 ((zaj l0_2 a1).f6.f2)):=(zad BK122.out 8).trans rfl
            have hfz38_0:=zaa BK122.out 0
            have hfz38_1:=zaa BK122.out 1
            have hfz38_2:=zaa BK122.out 2
            have hfz38_3:=zaa BK122.out 3
            have hfz38_4:=zaa BK122.out 4
            have hfz38_5:=zaa BK122.out 5
            have hfz38_6:=zaa BK122.out 6
            have hfz38_7:=zaa BK122.out 7
            have hfz38_8:=zaa BK122.out 8
            go_wp2
            go_meet
            case rel=>exact ⟨_,(true),(by first|rfl|(simp;done)|(simp [*];done)),H',⟨by have:=HJ4.out;have:=HJ18.out;first|omega|exact Nat.le_refl _⟩,⟨by (with_reducible repeat (first|refine zah ?_ _|refine zak ?_|refine zag ?_ _));exact BK120.out⟩,⟨by (with_reducible repeat (first|refine zah ?_ _|refine zak ?_|refine zag ?_ _));exact BK122.out⟩,⟨by repeat (first|(with_reducible first|exact HB.out|apply zae|apply zab|apply zaf|refine zai ?_ GE120.out|refine zai ?_ GE122.out)|exact HB.out)⟩⟩
           ·rw [if_neg c36] at H
            have c36b0 : decide (((zaj l0_2 a1).f3) < 2880) = false:=decide_eq_false c36
            clear c36
            (first|rw [c36b0]|(simp only [i64_w,i32_w];rw [c36b0])|skip)
            by_cases c39 : ((zaj l0_2 a1).f4) > 52593120
            ·rw [if_pos c39] at H
             have c39b0 : decide (52593120 < ((zaj l0_2 a1).f4)) = true:=decide_eq_true c39
             clear c39
             have H':=zac.mk H
             clear H
             have hnb40:=NB122_120.out
             have hnc40:=NB120_122.out
             have hcz41_0 : wc.cell? ⟨gb122,0,none⟩ = some (.string ((zaj l0_2 a1).f0)):=(zad BK122.out 0).trans rfl
             have hcz41_1 : wc.cell? ⟨gb122,1,none⟩ = some (.string ((zaj l0_2 a1).f1)):=(zad BK122.out 1).trans rfl
             have hcz41_2 : wc.cell? ⟨gb122,2,none⟩ = some (.string ((zaj l0_2 a1).f2)):=(zad BK122.out 2).trans rfl
             have hcz41_3 : wc.cell? ⟨gb122,3,none⟩ = some (.int .i64 ((zaj l0_2 a1).f3)):=(zad BK122.out 3).trans rfl
             have hcz41_4 : wc.cell? ⟨gb122,4,none⟩ = some (.int .i64 ((zaj l0_2 a1).f4)):=(zad BK122.out 4).trans rfl
             have hcz41_5 : wc.cell? ⟨gb122,5,none⟩ = some (.string ((zaj l0_2 a1).f5)):=(zad BK122.out 5).trans rfl
             have hcz41_6 : wc.cell? ⟨gb122,6,none⟩ = some (.int .i64 ((zaj l0_2 a1).f6.f0)):=(zad BK122.out 6).trans rfl
             have hcz41_7 : wc.cell? ⟨gb122,7,none⟩ = some (.int .i64 ((zaj l0_2 a1).f6.f1)):=(zad BK122.out 7).trans rfl
             have hcz41_8 : wc.cell? ⟨gb122,8,none⟩ = some (.int .i64 ((zaj l0_2 a1).f6.f2)):=(zad BK122.out 8).trans rfl
             have hfz41_0:=zaa BK122.out 0
             have hfz41_1:=zaa BK122.out 1
             have hfz41_2:=zaa BK122.out 2
             have hfz41_3:=zaa BK122.out 3
             have hfz41_4:=zaa BK122.out 4
             have hfz41_5:=zaa BK122.out 5
             have hfz41_6:=zaa BK122.out 6
             have hfz41_7:=zaa BK122.out 7
             have hfz41_8:=zaa BK122.out 8
             go_wp2
             go_meet
             case rel=>exact ⟨_,(true),(by first|rfl|(simp;done)|(simp [*];done)),H',⟨by have:=HJ4.out;have:=HJ18.out;first|omega|exact Nat.le_refl _⟩,⟨by (with_reducible repeat (first|refine zah ?_ _|refine zak ?_|refine zag ?_ _));exact BK120.out⟩,⟨by (with_reducible repeat (first|refine zah ?_ _|refine zak ?_|refine zag ?_ _));exact BK122.out⟩,⟨by repeat (first|(with_reducible first|exact HB.out|apply zae|apply zab|apply zaf|refine zai ?_ GE120.out|refine zai ?_ GE122.out)|exact HB.out)⟩⟩
            ·rw [if_neg c39] at H
             have c39b0 : decide (52593120 < ((zaj l0_2 a1).f4)) = false:=decide_eq_false c39
             clear c39
             by_cases c42 : ((zaj l0_2 a1).f4) ≤ ((zaj l0_2 a1).f3)
             ·rw [if_pos c42] at H
              have c42b0 : decide (((zaj l0_2 a1).f4) ≤ ((zaj l0_2 a1).f3)) = true:=decide_eq_true c42
              clear c42
              have H':=zac.mk H
              clear H
              have hnb43:=NB122_120.out
              have hnc43:=NB120_122.out
              have hcz44_0 : wc.cell? ⟨gb122,0,none⟩ = some (.string ((zaj l0_2 a1).f0)):=(zad BK122.out 0).trans rfl
              have hcz44_1 : wc.cell? ⟨gb122,1,none⟩ = some (.string ((zaj l0_2 a1).f1)):=(zad BK122.out 1).trans rfl
              have hcz44_2 : wc.cell? ⟨gb122,2,none⟩ = some (.string ((zaj l0_2 a1).f2)):=(zad BK122.out 2).trans rfl
              have hcz44_3 : wc.cell? ⟨gb122,3,none⟩ = some (.int .i64 ((zaj l0_2 a1).f3)):=(zad BK122.out 3).trans rfl
              have hcz44_4 : wc.cell? ⟨gb122,4,none⟩ = some (.int .i64 ((zaj l0_2 a1).f4)):=(zad BK122.out 4).trans rfl
              have hcz44_5 : wc.cell? ⟨gb122,5,none⟩ = some (.string ((zaj l0_2 a1).f5)):=(zad BK122.out 5).trans rfl
              have hcz44_6 : wc.cell? ⟨gb122,6,none⟩ = some (.int .i64 ((zaj l0_2 a1).f6.f0)):=(zad BK122.out 6).trans rfl
              have hcz44_7 : wc.cell? ⟨gb122,7,none⟩ = some (.int .i64 ((zaj l0_2 a1).f6.f1)):=(zad BK122.out 7).trans rfl
              have hcz44_8 : wc.cell? ⟨gb122,8,none⟩ = some (.int .i64 ((zaj l0_2 a1).f6.f2)):=(zad BK122.out 8).trans rfl
              have hfz44_0:=zaa BK122.out 0
              have hfz44_1:=zaa BK122.out 1
              have hfz44_2:=zaa BK122.out 2
              have hfz44_3:=zaa BK122.out 3
              have hfz44_4:=zaa BK122.out 4
              have hfz44_5:=zaa BK122.out 5
              have hfz44_6:=zaa BK122.out 6
              have hfz44_7:=zaa BK122.out 7
              have hfz44_8:=zaa BK122.out 8
              go_wp2
              go_meet
              case rel=>exact ⟨_,(true),(by first|rfl|(simp;done)|(simp [*];done)),H',⟨by have:=HJ4.out;have:=HJ18.out;first|omega|exact Nat.le_refl _⟩,⟨by (with_reducible repeat (first|refine zah ?_ _|refine zak ?_|refine zag ?_ _));exact BK120.out⟩,⟨by (with_reducible repeat (first|refine zah ?_ _|refine zak ?_|refine zag ?_ _));exact BK122.out⟩,⟨by repeat (first|(with_reducible first|exact HB.out|apply zae|apply zab|apply zaf|refine zai ?_ GE120.out|refine zai ?_ GE122.out)|exact HB.out)⟩⟩
             ·rw [if_neg c42] at H
              have c42b0 : decide (((zaj l0_2 a1).f4) ≤ ((zaj l0_2 a1).f3)) = false:=decide_eq_false c42
              clear c42
              have H':=zac.mk H
              clear H
              have hnb45:=NB122_120.out
              have hnc45:=NB120_122.out
              have hcz46_0 : wc.cell? ⟨gb122,0,none⟩ = some (.string ((zaj l0_2 a1).f0)):=(zad BK122.out 0).trans rfl
              have hcz46_1 : wc.cell? ⟨gb122,1,none⟩ = some (.string ((zaj l0_2 a1).f1)):=(zad BK122.out 1).trans rfl
              have hcz46_2 : wc.cell? ⟨gb122,2,none⟩ = some (.string ((zaj l0_2 a1).f2)):=(zad BK122.out 2).trans rfl
              have hcz46_3 : wc.cell? ⟨gb122,3,none⟩ = some (.int .i64 ((zaj l0_2 a1).f3)):=(zad BK122.out 3).trans rfl
              have hcz46_4 : wc.cell? ⟨gb122,4,none⟩ = some (.int .i64 ((zaj l0_2 a1).f4)):=(zad BK122.out 4).trans rfl
              have hcz46_5 : wc.cell? ⟨gb122,5,none⟩ = some (.string ((zaj l0_2 a1).f5)):=(zad BK122.out 5).trans rfl
              have hcz46_6 : wc.cell? ⟨gb122,6,none⟩ = some (.int .i64 ((zaj l0_2 a1).f6.f0)):=(zad BK122.out 6).trans rfl
              have hcz46_7 : wc.cell? ⟨gb122,7,none⟩ = some (.int .i64 ((zaj l0_2 a1).f6.f1)):=(zad BK122.out 7).trans rfl
              have hcz46_8 : wc.cell? ⟨gb122,8,none⟩ = some (.int .i64 ((zaj l0_2 a1).f6.f2)):=(zad BK122.out 8).trans rfl
              have hfz46_0:=zaa BK122.out 0
              have hfz46_1:=zaa BK122.out 1
              have hfz46_2:=zaa BK122.out 2
              have hfz46_3:=zaa BK122.out 3
              have hfz46_4:=zaa BK122.out 4
              have hfz46_5:=zaa BK122.out 5
              have hfz46_6:=zaa BK122.out 6
              have hfz46_7:=zaa BK122.out 7
              have hfz46_8:=zaa BK122.out 8
              go_wp2
              go_meet
              case rel=>exact ⟨_,(decide ((wrap64 (((zaj l0_2 a1).f4) - ((zaj l0_2 a1).f3))) > 1440)),(by first|rfl|(simp;done)|(simp [*];done)),H',⟨by have:=HJ4.out;have:=HJ18.out;first|omega|exact Nat.le_refl _⟩,⟨by (with_reducible repeat (first|refine zah ?_ _|refine zak ?_|refine zag ?_ _));exact BK120.out⟩,⟨by (with_reducible repeat (first|refine zah ?_ _|refine zak ?_|refine zag ?_ _));exact BK122.out⟩,⟨by repeat (first|(with_reducible first|exact HB.out|apply zae|apply zab|apply zaf|refine zai ?_ GE120.out|refine zai ?_ GE122.out)|exact HB.out)⟩⟩
          case rest =>
           clear HC33
           try clear c3
           try clear c3b0
           try clear c4
           try clear c4b0
           try clear c18
           try clear c29
           try clear c30
           try clear c30b0
           try clear c30b1
           try clear hcz10_0
           try clear hcz10_1
           try clear hcz10_2
           try clear hcz10_3
           try clear hcz10_4
           try clear hcz10_5
           try clear hcz10_6
           try clear hcz10_7
           try clear hcz10_8
           try clear hcz35_0
           try clear hcz35_1
           try clear hcz35_2
           try clear hcz35_3
           try clear hcz35_4
           try clear hcz35_5
           try clear hcz35_6
           try clear hcz35_7
           try clear hcz35_8
           try clear hcz7_0
           try clear hcz7_1
           try clear hcz7_2
           try clear hfz10_0
           try clear hfz10_1
           try clear hfz10_2
           try clear hfz10_3
           try clear hfz10_4
           try clear hfz10_5
           try clear hfz10_6
           try clear hfz10_7
           try clear hfz10_8
           try clear hfz35_0
           try clear hfz35_1
           try clear hfz35_2
           try clear hfz35_3
           try clear hfz35_4
           try clear hfz35_5
           try clear hfz35_6
           try clear hfz35_7
           try clear hfz35_8
           try clear hfz7_0
           try clear hfz7_1
           try clear hfz7_2
           try clear hx121_0
           try clear hx121_1
           try clear hx121_2
           try clear hx121_3
           try clear hx121_4
           try clear hx121_5
           try clear hx121_6
           try clear hx121_7
           try clear hx121_8
           try clear p121
           try clear q121
           obtain ⟨kq,x64_32,rfl,HA,HJ32,BK120,BK122,HB⟩:=hcut
           cases kq with
           | zero=>exact absurd HA.out (by simp [zaq.j2])
           | succ kj32 =>
            have H:=HA.out
            clear HA
            simp only [zaq.j2] at H
            by_cases c47 : x64_32 = true
            ·subst c47
             have H1 : (some 5) = some r:=by rw [if_pos rfl] at H;exact H
             clear H
             have H:=H1
             clear H1
             obtain rfl:=Option.some.inj H
             go_wp2
             go_ret
             exact ⟨by first|rfl|(simp [errW_none,errW_some] <;> rfl)|(simp [*,errW_none,errW_some] <;> rfl),by repeat (first|(with_reducible first|exact HB.out|apply zae|apply zab|apply zaf|refine zai ?_ GE120.out|refine zai ?_ GE122.out)|exact HB.out)⟩
            ·replace c47:=Bool.eq_false_iff.mpr c47
             subst c47
             have H1 : (zaq.l0 kj32 a1 0 l0_0 l0_1 l0_2 ((zaj l0_2 a1).f0) ((zaj l0_2 a1).f1) ((zaj l0_2 a1).f2) ((zaj l0_2 a1).f3) ((zaj l0_2 a1).f4) ((zaj l0_2 a1).f5) ((zaj l0_2 a1).f6.f0) ((zaj l0_2 a1).f6.f1) ((zaj l0_2 a1).f6.f2)) = some r:=by rw [if_neg (show ¬ (false = true) by decide)] at H;exact H
             clear H
             have H:=H1
             clear H1
             have H':=zac.mk H
             clear H
             go_wp2
             go_loopg [6] kj32 (fun kq v6 w'=>∃ (x6_4 : Int),v6 = .int .i64 x6_4 ∧ zac (zaq.l0 kq a1 x6_4 l0_0 l0_1 l0_2 ((zaj l0_2 a1).f0) ((zaj l0_2 a1).f1) ((zaj l0_2 a1).f2) ((zaj l0_2 a1).f3) ((zaj l0_2 a1).f4) ((zaj l0_2 a1).f5) ((zaj l0_2 a1).f6.f0) ((zaj l0_2 a1).f6.f1) ((zaj l0_2 a1).f6.f2) = some r) ∧ zac (kq ≤ kj32) ∧ zac (w'.heap[gb120]? = some (.cells #[(.slice A0_0 l0_0.length c0_0),(.slice A0_1 l0_1.length c0_1),(.slice (some ad121) l0_2.length c0_2)] 26 (0,0))) ∧ zac (w'.heap[gb122]? = some (.cells #[.string ((zaj l0_2 a1).f0),.string ((zaj l0_2 a1).f1),.string ((zaj l0_2 a1).f2),.int .i64 ((zaj l0_2 a1).f3),.int .i64 ((zaj l0_2 a1).f4),.string ((zaj l0_2 a1).f5),.int .i64 ((zaj l0_2 a1).f6.f0),.int .i64 ((zaj l0_2 a1).f6.f1),.int .i64 ((zaj l0_2 a1).f6.f2)] 36 (0,0))) ∧ zac (Below w.heap.size w w'))
             case atStart=>exact ⟨(0),(by first|rfl|(simp;done)|(simp [*];done)),H',⟨Nat.le_refl _⟩,⟨by (with_reducible repeat (first|refine zah ?_ _|refine zak ?_|refine zag ?_ _));exact BK120.out⟩,⟨by (with_reducible repeat (first|refine zah ?_ _|refine zak ?_|refine zag ?_ _));exact BK122.out⟩,⟨by repeat (first|(with_reducible first|exact HB.out|apply zae|apply zab|apply zaf|refine zai ?_ GE120.out|refine zai ?_ GE122.out)|exact HB.out)⟩⟩
             case round =>
              clear H'
              try clear c3
              try clear c3b0
              try clear c4
              try clear c4b0
              try clear c18
              try clear c29
              try clear c30
              try clear c30b0
              try clear c30b1
              try clear c47
              try clear hcz10_0
              try clear hcz10_1
              try clear hcz10_2
              try clear hcz10_3
              try clear hcz10_4
              try clear hcz10_5
              try clear hcz10_6
              try clear hcz10_7
              try clear hcz10_8
              try clear hcz35_0
              try clear hcz35_1
              try clear hcz35_2
              try clear hcz35_3
              try clear hcz35_4
              try clear hcz35_5
              try clear hcz35_6
              try clear hcz35_7
              try clear hcz35_8
              try clear hcz7_0
              try clear hcz7_1
              try clear hcz7_2
              try clear hfz10_0
              try clear hfz10_1
              try clear hfz10_2
              try clear hfz10_3
              try clear hfz10_4
              try clear hfz10_5
              try clear hfz10_6
              try clear hfz10_7
              try clear hfz10_8
              try clear hfz35_0
              try clear hfz35_1
              try clear hfz35_2
              try clear hfz35_3
              try clear hfz35_4
              try clear hfz35_5
              try clear hfz35_6
              try clear hfz35_7
              try clear hfz35_8
              try clear hfz7_0
              try clear hfz7_1
              try clear hfz7_2
              try clear hx121_0
              try clear hx121_1
              try clear hx121_2
              try clear hx121_3
              try clear hx121_4
              try clear hx121_5
              try clear hx121_6
              try clear hx121_7
              try clear hx121_8
              try clear p121
              try clear q121
              obtain ⟨x6_4,rfl,HA,HK4,BK120,BK122,HB⟩:=hrel
              cases gk with
              | zero=>exact absurd HA.out (by simp [zaq.l0])
              | succ k4 =>
               have H:=HA.out
               clear HA
               simp only [zaq.l0] at H
               by_cases c48 : x6_4 < 3
               ·rw [if_pos c48] at H
                have c48b0 : decide (x6_4 < 3) = true:=decide_eq_true c48
                clear c48
                by_cases c49 : 0 ≤ x6_4
                ·rw [if_pos c49] at H
                 have c49b0 : decide (0 ≤ x6_4) = true:=decide_eq_true c49
                 clear c49
                 by_cases c50 : (rd [((zaj l0_2 a1).f6.f0),((zaj l0_2 a1).f6.f1),((zaj l0_2 a1).f6.f2)] x6_4) < 0
                 ·rw [if_pos c50] at H
                  have c50b0 : decide ((rd [((zaj l0_2 a1).f6.f0),((zaj l0_2 a1).f6.f1),((zaj l0_2 a1).f6.f2)] x6_4) < 0) = true:=decide_eq_true c50
                  clear c50
                  obtain rfl:=Option.some.inj H
                  have hnb51:=NB122_120.out
                  have hnc51:=NB120_122.out
                  have hcz52_0 : wr.cell? ⟨gb122,0,none⟩ = some (.string ((zaj l0_2 a1).f0)):=(zad BK122.out 0).trans rfl
                  have hcz52_1 : wr.cell? ⟨gb122,1,none⟩ = some (.string ((zaj l0_2 a1).f1)):=(zad BK122.out 1).trans rfl
                  have hcz52_2 : wr.cell? ⟨gb122,2,none⟩ = some (.string ((zaj l0_2 a1).f2)):=(zad BK122.out 2).trans rfl
                  have hcz52_3 : wr.cell? ⟨gb122,3,none⟩ = some (.int .i64 ((zaj l0_2 a1).f3)):=(zad BK122.out 3).trans rfl
                  have hcz52_4 : wr.cell? ⟨gb122,4,none⟩ = some (.int .i64 ((zaj l0_2 a1).f4)):=(zad BK122.out 4).trans rfl
                  have hcz52_5 : wr.cell? ⟨gb122,5,none⟩ = some (.string ((zaj l0_2 a1).f5)):=(zad BK122.out 5).trans rfl
                  have hcz52_6 : wr.cell? ⟨gb122,6,none⟩ = some (.int .i64 ((zaj l0_2 a1).f6.f0)):=(zad BK122.out 6).trans rfl
                  have hcz52_7 : wr.cell? ⟨gb122,7,none⟩ = some (.int .i64 ((zaj l0_2 a1).f6.f1)):=(zad BK122.out 7).trans rfl
                  have hcz52_8 : wr.cell? ⟨gb122,8,none⟩ = some (.int .i64 ((zaj l0_2 a1).f6.f2)):=(zad BK122.out 8).trans rfl
                  have hfz52_0:=zaa BK122.out 0
                  have hfz52_1:=zaa BK122.out 1
                  have hfz52_2:=zaa BK122.out 2
                  have hfz52_3:=zaa BK122.out 3
                  have hfz52_4:=zaa BK122.out 4
                  have hfz52_5:=zaa BK122.out 5
                  have hfz52_6:=zaa BK122.out 6
                  have hfz52_7:=zaa BK122.out 7
                  have hfz52_8:=zaa BK122.out 8
                  have hcv53:=ar_cell BK122.out 6 3 [((zaj l0_2 a1).f6.f0),((zaj l0_2 a1).f6.f1),((zaj l0_2 a1).f6.f2)] x6_4 rfl (fun i hi=>by match i,hi with|0,_=>rfl|1,_=>rfl|2,_=>rfl) (of_decide_eq_true (by first|(with_reducible assumption)|assumption)) (of_decide_eq_true (by first|(with_reducible assumption)|assumption))
                  have hfv53:=zaa BK122.out (6 + (x6_4).toNat)
                  have hpv53:=eq_true (show 0 ≤ x6_4 from of_decide_eq_true (by first|(with_reducible assumption)|assumption))
                  have hqv53:=eq_true (show x6_4 < 3 from of_decide_eq_true (by first|(with_reducible assumption)|assumption))
                  go_wp2
                  go_ret
                  exact ⟨by first|rfl|(simp [errW_none,errW_some] <;> rfl)|(simp [*,errW_none,errW_some] <;> rfl),by repeat (first|(with_reducible first|exact HB.out|apply zae|apply zab|apply zaf|refine zai ?_ GE120.out|refine zai ?_ GE122.out)|exact HB.out)⟩
                 ·rw [if_neg c50] at H
                  have c50b0 : decide ((rd [((zaj l0_2 a1).f6.f0),((zaj l0_2 a1).f6.f1),((zaj l0_2 a1).f6.f2)] x6_4) < 0) = false:=decide_eq_false c50
                  clear c50
                  by_cases c54 : (rd [((zaj l0_2 a1).f6.f0),((zaj l0_2 a1).f6.f1),((zaj l0_2 a1).f6.f2)] x6_4) > 8
                  ·rw [if_pos c54] at H
                   have c54b0 : decide (8 < (rd [((zaj l0_2 a1).f6.f0),((zaj l0_2 a1).f6.f1),((zaj l0_2 a1).f6.f2)] x6_4)) = true:=decide_eq_true c54
                   clear c54
                   obtain rfl:=Option.some.inj H
                   have hnb55:=NB122_120.out
                   have hnc55:=NB120_122.out
                   have hcz56_0 : wr.cell? ⟨gb122,0,none⟩ = some (.string ((zaj l0_2 a1).f0)):=(zad BK122.out 0).trans rfl
                   have hcz56_1 : wr.cell? ⟨gb122,1,none⟩ = some (.string ((zaj l0_2 a1).f1)):=(zad BK122.out 1).trans rfl
                   have hcz56_2 : wr.cell? ⟨gb122,2,none⟩ = some (.string ((zaj l0_2 a1).f2)):=(zad BK122.out 2).trans rfl
                   have hcz56_3 : wr.cell? ⟨gb122,3,none⟩ = some (.int .i64 ((zaj l0_2 a1).f3)):=(zad BK122.out 3).trans rfl
                   have hcz56_4 : wr.cell? ⟨gb122,4,none⟩ = some (.int .i64 ((zaj l0_2 a1).f4)):=(zad BK122.out 4).trans rfl
                   have hcz56_5 : wr.cell? ⟨gb122,5,none⟩ = some (.string ((zaj l0_2 a1).f5)):=(zad BK122.out 5).trans rfl
                   have hcz56_6 : wr.cell? ⟨gb122,6,none⟩ = some (.int .i64 ((zaj l0_2 a1).f6.f0)):=(zad BK122.out 6).trans rfl
                   have hcz56_7 : wr.cell? ⟨gb122,7,none⟩ = some (.int .i64 ((zaj l0_2 a1).f6.f1)):=(zad BK122.out 7).trans rfl
                   have hcz56_8 : wr.cell? ⟨gb122,8,none⟩ = some (.int .i64 ((zaj l0_2 a1).f6.f2)):=(zad BK122.out 8).trans rfl
                   have hfz56_0:=zaa BK122.out 0
                   have hfz56_1:=zaa BK122.out 1
                   have hfz56_2:=zaa BK122.out 2
                   have hfz56_3:=zaa BK122.out 3
                   have hfz56_4:=zaa BK122.out 4
                   have hfz56_5:=zaa BK122.out 5
                   have hfz56_6:=zaa BK122.out 6
                   have hfz56_7:=zaa BK122.out 7
                   have hfz56_8:=zaa BK122.out 8
                   have hcv57:=ar_cell BK122.out 6 3 [((zaj l0_2 a1).f6.f0),((zaj l0_2 a1).f6.f1),((zaj l0_2 a1).f6.f2)] x6_4 rfl (fun i hi=>by match i,hi with|0,_=>rfl|1,_=>rfl|2,_=>rfl) (of_decide_eq_true (by first|(with_reducible assumption)|assumption)) (of_decide_eq_true (by first|(with_reducible assumption)|assumption))
                   have hfv57:=zaa BK122.out (6 + (x6_4).toNat)
                   have hpv57:=eq_true (show 0 ≤ x6_4 from of_decide_eq_true (by first|(with_reducible assumption)|assumption))
                   have hqv57:=eq_true (show x6_4 < 3 from of_decide_eq_true (by first|(with_reducible assumption)|assumption))
                   have hcv58:=ar_cell BK122.out 6 3 [((zaj l0_2 a1).f6.f0),((zaj l0_2 a1).f6.f1),((zaj l0_2 a1).f6.f2)] x6_4 rfl (fun i hi=>by match i,hi with|0,_=>rfl|1,_=>rfl|2,_=>rfl) (of_decide_eq_true (by first|(with_reducible assumption)|assumption)) (of_decide_eq_true (by first|(with_reducible assumption)|assumption))
                   have hfv58:=zaa BK122.out (6 + (x6_4).toNat)
                   have hpv58:=eq_true (show 0 ≤ x6_4 from of_decide_eq_true (by first|(with_reducible assumption)|assumption))
                   have hqv58:=eq_true (show x6_4 < 3 from of_decide_eq_true (by first|(with_reducible assumption)|assumption))
                   go_wp2
                   go_ret
                   exact ⟨by first|rfl|(simp [errW_none,errW_some] <;> rfl)|(simp [*,errW_none,errW_some] <;> rfl),by repeat (first|(with_reducible first|exact HB.out|apply zae|apply zab|apply zaf|refine zai ?_ GE120.out|refine zai ?_ GE122.out)|exact HB.out)⟩
                  ·rw [if_neg c54] at H
                   have c54b0 : decide (8 < (rd [((zaj l0_2 a1).f6.f0),((zaj l0_2 a1).f6.f1),((zaj l0_2 a1).f6.f2)] x6_4)) = false:=decide_eq_false c54
                   clear c54
                   have H':=zac.mk H
                   clear H
                   have hnb59:=NB122_120.out
                   have hnc59:=NB120_122.out
                   have hcz60_0 : wr.cell? ⟨gb122,0,none⟩ = some (.string ((zaj l0_2 a1).f0)):=(zad BK122.out 0).trans rfl
                   have hcz60_1 : wr.cell? ⟨gb122,1,none⟩ = some (.string ((zaj l0_2 a1).f1)):=(zad BK122.out 1).trans rfl
                   have hcz60_2 : wr.cell? ⟨gb122,2,none⟩ = some (.string ((zaj l0_2 a1).f2)):=(zad BK122.out 2).trans rfl
                   have hcz60_3 : wr.cell? ⟨gb122,3,none⟩ = some (.int .i64 ((zaj l0_2 a1).f3)):=(zad BK122.out 3).trans rfl
                   have hcz60_4 : wr.cell? ⟨gb122,4,none⟩ = some (.int .i64 ((zaj l0_2 a1).f4)):=(zad BK122.out 4).trans rfl
                   have hcz60_5 : wr.cell? ⟨gb122,5,none⟩ = some (.string ((zaj l0_2 a1).f5)):=(zad BK122.out 5).trans rfl
                   have hcz60_6 : wr.cell? ⟨gb122,6,none⟩ = some (.int .i64 ((zaj l0_2 a1).f6.f0)):=(zad BK122.out 6).trans rfl
                   have hcz60_7 : wr.cell? ⟨gb122,7,none⟩ = some (.int .i64 ((zaj l0_2 a1).f6.f1)):=(zad BK122.out 7).trans rfl
                   have hcz60_8 : wr.cell? ⟨gb122,8,none⟩ = some (.int .i64 ((zaj l0_2 a1).f6.f2)):=(zad BK122.out 8).trans rfl
                   have hfz60_0:=zaa BK122.out 0
                   have hfz60_1:=zaa BK122.out 1
                   have hfz60_2:=zaa BK122.out 2
                   have hfz60_3:=zaa BK122.out 3
                   have hfz60_4:=zaa BK122.out 4
                   have hfz60_5:=zaa BK122.out 5
                   have hfz60_6:=zaa BK122.out 6
                   have hfz60_7:=zaa BK122.out 7
                   have hfz60_8:=zaa BK122.out 8
                   have hcv61:=ar_cell BK122.out 6 3 [((zaj l0_2 a1).f6.f0),((zaj l0_2 a1).f6.f1),((zaj l0_2 a1).f6.f2)] x6_4 rfl (fun i hi=>by match i,hi with|0,_=>rfl|1,_=>rfl|2,_=>rfl) (of_decide_eq_true (by first|(with_reducible assumption)|assumption)) (of_decide_eq_true (by first|(with_reducible assumption)|assumption))
                   have hfv61:=zaa BK122.out (6 + (x6_4).toNat)
                   have hpv61:=eq_true (show 0 ≤ x6_4 from of_decide_eq_true (by first|(with_reducible assumption)|assumption))
                   have hqv61:=eq_true (show x6_4 < 3 from of_decide_eq_true (by first|(with_reducible assumption)|assumption))
                   have hcv62:=ar_cell BK122.out 6 3 [((zaj l0_2 a1).f6.f0),((zaj l0_2 a1).f6.f1),((zaj l0_2 a1).f6.f2)] x6_4 rfl (fun i hi=>by match i,hi with|0,_=>rfl|1,_=>rfl|2,_=>rfl) (of_decide_eq_true (by first|(with_reducible assumption)|assumption)) (of_decide_eq_true (by first|(with_reducible assumption)|assumption))
                   have hfv62:=zaa BK122.out (6 + (x6_4).toNat)
                   have hpv62:=eq_true (show 0 ≤ x6_4 from of_decide_eq_true (by first|(with_reducible assumption)|assumption))
                   have hqv62:=eq_true (show x6_4 < 3 from of_decide_eq_true (by first|(with_reducible assumption)|assumption))
                   go_wp2
                   go_roundg k4
                   case measure=>have:=HJ4.out;have:=HJ18.out;have:=HJ32.out;have:=HK4.out;omega
                   case rel=>exact ⟨(wrap64 (x6_4 + 1)),(by first|rfl|(simp;done)|(simp [*];done)),H',⟨by have:=HJ4.out;have:=HJ18.out;have:=HJ32.out;have:=HK4.out;omega⟩,⟨by (with_reducible repeat (first|refine zah ?_ _|refine zak ?_|refine zag ?_ _));exact BK120.out⟩,⟨by (with_reducible repeat (first|refine zah ?_ _|refine zak ?_|refine zag ?_ _));exact BK122.out⟩,⟨by repeat (first|(with_reducible first|exact HB.out|apply zae|apply zab|apply zaf|refine zai ?_ GE120.out|refine zai ?_ GE122.out)|exact HB.out)⟩⟩
                ·rw [if_neg c49] at H
                 exact absurd H (by simp)
               ·rw [if_neg c48] at H
                have c48b0 : decide (x6_4 < 3) = false:=decide_eq_false c48
                clear c48
                by_cases c63 : a1 > 0
                ·rw [if_pos c63] at H
                 have c63b0 : decide (0 < a1) = true:=decide_eq_true c63
                 clear c63
                 obtain ⟨ji64,hji64⟩ : ∃ j_ : Int,(wrap64 (a1 - 1)) = j_:=⟨_,rfl⟩
                 replace H : (if 0 ≤ (ji64) then (if (ji64) < (l0_2.length : Int) then (if ((zaj l0_2 a1).f3) < ((zaj l0_2 (ji64)).f3) then (some 8) else (if ((zaj l0_2 a1).f3) = ((zaj l0_2 (ji64)).f3) then (if ((Op.bytesLess (((zaj l0_2 (ji64)).f0).toList) ((zaj l0_2 a1).f0).toList) = true) then (some 0) else (some 8)) else (some 0))) else (none)) else (none)) = some r:=by first|(rw [hji64] at H;exact H)|(simp only [hji64] at H ⊢;exact H)
                 have hji64w : (IntKind.i64.wrap (a1 - 1)) = ji64:=(i64_w _).trans hji64
                 by_cases c65 : 0 ≤ (ji64)
                 ·rw [if_pos c65] at H
                  have c65b0 : decide (0 ≤ (ji64)) = true:=decide_eq_true c65
                  clear c65
                  by_cases c66 : (ji64) < (l0_2.length : Int)
                  ·rw [if_pos c66] at H
                   have c66b0 : decide ((ji64) < (l0_2.length : Int)) = true:=decide_eq_true c66
                   clear c66
                   by_cases c67 : ((zaj l0_2 a1).f3) < ((zaj l0_2 (ji64)).f3)
                   ·rw [if_pos c67] at H
                    have c67b0 : decide (((zaj l0_2 a1).f3) < ((zaj l0_2 (ji64)).f3)) = true:=decide_eq_true c67
                    clear c67
                    obtain rfl:=Option.some.inj H
                    have hnb68:=NB120_122.out
                    have hnc68:=NB122_120.out
                    have hcz69_0 : wr.cell? ⟨gb120,0,none⟩ = some (.slice A0_0 l0_0.length c0_0):=(zad BK120.out 0).trans rfl
                    have hcz69_1 : wr.cell? ⟨gb120,1,none⟩ = some (.slice A0_1 l0_1.length c0_1):=(zad BK120.out 1).trans rfl
                    have hcz69_2 : wr.cell? ⟨gb120,2,none⟩ = some (.slice (some ad121) l0_2.length c0_2):=(zad BK120.out 2).trans rfl
                    have hfz69_0:=zaa BK120.out 0
                    have hfz69_1:=zaa BK120.out 1
                    have hfz69_2:=zaa BK120.out 2
                    have p127 : 0 ≤ ((ji64) : Int):=of_decide_eq_true (by first|(with_reducible assumption)|assumption)
                    have q127 : (ji64) < (l0_2.length : Int):=of_decide_eq_true (by first|(with_reducible assumption)|assumption)
                    obtain ⟨ad127,e127,hx127_0,hx127_1,hx127_2,hx127_3,hx127_4,hx127_5,hx127_6,hx127_7,hx127_8⟩:=at_T36 HR0_2.out (ji64) p127 q127
                    obtain rfl : ad121 = ad127:=(by injection e127)
                    replace hx127_0:=(HB.out.cell (World.block_lt_of_cell? w _ hx127_0)).trans hx127_0
                    replace hx127_1:=(HB.out.cell (World.block_lt_of_cell? w _ hx127_1)).trans hx127_1
                    replace hx127_2:=(HB.out.cell (World.block_lt_of_cell? w _ hx127_2)).trans hx127_2
                    replace hx127_3:=(HB.out.cell (World.block_lt_of_cell? w _ hx127_3)).trans hx127_3
                    replace hx127_4:=(HB.out.cell (World.block_lt_of_cell? w _ hx127_4)).trans hx127_4
                    replace hx127_5:=(HB.out.cell (World.block_lt_of_cell? w _ hx127_5)).trans hx127_5
                    replace hx127_6:=(HB.out.cell (World.block_lt_of_cell? w _ hx127_6)).trans hx127_6
                    replace hx127_7:=(HB.out.cell (World.block_lt_of_cell? w _ hx127_7)).trans hx127_7
                    replace hx127_8:=(HB.out.cell (World.block_lt_of_cell? w _ hx127_8)).trans hx127_8
                    replace p127:=eq_true p127
                    replace q127:=eq_true q127
                    go_wp2_with (first|((with_reducible refine zbh (N:=7) rfl ?_);refine zbf ?hg (N:=7) ?hd (cs:=#[.string (⟨#[]⟩ : ByteArray),.string (⟨#[]⟩ : ByteArray),.string (⟨#[]⟩ : ByteArray),.int .i64 0,.int .i64 0,.string (⟨#[]⟩ : ByteArray),.int .i64 0,.int .i64 0,.int .i64 0]) (t:=36) ?hr ?_;(case hd=>rfl);(case hg=>rfl);(case hr=>first|(go_simp;done)|(go_simp;rfl));intro gb128 hg w70 hbox hb;have n0_:=zac.mk (zat (g:=gb120) (o:=.cells #[.slice A0_0 l0_0.length c0_0,.slice A0_1 l0_1.length c0_1,.slice (some ad121) l0_2.length c0_2] 26 (0,0)) (by (with_reducible repeat (first|refine zah ?_ _|refine zak ?_|refine zag ?_ _));exact BK120.out) hb);have n1_:=zac.mk (zat (g:=gb122) (o:=.cells #[.string ((zaj l0_2 a1).f0),.string ((zaj l0_2 a1).f1),.string ((zaj l0_2 a1).f2),.int .i64 ((zaj l0_2 a1).f3),.int .i64 ((zaj l0_2 a1).f4),.string ((zaj l0_2 a1).f5),.int .i64 ((zaj l0_2 a1).f6.f0),.int .i64 ((zaj l0_2 a1).f6.f1),.int .i64 ((zaj l0_2 a1).f6.f2)] 36 (0,0)) (by (with_reducible repeat (first|refine zah ?_ _|refine zak ?_|refine zag ?_ _));exact BK122.out) hb);have n2_:=zac.mk (zao (by repeat (first|(with_reducible first|exact HB.out|apply zae|apply zab|apply zaf|refine zai ?_ GE120.out|refine zai ?_ GE122.out)|exact HB.out)) hb);have n3_:=zac.mk (hbox);have n4_:=zac.mk ((by rw [hg];exact (zam (by repeat (first|(with_reducible first|exact HB.out|apply zae|apply zab|apply zaf|refine zai ?_ GE120.out|refine zai ?_ GE122.out)|exact HB.out))) : w.heap.size ≤ gb128));have n5_:=zac.mk ((by rw [hg];exact (zam (by repeat (first|(with_reducible first|exact HB.out|apply zae|apply zab|apply zaf|refine zai ?_ GE120.out|refine zai ?_ GE122.out)|exact HB.out))) : w.heap.size ≤ gb128));have n6_:=zac.mk ((by rw [hg];exact Nat.ne_of_lt (zbq (g:=gb120) (o:=.cells #[.slice A0_0 l0_0.length c0_0,.slice A0_1 l0_1.length c0_1,.slice (some ad121) l0_2.length c0_2] 26 (0,0)) (by (with_reducible repeat (first|refine zah ?_ _|refine zak ?_|refine zag ?_ _));exact BK120.out)) : gb120 ≠ gb128));have n7_:=zac.mk ((by rw [hg];exact Nat.ne_of_gt (zbq (g:=gb120) (o:=.cells #[.slice A0_0 l0_0.length c0_0,.slice A0_1 l0_1.length c0_1,.slice (some ad121) l0_2.length c0_2] 26 (0,0)) (by (with_reducible repeat (first|refine zah ?_ _|refine zak ?_|refine zag ?_ _));exact BK120.out)) : gb128 ≠ gb120));have n8_:=zac.mk ((by rw [hg];exact Nat.ne_of_lt (zbq (g:=gb122) (o:=.cells #[.string ((zaj l0_2 a1).f0),.string ((zaj l0_2 a1).f1),.string ((zaj l0_2 a1).f2),.int .i64 ((zaj l0_2 a1).f3),.int .i64 ((zaj l0_2 a1).f4),.string ((zaj l0_2 a1).f5),.int .i64 ((zaj l0_2 a1).f6.f0),.int .i64 ((zaj l0_2 a1).f6.f1),.int .i64 ((zaj l0_2 a1).f6.f2)] 36 (0,0)) (by (with_reducible repeat (first|refine zah ?_ _|refine zak ?_|refine zag ?_ _));exact BK122.out)) : gb122 ≠ gb128));have n9_:=zac.mk ((by rw [hg];exact Nat.ne_of_gt (zbq (g:=gb122) (o:=.cells #[.string ((zaj l0_2 a1).f0),.string ((zaj l0_2 a1).f1),.string ((zaj l0_2 a1).f2),.int .i64 ((zaj l0_2 a1).f3),.int .i64 ((zaj l0_2 a1).f4),.string ((zaj l0_2 a1).f5),.int .i64 ((zaj l0_2 a1).f6.f0),.int .i64 ((zaj l0_2 a1).f6.f1),.int .i64 ((zaj l0_2 a1).f6.f2)] 36 (0,0)) (by (with_reducible repeat (first|refine zah ?_ _|refine zak ?_|refine zag ?_ _));exact BK122.out)) : gb128 ≠ gb122));clear BK120;clear BK122;clear HB;have BK120:=n0_;have BK122:=n1_;have HB:=n2_;have BK128:=n3_;have GW128:=n4_;have GE128:=n5_;have NB120_128:=n6_;have NB128_120:=n7_;have NB122_128:=n8_;have NB128_122:=n9_;clear n0_ n1_ n2_ n3_ n4_ n5_ n6_ n7_ n8_ n9_;clear hb hbox hg;have hnb71:=NB128_120.out;have hnc71:=NB120_128.out;have hnb72:=NB128_122.out;have hnc72:=NB122_128.out;have hcz73_0 : w70.cell? ⟨gb128,0,none⟩ = some (.string (⟨#[]⟩ : ByteArray)):=(zad BK128.out 0).trans rfl;have hcz73_1 : w70.cell? ⟨gb128,1,none⟩ = some (.string (⟨#[]⟩ : ByteArray)):=(zad BK128.out 1).trans rfl;have hcz73_2 : w70.cell? ⟨gb128,2,none⟩ = some (.string (⟨#[]⟩ : ByteArray)):=(zad BK128.out 2).trans rfl;have hcz73_3 : w70.cell? ⟨gb128,3,none⟩ = some (.int .i64 0):=(zad BK128.out 3).trans rfl;have hcz73_4 : w70.cell? ⟨gb128,4,none⟩ = some (.int .i64 0):=(zad BK128.out 4).trans rfl;have hcz73_5 : w70.cell? ⟨gb128,5,none⟩ = some (.string (⟨#[]⟩ : ByteArray)):=(zad BK128.out 5).trans rfl;have hcz73_6 : w70.cell? ⟨gb128,6,none⟩ = some (.int .i64 0):=(zad BK128.out 6).trans rfl;have hcz73_7 : w70.cell? ⟨gb128,7,none⟩ = some (.int .i64 0):=(zad BK128.out 7).trans rfl;have hcz73_8 : w70.cell? ⟨gb128,8,none⟩ = some (.int .i64 0):=(zad BK128.out 8).trans rfl;have hfz73_0:=zaa BK128.out 0;have hfz73_1:=zaa BK128.out 1;have hfz73_2:=zaa BK128.out 2;have hfz73_3:=zaa BK128.out 3;have hfz73_4:=zaa BK128.out 4;have hfz73_5:=zaa BK128.out 5;have hfz73_6:=zaa BK128.out 6;have hfz73_7:=zaa BK128.out 7;have hfz73_8:=zaa BK128.out 8;have hcz74_0 : w70.cell? ⟨gb122,0,none⟩ = some (.string ((zaj l0_2 a1).f0)):=(zad BK122.out 0).trans rfl;have hcz74_1 : w70.cell? ⟨gb122,1,none⟩ = some (.string ((zaj l0_2 a1).f1)):=(zad BK122.out 1).trans rfl;have hcz74_2 : w70.cell? ⟨gb122,2,none⟩ = some (.string ((zaj l0_2 a1).f2)):=(zad BK122.out 2).trans rfl;have hcz74_3 : w70.cell? ⟨gb122,3,none⟩ = some (.int .i64 ((zaj l0_2 a1).f3)):=(zad BK122.out 3).trans rfl;have hcz74_4 : w70.cell? ⟨gb122,4,none⟩ = some (.int .i64 ((zaj l0_2 a1).f4)):=(zad BK122.out 4).trans rfl;have hcz74_5 : w70.cell? ⟨gb122,5,none⟩ = some (.string ((zaj l0_2 a1).f5)):=(zad BK122.out 5).trans rfl;have hcz74_6 : w70.cell? ⟨gb122,6,none⟩ = some (.int .i64 ((zaj l0_2 a1).f6.f0)):=(zad BK122.out 6).trans rfl;have hcz74_7 : w70.cell? ⟨gb122,7,none⟩ = some (.int .i64 ((zaj l0_2 a1).f6.f1)):=(zad BK122.out 7).trans rfl;have hcz74_8 : w70.cell? ⟨gb122,8,none⟩ = some (.int .i64 ((zaj l0_2 a1).f6.f2)):=(zad BK122.out 8).trans rfl;have hfz74_0:=zaa BK122.out 0;have hfz74_1:=zaa BK122.out 1;have hfz74_2:=zaa BK122.out 2;have hfz74_3:=zaa BK122.out 3;have hfz74_4:=zaa BK122.out 4;have hfz74_5:=zaa BK122.out 5;have hfz74_6:=zaa BK122.out 6;have hfz74_7:=zaa BK122.out 7;have hfz74_8:=zaa BK122.out 8))
                    go_ret
                    exact ⟨by first|rfl|(simp [errW_none,errW_some] <;> rfl)|(simp only [← hji64];first|rfl|(simp [errW_none,errW_some] <;> rfl))|(simp [*,errW_none,errW_some] <;> rfl),by repeat (first|(with_reducible first|exact HB.out|apply zae|apply zab|apply zaf|refine zai ?_ GE120.out|refine zai ?_ GE122.out|refine zai ?_ GE128.out)|exact HB.out)⟩
                   ·rw [if_neg c67] at H
                    have c67b0 : decide (((zaj l0_2 a1).f3) < ((zaj l0_2 (ji64)).f3)) = false:=decide_eq_false c67
                    clear c67
                    by_cases c75 : ((zaj l0_2 a1).f3) = ((zaj l0_2 (ji64)).f3)
                    ·rw [if_pos c75] at H
                     have c75b0 : (((zaj l0_2 a1).f3) == ((zaj l0_2 (ji64)).f3)) = true:=beq_iff_eq.mpr c75
                     have c75b1 : (((zaj l0_2 a1).f3) != ((zaj l0_2 (ji64)).f3)) = false:=bne_eq_false_iff_eq.mpr c75
                     clear c75
                     by_cases c76 : ((Op.bytesLess (((zaj l0_2 (ji64)).f0).toList) ((zaj l0_2 a1).f0).toList) = true)
                     ·rw [if_pos c76] at H
                      have c76b0 : (Op.bytesLess (((zaj l0_2 (ji64)).f0).toList) ((zaj l0_2 a1).f0).toList) = true:=c76
                      clear c76
                      obtain rfl:=Option.some.inj H
                      have hnb77:=NB120_122.out
                      have hnc77:=NB122_120.out
                      have hcz78_0 : wr.cell? ⟨gb120,0,none⟩ = some (.slice A0_0 l0_0.length c0_0):=(zad BK120.out 0).trans rfl
                      have hcz78_1 : wr.cell? ⟨gb120,1,none⟩ = some (.slice A0_1 l0_1.length c0_1):=(zad BK120.out 1).trans rfl
                      have hcz78_2 : wr.cell? ⟨gb120,2,none⟩ = some (.slice (some ad121) l0_2.length c0_2):=(zad BK120.out 2).trans rfl
                      have hfz78_0:=zaa BK120.out 0
                      have hfz78_1:=zaa BK120.out 1
                      have hfz78_2:=zaa BK120.out 2
                      have p127 : 0 ≤ ((ji64) : Int):=of_decide_eq_true (by first|(with_reducible assumption)|assumption)
                      have q127 : (ji64) < (l0_2.length : Int):=of_decide_eq_true (by first|(with_reducible assumption)|assumption)
                      obtain ⟨ad127,e127,hx127_0,hx127_1,hx127_2,hx127_3,hx127_4,hx127_5,hx127_6,hx127_7,hx127_8⟩:=at_T36 HR0_2.out (ji64) p127 q127
                      obtain rfl : ad121 = ad127:=(by injection e127)
                      replace hx127_0:=(HB.out.cell (World.block_lt_of_cell? w _ hx127_0)).trans hx127_0
                      replace hx127_1:=(HB.out.cell (World.block_lt_of_cell? w _ hx127_1)).trans hx127_1
                      replace hx127_2:=(HB.out.cell (World.block_lt_of_cell? w _ hx127_2)).trans hx127_2
                      replace hx127_3:=(HB.out.cell (World.block_lt_of_cell? w _ hx127_3)).trans hx127_3
                      replace hx127_4:=(HB.out.cell (World.block_lt_of_cell? w _ hx127_4)).trans hx127_4
                      replace hx127_5:=(HB.out.cell (World.block_lt_of_cell? w _ hx127_5)).trans hx127_5
                      replace hx127_6:=(HB.out.cell (World.block_lt_of_cell? w _ hx127_6)).trans hx127_6
                      replace hx127_7:=(HB.out.cell (World.block_lt_of_cell? w _ hx127_7)).trans hx127_7
                      replace hx127_8:=(HB.out.cell (World.block_lt_of_cell? w _ hx127_8)).trans hx127_8
                      replace p127:=eq_true p127
                      replace q127:=eq_true q127
                      go_wp2_with (first|((with_reducible refine zbh (N:=7) rfl ?_);refine zbf ?hg (N:=7) ?hd (cs:=#[.string (⟨#[]⟩ : ByteArray),.string (⟨#[]⟩ : ByteArray),.string (⟨#[]⟩ : ByteArray),.int .i64 0,.int .i64 0,.string (⟨#[]⟩ : ByteArray),.int .i64 0,.int .i64 0,.int .i64 0]) (t:=36) ?hr ?_;(case hd=>rfl);(case hg=>rfl);(case hr=>first|(go_simp;done)|(go_simp;rfl));intro gb128 hg w79 hbox hb;have n0_:=zac.mk (zat (g:=gb120) (o:=.cells #[.slice A0_0 l0_0.length c0_0,.slice A0_1 l0_1.length c0_1,.slice (some ad121) l0_2.length c0_2] 26 (0,0)) (by (with_reducible repeat (first|refine zah ?_ _|refine zak ?_|refine zag ?_ _));exact BK120.out) hb);have n1_:=zac.mk (zat (g:=gb122) (o:=.cells #[.string ((zaj l0_2 a1).f0),.string ((zaj l0_2 a1).f1),.string ((zaj l0_2 a1).f2),.int .i64 ((zaj l0_2 a1).f3),.int .i64 ((zaj l0_2 a1).f4),.string ((zaj l0_2 a1).f5),.int .i64 ((zaj l0_2 a1).f6.f0),.int .i64 ((zaj l0_2 a1).f6.f1),.int .i64 ((zaj l0_2 a1).f6.f2)] 36 (0,0)) (by (with_reducible repeat (first|refine zah ?_ _|refine zak ?_|refine zag ?_ _));exact BK122.out) hb);have n2_:=zac.mk (zao (by repeat (first|(with_reducible first|exact HB.out|apply zae|apply zab|apply zaf|refine zai ?_ GE120.out|refine zai ?_ GE122.out)|exact HB.out)) hb);have n3_:=zac.mk (hbox);have n4_:=zac.mk ((by rw [hg];exact (zam (by repeat (first|(with_reducible first|exact HB.out|apply zae|apply zab|apply zaf|refine zai ?_ GE120.out|refine zai ?_ GE122.out)|exact HB.out))) : w.heap.size ≤ gb128));have n5_:=zac.mk ((by rw [hg];exact (zam (by repeat (first|(with_reducible first|exact HB.out|apply zae|apply zab|apply zaf|refine zai ?_ GE120.out|refine zai ?_ GE122.out)|exact HB.out))) : w.heap.size ≤ gb128));have n6_:=zac.mk ((by rw [hg];exact Nat.ne_of_lt (zbq (g:=gb120) (o:=.cells #[.slice A0_0 l0_0.length c0_0,.slice A0_1 l0_1.length c0_1,.slice (some ad121) l0_2.length c0_2] 26 (0,0)) (by (with_reducible repeat (first|refine zah ?_ _|refine zak ?_|refine zag ?_ _));exact BK120.out)) : gb120 ≠ gb128));have n7_:=zac.mk ((by rw [hg];exact Nat.ne_of_gt (zbq (g:=gb120) (o:=.cells #[.slice A0_0 l0_0.length c0_0,.slice A0_1 l0_1.length c0_1,.slice (some ad121) l0_2.length c0_2] 26 (0,0)) (by (with_reducible repeat (first|refine zah ?_ _|refine zak ?_|refine zag ?_ _));exact BK120.out)) : gb128 ≠ gb120));have n8_:=zac.mk ((by rw [hg];exact Nat.ne_of_lt (zbq (g:=gb122) (o:=.cells #[.string ((zaj l0_2 a1).f0),.string ((zaj l0_2 a1).f1),.string ((zaj l0_2 a1).f2),.int .i64 ((zaj l0_2 a1).f3),.int .i64 ((zaj l0_2 a1).f4),.string ((zaj l0_2 a1).f5),.int .i64 ((zaj l0_2 a1).f6.f0),.int .i64 ((zaj l0_2 a1).f6.f1),.int .i64 ((zaj l0_2 a1).f6.f2)] 36 (0,0)) (by (with_reducible repeat (first|refine zah ?_ _|refine zak ?_|refine zag ?_ _));exact BK122.out)) : gb122 ≠ gb128));have n9_:=zac.mk ((by rw [hg];exact Nat.ne_of_gt (zbq (g:=gb122) (o:=.cells #[.string ((zaj l0_2 a1).f0),.string ((zaj l0_2 a1).f1),.string ((zaj l0_2 a1).f2),.int .i64 ((zaj l0_2 a1).f3),.int .i64 ((zaj l0_2 a1).f4),.string ((zaj l0_2 a1).f5),.int .i64 ((zaj l0_2 a1).f6.f0),.int .i64 ((zaj l0_2 a1).f6.f1),.int .i64 ((zaj l0_2 a1).f6.f2)] 36 (0,0)) (by (with_reducible repeat (first|refine zah ?_ _|refine zak ?_|refine zag ?_ _));exact BK122.out)) : gb128 ≠ gb122));clear BK120;clear BK122;clear HB;have BK120:=n0_;have BK122:=n1_;have HB:=n2_;have BK128:=n3_;have GW128:=n4_;have GE128:=n5_;have NB120_128:=n6_;have NB128_120:=n7_;have NB122_128:=n8_;have NB128_122:=n9_;clear n0_ n1_ n2_ n3_ n4_ n5_ n6_ n7_ n8_ n9_;clear hb hbox hg;have hnb80:=NB128_120.out;have hnc80:=NB120_128.out;have hnb81:=NB128_122.out;have hnc81:=NB122_128.out;have hcz82_0 : w79.cell? ⟨gb128,0,none⟩ = some (.string (⟨#[]⟩ : ByteArray)):=(zad BK128.out 0).trans rfl;have hcz82_1 : w79.cell? ⟨gb128,1,none⟩ = some (.string (⟨#[]⟩ : ByteArray)):=(zad BK128.out 1).trans rfl;have hcz82_2 : w79.cell? ⟨gb128,2,none⟩ = some (.string (⟨#[]⟩ : ByteArray)):=(zad BK128.out 2).trans rfl;have hcz82_3 : w79.cell? ⟨gb128,3,none⟩ = some (.int .i64 0):=(zad BK128.out 3).trans rfl;have hcz82_4 : w79.cell? ⟨gb128,4,none⟩ = some (.int .i64 0):=(zad BK128.out 4).trans rfl;have hcz82_5 : w79.cell? ⟨gb128,5,none⟩ = some (.string (⟨#[]⟩ : ByteArray)):=(zad BK128.out 5).trans rfl;have hcz82_6 : w79.cell? ⟨gb128,6,none⟩ = some (.int .i64 0):=(zad BK128.out 6).trans rfl;have hcz82_7 : w79.cell? ⟨gb128,7,none⟩ = some (.int .i64 0):=(zad BK128.out 7).trans rfl;have hcz82_8 : w79.cell? ⟨gb128,8,none⟩ = some (.int .i64 0):=(zad BK128.out 8).trans rfl;have hfz82_0:=zaa BK128.out 0;have hfz82_1:=zaa BK128.out 1;have hfz82_2:=zaa BK128.out 2;have hfz82_3:=zaa BK128.out 3;have hfz82_4:=zaa BK128.out 4;have hfz82_5:=zaa BK128.out 5;have hfz82_6:=zaa BK128.out 6;have hfz82_7:=zaa BK128.out 7;have hfz82_8:=zaa BK128.out 8;have hcz83_0 : w79.cell? ⟨gb122,0,none⟩ = some (.string ((zaj l0_2 a1).f0)):=(zad BK122.out 0).trans rfl;have hcz83_1 : w79.cell? ⟨gb122,1,none⟩ = some (.string ((zaj l0_2 a1).f1)):=(zad BK122.out 1).trans rfl;have hcz83_2 : w79.cell? ⟨gb122,2,none⟩ = some (.string ((zaj l0_2 a1).f2)):=(zad BK122.out 2).trans rfl;have hcz83_3 : w79.cell? ⟨gb122,3,none⟩ = some (.int .i64 ((zaj l0_2 a1).f3)):=(zad BK122.out 3).trans rfl;have hcz83_4 : w79.cell? ⟨gb122,4,none⟩ = some (.int .i64 ((zaj l0_2 a1).f4)):=(zad BK122.out 4).trans rfl;have hcz83_5 : w79.cell? ⟨gb122,5,none⟩ = some (.string ((zaj l0_2 a1).f5)):=(zad BK122.out 5).trans rfl;have hcz83_6 : w79.cell? ⟨gb122,6,none⟩ = some (.int .i64 ((zaj l0_2 a1).f6.f0)):=(zad BK122.out 6).trans rfl;have hcz83_7 : w79.cell? ⟨gb122,7,none⟩ = some (.int .i64 ((zaj l0_2 a1).f6.f1)):=(zad BK122.out 7).trans rfl;have hcz83_8 : w79.cell? ⟨gb122,8,none⟩ = some (.int .i64 ((zaj l0_2 a1).f6.f2)):=(zad BK122.out 8).trans rfl;have hfz83_0:=zaa BK122.out 0;have hfz83_1:=zaa BK122.out 1;have hfz83_2:=zaa BK122.out 2;have hfz83_3:=zaa BK122.out 3;have hfz83_4:=zaa BK122.out 4;have hfz83_5:=zaa BK122.out 5;have hfz83_6:=zaa BK122.out 6;have hfz83_7:=zaa BK122.out 7;have hfz83_8:=zaa BK122.out 8))
                      go_ret
                      exact ⟨by first|rfl|(simp [errW_none,errW_some] <;> rfl)|(simp only [← hji64];first|rfl|(simp [errW_none,errW_some] <;> rfl))|(simp [*,errW_none,errW_some] <;> rfl),by repeat (first|(with_reducible first|exact HB.out|apply zae|apply zab|apply zaf|refine zai ?_ GE120.out|refine zai ?_ GE122.out|refine zai ?_ GE128.out)|exact HB.out)⟩
                     ·rw [if_neg c76] at H
                      have c76b0 : (Op.bytesLess (((zaj l0_2 (ji64)).f0).toList) ((zaj l0_2 a1).f0).toList) = false:=by simpa using c76
                      clear c76
                      obtain rfl:=Option.some.inj H
                      have hnb84:=NB120_122.out
                      have hnc84:=NB122_120.out
                      have hcz85_0 : wr.cell? ⟨gb120,0,none⟩ = some (.slice A0_0 l0_0.length c0_0):=(zad BK120.out 0).trans rfl
                      have hcz85_1 : wr.cell? ⟨gb120,1,none⟩ = some (.slice A0_1 l0_1.length c0_1):=(zad BK120.out 1).trans rfl
                      have hcz85_2 : wr.cell? ⟨gb120,2,none⟩ = some (.slice (some ad121) l0_2.length c0_2):=(zad BK120.out 2).trans rfl
                      have hfz85_0:=zaa BK120.out 0
                      have hfz85_1:=zaa BK120.out 1
                      have hfz85_2:=zaa BK120.out 2
                      have p127 : 0 ≤ ((ji64) : Int):=of_decide_eq_true (by first|(with_reducible assumption)|assumption)
                      have q127 : (ji64) < (l0_2.length : Int):=of_decide_eq_true (by first|(with_reducible assumption)|assumption)
                      obtain ⟨ad127,e127,hx127_0,hx127_1,hx127_2,hx127_3,hx127_4,hx127_5,hx127_6,hx127_7,hx127_8⟩:=at_T36 HR0_2.out (ji64) p127 q127
                      obtain rfl : ad121 = ad127:=(by injection e127)
                      replace hx127_0:=(HB.out.cell (World.block_lt_of_cell? w _ hx127_0)).trans hx127_0
                      replace hx127_1:=(HB.out.cell (World.block_lt_of_cell? w _ hx127_1)).trans hx127_1
                      replace hx127_2:=(HB.out.cell (World.block_lt_of_cell? w _ hx127_2)).trans hx127_2
                      replace hx127_3:=(HB.out.cell (World.block_lt_of_cell? w _ hx127_3)).trans hx127_3
                      replace hx127_4:=(HB.out.cell (World.block_lt_of_cell? w _ hx127_4)).trans hx127_4
                      replace hx127_5:=(HB.out.cell (World.block_lt_of_cell? w _ hx127_5)).trans hx127_5
                      replace hx127_6:=(HB.out.cell (World.block_lt_of_cell? w _ hx127_6)).trans hx127_6
                      replace hx127_7:=(HB.out.cell (World.block_lt_of_cell? w _ hx127_7)).trans hx127_7
                      replace hx127_8:=(HB.out.cell (World.block_lt_of_cell? w _ hx127_8)).trans hx127_8
                      replace p127:=eq_true p127
                      replace q127:=eq_true q127
                      go_wp2_with (first|((with_reducible refine zbh (N:=7) rfl ?_);refine zbf ?hg (N:=7) ?hd (cs:=#[.string (⟨#[]⟩ : ByteArray),.string (⟨#[]⟩ : ByteArray),.string (⟨#[]⟩ : ByteArray),.int .i64 0,.int .i64 0,.string (⟨#[]⟩ : ByteArray),.int .i64 0,.int .i64 0,.int .i64 0]) (t:=36) ?hr ?_;(case hd=>rfl);(case hg=>rfl);(case hr=>first|(go_simp;done)|(go_simp;rfl));intro gb128 hg w86 hbox hb;have n0_:=zac.mk (zat (g:=gb120) (o:=.cells #[.slice A0_0 l0_0.length c0_0,.slice A0_1 l0_1.length c0_1,.slice (some ad121) l0_2.length c0_2] 26 (0,0)) (by (with_reducible repeat (first|refine zah ?_ _|refine zak ?_|refine zag ?_ _));exact BK120.out) hb);have n1_:=zac.mk (zat (g:=gb122) (o:=.cells #[.string ((zaj l0_2 a1).f0),.string ((zaj l0_2 a1).f1),.string ((zaj l0_2 a1).f2),.int .i64 ((zaj l0_2 a1).f3),.int .i64 ((zaj l0_2 a1).f4),.string ((zaj l0_2 a1).f5),.int .i64 ((zaj l0_2 a1).f6.f0),.int .i64 ((zaj l0_2 a1).f6.f1),.int .i64 ((zaj l0_2 a1).f6.f2)] 36 (0,0)) (by (with_reducible repeat (first|refine zah ?_ _|refine zak ?_|refine zag ?_ _));exact BK122.out) hb);have n2_:=zac.mk (zao (by repeat (first|(with_reducible first|exact HB.out|apply zae|apply zab|apply zaf|refine zai ?_ GE120.out|refine zai ?_ GE122.out)|exact HB.out)) hb);have n3_:=zac.mk (hbox);have n4_:=zac.mk ((by rw [hg];exact (zam (by repeat (first|(with_reducible first|exact HB.out|apply zae|apply zab|apply zaf|refine zai ?_ GE120.out|refine zai ?_ GE122.out)|exact HB.out))) : w.heap.size ≤ gb128));have n5_:=zac.mk ((by rw [hg];exact (zam (by repeat (first|(with_reducible first|exact HB.out|apply zae|apply zab|apply zaf|refine zai ?_ GE120.out|refine zai ?_ GE122.out)|exact HB.out))) : w.heap.size ≤ gb128));have n6_:=zac.mk ((by rw [hg];exact Nat.ne_of_lt (zbq (g:=gb120) (o:=.cells #[.slice A0_0 l0_0.length c0_0,.slice A0_1 l0_1.length c0_1,.slice (some ad121) l0_2.length c0_2] 26 (0,0)) (by (with_reducible repeat (first|refine zah ?_ _|refine zak ?_|refine zag ?_ _));exact BK120.out)) : gb120 ≠ gb128));have n7_:=zac.mk ((by rw [hg];exact Nat.ne_of_gt (zbq (g:=gb120) (o:=.cells #[.slice A0_0 l0_0.length c0_0,.slice A0_1 l0_1.length c0_1,.slice (some ad121) l0_2.length c0_2] 26 (0,0)) (by (with_reducible repeat (first|refine zah ?_ _|refine zak ?_|refine zag ?_ _));exact BK120.out)) : gb128 ≠ gb120));have n8_:=zac.mk ((by rw [hg];exact Nat.ne_of_lt (zbq (g:=gb122) (o:=.cells #[.string ((zaj l0_2 a1).f0),.string ((zaj l0_2 a1).f1),.string ((zaj l0_2 a1).f2),.int .i64 ((zaj l0_2 a1).f3),.int .i64 ((zaj l0_2 a1).f4),.string ((zaj l0_2 a1).f5),.int .i64 ((zaj l0_2 a1).f6.f0),.int .i64 ((zaj l0_2 a1).f6.f1),.int .i64 ((zaj l0_2 a1).f6.f2)] 36 (0,0)) (by (with_reducible repeat (first|refine zah ?_ _|refine zak ?_|refine zag ?_ _));exact BK122.out)) : gb122 ≠ gb128));have n9_:=zac.mk ((by rw [hg];exact Nat.ne_of_gt (zbq (g:=gb122) (o:=.cells #[.string ((zaj l0_2 a1).f0),.string ((zaj l0_2 a1).f1),.string ((zaj l0_2 a1).f2),.int .i64 ((zaj l0_2 a1).f3),.int .i64 ((zaj l0_2 a1).f4),.string ((zaj l0_2 a1).f5),.int .i64 ((zaj l0_2 a1).f6.f0),.int .i64 ((zaj l0_2 a1).f6.f1),.int .i64 ((zaj l0_2 a1).f6.f2)] 36 (0,0)) (by (with_reducible repeat (first|refine zah ?_ _|refine zak ?_|refine zag ?_ _));exact BK122.out)) : gb128 ≠ gb122));clear BK120;clear BK122;clear HB;have BK120:=n0_;have BK122:=n1_;have HB:=n2_;have BK128:=n3_;have GW128:=n4_;have GE128:=n5_;have NB120_128:=n6_;have NB128_120:=n7_;have NB122_128:=n8_;have NB128_122:=n9_;clear n0_ n1_ n2_ n3_ n4_ n5_ n6_ n7_ n8_ n9_;clear hb hbox hg;have hnb87:=NB128_120.out;have hnc87:=NB120_128.out;have hnb88:=NB128_122.out;have hnc88:=NB122_128.out;have hcz89_0 : w86.cell? ⟨gb128,0,none⟩ = some (.string (⟨#[]⟩ : ByteArray)):=(zad BK128.out 0).trans rfl;have hcz89_1 : w86.cell? ⟨gb128,1,none⟩ = some (.string (⟨#[]⟩ : ByteArray)):=(zad BK128.out 1).trans rfl;have hcz89_2 : w86.cell? ⟨gb128,2,none⟩ = some (.string (⟨#[]⟩ : ByteArray)):=(zad BK128.out 2).trans rfl;have hcz89_3 : w86.cell? ⟨gb128,3,none⟩ = some (.int .i64 0):=(zad BK128.out 3).trans rfl;have hcz89_4 : w86.cell? ⟨gb128,4,none⟩ = some (.int .i64 0):=(zad BK128.out 4).trans rfl;have hcz89_5 : w86.cell? ⟨gb128,5,none⟩ = some (.string (⟨#[]⟩ : ByteArray)):=(zad BK128.out 5).trans rfl;have hcz89_6 : w86.cell? ⟨gb128,6,none⟩ = some (.int .i64 0):=(zad BK128.out 6).trans rfl;have hcz89_7 : w86.cell? ⟨gb128,7,none⟩ = some (.int .i64 0):=(zad BK128.out 7).trans rfl;have hcz89_8 : w86.cell? ⟨gb128,8,none⟩ = some (.int .i64 0):=(zad BK128.out 8).trans rfl;have hfz89_0:=zaa BK128.out 0;have hfz89_1:=zaa BK128.out 1;have hfz89_2:=zaa BK128.out 2;have hfz89_3:=zaa BK128.out 3;have hfz89_4:=zaa BK128.out 4;have hfz89_5:=zaa BK128.out 5;have hfz89_6:=zaa BK128.out 6;have hfz89_7:=zaa BK128.out 7;have hfz89_8:=zaa BK128.out 8;have hcz90_0 : w86.cell? ⟨gb122,0,none⟩ = some (.string ((zaj l0_2 a1).f0)):=(zad BK122.out 0).trans rfl;have hcz90_1 : w86.cell? ⟨gb122,1,none⟩ = some (.string ((zaj l0_2 a1).f1)):=(zad BK122.out 1).trans rfl;have hcz90_2 : w86.cell? ⟨gb122,2,none⟩ = some (.string ((zaj l0_2 a1).f2)):=(zad BK122.out 2).trans rfl;have hcz90_3 : w86.cell? ⟨gb122,3,none⟩ = some (.int .i64 ((zaj l0_2 a1).f3)):=(zad BK122.out 3).trans rfl;have hcz90_4 : w86.cell? ⟨gb122,4,none⟩ = some (.int .i64 ((zaj l0_2 a1).f4)):=(zad BK122.out 4).trans rfl;have hcz90_5 : w86.cell? ⟨gb122,5,none⟩ = some (.string ((zaj l0_2 a1).f5)):=(zad BK122.out 5).trans rfl;have hcz90_6 : w86.cell? ⟨gb122,6,none⟩ = some (.int .i64 ((zaj l0_2 a1).f6.f0)):=(zad BK122.out 6).trans rfl;have hcz90_7 : w86.cell? ⟨gb122,7,none⟩ = some (.int .i64 ((zaj l0_2 a1).f6.f1)):=(zad BK122.out 7).trans rfl;have hcz90_8 : w86.cell? ⟨gb122,8,none⟩ = some (.int .i64 ((zaj l0_2 a1).f6.f2)):=(zad BK122.out 8).trans rfl;have hfz90_0:=zaa BK122.out 0;have hfz90_1:=zaa BK122.out 1;have hfz90_2:=zaa BK122.out 2;have hfz90_3:=zaa BK122.out 3;have hfz90_4:=zaa BK122.out 4;have hfz90_5:=zaa BK122.out 5;have hfz90_6:=zaa BK122.out 6;have hfz90_7:=zaa BK122.out 7;have hfz90_8:=zaa BK122.out 8))
                      go_ret
                      exact ⟨by first|rfl|(simp [errW_none,errW_some] <;> rfl)|(simp only [← hji64];first|rfl|(simp [errW_none,errW_some] <;> rfl))|(simp [*,errW_none,errW_some] <;> rfl),by repeat (first|(with_reducible first|exact HB.out|apply zae|apply zab|apply zaf|refine zai ?_ GE120.out|refine zai ?_ GE122.out|refine zai ?_ GE128.out)|exact HB.out)⟩
                    ·rw [if_neg c75] at H
                     have c75b0 : (((zaj l0_2 a1).f3) == ((zaj l0_2 (ji64)).f3)) = false:=beq_eq_false_iff_ne.mpr c75
                     have c75b1 : (((zaj l0_2 a1).f3) != ((zaj l0_2 (ji64)).f3)) = true:=bne_iff_ne.mpr c75
                     obtain rfl:=Option.some.inj H
                     have hnb91:=NB120_122.out
                     have hnc91:=NB122_120.out
                     have hcz92_0 : wr.cell? ⟨gb120,0,none⟩ = some (.slice A0_0 l0_0.length c0_0):=(zad BK120.out 0).trans rfl
                     have hcz92_1 : wr.cell? ⟨gb120,1,none⟩ = some (.slice A0_1 l0_1.length c0_1):=(zad BK120.out 1).trans rfl
                     have hcz92_2 : wr.cell? ⟨gb120,2,none⟩ = some (.slice (some ad121) l0_2.length c0_2):=(zad BK120.out 2).trans rfl
                     have hfz92_0:=zaa BK120.out 0
                     have hfz92_1:=zaa BK120.out 1
                     have hfz92_2:=zaa BK120.out 2
                     have p127 : 0 ≤ ((ji64) : Int):=of_decide_eq_true (by first|(with_reducible assumption)|assumption)
                     have q127 : (ji64) < (l0_2.length : Int):=of_decide_eq_true (by first|(with_reducible assumption)|assumption)
                     obtain ⟨ad127,e127,hx127_0,hx127_1,hx127_2,hx127_3,hx127_4,hx127_5,hx127_6,hx127_7,hx127_8⟩:=at_T36 HR0_2.out (ji64) p127 q127
                     obtain rfl : ad121 = ad127:=(by injection e127)
                     replace hx127_0:=(HB.out.cell (World.block_lt_of_cell? w _ hx127_0)).trans hx127_0
                     replace hx127_1:=(HB.out.cell (World.block_lt_of_cell? w _ hx127_1)).trans hx127_1
                     replace hx127_2:=(HB.out.cell (World.block_lt_of_cell? w _ hx127_2)).trans hx127_2
                     replace hx127_3:=(HB.out.cell (World.block_lt_of_cell? w _ hx127_3)).trans hx127_3
                     replace hx127_4:=(HB.out.cell (World.block_lt_of_cell? w _ hx127_4)).trans hx127_4
                     replace hx127_5:=(HB.out.cell (World.block_lt_of_cell? w _ hx127_5)).trans hx127_5
                     replace hx127_6:=(HB.out.cell (World.block_lt_of_cell? w _ hx127_6)).trans hx127_6
                     replace hx127_7:=(HB.out.cell (World.block_lt_of_cell? w _ hx127_7)).trans hx127_7
                     replace hx127_8:=(HB.out.cell (World.block_lt_of_cell? w _ hx127_8)).trans hx127_8
                     replace p127:=eq_true p127
                     replace q127:=eq_true q127
                     go_wp2_with (first|((with_reducible refine zbh (N:=7) rfl ?_);refine zbf ?hg (N:=7) ?hd (cs:=#[.string (⟨#[]⟩ : ByteArray),.string (⟨#[]⟩ : ByteArray),.string (⟨#[]⟩ : ByteArray),.int .i64 0,.int .i64 0,.string (⟨#[]⟩ : ByteArray),.int .i64 0,.int .i64 0,.int .i64 0]) (t:=36) ?hr ?_;(case hd=>rfl);(case hg=>rfl);(case hr=>first|(go_simp;done)|(go_simp;rfl));intro gb128 hg w93 hbox hb;have n0_:=zac.mk (zat (g:=gb120) (o:=.cells #[.slice A0_0 l0_0.length c0_0,.slice A0_1 l0_1.length c0_1,.slice (some ad121) l0_2.length c0_2] 26 (0,0)) (by (with_reducible repeat (first|refine zah ?_ _|refine zak ?_|refine zag ?_ _));exact BK120.out) hb);have n1_:=zac.mk (zat (g:=gb122) (o:=.cells #[.string ((zaj l0_2 a1).f0),.string ((zaj l0_2 a1).f1),.string ((zaj l0_2 a1).f2),.int .i64 ((zaj l0_2 a1).f3),.int .i64 ((zaj l0_2 a1).f4),.string ((zaj l0_2 a1).f5),.int .i64 ((zaj l0_2 a1).f6.f0),.int .i64 ((zaj l0_2 a1).f6.f1),.int .i64 ((zaj l0_2 a1).f6.f2)] 36 (0,0)) (by (with_reducible repeat (first|refine zah ?_ _|refine zak ?_|refine zag ?_ _));exact BK122.out) hb);have n2_:=zac.mk (zao (by repeat (first|(with_reducible first|exact HB.out|apply zae|apply zab|apply zaf|refine zai ?_ GE120.out|refine zai ?_ GE122.out)|exact HB.out)) hb);have n3_:=zac.mk (hbox);have n4_:=zac.mk ((by rw [hg];exact (zam (by repeat (first|(with_reducible first|exact HB.out|apply zae|apply zab|apply zaf|refine zai ?_ GE120.out|refine zai ?_ GE122.out)|exact HB.out))) : w.heap.size ≤ gb128));have n5_:=zac.mk ((by rw [hg];exact (zam (by repeat (first|(with_reducible first|exact HB.out|apply zae|apply zab|apply zaf|refine zai ?_ GE120.out|refine zai ?_ GE122.out)|exact HB.out))) : w.heap.size ≤ gb128));have n6_:=zac.mk ((by rw [hg];exact Nat.ne_of_lt (zbq (g:=gb120) (o:=.cells #[.slice A0_0 l0_0.length c0_0,.slice A0_1 l0_1.length c0_1,.slice (some ad121) l0_2.length c0_2] 26 (0,0)) (by (with_reducible repeat (first|refine zah ?_ _|refine zak ?_|refine zag ?_ _));exact BK120.out)) : gb120 ≠ gb128));have n7_:=zac.mk ((by rw [hg];exact Nat.ne_of_gt (zbq (g:=gb120) (o:=.cells #[.slice A0_0 l0_0.length c0_0,.slice A0_1 l0_1.length c0_1,.slice (some ad121) l0_2.length c0_2] 26 (0,0)) (by (with_reducible repeat (first|refine zah ?_ _|refine zak ?_|refine zag ?_ _));exact BK120.out)) : gb128 ≠ gb120));have n8_:=zac.mk ((by rw [hg];exact Nat.ne_of_lt (zbq (g:=gb122) (o:=.cells #[.string ((zaj l0_2 a1).f0),.string ((zaj l0_2 a1).f1),.string ((zaj l0_2 a1).f2),.int .i64 ((zaj l0_2 a1).f3),.int .i64 ((zaj l0_2 a1).f4),.string ((zaj l0_2 a1).f5),.int .i64 ((zaj l0_2 a1).f6.f0),.int .i64 ((zaj l0_2 a1).f6.f1),.int .i64 ((zaj l0_2 a1).f6.f2)] 36 (0,0)) (by (with_reducible repeat (first|refine zah ?_ _|refine zak ?_|refine zag ?_ _));exact BK122.out)) : gb122 ≠ gb128));have n9_:=zac.mk ((by rw [hg];exact Nat.ne_of_gt (zbq (g:=gb122) (o:=.cells #[.string ((zaj l0_2 a1).f0),.string ((zaj l0_2 a1).f1),.string ((zaj l0_2 a1).f2),.int .i64 ((zaj l0_2 a1).f3),.int .i64 ((zaj l0_2 a1).f4),.string ((zaj l0_2 a1).f5),.int .i64 ((zaj l0_2 a1).f6.f0),.int .i64 ((zaj l0_2 a1).f6.f1),.int .i64 ((zaj l0_2 a1).f6.f2)] 36 (0,0)) (by (with_reducible repeat (first|refine zah ?_ _|refine zak ?_|refine zag ?_ _));exact BK122.out)) : gb128 ≠ gb122));clear BK120;clear BK122;clear HB;have BK120:=n0_;have BK122:=n1_;have HB:=n2_;have BK128:=n3_;have GW128:=n4_;have GE128:=n5_;have NB120_128:=n6_;have NB128_120:=n7_;have NB122_128:=n8_;have NB128_122:=n9_;clear n0_ n1_ n2_ n3_ n4_ n5_ n6_ n7_ n8_ n9_;clear hb hbox hg;have hnb94:=NB128_120.out;have hnc94:=NB120_128.out;have hnb95:=NB128_122.out;have hnc95:=NB122_128.out;have hcz96_0 : w93.cell? ⟨gb128,0,none⟩ = some (.string (⟨#[]⟩ : ByteArray)):=(zad BK128.out 0).trans rfl;have hcz96_1 : w93.cell? ⟨gb128,1,none⟩ = some (.string (⟨#[]⟩ : ByteArray)):=(zad BK128.out 1).trans rfl;have hcz96_2 : w93.cell? ⟨gb128,2,none⟩ = some (.string (⟨#[]⟩ : ByteArray)):=(zad BK128.out 2).trans rfl;have hcz96_3 : w93.cell? ⟨gb128,3,none⟩ = some (.int .i64 0):=(zad BK128.out 3).trans rfl;have hcz96_4 : w93.cell? ⟨gb128,4,none⟩ = some (.int .i64 0):=(zad BK128.out 4).trans rfl;have hcz96_5 : w93.cell? ⟨gb128,5,none⟩ = some (.string (⟨#[]⟩ : ByteArray)):=(zad BK128.out 5).trans rfl;have hcz96_6 : w93.cell? ⟨gb128,6,none⟩ = some (.int .i64 0):=(zad BK128.out 6).trans rfl;have hcz96_7 : w93.cell? ⟨gb128,7,none⟩ = some (.int .i64 0):=(zad BK128.out 7).trans rfl;have hcz96_8 : w93.cell? ⟨gb128,8,none⟩ = some (.int .i64 0):=(zad BK128.out 8).trans rfl;have hfz96_0:=zaa BK128.out 0;have hfz96_1:=zaa BK128.out 1;have hfz96_2:=zaa BK128.out 2;have hfz96_3:=zaa BK128.out 3;have hfz96_4:=zaa BK128.out 4;have hfz96_5:=zaa BK128.out 5;have hfz96_6:=zaa BK128.out 6;have hfz96_7:=zaa BK128.out 7;have hfz96_8:=zaa BK128.out 8;have hcz97_0 : w93.cell? ⟨gb122,0,none⟩ = some (.string ((zaj l0_2 a1).f0)):=(zad BK122.out 0).trans rfl;have hcz97_1 : w93.cell? ⟨gb122,1,none⟩ = some (.string ((zaj l0_2 a1).f1)):=(zad BK122.out 1).trans rfl;have hcz97_2 : w93.cell? ⟨gb122,2,none⟩ = some (.string ((zaj l0_2 a1).f2)):=(zad BK122.out 2).trans rfl;have hcz97_3 : w93.cell? ⟨gb122,3,none⟩ = some (.int .i64 ((zaj l0_2 a1).f3)):=(zad BK122.out 3).trans rfl;have hcz97_4 : w93.cell? ⟨gb122,4,none⟩ = some (.int .i64 ((zaj l0_2 a1).f4)):=(zad BK122.out 4).trans rfl;have hcz97_5 : w93.cell? ⟨gb122,5,none⟩ = some (.string ((zaj l0_2 a1).f5)):=(zad BK122.out 5).trans rfl;have hcz97_6 : w93.cell? ⟨gb122,6,none⟩ = some (.int .i64 ((zaj l0_2 a1).f6.f0)):=(zad BK122.out 6).trans rfl;have hcz97_7 : w93.cell? ⟨gb122,7,none⟩ = some (.int .i64 ((zaj l0_2 a1).f6.f1)):=(zad BK122.out 7).trans rfl;have hcz97_8 : w93.cell? ⟨gb122,8,none⟩ = some (.int .i64 ((zaj l0_2 a1).f6.f2)):=(zad BK122.out 8).trans rfl;have hfz97_0:=zaa BK122.out 0;have hfz97_1:=zaa BK122.out 1;have hfz97_2:=zaa BK122.out 2;have hfz97_3:=zaa BK122.out 3;have hfz97_4:=zaa BK122.out 4;have hfz97_5:=zaa BK122.out 5;have hfz97_6:=zaa BK122.out 6;have hfz97_7:=zaa BK122.out 7;have hfz97_8:=zaa BK122.out 8))
                     go_ret
                     exact ⟨by first|rfl|(simp [errW_none,errW_some] <;> rfl)|(simp only [← hji64];first|rfl|(simp [errW_none,errW_some] <;> rfl))|(simp [*,errW_none,errW_some] <;> rfl),by repeat (first|(with_reducible first|exact HB.out|apply zae|apply zab|apply zaf|refine zai ?_ GE120.out|refine zai ?_ GE122.out|refine zai ?_ GE128.out)|exact HB.out)⟩
                  ·rw [if_neg c66] at H
                   exact absurd H (by simp)
                 ·rw [if_neg c65] at H
                  exact absurd H (by simp)
                ·rw [if_neg c63] at H
                 have c63b0 : decide (0 < a1) = false:=decide_eq_false c63
                 clear c63
                 obtain rfl:=Option.some.inj H
                 go_wp2
                 go_ret
                 exact ⟨by first|rfl|(simp [errW_none,errW_some] <;> rfl)|(simp [*,errW_none,errW_some] <;> rfl),by repeat (first|(with_reducible first|exact HB.out|apply zae|apply zab|apply zaf|refine zai ?_ GE120.out|refine zai ?_ GE122.out)|exact HB.out)⟩
  ·rw [if_neg c4] at H
   exact absurd H (by simp)
 ·rw [if_neg c3] at H
  exact absurd H (by simp)
end Go.Proofs.Ytepnddmalheoiaa.Q
