/- For timetableSpoilt_holds: texts of this session and words of the kit's print, those alone that the proof uses. -/
import Derived.Test.YtepnddmalheoiaaProg
import Derived.Below
import Derived.Deep.Draws
import Derived.Deep.AppendLies
import Derived.Maps.AppendAt
import Derived.OwnWalk
import Derived.Laws.BytesArg
import Derived.Laws.MakeOwn
import Derived.Laws.OwnMore
import Derived.Deep.OwnRows
import Derived.Tactics
import Derived.Lib.ConvBytes
import Derived.Laws.Slices
import Derived.WalkKit
import Derived.KernelRfl
import Derived.RowKit3
import Derived.Deep.LoopGhost
import Derived.Deep.QuietTactic
import Derived.BigQuiet
import Derived.WideLaws
import Derived.Deep.DeepCutAuto
import Derived.Deep.CutBlock
import Derived.Deep.RegionHeld3
import Derived.Laws.Rows
import Derived.Lib.AppendStr
import Derived.ArgAppend
import Derived.Laws.IdiomCopy
import Derived.OrdersHeld
import Derived.Laws.BitsLemmas
import Derived.RowKit
import Derived.Deep.WholeRow
import Derived.Laws.ResultCell
import Derived.Lib.SlBytesConst
import Derived.Outline
import Derived.Laws.StructEq
import Derived.Test.YtepnddmalheoiaaSP0
import Derived.Test.YtepnddmalheoiaaSP1
import Derived.Test.YtepnddmalheoiaaSP2
import Derived.Test.YtepnddmalheoiaaSP3
set_option linter.unusedVariables false
set_option linter.unusedSimpArgs false
namespace Go.Proofs.Ytepnddmalheoiaa.Q
open Go.Proofs.Ytepnddmalheoiaa.H
open Go.RowKit Go.Proofs.YtepnddmalheoiaaW.PrintWords Go.Proofs.YtepnddmalheoiaaW.PrintLast Go.Proofs.YtepnddmalheoiaaW.PrintMore
attribute [local go_sem] str_leq str_geq str_gtr max2_int min2_int max_two min_two max_three min_three max_four min_four   -- for this text's walks alone
def text_lower.f (a0 : Int) : Option (Bool):=if a0 ≥ 97 then (some (decide (a0 ≤ 122))) else (some false)
set_option maxHeartbeats 8000000 in
set_option maxRecDepth 100000 in
theorem text_lower.calls (a0 : Int) (r : Bool) (w : World) (h : text_lower.f a0 = some r) :
  Calls Try.prog 81 #[.int .u8 a0] w fun e w'=>e = .returned (.bool r) ∧ zay w w':=by
 have H : (if a0 ≥ 97 then (some (decide (a0 ≤ 122))) else (some false)) = some r:=h
 clear h
 by_cases c2 : a0 ≥ 97
 ·rw [if_pos c2] at H
  have c2b0 : decide (97 ≤ a0) = true:=decide_eq_true c2
  clear c2
  obtain rfl:=Option.some.inj H
  go_enter Try.func81,Try.ntmps81
  go_wp2
  go_ret
  exact ⟨by first|rfl|(simp;done)|(simp [*];done),by repeat (first|exact zay.refl _|apply zay.step)⟩
 ·rw [if_neg c2] at H
  have c2b0 : decide (97 ≤ a0) = false:=decide_eq_false c2
  clear c2
  obtain rfl:=Option.some.inj H
  go_enter Try.func81,Try.ntmps81
  go_wp2
  go_ret
  exact ⟨by first|rfl|(simp;done)|(simp [*];done),by repeat (first|exact zay.refl _|apply zay.step)⟩
def zcf.f (a0 : ByteArray) : Option (Bool):=if (a0.size : Int) ≥ 1 then (if (a0.size : Int) ≤ 16 then (if 0 < (a0.size : Int) then ((text_lower.f (bt a0 0)).bind fun t148=>(if t148 = true then ((text_all_IsName_1.f a0).bind fun t149=>(some t149)) else (some false))) else (none)) else (some false)) else (some false)
set_option maxHeartbeats 8000000 in
set_option maxRecDepth 100000 in
theorem zcf.calls (a0 : ByteArray) (r : Bool) (w : World) (h : zcf.f a0 = some r) :
  Calls Try.prog 54 #[.string a0] w fun e w'=>e = .returned (.bool r) ∧ zay w w':=by
 have H : (if (a0.size : Int) ≥ 1 then (if (a0.size : Int) ≤ 16 then (if 0 < (a0.size : Int) then ((text_lower.f (bt a0 0)).bind fun t148=>(if t148 = true then ((text_all_IsName_1.f a0).bind fun t149=>(some t149)) else (some false))) else (none)) else (some false)) else (some false)) = some r:=h
 clear h
 by_cases c2 : (a0.size : Int) ≥ 1
 ·rw [if_pos c2] at H
  have c2b0 : decide (1 ≤ (a0.size : Int)) = true:=decide_eq_true c2
  have c2b1 : decide (1 ≤ a0.size) = true:=decide_eq_true (by omega)
  clear c2
  by_cases c3 : (a0.size : Int) ≤ 16
  ·rw [if_pos c3] at H
   have c3b0 : decide ((a0.size : Int) ≤ 16) = true:=decide_eq_true c3
   have c3b1 : decide (a0.size ≤ 16) = true:=decide_eq_true (by omega)
   clear c3
   by_cases c4 : 0 < (a0.size : Int)
   ·rw [if_pos c4] at H
    have c4b0 : decide (0 < (a0.size : Int)) = true:=decide_eq_true c4
    have c4b1 : decide (0 < a0.size) = true:=decide_eq_true (by omega)
    clear c4
    replace H:=Option.bind_eq_some_iff.mp H
    obtain ⟨t148,A60,H⟩:=H
    replace H : (if t148 = true then ((text_all_IsName_1.f a0).bind fun t149=>(some t149)) else (some false)) = some r:=H
    have A6:=zac.mk A60
    clear A60
    by_cases c7 : t148 = true
    ·subst c7
     have H1 : ((text_all_IsName_1.f a0).bind fun t149=>(some t149)) = some r:=by rw [if_pos rfl] at H;exact H
     clear H
     have H:=H1
     clear H1
     replace H:=Option.bind_eq_some_iff.mp H
     obtain ⟨t149,A80,H⟩:=H
     replace H : (some t149) = some r:=H
     have A8:=zac.mk A80
     clear A80
     obtain rfl:=Option.some.inj H
     have p5 : 0 ≤ (0 : Int):=(by omega)
     have q5 : 0 < a0.size:=(by have : (0 : Int) < (a0.size : Int):=of_decide_eq_true (by first|(with_reducible assumption)|assumption);omega)
     have hx5 : ∀ h : 0 < a0.size,((a0[0]'h).toNat : Int) = bt a0 0:=bt_at a0 0
     clear p5
     have qi5 : (0 < (a0.size : Int)) = True:=eq_true (of_decide_eq_true (by first|(with_reducible assumption)|assumption))
     replace q5:=eq_true q5
     go_enter Try.func54,Try.ntmps54
     go_wp2_with (first|(go_at_call 81;(with_reducible refine (text_lower.calls (bt a0 0) true _ A6.out).mono ?_);rintro e w' ⟨rfl,⟨nd,rfl⟩⟩)|(go_at_call 82;(with_reducible refine (text_all_IsName_1.calls a0 t149 _ A8.out).mono ?_);rintro e w' ⟨rfl,⟨nd,rfl⟩⟩))
     go_ret
     exact ⟨by first|rfl|(simp;done)|(simp [*];done),by repeat (first|exact zay.refl _|apply zay.step)⟩
    ·replace c7:=Bool.eq_false_iff.mpr c7
     subst c7
     have H1 : (some false) = some r:=by rw [if_neg (show ¬ (false = true) by decide)] at H;exact H
     clear H
     have H:=H1
     clear H1
     obtain rfl:=Option.some.inj H
     have p5 : 0 ≤ (0 : Int):=(by omega)
     have q5 : 0 < a0.size:=(by have : (0 : Int) < (a0.size : Int):=of_decide_eq_true (by first|(with_reducible assumption)|assumption);omega)
     have hx5 : ∀ h : 0 < a0.size,((a0[0]'h).toNat : Int) = bt a0 0:=bt_at a0 0
     clear p5
     have qi5 : (0 < (a0.size : Int)) = True:=eq_true (of_decide_eq_true (by first|(with_reducible assumption)|assumption))
     replace q5:=eq_true q5
     go_enter Try.func54,Try.ntmps54
     go_wp2_with (first|(go_at_call 81;(with_reducible refine (text_lower.calls (bt a0 0) false _ A6.out).mono ?_);rintro e w' ⟨rfl,⟨nd,rfl⟩⟩))
     go_ret
     exact ⟨by first|rfl|(simp;done)|(simp [*];done),by repeat (first|exact zay.refl _|apply zay.step)⟩
   ·rw [if_neg c4] at H
    exact absurd H (by simp)
  ·rw [if_neg c3] at H
   have c3b0 : decide ((a0.size : Int) ≤ 16) = false:=decide_eq_false c3
   have c3b1 : decide (a0.size ≤ 16) = false:=decide_eq_false (by omega)
   clear c3
   obtain rfl:=Option.some.inj H
   go_enter Try.func54,Try.ntmps54
   go_wp2
   go_ret
   exact ⟨by first|rfl|(simp;done)|(simp [*];done),by repeat (first|exact zay.refl _|apply zay.step)⟩
 ·rw [if_neg c2] at H
  have c2b0 : decide (1 ≤ (a0.size : Int)) = false:=decide_eq_false c2
  have c2b1 : decide (1 ≤ a0.size) = false:=decide_eq_false (by omega)
  clear c2
  obtain rfl:=Option.some.inj H
  go_enter Try.func54,Try.ntmps54
  go_wp2
  go_ret
  exact ⟨by first|rfl|(simp;done)|(simp [*];done),by repeat (first|exact zay.refl _|apply zay.step)⟩
def zca.f (a0 : Int) : Option (Bool):=if a0 ≥ (-840) then (some (decide (a0 ≤ 840))) else (some false)
set_option maxHeartbeats 8000000 in
set_option maxRecDepth 100000 in
theorem zca.calls (a0 : Int) (r : Bool) (w : World) (h : zca.f a0 = some r) :
  Calls Try.prog 55 #[.int .i64 a0] w fun e w'=>e = .returned (.bool r) ∧ zay w w':=by
 have H : (if a0 ≥ (-840) then (some (decide (a0 ≤ 840))) else (some false)) = some r:=h
 clear h
 by_cases c2 : a0 ≥ (-840)
 ·rw [if_pos c2] at H
  have c2b0 : decide ((-840) ≤ a0) = true:=decide_eq_true c2
  clear c2
  obtain rfl:=Option.some.inj H
  go_enter Try.func55,Try.ntmps55
  go_wp2
  go_ret
  exact ⟨by first|rfl|(simp;done)|(simp [*];done),by repeat (first|exact zay.refl _|apply zay.step)⟩
 ·rw [if_neg c2] at H
  have c2b0 : decide ((-840) ≤ a0) = false:=decide_eq_false c2
  clear c2
  obtain rfl:=Option.some.inj H
  go_enter Try.func55,Try.ntmps55
  go_wp2
  go_ret
  exact ⟨by first|rfl|(simp;done)|(simp [*];done),by repeat (first|exact zay.refl _|apply zay.step)⟩
mutual
def zbk.l0 : Nat → List (S44) → Int → Int → ByteArray → Int → List (S44) → Option (Int)
 | 0,_,_,_,_,_,_=>none
 | k + 1,x21,x22,x23,x151000,x151001,x151002=>if x23 < x22 then (if 0 ≤ x23 then (if x23 < (x21.length : Int) then (if ((zbu x21 x23).f0) < 0 then (zbk.j1 k x23 x21 x22 x23 true x151000 x151001 x151002 ((zbu x21 x23).f0) ((zbu x21 x23).f1)) else (if ((zbu x21 x23).f0) ≥ 52596000 then (zbk.j1 k x23 x21 x22 x23 true x151000 x151001 x151002 ((zbu x21 x23).f0) ((zbu x21 x23).f1)) else ((zca.f ((zbu x21 x23).f1)).bind fun t155=>(zbk.j1 k x23 x21 x22 x23 (!t155) x151000 x151001 x151002 ((zbu x21 x23).f0) ((zbu x21 x23).f1))))) else (none)) else (none)) else (some 0)
def zbk.j1 : Nat → Int → List (S44) → Int → Int → Bool → ByteArray → Int → List (S44) → Int → Int → Option (Int)
 | 0,_,_,_,_,_,_,_,_,_,_=>none
 | k + 1,x3,x21,x22,x23,x41,x151000,x151001,x151002,x155000,x155001=>if x41 = true then (some 5) else (if x3 > 0 then (if 0 ≤ (wrap64 (x3 - 1)) then (if (wrap64 (x3 - 1)) < (x151002.length : Int) then (if x155000 ≤ ((zbu x151002 (wrap64 (x3 - 1))).f0) then (some 8) else (zbk.l0 k x21 x22 (wrap64 (x23 + 1)) x151000 x151001 x151002)) else (none)) else (none)) else (zbk.l0 k x21 x22 (wrap64 (x23 + 1)) x151000 x151001 x151002))
end
def zbk.f (k : Nat) (a0_0 : ByteArray) (a0_1 : Int) (l0_2 : List (S44)) : Option (Int):=(zcf.f a0_0).bind fun t151=>(if t151 = true then ((zca.f a0_1).bind fun t152=>(if t152 = true then (if (l0_2.length : Int) > 16 then (some 10) else (zbk.l0 k l0_2 (l0_2.length : Int) 0 a0_0 a0_1 l0_2)) else (some 5))) else (some 1))
set_option maxHeartbeats 8000000 in
set_option maxRecDepth 100000 in
theorem zbk.calls (k : Nat) (a0_0 : ByteArray) (a0_1 : Int) (A0_2 : Option Addr) (c0_2 : Nat) (l0_2 : List (S44)) (r : Int) (w : World) (hr0_2 : Kd.C k44 w A0_2 l0_2.length l0_2) (hc0_2 : l0_2.length ≤ c0_2) (h : zbk.f k a0_0 a0_1 l0_2 = some r) :
  Calls Try.prog 26 #[.agg #[.string a0_0,.int .i64 a0_1,.slice A0_2 l0_2.length c0_2]] w fun e w'=>e = .returned (.int .i64 r) ∧ Below w.heap.size w w':=by
 have hu42:=Try.underlying42
 have hu44:=Try.underlying44
 have HR0_2:=zac.mk hr0_2
 have HC0_2:=zac.mk hc0_2
 clear hr0_2 hc0_2
 have HB:=zac.mk (Below.refl w.heap.size w)
 have H : ((zcf.f a0_0).bind fun t151=>(if t151 = true then ((zca.f a0_1).bind fun t152=>(if t152 = true then (if (l0_2.length : Int) > 16 then (some 10) else (zbk.l0 k l0_2 (l0_2.length : Int) 0 a0_0 a0_1 l0_2)) else (some 5))) else (some 1))) = some r:=h
 clear h
 replace H:=Option.bind_eq_some_iff.mp H
 obtain ⟨t151,A20,H⟩:=H
 replace H : (if t151 = true then ((zca.f a0_1).bind fun t152=>(if t152 = true then (if (l0_2.length : Int) > 16 then (some 10) else (zbk.l0 k l0_2 (l0_2.length : Int) 0 a0_0 a0_1 l0_2)) else (some 5))) else (some 1)) = some r:=H
 have A2:=zac.mk A20
 clear A20
 by_cases c3 : t151 = true
 ·subst c3
  have H1 : ((zca.f a0_1).bind fun t152=>(if t152 = true then (if (l0_2.length : Int) > 16 then (some 10) else (zbk.l0 k l0_2 (l0_2.length : Int) 0 a0_0 a0_1 l0_2)) else (some 5))) = some r:=by rw [if_pos rfl] at H;exact H
  clear H
  have H:=H1
  clear H1
  replace H:=Option.bind_eq_some_iff.mp H
  obtain ⟨t152,A40,H⟩:=H
  replace H : (if t152 = true then (if (l0_2.length : Int) > 16 then (some 10) else (zbk.l0 k l0_2 (l0_2.length : Int) 0 a0_0 a0_1 l0_2)) else (some 5)) = some r:=H
  have A4:=zac.mk A40
  clear A40
  by_cases c5 : t152 = true
  ·subst c5
   have H1 : (if (l0_2.length : Int) > 16 then (some 10) else (zbk.l0 k l0_2 (l0_2.length : Int) 0 a0_0 a0_1 l0_2)) = some r:=by rw [if_pos rfl] at H;exact H
   clear H
   have H:=H1
   clear H1
   by_cases c6 : (l0_2.length : Int) > 16
   ·rw [if_pos c6] at H
    have c6b0 : decide (16 < (l0_2.length : Int)) = true:=decide_eq_true c6
    have c6b1 : decide (16 < l0_2.length) = true:=decide_eq_true (by omega)
    clear c6
    obtain rfl:=Option.some.inj H
    go_enter Try.func26,Try.ntmps26
    go_wp2_with (first|((with_reducible refine zbh (N:=1) rfl ?_);refine zbf ?hg (N:=1) ?hd (cs:=#[.string a0_0,.int .i64 a0_1,.slice A0_2 l0_2.length c0_2]) (t:=42) ?hr ?_;(case hd=>rfl);(case hg=>rfl);(case hr=>first|(go_simp;done)|(go_simp;rfl));intro gb150 hg w7 hbox hb;have n0_:=zac.mk (zao (by repeat (first|(with_reducible first|exact HB.out|apply zae|apply zab|apply zaf)|exact HB.out)) hb);have n1_:=zac.mk (hbox);have n2_:=zac.mk ((by rw [hg];exact (zam (by repeat (first|(with_reducible first|exact HB.out|apply zae|apply zab|apply zaf)|exact HB.out))) : w.heap.size ≤ gb150));have n3_:=zac.mk ((by rw [hg];exact (zam (by repeat (first|(with_reducible first|exact HB.out|apply zae|apply zab|apply zaf)|exact HB.out))) : w.heap.size ≤ gb150));clear HB;have HB:=n0_;have BK150:=n1_;have GW150:=n2_;have GE150:=n3_;clear n0_ n1_ n2_ n3_;clear hb hbox hg;have hcz8_0 : w7.cell? ⟨gb150,0,none⟩ = some (.string a0_0):=(zad BK150.out 0).trans rfl;have hcz8_1 : w7.cell? ⟨gb150,1,none⟩ = some (.int .i64 a0_1):=(zad BK150.out 1).trans rfl;have hcz8_2 : w7.cell? ⟨gb150,2,none⟩ = some (.slice A0_2 l0_2.length c0_2):=(zad BK150.out 2).trans rfl;have hfz8_0:=zaa BK150.out 0;have hfz8_1:=zaa BK150.out 1;have hfz8_2:=zaa BK150.out 2)|(go_at_call 54;(with_reducible refine (zcf.calls a0_0 true _ A2.out).mono ?_);rintro e w' ⟨rfl,⟨nd,rfl⟩⟩;(try first|exact ⟨rfl,_,World.drewN_drewN _ _ _⟩|exact ⟨rfl,_,Eq.trans (World.drewN_drewN _ _ _) (congrArg (World.drewN _) (Nat.add_assoc _ _ _))⟩))|(go_at_call 55;(with_reducible refine (zca.calls a0_1 true _ A4.out).mono ?_);rintro e w' ⟨rfl,⟨nd,rfl⟩⟩;(try first|exact ⟨rfl,_,World.drewN_drewN _ _ _⟩|exact ⟨rfl,_,Eq.trans (World.drewN_drewN _ _ _) (congrArg (World.drewN _) (Nat.add_assoc _ _ _))⟩)))
    repeat (go_quiet (first|((with_reducible refine zbh (N:=1) rfl ?_);refine zbf ?hg (N:=1) ?hd (cs:=#[.string a0_0,.int .i64 a0_1,.slice A0_2 l0_2.length c0_2]) (t:=42) ?hr ?_;(case hd=>rfl);(case hg=>rfl);(case hr=>first|(go_simp;done)|(go_simp;rfl));intro gb150 hg w7 hbox hb;have n0_:=zac.mk (zao (by repeat (first|(with_reducible first|exact HB.out|apply zae|apply zab|apply zaf)|exact HB.out)) hb);have n1_:=zac.mk (hbox);have n2_:=zac.mk ((by rw [hg];exact (zam (by repeat (first|(with_reducible first|exact HB.out|apply zae|apply zab|apply zaf)|exact HB.out))) : w.heap.size ≤ gb150));have n3_:=zac.mk ((by rw [hg];exact (zam (by repeat (first|(with_reducible first|exact HB.out|apply zae|apply zab|apply zaf)|exact HB.out))) : w.heap.size ≤ gb150));clear HB;have HB:=n0_;have BK150:=n1_;have GW150:=n2_;have GE150:=n3_;clear n0_ n1_ n2_ n3_;clear hb hbox hg;have hcz8_0 : w7.cell? ⟨gb150,0,none⟩ = some (.string a0_0):=(zad BK150.out 0).trans rfl;have hcz8_1 : w7.cell? ⟨gb150,1,none⟩ = some (.int .i64 a0_1):=(zad BK150.out 1).trans rfl;have hcz8_2 : w7.cell? ⟨gb150,2,none⟩ = some (.slice A0_2 l0_2.length c0_2):=(zad BK150.out 2).trans rfl;have hfz8_0:=zaa BK150.out 0;have hfz8_1:=zaa BK150.out 1;have hfz8_2:=zaa BK150.out 2)|(go_at_call 54;(with_reducible refine (zcf.calls a0_0 true _ A2.out).mono ?_);rintro e w' ⟨rfl,⟨nd,rfl⟩⟩;(try first|exact ⟨rfl,_,World.drewN_drewN _ _ _⟩|exact ⟨rfl,_,Eq.trans (World.drewN_drewN _ _ _) (congrArg (World.drewN _) (Nat.add_assoc _ _ _))⟩))|(go_at_call 55;(with_reducible refine (zca.calls a0_1 true _ A4.out).mono ?_);rintro e w' ⟨rfl,⟨nd,rfl⟩⟩;(try first|exact ⟨rfl,_,World.drewN_drewN _ _ _⟩|exact ⟨rfl,_,Eq.trans (World.drewN_drewN _ _ _) (congrArg (World.drewN _) (Nat.add_assoc _ _ _))⟩)));try go_wp2_with (first|((with_reducible refine zbh (N:=1) rfl ?_);refine zbf ?hg (N:=1) ?hd (cs:=#[.string a0_0,.int .i64 a0_1,.slice A0_2 l0_2.length c0_2]) (t:=42) ?hr ?_;(case hd=>rfl);(case hg=>rfl);(case hr=>first|(go_simp;done)|(go_simp;rfl));intro gb150 hg w7 hbox hb;have n0_:=zac.mk (zao (by repeat (first|(with_reducible first|exact HB.out|apply zae|apply zab|apply zaf)|exact HB.out)) hb);have n1_:=zac.mk (hbox);have n2_:=zac.mk ((by rw [hg];exact (zam (by repeat (first|(with_reducible first|exact HB.out|apply zae|apply zab|apply zaf)|exact HB.out))) : w.heap.size ≤ gb150));have n3_:=zac.mk ((by rw [hg];exact (zam (by repeat (first|(with_reducible first|exact HB.out|apply zae|apply zab|apply zaf)|exact HB.out))) : w.heap.size ≤ gb150));clear HB;have HB:=n0_;have BK150:=n1_;have GW150:=n2_;have GE150:=n3_;clear n0_ n1_ n2_ n3_;clear hb hbox hg;have hcz8_0 : w7.cell? ⟨gb150,0,none⟩ = some (.string a0_0):=(zad BK150.out 0).trans rfl;have hcz8_1 : w7.cell? ⟨gb150,1,none⟩ = some (.int .i64 a0_1):=(zad BK150.out 1).trans rfl;have hcz8_2 : w7.cell? ⟨gb150,2,none⟩ = some (.slice A0_2 l0_2.length c0_2):=(zad BK150.out 2).trans rfl;have hfz8_0:=zaa BK150.out 0;have hfz8_1:=zaa BK150.out 1;have hfz8_2:=zaa BK150.out 2)|(go_at_call 54;(with_reducible refine (zcf.calls a0_0 true _ A2.out).mono ?_);rintro e w' ⟨rfl,⟨nd,rfl⟩⟩;(try first|exact ⟨rfl,_,World.drewN_drewN _ _ _⟩|exact ⟨rfl,_,Eq.trans (World.drewN_drewN _ _ _) (congrArg (World.drewN _) (Nat.add_assoc _ _ _))⟩))|(go_at_call 55;(with_reducible refine (zca.calls a0_1 true _ A4.out).mono ?_);rintro e w' ⟨rfl,⟨nd,rfl⟩⟩;(try first|exact ⟨rfl,_,World.drewN_drewN _ _ _⟩|exact ⟨rfl,_,Eq.trans (World.drewN_drewN _ _ _) (congrArg (World.drewN _) (Nat.add_assoc _ _ _))⟩))))
    go_ret
    exact ⟨by first|rfl|(simp [errW_none,errW_some] <;> rfl)|(simp [*,errW_none,errW_some] <;> rfl),by repeat (first|(with_reducible first|exact HB.out|apply zae|apply zab|apply zaf|refine zai ?_ GE150.out)|exact HB.out)⟩
   ·rw [if_neg c6] at H
    have c6b0 : decide (16 < (l0_2.length : Int)) = false:=decide_eq_false c6
    have c6b1 : decide (16 < l0_2.length) = false:=decide_eq_false (by omega)
    clear c6
    have H':=zac.mk H
    clear H
    go_enter Try.func26,Try.ntmps26
    go_wp2_with (first|((with_reducible refine zbh (N:=1) rfl ?_);refine zbf ?hg (N:=1) ?hd (cs:=#[.string a0_0,.int .i64 a0_1,.slice A0_2 l0_2.length c0_2]) (t:=42) ?hr ?_;(case hd=>rfl);(case hg=>rfl);(case hr=>first|(go_simp;done)|(go_simp;rfl));intro gb150 hg w9 hbox hb;have n0_:=zac.mk (zao (by repeat (first|(with_reducible first|exact HB.out|apply zae|apply zab|apply zaf)|exact HB.out)) hb);have n1_:=zac.mk (hbox);have n2_:=zac.mk ((by rw [hg];exact (zam (by repeat (first|(with_reducible first|exact HB.out|apply zae|apply zab|apply zaf)|exact HB.out))) : w.heap.size ≤ gb150));have n3_:=zac.mk ((by rw [hg];exact (zam (by repeat (first|(with_reducible first|exact HB.out|apply zae|apply zab|apply zaf)|exact HB.out))) : w.heap.size ≤ gb150));clear HB;have HB:=n0_;have BK150:=n1_;have GW150:=n2_;have GE150:=n3_;clear n0_ n1_ n2_ n3_;clear hb hbox hg;have hcz10_0 : w9.cell? ⟨gb150,0,none⟩ = some (.string a0_0):=(zad BK150.out 0).trans rfl;have hcz10_1 : w9.cell? ⟨gb150,1,none⟩ = some (.int .i64 a0_1):=(zad BK150.out 1).trans rfl;have hcz10_2 : w9.cell? ⟨gb150,2,none⟩ = some (.slice A0_2 l0_2.length c0_2):=(zad BK150.out 2).trans rfl;have hfz10_0:=zaa BK150.out 0;have hfz10_1:=zaa BK150.out 1;have hfz10_2:=zaa BK150.out 2)|(go_at_call 54;(with_reducible refine (zcf.calls a0_0 true _ A2.out).mono ?_);rintro e w' ⟨rfl,⟨nd,rfl⟩⟩;(try first|exact ⟨rfl,_,World.drewN_drewN _ _ _⟩|exact ⟨rfl,_,Eq.trans (World.drewN_drewN _ _ _) (congrArg (World.drewN _) (Nat.add_assoc _ _ _))⟩))|(go_at_call 55;(with_reducible refine (zca.calls a0_1 true _ A4.out).mono ?_);rintro e w' ⟨rfl,⟨nd,rfl⟩⟩;(try first|exact ⟨rfl,_,World.drewN_drewN _ _ _⟩|exact ⟨rfl,_,Eq.trans (World.drewN_drewN _ _ _) (congrArg (World.drewN _) (Nat.add_assoc _ _ _))⟩)))
    repeat (go_quiet (first|((with_reducible refine zbh (N:=1) rfl ?_);refine zbf ?hg (N:=1) ?hd (cs:=#[.string a0_0,.int .i64 a0_1,.slice A0_2 l0_2.length c0_2]) (t:=42) ?hr ?_;(case hd=>rfl);(case hg=>rfl);(case hr=>first|(go_simp;done)|(go_simp;rfl));intro gb150 hg w9 hbox hb;have n0_:=zac.mk (zao (by repeat (first|(with_reducible first|exact HB.out|apply zae|apply zab|apply zaf)|exact HB.out)) hb);have n1_:=zac.mk (hbox);have n2_:=zac.mk ((by rw [hg];exact (zam (by repeat (first|(with_reducible first|exact HB.out|apply zae|apply zab|apply zaf)|exact HB.out))) : w.heap.size ≤ gb150));have n3_:=zac.mk ((by rw [hg];exact (zam (by repeat (first|(with_reducible first|exact HB.out|apply zae|apply zab|apply zaf)|exact HB.out))) : w.heap.size ≤ gb150));clear HB;have HB:=n0_;have BK150:=n1_;have GW150:=n2_;have GE150:=n3_;clear n0_ n1_ n2_ n3_;clear hb hbox hg;have hcz10_0 : w9.cell? ⟨gb150,0,none⟩ = some (.string a0_0):=(zad BK150.out 0).trans rfl;have hcz10_1 : w9.cell? ⟨gb150,1,none⟩ = some (.int .i64 a0_1):=(zad BK150.out 1).trans rfl;have hcz10_2 : w9.cell? ⟨gb150,2,none⟩ = some (.slice A0_2 l0_2.length c0_2):=(zad BK150.out 2).trans rfl;have hfz10_0:=zaa BK150.out 0;have hfz10_1:=zaa BK150.out 1;have hfz10_2:=zaa BK150.out 2)|(go_at_call 54;(with_reducible refine (zcf.calls a0_0 true _ A2.out).mono ?_);rintro e w' ⟨rfl,⟨nd,rfl⟩⟩;(try first|exact ⟨rfl,_,World.drewN_drewN _ _ _⟩|exact ⟨rfl,_,Eq.trans (World.drewN_drewN _ _ _) (congrArg (World.drewN _) (Nat.add_assoc _ _ _))⟩))|(go_at_call 55;(with_reducible refine (zca.calls a0_1 true _ A4.out).mono ?_);rintro e w' ⟨rfl,⟨nd,rfl⟩⟩;(try first|exact ⟨rfl,_,World.drewN_drewN _ _ _⟩|exact ⟨rfl,_,Eq.trans (World.drewN_drewN _ _ _) (congrArg (World.drewN _) (Nat.add_assoc _ _ _))⟩)));try go_wp2_with (first|((with_reducible refine zbh (N:=1) rfl ?_);refine zbf ?hg (N:=1) ?hd (cs:=#[.string a0_0,.int .i64 a0_1,.slice A0_2 l0_2.length c0_2]) (t:=42) ?hr ?_;(case hd=>rfl);(case hg=>rfl);(case hr=>first|(go_simp;done)|(go_simp;rfl));intro gb150 hg w9 hbox hb;have n0_:=zac.mk (zao (by repeat (first|(with_reducible first|exact HB.out|apply zae|apply zab|apply zaf)|exact HB.out)) hb);have n1_:=zac.mk (hbox);have n2_:=zac.mk ((by rw [hg];exact (zam (by repeat (first|(with_reducible first|exact HB.out|apply zae|apply zab|apply zaf)|exact HB.out))) : w.heap.size ≤ gb150));have n3_:=zac.mk ((by rw [hg];exact (zam (by repeat (first|(with_reducible first|exact HB.out|apply zae|apply zab|apply zaf)|exact HB.out))) : w.heap.size ≤ gb150));clear HB;have HB:=n0_;have BK150:=n1_;have GW150:=n2_;have GE150:=n3_;clear n0_ n1_ n2_ n3_;clear hb hbox hg;have hcz10_0 : w9.cell? ⟨gb150,0,none⟩ = some (.string a0_0):=(zad BK150.out 0).trans rfl;have hcz10_1 : w9.cell? ⟨gb150,1,none⟩ = some (.int .i64 a0_1):=(zad BK150.out 1).trans rfl;have hcz10_2 : w9.cell? ⟨gb150,2,none⟩ = some (.slice A0_2 l0_2.length c0_2):=(zad BK150.out 2).trans rfl;have hfz10_0:=zaa BK150.out 0;have hfz10_1:=zaa BK150.out 1;have hfz10_2:=zaa BK150.out 2)|(go_at_call 54;(with_reducible refine (zcf.calls a0_0 true _ A2.out).mono ?_);rintro e w' ⟨rfl,⟨nd,rfl⟩⟩;(try first|exact ⟨rfl,_,World.drewN_drewN _ _ _⟩|exact ⟨rfl,_,Eq.trans (World.drewN_drewN _ _ _) (congrArg (World.drewN _) (Nat.add_assoc _ _ _))⟩))|(go_at_call 55;(with_reducible refine (zca.calls a0_1 true _ A4.out).mono ?_);rintro e w' ⟨rfl,⟨nd,rfl⟩⟩;(try first|exact ⟨rfl,_,World.drewN_drewN _ _ _⟩|exact ⟨rfl,_,Eq.trans (World.drewN_drewN _ _ _) (congrArg (World.drewN _) (Nat.add_assoc _ _ _))⟩))))
    go_loopg [23] k (fun kq v23 w'=>∃ (x23_1 : Int),v23 = .int .i64 x23_1 ∧ zac (zbk.l0 kq l0_2 (l0_2.length : Int) x23_1 a0_0 a0_1 l0_2 = some r) ∧ zac (kq ≤ k) ∧ zac (w'.heap[gb150]? = some (.cells #[.string a0_0,.int .i64 a0_1,(.slice A0_2 l0_2.length c0_2)] 42 (0,0))) ∧ zac (Below w.heap.size w w'))
    case atStart=>exact ⟨(0),(by first|rfl|(simp;done)|(simp [*];done)),H',⟨Nat.le_refl _⟩,⟨by (with_reducible repeat (first|refine zah ?_ _|refine zak ?_|refine zag ?_ _));exact BK150.out⟩,⟨by repeat (first|(with_reducible first|exact HB.out|apply zae|apply zab|apply zaf|refine zai ?_ GE150.out)|exact HB.out)⟩⟩
    case round =>
     clear H'
     try clear c3
     try clear c5
     try clear c6
     try clear c6b0
     try clear c6b1
     try clear hcz10_0
     try clear hcz10_1
     try clear hcz10_2
     try clear hfz10_0
     try clear hfz10_1
     try clear hfz10_2
     obtain ⟨x23_1,rfl,HA,HK1,BK150,HB⟩:=hrel
     cases gk with
     | zero=>exact absurd HA.out (by simp [zbk.l0])
     | succ k1 =>
      have H:=HA.out
      clear HA
      simp only [zbk.l0] at H
      by_cases c11 : x23_1 < (l0_2.length : Int)
      ·rw [if_pos c11] at H
       have c11b0 : decide (x23_1 < (l0_2.length : Int)) = true:=decide_eq_true c11
       clear c11
       by_cases c12 : 0 ≤ x23_1
       ·rw [if_pos c12] at H
        have c12b0 : decide (0 ≤ x23_1) = true:=decide_eq_true c12
        clear c12
        by_cases c13 : x23_1 < (l0_2.length : Int)
        ·rw [if_pos c13] at H
         have c13b0 : decide (x23_1 < (l0_2.length : Int)) = true:=decide_eq_true c13
         clear c13
         have HC14:=zac.mk H
         clear H
         have p153 : 0 ≤ (x23_1 : Int):=of_decide_eq_true (by first|(with_reducible assumption)|assumption)
         have q153 : x23_1 < (l0_2.length : Int):=of_decide_eq_true (by first|(with_reducible assumption)|assumption)
         obtain ⟨ad153,e153,hx153_0,hx153_1⟩:=at_T44 HR0_2.out x23_1 p153 q153
         cases e153
         replace hx153_0:=(HB.out.cell (World.block_lt_of_cell? w _ hx153_0)).trans hx153_0
         replace hx153_1:=(HB.out.cell (World.block_lt_of_cell? w _ hx153_1)).trans hx153_1
         replace p153:=eq_true p153
         replace q153:=eq_true q153
         go_upto_region 10 with (first|((with_reducible refine zbh (N:=4) rfl ?_);refine zbf ?hg (N:=4) ?hd (cs:=#[.int .i64 0,.int .i64 0]) (t:=44) ?hr ?_;(case hd=>rfl);(case hg=>rfl);(case hr=>first|(go_simp;done)|(go_simp;rfl));intro gb154 hg w15 hbox hb;have n0_:=zac.mk (zat (g:=gb150) (o:=.cells #[.string a0_0,.int .i64 a0_1,.slice (some ad153) l0_2.length c0_2] 42 (0,0)) (by (with_reducible repeat (first|refine zah ?_ _|refine zak ?_|refine zag ?_ _));exact BK150.out) hb);have n1_:=zac.mk (zao (by repeat (first|(with_reducible first|exact HB.out|apply zae|apply zab|apply zaf|refine zai ?_ GE150.out)|exact HB.out)) hb);have n2_:=zac.mk (hbox);have n3_:=zac.mk ((by rw [hg];exact (zam (by repeat (first|(with_reducible first|exact HB.out|apply zae|apply zab|apply zaf|refine zai ?_ GE150.out)|exact HB.out))) : w.heap.size ≤ gb154));have n4_:=zac.mk ((by rw [hg];exact (zam (by repeat (first|(with_reducible first|exact HB.out|apply zae|apply zab|apply zaf|refine zai ?_ GE150.out)|exact HB.out))) : w.heap.size ≤ gb154));have n5_:=zac.mk ((by rw [hg];exact Nat.ne_of_lt (zbq (g:=gb150) (o:=.cells #[.string a0_0,.int .i64 a0_1,.slice (some ad153) l0_2.length c0_2] 42 (0,0)) (by (with_reducible repeat (first|refine zah ?_ _|refine zak ?_|refine zag ?_ _));exact BK150.out)) : gb150 ≠ gb154));have n6_:=zac.mk ((by rw [hg];exact Nat.ne_of_gt (zbq (g:=gb150) (o:=.cells #[.string a0_0,.int .i64 a0_1,.slice (some ad153) l0_2.length c0_2] 42 (0,0)) (by (with_reducible repeat (first|refine zah ?_ _|refine zak ?_|refine zag ?_ _));exact BK150.out)) : gb154 ≠ gb150));clear BK150;clear HB;have BK150:=n0_;have HB:=n1_;have BK154:=n2_;have GW154:=n3_;have GE154:=n4_;have NB150_154:=n5_;have NB154_150:=n6_;clear n0_ n1_ n2_ n3_ n4_ n5_ n6_;clear hb hbox hg;have hnb16:=NB154_150.out;have hnc16:=NB150_154.out;have hcz17_0 : w15.cell? ⟨gb154,0,none⟩ = some (.int .i64 0):=(zad BK154.out 0).trans rfl;have hcz17_1 : w15.cell? ⟨gb154,1,none⟩ = some (.int .i64 0):=(zad BK154.out 1).trans rfl;have hfz17_0:=zaa BK154.out 0;have hfz17_1:=zaa BK154.out 1))
         repeat (go_quiet (first|((with_reducible refine zbh (N:=4) rfl ?_);refine zbf ?hg (N:=4) ?hd (cs:=#[.int .i64 0,.int .i64 0]) (t:=44) ?hr ?_;(case hd=>rfl);(case hg=>rfl);(case hr=>first|(go_simp;done)|(go_simp;rfl));intro gb154 hg w15 hbox hb;have n0_:=zac.mk (zat (g:=gb150) (o:=.cells #[.string a0_0,.int .i64 a0_1,.slice (some ad153) l0_2.length c0_2] 42 (0,0)) (by (with_reducible repeat (first|refine zah ?_ _|refine zak ?_|refine zag ?_ _));exact BK150.out) hb);have n1_:=zac.mk (zao (by repeat (first|(with_reducible first|exact HB.out|apply zae|apply zab|apply zaf|refine zai ?_ GE150.out)|exact HB.out)) hb);have n2_:=zac.mk (hbox);have n3_:=zac.mk ((by rw [hg];exact (zam (by repeat (first|(with_reducible first|exact HB.out|apply zae|apply zab|apply zaf|refine zai ?_ GE150.out)|exact HB.out))) : w.heap.size ≤ gb154));have n4_:=zac.mk ((by rw [hg];exact (zam (by repeat (first|(with_reducible first|exact HB.out|apply zae|apply zab|apply zaf|refine zai ?_ GE150.out)|exact HB.out))) : w.heap.size ≤ gb154));have n5_:=zac.mk ((by rw [hg];exact Nat.ne_of_lt (zbq (g:=gb150) (o:=.cells #[.string a0_0,.int .i64 a0_1,.slice (some ad153) l0_2.length c0_2] 42 (0,0)) (by (with_reducible repeat (first|refine zah ?_ _|refine zak ?_|refine zag ?_ _));exact BK150.out)) : gb150 ≠ gb154));have n6_:=zac.mk ((by rw [hg];exact Nat.ne_of_gt (zbq (g:=gb150) (o:=.cells #[.string a0_0,.int .i64 a0_1,.slice (some ad153) l0_2.length c0_2] 42 (0,0)) (by (with_reducible repeat (first|refine zah ?_ _|refine zak ?_|refine zag ?_ _));exact BK150.out)) : gb154 ≠ gb150));clear BK150;clear HB;have BK150:=n0_;have HB:=n1_;have BK154:=n2_;have GW154:=n3_;have GE154:=n4_;have NB150_154:=n5_;have NB154_150:=n6_;clear n0_ n1_ n2_ n3_ n4_ n5_ n6_;clear hb hbox hg;have hnb16:=NB154_150.out;have hnc16:=NB150_154.out;have hcz17_0 : w15.cell? ⟨gb154,0,none⟩ = some (.int .i64 0):=(zad BK154.out 0).trans rfl;have hcz17_1 : w15.cell? ⟨gb154,1,none⟩ = some (.int .i64 0):=(zad BK154.out 1).trans rfl;have hfz17_0:=zaa BK154.out 0;have hfz17_1:=zaa BK154.out 1));go_upto_region 10 with (first|((with_reducible refine zbh (N:=4) rfl ?_);refine zbf ?hg (N:=4) ?hd (cs:=#[.int .i64 0,.int .i64 0]) (t:=44) ?hr ?_;(case hd=>rfl);(case hg=>rfl);(case hr=>first|(go_simp;done)|(go_simp;rfl));intro gb154 hg w15 hbox hb;have n0_:=zac.mk (zat (g:=gb150) (o:=.cells #[.string a0_0,.int .i64 a0_1,.slice (some ad153) l0_2.length c0_2] 42 (0,0)) (by (with_reducible repeat (first|refine zah ?_ _|refine zak ?_|refine zag ?_ _));exact BK150.out) hb);have n1_:=zac.mk (zao (by repeat (first|(with_reducible first|exact HB.out|apply zae|apply zab|apply zaf|refine zai ?_ GE150.out)|exact HB.out)) hb);have n2_:=zac.mk (hbox);have n3_:=zac.mk ((by rw [hg];exact (zam (by repeat (first|(with_reducible first|exact HB.out|apply zae|apply zab|apply zaf|refine zai ?_ GE150.out)|exact HB.out))) : w.heap.size ≤ gb154));have n4_:=zac.mk ((by rw [hg];exact (zam (by repeat (first|(with_reducible first|exact HB.out|apply zae|apply zab|apply zaf|refine zai ?_ GE150.out)|exact HB.out))) : w.heap.size ≤ gb154));have n5_:=zac.mk ((by rw [hg];exact Nat.ne_of_lt (zbq (g:=gb150) (o:=.cells #[.string a0_0,.int .i64 a0_1,.slice (some ad153) l0_2.length c0_2] 42 (0,0)) (by (with_reducible repeat (first|refine zah ?_ _|refine zak ?_|refine zag ?_ _));exact BK150.out)) : gb150 ≠ gb154));have n6_:=zac.mk ((by rw [hg];exact Nat.ne_of_gt (zbq (g:=gb150) (o:=.cells #[.string a0_0,.int .i64 a0_1,.slice (some ad153) l0_2.length c0_2] 42 (0,0)) (by (with_reducible repeat (first|refine zah ?_ _|refine zak ?_|refine zag ?_ _));exact BK150.out)) : gb154 ≠ gb150));clear BK150;clear HB;have BK150:=n0_;have HB:=n1_;have BK154:=n2_;have GW154:=n3_;have GE154:=n4_;have NB150_154:=n5_;have NB154_150:=n6_;clear n0_ n1_ n2_ n3_ n4_ n5_ n6_;clear hb hbox hg;have hnb16:=NB154_150.out;have hnc16:=NB150_154.out;have hcz17_0 : w15.cell? ⟨gb154,0,none⟩ = some (.int .i64 0):=(zad BK154.out 0).trans rfl;have hcz17_1 : w15.cell? ⟨gb154,1,none⟩ = some (.int .i64 0):=(zad BK154.out 1).trans rfl;have hfz17_0:=zaa BK154.out 0;have hfz17_1:=zaa BK154.out 1)))
         (try simp only [Act.put,List.setIfInBounds_toArray,List.set_cons_zero,List.set_cons_succ])
         go_cut [41] (fun v41 wc=>∃ (kq : Nat) (x41_13 : Bool),v41 = .bool x41_13 ∧ zac (zbk.j1 kq x23_1 l0_2 (l0_2.length : Int) x23_1 x41_13 a0_0 a0_1 l0_2 ((zbu l0_2 x23_1).f0) ((zbu l0_2 x23_1).f1) = some r) ∧ zac (kq ≤ k1) ∧ zac (wc.heap[gb150]? = some (.cells #[.string a0_0,.int .i64 a0_1,(.slice (some ad153) l0_2.length c0_2)] 42 (0,0))) ∧ zac (wc.heap[gb154]? = some (.cells #[.int .i64 ((zbu l0_2 x23_1).f0),.int .i64 ((zbu l0_2 x23_1).f1)] 44 (0,0))) ∧ zac (Below w.heap.size w wc))
         case first =>
          have H:=HC14.out
          clear HC14
          by_cases c18 : ((zbu l0_2 x23_1).f0) < 0
          ·rw [if_pos c18] at H
           have c18b0 : decide (((zbu l0_2 x23_1).f0) < 0) = true:=decide_eq_true c18
           clear c18
           (first|rw [c18b0]|(simp only [i64_w,i32_w];rw [c18b0])|skip)
           have H':=zac.mk H
           clear H
           have hnb19:=NB154_150.out
           have hnc19:=NB150_154.out
           have hcz20_0 : w15.cell? ⟨gb154,0,none⟩ = some (.int .i64 0):=(zad BK154.out 0).trans rfl
           have hcz20_1 : w15.cell? ⟨gb154,1,none⟩ = some (.int .i64 0):=(zad BK154.out 1).trans rfl
           have hfz20_0:=zaa BK154.out 0
           have hfz20_1:=zaa BK154.out 1
           go_wp2
           repeat (go_quiet (fail);try go_wp2)
           go_meet
           case rel=>exact ⟨_,(true),(by first|rfl|(simp;done)|(simp [*];done)),H',⟨by have:=HK1.out;first|omega|exact Nat.le_refl _⟩,⟨by (with_reducible repeat (first|refine zah ?_ _|refine zak ?_|refine zag ?_ _));refine zaz ?_ NB150_154.out _;(with_reducible repeat (first|refine zah ?_ _|refine zak ?_|refine zag ?_ _));refine zaz ?_ NB150_154.out _;(with_reducible repeat (first|refine zah ?_ _|refine zak ?_|refine zag ?_ _));exact BK150.out⟩,⟨by (with_reducible repeat (first|refine zah ?_ _|refine zak ?_|refine zag ?_ _));refine zaw (cs:=#[.int .i64 ((zbu l0_2 x23_1).f0),.int .i64 0]) ?_ 1 _ rfl;(with_reducible repeat (first|refine zah ?_ _|refine zak ?_|refine zag ?_ _));refine zaw (cs:=#[.int .i64 0,.int .i64 0]) ?_ 0 _ rfl;(with_reducible repeat (first|refine zah ?_ _|refine zak ?_|refine zag ?_ _));exact BK154.out⟩,⟨by repeat (first|(with_reducible first|exact HB.out|apply zae|apply zab|apply zaf|refine zai ?_ GE150.out|refine zai ?_ GE154.out)|exact HB.out)⟩⟩
          ·rw [if_neg c18] at H
           have c18b0 : decide (((zbu l0_2 x23_1).f0) < 0) = false:=decide_eq_false c18
           clear c18
           (first|rw [c18b0]|(simp only [i64_w,i32_w];rw [c18b0])|skip)
           by_cases c21 : ((zbu l0_2 x23_1).f0) ≥ 52596000
           ·rw [if_pos c21] at H
            have c21b0 : decide (52596000 ≤ ((zbu l0_2 x23_1).f0)) = true:=decide_eq_true c21
            clear c21
            have H':=zac.mk H
            clear H
            have hnb22:=NB154_150.out
            have hnc22:=NB150_154.out
            have hcz23_0 : w15.cell? ⟨gb154,0,none⟩ = some (.int .i64 0):=(zad BK154.out 0).trans rfl
            have hcz23_1 : w15.cell? ⟨gb154,1,none⟩ = some (.int .i64 0):=(zad BK154.out 1).trans rfl
            have hfz23_0:=zaa BK154.out 0
            have hfz23_1:=zaa BK154.out 1
            go_wp2
            repeat (go_quiet (fail);try go_wp2)
            go_meet
            case rel=>exact ⟨_,(true),(by first|rfl|(simp;done)|(simp [*];done)),H',⟨by have:=HK1.out;first|omega|exact Nat.le_refl _⟩,⟨by (with_reducible repeat (first|refine zah ?_ _|refine zak ?_|refine zag ?_ _));refine zaz ?_ NB150_154.out _;(with_reducible repeat (first|refine zah ?_ _|refine zak ?_|refine zag ?_ _));refine zaz ?_ NB150_154.out _;(with_reducible repeat (first|refine zah ?_ _|refine zak ?_|refine zag ?_ _));exact BK150.out⟩,⟨by (with_reducible repeat (first|refine zah ?_ _|refine zak ?_|refine zag ?_ _));refine zaw (cs:=#[.int .i64 ((zbu l0_2 x23_1).f0),.int .i64 0]) ?_ 1 _ rfl;(with_reducible repeat (first|refine zah ?_ _|refine zak ?_|refine zag ?_ _));refine zaw (cs:=#[.int .i64 0,.int .i64 0]) ?_ 0 _ rfl;(with_reducible repeat (first|refine zah ?_ _|refine zak ?_|refine zag ?_ _));exact BK154.out⟩,⟨by repeat (first|(with_reducible first|exact HB.out|apply zae|apply zab|apply zaf|refine zai ?_ GE150.out|refine zai ?_ GE154.out)|exact HB.out)⟩⟩
           ·rw [if_neg c21] at H
            have c21b0 : decide (52596000 ≤ ((zbu l0_2 x23_1).f0)) = false:=decide_eq_false c21
            clear c21
            replace H:=Option.bind_eq_some_iff.mp H
            obtain ⟨t155,A240,H⟩:=H
            replace H : (zbk.j1 k1 x23_1 l0_2 (l0_2.length : Int) x23_1 (!t155) a0_0 a0_1 l0_2 ((zbu l0_2 x23_1).f0) ((zbu l0_2 x23_1).f1)) = some r:=H
            have A24:=zac.mk A240
            clear A240
            have H':=zac.mk H
            clear H
            have hnb25:=NB154_150.out
            have hnc25:=NB150_154.out
            have hcz26_0 : w15.cell? ⟨gb154,0,none⟩ = some (.int .i64 0):=(zad BK154.out 0).trans rfl
            have hcz26_1 : w15.cell? ⟨gb154,1,none⟩ = some (.int .i64 0):=(zad BK154.out 1).trans rfl
            have hfz26_0:=zaa BK154.out 0
            have hfz26_1:=zaa BK154.out 1
            go_wp2_with (first|(go_at_call 55;(with_reducible refine (zca.calls ((zbu l0_2 x23_1).f1) t155 _ A24.out).mono ?_);rintro e w' ⟨rfl,⟨nd,rfl⟩⟩;(try first|exact ⟨rfl,_,World.drewN_drewN _ _ _⟩|exact ⟨rfl,_,Eq.trans (World.drewN_drewN _ _ _) (congrArg (World.drewN _) (Nat.add_assoc _ _ _))⟩)))
            repeat (go_quiet (first|(go_at_call 55;(with_reducible refine (zca.calls ((zbu l0_2 x23_1).f1) t155 _ A24.out).mono ?_);rintro e w' ⟨rfl,⟨nd,rfl⟩⟩;(try first|exact ⟨rfl,_,World.drewN_drewN _ _ _⟩|exact ⟨rfl,_,Eq.trans (World.drewN_drewN _ _ _) (congrArg (World.drewN _) (Nat.add_assoc _ _ _))⟩)));try go_wp2_with (first|(go_at_call 55;(with_reducible refine (zca.calls ((zbu l0_2 x23_1).f1) t155 _ A24.out).mono ?_);rintro e w' ⟨rfl,⟨nd,rfl⟩⟩;(try first|exact ⟨rfl,_,World.drewN_drewN _ _ _⟩|exact ⟨rfl,_,Eq.trans (World.drewN_drewN _ _ _) (congrArg (World.drewN _) (Nat.add_assoc _ _ _))⟩))))
            go_meet
            case rel=>exact ⟨_,(!t155),(by first|rfl|(simp;done)|(simp [*];done)),H',⟨by have:=HK1.out;first|omega|exact Nat.le_refl _⟩,⟨by (with_reducible repeat (first|refine zah ?_ _|refine zak ?_|refine zag ?_ _));refine zaz ?_ NB150_154.out _;(with_reducible repeat (first|refine zah ?_ _|refine zak ?_|refine zag ?_ _));refine zaz ?_ NB150_154.out _;(with_reducible repeat (first|refine zah ?_ _|refine zak ?_|refine zag ?_ _));exact BK150.out⟩,⟨by (with_reducible repeat (first|refine zah ?_ _|refine zak ?_|refine zag ?_ _));refine zaw (cs:=#[.int .i64 ((zbu l0_2 x23_1).f0),.int .i64 0]) ?_ 1 _ rfl;(with_reducible repeat (first|refine zah ?_ _|refine zak ?_|refine zag ?_ _));refine zaw (cs:=#[.int .i64 0,.int .i64 0]) ?_ 0 _ rfl;(with_reducible repeat (first|refine zah ?_ _|refine zak ?_|refine zag ?_ _));exact BK154.out⟩,⟨by repeat (first|(with_reducible first|exact HB.out|apply zae|apply zab|apply zaf|refine zai ?_ GE150.out|refine zai ?_ GE154.out)|exact HB.out)⟩⟩
         case rest =>
          clear HC14
          try clear c3
          try clear c5
          try clear c6
          try clear c6b0
          try clear c6b1
          try clear c11
          try clear c11b0
          try clear c12
          try clear c12b0
          try clear c13
          try clear c13b0
          try clear hcz10_0
          try clear hcz10_1
          try clear hcz10_2
          try clear hcz17_0
          try clear hcz17_1
          try clear hfz10_0
          try clear hfz10_1
          try clear hfz10_2
          try clear hfz17_0
          try clear hfz17_1
          try clear hx153_0
          try clear hx153_1
          try clear p153
          try clear q153
          obtain ⟨kq,x41_13,rfl,HA,HJ13,BK150,BK154,HB⟩:=hcut
          cases kq with
          | zero=>exact absurd HA.out (by simp [zbk.j1])
          | succ kj13 =>
           have H:=HA.out
           clear HA
           simp only [zbk.j1] at H
           by_cases c27 : x41_13 = true
           ·subst c27
            have H1 : (some 5) = some r:=by rw [if_pos rfl] at H;exact H
            clear H
            have H:=H1
            clear H1
            obtain rfl:=Option.some.inj H
            go_wp2
            repeat (go_quiet (fail);try go_wp2)
            go_ret
            exact ⟨by first|rfl|(simp [errW_none,errW_some] <;> rfl)|(simp [*,errW_none,errW_some] <;> rfl),by repeat (first|(with_reducible first|exact HB.out|apply zae|apply zab|apply zaf|refine zai ?_ GE150.out|refine zai ?_ GE154.out)|exact HB.out)⟩
           ·replace c27:=Bool.eq_false_iff.mpr c27
            subst c27
            have H1 : (if x23_1 > 0 then (if 0 ≤ (wrap64 (x23_1 - 1)) then (if (wrap64 (x23_1 - 1)) < (l0_2.length : Int) then (if ((zbu l0_2 x23_1).f0) ≤ ((zbu l0_2 (wrap64 (x23_1 - 1))).f0) then (some 8) else (zbk.l0 kj13 l0_2 (l0_2.length : Int) (wrap64 (x23_1 + 1)) a0_0 a0_1 l0_2)) else (none)) else (none)) else (zbk.l0 kj13 l0_2 (l0_2.length : Int) (wrap64 (x23_1 + 1)) a0_0 a0_1 l0_2)) = some r:=by rw [if_neg (show ¬ (false = true) by decide)] at H;exact H
            clear H
            have H:=H1
            clear H1
            by_cases c28 : x23_1 > 0
            ·rw [if_pos c28] at H
             have c28b0 : decide (0 < x23_1) = true:=decide_eq_true c28
             clear c28
             obtain ⟨ji29,hji29⟩ : ∃ j_ : Int,(wrap64 (x23_1 - 1)) = j_:=⟨_,rfl⟩
             replace H : (if 0 ≤ (ji29) then (if (ji29) < (l0_2.length : Int) then (if ((zbu l0_2 x23_1).f0) ≤ ((zbu l0_2 (ji29)).f0) then (some 8) else (zbk.l0 kj13 l0_2 (l0_2.length : Int) (wrap64 (x23_1 + 1)) a0_0 a0_1 l0_2)) else (none)) else (none)) = some r:=by first|(rw [hji29] at H;exact H)|(simp only [hji29] at H ⊢;exact H)
             have hji29w : (IntKind.i64.wrap (x23_1 - 1)) = ji29:=(i64_w _).trans hji29
             by_cases c30 : 0 ≤ (ji29)
             ·rw [if_pos c30] at H
              have c30b0 : decide (0 ≤ (ji29)) = true:=decide_eq_true c30
              clear c30
              by_cases c31 : (ji29) < (l0_2.length : Int)
              ·rw [if_pos c31] at H
               have c31b0 : decide ((ji29) < (l0_2.length : Int)) = true:=decide_eq_true c31
               clear c31
               by_cases c32 : ((zbu l0_2 x23_1).f0) ≤ ((zbu l0_2 (ji29)).f0)
               ·rw [if_pos c32] at H
                have c32b0 : decide (((zbu l0_2 x23_1).f0) ≤ ((zbu l0_2 (ji29)).f0)) = true:=decide_eq_true c32
                clear c32
                obtain rfl:=Option.some.inj H
                have hnb33:=NB154_150.out
                have hnc33:=NB150_154.out
                have hcz34_0 : wc.cell? ⟨gb154,0,none⟩ = some (.int .i64 ((zbu l0_2 x23_1).f0)):=(zad BK154.out 0).trans rfl
                have hcz34_1 : wc.cell? ⟨gb154,1,none⟩ = some (.int .i64 ((zbu l0_2 x23_1).f1)):=(zad BK154.out 1).trans rfl
                have hfz34_0:=zaa BK154.out 0
                have hfz34_1:=zaa BK154.out 1
                have hcz35_0 : wc.cell? ⟨gb150,0,none⟩ = some (.string a0_0):=(zad BK150.out 0).trans rfl
                have hcz35_1 : wc.cell? ⟨gb150,1,none⟩ = some (.int .i64 a0_1):=(zad BK150.out 1).trans rfl
                have hcz35_2 : wc.cell? ⟨gb150,2,none⟩ = some (.slice (some ad153) l0_2.length c0_2):=(zad BK150.out 2).trans rfl
                have hfz35_0:=zaa BK150.out 0
                have hfz35_1:=zaa BK150.out 1
                have hfz35_2:=zaa BK150.out 2
                have p156 : 0 ≤ ((ji29) : Int):=of_decide_eq_true (by first|(with_reducible assumption)|assumption)
                have q156 : (ji29) < (l0_2.length : Int):=of_decide_eq_true (by first|(with_reducible assumption)|assumption)
                obtain ⟨ad156,e156,hx156_0,hx156_1⟩:=at_T44 HR0_2.out (ji29) p156 q156
                obtain rfl : ad153 = ad156:=(by injection e156)
                replace hx156_0:=(HB.out.cell (World.block_lt_of_cell? w _ hx156_0)).trans hx156_0
                replace hx156_1:=(HB.out.cell (World.block_lt_of_cell? w _ hx156_1)).trans hx156_1
                replace p156:=eq_true p156
                replace q156:=eq_true q156
                go_wp2
                repeat (go_quiet (fail);try go_wp2)
                go_ret
                exact ⟨by first|rfl|(simp [errW_none,errW_some] <;> rfl)|(simp only [← hji29];first|rfl|(simp [errW_none,errW_some] <;> rfl))|(simp [*,errW_none,errW_some] <;> rfl),by repeat (first|(with_reducible first|exact HB.out|apply zae|apply zab|apply zaf|refine zai ?_ GE150.out|refine zai ?_ GE154.out)|exact HB.out)⟩
               ·rw [if_neg c32] at H
                have c32b0 : decide (((zbu l0_2 x23_1).f0) ≤ ((zbu l0_2 (ji29)).f0)) = false:=decide_eq_false c32
                clear c32
                have H':=zac.mk H
                clear H
                have hnb36:=NB154_150.out
                have hnc36:=NB150_154.out
                have hcz37_0 : wc.cell? ⟨gb154,0,none⟩ = some (.int .i64 ((zbu l0_2 x23_1).f0)):=(zad BK154.out 0).trans rfl
                have hcz37_1 : wc.cell? ⟨gb154,1,none⟩ = some (.int .i64 ((zbu l0_2 x23_1).f1)):=(zad BK154.out 1).trans rfl
                have hfz37_0:=zaa BK154.out 0
                have hfz37_1:=zaa BK154.out 1
                have hcz38_0 : wc.cell? ⟨gb150,0,none⟩ = some (.string a0_0):=(zad BK150.out 0).trans rfl
                have hcz38_1 : wc.cell? ⟨gb150,1,none⟩ = some (.int .i64 a0_1):=(zad BK150.out 1).trans rfl
                have hcz38_2 : wc.cell? ⟨gb150,2,none⟩ = some (.slice (some ad153) l0_2.length c0_2):=(zad BK150.out 2).trans rfl
                have hfz38_0:=zaa BK150.out 0
                have hfz38_1:=zaa BK150.out 1
                have hfz38_2:=zaa BK150.out 2
                have p156 : 0 ≤ ((ji29) : Int):=of_decide_eq_true (by first|(with_reducible assumption)|assumption)
                have q156 : (ji29) < (l0_2.length : Int):=of_decide_eq_true (by first|(with_reducible assumption)|assumption)
                obtain ⟨ad156,e156,hx156_0,hx156_1⟩:=at_T44 HR0_2.out (ji29) p156 q156
                obtain rfl : ad153 = ad156:=(by injection e156)
                replace hx156_0:=(HB.out.cell (World.block_lt_of_cell? w _ hx156_0)).trans hx156_0
                replace hx156_1:=(HB.out.cell (World.block_lt_of_cell? w _ hx156_1)).trans hx156_1
                replace p156:=eq_true p156
                replace q156:=eq_true q156
                go_wp2
                repeat (go_quiet (fail);try go_wp2)
                go_roundg kj13
                case measure=>have:=HK1.out;have:=HJ13.out;omega
                case rel=>exact ⟨(wrap64 (x23_1 + 1)),(by first|rfl|(simp;done)|(simp [*];done)),H',⟨by have:=HK1.out;have:=HJ13.out;omega⟩,⟨by (with_reducible repeat (first|refine zah ?_ _|refine zak ?_|refine zag ?_ _));exact BK150.out⟩,⟨by repeat (first|(with_reducible first|exact HB.out|apply zae|apply zab|apply zaf|refine zai ?_ GE150.out|refine zai ?_ GE154.out)|exact HB.out)⟩⟩
              ·rw [if_neg c31] at H
               exact absurd H (by simp)
             ·rw [if_neg c30] at H
              exact absurd H (by simp)
            ·rw [if_neg c28] at H
             have c28b0 : decide (0 < x23_1) = false:=decide_eq_false c28
             clear c28
             have H':=zac.mk H
             clear H
             go_wp2
             repeat (go_quiet (fail);try go_wp2)
             go_roundg kj13
             case measure=>have:=HK1.out;have:=HJ13.out;omega
             case rel=>exact ⟨(wrap64 (x23_1 + 1)),(by first|rfl|(simp;done)|(simp [*];done)),H',⟨by have:=HK1.out;have:=HJ13.out;omega⟩,⟨by (with_reducible repeat (first|refine zah ?_ _|refine zak ?_|refine zag ?_ _));exact BK150.out⟩,⟨by repeat (first|(with_reducible first|exact HB.out|apply zae|apply zab|apply zaf|refine zai ?_ GE150.out|refine zai ?_ GE154.out)|exact HB.out)⟩⟩
        ·rw [if_neg c13] at H
         exact absurd H (by simp)
       ·rw [if_neg c12] at H
        exact absurd H (by simp)
      ·rw [if_neg c11] at H
       have c11b0 : decide (x23_1 < (l0_2.length : Int)) = false:=decide_eq_false c11
       clear c11
       obtain rfl:=Option.some.inj H
       go_wp2
       repeat (go_quiet (fail);try go_wp2)
       go_ret
       exact ⟨by first|rfl|(simp [errW_none,errW_some] <;> rfl)|(simp [*,errW_none,errW_some] <;> rfl),by repeat (first|(with_reducible first|exact HB.out|apply zae|apply zab|apply zaf|refine zai ?_ GE150.out)|exact HB.out)⟩
  ·replace c5:=Bool.eq_false_iff.mpr c5
   subst c5
   have H1 : (some 5) = some r:=by rw [if_neg (show ¬ (false = true) by decide)] at H;exact H
   clear H
   have H:=H1
   clear H1
   obtain rfl:=Option.some.inj H
   go_enter Try.func26,Try.ntmps26
   go_wp2_with (first|((with_reducible refine zbh (N:=1) rfl ?_);refine zbf ?hg (N:=1) ?hd (cs:=#[.string a0_0,.int .i64 a0_1,.slice A0_2 l0_2.length c0_2]) (t:=42) ?hr ?_;(case hd=>rfl);(case hg=>rfl);(case hr=>first|(go_simp;done)|(go_simp;rfl));intro gb150 hg w39 hbox hb;have n0_:=zac.mk (zao (by repeat (first|(with_reducible first|exact HB.out|apply zae|apply zab|apply zaf)|exact HB.out)) hb);have n1_:=zac.mk (hbox);have n2_:=zac.mk ((by rw [hg];exact (zam (by repeat (first|(with_reducible first|exact HB.out|apply zae|apply zab|apply zaf)|exact HB.out))) : w.heap.size ≤ gb150));have n3_:=zac.mk ((by rw [hg];exact (zam (by repeat (first|(with_reducible first|exact HB.out|apply zae|apply zab|apply zaf)|exact HB.out))) : w.heap.size ≤ gb150));clear HB;have HB:=n0_;have BK150:=n1_;have GW150:=n2_;have GE150:=n3_;clear n0_ n1_ n2_ n3_;clear hb hbox hg;have hcz40_0 : w39.cell? ⟨gb150,0,none⟩ = some (.string a0_0):=(zad BK150.out 0).trans rfl;have hcz40_1 : w39.cell? ⟨gb150,1,none⟩ = some (.int .i64 a0_1):=(zad BK150.out 1).trans rfl;have hcz40_2 : w39.cell? ⟨gb150,2,none⟩ = some (.slice A0_2 l0_2.length c0_2):=(zad BK150.out 2).trans rfl;have hfz40_0:=zaa BK150.out 0;have hfz40_1:=zaa BK150.out 1;have hfz40_2:=zaa BK150.out 2)|(go_at_call 54;(with_reducible refine (zcf.calls a0_0 true _ A2.out).mono ?_);rintro e w' ⟨rfl,⟨nd,rfl⟩⟩;(try first|exact ⟨rfl,_,World.drewN_drewN _ _ _⟩|exact ⟨rfl,_,Eq.trans (World.drewN_drewN _ _ _) (congrArg (World.drewN _) (Nat.add_assoc _ _ _))⟩))|(go_at_call 55;(with_reducible refine (zca.calls a0_1 false _ A4.out).mono ?_);rintro e w' ⟨rfl,⟨nd,rfl⟩⟩;(try first|exact ⟨rfl,_,World.drewN_drewN _ _ _⟩|exact ⟨rfl,_,Eq.trans (World.drewN_drewN _ _ _) (congrArg (World.drewN _) (Nat.add_assoc _ _ _))⟩)))
   repeat (go_quiet (first|((with_reducible refine zbh (N:=1) rfl ?_);refine zbf ?hg (N:=1) ?hd (cs:=#[.string a0_0,.int .i64 a0_1,.slice A0_2 l0_2.length c0_2]) (t:=42) ?hr ?_;(case hd=>rfl);(case hg=>rfl);(case hr=>first|(go_simp;done)|(go_simp;rfl));intro gb150 hg w39 hbox hb;have n0_:=zac.mk (zao (by repeat (first|(with_reducible first|exact HB.out|apply zae|apply zab|apply zaf)|exact HB.out)) hb);have n1_:=zac.mk (hbox);have n2_:=zac.mk ((by rw [hg];exact (zam (by repeat (first|(with_reducible first|exact HB.out|apply zae|apply zab|apply zaf)|exact HB.out))) : w.heap.size ≤ gb150));have n3_:=zac.mk ((by rw [hg];exact (zam (by repeat (first|(with_reducible first|exact HB.out|apply zae|apply zab|apply zaf)|exact HB.out))) : w.heap.size ≤ gb150));clear HB;have HB:=n0_;have BK150:=n1_;have GW150:=n2_;have GE150:=n3_;clear n0_ n1_ n2_ n3_;clear hb hbox hg;have hcz40_0 : w39.cell? ⟨gb150,0,none⟩ = some (.string a0_0):=(zad BK150.out 0).trans rfl;have hcz40_1 : w39.cell? ⟨gb150,1,none⟩ = some (.int .i64 a0_1):=(zad BK150.out 1).trans rfl;have hcz40_2 : w39.cell? ⟨gb150,2,none⟩ = some (.slice A0_2 l0_2.length c0_2):=(zad BK150.out 2).trans rfl;have hfz40_0:=zaa BK150.out 0;have hfz40_1:=zaa BK150.out 1;have hfz40_2:=zaa BK150.out 2)|(go_at_call 54;(with_reducible refine (zcf.calls a0_0 true _ A2.out).mono ?_);rintro e w' ⟨rfl,⟨nd,rfl⟩⟩;(try first|exact ⟨rfl,_,World.drewN_drewN _ _ _⟩|exact ⟨rfl,_,Eq.trans (World.drewN_drewN _ _ _) (congrArg (World.drewN _) (Nat.add_assoc _ _ _))⟩))|(go_at_call 55;(with_reducible refine (zca.calls a0_1 false _ A4.out).mono ?_);rintro e w' ⟨rfl,⟨nd,rfl⟩⟩;(try first|exact ⟨rfl,_,World.drewN_drewN _ _ _⟩|exact ⟨rfl,_,Eq.trans (World.drewN_drewN _ _ _) (congrArg (World.drewN _) (Nat.add_assoc _ _ _))⟩)));try go_wp2_with (first|((with_reducible refine zbh (N:=1) rfl ?_);refine zbf ?hg (N:=1) ?hd (cs:=#[.string a0_0,.int .i64 a0_1,.slice A0_2 l0_2.length c0_2]) (t:=42) ?hr ?_;(case hd=>rfl);(case hg=>rfl);(case hr=>first|(go_simp;done)|(go_simp;rfl));intro gb150 hg w39 hbox hb;have n0_:=zac.mk (zao (by repeat (first|(with_reducible first|exact HB.out|apply zae|apply zab|apply zaf)|exact HB.out)) hb);have n1_:=zac.mk (hbox);have n2_:=zac.mk ((by rw [hg];exact (zam (by repeat (first|(with_reducible first|exact HB.out|apply zae|apply zab|apply zaf)|exact HB.out))) : w.heap.size ≤ gb150));have n3_:=zac.mk ((by rw [hg];exact (zam (by repeat (first|(with_reducible first|exact HB.out|apply zae|apply zab|apply zaf)|exact HB.out))) : w.heap.size ≤ gb150));clear HB;have HB:=n0_;have BK150:=n1_;have GW150:=n2_;have GE150:=n3_;clear n0_ n1_ n2_ n3_;clear hb hbox hg;have hcz40_0 : w39.cell? ⟨gb150,0,none⟩ = some (.string a0_0):=(zad BK150.out 0).trans rfl;have hcz40_1 : w39.cell? ⟨gb150,1,none⟩ = some (.int .i64 a0_1):=(zad BK150.out 1).trans rfl;have hcz40_2 : w39.cell? ⟨gb150,2,none⟩ = some (.slice A0_2 l0_2.length c0_2):=(zad BK150.out 2).trans rfl;have hfz40_0:=zaa BK150.out 0;have hfz40_1:=zaa BK150.out 1;have hfz40_2:=zaa BK150.out 2)|(go_at_call 54;(with_reducible refine (zcf.calls a0_0 true _ A2.out).mono ?_);rintro e w' ⟨rfl,⟨nd,rfl⟩⟩;(try first|exact ⟨rfl,_,World.drewN_drewN _ _ _⟩|exact ⟨rfl,_,Eq.trans (World.drewN_drewN _ _ _) (congrArg (World.drewN _) (Nat.add_assoc _ _ _))⟩))|(go_at_call 55;(with_reducible refine (zca.calls a0_1 false _ A4.out).mono ?_);rintro e w' ⟨rfl,⟨nd,rfl⟩⟩;(try first|exact ⟨rfl,_,World.drewN_drewN _ _ _⟩|exact ⟨rfl,_,Eq.trans (World.drewN_drewN _ _ _) (congrArg (World.drewN _) (Nat.add_assoc _ _ _))⟩))))
   go_ret
   exact ⟨by first|rfl|(simp [errW_none,errW_some] <;> rfl)|(simp [*,errW_none,errW_some] <;> rfl),by repeat (first|(with_reducible first|exact HB.out|apply zae|apply zab|apply zaf|refine zai ?_ GE150.out)|exact HB.out)⟩
 ·replace c3:=Bool.eq_false_iff.mpr c3
  subst c3
  have H1 : (some 1) = some r:=by rw [if_neg (show ¬ (false = true) by decide)] at H;exact H
  clear H
  have H:=H1
  clear H1
  obtain rfl:=Option.some.inj H
  go_enter Try.func26,Try.ntmps26
  go_wp2_with (first|((with_reducible refine zbh (N:=1) rfl ?_);refine zbf ?hg (N:=1) ?hd (cs:=#[.string a0_0,.int .i64 a0_1,.slice A0_2 l0_2.length c0_2]) (t:=42) ?hr ?_;(case hd=>rfl);(case hg=>rfl);(case hr=>first|(go_simp;done)|(go_simp;rfl));intro gb150 hg w41 hbox hb;have n0_:=zac.mk (zao (by repeat (first|(with_reducible first|exact HB.out|apply zae|apply zab|apply zaf)|exact HB.out)) hb);have n1_:=zac.mk (hbox);have n2_:=zac.mk ((by rw [hg];exact (zam (by repeat (first|(with_reducible first|exact HB.out|apply zae|apply zab|apply zaf)|exact HB.out))) : w.heap.size ≤ gb150));have n3_:=zac.mk ((by rw [hg];exact (zam (by repeat (first|(with_reducible first|exact HB.out|apply zae|apply zab|apply zaf)|exact HB.out))) : w.heap.size ≤ gb150));clear HB;have HB:=n0_;have BK150:=n1_;have GW150:=n2_;have GE150:=n3_;clear n0_ n1_ n2_ n3_;clear hb hbox hg;have hcz42_0 : w41.cell? ⟨gb150,0,none⟩ = some (.string a0_0):=(zad BK150.out 0).trans rfl;have hcz42_1 : w41.cell? ⟨gb150,1,none⟩ = some (.int .i64 a0_1):=(zad BK150.out 1).trans rfl;have hcz42_2 : w41.cell? ⟨gb150,2,none⟩ = some (.slice A0_2 l0_2.length c0_2):=(zad BK150.out 2).trans rfl;have hfz42_0:=zaa BK150.out 0;have hfz42_1:=zaa BK150.out 1;have hfz42_2:=zaa BK150.out 2)|(go_at_call 54;(with_reducible refine (zcf.calls a0_0 false _ A2.out).mono ?_);rintro e w' ⟨rfl,⟨nd,rfl⟩⟩;(try first|exact ⟨rfl,_,World.drewN_drewN _ _ _⟩|exact ⟨rfl,_,Eq.trans (World.drewN_drewN _ _ _) (congrArg (World.drewN _) (Nat.add_assoc _ _ _))⟩)))
  repeat (go_quiet (first|((with_reducible refine zbh (N:=1) rfl ?_);refine zbf ?hg (N:=1) ?hd (cs:=#[.string a0_0,.int .i64 a0_1,.slice A0_2 l0_2.length c0_2]) (t:=42) ?hr ?_;(case hd=>rfl);(case hg=>rfl);(case hr=>first|(go_simp;done)|(go_simp;rfl));intro gb150 hg w41 hbox hb;have n0_:=zac.mk (zao (by repeat (first|(with_reducible first|exact HB.out|apply zae|apply zab|apply zaf)|exact HB.out)) hb);have n1_:=zac.mk (hbox);have n2_:=zac.mk ((by rw [hg];exact (zam (by repeat (first|(with_reducible first|exact HB.out|apply zae|apply zab|apply zaf)|exact HB.out))) : w.heap.size ≤ gb150));have n3_:=zac.mk ((by rw [hg];exact (zam (by repeat (first|(with_reducible first|exact HB.out|apply zae|apply zab|apply zaf)|exact HB.out))) : w.heap.size ≤ gb150));clear HB;have HB:=n0_;have BK150:=n1_;have GW150:=n2_;have GE150:=n3_;clear n0_ n1_ n2_ n3_;clear hb hbox hg;have hcz42_0 : w41.cell? ⟨gb150,0,none⟩ = some (.string a0_0):=(zad BK150.out 0).trans rfl;have hcz42_1 : w41.cell? ⟨gb150,1,none⟩ = some (.int .i64 a0_1):=(zad BK150.out 1).trans rfl;have hcz42_2 : w41.cell? ⟨gb150,2,none⟩ = some (.slice A0_2 l0_2.length c0_2):=(zad BK150.out 2).trans rfl;have hfz42_0:=zaa BK150.out 0;have hfz42_1:=zaa BK150.out 1;have hfz42_2:=zaa BK150.out 2)|(go_at_call 54;(with_reducible refine (zcf.calls a0_0 false _ A2.out).mono ?_);rintro e w' ⟨rfl,⟨nd,rfl⟩⟩;(try first|exact ⟨rfl,_,World.drewN_drewN _ _ _⟩|exact ⟨rfl,_,Eq.trans (World.drewN_drewN _ _ _) (congrArg (World.drewN _) (Nat.add_assoc _ _ _))⟩)));try go_wp2_with (first|((with_reducible refine zbh (N:=1) rfl ?_);refine zbf ?hg (N:=1) ?hd (cs:=#[.string a0_0,.int .i64 a0_1,.slice A0_2 l0_2.length c0_2]) (t:=42) ?hr ?_;(case hd=>rfl);(case hg=>rfl);(case hr=>first|(go_simp;done)|(go_simp;rfl));intro gb150 hg w41 hbox hb;have n0_:=zac.mk (zao (by repeat (first|(with_reducible first|exact HB.out|apply zae|apply zab|apply zaf)|exact HB.out)) hb);have n1_:=zac.mk (hbox);have n2_:=zac.mk ((by rw [hg];exact (zam (by repeat (first|(with_reducible first|exact HB.out|apply zae|apply zab|apply zaf)|exact HB.out))) : w.heap.size ≤ gb150));have n3_:=zac.mk ((by rw [hg];exact (zam (by repeat (first|(with_reducible first|exact HB.out|apply zae|apply zab|apply zaf)|exact HB.out))) : w.heap.size ≤ gb150));clear HB;have HB:=n0_;have BK150:=n1_;have GW150:=n2_;have GE150:=n3_;clear n0_ n1_ n2_ n3_;clear hb hbox hg;have hcz42_0 : w41.cell? ⟨gb150,0,none⟩ = some (.string a0_0):=(zad BK150.out 0).trans rfl;have hcz42_1 : w41.cell? ⟨gb150,1,none⟩ = some (.int .i64 a0_1):=(zad BK150.out 1).trans rfl;have hcz42_2 : w41.cell? ⟨gb150,2,none⟩ = some (.slice A0_2 l0_2.length c0_2):=(zad BK150.out 2).trans rfl;have hfz42_0:=zaa BK150.out 0;have hfz42_1:=zaa BK150.out 1;have hfz42_2:=zaa BK150.out 2)|(go_at_call 54;(with_reducible refine (zcf.calls a0_0 false _ A2.out).mono ?_);rintro e w' ⟨rfl,⟨nd,rfl⟩⟩;(try first|exact ⟨rfl,_,World.drewN_drewN _ _ _⟩|exact ⟨rfl,_,Eq.trans (World.drewN_drewN _ _ _) (congrArg (World.drewN _) (Nat.add_assoc _ _ _))⟩))))
  go_ret
  exact ⟨by first|rfl|(simp [errW_none,errW_some] <;> rfl)|(simp [*,errW_none,errW_some] <;> rfl),by repeat (first|(with_reducible first|exact HB.out|apply zae|apply zab|apply zaf|refine zai ?_ GE150.out)|exact HB.out)⟩
end Go.Proofs.Ytepnddmalheoiaa.Q
namespace Go.Proofs.Ytepnddmalheoiaa.Q
open Go.Proofs.Ytepnddmalheoiaa.H
open Go.RowKit Go.Proofs.YtepnddmalheoiaaW.PrintWords Go.Proofs.YtepnddmalheoiaaW.PrintLast Go.Proofs.YtepnddmalheoiaaW.PrintMore
attribute [local go_sem] str_leq str_geq str_gtr max2_int min2_int max_two min_two max_three min_three max_four min_four   -- for this text's walks alone
def zbj.l0 : Nat → ByteArray → List (S42) → Int → Int → Option (Int)
 | 0,_,_,_,_=>none
 | k + 1,x1,x7,x8,x9=>if x9 < x8 then (if 0 ≤ x9 then (if x9 < (x7.length : Int) then (if ((zbi x7 x9).f0).toList = x1.toList then (some x9) else (zbj.l0 k x1 x7 x8 (wrap64 (x9 + 1)))) else (none)) else (none)) else (some (-1))
def zbj.f (k : Nat) (l0 : List (S42)) (a1 : ByteArray) : Option (Int):=zbj.l0 k a1 l0 (l0.length : Int) 0
set_option maxHeartbeats 8000000 in
set_option maxRecDepth 100000 in
theorem zbj.calls (k : Nat) (A0 : Option Addr) (c0 : Nat) (l0 : List (S42)) (a1 : ByteArray) (r : Int) (w : World) (hr0 : Kd.C k42 w A0 l0.length l0) (hc0 : l0.length ≤ c0) (h : zbj.f k l0 a1 = some r) :
  Calls Try.prog 27 #[.slice A0 l0.length c0,.string a1] w fun e w'=>e = .returned (.int .i64 r) ∧ Below w.heap.size w w':=by
 have hu42:=Try.underlying42
 have HR0:=zac.mk hr0
 have HC0:=zac.mk hc0
 clear hr0 hc0
 have HB:=zac.mk (Below.refl w.heap.size w)
 have H : (zbj.l0 k a1 l0 (l0.length : Int) 0) = some r:=h
 clear h
 have H':=zac.mk H
 clear H
 go_enter Try.func27,Try.ntmps27
 go_wp2
 go_loopg [9] k (fun kq v9 w'=>∃ (x9_1 : Int),v9 = .int .i64 x9_1 ∧ zac (zbj.l0 kq a1 l0 (l0.length : Int) x9_1 = some r) ∧ zac (kq ≤ k) ∧ zac (Below w.heap.size w w'))
 case atStart=>exact ⟨(0),(by first|rfl|(simp;done)|(simp [*];done)),H',⟨Nat.le_refl _⟩,⟨by repeat (first|(with_reducible first|exact HB.out|apply zae|apply zab|apply zaf)|exact HB.out)⟩⟩
 case round =>
  clear H'
  obtain ⟨x9_1,rfl,HA,HK1,HB⟩:=hrel
  cases gk with
  | zero=>exact absurd HA.out (by simp [zbj.l0])
  | succ k1 =>
   have H:=HA.out
   clear HA
   simp only [zbj.l0] at H
   by_cases c3 : x9_1 < (l0.length : Int)
   ·rw [if_pos c3] at H
    have c3b0 : decide (x9_1 < (l0.length : Int)) = true:=decide_eq_true c3
    clear c3
    by_cases c4 : 0 ≤ x9_1
    ·rw [if_pos c4] at H
     have c4b0 : decide (0 ≤ x9_1) = true:=decide_eq_true c4
     clear c4
     by_cases c5 : x9_1 < (l0.length : Int)
     ·rw [if_pos c5] at H
      have c5b0 : decide (x9_1 < (l0.length : Int)) = true:=decide_eq_true c5
      clear c5
      by_cases c6 : ((zbi l0 x9_1).f0).toList = a1.toList
      ·rw [if_pos c6] at H
       have c6b0 : (((zbi l0 x9_1).f0).toList == a1.toList) = true:=beq_iff_eq.mpr c6
       have c6b1 : (((zbi l0 x9_1).f0).toList != a1.toList) = false:=bne_eq_false_iff_eq.mpr c6
       clear c6
       obtain rfl:=Option.some.inj H
       have p157 : 0 ≤ (x9_1 : Int):=of_decide_eq_true (by first|(with_reducible assumption)|assumption)
       have q157 : x9_1 < (l0.length : Int):=of_decide_eq_true (by first|(with_reducible assumption)|assumption)
       obtain ⟨ad157,A157_2,c157_2,e157,hx157_0,hx157_1,hx157_2,hl157_2,hi157_2⟩:=at_T42 HR0.out x9_1 p157 q157
       cases e157
       replace hx157_0:=(HB.out.cell (World.block_lt_of_cell? w _ hx157_0)).trans hx157_0
       replace hx157_1:=(HB.out.cell (World.block_lt_of_cell? w _ hx157_1)).trans hx157_1
       replace hx157_2:=(HB.out.cell (World.block_lt_of_cell? w _ hx157_2)).trans hx157_2
       have HR157_2:=zac.mk hi157_2
       have HC157_2:=zac.mk hl157_2
       clear hi157_2 hl157_2
       replace p157:=eq_true p157
       replace q157:=eq_true q157
       go_wp2_with (first|((with_reducible refine zbh (N:=6) rfl ?_);refine zbf ?hg (N:=6) ?hd (cs:=#[.string (⟨#[]⟩ : ByteArray),.int .i64 0,.slice none 0 0]) (t:=42) ?hr ?_;(case hd=>rfl);(case hg=>rfl);(case hr=>first|(go_simp;done)|(go_simp;rfl));intro gb158 hg w7 hbox hb;have n0_:=zac.mk (zao (by repeat (first|(with_reducible first|exact HB.out|apply zae|apply zab|apply zaf)|exact HB.out)) hb);have n1_:=zac.mk (hbox);have n2_:=zac.mk ((by rw [hg];exact (zam (by repeat (first|(with_reducible first|exact HB.out|apply zae|apply zab|apply zaf)|exact HB.out))) : w.heap.size ≤ gb158));have n3_:=zac.mk ((by rw [hg];exact (zam (by repeat (first|(with_reducible first|exact HB.out|apply zae|apply zab|apply zaf)|exact HB.out))) : w.heap.size ≤ gb158));clear HB;have HB:=n0_;have BK158:=n1_;have GW158:=n2_;have GE158:=n3_;clear n0_ n1_ n2_ n3_;clear hb hbox hg;have hcz8_0 : w7.cell? ⟨gb158,0,none⟩ = some (.string (⟨#[]⟩ : ByteArray)):=(zad BK158.out 0).trans rfl;have hcz8_1 : w7.cell? ⟨gb158,1,none⟩ = some (.int .i64 0):=(zad BK158.out 1).trans rfl;have hcz8_2 : w7.cell? ⟨gb158,2,none⟩ = some (.slice none 0 0):=(zad BK158.out 2).trans rfl;have hfz8_0:=zaa BK158.out 0;have hfz8_1:=zaa BK158.out 1;have hfz8_2:=zaa BK158.out 2))
       go_ret
       exact ⟨by first|rfl|(simp [errW_none,errW_some] <;> rfl)|(simp [*,errW_none,errW_some] <;> rfl),by repeat (first|(with_reducible first|exact HB.out|apply zae|apply zab|apply zaf|refine zai ?_ GE158.out)|exact HB.out)⟩
      ·rw [if_neg c6] at H
       have c6b0 : (((zbi l0 x9_1).f0).toList == a1.toList) = false:=beq_eq_false_iff_ne.mpr c6
       have c6b1 : (((zbi l0 x9_1).f0).toList != a1.toList) = true:=bne_iff_ne.mpr c6
       have H':=zac.mk H
       clear H
       have p157 : 0 ≤ (x9_1 : Int):=of_decide_eq_true (by first|(with_reducible assumption)|assumption)
       have q157 : x9_1 < (l0.length : Int):=of_decide_eq_true (by first|(with_reducible assumption)|assumption)
       obtain ⟨ad157,A157_2,c157_2,e157,hx157_0,hx157_1,hx157_2,hl157_2,hi157_2⟩:=at_T42 HR0.out x9_1 p157 q157
       cases e157
       replace hx157_0:=(HB.out.cell (World.block_lt_of_cell? w _ hx157_0)).trans hx157_0
       replace hx157_1:=(HB.out.cell (World.block_lt_of_cell? w _ hx157_1)).trans hx157_1
       replace hx157_2:=(HB.out.cell (World.block_lt_of_cell? w _ hx157_2)).trans hx157_2
       have HR157_2:=zac.mk hi157_2
       have HC157_2:=zac.mk hl157_2
       clear hi157_2 hl157_2
       replace p157:=eq_true p157
       replace q157:=eq_true q157
       go_wp2_with (first|((with_reducible refine zbh (N:=6) rfl ?_);refine zbf ?hg (N:=6) ?hd (cs:=#[.string (⟨#[]⟩ : ByteArray),.int .i64 0,.slice none 0 0]) (t:=42) ?hr ?_;(case hd=>rfl);(case hg=>rfl);(case hr=>first|(go_simp;done)|(go_simp;rfl));intro gb158 hg w9 hbox hb;have n0_:=zac.mk (zao (by repeat (first|(with_reducible first|exact HB.out|apply zae|apply zab|apply zaf)|exact HB.out)) hb);have n1_:=zac.mk (hbox);have n2_:=zac.mk ((by rw [hg];exact (zam (by repeat (first|(with_reducible first|exact HB.out|apply zae|apply zab|apply zaf)|exact HB.out))) : w.heap.size ≤ gb158));have n3_:=zac.mk ((by rw [hg];exact (zam (by repeat (first|(with_reducible first|exact HB.out|apply zae|apply zab|apply zaf)|exact HB.out))) : w.heap.size ≤ gb158));clear HB;have HB:=n0_;have BK158:=n1_;have GW158:=n2_;have GE158:=n3_;clear n0_ n1_ n2_ n3_;clear hb hbox hg;have hcz10_0 : w9.cell? ⟨gb158,0,none⟩ = some (.string (⟨#[]⟩ : ByteArray)):=(zad BK158.out 0).trans rfl;have hcz10_1 : w9.cell? ⟨gb158,1,none⟩ = some (.int .i64 0):=(zad BK158.out 1).trans rfl;have hcz10_2 : w9.cell? ⟨gb158,2,none⟩ = some (.slice none 0 0):=(zad BK158.out 2).trans rfl;have hfz10_0:=zaa BK158.out 0;have hfz10_1:=zaa BK158.out 1;have hfz10_2:=zaa BK158.out 2))
       go_roundg k1
       case measure=>have:=HK1.out;omega
       case rel=>exact ⟨(wrap64 (x9_1 + 1)),(by first|rfl|(simp;done)|(simp [*];done)),H',⟨by have:=HK1.out;omega⟩,⟨by repeat (first|(with_reducible first|exact HB.out|apply zae|apply zab|apply zaf|refine zai ?_ GE158.out)|exact HB.out)⟩⟩
     ·rw [if_neg c5] at H
      exact absurd H (by simp)
    ·rw [if_neg c4] at H
     exact absurd H (by simp)
   ·rw [if_neg c3] at H
    have c3b0 : decide (x9_1 < (l0.length : Int)) = false:=decide_eq_false c3
    clear c3
    obtain rfl:=Option.some.inj H
    go_wp2
    go_ret
    exact ⟨by first|rfl|(simp [errW_none,errW_some] <;> rfl)|(simp [*,errW_none,errW_some] <;> rfl),by repeat (first|(with_reducible first|exact HB.out|apply zae|apply zab|apply zaf)|exact HB.out)⟩
def zbc.l0 : Nat → ByteArray → List (S39) → Int → Int → Option (Int)
 | 0,_,_,_,_=>none
 | k + 1,x1,x7,x8,x9=>if x9 < x8 then (if 0 ≤ x9 then (if x9 < (x7.length : Int) then (if ((zbd x7 x9).f0).toList = x1.toList then (some x9) else (zbc.l0 k x1 x7 x8 (wrap64 (x9 + 1)))) else (none)) else (none)) else (some (-1))
def zbc.f (k : Nat) (l0 : List (S39)) (a1 : ByteArray) : Option (Int):=zbc.l0 k a1 l0 (l0.length : Int) 0
set_option maxHeartbeats 8000000 in
set_option maxRecDepth 100000 in
theorem zbc.calls (k : Nat) (A0 : Option Addr) (c0 : Nat) (l0 : List (S39)) (a1 : ByteArray) (r : Int) (w : World) (hr0 : Kd.C k39 w A0 l0.length l0) (hc0 : l0.length ≤ c0) (h : zbc.f k l0 a1 = some r) :
  Calls Try.prog 52 #[.slice A0 l0.length c0,.string a1] w fun e w'=>e = .returned (.int .i64 r) ∧ Below w.heap.size w w':=by
 have hu39:=Try.underlying39
 have HR0:=zac.mk hr0
 have HC0:=zac.mk hc0
 clear hr0 hc0
 have HB:=zac.mk (Below.refl w.heap.size w)
 have H : (zbc.l0 k a1 l0 (l0.length : Int) 0) = some r:=h
 clear h
 have H':=zac.mk H
 clear H
 go_enter Try.func52,Try.ntmps52
 go_wp2
 go_loopg [9] k (fun kq v9 w'=>∃ (x9_1 : Int),v9 = .int .i64 x9_1 ∧ zac (zbc.l0 kq a1 l0 (l0.length : Int) x9_1 = some r) ∧ zac (kq ≤ k) ∧ zac (Below w.heap.size w w'))
 case atStart=>exact ⟨(0),(by first|rfl|(simp;done)|(simp [*];done)),H',⟨Nat.le_refl _⟩,⟨by repeat (first|(with_reducible first|exact HB.out|apply zae|apply zab|apply zaf)|exact HB.out)⟩⟩
 case round =>
  clear H'
  obtain ⟨x9_1,rfl,HA,HK1,HB⟩:=hrel
  cases gk with
  | zero=>exact absurd HA.out (by simp [zbc.l0])
  | succ k1 =>
   have H:=HA.out
   clear HA
   simp only [zbc.l0] at H
   by_cases c3 : x9_1 < (l0.length : Int)
   ·rw [if_pos c3] at H
    have c3b0 : decide (x9_1 < (l0.length : Int)) = true:=decide_eq_true c3
    clear c3
    by_cases c4 : 0 ≤ x9_1
    ·rw [if_pos c4] at H
     have c4b0 : decide (0 ≤ x9_1) = true:=decide_eq_true c4
     clear c4
     by_cases c5 : x9_1 < (l0.length : Int)
     ·rw [if_pos c5] at H
      have c5b0 : decide (x9_1 < (l0.length : Int)) = true:=decide_eq_true c5
      clear c5
      by_cases c6 : ((zbd l0 x9_1).f0).toList = a1.toList
      ·rw [if_pos c6] at H
       have c6b0 : (((zbd l0 x9_1).f0).toList == a1.toList) = true:=beq_iff_eq.mpr c6
       have c6b1 : (((zbd l0 x9_1).f0).toList != a1.toList) = false:=bne_eq_false_iff_eq.mpr c6
       clear c6
       obtain rfl:=Option.some.inj H
       have p159 : 0 ≤ (x9_1 : Int):=of_decide_eq_true (by first|(with_reducible assumption)|assumption)
       have q159 : x9_1 < (l0.length : Int):=of_decide_eq_true (by first|(with_reducible assumption)|assumption)
       obtain ⟨ad159,e159,hx159_0,hx159_1⟩:=at_T39 HR0.out x9_1 p159 q159
       cases e159
       replace hx159_0:=(HB.out.cell (World.block_lt_of_cell? w _ hx159_0)).trans hx159_0
       replace hx159_1:=(HB.out.cell (World.block_lt_of_cell? w _ hx159_1)).trans hx159_1
       replace p159:=eq_true p159
       replace q159:=eq_true q159
       go_wp2_with (first|((with_reducible refine zbh (N:=6) rfl ?_);refine zbf ?hg (N:=6) ?hd (cs:=#[.string (⟨#[]⟩ : ByteArray),.string (⟨#[]⟩ : ByteArray)]) (t:=39) ?hr ?_;(case hd=>rfl);(case hg=>rfl);(case hr=>first|(go_simp;done)|(go_simp;rfl));intro gb160 hg w7 hbox hb;have n0_:=zac.mk (zao (by repeat (first|(with_reducible first|exact HB.out|apply zae|apply zab|apply zaf)|exact HB.out)) hb);have n1_:=zac.mk (hbox);have n2_:=zac.mk ((by rw [hg];exact (zam (by repeat (first|(with_reducible first|exact HB.out|apply zae|apply zab|apply zaf)|exact HB.out))) : w.heap.size ≤ gb160));have n3_:=zac.mk ((by rw [hg];exact (zam (by repeat (first|(with_reducible first|exact HB.out|apply zae|apply zab|apply zaf)|exact HB.out))) : w.heap.size ≤ gb160));clear HB;have HB:=n0_;have BK160:=n1_;have GW160:=n2_;have GE160:=n3_;clear n0_ n1_ n2_ n3_;clear hb hbox hg;have hcz8_0 : w7.cell? ⟨gb160,0,none⟩ = some (.string (⟨#[]⟩ : ByteArray)):=(zad BK160.out 0).trans rfl;have hcz8_1 : w7.cell? ⟨gb160,1,none⟩ = some (.string (⟨#[]⟩ : ByteArray)):=(zad BK160.out 1).trans rfl;have hfz8_0:=zaa BK160.out 0;have hfz8_1:=zaa BK160.out 1))
       go_ret
       exact ⟨by first|rfl|(simp [errW_none,errW_some] <;> rfl)|(simp [*,errW_none,errW_some] <;> rfl),by repeat (first|(with_reducible first|exact HB.out|apply zae|apply zab|apply zaf|refine zai ?_ GE160.out)|exact HB.out)⟩
      ·rw [if_neg c6] at H
       have c6b0 : (((zbd l0 x9_1).f0).toList == a1.toList) = false:=beq_eq_false_iff_ne.mpr c6
       have c6b1 : (((zbd l0 x9_1).f0).toList != a1.toList) = true:=bne_iff_ne.mpr c6
       have H':=zac.mk H
       clear H
       have p159 : 0 ≤ (x9_1 : Int):=of_decide_eq_true (by first|(with_reducible assumption)|assumption)
       have q159 : x9_1 < (l0.length : Int):=of_decide_eq_true (by first|(with_reducible assumption)|assumption)
       obtain ⟨ad159,e159,hx159_0,hx159_1⟩:=at_T39 HR0.out x9_1 p159 q159
       cases e159
       replace hx159_0:=(HB.out.cell (World.block_lt_of_cell? w _ hx159_0)).trans hx159_0
       replace hx159_1:=(HB.out.cell (World.block_lt_of_cell? w _ hx159_1)).trans hx159_1
       replace p159:=eq_true p159
       replace q159:=eq_true q159
       go_wp2_with (first|((with_reducible refine zbh (N:=6) rfl ?_);refine zbf ?hg (N:=6) ?hd (cs:=#[.string (⟨#[]⟩ : ByteArray),.string (⟨#[]⟩ : ByteArray)]) (t:=39) ?hr ?_;(case hd=>rfl);(case hg=>rfl);(case hr=>first|(go_simp;done)|(go_simp;rfl));intro gb160 hg w9 hbox hb;have n0_:=zac.mk (zao (by repeat (first|(with_reducible first|exact HB.out|apply zae|apply zab|apply zaf)|exact HB.out)) hb);have n1_:=zac.mk (hbox);have n2_:=zac.mk ((by rw [hg];exact (zam (by repeat (first|(with_reducible first|exact HB.out|apply zae|apply zab|apply zaf)|exact HB.out))) : w.heap.size ≤ gb160));have n3_:=zac.mk ((by rw [hg];exact (zam (by repeat (first|(with_reducible first|exact HB.out|apply zae|apply zab|apply zaf)|exact HB.out))) : w.heap.size ≤ gb160));clear HB;have HB:=n0_;have BK160:=n1_;have GW160:=n2_;have GE160:=n3_;clear n0_ n1_ n2_ n3_;clear hb hbox hg;have hcz10_0 : w9.cell? ⟨gb160,0,none⟩ = some (.string (⟨#[]⟩ : ByteArray)):=(zad BK160.out 0).trans rfl;have hcz10_1 : w9.cell? ⟨gb160,1,none⟩ = some (.string (⟨#[]⟩ : ByteArray)):=(zad BK160.out 1).trans rfl;have hfz10_0:=zaa BK160.out 0;have hfz10_1:=zaa BK160.out 1))
       go_roundg k1
       case measure=>have:=HK1.out;omega
       case rel=>exact ⟨(wrap64 (x9_1 + 1)),(by first|rfl|(simp;done)|(simp [*];done)),H',⟨by have:=HK1.out;omega⟩,⟨by repeat (first|(with_reducible first|exact HB.out|apply zae|apply zab|apply zaf|refine zai ?_ GE160.out)|exact HB.out)⟩⟩
     ·rw [if_neg c5] at H
      exact absurd H (by simp)
    ·rw [if_neg c4] at H
     exact absurd H (by simp)
   ·rw [if_neg c3] at H
    have c3b0 : decide (x9_1 < (l0.length : Int)) = false:=decide_eq_false c3
    clear c3
    obtain rfl:=Option.some.inj H
    go_wp2
    go_ret
    exact ⟨by first|rfl|(simp [errW_none,errW_some] <;> rfl)|(simp [*,errW_none,errW_some] <;> rfl),by repeat (first|(with_reducible first|exact HB.out|apply zae|apply zab|apply zaf)|exact HB.out)⟩
def text_IsAirport.f (a0 : ByteArray) : Option (Bool):=if (a0.size : Int) = 3 then ((text_all_upper.f a0).bind fun t161=>(some t161)) else (some false)
set_option maxHeartbeats 8000000 in
set_option maxRecDepth 100000 in
theorem text_IsAirport.calls (a0 : ByteArray) (r : Bool) (w : World) (h : text_IsAirport.f a0 = some r) :
  Calls Try.prog 56 #[.string a0] w fun e w'=>e = .returned (.bool r) ∧ zay w w':=by
 have H : (if (a0.size : Int) = 3 then ((text_all_upper.f a0).bind fun t161=>(some t161)) else (some false)) = some r:=h
 clear h
 by_cases c2 : (a0.size : Int) = 3
 ·rw [if_pos c2] at H
  have c2b0 : ((a0.size : Int) == 3) = true:=beq_iff_eq.mpr c2
  have c2b1 : ((a0.size : Int) != 3) = false:=bne_eq_false_iff_eq.mpr c2
  clear c2
  replace H:=Option.bind_eq_some_iff.mp H
  obtain ⟨t161,A30,H⟩:=H
  replace H : (some t161) = some r:=H
  have A3:=zac.mk A30
  clear A30
  obtain rfl:=Option.some.inj H
  go_enter Try.func56,Try.ntmps56
  go_wp2_with (first|(go_at_call 82;(with_reducible refine (text_all_upper.calls a0 t161 _ A3.out).mono ?_);rintro e w' ⟨rfl,⟨nd,rfl⟩⟩))
  go_ret
  exact ⟨by first|rfl|(simp;done)|(simp [*];done),by repeat (first|exact zay.refl _|apply zay.step)⟩
 ·rw [if_neg c2] at H
  have c2b0 : ((a0.size : Int) == 3) = false:=beq_eq_false_iff_ne.mpr c2
  have c2b1 : ((a0.size : Int) != 3) = true:=bne_iff_ne.mpr c2
  obtain rfl:=Option.some.inj H
  go_enter Try.func56,Try.ntmps56
  go_wp2
  go_ret
  exact ⟨by first|rfl|(simp;done)|(simp [*];done),by repeat (first|exact zay.refl _|apply zay.step)⟩
def timetable_checkAirport.f (k : Nat) (l0_0 : List (S42)) (l0_1 : List (S39)) (l0_2 : List (S36)) (a1 : Int) : Option (Int):=if 0 ≤ a1 then (if a1 < (l0_1.length : Int) then ((text_IsAirport.f ((zbd l0_1 a1).f0)).bind fun t165=>(if t165 = true then ((zbc.f k l0_1 ((zbd l0_1 a1).f0)).bind fun t166=>(if t166 < a1 then (some 7) else ((zbj.f k l0_0 ((zbd l0_1 a1).f1)).bind fun t167=>(if t167 < 0 then (some 6) else (some 0))))) else (some 1))) else (none)) else (none)
set_option maxHeartbeats 8000000 in
set_option maxRecDepth 100000 in
theorem timetable_checkAirport.calls (k : Nat) (A0_0 : Option Addr) (c0_0 : Nat) (l0_0 : List (S42)) (A0_1 : Option Addr) (c0_1 : Nat) (l0_1 : List (S39)) (A0_2 : Option Addr) (c0_2 : Nat) (l0_2 : List (S36)) (a1 : Int) (r : Int) (w : World) (hr0_0 : Kd.C k42 w A0_0 l0_0.length l0_0) (hc0_0 : l0_0.length ≤ c0_0) (hr0_1 : Kd.C k39 w A0_1 l0_1.length l0_1) (hc0_1 : l0_1.length ≤ c0_1) (hr0_2 : Kd.C k36 w A0_2 l0_2.length l0_2) (hc0_2 : l0_2.length ≤ c0_2) (h : timetable_checkAirport.f k l0_0 l0_1 l0_2 a1 = some r) :
  Calls Try.prog 28 #[.agg #[.slice A0_0 l0_0.length c0_0,.slice A0_1 l0_1.length c0_1,.slice A0_2 l0_2.length c0_2],.int .i64 a1] w fun e w'=>e = .returned (.int .i64 r) ∧ Below w.heap.size w w':=by
 have hu26:=Try.underlying26
 have hu39:=Try.underlying39
 have HR0_0:=zac.mk hr0_0
 have HC0_0:=zac.mk hc0_0
 clear hr0_0 hc0_0
 have HR0_1:=zac.mk hr0_1
 have HC0_1:=zac.mk hc0_1
 clear hr0_1 hc0_1
 have HR0_2:=zac.mk hr0_2
 have HC0_2:=zac.mk hc0_2
 clear hr0_2 hc0_2
 have HB:=zac.mk (Below.refl w.heap.size w)
 have H : (if 0 ≤ a1 then (if a1 < (l0_1.length : Int) then ((text_IsAirport.f ((zbd l0_1 a1).f0)).bind fun t165=>(if t165 = true then ((zbc.f k l0_1 ((zbd l0_1 a1).f0)).bind fun t166=>(if t166 < a1 then (some 7) else ((zbj.f k l0_0 ((zbd l0_1 a1).f1)).bind fun t167=>(if t167 < 0 then (some 6) else (some 0))))) else (some 1))) else (none)) else (none)) = some r:=h
 clear h
 by_cases c3 : 0 ≤ a1
 ·rw [if_pos c3] at H
  have c3b0 : decide (0 ≤ a1) = true:=decide_eq_true c3
  clear c3
  by_cases c4 : a1 < (l0_1.length : Int)
  ·rw [if_pos c4] at H
   have c4b0 : decide (a1 < (l0_1.length : Int)) = true:=decide_eq_true c4
   clear c4
   replace H:=Option.bind_eq_some_iff.mp H
   obtain ⟨t165,A50,H⟩:=H
   replace H : (if t165 = true then ((zbc.f k l0_1 ((zbd l0_1 a1).f0)).bind fun t166=>(if t166 < a1 then (some 7) else ((zbj.f k l0_0 ((zbd l0_1 a1).f1)).bind fun t167=>(if t167 < 0 then (some 6) else (some 0))))) else (some 1)) = some r:=H
   have A5:=zac.mk A50
   clear A50
   by_cases c6 : t165 = true
   ·subst c6
    have H1 : ((zbc.f k l0_1 ((zbd l0_1 a1).f0)).bind fun t166=>(if t166 < a1 then (some 7) else ((zbj.f k l0_0 ((zbd l0_1 a1).f1)).bind fun t167=>(if t167 < 0 then (some 6) else (some 0))))) = some r:=by rw [if_pos rfl] at H;exact H
    clear H
    have H:=H1
    clear H1
    replace H:=Option.bind_eq_some_iff.mp H
    obtain ⟨t166,A70,H⟩:=H
    replace H : (if t166 < a1 then (some 7) else ((zbj.f k l0_0 ((zbd l0_1 a1).f1)).bind fun t167=>(if t167 < 0 then (some 6) else (some 0)))) = some r:=H
    have A7:=zac.mk A70
    clear A70
    by_cases c8 : t166 < a1
    ·rw [if_pos c8] at H
     have c8b0 : decide (t166 < a1) = true:=decide_eq_true c8
     clear c8
     obtain rfl:=Option.some.inj H
     go_enter Try.func28,Try.ntmps28
     go_wp2_with (first|((with_reducible refine zbh (N:=2) rfl ?_);refine zbf ?hg (N:=2) ?hd (cs:=#[.slice A0_0 l0_0.length c0_0,.slice A0_1 l0_1.length c0_1,.slice A0_2 l0_2.length c0_2]) (t:=26) ?hr ?_;(case hd=>rfl);(case hg=>rfl);(case hr=>first|(go_simp;done)|(go_simp;rfl));intro gb162 hg w9 hbox hb;have n0_:=zac.mk (zao (by repeat (first|(with_reducible first|exact HB.out|apply zae|apply zab|apply zaf)|exact HB.out)) hb);have n1_:=zac.mk (hbox);have n2_:=zac.mk ((by rw [hg];exact (zam (by repeat (first|(with_reducible first|exact HB.out|apply zae|apply zab|apply zaf)|exact HB.out))) : w.heap.size ≤ gb162));have n3_:=zac.mk ((by rw [hg];exact (zam (by repeat (first|(with_reducible first|exact HB.out|apply zae|apply zab|apply zaf)|exact HB.out))) : w.heap.size ≤ gb162));clear HB;have HB:=n0_;have BK162:=n1_;have GW162:=n2_;have GE162:=n3_;clear n0_ n1_ n2_ n3_;clear hb hbox hg;have hcz10_0 : w9.cell? ⟨gb162,0,none⟩ = some (.slice A0_0 l0_0.length c0_0):=(zad BK162.out 0).trans rfl;have hcz10_1 : w9.cell? ⟨gb162,1,none⟩ = some (.slice A0_1 l0_1.length c0_1):=(zad BK162.out 1).trans rfl;have hcz10_2 : w9.cell? ⟨gb162,2,none⟩ = some (.slice A0_2 l0_2.length c0_2):=(zad BK162.out 2).trans rfl;have hfz10_0:=zaa BK162.out 0;have hfz10_1:=zaa BK162.out 1;have hfz10_2:=zaa BK162.out 2;have p163 : 0 ≤ (a1 : Int):=of_decide_eq_true (by first|(with_reducible assumption)|assumption);have q163 : a1 < (l0_1.length : Int):=of_decide_eq_true (by first|(with_reducible assumption)|assumption);obtain ⟨ad163,e163,hx163_0,hx163_1⟩:=at_T39 HR0_1.out a1 p163 q163;cases e163;replace hx163_0:=(HB.out.cell (World.block_lt_of_cell? w _ hx163_0)).trans hx163_0;replace hx163_1:=(HB.out.cell (World.block_lt_of_cell? w _ hx163_1)).trans hx163_1;replace p163:=eq_true p163;replace q163:=eq_true q163)|((with_reducible refine zbh (N:=5) rfl ?_);refine zbf ?hg (N:=5) ?hd (cs:=#[.string (⟨#[]⟩ : ByteArray),.string (⟨#[]⟩ : ByteArray)]) (t:=39) ?hr ?_;(case hd=>rfl);(case hg=>rfl);(case hr=>first|(go_simp;done)|(go_simp;rfl));intro gb164 hg w11 hbox hb;have n0_:=zac.mk (zat (g:=gb162) (o:=.cells #[.slice A0_0 l0_0.length c0_0,.slice (some ad163) l0_1.length c0_1,.slice A0_2 l0_2.length c0_2] 26 (0,0)) (by (with_reducible repeat (first|refine zah ?_ _|refine zak ?_|refine zag ?_ _));exact BK162.out) hb);have n1_:=zac.mk (zao (by repeat (first|(with_reducible first|exact HB.out|apply zae|apply zab|apply zaf|refine zai ?_ GE162.out)|exact HB.out)) hb);have n2_:=zac.mk (hbox);have n3_:=zac.mk ((by rw [hg];exact (zam (by repeat (first|(with_reducible first|exact HB.out|apply zae|apply zab|apply zaf|refine zai ?_ GE162.out)|exact HB.out))) : w.heap.size ≤ gb164));have n4_:=zac.mk ((by rw [hg];exact (zam (by repeat (first|(with_reducible first|exact HB.out|apply zae|apply zab|apply zaf|refine zai ?_ GE162.out)|exact HB.out))) : w.heap.size ≤ gb164));have n5_:=zac.mk ((by rw [hg];exact Nat.ne_of_lt (zbq (g:=gb162) (o:=.cells #[.slice A0_0 l0_0.length c0_0,.slice (some ad163) l0_1.length c0_1,.slice A0_2 l0_2.length c0_2] 26 (0,0)) (by (with_reducible repeat (first|refine zah ?_ _|refine zak ?_|refine zag ?_ _));exact BK162.out)) : gb162 ≠ gb164));have n6_:=zac.mk ((by rw [hg];exact Nat.ne_of_gt (zbq (g:=gb162) (o:=.cells #[.slice A0_0 l0_0.length c0_0,.slice (some ad163) l0_1.length c0_1,.slice A0_2 l0_2.length c0_2] 26 (0,0)) (by (with_reducible repeat (first|refine zah ?_ _|refine zak ?_|refine zag ?_ _));exact BK162.out)) : gb164 ≠ gb162));clear BK162;clear HB;have BK162:=n0_;have HB:=n1_;have BK164:=n2_;have GW164:=n3_;have GE164:=n4_;have NB162_164:=n5_;have NB164_162:=n6_;clear n0_ n1_ n2_ n3_ n4_ n5_ n6_;clear hb hbox hg;have hnb12:=NB164_162.out;have hnc12:=NB162_164.out;have hcz13_0 : w11.cell? ⟨gb164,0,none⟩ = some (.string (⟨#[]⟩ : ByteArray)):=(zad BK164.out 0).trans rfl;have hcz13_1 : w11.cell? ⟨gb164,1,none⟩ = some (.string (⟨#[]⟩ : ByteArray)):=(zad BK164.out 1).trans rfl;have hfz13_0:=zaa BK164.out 0;have hfz13_1:=zaa BK164.out 1)|((with_reducible refine zbe (f:=56) rfl ?_);refine zce (some 14) rfl rfl Try.func56 (by kernel_rfl) rfl #[.string ((zbd l0_1 a1).f0)] rfl (by (try simp only [List.map_toArray,List.map_cons,List.map_nil]);first|done|rfl|(simp only [List.length_drop,List.length_take];rfl)) ?_;(with_reducible refine (text_IsAirport.calls ((zbd l0_1 a1).f0) true _ A5.out).mono ?_);rintro e w' ⟨rfl,⟨nd,rfl⟩⟩;refine ⟨_,rfl,?_⟩;have hcz14_0 : w11.cell? ⟨gb162,0,none⟩ = some (.slice A0_0 l0_0.length c0_0):=(zad BK162.out 0).trans rfl;have hcz14_1 : w11.cell? ⟨gb162,1,none⟩ = some (.slice (some ad163) l0_1.length c0_1):=(zad BK162.out 1).trans rfl;have hcz14_2 : w11.cell? ⟨gb162,2,none⟩ = some (.slice A0_2 l0_2.length c0_2):=(zad BK162.out 2).trans rfl;have hfz14_0:=zaa BK162.out 0;have hfz14_1:=zaa BK162.out 1;have hfz14_2:=zaa BK162.out 2)|((with_reducible refine zbe (f:=52) rfl ?_);refine zce (some 21) rfl rfl Try.func52 (by kernel_rfl) rfl #[.slice (some ad163) l0_1.length c0_1,.string ((zbd l0_1 a1).f0)] rfl (by (try simp only [List.map_toArray,List.map_cons,List.map_nil]);first|done|rfl|(simp only [List.length_drop,List.length_take];rfl)) ?_;(with_reducible refine (zbc.calls k _ _ l0_1 ((zbd l0_1 a1).f0) t166 _ ?side1 ?side2 A7.out).mono ?_);(case side1=>exact Kd.C_below HR0_1.out (by repeat (first|(with_reducible first|exact HB.out|apply zae|apply zab|apply zaf|refine zai ?_ GE162.out|refine zai ?_ GE164.out)|exact HB.out)));(case side2=>exact HC0_1.out);rintro e w15 ⟨rfl,hb⟩;refine ⟨_,rfl,?_⟩;have n0_:=zac.mk (zat (g:=gb162) (o:=.cells #[.slice A0_0 l0_0.length c0_0,.slice (some ad163) l0_1.length c0_1,.slice A0_2 l0_2.length c0_2] 26 (0,0)) (by (with_reducible repeat (first|refine zah ?_ _|refine zak ?_|refine zag ?_ _));refine zaz ?_ NB162_164.out _;(with_reducible repeat (first|refine zah ?_ _|refine zak ?_|refine zag ?_ _));refine zaz ?_ NB162_164.out _;(with_reducible repeat (first|refine zah ?_ _|refine zak ?_|refine zag ?_ _));exact BK162.out) hb);have n1_:=zac.mk (zat (g:=gb164) (o:=.cells #[.string ((zbd l0_1 a1).f0),.string ((zbd l0_1 a1).f1)] 39 (0,0)) (by (with_reducible repeat (first|refine zah ?_ _|refine zak ?_|refine zag ?_ _));refine zaw (cs:=#[.string ((zbd l0_1 a1).f0),.string (⟨#[]⟩ : ByteArray)]) ?_ 1 _ rfl;(with_reducible repeat (first|refine zah ?_ _|refine zak ?_|refine zag ?_ _));refine zaw (cs:=#[.string (⟨#[]⟩ : ByteArray),.string (⟨#[]⟩ : ByteArray)]) ?_ 0 _ rfl;(with_reducible repeat (first|refine zah ?_ _|refine zak ?_|refine zag ?_ _));exact BK164.out) hb);have n2_:=zac.mk (zao (by repeat (first|(with_reducible first|exact HB.out|apply zae|apply zab|apply zaf|refine zai ?_ GE162.out|refine zai ?_ GE164.out)|exact HB.out)) hb);clear BK162;clear BK164;clear HB;have BK162:=n0_;have BK164:=n1_;have HB:=n2_;clear n0_ n1_ n2_;(try clear hb);(try clear hb2);(try clear hk);(try clear hi)))
     go_ret
     exact ⟨by first|rfl|(simp [errW_none,errW_some] <;> rfl)|(simp [*,errW_none,errW_some] <;> rfl),by repeat (first|(with_reducible first|exact HB.out|apply zae|apply zab|apply zaf|refine zai ?_ GE162.out|refine zai ?_ GE164.out)|exact HB.out)⟩
    ·rw [if_neg c8] at H
     have c8b0 : decide (t166 < a1) = false:=decide_eq_false c8
     clear c8
     replace H:=Option.bind_eq_some_iff.mp H
     obtain ⟨t167,A160,H⟩:=H
     replace H : (if t167 < 0 then (some 6) else (some 0)) = some r:=H
     have A16:=zac.mk A160
     clear A160
     by_cases c17 : t167 < 0
     ·rw [if_pos c17] at H
      have c17b0 : decide (t167 < 0) = true:=decide_eq_true c17
      clear c17
      obtain rfl:=Option.some.inj H
      go_enter Try.func28,Try.ntmps28
      go_wp2_with (first|((with_reducible refine zbh (N:=2) rfl ?_);refine zbf ?hg (N:=2) ?hd (cs:=#[.slice A0_0 l0_0.length c0_0,.slice A0_1 l0_1.length c0_1,.slice A0_2 l0_2.length c0_2]) (t:=26) ?hr ?_;(case hd=>rfl);(case hg=>rfl);(case hr=>first|(go_simp;done)|(go_simp;rfl));intro gb162 hg w18 hbox hb;have n0_:=zac.mk (zao (by repeat (first|(with_reducible first|exact HB.out|apply zae|apply zab|apply zaf)|exact HB.out)) hb);have n1_:=zac.mk (hbox);have n2_:=zac.mk ((by rw [hg];exact (zam (by repeat (first|(with_reducible first|exact HB.out|apply zae|apply zab|apply zaf)|exact HB.out))) : w.heap.size ≤ gb162));have n3_:=zac.mk ((by rw [hg];exact (zam (by repeat (first|(with_reducible first|exact HB.out|apply zae|apply zab|apply zaf)|exact HB.out))) : w.heap.size ≤ gb162));clear HB;have HB:=n0_;have BK162:=n1_;have GW162:=n2_;have GE162:=n3_;clear n0_ n1_ n2_ n3_;clear hb hbox hg;have hcz19_0 : w18.cell? ⟨gb162,0,none⟩ = some (.slice A0_0 l0_0.length c0_0):=(zad BK162.out 0).trans rfl;have hcz19_1 : w18.cell? ⟨gb162,1,none⟩ = some (.slice A0_1 l0_1.length c0_1):=(zad BK162.out 1).trans rfl;have hcz19_2 : w18.cell? ⟨gb162,2,none⟩ = some (.slice A0_2 l0_2.length c0_2):=(zad BK162.out 2).trans rfl;have hfz19_0:=zaa BK162.out 0;have hfz19_1:=zaa BK162.out 1;have hfz19_2:=zaa BK162.out 2;have p163 : 0 ≤ (a1 : Int):=of_decide_eq_true (by first|(with_reducible assumption)|assumption);have q163 : a1 < (l0_1.length : Int):=of_decide_eq_true (by first|(with_reducible assumption)|assumption);obtain ⟨ad163,e163,hx163_0,hx163_1⟩:=at_T39 HR0_1.out a1 p163 q163;cases e163;replace hx163_0:=(HB.out.cell (World.block_lt_of_cell? w _ hx163_0)).trans hx163_0;replace hx163_1:=(HB.out.cell (World.block_lt_of_cell? w _ hx163_1)).trans hx163_1;replace p163:=eq_true p163;replace q163:=eq_true q163)|((with_reducible refine zbh (N:=5) rfl ?_);refine zbf ?hg (N:=5) ?hd (cs:=#[.string (⟨#[]⟩ : ByteArray),.string (⟨#[]⟩ : ByteArray)]) (t:=39) ?hr ?_;(case hd=>rfl);(case hg=>rfl);(case hr=>first|(go_simp;done)|(go_simp;rfl));intro gb164 hg w20 hbox hb;have n0_:=zac.mk (zat (g:=gb162) (o:=.cells #[.slice A0_0 l0_0.length c0_0,.slice (some ad163) l0_1.length c0_1,.slice A0_2 l0_2.length c0_2] 26 (0,0)) (by (with_reducible repeat (first|refine zah ?_ _|refine zak ?_|refine zag ?_ _));exact BK162.out) hb);have n1_:=zac.mk (zao (by repeat (first|(with_reducible first|exact HB.out|apply zae|apply zab|apply zaf|refine zai ?_ GE162.out)|exact HB.out)) hb);have n2_:=zac.mk (hbox);have n3_:=zac.mk ((by rw [hg];exact (zam (by repeat (first|(with_reducible first|exact HB.out|apply zae|apply zab|apply zaf|refine zai ?_ GE162.out)|exact HB.out))) : w.heap.size ≤ gb164));have n4_:=zac.mk ((by rw [hg];exact (zam (by repeat (first|(with_reducible first|exact HB.out|apply zae|apply zab|apply zaf|refine zai ?_ GE162.out)|exact HB.out))) : w.heap.size ≤ gb164));have n5_:=zac.mk ((by rw [hg];exact Nat.ne_of_lt (zbq (g:=gb162) (o:=.cells #[.slice A0_0 l0_0.length c0_0,.slice (some ad163) l0_1.length c0_1,.slice A0_2 l0_2.length c0_2] 26 (0,0)) (by (with_reducible repeat (first|refine zah ?_ _|refine zak ?_|refine zag ?_ _));exact BK162.out)) : gb162 ≠ gb164));have n6_:=zac.mk ((by rw [hg];exact Nat.ne_of_gt (zbq (g:=gb162) (o:=.cells #[.slice A0_0 l0_0.length c0_0,.slice (some ad163) l0_1.length c0_1,.slice A0_2 l0_2.length c0_2] 26 (0,0)) (by (with_reducible repeat (first|refine zah ?_ _|refine zak ?_|refine zag ?_ _));exact BK162.out)) : gb164 ≠ gb162));clear BK162;clear HB;have BK162:=n0_;have HB:=n1_;have BK164:=n2_;have GW164:=n3_;have GE164:=n4_;have NB162_164:=n5_;have NB164_162:=n6_;clear n0_ n1_ n2_ n3_ n4_ n5_ n6_;clear hb hbox hg;have hnb21:=NB164_162.out;have hnc21:=NB162_164.out;have hcz22_0 : w20.cell? ⟨gb164,0,none⟩ = some (.string (⟨#[]⟩ : ByteArray)):=(zad BK164.out 0).trans rfl;have hcz22_1 : w20.cell? ⟨gb164,1,none⟩ = some (.string (⟨#[]⟩ : ByteArray)):=(zad BK164.out 1).trans rfl;have hfz22_0:=zaa BK164.out 0;have hfz22_1:=zaa BK164.out 1)|((with_reducible refine zbe (f:=56) rfl ?_);refine zce (some 14) rfl rfl Try.func56 (by kernel_rfl) rfl #[.string ((zbd l0_1 a1).f0)] rfl (by (try simp only [List.map_toArray,List.map_cons,List.map_nil]);first|done|rfl|(simp only [List.length_drop,List.length_take];rfl)) ?_;(with_reducible refine (text_IsAirport.calls ((zbd l0_1 a1).f0) true _ A5.out).mono ?_);rintro e w' ⟨rfl,⟨nd,rfl⟩⟩;refine ⟨_,rfl,?_⟩;have hcz23_0 : w20.cell? ⟨gb162,0,none⟩ = some (.slice A0_0 l0_0.length c0_0):=(zad BK162.out 0).trans rfl;have hcz23_1 : w20.cell? ⟨gb162,1,none⟩ = some (.slice (some ad163) l0_1.length c0_1):=(zad BK162.out 1).trans rfl;have hcz23_2 : w20.cell? ⟨gb162,2,none⟩ = some (.slice A0_2 l0_2.length c0_2):=(zad BK162.out 2).trans rfl;have hfz23_0:=zaa BK162.out 0;have hfz23_1:=zaa BK162.out 1;have hfz23_2:=zaa BK162.out 2)|((with_reducible refine zbe (f:=52) rfl ?_);refine zce (some 21) rfl rfl Try.func52 (by kernel_rfl) rfl #[.slice (some ad163) l0_1.length c0_1,.string ((zbd l0_1 a1).f0)] rfl (by (try simp only [List.map_toArray,List.map_cons,List.map_nil]);first|done|rfl|(simp only [List.length_drop,List.length_take];rfl)) ?_;(with_reducible refine (zbc.calls k _ _ l0_1 ((zbd l0_1 a1).f0) t166 _ ?side1 ?side2 A7.out).mono ?_);(case side1=>exact Kd.C_below HR0_1.out (by repeat (first|(with_reducible first|exact HB.out|apply zae|apply zab|apply zaf|refine zai ?_ GE162.out|refine zai ?_ GE164.out)|exact HB.out)));(case side2=>exact HC0_1.out);rintro e w24 ⟨rfl,hb⟩;refine ⟨_,rfl,?_⟩;have n0_:=zac.mk (zat (g:=gb162) (o:=.cells #[.slice A0_0 l0_0.length c0_0,.slice (some ad163) l0_1.length c0_1,.slice A0_2 l0_2.length c0_2] 26 (0,0)) (by (with_reducible repeat (first|refine zah ?_ _|refine zak ?_|refine zag ?_ _));refine zaz ?_ NB162_164.out _;(with_reducible repeat (first|refine zah ?_ _|refine zak ?_|refine zag ?_ _));refine zaz ?_ NB162_164.out _;(with_reducible repeat (first|refine zah ?_ _|refine zak ?_|refine zag ?_ _));exact BK162.out) hb);have n1_:=zac.mk (zat (g:=gb164) (o:=.cells #[.string ((zbd l0_1 a1).f0),.string ((zbd l0_1 a1).f1)] 39 (0,0)) (by (with_reducible repeat (first|refine zah ?_ _|refine zak ?_|refine zag ?_ _));refine zaw (cs:=#[.string ((zbd l0_1 a1).f0),.string (⟨#[]⟩ : ByteArray)]) ?_ 1 _ rfl;(with_reducible repeat (first|refine zah ?_ _|refine zak ?_|refine zag ?_ _));refine zaw (cs:=#[.string (⟨#[]⟩ : ByteArray),.string (⟨#[]⟩ : ByteArray)]) ?_ 0 _ rfl;(with_reducible repeat (first|refine zah ?_ _|refine zak ?_|refine zag ?_ _));exact BK164.out) hb);have n2_:=zac.mk (zao (by repeat (first|(with_reducible first|exact HB.out|apply zae|apply zab|apply zaf|refine zai ?_ GE162.out|refine zai ?_ GE164.out)|exact HB.out)) hb);clear BK162;clear BK164;clear HB;have BK162:=n0_;have BK164:=n1_;have HB:=n2_;clear n0_ n1_ n2_;(try clear hb);(try clear hb2);(try clear hk);(try clear hi);have hcz25_0 : w24.cell? ⟨gb162,0,none⟩ = some (.slice A0_0 l0_0.length c0_0):=(zad BK162.out 0).trans rfl;have hcz25_1 : w24.cell? ⟨gb162,1,none⟩ = some (.slice (some ad163) l0_1.length c0_1):=(zad BK162.out 1).trans rfl;have hcz25_2 : w24.cell? ⟨gb162,2,none⟩ = some (.slice A0_2 l0_2.length c0_2):=(zad BK162.out 2).trans rfl;have hfz25_0:=zaa BK162.out 0;have hfz25_1:=zaa BK162.out 1;have hfz25_2:=zaa BK162.out 2;have hcz26_0 : w24.cell? ⟨gb164,0,none⟩ = some (.string ((zbd l0_1 a1).f0)):=(zad BK164.out 0).trans rfl;have hcz26_1 : w24.cell? ⟨gb164,1,none⟩ = some (.string ((zbd l0_1 a1).f1)):=(zad BK164.out 1).trans rfl;have hfz26_0:=zaa BK164.out 0;have hfz26_1:=zaa BK164.out 1)|((with_reducible refine zbe (f:=27) rfl ?_);refine zce (some 29) rfl rfl Try.func27 (by kernel_rfl) rfl #[.slice A0_0 l0_0.length c0_0,.string ((zbd l0_1 a1).f1)] rfl (by (try simp only [List.map_toArray,List.map_cons,List.map_nil]);first|done|rfl|(simp only [List.length_drop,List.length_take];rfl)) ?_;(with_reducible refine (zbj.calls k _ _ l0_0 ((zbd l0_1 a1).f1) t167 _ ?side1 ?side2 A16.out).mono ?_);(case side1=>repeat (first|exact (Kd.C_below HR0_0.out HB.out)|(with_reducible refine Kd.C_alloc ?_ _)|(with_reducible refine Kd.C_drewN ?_ _)|(with_reducible refine Kd.C_drew ?_)));(case side2=>exact HC0_0.out);rintro e w27 ⟨rfl,hb⟩;refine ⟨_,rfl,?_⟩;have n0_:=zac.mk (zat (g:=gb162) (o:=.cells #[.slice A0_0 l0_0.length c0_0,.slice (some ad163) l0_1.length c0_1,.slice A0_2 l0_2.length c0_2] 26 (0,0)) (by (with_reducible repeat (first|refine zah ?_ _|refine zak ?_|refine zag ?_ _));exact BK162.out) hb);have n1_:=zac.mk (zat (g:=gb164) (o:=.cells #[.string ((zbd l0_1 a1).f0),.string ((zbd l0_1 a1).f1)] 39 (0,0)) (by (with_reducible repeat (first|refine zah ?_ _|refine zak ?_|refine zag ?_ _));exact BK164.out) hb);have n2_:=zac.mk (zao (by repeat (first|(with_reducible first|exact HB.out|apply zae|apply zab|apply zaf|refine zai ?_ GE162.out|refine zai ?_ GE164.out)|exact HB.out)) hb);clear BK162;clear BK164;clear HB;have BK162:=n0_;have BK164:=n1_;have HB:=n2_;clear n0_ n1_ n2_;(try clear hb);(try clear hb2);(try clear hk);(try clear hi)))
      go_ret
      exact ⟨by first|rfl|(simp [errW_none,errW_some] <;> rfl)|(simp [*,errW_none,errW_some] <;> rfl),by repeat (first|(with_reducible first|exact HB.out|apply zae|apply zab|apply zaf|refine zai ?_ GE162.out|refine zai ?_ GE164.out)|exact HB.out)⟩
     ·rw [if_neg c17] at H
      have c17b0 : decide (t167 < 0) = false:=decide_eq_false c17
      clear c17
      obtain rfl:=Option.some.inj H
      go_enter Try.func28,Try.ntmps28
      go_wp2_with (first|((with_reducible refine zbh (N:=2) rfl ?_);refine zbf ?hg (N:=2) ?hd (cs:=#[.slice A0_0 l0_0.length c0_0,.slice A0_1 l0_1.length c0_1,.slice A0_2 l0_2.length c0_2]) (t:=26) ?hr ?_;(case hd=>rfl);(case hg=>rfl);(case hr=>first|(go_simp;done)|(go_simp;rfl));intro gb162 hg w28 hbox hb;have n0_:=zac.mk (zao (by repeat (first|(with_reducible first|exact HB.out|apply zae|apply zab|apply zaf)|exact HB.out)) hb);have n1_:=zac.mk (hbox);have n2_:=zac.mk ((by rw [hg];exact (zam (by repeat (first|(with_reducible first|exact HB.out|apply zae|apply zab|apply zaf)|exact HB.out))) : w.heap.size ≤ gb162));have n3_:=zac.mk ((by rw [hg];exact (zam (by repeat (first|(with_reducible first|exact HB.out|apply zae|apply zab|apply zaf)|exact HB.out))) : w.heap.size ≤ gb162));clear HB;have HB:=n0_;have BK162:=n1_;have GW162:=n2_;have GE162:=n3_;clear n0_ n1_ n2_ n3_;clear hb hbox hg;have hcz29_0 : w28.cell? ⟨gb162,0,none⟩ = some (.slice A0_0 l0_0.length c0_0):=(zad BK162.out 0).trans rfl;have hcz29_1 : w28.cell? ⟨gb162,1,none⟩ = some (.slice A0_1 l0_1.length c0_1):=(zad BK162.out 1).trans rfl;have hcz29_2 : w28.cell? ⟨gb162,2,none⟩ = some (.slice A0_2 l0_2.length c0_2):=(zad BK162.out 2).trans rfl;have hfz29_0:=zaa BK162.out 0;have hfz29_1:=zaa BK162.out 1;have hfz29_2:=zaa BK162.out 2;have p163 : 0 ≤ (a1 : Int):=of_decide_eq_true (by first|(with_reducible assumption)|assumption);have q163 : a1 < (l0_1.length : Int):=of_decide_eq_true (by first|(with_reducible assumption)|assumption);obtain ⟨ad163,e163,hx163_0,hx163_1⟩:=at_T39 HR0_1.out a1 p163 q163;cases e163;replace hx163_0:=(HB.out.cell (World.block_lt_of_cell? w _ hx163_0)).trans hx163_0;replace hx163_1:=(HB.out.cell (World.block_lt_of_cell? w _ hx163_1)).trans hx163_1;replace p163:=eq_true p163;replace q163:=eq_true q163)|((with_reducible refine zbh (N:=5) rfl ?_);refine zbf ?hg (N:=5) ?hd (cs:=#[.string (⟨#[]⟩ : ByteArray),.string (⟨#[]⟩ : ByteArray)]) (t:=39) ?hr ?_;(case hd=>rfl);(case hg=>rfl);(case hr=>first|(go_simp;done)|(go_simp;rfl));intro gb164 hg w30 hbox hb;have n0_:=zac.mk (zat (g:=gb162) (o:=.cells #[.slice A0_0 l0_0.length c0_0,.slice (some ad163) l0_1.length c0_1,.slice A0_2 l0_2.length c0_2] 26 (0,0)) (by (with_reducible repeat (first|refine zah ?_ _|refine zak ?_|refine zag ?_ _));exact BK162.out) hb);have n1_:=zac.mk (zao (by repeat (first|(with_reducible first|exact HB.out|apply zae|apply zab|apply zaf|refine zai ?_ GE162.out)|exact HB.out)) hb);have n2_:=zac.mk (hbox);have n3_:=zac.mk ((by rw [hg];exact (zam (by repeat (first|(with_reducible first|exact HB.out|apply zae|apply zab|apply zaf|refine zai ?_ GE162.out)|exact HB.out))) : w.heap.size ≤ gb164));have n4_:=zac.mk ((by rw [hg];exact (zam (by repeat (first|(with_reducible first|exact HB.out|apply zae|apply zab|apply zaf|refine zai ?_ GE162.out)|exact HB.out))) : w.heap.size ≤ gb164));have n5_:=zac.mk ((by rw [hg];exact Nat.ne_of_lt (zbq (g:=gb162) (o:=.cells #[.slice A0_0 l0_0.length c0_0,.slice (some ad163) l0_1.length c0_1,.slice A0_2 l0_2.length c0_2] 26 (0,0)) (by (with_reducible repeat (first|refine zah ?_ _|refine zak ?_|refine zag ?_ _));exact BK162.out)) : gb162 ≠ gb164));have n6_:=zac.mk ((by rw [hg];exact Nat.ne_of_gt (zbq (g:=gb162) (o:=.cells #[.slice A0_0 l0_0.length c0_0,.slice (some ad163) l0_1.length c0_1,.slice A0_2 l0_2.length c0_2] 26 (0,0)) (by (with_reducible repeat (first|refine zah ?_ _|refine zak ?_|refine zag ?_ _));exact BK162.out)) : gb164 ≠ gb162));clear BK162;clear HB;have BK162:=n0_;have HB:=n1_;have BK164:=n2_;have GW164:=n3_;have GE164:=n4_;have NB162_164:=n5_;have NB164_162:=n6_;clear n0_ n1_ n2_ n3_ n4_ n5_ n6_;clear hb hbox hg;have hnb31:=NB164_162.out;have hnc31:=NB162_164.out;have hcz32_0 : w30.cell? ⟨gb164,0,none⟩ = some (.string (⟨#[]⟩ : ByteArray)):=(zad BK164.out 0).trans rfl;have hcz32_1 : w30.cell? ⟨gb164,1,none⟩ = some (.string (⟨#[]⟩ : ByteArray)):=(zad BK164.out 1).trans rfl;have hfz32_0:=zaa BK164.out 0;have hfz32_1:=zaa BK164.out 1)|((with_reducible refine zbe (f:=56) rfl ?_);refine zce (some 14) rfl rfl Try.func56 (by kernel_rfl) rfl #[.string ((zbd l0_1 a1).f0)] rfl (by (try simp only [List.map_toArray,List.map_cons,List.map_nil]);first|done|rfl|(simp only [List.length_drop,List.length_take];rfl)) ?_;(with_reducible refine (text_IsAirport.calls ((zbd l0_1 a1).f0) true _ A5.out).mono ?_);rintro e w' ⟨rfl,⟨nd,rfl⟩⟩;refine ⟨_,rfl,?_⟩;have hcz33_0 : w30.cell? ⟨gb162,0,none⟩ = some (.slice A0_0 l0_0.length c0_0):=(zad BK162.out 0).trans rfl;have hcz33_1 : w30.cell? ⟨gb162,1,none⟩ = some (.slice (some ad163) l0_1.length c0_1):=(zad BK162.out 1).trans rfl;have hcz33_2 : w30.cell? ⟨gb162,2,none⟩ = some (.slice A0_2 l0_2.length c0_2):=(zad BK162.out 2).trans rfl;have hfz33_0:=zaa BK162.out 0;have hfz33_1:=zaa BK162.out 1;have hfz33_2:=zaa BK162.out 2)|((with_reducible refine zbe (f:=52) rfl ?_);refine zce (some 21) rfl rfl Try.func52 (by kernel_rfl) rfl #[.slice (some ad163) l0_1.length c0_1,.string ((zbd l0_1 a1).f0)] rfl (by (try simp only [List.map_toArray,List.map_cons,List.map_nil]);first|done|rfl|(simp only [List.length_drop,List.length_take];rfl)) ?_;(with_reducible refine (zbc.calls k _ _ l0_1 ((zbd l0_1 a1).f0) t166 _ ?side1 ?side2 A7.out).mono ?_);(case side1=>exact Kd.C_below HR0_1.out (by repeat (first|(with_reducible first|exact HB.out|apply zae|apply zab|apply zaf|refine zai ?_ GE162.out|refine zai ?_ GE164.out)|exact HB.out)));(case side2=>exact HC0_1.out);rintro e w34 ⟨rfl,hb⟩;refine ⟨_,rfl,?_⟩;have n0_:=zac.mk (zat (g:=gb162) (o:=.cells #[.slice A0_0 l0_0.length c0_0,.slice (some ad163) l0_1.length c0_1,.slice A0_2 l0_2.length c0_2] 26 (0,0)) (by (with_reducible repeat (first|refine zah ?_ _|refine zak ?_|refine zag ?_ _));refine zaz ?_ NB162_164.out _;(with_reducible repeat (first|refine zah ?_ _|refine zak ?_|refine zag ?_ _));refine zaz ?_ NB162_164.out _;(with_reducible repeat (first|refine zah ?_ _|refine zak ?_|refine zag ?_ _));exact BK162.out) hb);have n1_:=zac.mk (zat (g:=gb164) (o:=.cells #[.string ((zbd l0_1 a1).f0),.string ((zbd l0_1 a1).f1)] 39 (0,0)) (by (with_reducible repeat (first|refine zah ?_ _|refine zak ?_|refine zag ?_ _));refine zaw (cs:=#[.string ((zbd l0_1 a1).f0),.string (⟨#[]⟩ : ByteArray)]) ?_ 1 _ rfl;(with_reducible repeat (first|refine zah ?_ _|refine zak ?_|refine zag ?_ _));refine zaw (cs:=#[.string (⟨#[]⟩ : ByteArray),.string (⟨#[]⟩ : ByteArray)]) ?_ 0 _ rfl;(with_reducible repeat (first|refine zah ?_ _|refine zak ?_|refine zag ?_ _));exact BK164.out) hb);have n2_:=zac.mk (zao (by repeat (first|(with_reducible first|exact HB.out|apply zae|apply zab|apply zaf|refine zai ?_ GE162.out|refine zai ?_ GE164.out)|exact HB.out)) hb);clear BK162;clear BK164;clear HB;have BK162:=n0_;have BK164:=n1_;have HB:=n2_;clear n0_ n1_ n2_;(try clear hb);(try clear hb2);(try clear hk);(try clear hi);have hcz35_0 : w34.cell? ⟨gb162,0,none⟩ = some (.slice A0_0 l0_0.length c0_0):=(zad BK162.out 0).trans rfl;have hcz35_1 : w34.cell? ⟨gb162,1,none⟩ = some (.slice (some ad163) l0_1.length c0_1):=(zad BK162.out 1).trans rfl;have hcz35_2 : w34.cell? ⟨gb162,2,none⟩ = some (.slice A0_2 l0_2.length c0_2):=(zad BK162.out 2).trans rfl;have hfz35_0:=zaa BK162.out 0;have hfz35_1:=zaa BK162.out 1;have hfz35_2:=zaa BK162.out 2;have hcz36_0 : w34.cell? ⟨gb164,0,none⟩ = some (.string ((zbd l0_1 a1).f0)):=(zad BK164.out 0).trans rfl;have hcz36_1 : w34.cell? ⟨gb164,1,none⟩ = some (.string ((zbd l0_1 a1).f1)):=(zad BK164.out 1).trans rfl;have hfz36_0:=zaa BK164.out 0;have hfz36_1:=zaa BK164.out 1)|((with_reducible refine zbe (f:=27) rfl ?_);refine zce (some 29) rfl rfl Try.func27 (by kernel_rfl) rfl #[.slice A0_0 l0_0.length c0_0,.string ((zbd l0_1 a1).f1)] rfl (by (try simp only [List.map_toArray,List.map_cons,List.map_nil]);first|done|rfl|(simp only [List.length_drop,List.length_take];rfl)) ?_;(with_reducible refine (zbj.calls k _ _ l0_0 ((zbd l0_1 a1).f1) t167 _ ?side1 ?side2 A16.out).mono ?_);(case side1=>repeat (first|exact (Kd.C_below HR0_0.out HB.out)|(with_reducible refine Kd.C_alloc ?_ _)|(with_reducible refine Kd.C_drewN ?_ _)|(with_reducible refine Kd.C_drew ?_)));(case side2=>exact HC0_0.out);rintro e w37 ⟨rfl,hb⟩;refine ⟨_,rfl,?_⟩;have n0_:=zac.mk (zat (g:=gb162) (o:=.cells #[.slice A0_0 l0_0.length c0_0,.slice (some ad163) l0_1.length c0_1,.slice A0_2 l0_2.length c0_2] 26 (0,0)) (by (with_reducible repeat (first|refine zah ?_ _|refine zak ?_|refine zag ?_ _));exact BK162.out) hb);have n1_:=zac.mk (zat (g:=gb164) (o:=.cells #[.string ((zbd l0_1 a1).f0),.string ((zbd l0_1 a1).f1)] 39 (0,0)) (by (with_reducible repeat (first|refine zah ?_ _|refine zak ?_|refine zag ?_ _));exact BK164.out) hb);have n2_:=zac.mk (zao (by repeat (first|(with_reducible first|exact HB.out|apply zae|apply zab|apply zaf|refine zai ?_ GE162.out|refine zai ?_ GE164.out)|exact HB.out)) hb);clear BK162;clear BK164;clear HB;have BK162:=n0_;have BK164:=n1_;have HB:=n2_;clear n0_ n1_ n2_;(try clear hb);(try clear hb2);(try clear hk);(try clear hi)))
      go_ret
      exact ⟨by first|rfl|(simp [errW_none,errW_some] <;> rfl)|(simp [*,errW_none,errW_some] <;> rfl),by repeat (first|(with_reducible first|exact HB.out|apply zae|apply zab|apply zaf|refine zai ?_ GE162.out|refine zai ?_ GE164.out)|exact HB.out)⟩
   ·replace c6:=Bool.eq_false_iff.mpr c6
    subst c6
    have H1 : (some 1) = some r:=by rw [if_neg (show ¬ (false = true) by decide)] at H;exact H
    clear H
    have H:=H1
    clear H1
    obtain rfl:=Option.some.inj H
    go_enter Try.func28,Try.ntmps28
    go_wp2_with (first|((with_reducible refine zbh (N:=2) rfl ?_);refine zbf ?hg (N:=2) ?hd (cs:=#[.slice A0_0 l0_0.length c0_0,.slice A0_1 l0_1.length c0_1,.slice A0_2 l0_2.length c0_2]) (t:=26) ?hr ?_;(case hd=>rfl);(case hg=>rfl);(case hr=>first|(go_simp;done)|(go_simp;rfl));intro gb162 hg w38 hbox hb;have n0_:=zac.mk (zao (by repeat (first|(with_reducible first|exact HB.out|apply zae|apply zab|apply zaf)|exact HB.out)) hb);have n1_:=zac.mk (hbox);have n2_:=zac.mk ((by rw [hg];exact (zam (by repeat (first|(with_reducible first|exact HB.out|apply zae|apply zab|apply zaf)|exact HB.out))) : w.heap.size ≤ gb162));have n3_:=zac.mk ((by rw [hg];exact (zam (by repeat (first|(with_reducible first|exact HB.out|apply zae|apply zab|apply zaf)|exact HB.out))) : w.heap.size ≤ gb162));clear HB;have HB:=n0_;have BK162:=n1_;have GW162:=n2_;have GE162:=n3_;clear n0_ n1_ n2_ n3_;clear hb hbox hg;have hcz39_0 : w38.cell? ⟨gb162,0,none⟩ = some (.slice A0_0 l0_0.length c0_0):=(zad BK162.out 0).trans rfl;have hcz39_1 : w38.cell? ⟨gb162,1,none⟩ = some (.slice A0_1 l0_1.length c0_1):=(zad BK162.out 1).trans rfl;have hcz39_2 : w38.cell? ⟨gb162,2,none⟩ = some (.slice A0_2 l0_2.length c0_2):=(zad BK162.out 2).trans rfl;have hfz39_0:=zaa BK162.out 0;have hfz39_1:=zaa BK162.out 1;have hfz39_2:=zaa BK162.out 2;have p163 : 0 ≤ (a1 : Int):=of_decide_eq_true (by first|(with_reducible assumption)|assumption);have q163 : a1 < (l0_1.length : Int):=of_decide_eq_true (by first|(with_reducible assumption)|assumption);obtain ⟨ad163,e163,hx163_0,hx163_1⟩:=at_T39 HR0_1.out a1 p163 q163;cases e163;replace hx163_0:=(HB.out.cell (World.block_lt_of_cell? w _ hx163_0)).trans hx163_0;replace hx163_1:=(HB.out.cell (World.block_lt_of_cell? w _ hx163_1)).trans hx163_1;replace p163:=eq_true p163;replace q163:=eq_true q163)|((with_reducible refine zbh (N:=5) rfl ?_);refine zbf ?hg (N:=5) ?hd (cs:=#[.string (⟨#[]⟩ : ByteArray),.string (⟨#[]⟩ : ByteArray)]) (t:=39) ?hr ?_;(case hd=>rfl);(case hg=>rfl);(case hr=>first|(go_simp;done)|(go_simp;rfl));intro gb164 hg w40 hbox hb;have n0_:=zac.mk (zat (g:=gb162) (o:=.cells #[.slice A0_0 l0_0.length c0_0,.slice (some ad163) l0_1.length c0_1,.slice A0_2 l0_2.length c0_2] 26 (0,0)) (by (with_reducible repeat (first|refine zah ?_ _|refine zak ?_|refine zag ?_ _));exact BK162.out) hb);have n1_:=zac.mk (zao (by repeat (first|(with_reducible first|exact HB.out|apply zae|apply zab|apply zaf|refine zai ?_ GE162.out)|exact HB.out)) hb);have n2_:=zac.mk (hbox);have n3_:=zac.mk ((by rw [hg];exact (zam (by repeat (first|(with_reducible first|exact HB.out|apply zae|apply zab|apply zaf|refine zai ?_ GE162.out)|exact HB.out))) : w.heap.size ≤ gb164));have n4_:=zac.mk ((by rw [hg];exact (zam (by repeat (first|(with_reducible first|exact HB.out|apply zae|apply zab|apply zaf|refine zai ?_ GE162.out)|exact HB.out))) : w.heap.size ≤ gb164));have n5_:=zac.mk ((by rw [hg];exact Nat.ne_of_lt (zbq (g:=gb162) (o:=.cells #[.slice A0_0 l0_0.length c0_0,.slice (some ad163) l0_1.length c0_1,.slice A0_2 l0_2.length c0_2] 26 (0,0)) (by (with_reducible repeat (first|refine zah ?_ _|refine zak ?_|refine zag ?_ _));exact BK162.out)) : gb162 ≠ gb164));have n6_:=zac.mk ((by rw [hg];exact Nat.ne_of_gt (zbq (g:=gb162) (o:=.cells #[.slice A0_0 l0_0.length c0_0,.slice (some ad163) l0_1.length c0_1,.slice A0_2 l0_2.length c0_2] 26 (0,0)) (by (with_reducible repeat (first|refine zah ?_ _|refine zak ?_|refine zag ?_ _));exact BK162.out)) : gb164 ≠ gb162));clear BK162;clear HB;have BK162:=n0_;have HB:=n1_;have BK164:=n2_;have GW164:=n3_;have GE164:=n4_;have NB162_164:=n5_;have NB164_162:=n6_;clear n0_ n1_ n2_ n3_ n4_ n5_ n6_;clear hb hbox hg;have hnb41:=NB164_162.out;have hnc41:=NB162_164.out;have hcz42_0 : w40.cell? ⟨gb164,0,none⟩ = some (.string (⟨#[]⟩ : ByteArray)):=(zad BK164.out 0).trans rfl;have hcz42_1 : w40.cell? ⟨gb164,1,none⟩ = some (.string (⟨#[]⟩ : ByteArray)):=(zad BK164.out 1).trans rfl;have hfz42_0:=zaa BK164.out 0;have hfz42_1:=zaa BK164.out 1)|((with_reducible refine zbe (f:=56) rfl ?_);refine zce (some 14) rfl rfl Try.func56 (by kernel_rfl) rfl #[.string ((zbd l0_1 a1).f0)] rfl (by (try simp only [List.map_toArray,List.map_cons,List.map_nil]);first|done|rfl|(simp only [List.length_drop,List.length_take];rfl)) ?_;(with_reducible refine (text_IsAirport.calls ((zbd l0_1 a1).f0) false _ A5.out).mono ?_);rintro e w' ⟨rfl,⟨nd,rfl⟩⟩;refine ⟨_,rfl,?_⟩))
    go_ret
    exact ⟨by first|rfl|(simp [errW_none,errW_some] <;> rfl)|(simp [*,errW_none,errW_some] <;> rfl),by repeat (first|(with_reducible first|exact HB.out|apply zae|apply zab|apply zaf|refine zai ?_ GE162.out|refine zai ?_ GE164.out)|exact HB.out)⟩
  ·rw [if_neg c4] at H
   exact absurd H (by simp)
 ·rw [if_neg c3] at H
  exact absurd H (by simp)
def text_IsCode.f (a0 : ByteArray) : Option (Bool):=if (a0.size : Int) ≥ 1 then (if (a0.size : Int) ≤ 8 then ((text_all_IsCode_1.f a0).bind fun t168=>(some t168)) else (some false)) else (some false)
set_option maxHeartbeats 8000000 in
set_option maxRecDepth 100000 in
theorem text_IsCode.calls (a0 : ByteArray) (r : Bool) (w : World) (h : text_IsCode.f a0 = some r) :
  Calls Try.prog 57 #[.string a0] w fun e w'=>e = .returned (.bool r) ∧ zay w w':=by
 have H : (if (a0.size : Int) ≥ 1 then (if (a0.size : Int) ≤ 8 then ((text_all_IsCode_1.f a0).bind fun t168=>(some t168)) else (some false)) else (some false)) = some r:=h
 clear h
 by_cases c2 : (a0.size : Int) ≥ 1
 ·rw [if_pos c2] at H
  have c2b0 : decide (1 ≤ (a0.size : Int)) = true:=decide_eq_true c2
  have c2b1 : decide (1 ≤ a0.size) = true:=decide_eq_true (by omega)
  clear c2
  by_cases c3 : (a0.size : Int) ≤ 8
  ·rw [if_pos c3] at H
   have c3b0 : decide ((a0.size : Int) ≤ 8) = true:=decide_eq_true c3
   have c3b1 : decide (a0.size ≤ 8) = true:=decide_eq_true (by omega)
   clear c3
   replace H:=Option.bind_eq_some_iff.mp H
   obtain ⟨t168,A40,H⟩:=H
   replace H : (some t168) = some r:=H
   have A4:=zac.mk A40
   clear A40
   obtain rfl:=Option.some.inj H
   go_enter Try.func57,Try.ntmps57
   go_wp2_with (first|(go_at_call 82;(with_reducible refine (text_all_IsCode_1.calls a0 t168 _ A4.out).mono ?_);rintro e w' ⟨rfl,⟨nd,rfl⟩⟩))
   go_ret
   exact ⟨by first|rfl|(simp;done)|(simp [*];done),by repeat (first|exact zay.refl _|apply zay.step)⟩
  ·rw [if_neg c3] at H
   have c3b0 : decide ((a0.size : Int) ≤ 8) = false:=decide_eq_false c3
   have c3b1 : decide (a0.size ≤ 8) = false:=decide_eq_false (by omega)
   clear c3
   obtain rfl:=Option.some.inj H
   go_enter Try.func57,Try.ntmps57
   go_wp2
   go_ret
   exact ⟨by first|rfl|(simp;done)|(simp [*];done),by repeat (first|exact zay.refl _|apply zay.step)⟩
 ·rw [if_neg c2] at H
  have c2b0 : decide (1 ≤ (a0.size : Int)) = false:=decide_eq_false c2
  have c2b1 : decide (1 ≤ a0.size) = false:=decide_eq_false (by omega)
  clear c2
  obtain rfl:=Option.some.inj H
  go_enter Try.func57,Try.ntmps57
  go_wp2
  go_ret
  exact ⟨by first|rfl|(simp;done)|(simp [*];done),by repeat (first|exact zay.refl _|apply zay.step)⟩
def zcb.l0 : Nat → Int → ByteArray → ByteArray → ByteArray → Int → Int → ByteArray → Int → Int → Int → Option (Bool)
 | 0,_,_,_,_,_,_,_,_,_,_=>none
 | k + 1,x7,x170000,x170001,x170002,x170003,x170004,x170005,x170006,x170007,x170008=>if x7 < 3 then (if 0 ≤ x7 then (if (rd [x170006,x170007,x170008] x7) < 0 then (some false) else (if (rd [x170006,x170007,x170008] x7) > 8 then (some false) else (zcb.l0 k (wrap64 (x7 + 1)) x170000 x170001 x170002 x170003 x170004 x170005 x170006 x170007 x170008))) else (none)) else (some true)
def zcb.f (k : Nat) (a0_0 : ByteArray) (a0_1 : ByteArray) (a0_2 : ByteArray) (a0_3 : Int) (a0_4 : Int) (a0_5 : ByteArray) (a0_6 : Int) (a0_7 : Int) (a0_8 : Int) : Option (Bool):=zcb.l0 k 0 a0_0 a0_1 a0_2 a0_3 a0_4 a0_5 a0_6 a0_7 a0_8
set_option maxHeartbeats 8000000 in
set_option maxRecDepth 100000 in
theorem zcb.calls (k : Nat) (a0_0 : ByteArray) (a0_1 : ByteArray) (a0_2 : ByteArray) (a0_3 : Int) (a0_4 : Int) (a0_5 : ByteArray) (a0_6 : Int) (a0_7 : Int) (a0_8 : Int) (r : Bool) (w : World) (h : zcb.f k a0_0 a0_1 a0_2 a0_3 a0_4 a0_5 a0_6 a0_7 a0_8 = some r) :
  Calls Try.prog 58 #[.agg #[.string a0_0,.string a0_1,.string a0_2,.int .i64 a0_3,.int .i64 a0_4,.string a0_5,.int .i64 a0_6,.int .i64 a0_7,.int .i64 a0_8]] w fun e w'=>e = .returned (.bool r) ∧ Below w.heap.size w w':=by
 have hu36:=Try.underlying36
 have hu34:=Try.underlying34
 have HB:=zac.mk (Below.refl w.heap.size w)
 have H : (zcb.l0 k 0 a0_0 a0_1 a0_2 a0_3 a0_4 a0_5 a0_6 a0_7 a0_8) = some r:=h
 clear h
 have H':=zac.mk H
 clear H
 go_enter Try.func58,Try.ntmps58
 go_wp2_with (first|((with_reducible refine zbh (N:=1) rfl ?_);refine zbf ?hg (N:=1) ?hd (cs:=#[.string a0_0,.string a0_1,.string a0_2,.int .i64 a0_3,.int .i64 a0_4,.string a0_5,.int .i64 a0_6,.int .i64 a0_7,.int .i64 a0_8]) (t:=36) ?hr ?_;(case hd=>rfl);(case hg=>rfl);(case hr=>first|(go_simp;done)|(go_simp;rfl));intro gb169 hg w2 hbox hb;have n0_:=zac.mk (zao (by repeat (first|(with_reducible first|exact HB.out|apply zae|apply zab|apply zaf)|exact HB.out)) hb);have n1_:=zac.mk (hbox);have n2_:=zac.mk ((by rw [hg];exact (zam (by repeat (first|(with_reducible first|exact HB.out|apply zae|apply zab|apply zaf)|exact HB.out))) : w.heap.size ≤ gb169));have n3_:=zac.mk ((by rw [hg];exact (zam (by repeat (first|(with_reducible first|exact HB.out|apply zae|apply zab|apply zaf)|exact HB.out))) : w.heap.size ≤ gb169));clear HB;have HB:=n0_;have BK169:=n1_;have GW169:=n2_;have GE169:=n3_;clear n0_ n1_ n2_ n3_;clear hb hbox hg;have hcz3_0 : w2.cell? ⟨gb169,0,none⟩ = some (.string a0_0):=(zad BK169.out 0).trans rfl;have hcz3_1 : w2.cell? ⟨gb169,1,none⟩ = some (.string a0_1):=(zad BK169.out 1).trans rfl;have hcz3_2 : w2.cell? ⟨gb169,2,none⟩ = some (.string a0_2):=(zad BK169.out 2).trans rfl;have hcz3_3 : w2.cell? ⟨gb169,3,none⟩ = some (.int .i64 a0_3):=(zad BK169.out 3).trans rfl;have hcz3_4 : w2.cell? ⟨gb169,4,none⟩ = some (.int .i64 a0_4):=(zad BK169.out 4).trans rfl;have hcz3_5 : w2.cell? ⟨gb169,5,none⟩ = some (.string a0_5):=(zad BK169.out 5).trans rfl;have hcz3_6 : w2.cell? ⟨gb169,6,none⟩ = some (.int .i64 a0_6):=(zad BK169.out 6).trans rfl;have hcz3_7 : w2.cell? ⟨gb169,7,none⟩ = some (.int .i64 a0_7):=(zad BK169.out 7).trans rfl;have hcz3_8 : w2.cell? ⟨gb169,8,none⟩ = some (.int .i64 a0_8):=(zad BK169.out 8).trans rfl;have hfz3_0:=zaa BK169.out 0;have hfz3_1:=zaa BK169.out 1;have hfz3_2:=zaa BK169.out 2;have hfz3_3:=zaa BK169.out 3;have hfz3_4:=zaa BK169.out 4;have hfz3_5:=zaa BK169.out 5;have hfz3_6:=zaa BK169.out 6;have hfz3_7:=zaa BK169.out 7;have hfz3_8:=zaa BK169.out 8))
 go_loopg [7] k (fun kq v7 w'=>∃ (x7_1 : Int),v7 = .int .i64 x7_1 ∧ zac (zcb.l0 kq x7_1 a0_0 a0_1 a0_2 a0_3 a0_4 a0_5 a0_6 a0_7 a0_8 = some r) ∧ zac (kq ≤ k) ∧ zac (w'.heap[gb169]? = some (.cells #[.string a0_0,.string a0_1,.string a0_2,.int .i64 a0_3,.int .i64 a0_4,.string a0_5,.int .i64 a0_6,.int .i64 a0_7,.int .i64 a0_8] 36 (0,0))) ∧ zac (Below w.heap.size w w'))
 case atStart=>exact ⟨(0),(by first|rfl|(simp;done)|(simp [*];done)),H',⟨Nat.le_refl _⟩,⟨by (with_reducible repeat (first|refine zah ?_ _|refine zak ?_|refine zag ?_ _));exact BK169.out⟩,⟨by repeat (first|(with_reducible first|exact HB.out|apply zae|apply zab|apply zaf|refine zai ?_ GE169.out)|exact HB.out)⟩⟩
 case round =>
  clear H'
  try clear hcz3_0
  try clear hcz3_1
  try clear hcz3_2
  try clear hcz3_3
  try clear hcz3_4
  try clear hcz3_5
  try clear hcz3_6
  try clear hcz3_7
  try clear hcz3_8
  try clear hfz3_0
  try clear hfz3_1
  try clear hfz3_2
  try clear hfz3_3
  try clear hfz3_4
  try clear hfz3_5
  try clear hfz3_6
  try clear hfz3_7
  try clear hfz3_8
  obtain ⟨x7_1,rfl,HA,HK1,BK169,HB⟩:=hrel
  cases gk with
  | zero=>exact absurd HA.out (by simp [zcb.l0])
  | succ k1 =>
   have H:=HA.out
   clear HA
   simp only [zcb.l0] at H
   by_cases c4 : x7_1 < 3
   ·rw [if_pos c4] at H
    have c4b0 : decide (x7_1 < 3) = true:=decide_eq_true c4
    clear c4
    by_cases c5 : 0 ≤ x7_1
    ·rw [if_pos c5] at H
     have c5b0 : decide (0 ≤ x7_1) = true:=decide_eq_true c5
     clear c5
     by_cases c6 : (rd [a0_6,a0_7,a0_8] x7_1) < 0
     ·rw [if_pos c6] at H
      have c6b0 : decide ((rd [a0_6,a0_7,a0_8] x7_1) < 0) = true:=decide_eq_true c6
      clear c6
      obtain rfl:=Option.some.inj H
      have hai7:=fun (W_ : World)=>ar_run (P:=Try.prog) Try.underlying34 Try.underlying3 (by kernel_rfl) [a0_6,a0_7,a0_8] x7_1 rfl (of_decide_eq_true (by first|(with_reducible assumption)|assumption)) (of_decide_eq_true (by first|(with_reducible assumption)|assumption)) W_;simp only [List.map_cons,List.map_nil] at hai7
      go_wp2
      go_ret
      exact ⟨by first|rfl|(simp [errW_none,errW_some] <;> rfl)|(simp [*,errW_none,errW_some] <;> rfl),by repeat (first|(with_reducible first|exact HB.out|apply zae|apply zab|apply zaf|refine zai ?_ GE169.out)|exact HB.out)⟩
     ·rw [if_neg c6] at H
      have c6b0 : decide ((rd [a0_6,a0_7,a0_8] x7_1) < 0) = false:=decide_eq_false c6
      clear c6
      by_cases c8 : (rd [a0_6,a0_7,a0_8] x7_1) > 8
      ·rw [if_pos c8] at H
       have c8b0 : decide (8 < (rd [a0_6,a0_7,a0_8] x7_1)) = true:=decide_eq_true c8
       clear c8
       obtain rfl:=Option.some.inj H
       have hai9:=fun (W_ : World)=>ar_run (P:=Try.prog) Try.underlying34 Try.underlying3 (by kernel_rfl) [a0_6,a0_7,a0_8] x7_1 rfl (of_decide_eq_true (by first|(with_reducible assumption)|assumption)) (of_decide_eq_true (by first|(with_reducible assumption)|assumption)) W_;simp only [List.map_cons,List.map_nil] at hai9
       go_wp2
       go_ret
       exact ⟨by first|rfl|(simp [errW_none,errW_some] <;> rfl)|(simp [*,errW_none,errW_some] <;> rfl),by repeat (first|(with_reducible first|exact HB.out|apply zae|apply zab|apply zaf|refine zai ?_ GE169.out)|exact HB.out)⟩
      ·rw [if_neg c8] at H
       have c8b0 : decide (8 < (rd [a0_6,a0_7,a0_8] x7_1)) = false:=decide_eq_false c8
       clear c8
       have H':=zac.mk H
       clear H
       have hai10:=fun (W_ : World)=>ar_run (P:=Try.prog) Try.underlying34 Try.underlying3 (by kernel_rfl) [a0_6,a0_7,a0_8] x7_1 rfl (of_decide_eq_true (by first|(with_reducible assumption)|assumption)) (of_decide_eq_true (by first|(with_reducible assumption)|assumption)) W_;simp only [List.map_cons,List.map_nil] at hai10
       go_wp2
       go_roundg k1
       case measure=>have:=HK1.out;omega
       case rel=>exact ⟨(wrap64 (x7_1 + 1)),(by first|rfl|(simp;done)|(simp [*];done)),H',⟨by have:=HK1.out;omega⟩,⟨by (with_reducible repeat (first|refine zah ?_ _|refine zak ?_|refine zag ?_ _));exact BK169.out⟩,⟨by repeat (first|(with_reducible first|exact HB.out|apply zae|apply zab|apply zaf|refine zai ?_ GE169.out)|exact HB.out)⟩⟩
    ·rw [if_neg c5] at H
     exact absurd H (by simp)
   ·rw [if_neg c4] at H
    have c4b0 : decide (x7_1 < 3) = false:=decide_eq_false c4
    clear c4
    obtain rfl:=Option.some.inj H
    go_wp2
    go_ret
    exact ⟨by first|rfl|(simp [errW_none,errW_some] <;> rfl)|(simp [*,errW_none,errW_some] <;> rfl),by repeat (first|(with_reducible first|exact HB.out|apply zae|apply zab|apply zaf|refine zai ?_ GE169.out)|exact HB.out)⟩
end Go.Proofs.Ytepnddmalheoiaa.Q
