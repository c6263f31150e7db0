/- For timetableSpoilt_holds: texts of this session and words of the kit's print, those alone that the proof uses. -/
import Derived.Test.YtepnddmalheoiaaProg
import Derived.Below
import Derived.Deep.Draws
import Derived.Deep.AppendLies
import Derived.Maps.AppendAt
import Derived.OwnWalk
import Derived.Laws.BytesArg
import Derived.Laws.MakeOwn
import Derived.Laws.OwnMore
import Derived.Deep.OwnRows
import Derived.Tactics
import Derived.Lib.ConvBytes
import Derived.Laws.Slices
import Derived.WalkKit
import Derived.KernelRfl
import Derived.RowKit3
import Derived.Deep.LoopGhost
import Derived.Deep.QuietTactic
import Derived.BigQuiet
import Derived.WideLaws
import Derived.Deep.DeepCutAuto
import Derived.Deep.CutBlock
import Derived.Deep.RegionHeld3
import Derived.Laws.Rows
import Derived.Lib.AppendStr
import Derived.ArgAppend
import Derived.Laws.IdiomCopy
import Derived.OrdersHeld
import Derived.Laws.BitsLemmas
import Derived.RowKit
import Derived.Deep.WholeRow
import Derived.Laws.ResultCell
import Derived.Lib.SlBytesConst
import Derived.Outline
import Derived.Laws.StructEq
import Derived.Test.YtepnddmalheoiaaSP0
import Derived.Test.YtepnddmalheoiaaSP1
import Derived.Test.YtepnddmalheoiaaSP2
import Derived.Test.YtepnddmalheoiaaSP3
set_option linter.unusedVariables false
set_option linter.unusedSimpArgs false
namespace Go.Proofs.Ytepnddmalheoiaa.Q
open Go.Proofs.Ytepnddmalheoiaa.H
open Go.RowKit Go.Proofs.YtepnddmalheoiaaW.PrintWords Go.Proofs.YtepnddmalheoiaaW.PrintLast Go.Proofs.YtepnddmalheoiaaW.PrintMore
attribute [local go_sem] str_leq str_geq str_gtr max2_int min2_int max_two min_two max_three min_three max_four min_four   -- for this text's walks alone
def zch.f (a0 : Int) : Option (Bool):=if a0 ≥ 97 then (some (decide (a0 ≤ 122))) else (some false)
set_option maxHeartbeats 8000000 in
set_option maxRecDepth 100000 in
theorem zch.calls (a0 : Int) (r : Bool) (w : World) (h : zch.f a0 = some r) :
  Calls Try.prog 87 #[.int .u8 a0] w fun e w'=>e = .returned (.bool r) ∧ zay w w':=by
 have H : (if a0 ≥ 97 then (some (decide (a0 ≤ 122))) else (some false)) = some r:=h
 clear h
 by_cases c2 : a0 ≥ 97
 ·rw [if_pos c2] at H
  have c2b0 : decide (97 ≤ a0) = true:=decide_eq_true c2
  clear c2
  obtain rfl:=Option.some.inj H
  go_enter Try.func87,Try.ntmps87
  go_wp2
  go_ret
  exact ⟨by first|rfl|(simp;done)|(simp [*];done),by repeat (first|exact zay.refl _|apply zay.step)⟩
 ·rw [if_neg c2] at H
  have c2b0 : decide (97 ≤ a0) = false:=decide_eq_false c2
  clear c2
  obtain rfl:=Option.some.inj H
  go_enter Try.func87,Try.ntmps87
  go_wp2
  go_ret
  exact ⟨by first|rfl|(simp;done)|(simp [*];done),by repeat (first|exact zay.refl _|apply zay.step)⟩
def zby.f (a0 : Int) : Option (Bool):=if a0 ≥ 48 then (some (decide (a0 ≤ 57))) else (some false)
set_option maxHeartbeats 8000000 in
set_option maxRecDepth 100000 in
theorem zby.calls (a0 : Int) (r : Bool) (w : World) (h : zby.f a0 = some r) :
  Calls Try.prog 88 #[.int .u8 a0] w fun e w'=>e = .returned (.bool r) ∧ zay w w':=by
 have H : (if a0 ≥ 48 then (some (decide (a0 ≤ 57))) else (some false)) = some r:=h
 clear h
 by_cases c2 : a0 ≥ 48
 ·rw [if_pos c2] at H
  have c2b0 : decide (48 ≤ a0) = true:=decide_eq_true c2
  clear c2
  obtain rfl:=Option.some.inj H
  go_enter Try.func88,Try.ntmps88
  go_wp2
  go_ret
  exact ⟨by first|rfl|(simp;done)|(simp [*];done),by repeat (first|exact zay.refl _|apply zay.step)⟩
 ·rw [if_neg c2] at H
  have c2b0 : decide (48 ≤ a0) = false:=decide_eq_false c2
  clear c2
  obtain rfl:=Option.some.inj H
  go_enter Try.func88,Try.ntmps88
  go_wp2
  go_ret
  exact ⟨by first|rfl|(simp;done)|(simp [*];done),by repeat (first|exact zay.refl _|apply zay.step)⟩
mutual
def zas.j0 : Nat → ByteArray → Bool → Option (Bool)
 | 0,_,_=>none
 | k + 1,x0,x17=>if x17 = true then (some false) else (zas.l0 k x0 0)
def zas.l0 : Nat → ByteArray → Int → Option (Bool)
 | 0,_,_=>none
 | k + 1,x0,x3=>if x3 < (x0.size : Int) then (if 0 ≤ x3 then ((zch.f (bt x0 x3)).bind fun t102=>(if t102 = true then (zas.l0 k x0 (wrap64 (x3 + 1))) else ((zby.f (bt x0 x3)).bind fun t103=>(if t103 = true then (zas.l0 k x0 (wrap64 (x3 + 1))) else (if (bt x0 x3) = 95 then (zas.l0 k x0 (wrap64 (x3 + 1))) else (some false)))))) else (none)) else (some true)
end
def zas.f (k : Nat) (a0 : ByteArray) : Option (Bool):=if (a0.size : Int) < 1 then (zas.j0 k a0 true) else (if (a0.size : Int) > 16 then (zas.j0 k a0 true) else (if 0 < (a0.size : Int) then ((zch.f (bt a0 0)).bind fun t101=>(zas.j0 k a0 (!t101))) else (none)))
set_option maxHeartbeats 8000000 in
set_option maxRecDepth 100000 in
theorem zas.calls (k : Nat) (a0 : ByteArray) (r : Bool) (w : World) (h : zas.f k a0 = some r) :
  Calls Try.prog 59 #[.string a0] w fun e w'=>e = .returned (.bool r) ∧ zay w w':=by
 have H : (if (a0.size : Int) < 1 then (zas.j0 k a0 true) else (if (a0.size : Int) > 16 then (zas.j0 k a0 true) else (if 0 < (a0.size : Int) then ((zch.f (bt a0 0)).bind fun t101=>(zas.j0 k a0 (!t101))) else (none)))) = some r:=h
 clear h
 have HC2:=zac.mk H
 clear H
 go_enter Try.func59,Try.ntmps59
 go_upto_region 1 with (fail)
 go_cut [17] (fun v17 wc=>∃ (kq : Nat) (x17_1 : Bool),v17 = .bool x17_1 ∧ zac (zas.j0 kq a0 x17_1 = some r) ∧ zac (kq ≤ k) ∧ zay w wc)
 case first =>
  have H:=HC2.out
  clear HC2
  by_cases c3 : (a0.size : Int) < 1
  ·rw [if_pos c3] at H
   have c3b0 : decide ((a0.size : Int) < 1) = true:=decide_eq_true c3
   have c3b1 : decide (a0.size < 1) = true:=decide_eq_true (by omega)
   clear c3
   (first|rw [c3b0]|(simp only [i64_w,i32_w];rw [c3b0])|skip)
   have H':=zac.mk H
   clear H
   go_wp2
   go_meet
   case rel=>exact ⟨_,(true),(by first|rfl|(simp;done)|(simp [*];done)),H',⟨by first|omega|exact Nat.le_refl _⟩,by repeat (first|exact zay.refl _|apply zay.step)⟩
  ·rw [if_neg c3] at H
   have c3b0 : decide ((a0.size : Int) < 1) = false:=decide_eq_false c3
   have c3b1 : decide (a0.size < 1) = false:=decide_eq_false (by omega)
   clear c3
   (first|rw [c3b0]|(simp only [i64_w,i32_w];rw [c3b0])|skip)
   by_cases c4 : (a0.size : Int) > 16
   ·rw [if_pos c4] at H
    have c4b0 : decide (16 < (a0.size : Int)) = true:=decide_eq_true c4
    have c4b1 : decide (16 < a0.size) = true:=decide_eq_true (by omega)
    clear c4
    have H':=zac.mk H
    clear H
    go_wp2
    go_meet
    case rel=>exact ⟨_,(true),(by first|rfl|(simp;done)|(simp [*];done)),H',⟨by first|omega|exact Nat.le_refl _⟩,by repeat (first|exact zay.refl _|apply zay.step)⟩
   ·rw [if_neg c4] at H
    have c4b0 : decide (16 < (a0.size : Int)) = false:=decide_eq_false c4
    have c4b1 : decide (16 < a0.size) = false:=decide_eq_false (by omega)
    clear c4
    by_cases c5 : 0 < (a0.size : Int)
    ·rw [if_pos c5] at H
     have c5b0 : decide (0 < (a0.size : Int)) = true:=decide_eq_true c5
     have c5b1 : decide (0 < a0.size) = true:=decide_eq_true (by omega)
     clear c5
     replace H:=Option.bind_eq_some_iff.mp H
     obtain ⟨t101,A70,H⟩:=H
     replace H : (zas.j0 k a0 (!t101)) = some r:=H
     have A7:=zac.mk A70
     clear A70
     have H':=zac.mk H
     clear H
     have p6 : 0 ≤ (0 : Int):=(by omega)
     have q6 : 0 < a0.size:=(by have : (0 : Int) < (a0.size : Int):=of_decide_eq_true (by first|(with_reducible assumption)|assumption);omega)
     have hx6 : ∀ h : 0 < a0.size,((a0[0]'h).toNat : Int) = bt a0 0:=bt_at a0 0
     clear p6
     have qi6 : (0 < (a0.size : Int)) = True:=eq_true (of_decide_eq_true (by first|(with_reducible assumption)|assumption))
     replace q6:=eq_true q6
     go_wp2_with (first|(go_at_call 87;(with_reducible refine (zch.calls (bt a0 0) t101 _ A7.out).mono ?_);rintro e w' ⟨rfl,⟨nd,rfl⟩⟩))
     go_meet
     case rel=>exact ⟨_,(!t101),(by first|rfl|(simp;done)|(simp [*];done)),H',⟨by first|omega|exact Nat.le_refl _⟩,by repeat (first|exact zay.refl _|apply zay.step)⟩
    ·rw [if_neg c5] at H
     exact absurd H (by simp)
 case rest =>
  clear HC2
  obtain ⟨kq,x17_1,rfl,HA,HJ1,⟨mc1,rfl⟩⟩:=hcut
  cases kq with
  | zero=>exact absurd HA.out (by simp [zas.j0])
  | succ kj1 =>
   have H:=HA.out
   clear HA
   simp only [zas.j0] at H
   by_cases c8 : x17_1 = true
   ·subst c8
    have H1 : (some false) = some r:=by rw [if_pos rfl] at H;exact H
    clear H
    have H:=H1
    clear H1
    obtain rfl:=Option.some.inj H
    go_wp2
    go_ret
    exact ⟨by first|rfl|(simp;done)|(simp [*];done),by repeat (first|exact zay.refl _|apply zay.step)⟩
   ·replace c8:=Bool.eq_false_iff.mpr c8
    subst c8
    have H1 : (zas.l0 kj1 a0 0) = some r:=by rw [if_neg (show ¬ (false = true) by decide)] at H;exact H
    clear H
    have H:=H1
    clear H1
    have H':=zac.mk H
    clear H
    go_wp2
    go_loopg [3] kj1 (fun kq v3 w'=>∃ (x3_2 : Int),v3 = .int .i64 x3_2 ∧ zac (zas.l0 kq a0 x3_2 = some r) ∧ zac (kq ≤ kj1) ∧ zay w w')
    case atStart=>exact ⟨(0),(by first|rfl|(simp;done)|(simp [*];done)),H',⟨Nat.le_refl _⟩,by repeat (first|exact zay.refl _|apply zay.step)⟩
    case round =>
     clear H'
     try clear c8
     obtain ⟨x3_2,rfl,HA,HK2,⟨m2,rfl⟩⟩:=hrel
     cases gk with
     | zero=>exact absurd HA.out (by simp [zas.l0])
     | succ k2 =>
      have H:=HA.out
      clear HA
      simp only [zas.l0] at H
      by_cases c9 : x3_2 < (a0.size : Int)
      ·rw [if_pos c9] at H
       have c9b0 : decide (x3_2 < (a0.size : Int)) = true:=decide_eq_true c9
       clear c9
       by_cases c10 : 0 ≤ x3_2
       ·rw [if_pos c10] at H
        have c10b0 : decide (0 ≤ x3_2) = true:=decide_eq_true c10
        clear c10
        replace H:=Option.bind_eq_some_iff.mp H
        obtain ⟨t102,A120,H⟩:=H
        replace H : (if t102 = true then (zas.l0 k2 a0 (wrap64 (x3_2 + 1))) else ((zby.f (bt a0 x3_2)).bind fun t103=>(if t103 = true then (zas.l0 k2 a0 (wrap64 (x3_2 + 1))) else (if (bt a0 x3_2) = 95 then (zas.l0 k2 a0 (wrap64 (x3_2 + 1))) else (some false))))) = some r:=H
        have A12:=zac.mk A120
        clear A120
        by_cases c13 : t102 = true
        ·subst c13
         have H1 : (zas.l0 k2 a0 (wrap64 (x3_2 + 1))) = some r:=by rw [if_pos rfl] at H;exact H
         clear H
         have H:=H1
         clear H1
         have H':=zac.mk H
         clear H
         have p11 : 0 ≤ (x3_2 : Int):=of_decide_eq_true (by first|(with_reducible assumption)|assumption)
         have q11 : x3_2 < (a0.size : Int):=of_decide_eq_true (by first|(with_reducible assumption)|assumption)
         have hx11:=bt_at a0 x3_2
         replace p11:=eq_true p11
         replace q11:=eq_true q11
         go_wp2_with (first|((with_reducible refine zbe (f:=87) rfl ?_);refine zce (some 27) rfl rfl Try.func87 (by kernel_rfl) rfl #[.int .u8 (bt a0 x3_2)] rfl (by (try simp only [List.map_toArray,List.map_cons,List.map_nil]);first|done|rfl|(simp only [List.length_drop,List.length_take];rfl)) ?_;(with_reducible refine (zch.calls (bt a0 x3_2) true _ A12.out).mono ?_);rintro e w' ⟨rfl,⟨nd,rfl⟩⟩;refine ⟨_,rfl,?_⟩))
         go_roundg k2
         case measure=>have:=HJ1.out;have:=HK2.out;omega
         case rel=>exact ⟨(wrap64 (x3_2 + 1)),(by first|rfl|(simp;done)|(simp [*];done)),H',⟨by have:=HJ1.out;have:=HK2.out;omega⟩,by repeat (first|exact zay.refl _|apply zay.step)⟩
        ·replace c13:=Bool.eq_false_iff.mpr c13
         subst c13
         have H1 : ((zby.f (bt a0 x3_2)).bind fun t103=>(if t103 = true then (zas.l0 k2 a0 (wrap64 (x3_2 + 1))) else (if (bt a0 x3_2) = 95 then (zas.l0 k2 a0 (wrap64 (x3_2 + 1))) else (some false)))) = some r:=by rw [if_neg (show ¬ (false = true) by decide)] at H;exact H
         clear H
         have H:=H1
         clear H1
         replace H:=Option.bind_eq_some_iff.mp H
         obtain ⟨t103,A150,H⟩:=H
         replace H : (if t103 = true then (zas.l0 k2 a0 (wrap64 (x3_2 + 1))) else (if (bt a0 x3_2) = 95 then (zas.l0 k2 a0 (wrap64 (x3_2 + 1))) else (some false))) = some r:=H
         have A15:=zac.mk A150
         clear A150
         by_cases c16 : t103 = true
         ·subst c16
          have H1 : (zas.l0 k2 a0 (wrap64 (x3_2 + 1))) = some r:=by rw [if_pos rfl] at H;exact H
          clear H
          have H:=H1
          clear H1
          have H':=zac.mk H
          clear H
          have p11 : 0 ≤ (x3_2 : Int):=of_decide_eq_true (by first|(with_reducible assumption)|assumption)
          have q11 : x3_2 < (a0.size : Int):=of_decide_eq_true (by first|(with_reducible assumption)|assumption)
          have hx11:=bt_at a0 x3_2
          replace p11:=eq_true p11
          replace q11:=eq_true q11
          go_wp2_with (first|((with_reducible refine zbe (f:=87) rfl ?_);refine zce (some 27) rfl rfl Try.func87 (by kernel_rfl) rfl #[.int .u8 (bt a0 x3_2)] rfl (by (try simp only [List.map_toArray,List.map_cons,List.map_nil]);first|done|rfl|(simp only [List.length_drop,List.length_take];rfl)) ?_;(with_reducible refine (zch.calls (bt a0 x3_2) false _ A12.out).mono ?_);rintro e w' ⟨rfl,⟨nd,rfl⟩⟩;refine ⟨_,rfl,?_⟩;have p14 : 0 ≤ (x3_2 : Int):=of_decide_eq_true (by first|(with_reducible assumption)|assumption);have q14 : x3_2 < (a0.size : Int):=of_decide_eq_true (by first|(with_reducible assumption)|assumption);have hx14:=bt_at a0 x3_2;replace p14:=eq_true p14;replace q14:=eq_true q14)|(go_at_call 88;(with_reducible refine (zby.calls (bt a0 x3_2) true _ A15.out).mono ?_);rintro e w' ⟨rfl,⟨nd,rfl⟩⟩))
          go_roundg k2
          case measure=>have:=HJ1.out;have:=HK2.out;omega
          case rel=>exact ⟨(wrap64 (x3_2 + 1)),(by first|rfl|(simp;done)|(simp [*];done)),H',⟨by have:=HJ1.out;have:=HK2.out;omega⟩,by repeat (first|exact zay.refl _|apply zay.step)⟩
         ·replace c16:=Bool.eq_false_iff.mpr c16
          subst c16
          have H1 : (if (bt a0 x3_2) = 95 then (zas.l0 k2 a0 (wrap64 (x3_2 + 1))) else (some false)) = some r:=by rw [if_neg (show ¬ (false = true) by decide)] at H;exact H
          clear H
          have H:=H1
          clear H1
          by_cases c18 : (bt a0 x3_2) = 95
          ·rw [if_pos c18] at H
           have c18b0 : ((bt a0 x3_2) == 95) = true:=beq_iff_eq.mpr c18
           have c18b1 : ((bt a0 x3_2) != 95) = false:=bne_eq_false_iff_eq.mpr c18
           clear c18
           have H':=zac.mk H
           clear H
           have p11 : 0 ≤ (x3_2 : Int):=of_decide_eq_true (by first|(with_reducible assumption)|assumption)
           have q11 : x3_2 < (a0.size : Int):=of_decide_eq_true (by first|(with_reducible assumption)|assumption)
           have hx11:=bt_at a0 x3_2
           replace p11:=eq_true p11
           replace q11:=eq_true q11
           go_wp2_with (first|((with_reducible refine zbe (f:=87) rfl ?_);refine zce (some 27) rfl rfl Try.func87 (by kernel_rfl) rfl #[.int .u8 (bt a0 x3_2)] rfl (by (try simp only [List.map_toArray,List.map_cons,List.map_nil]);first|done|rfl|(simp only [List.length_drop,List.length_take];rfl)) ?_;(with_reducible refine (zch.calls (bt a0 x3_2) false _ A12.out).mono ?_);rintro e w' ⟨rfl,⟨nd,rfl⟩⟩;refine ⟨_,rfl,?_⟩;have p14 : 0 ≤ (x3_2 : Int):=of_decide_eq_true (by first|(with_reducible assumption)|assumption);have q14 : x3_2 < (a0.size : Int):=of_decide_eq_true (by first|(with_reducible assumption)|assumption);have hx14:=bt_at a0 x3_2;replace p14:=eq_true p14;replace q14:=eq_true q14)|(go_at_call 88;(with_reducible refine (zby.calls (bt a0 x3_2) false _ A15.out).mono ?_);rintro e w' ⟨rfl,⟨nd,rfl⟩⟩;have p17 : 0 ≤ (x3_2 : Int):=of_decide_eq_true (by first|(with_reducible assumption)|assumption);have q17 : x3_2 < (a0.size : Int):=of_decide_eq_true (by first|(with_reducible assumption)|assumption);have hx17:=bt_at a0 x3_2;replace p17:=eq_true p17;replace q17:=eq_true q17))
           go_roundg k2
           case measure=>have:=HJ1.out;have:=HK2.out;omega
           case rel=>exact ⟨(wrap64 (x3_2 + 1)),(by first|rfl|(simp;done)|(simp [*];done)),H',⟨by have:=HJ1.out;have:=HK2.out;omega⟩,by repeat (first|exact zay.refl _|apply zay.step)⟩
          ·rw [if_neg c18] at H
           have c18b0 : ((bt a0 x3_2) == 95) = false:=beq_eq_false_iff_ne.mpr c18
           have c18b1 : ((bt a0 x3_2) != 95) = true:=bne_iff_ne.mpr c18
           obtain rfl:=Option.some.inj H
           have p11 : 0 ≤ (x3_2 : Int):=of_decide_eq_true (by first|(with_reducible assumption)|assumption)
           have q11 : x3_2 < (a0.size : Int):=of_decide_eq_true (by first|(with_reducible assumption)|assumption)
           have hx11:=bt_at a0 x3_2
           replace p11:=eq_true p11
           replace q11:=eq_true q11
           go_wp2_with (first|((with_reducible refine zbe (f:=87) rfl ?_);refine zce (some 27) rfl rfl Try.func87 (by kernel_rfl) rfl #[.int .u8 (bt a0 x3_2)] rfl (by (try simp only [List.map_toArray,List.map_cons,List.map_nil]);first|done|rfl|(simp only [List.length_drop,List.length_take];rfl)) ?_;(with_reducible refine (zch.calls (bt a0 x3_2) false _ A12.out).mono ?_);rintro e w' ⟨rfl,⟨nd,rfl⟩⟩;refine ⟨_,rfl,?_⟩;have p14 : 0 ≤ (x3_2 : Int):=of_decide_eq_true (by first|(with_reducible assumption)|assumption);have q14 : x3_2 < (a0.size : Int):=of_decide_eq_true (by first|(with_reducible assumption)|assumption);have hx14:=bt_at a0 x3_2;replace p14:=eq_true p14;replace q14:=eq_true q14)|(go_at_call 88;(with_reducible refine (zby.calls (bt a0 x3_2) false _ A15.out).mono ?_);rintro e w' ⟨rfl,⟨nd,rfl⟩⟩;have p17 : 0 ≤ (x3_2 : Int):=of_decide_eq_true (by first|(with_reducible assumption)|assumption);have q17 : x3_2 < (a0.size : Int):=of_decide_eq_true (by first|(with_reducible assumption)|assumption);have hx17:=bt_at a0 x3_2;replace p17:=eq_true p17;replace q17:=eq_true q17))
           go_ret
           exact ⟨by first|rfl|(simp;done)|(simp [*];done),by repeat (first|exact zay.refl _|apply zay.step)⟩
       ·rw [if_neg c10] at H
        exact absurd H (by simp)
      ·rw [if_neg c9] at H
       have c9b0 : decide (x3_2 < (a0.size : Int)) = false:=decide_eq_false c9
       clear c9
       obtain rfl:=Option.some.inj H
       go_wp2
       go_ret
       exact ⟨by first|rfl|(simp;done)|(simp [*];done),by repeat (first|exact zay.refl _|apply zay.step)⟩
def zbo.f (a0 : Int) : Option (Bool):=if a0 ≥ (-840) then (some (decide (a0 ≤ 840))) else (some false)
set_option maxHeartbeats 8000000 in
set_option maxRecDepth 100000 in
theorem zbo.calls (a0 : Int) (r : Bool) (w : World) (h : zbo.f a0 = some r) :
  Calls Try.prog 60 #[.int .i64 a0] w fun e w'=>e = .returned (.bool r) ∧ zay w w':=by
 have H : (if a0 ≥ (-840) then (some (decide (a0 ≤ 840))) else (some false)) = some r:=h
 clear h
 by_cases c2 : a0 ≥ (-840)
 ·rw [if_pos c2] at H
  have c2b0 : decide ((-840) ≤ a0) = true:=decide_eq_true c2
  clear c2
  obtain rfl:=Option.some.inj H
  go_enter Try.func60,Try.ntmps60
  go_wp2
  go_ret
  exact ⟨by first|rfl|(simp;done)|(simp [*];done),by repeat (first|exact zay.refl _|apply zay.step)⟩
 ·rw [if_neg c2] at H
  have c2b0 : decide ((-840) ≤ a0) = false:=decide_eq_false c2
  clear c2
  obtain rfl:=Option.some.inj H
  go_enter Try.func60,Try.ntmps60
  go_wp2
  go_ret
  exact ⟨by first|rfl|(simp;done)|(simp [*];done),by repeat (first|exact zay.refl _|apply zay.step)⟩
def zcg.f (a0 : Int) : Option (Bool):=if a0 ≥ 0 then (some (decide (a0 < 52596000))) else (some false)
set_option maxHeartbeats 8000000 in
set_option maxRecDepth 100000 in
theorem zcg.calls (a0 : Int) (r : Bool) (w : World) (h : zcg.f a0 = some r) :
  Calls Try.prog 61 #[.int .i64 a0] w fun e w'=>e = .returned (.bool r) ∧ zay w w':=by
 have H : (if a0 ≥ 0 then (some (decide (a0 < 52596000))) else (some false)) = some r:=h
 clear h
 by_cases c2 : a0 ≥ 0
 ·rw [if_pos c2] at H
  have c2b0 : decide (0 ≤ a0) = true:=decide_eq_true c2
  clear c2
  obtain rfl:=Option.some.inj H
  go_enter Try.func61,Try.ntmps61
  go_wp2
  go_ret
  exact ⟨by first|rfl|(simp;done)|(simp [*];done),by repeat (first|exact zay.refl _|apply zay.step)⟩
 ·rw [if_neg c2] at H
  have c2b0 : decide (0 ≤ a0) = false:=decide_eq_false c2
  clear c2
  obtain rfl:=Option.some.inj H
  go_enter Try.func61,Try.ntmps61
  go_wp2
  go_ret
  exact ⟨by first|rfl|(simp;done)|(simp [*];done),by repeat (first|exact zay.refl _|apply zay.step)⟩
end Go.Proofs.Ytepnddmalheoiaa.Q
namespace Go.Proofs.Ytepnddmalheoiaa.Q
open Go.Proofs.Ytepnddmalheoiaa.H
open Go.RowKit Go.Proofs.YtepnddmalheoiaaW.PrintWords Go.Proofs.YtepnddmalheoiaaW.PrintLast Go.Proofs.YtepnddmalheoiaaW.PrintMore
attribute [local go_sem] str_leq str_geq str_gtr max2_int min2_int max_two min_two max_three min_three max_four min_four   -- for this text's walks alone
mutual
def zap.l0 : Nat → Int → ByteArray → Int → List (S44) → Option (Int)
 | 0,_,_,_,_=>none
 | k + 1,x3,x105000,x105001,x105002=>if x3 < (x105002.length : Int) then (if 0 ≤ x3 then ((zcg.f ((zbu x105002 x3).f0)).bind fun t108=>(if t108 = true then ((zbo.f ((zbu x105002 x3).f1)).bind fun t110=>(zap.j1 k x3 (!t110) x105000 x105001 x105002)) else (zap.j1 k x3 true x105000 x105001 x105002))) else (none)) else (some 0)
def zap.j1 : Nat → Int → Bool → ByteArray → Int → List (S44) → Option (Int)
 | 0,_,_,_,_,_=>none
 | k + 1,x3,x40,x105000,x105001,x105002=>if x40 = true then (some 5) else (if x3 > 0 then (if 0 ≤ x3 then (if x3 < (x105002.length : Int) then (if 0 ≤ (wrap64 (x3 - 1)) then (if (wrap64 (x3 - 1)) < (x105002.length : Int) then (if ((zbu x105002 x3).f0) ≤ ((zbu x105002 (wrap64 (x3 - 1))).f0) then (some 8) else (zap.l0 k (wrap64 (x3 + 1)) x105000 x105001 x105002)) else (none)) else (none)) else (none)) else (none)) else (zap.l0 k (wrap64 (x3 + 1)) x105000 x105001 x105002))
end
def zap.f (k : Nat) (a0_0 : ByteArray) (a0_1 : Int) (l0_2 : List (S44)) : Option (Int):=(zas.f k a0_0).bind fun t105=>(if t105 = true then ((zbo.f a0_1).bind fun t106=>(if t106 = true then (if (l0_2.length : Int) > 16 then (some 10) else (zap.l0 k 0 a0_0 a0_1 l0_2)) else (some 5))) else (some 1))
set_option maxHeartbeats 8000000 in
set_option maxRecDepth 100000 in
theorem zap.calls (k : Nat) (a0_0 : ByteArray) (a0_1 : Int) (A0_2 : Option Addr) (c0_2 : Nat) (l0_2 : List (S44)) (r : Int) (w : World) (hr0_2 : Kd.C k44 w A0_2 l0_2.length l0_2) (hc0_2 : l0_2.length ≤ c0_2) (h : zap.f k a0_0 a0_1 l0_2 = some r) :
  Calls Try.prog 31 #[.agg #[.string a0_0,.int .i64 a0_1,.slice A0_2 l0_2.length c0_2]] w fun e w'=>e = .returned (.int .i64 r) ∧ Below w.heap.size w w':=by
 have hu42:=Try.underlying42
 have HR0_2:=zac.mk hr0_2
 have HC0_2:=zac.mk hc0_2
 clear hr0_2 hc0_2
 have HB:=zac.mk (Below.refl w.heap.size w)
 have H : ((zas.f k a0_0).bind fun t105=>(if t105 = true then ((zbo.f a0_1).bind fun t106=>(if t106 = true then (if (l0_2.length : Int) > 16 then (some 10) else (zap.l0 k 0 a0_0 a0_1 l0_2)) else (some 5))) else (some 1))) = some r:=h
 clear h
 replace H:=Option.bind_eq_some_iff.mp H
 obtain ⟨t105,A20,H⟩:=H
 replace H : (if t105 = true then ((zbo.f a0_1).bind fun t106=>(if t106 = true then (if (l0_2.length : Int) > 16 then (some 10) else (zap.l0 k 0 a0_0 a0_1 l0_2)) else (some 5))) else (some 1)) = some r:=H
 have A2:=zac.mk A20
 clear A20
 by_cases c3 : t105 = true
 ·subst c3
  have H1 : ((zbo.f a0_1).bind fun t106=>(if t106 = true then (if (l0_2.length : Int) > 16 then (some 10) else (zap.l0 k 0 a0_0 a0_1 l0_2)) else (some 5))) = some r:=by rw [if_pos rfl] at H;exact H
  clear H
  have H:=H1
  clear H1
  replace H:=Option.bind_eq_some_iff.mp H
  obtain ⟨t106,A40,H⟩:=H
  replace H : (if t106 = true then (if (l0_2.length : Int) > 16 then (some 10) else (zap.l0 k 0 a0_0 a0_1 l0_2)) else (some 5)) = some r:=H
  have A4:=zac.mk A40
  clear A40
  by_cases c5 : t106 = true
  ·subst c5
   have H1 : (if (l0_2.length : Int) > 16 then (some 10) else (zap.l0 k 0 a0_0 a0_1 l0_2)) = some r:=by rw [if_pos rfl] at H;exact H
   clear H
   have H:=H1
   clear H1
   by_cases c6 : (l0_2.length : Int) > 16
   ·rw [if_pos c6] at H
    have c6b0 : decide (16 < (l0_2.length : Int)) = true:=decide_eq_true c6
    have c6b1 : decide (16 < l0_2.length) = true:=decide_eq_true (by omega)
    clear c6
    obtain rfl:=Option.some.inj H
    go_enter Try.func31,Try.ntmps31
    go_wp2_with (first|((with_reducible refine zbh (N:=1) rfl ?_);refine zbf ?hg (N:=1) ?hd (cs:=#[.string a0_0,.int .i64 a0_1,.slice A0_2 l0_2.length c0_2]) (t:=42) ?hr ?_;(case hd=>rfl);(case hg=>rfl);(case hr=>first|(go_simp;done)|(go_simp;rfl));intro gb104 hg w7 hbox hb;have n0_:=zac.mk (zao (by repeat (first|(with_reducible first|exact HB.out|apply zae|apply zab|apply zaf)|exact HB.out)) hb);have n1_:=zac.mk (hbox);have n2_:=zac.mk ((by rw [hg];exact (zam (by repeat (first|(with_reducible first|exact HB.out|apply zae|apply zab|apply zaf)|exact HB.out))) : w.heap.size ≤ gb104));have n3_:=zac.mk ((by rw [hg];exact (zam (by repeat (first|(with_reducible first|exact HB.out|apply zae|apply zab|apply zaf)|exact HB.out))) : w.heap.size ≤ gb104));clear HB;have HB:=n0_;have BK104:=n1_;have GW104:=n2_;have GE104:=n3_;clear n0_ n1_ n2_ n3_;clear hb hbox hg;have hcz8_0 : w7.cell? ⟨gb104,0,none⟩ = some (.string a0_0):=(zad BK104.out 0).trans rfl;have hcz8_1 : w7.cell? ⟨gb104,1,none⟩ = some (.int .i64 a0_1):=(zad BK104.out 1).trans rfl;have hcz8_2 : w7.cell? ⟨gb104,2,none⟩ = some (.slice A0_2 l0_2.length c0_2):=(zad BK104.out 2).trans rfl;have hfz8_0:=zaa BK104.out 0;have hfz8_1:=zaa BK104.out 1;have hfz8_2:=zaa BK104.out 2)|(go_at_call 59;(with_reducible refine (zas.calls k a0_0 true _ A2.out).mono ?_);rintro e w' ⟨rfl,⟨nd,rfl⟩⟩;(try first|exact ⟨rfl,_,World.drewN_drewN _ _ _⟩|exact ⟨rfl,_,Eq.trans (World.drewN_drewN _ _ _) (congrArg (World.drewN _) (Nat.add_assoc _ _ _))⟩))|(go_at_call 60;(with_reducible refine (zbo.calls a0_1 true _ A4.out).mono ?_);rintro e w' ⟨rfl,⟨nd,rfl⟩⟩;(try first|exact ⟨rfl,_,World.drewN_drewN _ _ _⟩|exact ⟨rfl,_,Eq.trans (World.drewN_drewN _ _ _) (congrArg (World.drewN _) (Nat.add_assoc _ _ _))⟩)))
    repeat (go_quiet (first|((with_reducible refine zbh (N:=1) rfl ?_);refine zbf ?hg (N:=1) ?hd (cs:=#[.string a0_0,.int .i64 a0_1,.slice A0_2 l0_2.length c0_2]) (t:=42) ?hr ?_;(case hd=>rfl);(case hg=>rfl);(case hr=>first|(go_simp;done)|(go_simp;rfl));intro gb104 hg w7 hbox hb;have n0_:=zac.mk (zao (by repeat (first|(with_reducible first|exact HB.out|apply zae|apply zab|apply zaf)|exact HB.out)) hb);have n1_:=zac.mk (hbox);have n2_:=zac.mk ((by rw [hg];exact (zam (by repeat (first|(with_reducible first|exact HB.out|apply zae|apply zab|apply zaf)|exact HB.out))) : w.heap.size ≤ gb104));have n3_:=zac.mk ((by rw [hg];exact (zam (by repeat (first|(with_reducible first|exact HB.out|apply zae|apply zab|apply zaf)|exact HB.out))) : w.heap.size ≤ gb104));clear HB;have HB:=n0_;have BK104:=n1_;have GW104:=n2_;have GE104:=n3_;clear n0_ n1_ n2_ n3_;clear hb hbox hg;have hcz8_0 : w7.cell? ⟨gb104,0,none⟩ = some (.string a0_0):=(zad BK104.out 0).trans rfl;have hcz8_1 : w7.cell? ⟨gb104,1,none⟩ = some (.int .i64 a0_1):=(zad BK104.out 1).trans rfl;have hcz8_2 : w7.cell? ⟨gb104,2,none⟩ = some (.slice A0_2 l0_2.length c0_2):=(zad BK104.out 2).trans rfl;have hfz8_0:=zaa BK104.out 0;have hfz8_1:=zaa BK104.out 1;have hfz8_2:=zaa BK104.out 2)|(go_at_call 59;(with_reducible refine (zas.calls k a0_0 true _ A2.out).mono ?_);rintro e w' ⟨rfl,⟨nd,rfl⟩⟩;(try first|exact ⟨rfl,_,World.drewN_drewN _ _ _⟩|exact ⟨rfl,_,Eq.trans (World.drewN_drewN _ _ _) (congrArg (World.drewN _) (Nat.add_assoc _ _ _))⟩))|(go_at_call 60;(with_reducible refine (zbo.calls a0_1 true _ A4.out).mono ?_);rintro e w' ⟨rfl,⟨nd,rfl⟩⟩;(try first|exact ⟨rfl,_,World.drewN_drewN _ _ _⟩|exact ⟨rfl,_,Eq.trans (World.drewN_drewN _ _ _) (congrArg (World.drewN _) (Nat.add_assoc _ _ _))⟩)));try go_wp2_with (first|((with_reducible refine zbh (N:=1) rfl ?_);refine zbf ?hg (N:=1) ?hd (cs:=#[.string a0_0,.int .i64 a0_1,.slice A0_2 l0_2.length c0_2]) (t:=42) ?hr ?_;(case hd=>rfl);(case hg=>rfl);(case hr=>first|(go_simp;done)|(go_simp;rfl));intro gb104 hg w7 hbox hb;have n0_:=zac.mk (zao (by repeat (first|(with_reducible first|exact HB.out|apply zae|apply zab|apply zaf)|exact HB.out)) hb);have n1_:=zac.mk (hbox);have n2_:=zac.mk ((by rw [hg];exact (zam (by repeat (first|(with_reducible first|exact HB.out|apply zae|apply zab|apply zaf)|exact HB.out))) : w.heap.size ≤ gb104));have n3_:=zac.mk ((by rw [hg];exact (zam (by repeat (first|(with_reducible first|exact HB.out|apply zae|apply zab|apply zaf)|exact HB.out))) : w.heap.size ≤ gb104));clear HB;have HB:=n0_;have BK104:=n1_;have GW104:=n2_;have GE104:=n3_;clear n0_ n1_ n2_ n3_;clear hb hbox hg;have hcz8_0 : w7.cell? ⟨gb104,0,none⟩ = some (.string a0_0):=(zad BK104.out 0).trans rfl;have hcz8_1 : w7.cell? ⟨gb104,1,none⟩ = some (.int .i64 a0_1):=(zad BK104.out 1).trans rfl;have hcz8_2 : w7.cell? ⟨gb104,2,none⟩ = some (.slice A0_2 l0_2.length c0_2):=(zad BK104.out 2).trans rfl;have hfz8_0:=zaa BK104.out 0;have hfz8_1:=zaa BK104.out 1;have hfz8_2:=zaa BK104.out 2)|(go_at_call 59;(with_reducible refine (zas.calls k a0_0 true _ A2.out).mono ?_);rintro e w' ⟨rfl,⟨nd,rfl⟩⟩;(try first|exact ⟨rfl,_,World.drewN_drewN _ _ _⟩|exact ⟨rfl,_,Eq.trans (World.drewN_drewN _ _ _) (congrArg (World.drewN _) (Nat.add_assoc _ _ _))⟩))|(go_at_call 60;(with_reducible refine (zbo.calls a0_1 true _ A4.out).mono ?_);rintro e w' ⟨rfl,⟨nd,rfl⟩⟩;(try first|exact ⟨rfl,_,World.drewN_drewN _ _ _⟩|exact ⟨rfl,_,Eq.trans (World.drewN_drewN _ _ _) (congrArg (World.drewN _) (Nat.add_assoc _ _ _))⟩))))
    go_ret
    exact ⟨by first|rfl|(simp [errW_none,errW_some] <;> rfl)|(simp [*,errW_none,errW_some] <;> rfl),by repeat (first|(with_reducible first|exact HB.out|apply zae|apply zab|apply zaf|refine zai ?_ GE104.out)|exact HB.out)⟩
   ·rw [if_neg c6] at H
    have c6b0 : decide (16 < (l0_2.length : Int)) = false:=decide_eq_false c6
    have c6b1 : decide (16 < l0_2.length) = false:=decide_eq_false (by omega)
    clear c6
    have H':=zac.mk H
    clear H
    go_enter Try.func31,Try.ntmps31
    go_wp2_with (first|((with_reducible refine zbh (N:=1) rfl ?_);refine zbf ?hg (N:=1) ?hd (cs:=#[.string a0_0,.int .i64 a0_1,.slice A0_2 l0_2.length c0_2]) (t:=42) ?hr ?_;(case hd=>rfl);(case hg=>rfl);(case hr=>first|(go_simp;done)|(go_simp;rfl));intro gb104 hg w9 hbox hb;have n0_:=zac.mk (zao (by repeat (first|(with_reducible first|exact HB.out|apply zae|apply zab|apply zaf)|exact HB.out)) hb);have n1_:=zac.mk (hbox);have n2_:=zac.mk ((by rw [hg];exact (zam (by repeat (first|(with_reducible first|exact HB.out|apply zae|apply zab|apply zaf)|exact HB.out))) : w.heap.size ≤ gb104));have n3_:=zac.mk ((by rw [hg];exact (zam (by repeat (first|(with_reducible first|exact HB.out|apply zae|apply zab|apply zaf)|exact HB.out))) : w.heap.size ≤ gb104));clear HB;have HB:=n0_;have BK104:=n1_;have GW104:=n2_;have GE104:=n3_;clear n0_ n1_ n2_ n3_;clear hb hbox hg;have hcz10_0 : w9.cell? ⟨gb104,0,none⟩ = some (.string a0_0):=(zad BK104.out 0).trans rfl;have hcz10_1 : w9.cell? ⟨gb104,1,none⟩ = some (.int .i64 a0_1):=(zad BK104.out 1).trans rfl;have hcz10_2 : w9.cell? ⟨gb104,2,none⟩ = some (.slice A0_2 l0_2.length c0_2):=(zad BK104.out 2).trans rfl;have hfz10_0:=zaa BK104.out 0;have hfz10_1:=zaa BK104.out 1;have hfz10_2:=zaa BK104.out 2)|(go_at_call 59;(with_reducible refine (zas.calls k a0_0 true _ A2.out).mono ?_);rintro e w' ⟨rfl,⟨nd,rfl⟩⟩;(try first|exact ⟨rfl,_,World.drewN_drewN _ _ _⟩|exact ⟨rfl,_,Eq.trans (World.drewN_drewN _ _ _) (congrArg (World.drewN _) (Nat.add_assoc _ _ _))⟩))|(go_at_call 60;(with_reducible refine (zbo.calls a0_1 true _ A4.out).mono ?_);rintro e w' ⟨rfl,⟨nd,rfl⟩⟩;(try first|exact ⟨rfl,_,World.drewN_drewN _ _ _⟩|exact ⟨rfl,_,Eq.trans (World.drewN_drewN _ _ _) (congrArg (World.drewN _) (Nat.add_assoc _ _ _))⟩)))
    repeat (go_quiet (first|((with_reducible refine zbh (N:=1) rfl ?_);refine zbf ?hg (N:=1) ?hd (cs:=#[.string a0_0,.int .i64 a0_1,.slice A0_2 l0_2.length c0_2]) (t:=42) ?hr ?_;(case hd=>rfl);(case hg=>rfl);(case hr=>first|(go_simp;done)|(go_simp;rfl));intro gb104 hg w9 hbox hb;have n0_:=zac.mk (zao (by repeat (first|(with_reducible first|exact HB.out|apply zae|apply zab|apply zaf)|exact HB.out)) hb);have n1_:=zac.mk (hbox);have n2_:=zac.mk ((by rw [hg];exact (zam (by repeat (first|(with_reducible first|exact HB.out|apply zae|apply zab|apply zaf)|exact HB.out))) : w.heap.size ≤ gb104));have n3_:=zac.mk ((by rw [hg];exact (zam (by repeat (first|(with_reducible first|exact HB.out|apply zae|apply zab|apply zaf)|exact HB.out))) : w.heap.size ≤ gb104));clear HB;have HB:=n0_;have BK104:=n1_;have GW104:=n2_;have GE104:=n3_;clear n0_ n1_ n2_ n3_;clear hb hbox hg;have hcz10_0 : w9.cell? ⟨gb104,0,none⟩ = some (.string a0_0):=(zad BK104.out 0).trans rfl;have hcz10_1 : w9.cell? ⟨gb104,1,none⟩ = some (.int .i64 a0_1):=(zad BK104.out 1).trans rfl;have hcz10_2 : w9.cell? ⟨gb104,2,none⟩ = some (.slice A0_2 l0_2.length c0_2):=(zad BK104.out 2).trans rfl;have hfz10_0:=zaa BK104.out 0;have hfz10_1:=zaa BK104.out 1;have hfz10_2:=zaa BK104.out 2)|(go_at_call 59;(with_reducible refine (zas.calls k a0_0 true _ A2.out).mono ?_);rintro e w' ⟨rfl,⟨nd,rfl⟩⟩;(try first|exact ⟨rfl,_,World.drewN_drewN _ _ _⟩|exact ⟨rfl,_,Eq.trans (World.drewN_drewN _ _ _) (congrArg (World.drewN _) (Nat.add_assoc _ _ _))⟩))|(go_at_call 60;(with_reducible refine (zbo.calls a0_1 true _ A4.out).mono ?_);rintro e w' ⟨rfl,⟨nd,rfl⟩⟩;(try first|exact ⟨rfl,_,World.drewN_drewN _ _ _⟩|exact ⟨rfl,_,Eq.trans (World.drewN_drewN _ _ _) (congrArg (World.drewN _) (Nat.add_assoc _ _ _))⟩)));try go_wp2_with (first|((with_reducible refine zbh (N:=1) rfl ?_);refine zbf ?hg (N:=1) ?hd (cs:=#[.string a0_0,.int .i64 a0_1,.slice A0_2 l0_2.length c0_2]) (t:=42) ?hr ?_;(case hd=>rfl);(case hg=>rfl);(case hr=>first|(go_simp;done)|(go_simp;rfl));intro gb104 hg w9 hbox hb;have n0_:=zac.mk (zao (by repeat (first|(with_reducible first|exact HB.out|apply zae|apply zab|apply zaf)|exact HB.out)) hb);have n1_:=zac.mk (hbox);have n2_:=zac.mk ((by rw [hg];exact (zam (by repeat (first|(with_reducible first|exact HB.out|apply zae|apply zab|apply zaf)|exact HB.out))) : w.heap.size ≤ gb104));have n3_:=zac.mk ((by rw [hg];exact (zam (by repeat (first|(with_reducible first|exact HB.out|apply zae|apply zab|apply zaf)|exact HB.out))) : w.heap.size ≤ gb104));clear HB;have HB:=n0_;have BK104:=n1_;have GW104:=n2_;have GE104:=n3_;clear n0_ n1_ n2_ n3_;clear hb hbox hg;have hcz10_0 : w9.cell? ⟨gb104,0,none⟩ = some (.string a0_0):=(zad BK104.out 0).trans rfl;have hcz10_1 : w9.cell? ⟨gb104,1,none⟩ = some (.int .i64 a0_1):=(zad BK104.out 1).trans rfl;have hcz10_2 : w9.cell? ⟨gb104,2,none⟩ = some (.slice A0_2 l0_2.length c0_2):=(zad BK104.out 2).trans rfl;have hfz10_0:=zaa BK104.out 0;have hfz10_1:=zaa BK104.out 1;have hfz10_2:=zaa BK104.out 2)|(go_at_call 59;(with_reducible refine (zas.calls k a0_0 true _ A2.out).mono ?_);rintro e w' ⟨rfl,⟨nd,rfl⟩⟩;(try first|exact ⟨rfl,_,World.drewN_drewN _ _ _⟩|exact ⟨rfl,_,Eq.trans (World.drewN_drewN _ _ _) (congrArg (World.drewN _) (Nat.add_assoc _ _ _))⟩))|(go_at_call 60;(with_reducible refine (zbo.calls a0_1 true _ A4.out).mono ?_);rintro e w' ⟨rfl,⟨nd,rfl⟩⟩;(try first|exact ⟨rfl,_,World.drewN_drewN _ _ _⟩|exact ⟨rfl,_,Eq.trans (World.drewN_drewN _ _ _) (congrArg (World.drewN _) (Nat.add_assoc _ _ _))⟩))))
    go_loopg [3] k (fun kq v3 w'=>∃ (x3_1 : Int),v3 = .int .i64 x3_1 ∧ zac (zap.l0 kq x3_1 a0_0 a0_1 l0_2 = some r) ∧ zac (kq ≤ k) ∧ zac (w'.heap[gb104]? = some (.cells #[.string a0_0,.int .i64 a0_1,(.slice A0_2 l0_2.length c0_2)] 42 (0,0))) ∧ zac (Below w.heap.size w w'))
    case atStart=>exact ⟨(0),(by first|rfl|(simp;done)|(simp [*];done)),H',⟨Nat.le_refl _⟩,⟨by (with_reducible repeat (first|refine zah ?_ _|refine zak ?_|refine zag ?_ _));exact BK104.out⟩,⟨by repeat (first|(with_reducible first|exact HB.out|apply zae|apply zab|apply zaf|refine zai ?_ GE104.out)|exact HB.out)⟩⟩
    case round =>
     clear H'
     try clear c3
     try clear c5
     try clear c6
     try clear c6b0
     try clear c6b1
     try clear hcz10_0
     try clear hcz10_1
     try clear hcz10_2
     try clear hfz10_0
     try clear hfz10_1
     try clear hfz10_2
     obtain ⟨x3_1,rfl,HA,HK1,BK104,HB⟩:=hrel
     cases gk with
     | zero=>exact absurd HA.out (by simp [zap.l0])
     | succ k1 =>
      have H:=HA.out
      clear HA
      simp only [zap.l0] at H
      by_cases c11 : x3_1 < (l0_2.length : Int)
      ·rw [if_pos c11] at H
       have c11b0 : decide (x3_1 < (l0_2.length : Int)) = true:=decide_eq_true c11
       clear c11
       have HC12:=zac.mk H
       clear H
       have hcz13_0 : wr.cell? ⟨gb104,0,none⟩ = some (.string a0_0):=(zad BK104.out 0).trans rfl
       have hcz13_1 : wr.cell? ⟨gb104,1,none⟩ = some (.int .i64 a0_1):=(zad BK104.out 1).trans rfl
       have hcz13_2 : wr.cell? ⟨gb104,2,none⟩ = some (.slice A0_2 l0_2.length c0_2):=(zad BK104.out 2).trans rfl
       have hfz13_0:=zaa BK104.out 0
       have hfz13_1:=zaa BK104.out 1
       have hfz13_2:=zaa BK104.out 2
       go_upto_region 10 with (fail)
       repeat (go_quiet (fail);go_upto_region 10 with (fail))
       go_cut [40] (fun v40 wc=>∃ (kq : Nat) (x40_11 : Bool),v40 = .bool x40_11 ∧ zac (zap.j1 kq x3_1 x40_11 a0_0 a0_1 l0_2 = some r) ∧ zac (kq ≤ k1) ∧ zac (wc.heap[gb104]? = some (.cells #[.string a0_0,.int .i64 a0_1,(.slice A0_2 l0_2.length c0_2)] 42 (0,0))) ∧ zac (Below w.heap.size w wc))
       case first =>
        have H:=HC12.out
        clear HC12
        by_cases c14 : 0 ≤ x3_1
        ·rw [if_pos c14] at H
         have c14b0 : decide (0 ≤ x3_1) = true:=decide_eq_true c14
         clear c14
         (first|rw [c14b0]|(simp only [i64_w,i32_w];rw [c14b0])|skip)
         replace H:=Option.bind_eq_some_iff.mp H
         obtain ⟨t108,A150,H⟩:=H
         replace H : (if t108 = true then ((zbo.f ((zbu l0_2 x3_1).f1)).bind fun t110=>(zap.j1 k1 x3_1 (!t110) a0_0 a0_1 l0_2)) else (zap.j1 k1 x3_1 true a0_0 a0_1 l0_2)) = some r:=H
         have A15:=zac.mk A150
         clear A150
         by_cases c16 : t108 = true
         ·subst c16
          have H1 : ((zbo.f ((zbu l0_2 x3_1).f1)).bind fun t110=>(zap.j1 k1 x3_1 (!t110) a0_0 a0_1 l0_2)) = some r:=by rw [if_pos rfl] at H;exact H
          clear H
          have H:=H1
          clear H1
          replace H:=Option.bind_eq_some_iff.mp H
          obtain ⟨t110,A170,H⟩:=H
          replace H : (zap.j1 k1 x3_1 (!t110) a0_0 a0_1 l0_2) = some r:=H
          have A17:=zac.mk A170
          clear A170
          have H':=zac.mk H
          clear H
          have hcz18_0 : wr.cell? ⟨gb104,0,none⟩ = some (.string a0_0):=(zad BK104.out 0).trans rfl
          have hcz18_1 : wr.cell? ⟨gb104,1,none⟩ = some (.int .i64 a0_1):=(zad BK104.out 1).trans rfl
          have hcz18_2 : wr.cell? ⟨gb104,2,none⟩ = some (.slice A0_2 l0_2.length c0_2):=(zad BK104.out 2).trans rfl
          have hfz18_0:=zaa BK104.out 0
          have hfz18_1:=zaa BK104.out 1
          have hfz18_2:=zaa BK104.out 2
          have p107 : 0 ≤ (x3_1 : Int):=of_decide_eq_true (by first|(with_reducible assumption)|assumption)
          have q107 : x3_1 < (l0_2.length : Int):=of_decide_eq_true (by first|(with_reducible assumption)|assumption)
          obtain ⟨ad107,e107,hx107_0,hx107_1⟩:=at_T44 HR0_2.out x3_1 p107 q107
          cases e107
          replace hx107_0:=(HB.out.cell (World.block_lt_of_cell? w _ hx107_0)).trans hx107_0
          replace hx107_1:=(HB.out.cell (World.block_lt_of_cell? w _ hx107_1)).trans hx107_1
          replace p107:=eq_true p107
          replace q107:=eq_true q107
          go_wp2_with (first|(go_at_call 61;(with_reducible refine (zcg.calls ((zbu l0_2 x3_1).f0) true _ A15.out).mono ?_);rintro e w' ⟨rfl,⟨nd,rfl⟩⟩;(try first|exact ⟨rfl,_,World.drewN_drewN _ _ _⟩|exact ⟨rfl,_,Eq.trans (World.drewN_drewN _ _ _) (congrArg (World.drewN _) (Nat.add_assoc _ _ _))⟩);have p109 : 0 ≤ (x3_1 : Int):=of_decide_eq_true (by first|(with_reducible assumption)|assumption);have q109 : x3_1 < (l0_2.length : Int):=of_decide_eq_true (by first|(with_reducible assumption)|assumption);obtain ⟨ad109,e109,hx109_0,hx109_1⟩:=at_T44 HR0_2.out x3_1 p109 q109;obtain rfl : ad107 = ad109:=(by injection e109);replace hx109_0:=(HB.out.cell (World.block_lt_of_cell? w _ hx109_0)).trans hx109_0;replace hx109_1:=(HB.out.cell (World.block_lt_of_cell? w _ hx109_1)).trans hx109_1;replace p109:=eq_true p109;replace q109:=eq_true q109)|(go_at_call 60;(with_reducible refine (zbo.calls ((zbu l0_2 x3_1).f1) t110 _ A17.out).mono ?_);rintro e w' ⟨rfl,⟨nd,rfl⟩⟩;(try first|exact ⟨rfl,_,World.drewN_drewN _ _ _⟩|exact ⟨rfl,_,Eq.trans (World.drewN_drewN _ _ _) (congrArg (World.drewN _) (Nat.add_assoc _ _ _))⟩)))
          repeat (go_quiet (first|(go_at_call 61;(with_reducible refine (zcg.calls ((zbu l0_2 x3_1).f0) true _ A15.out).mono ?_);rintro e w' ⟨rfl,⟨nd,rfl⟩⟩;(try first|exact ⟨rfl,_,World.drewN_drewN _ _ _⟩|exact ⟨rfl,_,Eq.trans (World.drewN_drewN _ _ _) (congrArg (World.drewN _) (Nat.add_assoc _ _ _))⟩);have p109 : 0 ≤ (x3_1 : Int):=of_decide_eq_true (by first|(with_reducible assumption)|assumption);have q109 : x3_1 < (l0_2.length : Int):=of_decide_eq_true (by first|(with_reducible assumption)|assumption);obtain ⟨ad109,e109,hx109_0,hx109_1⟩:=at_T44 HR0_2.out x3_1 p109 q109;obtain rfl : ad107 = ad109:=(by injection e109);replace hx109_0:=(HB.out.cell (World.block_lt_of_cell? w _ hx109_0)).trans hx109_0;replace hx109_1:=(HB.out.cell (World.block_lt_of_cell? w _ hx109_1)).trans hx109_1;replace p109:=eq_true p109;replace q109:=eq_true q109)|(go_at_call 60;(with_reducible refine (zbo.calls ((zbu l0_2 x3_1).f1) t110 _ A17.out).mono ?_);rintro e w' ⟨rfl,⟨nd,rfl⟩⟩;(try first|exact ⟨rfl,_,World.drewN_drewN _ _ _⟩|exact ⟨rfl,_,Eq.trans (World.drewN_drewN _ _ _) (congrArg (World.drewN _) (Nat.add_assoc _ _ _))⟩)));try go_wp2_with (first|(go_at_call 61;(with_reducible refine (zcg.calls ((zbu l0_2 x3_1).f0) true _ A15.out).mono ?_);rintro e w' ⟨rfl,⟨nd,rfl⟩⟩;(try first|exact ⟨rfl,_,World.drewN_drewN _ _ _⟩|exact ⟨rfl,_,Eq.trans (World.drewN_drewN _ _ _) (congrArg (World.drewN _) (Nat.add_assoc _ _ _))⟩);have p109 : 0 ≤ (x3_1 : Int):=of_decide_eq_true (by first|(with_reducible assumption)|assumption);have q109 : x3_1 < (l0_2.length : Int):=of_decide_eq_true (by first|(with_reducible assumption)|assumption);obtain ⟨ad109,e109,hx109_0,hx109_1⟩:=at_T44 HR0_2.out x3_1 p109 q109;obtain rfl : ad107 = ad109:=(by injection e109);replace hx109_0:=(HB.out.cell (World.block_lt_of_cell? w _ hx109_0)).trans hx109_0;replace hx109_1:=(HB.out.cell (World.block_lt_of_cell? w _ hx109_1)).trans hx109_1;replace p109:=eq_true p109;replace q109:=eq_true q109)|(go_at_call 60;(with_reducible refine (zbo.calls ((zbu l0_2 x3_1).f1) t110 _ A17.out).mono ?_);rintro e w' ⟨rfl,⟨nd,rfl⟩⟩;(try first|exact ⟨rfl,_,World.drewN_drewN _ _ _⟩|exact ⟨rfl,_,Eq.trans (World.drewN_drewN _ _ _) (congrArg (World.drewN _) (Nat.add_assoc _ _ _))⟩))))
          go_meet
          case rel=>exact ⟨_,(!t110),(by first|rfl|(simp;done)|(simp [*];done)),H',⟨by have:=HK1.out;first|omega|exact Nat.le_refl _⟩,⟨by (with_reducible repeat (first|refine zah ?_ _|refine zak ?_|refine zag ?_ _));exact BK104.out⟩,⟨by repeat (first|(with_reducible first|exact HB.out|apply zae|apply zab|apply zaf|refine zai ?_ GE104.out)|exact HB.out)⟩⟩
         ·replace c16:=Bool.eq_false_iff.mpr c16
          subst c16
          have H1 : (zap.j1 k1 x3_1 true a0_0 a0_1 l0_2) = some r:=by rw [if_neg (show ¬ (false = true) by decide)] at H;exact H
          clear H
          have H:=H1
          clear H1
          have H':=zac.mk H
          clear H
          have hcz19_0 : wr.cell? ⟨gb104,0,none⟩ = some (.string a0_0):=(zad BK104.out 0).trans rfl
          have hcz19_1 : wr.cell? ⟨gb104,1,none⟩ = some (.int .i64 a0_1):=(zad BK104.out 1).trans rfl
          have hcz19_2 : wr.cell? ⟨gb104,2,none⟩ = some (.slice A0_2 l0_2.length c0_2):=(zad BK104.out 2).trans rfl
          have hfz19_0:=zaa BK104.out 0
          have hfz19_1:=zaa BK104.out 1
          have hfz19_2:=zaa BK104.out 2
          have p107 : 0 ≤ (x3_1 : Int):=of_decide_eq_true (by first|(with_reducible assumption)|assumption)
          have q107 : x3_1 < (l0_2.length : Int):=of_decide_eq_true (by first|(with_reducible assumption)|assumption)
          obtain ⟨ad107,e107,hx107_0,hx107_1⟩:=at_T44 HR0_2.out x3_1 p107 q107
          cases e107
          replace hx107_0:=(HB.out.cell (World.block_lt_of_cell? w _ hx107_0)).trans hx107_0
          replace hx107_1:=(HB.out.cell (World.block_lt_of_cell? w _ hx107_1)).trans hx107_1
          replace p107:=eq_true p107
          replace q107:=eq_true q107
          go_wp2_with (first|(go_at_call 61;(with_reducible refine (zcg.calls ((zbu l0_2 x3_1).f0) false _ A15.out).mono ?_);rintro e w' ⟨rfl,⟨nd,rfl⟩⟩;(try first|exact ⟨rfl,_,World.drewN_drewN _ _ _⟩|exact ⟨rfl,_,Eq.trans (World.drewN_drewN _ _ _) (congrArg (World.drewN _) (Nat.add_assoc _ _ _))⟩)))
          repeat (go_quiet (first|(go_at_call 61;(with_reducible refine (zcg.calls ((zbu l0_2 x3_1).f0) false _ A15.out).mono ?_);rintro e w' ⟨rfl,⟨nd,rfl⟩⟩;(try first|exact ⟨rfl,_,World.drewN_drewN _ _ _⟩|exact ⟨rfl,_,Eq.trans (World.drewN_drewN _ _ _) (congrArg (World.drewN _) (Nat.add_assoc _ _ _))⟩)));try go_wp2_with (first|(go_at_call 61;(with_reducible refine (zcg.calls ((zbu l0_2 x3_1).f0) false _ A15.out).mono ?_);rintro e w' ⟨rfl,⟨nd,rfl⟩⟩;(try first|exact ⟨rfl,_,World.drewN_drewN _ _ _⟩|exact ⟨rfl,_,Eq.trans (World.drewN_drewN _ _ _) (congrArg (World.drewN _) (Nat.add_assoc _ _ _))⟩))))
          go_meet
          case rel=>exact ⟨_,(true),(by first|rfl|(simp;done)|(simp [*];done)),H',⟨by have:=HK1.out;first|omega|exact Nat.le_refl _⟩,⟨by (with_reducible repeat (first|refine zah ?_ _|refine zak ?_|refine zag ?_ _));exact BK104.out⟩,⟨by repeat (first|(with_reducible first|exact HB.out|apply zae|apply zab|apply zaf|refine zai ?_ GE104.out)|exact HB.out)⟩⟩
        ·rw [if_neg c14] at H
         exact absurd H (by simp)
       case rest =>
        clear HC12
        try clear c3
        try clear c5
        try clear c6
        try clear c6b0
        try clear c6b1
        try clear c11
        try clear c11b0
        try clear hcz10_0
        try clear hcz10_1
        try clear hcz10_2
        try clear hcz13_0
        try clear hcz13_1
        try clear hcz13_2
        try clear hfz10_0
        try clear hfz10_1
        try clear hfz10_2
        try clear hfz13_0
        try clear hfz13_1
        try clear hfz13_2
        obtain ⟨kq,x40_11,rfl,HA,HJ11,BK104,HB⟩:=hcut
        cases kq with
        | zero=>exact absurd HA.out (by simp [zap.j1])
        | succ kj11 =>
         have H:=HA.out
         clear HA
         simp only [zap.j1] at H
         by_cases c20 : x40_11 = true
         ·subst c20
          have H1 : (some 5) = some r:=by rw [if_pos rfl] at H;exact H
          clear H
          have H:=H1
          clear H1
          obtain rfl:=Option.some.inj H
          go_wp2
          repeat (go_quiet (fail);try go_wp2)
          go_ret
          exact ⟨by first|rfl|(simp [errW_none,errW_some] <;> rfl)|(simp [*,errW_none,errW_some] <;> rfl),by repeat (first|(with_reducible first|exact HB.out|apply zae|apply zab|apply zaf|refine zai ?_ GE104.out)|exact HB.out)⟩
         ·replace c20:=Bool.eq_false_iff.mpr c20
          subst c20
          have H1 : (if x3_1 > 0 then (if 0 ≤ x3_1 then (if x3_1 < (l0_2.length : Int) then (if 0 ≤ (wrap64 (x3_1 - 1)) then (if (wrap64 (x3_1 - 1)) < (l0_2.length : Int) then (if ((zbu l0_2 x3_1).f0) ≤ ((zbu l0_2 (wrap64 (x3_1 - 1))).f0) then (some 8) else (zap.l0 kj11 (wrap64 (x3_1 + 1)) a0_0 a0_1 l0_2)) else (none)) else (none)) else (none)) else (none)) else (zap.l0 kj11 (wrap64 (x3_1 + 1)) a0_0 a0_1 l0_2)) = some r:=by rw [if_neg (show ¬ (false = true) by decide)] at H;exact H
          clear H
          have H:=H1
          clear H1
          by_cases c21 : x3_1 > 0
          ·rw [if_pos c21] at H
           have c21b0 : decide (0 < x3_1) = true:=decide_eq_true c21
           clear c21
           by_cases c22 : 0 ≤ x3_1
           ·rw [if_pos c22] at H
            have c22b0 : decide (0 ≤ x3_1) = true:=decide_eq_true c22
            clear c22
            by_cases c23 : x3_1 < (l0_2.length : Int)
            ·rw [if_pos c23] at H
             have c23b0 : decide (x3_1 < (l0_2.length : Int)) = true:=decide_eq_true c23
             clear c23
             obtain ⟨ji24,hji24⟩ : ∃ j_ : Int,(wrap64 (x3_1 - 1)) = j_:=⟨_,rfl⟩
             replace H : (if 0 ≤ (ji24) then (if (ji24) < (l0_2.length : Int) then (if ((zbu l0_2 x3_1).f0) ≤ ((zbu l0_2 (ji24)).f0) then (some 8) else (zap.l0 kj11 (wrap64 (x3_1 + 1)) a0_0 a0_1 l0_2)) else (none)) else (none)) = some r:=by first|(rw [hji24] at H;exact H)|(simp only [hji24] at H ⊢;exact H)
             have hji24w : (IntKind.i64.wrap (x3_1 - 1)) = ji24:=(i64_w _).trans hji24
             by_cases c25 : 0 ≤ (ji24)
             ·rw [if_pos c25] at H
              have c25b0 : decide (0 ≤ (ji24)) = true:=decide_eq_true c25
              clear c25
              by_cases c26 : (ji24) < (l0_2.length : Int)
              ·rw [if_pos c26] at H
               have c26b0 : decide ((ji24) < (l0_2.length : Int)) = true:=decide_eq_true c26
               clear c26
               by_cases c27 : ((zbu l0_2 x3_1).f0) ≤ ((zbu l0_2 (ji24)).f0)
               ·rw [if_pos c27] at H
                have c27b0 : decide (((zbu l0_2 x3_1).f0) ≤ ((zbu l0_2 (ji24)).f0)) = true:=decide_eq_true c27
                clear c27
                obtain rfl:=Option.some.inj H
                have hcz28_0 : wc.cell? ⟨gb104,0,none⟩ = some (.string a0_0):=(zad BK104.out 0).trans rfl
                have hcz28_1 : wc.cell? ⟨gb104,1,none⟩ = some (.int .i64 a0_1):=(zad BK104.out 1).trans rfl
                have hcz28_2 : wc.cell? ⟨gb104,2,none⟩ = some (.slice A0_2 l0_2.length c0_2):=(zad BK104.out 2).trans rfl
                have hfz28_0:=zaa BK104.out 0
                have hfz28_1:=zaa BK104.out 1
                have hfz28_2:=zaa BK104.out 2
                have p111 : 0 ≤ (x3_1 : Int):=of_decide_eq_true (by first|(with_reducible assumption)|assumption)
                have q111 : x3_1 < (l0_2.length : Int):=of_decide_eq_true (by first|(with_reducible assumption)|assumption)
                obtain ⟨ad111,e111,hx111_0,hx111_1⟩:=at_T44 HR0_2.out x3_1 p111 q111
                cases e111
                replace hx111_0:=(HB.out.cell (World.block_lt_of_cell? w _ hx111_0)).trans hx111_0
                replace hx111_1:=(HB.out.cell (World.block_lt_of_cell? w _ hx111_1)).trans hx111_1
                replace p111:=eq_true p111
                replace q111:=eq_true q111
                have p112 : 0 ≤ ((ji24) : Int):=of_decide_eq_true (by first|(with_reducible assumption)|assumption)
                have q112 : (ji24) < (l0_2.length : Int):=of_decide_eq_true (by first|(with_reducible assumption)|assumption)
                obtain ⟨ad112,e112,hx112_0,hx112_1⟩:=at_T44 HR0_2.out (ji24) p112 q112
                obtain rfl : ad111 = ad112:=(by injection e112)
                replace hx112_0:=(HB.out.cell (World.block_lt_of_cell? w _ hx112_0)).trans hx112_0
                replace hx112_1:=(HB.out.cell (World.block_lt_of_cell? w _ hx112_1)).trans hx112_1
                replace p112:=eq_true p112
                replace q112:=eq_true q112
                go_wp2
                repeat (go_quiet (fail);try go_wp2)
                go_ret
                exact ⟨by first|rfl|(simp [errW_none,errW_some] <;> rfl)|(simp only [← hji24];first|rfl|(simp [errW_none,errW_some] <;> rfl))|(simp [*,errW_none,errW_some] <;> rfl),by repeat (first|(with_reducible first|exact HB.out|apply zae|apply zab|apply zaf|refine zai ?_ GE104.out)|exact HB.out)⟩
               ·rw [if_neg c27] at H
                have c27b0 : decide (((zbu l0_2 x3_1).f0) ≤ ((zbu l0_2 (ji24)).f0)) = false:=decide_eq_false c27
                clear c27
                have H':=zac.mk H
                clear H
                have hcz29_0 : wc.cell? ⟨gb104,0,none⟩ = some (.string a0_0):=(zad BK104.out 0).trans rfl
                have hcz29_1 : wc.cell? ⟨gb104,1,none⟩ = some (.int .i64 a0_1):=(zad BK104.out 1).trans rfl
                have hcz29_2 : wc.cell? ⟨gb104,2,none⟩ = some (.slice A0_2 l0_2.length c0_2):=(zad BK104.out 2).trans rfl
                have hfz29_0:=zaa BK104.out 0
                have hfz29_1:=zaa BK104.out 1
                have hfz29_2:=zaa BK104.out 2
                have p111 : 0 ≤ (x3_1 : Int):=of_decide_eq_true (by first|(with_reducible assumption)|assumption)
                have q111 : x3_1 < (l0_2.length : Int):=of_decide_eq_true (by first|(with_reducible assumption)|assumption)
                obtain ⟨ad111,e111,hx111_0,hx111_1⟩:=at_T44 HR0_2.out x3_1 p111 q111
                cases e111
                replace hx111_0:=(HB.out.cell (World.block_lt_of_cell? w _ hx111_0)).trans hx111_0
                replace hx111_1:=(HB.out.cell (World.block_lt_of_cell? w _ hx111_1)).trans hx111_1
                replace p111:=eq_true p111
                replace q111:=eq_true q111
                have p112 : 0 ≤ ((ji24) : Int):=of_decide_eq_true (by first|(with_reducible assumption)|assumption)
                have q112 : (ji24) < (l0_2.length : Int):=of_decide_eq_true (by first|(with_reducible assumption)|assumption)
                obtain ⟨ad112,e112,hx112_0,hx112_1⟩:=at_T44 HR0_2.out (ji24) p112 q112
                obtain rfl : ad111 = ad112:=(by injection e112)
                replace hx112_0:=(HB.out.cell (World.block_lt_of_cell? w _ hx112_0)).trans hx112_0
                replace hx112_1:=(HB.out.cell (World.block_lt_of_cell? w _ hx112_1)).trans hx112_1
                replace p112:=eq_true p112
                replace q112:=eq_true q112
                go_wp2
                repeat (go_quiet (fail);try go_wp2)
                go_roundg kj11
                case measure=>have:=HK1.out;have:=HJ11.out;omega
                case rel=>exact ⟨(wrap64 (x3_1 + 1)),(by first|rfl|(simp;done)|(simp [*];done)),H',⟨by have:=HK1.out;have:=HJ11.out;omega⟩,⟨by (with_reducible repeat (first|refine zah ?_ _|refine zak ?_|refine zag ?_ _));exact BK104.out⟩,⟨by repeat (first|(with_reducible first|exact HB.out|apply zae|apply zab|apply zaf|refine zai ?_ GE104.out)|exact HB.out)⟩⟩
              ·rw [if_neg c26] at H
               exact absurd H (by simp)
             ·rw [if_neg c25] at H
              exact absurd H (by simp)
            ·rw [if_neg c23] at H
             exact absurd H (by simp)
           ·rw [if_neg c22] at H
            exact absurd H (by simp)
          ·rw [if_neg c21] at H
           have c21b0 : decide (0 < x3_1) = false:=decide_eq_false c21
           clear c21
           have H':=zac.mk H
           clear H
           go_wp2
           repeat (go_quiet (fail);try go_wp2)
           go_roundg kj11
           case measure=>have:=HK1.out;have:=HJ11.out;omega
           case rel=>exact ⟨(wrap64 (x3_1 + 1)),(by first|rfl|(simp;done)|(simp [*];done)),H',⟨by have:=HK1.out;have:=HJ11.out;omega⟩,⟨by (with_reducible repeat (first|refine zah ?_ _|refine zak ?_|refine zag ?_ _));exact BK104.out⟩,⟨by repeat (first|(with_reducible first|exact HB.out|apply zae|apply zab|apply zaf|refine zai ?_ GE104.out)|exact HB.out)⟩⟩
      ·rw [if_neg c11] at H
       have c11b0 : decide (x3_1 < (l0_2.length : Int)) = false:=decide_eq_false c11
       clear c11
       obtain rfl:=Option.some.inj H
       have hcz30_0 : wr.cell? ⟨gb104,0,none⟩ = some (.string a0_0):=(zad BK104.out 0).trans rfl
       have hcz30_1 : wr.cell? ⟨gb104,1,none⟩ = some (.int .i64 a0_1):=(zad BK104.out 1).trans rfl
       have hcz30_2 : wr.cell? ⟨gb104,2,none⟩ = some (.slice A0_2 l0_2.length c0_2):=(zad BK104.out 2).trans rfl
       have hfz30_0:=zaa BK104.out 0
       have hfz30_1:=zaa BK104.out 1
       have hfz30_2:=zaa BK104.out 2
       go_wp2
       repeat (go_quiet (fail);try go_wp2)
       go_ret
       exact ⟨by first|rfl|(simp [errW_none,errW_some] <;> rfl)|(simp [*,errW_none,errW_some] <;> rfl),by repeat (first|(with_reducible first|exact HB.out|apply zae|apply zab|apply zaf|refine zai ?_ GE104.out)|exact HB.out)⟩
  ·replace c5:=Bool.eq_false_iff.mpr c5
   subst c5
   have H1 : (some 5) = some r:=by rw [if_neg (show ¬ (false = true) by decide)] at H;exact H
   clear H
   have H:=H1
   clear H1
   obtain rfl:=Option.some.inj H
   go_enter Try.func31,Try.ntmps31
   go_wp2_with (first|((with_reducible refine zbh (N:=1) rfl ?_);refine zbf ?hg (N:=1) ?hd (cs:=#[.string a0_0,.int .i64 a0_1,.slice A0_2 l0_2.length c0_2]) (t:=42) ?hr ?_;(case hd=>rfl);(case hg=>rfl);(case hr=>first|(go_simp;done)|(go_simp;rfl));intro gb104 hg w31 hbox hb;have n0_:=zac.mk (zao (by repeat (first|(with_reducible first|exact HB.out|apply zae|apply zab|apply zaf)|exact HB.out)) hb);have n1_:=zac.mk (hbox);have n2_:=zac.mk ((by rw [hg];exact (zam (by repeat (first|(with_reducible first|exact HB.out|apply zae|apply zab|apply zaf)|exact HB.out))) : w.heap.size ≤ gb104));have n3_:=zac.mk ((by rw [hg];exact (zam (by repeat (first|(with_reducible first|exact HB.out|apply zae|apply zab|apply zaf)|exact HB.out))) : w.heap.size ≤ gb104));clear HB;have HB:=n0_;have BK104:=n1_;have GW104:=n2_;have GE104:=n3_;clear n0_ n1_ n2_ n3_;clear hb hbox hg;have hcz32_0 : w31.cell? ⟨gb104,0,none⟩ = some (.string a0_0):=(zad BK104.out 0).trans rfl;have hcz32_1 : w31.cell? ⟨gb104,1,none⟩ = some (.int .i64 a0_1):=(zad BK104.out 1).trans rfl;have hcz32_2 : w31.cell? ⟨gb104,2,none⟩ = some (.slice A0_2 l0_2.length c0_2):=(zad BK104.out 2).trans rfl;have hfz32_0:=zaa BK104.out 0;have hfz32_1:=zaa BK104.out 1;have hfz32_2:=zaa BK104.out 2)|(go_at_call 59;(with_reducible refine (zas.calls k a0_0 true _ A2.out).mono ?_);rintro e w' ⟨rfl,⟨nd,rfl⟩⟩;(try first|exact ⟨rfl,_,World.drewN_drewN _ _ _⟩|exact ⟨rfl,_,Eq.trans (World.drewN_drewN _ _ _) (congrArg (World.drewN _) (Nat.add_assoc _ _ _))⟩))|(go_at_call 60;(with_reducible refine (zbo.calls a0_1 false _ A4.out).mono ?_);rintro e w' ⟨rfl,⟨nd,rfl⟩⟩;(try first|exact ⟨rfl,_,World.drewN_drewN _ _ _⟩|exact ⟨rfl,_,Eq.trans (World.drewN_drewN _ _ _) (congrArg (World.drewN _) (Nat.add_assoc _ _ _))⟩)))
   repeat (go_quiet (first|((with_reducible refine zbh (N:=1) rfl ?_);refine zbf ?hg (N:=1) ?hd (cs:=#[.string a0_0,.int .i64 a0_1,.slice A0_2 l0_2.length c0_2]) (t:=42) ?hr ?_;(case hd=>rfl);(case hg=>rfl);(case hr=>first|(go_simp;done)|(go_simp;rfl));intro gb104 hg w31 hbox hb;have n0_:=zac.mk (zao (by repeat (first|(with_reducible first|exact HB.out|apply zae|apply zab|apply zaf)|exact HB.out)) hb);have n1_:=zac.mk (hbox);have n2_:=zac.mk ((by rw [hg];exact (zam (by repeat (first|(with_reducible first|exact HB.out|apply zae|apply zab|apply zaf)|exact HB.out))) : w.heap.size ≤ gb104));have n3_:=zac.mk ((by rw [hg];exact (zam (by repeat (first|(with_reducible first|exact HB.out|apply zae|apply zab|apply zaf)|exact HB.out))) : w.heap.size ≤ gb104));clear HB;have HB:=n0_;have BK104:=n1_;have GW104:=n2_;have GE104:=n3_;clear n0_ n1_ n2_ n3_;clear hb hbox hg;have hcz32_0 : w31.cell? ⟨gb104,0,none⟩ = some (.string a0_0):=(zad BK104.out 0).trans rfl;have hcz32_1 : w31.cell? ⟨gb104,1,none⟩ = some (.int .i64 a0_1):=(zad BK104.out 1).trans rfl;have hcz32_2 : w31.cell? ⟨gb104,2,none⟩ = some (.slice A0_2 l0_2.length c0_2):=(zad BK104.out 2).trans rfl;have hfz32_0:=zaa BK104.out 0;have hfz32_1:=zaa BK104.out 1;have hfz32_2:=zaa BK104.out 2)|(go_at_call 59;(with_reducible refine (zas.calls k a0_0 true _ A2.out).mono ?_);rintro e w' ⟨rfl,⟨nd,rfl⟩⟩;(try first|exact ⟨rfl,_,World.drewN_drewN _ _ _⟩|exact ⟨rfl,_,Eq.trans (World.drewN_drewN _ _ _) (congrArg (World.drewN _) (Nat.add_assoc _ _ _))⟩))|(go_at_call 60;(with_reducible refine (zbo.calls a0_1 false _ A4.out).mono ?_);rintro e w' ⟨rfl,⟨nd,rfl⟩⟩;(try first|exact ⟨rfl,_,World.drewN_drewN _ _ _⟩|exact ⟨rfl,_,Eq.trans (World.drewN_drewN _ _ _) (congrArg (World.drewN _) (Nat.add_assoc _ _ _))⟩)));try go_wp2_with (first|((with_reducible refine zbh (N:=1) rfl ?_);refine zbf ?hg (N:=1) ?hd (cs:=#[.string a0_0,.int .i64 a0_1,.slice A0_2 l0_2.length c0_2]) (t:=42) ?hr ?_;(case hd=>rfl);(case hg=>rfl);(case hr=>first|(go_simp;done)|(go_simp;rfl));intro gb104 hg w31 hbox hb;have n0_:=zac.mk (zao (by repeat (first|(with_reducible first|exact HB.out|apply zae|apply zab|apply zaf)|exact HB.out)) hb);have n1_:=zac.mk (hbox);have n2_:=zac.mk ((by rw [hg];exact (zam (by repeat (first|(with_reducible first|exact HB.out|apply zae|apply zab|apply zaf)|exact HB.out))) : w.heap.size ≤ gb104));have n3_:=zac.mk ((by rw [hg];exact (zam (by repeat (first|(with_reducible first|exact HB.out|apply zae|apply zab|apply zaf)|exact HB.out))) : w.heap.size ≤ gb104));clear HB;have HB:=n0_;have BK104:=n1_;have GW104:=n2_;have GE104:=n3_;clear n0_ n1_ n2_ n3_;clear hb hbox hg;have hcz32_0 : w31.cell? ⟨gb104,0,none⟩ = some (.string a0_0):=(zad BK104.out 0).trans rfl;have hcz32_1 : w31.cell? ⟨gb104,1,none⟩ = some (.int .i64 a0_1):=(zad BK104.out 1).trans rfl;have hcz32_2 : w31.cell? ⟨gb104,2,none⟩ = some (.slice A0_2 l0_2.length c0_2):=(zad BK104.out 2).trans rfl;have hfz32_0:=zaa BK104.out 0;have hfz32_1:=zaa BK104.out 1;have hfz32_2:=zaa BK104.out 2)|(go_at_call 59;(with_reducible refine (zas.calls k a0_0 true _ A2.out).mono ?_);rintro e w' ⟨rfl,⟨nd,rfl⟩⟩;(try first|exact ⟨rfl,_,World.drewN_drewN _ _ _⟩|exact ⟨rfl,_,Eq.trans (World.drewN_drewN _ _ _) (congrArg (World.drewN _) (Nat.add_assoc _ _ _))⟩))|(go_at_call 60;(with_reducible refine (zbo.calls a0_1 false _ A4.out).mono ?_);rintro e w' ⟨rfl,⟨nd,rfl⟩⟩;(try first|exact ⟨rfl,_,World.drewN_drewN _ _ _⟩|exact ⟨rfl,_,Eq.trans (World.drewN_drewN _ _ _) (congrArg (World.drewN _) (Nat.add_assoc _ _ _))⟩))))
   go_ret
   exact ⟨by first|rfl|(simp [errW_none,errW_some] <;> rfl)|(simp [*,errW_none,errW_some] <;> rfl),by repeat (first|(with_reducible first|exact HB.out|apply zae|apply zab|apply zaf|refine zai ?_ GE104.out)|exact HB.out)⟩
 ·replace c3:=Bool.eq_false_iff.mpr c3
  subst c3
  have H1 : (some 1) = some r:=by rw [if_neg (show ¬ (false = true) by decide)] at H;exact H
  clear H
  have H:=H1
  clear H1
  obtain rfl:=Option.some.inj H
  go_enter Try.func31,Try.ntmps31
  go_wp2_with (first|((with_reducible refine zbh (N:=1) rfl ?_);refine zbf ?hg (N:=1) ?hd (cs:=#[.string a0_0,.int .i64 a0_1,.slice A0_2 l0_2.length c0_2]) (t:=42) ?hr ?_;(case hd=>rfl);(case hg=>rfl);(case hr=>first|(go_simp;done)|(go_simp;rfl));intro gb104 hg w33 hbox hb;have n0_:=zac.mk (zao (by repeat (first|(with_reducible first|exact HB.out|apply zae|apply zab|apply zaf)|exact HB.out)) hb);have n1_:=zac.mk (hbox);have n2_:=zac.mk ((by rw [hg];exact (zam (by repeat (first|(with_reducible first|exact HB.out|apply zae|apply zab|apply zaf)|exact HB.out))) : w.heap.size ≤ gb104));have n3_:=zac.mk ((by rw [hg];exact (zam (by repeat (first|(with_reducible first|exact HB.out|apply zae|apply zab|apply zaf)|exact HB.out))) : w.heap.size ≤ gb104));clear HB;have HB:=n0_;have BK104:=n1_;have GW104:=n2_;have GE104:=n3_;clear n0_ n1_ n2_ n3_;clear hb hbox hg;have hcz34_0 : w33.cell? ⟨gb104,0,none⟩ = some (.string a0_0):=(zad BK104.out 0).trans rfl;have hcz34_1 : w33.cell? ⟨gb104,1,none⟩ = some (.int .i64 a0_1):=(zad BK104.out 1).trans rfl;have hcz34_2 : w33.cell? ⟨gb104,2,none⟩ = some (.slice A0_2 l0_2.length c0_2):=(zad BK104.out 2).trans rfl;have hfz34_0:=zaa BK104.out 0;have hfz34_1:=zaa BK104.out 1;have hfz34_2:=zaa BK104.out 2)|(go_at_call 59;(with_reducible refine (zas.calls k a0_0 false _ A2.out).mono ?_);rintro e w' ⟨rfl,⟨nd,rfl⟩⟩;(try first|exact ⟨rfl,_,World.drewN_drewN _ _ _⟩|exact ⟨rfl,_,Eq.trans (World.drewN_drewN _ _ _) (congrArg (World.drewN _) (Nat.add_assoc _ _ _))⟩)))
  repeat (go_quiet (first|((with_reducible refine zbh (N:=1) rfl ?_);refine zbf ?hg (N:=1) ?hd (cs:=#[.string a0_0,.int .i64 a0_1,.slice A0_2 l0_2.length c0_2]) (t:=42) ?hr ?_;(case hd=>rfl);(case hg=>rfl);(case hr=>first|(go_simp;done)|(go_simp;rfl));intro gb104 hg w33 hbox hb;have n0_:=zac.mk (zao (by repeat (first|(with_reducible first|exact HB.out|apply zae|apply zab|apply zaf)|exact HB.out)) hb);have n1_:=zac.mk (hbox);have n2_:=zac.mk ((by rw [hg];exact (zam (by repeat (first|(with_reducible first|exact HB.out|apply zae|apply zab|apply zaf)|exact HB.out))) : w.heap.size ≤ gb104));have n3_:=zac.mk ((by rw [hg];exact (zam (by repeat (first|(with_reducible first|exact HB.out|apply zae|apply zab|apply zaf)|exact HB.out))) : w.heap.size ≤ gb104));clear HB;have HB:=n0_;have BK104:=n1_;have GW104:=n2_;have GE104:=n3_;clear n0_ n1_ n2_ n3_;clear hb hbox hg;have hcz34_0 : w33.cell? ⟨gb104,0,none⟩ = some (.string a0_0):=(zad BK104.out 0).trans rfl;have hcz34_1 : w33.cell? ⟨gb104,1,none⟩ = some (.int .i64 a0_1):=(zad BK104.out 1).trans rfl;have hcz34_2 : w33.cell? ⟨gb104,2,none⟩ = some (.slice A0_2 l0_2.length c0_2):=(zad BK104.out 2).trans rfl;have hfz34_0:=zaa BK104.out 0;have hfz34_1:=zaa BK104.out 1;have hfz34_2:=zaa BK104.out 2)|(go_at_call 59;(with_reducible refine (zas.calls k a0_0 false _ A2.out).mono ?_);rintro e w' ⟨rfl,⟨nd,rfl⟩⟩;(try first|exact ⟨rfl,_,World.drewN_drewN _ _ _⟩|exact ⟨rfl,_,Eq.trans (World.drewN_drewN _ _ _) (congrArg (World.drewN _) (Nat.add_assoc _ _ _))⟩)));try go_wp2_with (first|((with_reducible refine zbh (N:=1) rfl ?_);refine zbf ?hg (N:=1) ?hd (cs:=#[.string a0_0,.int .i64 a0_1,.slice A0_2 l0_2.length c0_2]) (t:=42) ?hr ?_;(case hd=>rfl);(case hg=>rfl);(case hr=>first|(go_simp;done)|(go_simp;rfl));intro gb104 hg w33 hbox hb;have n0_:=zac.mk (zao (by repeat (first|(with_reducible first|exact HB.out|apply zae|apply zab|apply zaf)|exact HB.out)) hb);have n1_:=zac.mk (hbox);have n2_:=zac.mk ((by rw [hg];exact (zam (by repeat (first|(with_reducible first|exact HB.out|apply zae|apply zab|apply zaf)|exact HB.out))) : w.heap.size ≤ gb104));have n3_:=zac.mk ((by rw [hg];exact (zam (by repeat (first|(with_reducible first|exact HB.out|apply zae|apply zab|apply zaf)|exact HB.out))) : w.heap.size ≤ gb104));clear HB;have HB:=n0_;have BK104:=n1_;have GW104:=n2_;have GE104:=n3_;clear n0_ n1_ n2_ n3_;clear hb hbox hg;have hcz34_0 : w33.cell? ⟨gb104,0,none⟩ = some (.string a0_0):=(zad BK104.out 0).trans rfl;have hcz34_1 : w33.cell? ⟨gb104,1,none⟩ = some (.int .i64 a0_1):=(zad BK104.out 1).trans rfl;have hcz34_2 : w33.cell? ⟨gb104,2,none⟩ = some (.slice A0_2 l0_2.length c0_2):=(zad BK104.out 2).trans rfl;have hfz34_0:=zaa BK104.out 0;have hfz34_1:=zaa BK104.out 1;have hfz34_2:=zaa BK104.out 2)|(go_at_call 59;(with_reducible refine (zas.calls k a0_0 false _ A2.out).mono ?_);rintro e w' ⟨rfl,⟨nd,rfl⟩⟩;(try first|exact ⟨rfl,_,World.drewN_drewN _ _ _⟩|exact ⟨rfl,_,Eq.trans (World.drewN_drewN _ _ _) (congrArg (World.drewN _) (Nat.add_assoc _ _ _))⟩))))
  go_ret
  exact ⟨by first|rfl|(simp [errW_none,errW_some] <;> rfl)|(simp [*,errW_none,errW_some] <;> rfl),by repeat (first|(with_reducible first|exact HB.out|apply zae|apply zab|apply zaf|refine zai ?_ GE104.out)|exact HB.out)⟩
def zba.l0 : Nat → List (S42) → ByteArray → Int → Option (Int)
 | 0,_,_,_=>none
 | k + 1,x0,x1,x5=>if x5 < (x0.length : Int) then (if 0 ≤ x5 then (if ((zbi x0 x5).f0).toList = x1.toList then (some x5) else (zba.l0 k x0 x1 (wrap64 (x5 + 1)))) else (none)) else (some (-1))
def zba.f (k : Nat) (l0 : List (S42)) (a1 : ByteArray) : Option (Int):=zba.l0 k l0 a1 0
set_option maxHeartbeats 8000000 in
set_option maxRecDepth 100000 in
theorem zba.calls (k : Nat) (A0 : Option Addr) (c0 : Nat) (l0 : List (S42)) (a1 : ByteArray) (r : Int) (w : World) (hr0 : Kd.C k42 w A0 l0.length l0) (hc0 : l0.length ≤ c0) (h : zba.f k l0 a1 = some r) :
  Calls Try.prog 32 #[.slice A0 l0.length c0,.string a1] w fun e w'=>e = .returned (.int .i64 r) ∧ zay w w':=by
 have HR0:=zac.mk hr0
 have HC0:=zac.mk hc0
 clear hr0 hc0
 have H : (zba.l0 k l0 a1 0) = some r:=h
 clear h
 have H':=zac.mk H
 clear H
 go_enter Try.func32,Try.ntmps32
 go_wp2
 go_loopg [5] k (fun kq v5 w'=>∃ (x5_1 : Int),v5 = .int .i64 x5_1 ∧ zac (zba.l0 kq l0 a1 x5_1 = some r) ∧ zac (kq ≤ k) ∧ zay w w')
 case atStart=>exact ⟨(0),(by first|rfl|(simp;done)|(simp [*];done)),H',⟨Nat.le_refl _⟩,by repeat (first|exact zay.refl _|apply zay.step)⟩
 case round =>
  clear H'
  obtain ⟨x5_1,rfl,HA,HK1,⟨m1,rfl⟩⟩:=hrel
  cases gk with
  | zero=>exact absurd HA.out (by simp [zba.l0])
  | succ k1 =>
   have H:=HA.out
   clear HA
   simp only [zba.l0] at H
   by_cases c3 : x5_1 < (l0.length : Int)
   ·rw [if_pos c3] at H
    have c3b0 : decide (x5_1 < (l0.length : Int)) = true:=decide_eq_true c3
    clear c3
    by_cases c4 : 0 ≤ x5_1
    ·rw [if_pos c4] at H
     have c4b0 : decide (0 ≤ x5_1) = true:=decide_eq_true c4
     clear c4
     by_cases c5 : ((zbi l0 x5_1).f0).toList = a1.toList
     ·rw [if_pos c5] at H
      have c5b0 : (((zbi l0 x5_1).f0).toList == a1.toList) = true:=beq_iff_eq.mpr c5
      have c5b1 : (((zbi l0 x5_1).f0).toList != a1.toList) = false:=bne_eq_false_iff_eq.mpr c5
      clear c5
      obtain rfl:=Option.some.inj H
      have p113 : 0 ≤ (x5_1 : Int):=of_decide_eq_true (by first|(with_reducible assumption)|assumption)
      have q113 : x5_1 < (l0.length : Int):=of_decide_eq_true (by first|(with_reducible assumption)|assumption)
      obtain ⟨ad113,A113_2,c113_2,e113,hx113_0,hx113_1,hx113_2,hl113_2,hi113_2⟩:=at_T42 HR0.out x5_1 p113 q113
      cases e113
      have HR113_2:=zac.mk hi113_2
      have HC113_2:=zac.mk hl113_2
      clear hi113_2 hl113_2
      replace p113:=eq_true p113
      replace q113:=eq_true q113
      go_wp2
      go_ret
      exact ⟨by first|rfl|(simp;done)|(simp [*];done),by repeat (first|exact zay.refl _|apply zay.step)⟩
     ·rw [if_neg c5] at H
      have c5b0 : (((zbi l0 x5_1).f0).toList == a1.toList) = false:=beq_eq_false_iff_ne.mpr c5
      have c5b1 : (((zbi l0 x5_1).f0).toList != a1.toList) = true:=bne_iff_ne.mpr c5
      have H':=zac.mk H
      clear H
      have p113 : 0 ≤ (x5_1 : Int):=of_decide_eq_true (by first|(with_reducible assumption)|assumption)
      have q113 : x5_1 < (l0.length : Int):=of_decide_eq_true (by first|(with_reducible assumption)|assumption)
      obtain ⟨ad113,A113_2,c113_2,e113,hx113_0,hx113_1,hx113_2,hl113_2,hi113_2⟩:=at_T42 HR0.out x5_1 p113 q113
      cases e113
      have HR113_2:=zac.mk hi113_2
      have HC113_2:=zac.mk hl113_2
      clear hi113_2 hl113_2
      replace p113:=eq_true p113
      replace q113:=eq_true q113
      go_wp2
      go_roundg k1
      case measure=>have:=HK1.out;omega
      case rel=>exact ⟨(wrap64 (x5_1 + 1)),(by first|rfl|(simp;done)|(simp [*];done)),H',⟨by have:=HK1.out;omega⟩,by repeat (first|exact zay.refl _|apply zay.step)⟩
    ·rw [if_neg c4] at H
     exact absurd H (by simp)
   ·rw [if_neg c3] at H
    have c3b0 : decide (x5_1 < (l0.length : Int)) = false:=decide_eq_false c3
    clear c3
    obtain rfl:=Option.some.inj H
    go_wp2
    go_ret
    exact ⟨by first|rfl|(simp;done)|(simp [*];done),by repeat (first|exact zay.refl _|apply zay.step)⟩
def zbn.f (a0 : Int) : Option (Bool):=if a0 ≥ 65 then (some (decide (a0 ≤ 90))) else (some false)
set_option maxHeartbeats 8000000 in
set_option maxRecDepth 100000 in
theorem zbn.calls (a0 : Int) (r : Bool) (w : World) (h : zbn.f a0 = some r) :
  Calls Try.prog 62 #[.int .u8 a0] w fun e w'=>e = .returned (.bool r) ∧ zay w w':=by
 have H : (if a0 ≥ 65 then (some (decide (a0 ≤ 90))) else (some false)) = some r:=h
 clear h
 by_cases c2 : a0 ≥ 65
 ·rw [if_pos c2] at H
  have c2b0 : decide (65 ≤ a0) = true:=decide_eq_true c2
  clear c2
  obtain rfl:=Option.some.inj H
  go_enter Try.func62,Try.ntmps62
  go_wp2
  go_ret
  exact ⟨by first|rfl|(simp;done)|(simp [*];done),by repeat (first|exact zay.refl _|apply zay.step)⟩
 ·rw [if_neg c2] at H
  have c2b0 : decide (65 ≤ a0) = false:=decide_eq_false c2
  clear c2
  obtain rfl:=Option.some.inj H
  go_enter Try.func62,Try.ntmps62
  go_wp2
  go_ret
  exact ⟨by first|rfl|(simp;done)|(simp [*];done),by repeat (first|exact zay.refl _|apply zay.step)⟩
end Go.Proofs.Ytepnddmalheoiaa.Q
namespace Go.Proofs.Ytepnddmalheoiaa.Q
open Go.Proofs.Ytepnddmalheoiaa.H
open Go.RowKit Go.Proofs.YtepnddmalheoiaaW.PrintWords Go.Proofs.YtepnddmalheoiaaW.PrintLast Go.Proofs.YtepnddmalheoiaaW.PrintMore
attribute [local go_sem] str_leq str_geq str_gtr max2_int min2_int max_two min_two max_three min_three max_four min_four   -- for this text's walks alone
def zbs.f (a0 : ByteArray) : Option (Bool):=if (a0.size : Int) = 3 then (if 0 < (a0.size : Int) then ((zbn.f (bt a0 0)).bind fun t114=>(if t114 = true then (if 1 < (a0.size : Int) then ((zbn.f (bt a0 1)).bind fun t115=>(if t115 = true then (if 2 < (a0.size : Int) then ((zbn.f (bt a0 2)).bind fun t116=>(some t116)) else (none)) else (some false))) else (none)) else (some false))) else (none)) else (some false)
set_option maxHeartbeats 8000000 in
set_option maxRecDepth 100000 in
theorem zbs.calls (a0 : ByteArray) (r : Bool) (w : World) (h : zbs.f a0 = some r) :
  Calls Try.prog 33 #[.string a0] w fun e w'=>e = .returned (.bool r) ∧ zay w w':=by
 have H : (if (a0.size : Int) = 3 then (if 0 < (a0.size : Int) then ((zbn.f (bt a0 0)).bind fun t114=>(if t114 = true then (if 1 < (a0.size : Int) then ((zbn.f (bt a0 1)).bind fun t115=>(if t115 = true then (if 2 < (a0.size : Int) then ((zbn.f (bt a0 2)).bind fun t116=>(some t116)) else (none)) else (some false))) else (none)) else (some false))) else (none)) else (some false)) = some r:=h
 clear h
 by_cases c2 : (a0.size : Int) = 3
 ·rw [if_pos c2] at H
  have c2b0 : ((a0.size : Int) == 3) = true:=beq_iff_eq.mpr c2
  have c2b1 : ((a0.size : Int) != 3) = false:=bne_eq_false_iff_eq.mpr c2
  clear c2
  by_cases c3 : 0 < (a0.size : Int)
  ·rw [if_pos c3] at H
   have c3b0 : decide (0 < (a0.size : Int)) = true:=decide_eq_true c3
   have c3b1 : decide (0 < a0.size) = true:=decide_eq_true (by omega)
   clear c3
   replace H:=Option.bind_eq_some_iff.mp H
   obtain ⟨t114,A50,H⟩:=H
   replace H : (if t114 = true then (if 1 < (a0.size : Int) then ((zbn.f (bt a0 1)).bind fun t115=>(if t115 = true then (if 2 < (a0.size : Int) then ((zbn.f (bt a0 2)).bind fun t116=>(some t116)) else (none)) else (some false))) else (none)) else (some false)) = some r:=H
   have A5:=zac.mk A50
   clear A50
   by_cases c6 : t114 = true
   ·subst c6
    have H1 : (if 1 < (a0.size : Int) then ((zbn.f (bt a0 1)).bind fun t115=>(if t115 = true then (if 2 < (a0.size : Int) then ((zbn.f (bt a0 2)).bind fun t116=>(some t116)) else (none)) else (some false))) else (none)) = some r:=by rw [if_pos rfl] at H;exact H
    clear H
    have H:=H1
    clear H1
    by_cases c7 : 1 < (a0.size : Int)
    ·rw [if_pos c7] at H
     have c7b0 : decide (1 < (a0.size : Int)) = true:=decide_eq_true c7
     have c7b1 : decide (1 < a0.size) = true:=decide_eq_true (by omega)
     clear c7
     replace H:=Option.bind_eq_some_iff.mp H
     obtain ⟨t115,A90,H⟩:=H
     replace H : (if t115 = true then (if 2 < (a0.size : Int) then ((zbn.f (bt a0 2)).bind fun t116=>(some t116)) else (none)) else (some false)) = some r:=H
     have A9:=zac.mk A90
     clear A90
     by_cases c10 : t115 = true
     ·subst c10
      have H1 : (if 2 < (a0.size : Int) then ((zbn.f (bt a0 2)).bind fun t116=>(some t116)) else (none)) = some r:=by rw [if_pos rfl] at H;exact H
      clear H
      have H:=H1
      clear H1
      by_cases c11 : 2 < (a0.size : Int)
      ·rw [if_pos c11] at H
       have c11b0 : decide (2 < (a0.size : Int)) = true:=decide_eq_true c11
       have c11b1 : decide (2 < a0.size) = true:=decide_eq_true (by omega)
       clear c11
       replace H:=Option.bind_eq_some_iff.mp H
       obtain ⟨t116,A130,H⟩:=H
       replace H : (some t116) = some r:=H
       have A13:=zac.mk A130
       clear A130
       obtain rfl:=Option.some.inj H
       have p4 : 0 ≤ (0 : Int):=(by omega)
       have q4 : 0 < a0.size:=(by have : (0 : Int) < (a0.size : Int):=of_decide_eq_true (by first|(with_reducible assumption)|assumption);omega)
       have hx4 : ∀ h : 0 < a0.size,((a0[0]'h).toNat : Int) = bt a0 0:=bt_at a0 0
       clear p4
       have qi4 : (0 < (a0.size : Int)) = True:=eq_true (of_decide_eq_true (by first|(with_reducible assumption)|assumption))
       replace q4:=eq_true q4
       go_enter Try.func33,Try.ntmps33
       go_wp2_with (first|(go_at_call 62;(with_reducible refine (zbn.calls (bt a0 0) true _ A5.out).mono ?_);rintro e w' ⟨rfl,⟨nd,rfl⟩⟩;have p8 : 0 ≤ (1 : Int):=(by omega);have q8 : 1 < a0.size:=(by have : (1 : Int) < (a0.size : Int):=of_decide_eq_true (by first|(with_reducible assumption)|assumption);omega);have hx8 : ∀ h : 1 < a0.size,((a0[1]'h).toNat : Int) = bt a0 1:=bt_at a0 1;clear p8;have qi8 : (1 < (a0.size : Int)) = True:=eq_true (of_decide_eq_true (by first|(with_reducible assumption)|assumption));replace q8:=eq_true q8)|(go_at_call 62;(with_reducible refine (zbn.calls (bt a0 1) true _ A9.out).mono ?_);rintro e w' ⟨rfl,⟨nd,rfl⟩⟩;have p12 : 0 ≤ (2 : Int):=(by omega);have q12 : 2 < a0.size:=(by have : (2 : Int) < (a0.size : Int):=of_decide_eq_true (by first|(with_reducible assumption)|assumption);omega);have hx12 : ∀ h : 2 < a0.size,((a0[2]'h).toNat : Int) = bt a0 2:=bt_at a0 2;clear p12;have qi12 : (2 < (a0.size : Int)) = True:=eq_true (of_decide_eq_true (by first|(with_reducible assumption)|assumption));replace q12:=eq_true q12)|(go_at_call 62;(with_reducible refine (zbn.calls (bt a0 2) t116 _ A13.out).mono ?_);rintro e w' ⟨rfl,⟨nd,rfl⟩⟩))
       go_ret
       exact ⟨by first|rfl|(simp;done)|(simp [*];done),by repeat (first|exact zay.refl _|apply zay.step)⟩
      ·rw [if_neg c11] at H
       exact absurd H (by simp)
     ·replace c10:=Bool.eq_false_iff.mpr c10
      subst c10
      have H1 : (some false) = some r:=by rw [if_neg (show ¬ (false = true) by decide)] at H;exact H
      clear H
      have H:=H1
      clear H1
      obtain rfl:=Option.some.inj H
      have p4 : 0 ≤ (0 : Int):=(by omega)
      have q4 : 0 < a0.size:=(by have : (0 : Int) < (a0.size : Int):=of_decide_eq_true (by first|(with_reducible assumption)|assumption);omega)
      have hx4 : ∀ h : 0 < a0.size,((a0[0]'h).toNat : Int) = bt a0 0:=bt_at a0 0
      clear p4
      have qi4 : (0 < (a0.size : Int)) = True:=eq_true (of_decide_eq_true (by first|(with_reducible assumption)|assumption))
      replace q4:=eq_true q4
      go_enter Try.func33,Try.ntmps33
      go_wp2_with (first|(go_at_call 62;(with_reducible refine (zbn.calls (bt a0 0) true _ A5.out).mono ?_);rintro e w' ⟨rfl,⟨nd,rfl⟩⟩;have p8 : 0 ≤ (1 : Int):=(by omega);have q8 : 1 < a0.size:=(by have : (1 : Int) < (a0.size : Int):=of_decide_eq_true (by first|(with_reducible assumption)|assumption);omega);have hx8 : ∀ h : 1 < a0.size,((a0[1]'h).toNat : Int) = bt a0 1:=bt_at a0 1;clear p8;have qi8 : (1 < (a0.size : Int)) = True:=eq_true (of_decide_eq_true (by first|(with_reducible assumption)|assumption));replace q8:=eq_true q8)|(go_at_call 62;(with_reducible refine (zbn.calls (bt a0 1) false _ A9.out).mono ?_);rintro e w' ⟨rfl,⟨nd,rfl⟩⟩))
      go_ret
      exact ⟨by first|rfl|(simp;done)|(simp [*];done),by repeat (first|exact zay.refl _|apply zay.step)⟩
    ·rw [if_neg c7] at H
     exact absurd H (by simp)
   ·replace c6:=Bool.eq_false_iff.mpr c6
    subst c6
    have H1 : (some false) = some r:=by rw [if_neg (show ¬ (false = true) by decide)] at H;exact H
    clear H
    have H:=H1
    clear H1
    obtain rfl:=Option.some.inj H
    have p4 : 0 ≤ (0 : Int):=(by omega)
    have q4 : 0 < a0.size:=(by have : (0 : Int) < (a0.size : Int):=of_decide_eq_true (by first|(with_reducible assumption)|assumption);omega)
    have hx4 : ∀ h : 0 < a0.size,((a0[0]'h).toNat : Int) = bt a0 0:=bt_at a0 0
    clear p4
    have qi4 : (0 < (a0.size : Int)) = True:=eq_true (of_decide_eq_true (by first|(with_reducible assumption)|assumption))
    replace q4:=eq_true q4
    go_enter Try.func33,Try.ntmps33
    go_wp2_with (first|(go_at_call 62;(with_reducible refine (zbn.calls (bt a0 0) false _ A5.out).mono ?_);rintro e w' ⟨rfl,⟨nd,rfl⟩⟩))
    go_ret
    exact ⟨by first|rfl|(simp;done)|(simp [*];done),by repeat (first|exact zay.refl _|apply zay.step)⟩
  ·rw [if_neg c3] at H
   exact absurd H (by simp)
 ·rw [if_neg c2] at H
  have c2b0 : ((a0.size : Int) == 3) = false:=beq_eq_false_iff_ne.mpr c2
  have c2b1 : ((a0.size : Int) != 3) = true:=bne_iff_ne.mpr c2
  obtain rfl:=Option.some.inj H
  go_enter Try.func33,Try.ntmps33
  go_wp2
  go_ret
  exact ⟨by first|rfl|(simp;done)|(simp [*];done),by repeat (first|exact zay.refl _|apply zay.step)⟩
def zav.l0 : Nat → List (S39) → ByteArray → Int → Option (Int)
 | 0,_,_,_=>none
 | k + 1,x0,x1,x5=>if x5 < (x0.length : Int) then (if 0 ≤ x5 then (if ((zbd x0 x5).f0).toList = x1.toList then (some x5) else (zav.l0 k x0 x1 (wrap64 (x5 + 1)))) else (none)) else (some (-1))
def zav.f (k : Nat) (l0 : List (S39)) (a1 : ByteArray) : Option (Int):=zav.l0 k l0 a1 0
set_option maxHeartbeats 8000000 in
set_option maxRecDepth 100000 in
theorem zav.calls (k : Nat) (A0 : Option Addr) (c0 : Nat) (l0 : List (S39)) (a1 : ByteArray) (r : Int) (w : World) (hr0 : Kd.C k39 w A0 l0.length l0) (hc0 : l0.length ≤ c0) (h : zav.f k l0 a1 = some r) :
  Calls Try.prog 34 #[.slice A0 l0.length c0,.string a1] w fun e w'=>e = .returned (.int .i64 r) ∧ zay w w':=by
 have HR0:=zac.mk hr0
 have HC0:=zac.mk hc0
 clear hr0 hc0
 have H : (zav.l0 k l0 a1 0) = some r:=h
 clear h
 have H':=zac.mk H
 clear H
 go_enter Try.func34,Try.ntmps34
 go_wp2
 go_loopg [5] k (fun kq v5 w'=>∃ (x5_1 : Int),v5 = .int .i64 x5_1 ∧ zac (zav.l0 kq l0 a1 x5_1 = some r) ∧ zac (kq ≤ k) ∧ zay w w')
 case atStart=>exact ⟨(0),(by first|rfl|(simp;done)|(simp [*];done)),H',⟨Nat.le_refl _⟩,by repeat (first|exact zay.refl _|apply zay.step)⟩
 case round =>
  clear H'
  obtain ⟨x5_1,rfl,HA,HK1,⟨m1,rfl⟩⟩:=hrel
  cases gk with
  | zero=>exact absurd HA.out (by simp [zav.l0])
  | succ k1 =>
   have H:=HA.out
   clear HA
   simp only [zav.l0] at H
   by_cases c3 : x5_1 < (l0.length : Int)
   ·rw [if_pos c3] at H
    have c3b0 : decide (x5_1 < (l0.length : Int)) = true:=decide_eq_true c3
    clear c3
    by_cases c4 : 0 ≤ x5_1
    ·rw [if_pos c4] at H
     have c4b0 : decide (0 ≤ x5_1) = true:=decide_eq_true c4
     clear c4
     by_cases c5 : ((zbd l0 x5_1).f0).toList = a1.toList
     ·rw [if_pos c5] at H
      have c5b0 : (((zbd l0 x5_1).f0).toList == a1.toList) = true:=beq_iff_eq.mpr c5
      have c5b1 : (((zbd l0 x5_1).f0).toList != a1.toList) = false:=bne_eq_false_iff_eq.mpr c5
      clear c5
      obtain rfl:=Option.some.inj H
      have p117 : 0 ≤ (x5_1 : Int):=of_decide_eq_true (by first|(with_reducible assumption)|assumption)
      have q117 : x5_1 < (l0.length : Int):=of_decide_eq_true (by first|(with_reducible assumption)|assumption)
      obtain ⟨ad117,e117,hx117_0,hx117_1⟩:=at_T39 HR0.out x5_1 p117 q117
      cases e117
      replace p117:=eq_true p117
      replace q117:=eq_true q117
      go_wp2
      go_ret
      exact ⟨by first|rfl|(simp;done)|(simp [*];done),by repeat (first|exact zay.refl _|apply zay.step)⟩
     ·rw [if_neg c5] at H
      have c5b0 : (((zbd l0 x5_1).f0).toList == a1.toList) = false:=beq_eq_false_iff_ne.mpr c5
      have c5b1 : (((zbd l0 x5_1).f0).toList != a1.toList) = true:=bne_iff_ne.mpr c5
      have H':=zac.mk H
      clear H
      have p117 : 0 ≤ (x5_1 : Int):=of_decide_eq_true (by first|(with_reducible assumption)|assumption)
      have q117 : x5_1 < (l0.length : Int):=of_decide_eq_true (by first|(with_reducible assumption)|assumption)
      obtain ⟨ad117,e117,hx117_0,hx117_1⟩:=at_T39 HR0.out x5_1 p117 q117
      cases e117
      replace p117:=eq_true p117
      replace q117:=eq_true q117
      go_wp2
      go_roundg k1
      case measure=>have:=HK1.out;omega
      case rel=>exact ⟨(wrap64 (x5_1 + 1)),(by first|rfl|(simp;done)|(simp [*];done)),H',⟨by have:=HK1.out;omega⟩,by repeat (first|exact zay.refl _|apply zay.step)⟩
    ·rw [if_neg c4] at H
     exact absurd H (by simp)
   ·rw [if_neg c3] at H
    have c3b0 : decide (x5_1 < (l0.length : Int)) = false:=decide_eq_false c3
    clear c3
    obtain rfl:=Option.some.inj H
    go_wp2
    go_ret
    exact ⟨by first|rfl|(simp;done)|(simp [*];done),by repeat (first|exact zay.refl _|apply zay.step)⟩
def zbm.l0 : Nat → ByteArray → Int → Option (Bool)
 | 0,_,_=>none
 | k + 1,x0,x3=>if x3 < (x0.size : Int) then (if 0 ≤ x3 then ((zbn.f (bt x0 x3)).bind fun t118=>(if t118 = true then (zbm.l0 k x0 (wrap64 (x3 + 1))) else ((zby.f (bt x0 x3)).bind fun t119=>(if t119 = true then (zbm.l0 k x0 (wrap64 (x3 + 1))) else (some false))))) else (none)) else (if (x0.size : Int) ≥ 1 then (some (decide ((x0.size : Int) ≤ 8))) else (some false))
def zbm.f (k : Nat) (a0 : ByteArray) : Option (Bool):=zbm.l0 k a0 0
set_option maxHeartbeats 8000000 in
set_option maxRecDepth 100000 in
theorem zbm.calls (k : Nat) (a0 : ByteArray) (r : Bool) (w : World) (h : zbm.f k a0 = some r) :
  Calls Try.prog 63 #[.string a0] w fun e w'=>e = .returned (.bool r) ∧ zay w w':=by
 have H : (zbm.l0 k a0 0) = some r:=h
 clear h
 have H':=zac.mk H
 clear H
 go_enter Try.func63,Try.ntmps63
 go_wp2
 go_loopg [3] k (fun kq v3 w'=>∃ (x3_1 : Int),v3 = .int .i64 x3_1 ∧ zac (zbm.l0 kq a0 x3_1 = some r) ∧ zac (kq ≤ k) ∧ zay w w')
 case atStart=>exact ⟨(0),(by first|rfl|(simp;done)|(simp [*];done)),H',⟨Nat.le_refl _⟩,by repeat (first|exact zay.refl _|apply zay.step)⟩
 case round =>
  clear H'
  obtain ⟨x3_1,rfl,HA,HK1,⟨m1,rfl⟩⟩:=hrel
  cases gk with
  | zero=>exact absurd HA.out (by simp [zbm.l0])
  | succ k1 =>
   have H:=HA.out
   clear HA
   simp only [zbm.l0] at H
   by_cases c2 : x3_1 < (a0.size : Int)
   ·rw [if_pos c2] at H
    have c2b0 : decide (x3_1 < (a0.size : Int)) = true:=decide_eq_true c2
    clear c2
    by_cases c3 : 0 ≤ x3_1
    ·rw [if_pos c3] at H
     have c3b0 : decide (0 ≤ x3_1) = true:=decide_eq_true c3
     clear c3
     replace H:=Option.bind_eq_some_iff.mp H
     obtain ⟨t118,A50,H⟩:=H
     replace H : (if t118 = true then (zbm.l0 k1 a0 (wrap64 (x3_1 + 1))) else ((zby.f (bt a0 x3_1)).bind fun t119=>(if t119 = true then (zbm.l0 k1 a0 (wrap64 (x3_1 + 1))) else (some false)))) = some r:=H
     have A5:=zac.mk A50
     clear A50
     by_cases c6 : t118 = true
     ·subst c6
      have H1 : (zbm.l0 k1 a0 (wrap64 (x3_1 + 1))) = some r:=by rw [if_pos rfl] at H;exact H
      clear H
      have H:=H1
      clear H1
      have H':=zac.mk H
      clear H
      have p4 : 0 ≤ (x3_1 : Int):=of_decide_eq_true (by first|(with_reducible assumption)|assumption)
      have q4 : x3_1 < (a0.size : Int):=of_decide_eq_true (by first|(with_reducible assumption)|assumption)
      have hx4:=bt_at a0 x3_1
      replace p4:=eq_true p4
      replace q4:=eq_true q4
      go_wp2_with (first|((with_reducible refine zbe (f:=62) rfl ?_);refine zce (some 13) rfl rfl Try.func62 (by kernel_rfl) rfl #[.int .u8 (bt a0 x3_1)] rfl (by (try simp only [List.map_toArray,List.map_cons,List.map_nil]);first|done|rfl|(simp only [List.length_drop,List.length_take];rfl)) ?_;(with_reducible refine (zbn.calls (bt a0 x3_1) true _ A5.out).mono ?_);rintro e w' ⟨rfl,⟨nd,rfl⟩⟩;refine ⟨_,rfl,?_⟩))
      go_roundg k1
      case measure=>have:=HK1.out;omega
      case rel=>exact ⟨(wrap64 (x3_1 + 1)),(by first|rfl|(simp;done)|(simp [*];done)),H',⟨by have:=HK1.out;omega⟩,by repeat (first|exact zay.refl _|apply zay.step)⟩
     ·replace c6:=Bool.eq_false_iff.mpr c6
      subst c6
      have H1 : ((zby.f (bt a0 x3_1)).bind fun t119=>(if t119 = true then (zbm.l0 k1 a0 (wrap64 (x3_1 + 1))) else (some false))) = some r:=by rw [if_neg (show ¬ (false = true) by decide)] at H;exact H
      clear H
      have H:=H1
      clear H1
      replace H:=Option.bind_eq_some_iff.mp H
      obtain ⟨t119,A80,H⟩:=H
      replace H : (if t119 = true then (zbm.l0 k1 a0 (wrap64 (x3_1 + 1))) else (some false)) = some r:=H
      have A8:=zac.mk A80
      clear A80
      by_cases c9 : t119 = true
      ·subst c9
       have H1 : (zbm.l0 k1 a0 (wrap64 (x3_1 + 1))) = some r:=by rw [if_pos rfl] at H;exact H
       clear H
       have H:=H1
       clear H1
       have H':=zac.mk H
       clear H
       have p4 : 0 ≤ (x3_1 : Int):=of_decide_eq_true (by first|(with_reducible assumption)|assumption)
       have q4 : x3_1 < (a0.size : Int):=of_decide_eq_true (by first|(with_reducible assumption)|assumption)
       have hx4:=bt_at a0 x3_1
       replace p4:=eq_true p4
       replace q4:=eq_true q4
       go_wp2_with (first|((with_reducible refine zbe (f:=62) rfl ?_);refine zce (some 13) rfl rfl Try.func62 (by kernel_rfl) rfl #[.int .u8 (bt a0 x3_1)] rfl (by (try simp only [List.map_toArray,List.map_cons,List.map_nil]);first|done|rfl|(simp only [List.length_drop,List.length_take];rfl)) ?_;(with_reducible refine (zbn.calls (bt a0 x3_1) false _ A5.out).mono ?_);rintro e w' ⟨rfl,⟨nd,rfl⟩⟩;refine ⟨_,rfl,?_⟩;have p7 : 0 ≤ (x3_1 : Int):=of_decide_eq_true (by first|(with_reducible assumption)|assumption);have q7 : x3_1 < (a0.size : Int):=of_decide_eq_true (by first|(with_reducible assumption)|assumption);have hx7:=bt_at a0 x3_1;replace p7:=eq_true p7;replace q7:=eq_true q7)|(go_at_call 88;(with_reducible refine (zby.calls (bt a0 x3_1) true _ A8.out).mono ?_);rintro e w' ⟨rfl,⟨nd,rfl⟩⟩))
       go_roundg k1
       case measure=>have:=HK1.out;omega
       case rel=>exact ⟨(wrap64 (x3_1 + 1)),(by first|rfl|(simp;done)|(simp [*];done)),H',⟨by have:=HK1.out;omega⟩,by repeat (first|exact zay.refl _|apply zay.step)⟩
      ·replace c9:=Bool.eq_false_iff.mpr c9
       subst c9
       have H1 : (some false) = some r:=by rw [if_neg (show ¬ (false = true) by decide)] at H;exact H
       clear H
       have H:=H1
       clear H1
       obtain rfl:=Option.some.inj H
       have p4 : 0 ≤ (x3_1 : Int):=of_decide_eq_true (by first|(with_reducible assumption)|assumption)
       have q4 : x3_1 < (a0.size : Int):=of_decide_eq_true (by first|(with_reducible assumption)|assumption)
       have hx4:=bt_at a0 x3_1
       replace p4:=eq_true p4
       replace q4:=eq_true q4
       go_wp2_with (first|((with_reducible refine zbe (f:=62) rfl ?_);refine zce (some 13) rfl rfl Try.func62 (by kernel_rfl) rfl #[.int .u8 (bt a0 x3_1)] rfl (by (try simp only [List.map_toArray,List.map_cons,List.map_nil]);first|done|rfl|(simp only [List.length_drop,List.length_take];rfl)) ?_;(with_reducible refine (zbn.calls (bt a0 x3_1) false _ A5.out).mono ?_);rintro e w' ⟨rfl,⟨nd,rfl⟩⟩;refine ⟨_,rfl,?_⟩;have p7 : 0 ≤ (x3_1 : Int):=of_decide_eq_true (by first|(with_reducible assumption)|assumption);have q7 : x3_1 < (a0.size : Int):=of_decide_eq_true (by first|(with_reducible assumption)|assumption);have hx7:=bt_at a0 x3_1;replace p7:=eq_true p7;replace q7:=eq_true q7)|(go_at_call 88;(with_reducible refine (zby.calls (bt a0 x3_1) false _ A8.out).mono ?_);rintro e w' ⟨rfl,⟨nd,rfl⟩⟩))
       go_ret
       exact ⟨by first|rfl|(simp;done)|(simp [*];done),by repeat (first|exact zay.refl _|apply zay.step)⟩
    ·rw [if_neg c3] at H
     exact absurd H (by simp)
   ·rw [if_neg c2] at H
    have c2b0 : decide (x3_1 < (a0.size : Int)) = false:=decide_eq_false c2
    clear c2
    by_cases c10 : (a0.size : Int) ≥ 1
    ·rw [if_pos c10] at H
     have c10b0 : decide (1 ≤ (a0.size : Int)) = true:=decide_eq_true c10
     have c10b1 : decide (1 ≤ a0.size) = true:=decide_eq_true (by omega)
     clear c10
     obtain rfl:=Option.some.inj H
     go_wp2
     go_ret
     exact ⟨by first|rfl|(simp;done)|(simp [*];done),by repeat (first|exact zay.refl _|apply zay.step)⟩
    ·rw [if_neg c10] at H
     have c10b0 : decide (1 ≤ (a0.size : Int)) = false:=decide_eq_false c10
     have c10b1 : decide (1 ≤ a0.size) = false:=decide_eq_false (by omega)
     clear c10
     obtain rfl:=Option.some.inj H
     go_wp2
     go_ret
     exact ⟨by first|rfl|(simp;done)|(simp [*];done),by repeat (first|exact zay.refl _|apply zay.step)⟩
end Go.Proofs.Ytepnddmalheoiaa.Q
