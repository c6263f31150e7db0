-- own text (xprint): Q, functions of the program; Lean checks it.
import Derived.Test.YtecomiapfaikbaaQ0
import Derived.Test.YtecomiapfaikbaaQ1
import Derived.Test.YtecomiapfaikbaaQ5
namespace Go.Proofs.Ytecomiapfaikbaa.Q
open Go.Proofs.Ytecomiapfaikbaa.H
open Go.RowKit Go.Proofs.YtecomiapfaikbaaW.PrintWords Go.Proofs.YtecomiapfaikbaaW.PrintLast Go.Proofs.YtecomiapfaikbaaW.PrintMore
attribute [local go_sem] max2_int min2_int max_two min_two max_three min_three max_four min_four   -- for this text's walks alone
set_option linter.unusedVariables false
set_option linter.unusedSimpArgs false

/-! ### pairinglaw8_WireFramed: function 9 -/
mutual
def pairinglaw8_WireFramed.j0 : Nat → Int → List Int → List Int → Int → Int → Bool → Option (Bool)
  | 0, _, _, _, _, _, _ => none
  | k + 1, x0, x1, x2, x3, x4, x35 => if x35 = true then ((pairinglaw8_awake.f k).bind fun t339 => (some t339)) else ((wire_Frame.f k x0 x1).bind fun bt340 => (if bt340.2 = 0 then (pairinglaw8_WireFramed.j1 k x0 x1 x2 x3 x4 bt340.1 (decide ((bt340.1.length : Int) < (wrap64 ((x1.length : Int) + 6))))) else (pairinglaw8_WireFramed.j1 k x0 x1 x2 x3 x4 bt340.1 true)))
def pairinglaw8_WireFramed.j1 : Nat → Int → List Int → List Int → Int → Int → List Int → Bool → Option (Bool)
  | 0, _, _, _, _, _, _, _ => none
  | k + 1, x0, x1, x2, x3, x4, x11, x52 => if x52 = true then (some false) else (if ([] : List Int).length + x11.length < 140737488355328 then ((some (([] : List Int) ++ x11 : List Int)).bind fun y344 => (if y344.length + x2.length < 140737488355328 then ((wire_Unframe.f (y344 ++ x2)).bind fun bt350 => (if bt350.2.2.2 = 0 then (if bt350.1 = x0 then ((pairinglaw8_Same.f bt350.2.1 x1).bind fun t356 => (if t356 = true then (pairinglaw8_WireFramed.j2 k x1 x3 x4 x11 (bt350.2.2.1 != (x11.length : Int))) else (pairinglaw8_WireFramed.j2 k x1 x3 x4 x11 true))) else (pairinglaw8_WireFramed.j2 k x1 x3 x4 x11 true)) else (pairinglaw8_WireFramed.j2 k x1 x3 x4 x11 true))) else (none))) else (none))
def pairinglaw8_WireFramed.j2 : Nat → List Int → Int → Int → List Int → Bool → Option (Bool)
  | 0, _, _, _, _, _ => none
  | k + 1, x1, x3, x4, x11, x81 => if x81 = true then (some false) else (pairinglaw8_WireFramed.l0 k x1 x3 x4 x11 0)
def pairinglaw8_WireFramed.l0 : Nat → List Int → Int → Int → List Int → Int → Option (Bool)
  | 0, _, _, _, _, _ => none
  | k + 1, x1, x3, x4, x11, x17 => if x17 < (x11.length : Int) then (if 0 ≤ x17 then (if x17 ≤ (x11.length : Int) then ((wire_Unframe.f (x11.take (x17 : Int).toNat)).bind fun bt361 => (if bt361.2.2.2 = 3 then (pairinglaw8_WireFramed.l0 k x1 x3 x4 x11 (wrap64 (x17 + 1))) else (some false))) else (none)) else (none)) else (if ([] : List Int).length + x11.length < 140737488355328 then ((some (([] : List Int) ++ x11 : List Int)).bind fun y367 => (if (wrap64 ((x1.length : Int) + 4)) = 0 then (none) else (if 0 ≤ (wrap64 ((wrap64 ((wrap64 ((x11.length : Int) - (x1.length : Int))) - 4)) + (Int.tmod (Go.bits .and .i64 x3 65535) (wrap64 ((x1.length : Int) + 4))))) then (if (wrap64 ((wrap64 ((wrap64 ((x11.length : Int) - (x1.length : Int))) - 4)) + (Int.tmod (Go.bits .and .i64 x3 65535) (wrap64 ((x1.length : Int) + 4))))) < (y367.length : Int) then (if 0 ≤ (IntKind.u64.wrap (Go.bits .and .i64 x4 7)) then ((wire_Unframe.f (y367.set ((wrap64 ((wrap64 ((wrap64 ((x11.length : Int) - (x1.length : Int))) - 4)) + (Int.tmod (Go.bits .and .i64 x3 65535) (wrap64 ((x1.length : Int) + 4))))) : Int).toNat (Go.bits .xor .u8 (rd y367 (wrap64 ((wrap64 ((wrap64 ((x11.length : Int) - (x1.length : Int))) - 4)) + (Int.tmod (Go.bits .and .i64 x3 65535) (wrap64 ((x1.length : Int) + 4)))))) (shl .u8 1 (IntKind.u64.wrap (Go.bits .and .i64 x4 7)))))).bind fun bt372 => (if bt372.2.2.2 = 4 then ((pairinglaw8_awake.f k).bind fun t378 => (some t378)) else (some false))) else (none)) else (none)) else (none)))) else (none))
end
def pairinglaw8_WireFramed.f (k : Nat) (a0 : Int) (l1 : List Int) (l2 : List Int) (a3 : Int) (a4 : Int) : Option (Bool) := if (l1.length : Int) > 200 then (pairinglaw8_WireFramed.j0 k a0 l1 l2 a3 a4 true) else (pairinglaw8_WireFramed.j0 k a0 l1 l2 a3 a4 (decide ((l2.length : Int) > 200)))
theorem pairinglaw8_WireFramed.mono_l : ∀ k, (∀ y0 y1 y2 y3 y4 y5, LeO (pairinglaw8_WireFramed.j0 k y0 y1 y2 y3 y4 y5) (pairinglaw8_WireFramed.j0 (k + 1) y0 y1 y2 y3 y4 y5)) ∧ (∀ y0 y1 y2 y3 y4 y5 y6, LeO (pairinglaw8_WireFramed.j1 k y0 y1 y2 y3 y4 y5 y6) (pairinglaw8_WireFramed.j1 (k + 1) y0 y1 y2 y3 y4 y5 y6)) ∧ (∀ y0 y1 y2 y3 y4, LeO (pairinglaw8_WireFramed.j2 k y0 y1 y2 y3 y4) (pairinglaw8_WireFramed.j2 (k + 1) y0 y1 y2 y3 y4)) ∧ (∀ y0 y1 y2 y3 y4, LeO (pairinglaw8_WireFramed.l0 k y0 y1 y2 y3 y4) (pairinglaw8_WireFramed.l0 (k + 1) y0 y1 y2 y3 y4))
  | 0 => ⟨fun _ _ _ _ _ _ r h => by simp [pairinglaw8_WireFramed.j0] at h, fun _ _ _ _ _ _ _ r h => by simp [pairinglaw8_WireFramed.j1] at h, fun _ _ _ _ _ r h => by simp [pairinglaw8_WireFramed.j2] at h, fun _ _ _ _ _ r h => by simp [pairinglaw8_WireFramed.l0] at h⟩
  | k + 1 => by
    obtain ⟨ih0, ih1, ih2, ih3⟩ := pairinglaw8_WireFramed.mono_l k
    refine ⟨?_, ?_, ?_, ?_⟩
    · intro y0 y1 y2 y3 y4 y5
      unfold pairinglaw8_WireFramed.j0
      repeat' first
      | (with_reducible exact ih0 _ _ _ _ _ _)
      | (with_reducible exact ih1 _ _ _ _ _ _ _)
      | (with_reducible exact ih2 _ _ _ _ _)
      | (with_reducible exact ih3 _ _ _ _ _)
      | (with_reducible exact pairinglaw8_awake.mono _)
      | (with_reducible exact wire_Frame.mono _ _ _)
      | (with_reducible exact LeO.refl _)
      | (with_reducible exact LeO.none _)
      | (with_reducible refine LeO.ite ?_ ?_)
      | (with_reducible refine LeO.bind ?_ (fun _ => ?_))
      | exact ih0 _ _ _ _ _ _
      | exact ih1 _ _ _ _ _ _ _
      | exact ih2 _ _ _ _ _
      | exact ih3 _ _ _ _ _
      | exact pairinglaw8_awake.mono _
      | exact wire_Frame.mono _ _ _
      | exact LeO.none _
      | refine LeO.ite ?_ ?_
      | refine LeO.bind ?_ (fun _ => ?_)
    · intro y0 y1 y2 y3 y4 y5 y6
      unfold pairinglaw8_WireFramed.j1
      repeat' first
      | (with_reducible exact ih0 _ _ _ _ _ _)
      | (with_reducible exact ih1 _ _ _ _ _ _ _)
      | (with_reducible exact ih2 _ _ _ _ _)
      | (with_reducible exact ih3 _ _ _ _ _)
      | (with_reducible exact pairinglaw8_awake.mono _)
      | (with_reducible exact wire_Frame.mono _ _ _)
      | (with_reducible exact LeO.refl _)
      | (with_reducible exact LeO.none _)
      | (with_reducible refine LeO.ite ?_ ?_)
      | (with_reducible refine LeO.bind ?_ (fun _ => ?_))
      | exact ih0 _ _ _ _ _ _
      | exact ih1 _ _ _ _ _ _ _
      | exact ih2 _ _ _ _ _
      | exact ih3 _ _ _ _ _
      | exact pairinglaw8_awake.mono _
      | exact wire_Frame.mono _ _ _
      | exact LeO.none _
      | refine LeO.ite ?_ ?_
      | refine LeO.bind ?_ (fun _ => ?_)
    · intro y0 y1 y2 y3 y4
      unfold pairinglaw8_WireFramed.j2
      repeat' first
      | (with_reducible exact ih0 _ _ _ _ _ _)
      | (with_reducible exact ih1 _ _ _ _ _ _ _)
      | (with_reducible exact ih2 _ _ _ _ _)
      | (with_reducible exact ih3 _ _ _ _ _)
      | (with_reducible exact pairinglaw8_awake.mono _)
      | (with_reducible exact wire_Frame.mono _ _ _)
      | (with_reducible exact LeO.refl _)
      | (with_reducible exact LeO.none _)
      | (with_reducible refine LeO.ite ?_ ?_)
      | (with_reducible refine LeO.bind ?_ (fun _ => ?_))
      | exact ih0 _ _ _ _ _ _
      | exact ih1 _ _ _ _ _ _ _
      | exact ih2 _ _ _ _ _
      | exact ih3 _ _ _ _ _
      | exact pairinglaw8_awake.mono _
      | exact wire_Frame.mono _ _ _
      | exact LeO.none _
      | refine LeO.ite ?_ ?_
      | refine LeO.bind ?_ (fun _ => ?_)
    · intro y0 y1 y2 y3 y4
      unfold pairinglaw8_WireFramed.l0
      repeat' first
      | (with_reducible exact ih0 _ _ _ _ _ _)
      | (with_reducible exact ih1 _ _ _ _ _ _ _)
      | (with_reducible exact ih2 _ _ _ _ _)
      | (with_reducible exact ih3 _ _ _ _ _)
      | (with_reducible exact pairinglaw8_awake.mono _)
      | (with_reducible exact wire_Frame.mono _ _ _)
      | (with_reducible exact LeO.refl _)
      | (with_reducible exact LeO.none _)
      | (with_reducible refine LeO.ite ?_ ?_)
      | (with_reducible refine LeO.bind ?_ (fun _ => ?_))
      | exact ih0 _ _ _ _ _ _
      | exact ih1 _ _ _ _ _ _ _
      | exact ih2 _ _ _ _ _
      | exact ih3 _ _ _ _ _
      | exact pairinglaw8_awake.mono _
      | exact wire_Frame.mono _ _ _
      | exact LeO.none _
      | refine LeO.ite ?_ ?_
      | refine LeO.bind ?_ (fun _ => ?_)
theorem pairinglaw8_WireFramed.mono : ∀ a0 a1 a2 a3 a4 k, LeO (pairinglaw8_WireFramed.f k a0 a1 a2 a3 a4) (pairinglaw8_WireFramed.f (k + 1) a0 a1 a2 a3 a4) := by
  intro a0 a1 a2 a3 a4 k
  obtain ⟨ih0, ih1, ih2, ih3⟩ := pairinglaw8_WireFramed.mono_l k
  unfold pairinglaw8_WireFramed.f
  repeat' first
      | (with_reducible exact ih0 _ _ _ _ _ _)
      | (with_reducible exact ih1 _ _ _ _ _ _ _)
      | (with_reducible exact ih2 _ _ _ _ _)
      | (with_reducible exact ih3 _ _ _ _ _)
      | (with_reducible exact pairinglaw8_awake.mono _)
      | (with_reducible exact wire_Frame.mono _ _ _)
      | (with_reducible exact LeO.refl _)
      | (with_reducible exact LeO.none _)
      | (with_reducible refine LeO.ite ?_ ?_)
      | (with_reducible refine LeO.bind ?_ (fun _ => ?_))
      | exact ih0 _ _ _ _ _ _
      | exact ih1 _ _ _ _ _ _ _
      | exact ih2 _ _ _ _ _
      | exact ih3 _ _ _ _ _
      | exact pairinglaw8_awake.mono _
      | exact wire_Frame.mono _ _ _
      | exact LeO.none _
      | refine LeO.ite ?_ ?_
      | refine LeO.bind ?_ (fun _ => ?_)
set_option maxHeartbeats 8000000 in
set_option maxRecDepth 100000 in
theorem pairinglaw8_WireFramed.calls (k : Nat) (a0 : Int) (A1 : Option Addr) (c1 : Nat) (l1 : List Int) (A2 : Option Addr) (c2 : Nat) (l2 : List Int) (a3 : Int) (a4 : Int) (r : Bool) (w : World) (hr1 : Kd.C (Kd.int .u8) w A1 l1.length l1) (hc1 : l1.length ≤ c1) (hr2 : Kd.C (Kd.int .u8) w A2 l2.length l2) (hc2 : l2.length ≤ c2) (h : pairinglaw8_WireFramed.f k a0 l1 l2 a3 a4 = some r) :
    Calls Try.prog 9 #[.int .u8 a0, .slice A1 l1.length c1, .slice A2 l2.length c2, .int .i64 a3, .int .i64 a4] w fun e w' => e = .returned (.bool r) ∧ Below w.heap.size w w' := by
  have HR1 := Aside0.mk hr1
  have HC1 := Aside0.mk hc1
  clear hr1 hc1
  have HR2 := Aside0.mk hr2
  have HC2 := Aside0.mk hc2
  clear hr2 hc2
  have HB := Aside0.mk (Below.refl w.heap.size w)
  have H : (if (l1.length : Int) > 200 then (pairinglaw8_WireFramed.j0 k a0 l1 l2 a3 a4 true) else (pairinglaw8_WireFramed.j0 k a0 l1 l2 a3 a4 (decide ((l2.length : Int) > 200)))) = some r := h
  clear h
  have HC6 := Aside0.mk H
  clear H
  go_enter Try.func9, Try.ntmps9
  go_upto_region 1 with (fail)
  go_cut [35] (fun v35 wc => ∃ (kq : Nat) (x35_5 : Bool), v35 = .bool x35_5 ∧ Aside0 (pairinglaw8_WireFramed.j0 kq a0 l1 l2 a3 a4 x35_5 = some r) ∧ Aside0 (kq ≤ k) ∧ Aside0 (Below w.heap.size w wc))
  case first =>
    have H := HC6.out
    clear HC6
    by_cases c7 : (l1.length : Int) > 200
    · rw [if_pos c7] at H
      have c7b0 : decide (200 < (l1.length : Int)) = true := decide_eq_true c7
      have c7b1 : decide (200 < l1.length) = true := decide_eq_true (by omega)
      clear c7
      (first | rw [c7b0] | (simp only [i64_w, i32_w]; rw [c7b0]) | skip)
      have H' := Aside0.mk H
      clear H
      go_wp2
      go_meet
      case rel => exact ⟨_, (true), (by first | rfl | (simp; done) | (simp [*]; done)), H', ⟨by first | omega | exact Nat.le_refl _⟩, ⟨by repeat (first | (with_reducible first | exact HB.out | apply below_alloc | apply pw_below_drewN | apply below_drew1) | exact HB.out)⟩⟩
    · rw [if_neg c7] at H
      have c7b0 : decide (200 < (l1.length : Int)) = false := decide_eq_false c7
      have c7b1 : decide (200 < l1.length) = false := decide_eq_false (by omega)
      clear c7
      (first | rw [c7b0] | (simp only [i64_w, i32_w]; rw [c7b0]) | skip)
      have H' := Aside0.mk H
      clear H
      go_wp2
      go_meet
      case rel => exact ⟨_, (decide ((l2.length : Int) > 200)), (by first | rfl | (simp; done) | (simp [*]; done)), H', ⟨by first | omega | exact Nat.le_refl _⟩, ⟨by repeat (first | (with_reducible first | exact HB.out | apply below_alloc | apply pw_below_drewN | apply below_drew1) | exact HB.out)⟩⟩
  case rest =>
    clear HC6
    try clear c1
    try clear c2
    try clear p2
    try clear c7
    try clear c7b0
    try clear c7b1
    obtain ⟨kq, x35_5, rfl, HA, HJ5, HB⟩ := hcut
    cases kq with
    | zero => exact absurd HA.out (by simp [pairinglaw8_WireFramed.j0])
    | succ kj5 =>
      have H := HA.out
      clear HA
      simp only [pairinglaw8_WireFramed.j0] at H
      by_cases c8 : x35_5 = true
      · subst c8
        have H1 : ((pairinglaw8_awake.f kj5).bind fun t339 => (some t339)) = some r := by rw [if_pos rfl] at H; exact H
        clear H
        have H := H1
        clear H1
        replace H := Option.bind_eq_some_iff.mp H
        obtain ⟨t339, A90, H⟩ := H
        replace H : (some t339) = some r := H
        have A9 := Aside0.mk A90
        clear A90
        obtain rfl := Option.some.inj H
        go_wp2_with (first | ((with_reducible refine gate_callee (f := 10) rfl ?_); refine goesL_ (some 36) rfl rfl Try.func10 (by kernel_rfl) rfl #[] rfl (by (try simp only [List.map_toArray, List.map_cons, List.map_nil]); first | done | rfl | (simp only [List.length_drop, List.length_take]; rfl)) ?_; (with_reducible refine (pairinglaw8_awake.calls kj5  t339 _ A9.out).mono ?_); rintro e w10 ⟨rfl, hb⟩; refine ⟨_, rfl, ?_⟩; have n0_ := Aside0.mk (below_step (by repeat (first | (with_reducible first | exact HB.out | apply below_alloc | apply pw_below_drewN | apply below_drew1) | exact HB.out)) hb); clear HB; have HB := n0_; clear n0_; (try clear hb); (try clear hb2); (try clear hk); (try clear hi)))
        go_ret
        exact ⟨by first | rfl | (simp [errW_none, errW_some] <;> rfl) | (simp [*, errW_none, errW_some] <;> rfl), by repeat (first | (with_reducible first | exact HB.out | apply below_alloc | apply pw_below_drewN | apply below_drew1) | exact HB.out)⟩
      · replace c8 := Bool.eq_false_iff.mpr c8
        subst c8
        have H1 : ((wire_Frame.f kj5 a0 l1).bind fun bt340 => (if bt340.2 = 0 then (pairinglaw8_WireFramed.j1 kj5 a0 l1 l2 a3 a4 bt340.1 (decide ((bt340.1.length : Int) < (wrap64 ((l1.length : Int) + 6))))) else (pairinglaw8_WireFramed.j1 kj5 a0 l1 l2 a3 a4 bt340.1 true))) = some r := by rw [if_neg (show ¬ (false = true) by decide)] at H; exact H
        clear H
        have H := H1
        clear H1
        replace H := Option.bind_eq_some_iff.mp H
        obtain ⟨⟨t340, t341⟩, A110, H⟩ := H
        replace H : (if t341 = 0 then (pairinglaw8_WireFramed.j1 kj5 a0 l1 l2 a3 a4 t340 (decide ((t340.length : Int) < (wrap64 ((l1.length : Int) + 6))))) else (pairinglaw8_WireFramed.j1 kj5 a0 l1 l2 a3 a4 t340 true)) = some r := H
        have A11 := Aside0.mk A110
        clear A110
        have HC12 := Aside0.mk H
        clear H
        go_upto_region 4 with (first | ((with_reducible refine gate_callee (f := 26) rfl ?_); refine goesL_ (some 40) rfl rfl Try.func26 (by kernel_rfl) rfl #[.int .u8 a0, .slice A1 l1.length c1] rfl (by (try simp only [List.map_toArray, List.map_cons, List.map_nil]); first | done | rfl | (simp only [List.length_drop, List.length_take]; rfl)) ?_; (with_reducible refine (wire_Frame.calls kj5 a0 _ _ l1 t340 t341 _ ?side1 ?side2 A11.out).mono ?_); (case side1 => repeat (first | exact (Kd.C_below HR1.out HB.out) | (with_reducible refine Kd.C_alloc ?_ _) | (with_reducible refine Kd.C_drewN ?_ _) | (with_reducible refine Kd.C_drew ?_))); (case side2 => exact HC1.out); rintro e w13 ⟨v342, rfl, ho0, hb⟩; refine ⟨_, rfl, ?_⟩; have n0_ := Aside0.mk (Kd.R_lower ho0 (below_size (by repeat (first | (with_reducible first | exact HB.out | apply below_alloc | apply pw_below_drewN | apply below_drew1) | exact HB.out)))); have n1_ := Aside0.mk (below_step (by repeat (first | (with_reducible first | exact HB.out | apply below_alloc | apply pw_below_drewN | apply below_drew1) | exact HB.out)) hb); clear HB; have HO343 := n0_; have HB := n1_; clear n0_ n1_; (try clear hb); (try clear hb2); (try clear hk); (try clear hi); (try clear ho0)))
        (try simp only [Act.put, List.setIfInBounds_toArray, List.set_cons_zero, List.set_cons_succ])
        go_cut [52] (fun v52 wc => ∃ (kq : Nat) (x52_11 : Bool), v52 = .bool x52_11 ∧ Aside0 (pairinglaw8_WireFramed.j1 kq a0 l1 l2 a3 a4 t340 x52_11 = some r) ∧ Aside0 (kq ≤ kj5) ∧ Aside0 (Kd.R (Kd.int .u8) 5 wc w.heap.size (fun _ => True) v342 t340) ∧ Aside0 (Below w.heap.size w wc))
        case first =>
          have H := HC12.out
          clear HC12
          by_cases c14 : t341 = 0
          · rw [if_pos c14] at H
            have c14b0 : (t341 == 0) = true := beq_iff_eq.mpr c14
            have c14b1 : (t341 != 0) = false := bne_eq_false_iff_eq.mpr c14
            clear c14
            (first | rw [c14b0] | (simp only [i64_w, i32_w]; rw [c14b0]) | skip)
            have H' := Aside0.mk H
            clear H
            obtain ⟨Ao15, co15, eo15⟩ := Kd.R_slice HO343.out
            subst eo15
            go_wp2
            go_meet
            case rel => exact ⟨_, (decide ((t340.length : Int) < (wrap64 ((l1.length : Int) + 6)))), (by first | rfl | (simp; done) | (simp [*]; done)), H', ⟨by have := HJ5.out; first | omega | exact Nat.le_refl _⟩, ⟨by (with_reducible repeat (first | apply Kd.R_alloc | apply Kd.R_drewN | apply Kd.R_drew)); exact HO343.out⟩, ⟨by repeat (first | (with_reducible first | exact HB.out | apply below_alloc | apply pw_below_drewN | apply below_drew1) | exact HB.out)⟩⟩
          · rw [if_neg c14] at H
            have c14b0 : (t341 == 0) = false := beq_eq_false_iff_ne.mpr c14
            have c14b1 : (t341 != 0) = true := bne_iff_ne.mpr c14
            (first | rw [c14b0] | (simp only [i64_w, i32_w]; rw [c14b0]) | skip)
            have H' := Aside0.mk H
            clear H
            go_wp2
            go_meet
            case rel => exact ⟨_, (true), (by first | rfl | (simp; done) | (simp [*]; done)), H', ⟨by have := HJ5.out; first | omega | exact Nat.le_refl _⟩, ⟨by (with_reducible repeat (first | apply Kd.R_alloc | apply Kd.R_drewN | apply Kd.R_drew)); exact HO343.out⟩, ⟨by repeat (first | (with_reducible first | exact HB.out | apply below_alloc | apply pw_below_drewN | apply below_drew1) | exact HB.out)⟩⟩
        case rest =>
          clear HC12
          try clear c1
          try clear c2
          try clear p2
          try clear p6
          try clear c7
          try clear c7b0
          try clear c7b1
          try clear c8
          try clear c9
          try clear c10
          try clear c14
          try clear c14b0
          try clear c14b1
          try clear p2
          obtain ⟨kq, x52_11, rfl, HA, HJ11, HO_11, HB⟩ := hcut
          cases kq with
          | zero => exact absurd HA.out (by simp [pairinglaw8_WireFramed.j1])
          | succ kj11 =>
            have H := HA.out
            clear HA
            simp only [pairinglaw8_WireFramed.j1] at H
            by_cases c16 : x52_11 = true
            · subst c16
              have H1 : (some false) = some r := by rw [if_pos rfl] at H; exact H
              clear H
              have H := H1
              clear H1
              obtain rfl := Option.some.inj H
              go_wp2
              go_ret
              exact ⟨by first | rfl | (simp [errW_none, errW_some] <;> rfl) | (simp [*, errW_none, errW_some] <;> rfl), by repeat (first | (with_reducible first | exact HB.out | apply below_alloc | apply pw_below_drewN | apply below_drew1) | exact HB.out)⟩
            · replace c16 := Bool.eq_false_iff.mpr c16
              subst c16
              have H1 : (if ([] : List Int).length + t340.length < 140737488355328 then ((some (([] : List Int) ++ t340 : List Int)).bind fun y344 => (if y344.length + l2.length < 140737488355328 then ((wire_Unframe.f (y344 ++ l2)).bind fun bt350 => (if bt350.2.2.2 = 0 then (if bt350.1 = a0 then ((pairinglaw8_Same.f bt350.2.1 l1).bind fun t356 => (if t356 = true then (pairinglaw8_WireFramed.j2 kj11 l1 a3 a4 t340 (bt350.2.2.1 != (t340.length : Int))) else (pairinglaw8_WireFramed.j2 kj11 l1 a3 a4 t340 true))) else (pairinglaw8_WireFramed.j2 kj11 l1 a3 a4 t340 true)) else (pairinglaw8_WireFramed.j2 kj11 l1 a3 a4 t340 true))) else (none))) else (none)) = some r := by rw [if_neg (show ¬ (false = true) by decide)] at H; exact H
              clear H
              have H := H1
              clear H1
              by_cases c17 : ([] : List Int).length + t340.length < 140737488355328
              · rw [if_pos c17] at H
                have LMc17 := Aside0.mk c17
                clear c17
                obtain ⟨y344, hy344⟩ : ∃ y_ : List Int, y_ = (([] : List Int) ++ t340) := ⟨_, rfl⟩
                replace H : (if y344.length + l2.length < 140737488355328 then ((wire_Unframe.f (y344 ++ l2)).bind fun bt350 => (if bt350.2.2.2 = 0 then (if bt350.1 = a0 then ((pairinglaw8_Same.f bt350.2.1 l1).bind fun t356 => (if t356 = true then (pairinglaw8_WireFramed.j2 kj11 l1 a3 a4 t340 (bt350.2.2.1 != (t340.length : Int))) else (pairinglaw8_WireFramed.j2 kj11 l1 a3 a4 t340 true))) else (pairinglaw8_WireFramed.j2 kj11 l1 a3 a4 t340 true)) else (pairinglaw8_WireFramed.j2 kj11 l1 a3 a4 t340 true))) else (none)) = some r := by first | (rw [hy344]; with_reducible exact H) | (have H2_ := (Option.bind_some _ _).symm.trans H; rw [hy344]; with_reducible exact H2_) | (have H2_ := (Option.bind_some _ _).symm.trans H; with_reducible exact H2_) | with_reducible exact H | (rw [hy344]; exact H) | exact H
                have Ny344 := Aside0.mk hy344
                clear hy344
                by_cases c18 : y344.length + l2.length < 140737488355328
                · rw [if_pos c18] at H
                  have LMc18 := Aside0.mk c18
                  clear c18
                  obtain ⟨y347, hy347⟩ : ∃ y_ : List Int, y_ = (y344 ++ l2) := ⟨_, rfl⟩
                  replace H : ((wire_Unframe.f y347).bind fun bt350 => (if bt350.2.2.2 = 0 then (if bt350.1 = a0 then ((pairinglaw8_Same.f bt350.2.1 l1).bind fun t356 => (if t356 = true then (pairinglaw8_WireFramed.j2 kj11 l1 a3 a4 t340 (bt350.2.2.1 != (t340.length : Int))) else (pairinglaw8_WireFramed.j2 kj11 l1 a3 a4 t340 true))) else (pairinglaw8_WireFramed.j2 kj11 l1 a3 a4 t340 true)) else (pairinglaw8_WireFramed.j2 kj11 l1 a3 a4 t340 true))) = some r := by first | (rw [hy347]; with_reducible exact H) | (have H2_ := (Option.bind_some _ _).symm.trans H; rw [hy347]; with_reducible exact H2_) | (have H2_ := (Option.bind_some _ _).symm.trans H; with_reducible exact H2_) | with_reducible exact H | (rw [hy347]; exact H) | exact H
                  have Ny347 := Aside0.mk hy347
                  clear hy347
                  replace H := Option.bind_eq_some_iff.mp H
                  obtain ⟨⟨t350, t351, t352, t353⟩, A190, H⟩ := H
                  replace H : (if t353 = 0 then (if t350 = a0 then ((pairinglaw8_Same.f t351 l1).bind fun t356 => (if t356 = true then (pairinglaw8_WireFramed.j2 kj11 l1 a3 a4 t340 (t352 != (t340.length : Int))) else (pairinglaw8_WireFramed.j2 kj11 l1 a3 a4 t340 true))) else (pairinglaw8_WireFramed.j2 kj11 l1 a3 a4 t340 true)) else (pairinglaw8_WireFramed.j2 kj11 l1 a3 a4 t340 true)) = some r := H
                  have A19 := Aside0.mk A190
                  clear A190
                  have HC20 := Aside0.mk H
                  clear H
                  obtain ⟨Ao22, co22, eo22⟩ := Kd.R_slice HO_11.out
                  subst eo22
                  go_upto_region 7 with (first | ((with_reducible refine gate_builtin (b := .append) (xs := #[.const (.slice none 0 0), .tmp 54]) rfl ?_); (try (refine gate_guard (by rfl) ?_; dsimp only)); at_builtin; refine Kd.R_append_rows (Kd.int .u8) (w0 := w) w.heap.size rfl (.const (.slice none 0 0)) (.tmp 54) 23 5 (.int .u8 0) 1 rfl Try.underlying23 info5 rfl (by decide) (by omega) (.slice none 0 0) ([] : List Int) t340 _ _ _ (fun k_ => some k_ ≠ (.slice Ao22 t340.length co22 : Value).ownBlock) (fun _ => False) rfl rfl ?aO ?aR (fun _ _ h => h) (fun _ h => h.elim) ?aF ?aB ?aS ?aL ?_; (case aR => repeat (first | exact (Kd.R_reads' HO_11.out).2.2 | (with_reducible refine Kd.C_alloc ?_ _) | (with_reducible refine Kd.C_drewN ?_ _) | (with_reducible refine Kd.C_drew ?_))); (case aB => exact (by repeat (first | (with_reducible first | exact HB.out | apply below_alloc | apply pw_below_drewN | apply below_drew1) | exact HB.out))); (case aF => exact (fun k_ hk => Kd.fresh' (Kd.R_lt (by (with_reducible repeat (first | apply Kd.R_alloc | apply Kd.R_drewN | apply Kd.R_drew)); exact HO_11.out)) k_ hk)); (case aO => exact ((Kd.R_nil _ _ _ _ (fun k_ => some k_ ≠ (.slice Ao22 t340.length co22 : Value).ownBlock)))); (case aS => exact (below_size (by repeat (first | (with_reducible first | exact HB.out | apply below_alloc | apply pw_below_drewN | apply below_drew1) | exact HB.out)))); (case aL => have := LMc17.out; omega); intro v345 w21 ho hb hg hat; rw [← Ny344.out] at ho; have n0_ := Aside0.mk (Kd.R_after (Kd.R_apart_nil (by (with_reducible repeat (first | apply Kd.R_alloc | apply Kd.R_drewN | apply Kd.R_drew)); exact HO_11.out)) hg hat); have n1_ := Aside0.mk (hb); have n2_ := Aside0.mk (ho); clear HO_11; clear HB; have HO_11 := n0_; have HB := n1_; have HO346 := n2_; clear n0_ n1_ n2_; clear ho hb hg hat) | ((with_reducible refine gate_builtin (b := .append) (xs := #[.tmp 55, .tmp 56]) rfl ?_); (try (refine gate_guard (by rfl) ?_; dsimp only)); at_builtin; refine Kd.R_append_rows (Kd.int .u8) (w0 := w) w.heap.size rfl (.tmp 55) (.tmp 56) 23 5 (.int .u8 0) 1 rfl Try.underlying23 info5 rfl (by decide) (by omega) v345 y344 l2 _ _ _ (fun k_ => some k_ ≠ (.slice Ao22 t340.length co22 : Value).ownBlock) (fun _ => False) rfl rfl ?aO ?aR (fun _ _ h => h) (fun _ h => h.elim) ?aF ?aB ?aS ?aL ?_; (case aR => repeat (first | exact (Kd.C_below HR2.out HB.out) | (with_reducible refine Kd.C_alloc ?_ _) | (with_reducible refine Kd.C_drewN ?_ _) | (with_reducible refine Kd.C_drew ?_))); (case aB => exact (by repeat (first | (with_reducible first | exact HB.out | apply below_alloc | apply pw_below_drewN | apply below_drew1) | exact HB.out))); (case aF => exact (fun k_ hk => Kd.fresh' (Kd.R_lt (by (with_reducible repeat (first | apply Kd.R_alloc | apply Kd.R_drewN | apply Kd.R_drew)); exact HO_11.out)) k_ hk)); (case aO => exact (by (with_reducible repeat (first | apply Kd.R_alloc | apply Kd.R_drewN | apply Kd.R_drew)); exact HO346.out)); (case aS => exact (below_size (by repeat (first | (with_reducible first | exact HB.out | apply below_alloc | apply pw_below_drewN | apply below_drew1) | exact HB.out)))); (case aL => have := LMc18.out; omega); intro v348 w23 ho hb hg hat; rw [← Ny347.out] at ho; have n0_ := Aside0.mk (Kd.R_after (ok := (fun _ => True)) (by (with_reducible repeat (first | apply Kd.R_alloc | apply Kd.R_drewN | apply Kd.R_drew)); exact HO_11.out) hg hat); have n1_ := Aside0.mk (hb); have n2_ := Aside0.mk (ho); clear HO_11; clear HB; clear HO346; have HO_11 := n0_; have HB := n1_; have HO349 := n2_; clear n0_ n1_ n2_; clear ho hb hg hat; obtain ⟨Ao24, co24, eo24⟩ := Kd.R_slice HO349.out; subst eo24) | ((with_reducible refine gate_callee (f := 28) rfl ?_); refine goesL_ (some 58) rfl rfl Try.func28 (by kernel_rfl) rfl #[.slice Ao24 y347.length co24] rfl (by (try simp only [List.map_toArray, List.map_cons, List.map_nil]); first | done | rfl | (simp only [List.length_drop, List.length_take]; rfl)) ?_; (with_reducible refine (wire_Unframe.calls _ _ y347 t350 t351 t352 t353 _ ?side1 ?side2 A19.out).mono ?_); (case side1 => repeat (first | exact (Kd.R_reads' HO349.out).2.2 | (with_reducible refine Kd.C_alloc ?_ _) | (with_reducible refine Kd.C_drewN ?_ _) | (with_reducible refine Kd.C_drew ?_))); (case side2 => exact (Kd.R_reads' HO349.out).2.1); rintro e w25 ⟨v354, rfl, ho0, hb⟩; refine ⟨_, rfl, ?_⟩; have n0_ := Aside0.mk (Kd.R_elder' (by (with_reducible repeat (first | apply Kd.R_alloc | apply Kd.R_drewN | apply Kd.R_drew)); exact HO_11.out) (Kd.R_base ho0) hb); have n1_ := Aside0.mk (Kd.R_elder' (by (with_reducible repeat (first | apply Kd.R_alloc | apply Kd.R_drewN | apply Kd.R_drew)); exact HO349.out) (Kd.R_base ho0) hb); have n2_ := Aside0.mk (Kd.R_lower (Kd.R_new' (Kd.R_new' ho0 (Kd.R_lt (by (with_reducible repeat (first | apply Kd.R_alloc | apply Kd.R_drewN | apply Kd.R_drew)); exact HO_11.out))) (Kd.R_lt (by (with_reducible repeat (first | apply Kd.R_alloc | apply Kd.R_drewN | apply Kd.R_drew)); exact HO349.out))) (below_size (by repeat (first | (with_reducible first | exact HB.out | apply below_alloc | apply pw_below_drewN | apply below_drew1) | exact HB.out)))); have n3_ := Aside0.mk (below_step (by repeat (first | (with_reducible first | exact HB.out | apply below_alloc | apply pw_below_drewN | apply below_drew1) | exact HB.out)) hb); clear HO_11; clear HO349; clear HB; have HO_11 := n0_; have HO349 := n1_; have HO355 := n2_; have HB := n3_; clear n0_ n1_ n2_ n3_; (try clear hb); (try clear hb2); (try clear hk); (try clear hi); (try clear ho0)))
                  (try simp only [Act.put, List.setIfInBounds_toArray, List.set_cons_zero, List.set_cons_succ])
                  go_cut [81] (fun v81 wc => ∃ (kq : Nat) (x81_19 : Bool), v81 = .bool x81_19 ∧ Aside0 (pairinglaw8_WireFramed.j2 kq l1 a3 a4 t340 x81_19 = some r) ∧ Aside0 (kq ≤ kj11) ∧ Aside0 (Kd.R (Kd.int .u8) 5 wc w.heap.size (fun _ => True) (.slice Ao22 t340.length co22) t340) ∧ Aside0 (Below w.heap.size w wc))
                  case first =>
                    have H := HC20.out
                    clear HC20
                    by_cases c26 : t353 = 0
                    · rw [if_pos c26] at H
                      have c26b0 : (t353 == 0) = true := beq_iff_eq.mpr c26
                      have c26b1 : (t353 != 0) = false := bne_eq_false_iff_eq.mpr c26
                      clear c26
                      (first | rw [c26b0] | (simp only [i64_w, i32_w]; rw [c26b0]) | skip)
                      by_cases c27 : t350 = a0
                      · rw [if_pos c27] at H
                        have c27b0 : (t350 == a0) = true := beq_iff_eq.mpr c27
                        have c27b1 : (t350 != a0) = false := bne_eq_false_iff_eq.mpr c27
                        clear c27
                        replace H := Option.bind_eq_some_iff.mp H
                        obtain ⟨t356, A280, H⟩ := H
                        replace H : (if t356 = true then (pairinglaw8_WireFramed.j2 kj11 l1 a3 a4 t340 (t352 != (t340.length : Int))) else (pairinglaw8_WireFramed.j2 kj11 l1 a3 a4 t340 true)) = some r := H
                        have A28 := Aside0.mk A280
                        clear A280
                        by_cases c29 : t356 = true
                        · subst c29
                          have H1 : (pairinglaw8_WireFramed.j2 kj11 l1 a3 a4 t340 (t352 != (t340.length : Int))) = some r := by rw [if_pos rfl] at H; exact H
                          clear H
                          have H := H1
                          clear H1
                          have H' := Aside0.mk H
                          clear H
                          obtain ⟨Ao30, co30, eo30⟩ := Kd.R_slice HO355.out
                          subst eo30
                          go_wp2_with (first | (go_at_call 13; (with_reducible refine (pairinglaw8_Same.calls _ _ t351 _ _ l1 true _ ?side1 ?side2 ?side3 ?side4 A28.out).mono ?_); (case side1 => repeat (first | exact (Kd.R_reads' HO355.out).2.2 | (with_reducible refine Kd.C_alloc ?_ _) | (with_reducible refine Kd.C_drewN ?_ _) | (with_reducible refine Kd.C_drew ?_))); (case side2 => exact (Kd.R_reads' HO355.out).2.1); (case side3 => repeat (first | exact (Kd.C_below HR1.out HB.out) | (with_reducible refine Kd.C_alloc ?_ _) | (with_reducible refine Kd.C_drewN ?_ _) | (with_reducible refine Kd.C_drew ?_))); (case side4 => exact HC1.out); rintro e w' ⟨rfl, ⟨nd, rfl⟩⟩))
                          go_meet
                          case rel => exact ⟨_, ((t352 != (t340.length : Int))), (by first | rfl | (simp; done) | (simp [*]; done)), H', ⟨by have := HJ5.out; have := HJ11.out; first | omega | exact Nat.le_refl _⟩, ⟨by (with_reducible repeat (first | apply Kd.R_alloc | apply Kd.R_drewN | apply Kd.R_drew)); exact Kd.R_mono HO_11.out (fun _ hk => trivial)⟩, ⟨by repeat (first | (with_reducible first | exact HB.out | apply below_alloc | apply pw_below_drewN | apply below_drew1) | exact HB.out)⟩⟩
                        · replace c29 := Bool.eq_false_iff.mpr c29
                          subst c29
                          have H1 : (pairinglaw8_WireFramed.j2 kj11 l1 a3 a4 t340 true) = some r := by rw [if_neg (show ¬ (false = true) by decide)] at H; exact H
                          clear H
                          have H := H1
                          clear H1
                          have H' := Aside0.mk H
                          clear H
                          obtain ⟨Ao31, co31, eo31⟩ := Kd.R_slice HO355.out
                          subst eo31
                          go_wp2_with (first | (go_at_call 13; (with_reducible refine (pairinglaw8_Same.calls _ _ t351 _ _ l1 false _ ?side1 ?side2 ?side3 ?side4 A28.out).mono ?_); (case side1 => repeat (first | exact (Kd.R_reads' HO355.out).2.2 | (with_reducible refine Kd.C_alloc ?_ _) | (with_reducible refine Kd.C_drewN ?_ _) | (with_reducible refine Kd.C_drew ?_))); (case side2 => exact (Kd.R_reads' HO355.out).2.1); (case side3 => repeat (first | exact (Kd.C_below HR1.out HB.out) | (with_reducible refine Kd.C_alloc ?_ _) | (with_reducible refine Kd.C_drewN ?_ _) | (with_reducible refine Kd.C_drew ?_))); (case side4 => exact HC1.out); rintro e w' ⟨rfl, ⟨nd, rfl⟩⟩))
                          go_meet
                          case rel => exact ⟨_, (true), (by first | rfl | (simp; done) | (simp [*]; done)), H', ⟨by have := HJ5.out; have := HJ11.out; first | omega | exact Nat.le_refl _⟩, ⟨by (with_reducible repeat (first | apply Kd.R_alloc | apply Kd.R_drewN | apply Kd.R_drew)); exact Kd.R_mono HO_11.out (fun _ hk => trivial)⟩, ⟨by repeat (first | (with_reducible first | exact HB.out | apply below_alloc | apply pw_below_drewN | apply below_drew1) | exact HB.out)⟩⟩
                      · rw [if_neg c27] at H
                        have c27b0 : (t350 == a0) = false := beq_eq_false_iff_ne.mpr c27
                        have c27b1 : (t350 != a0) = true := bne_iff_ne.mpr c27
                        have H' := Aside0.mk H
                        clear H
                        go_wp2
                        go_meet
                        case rel => exact ⟨_, (true), (by first | rfl | (simp; done) | (simp [*]; done)), H', ⟨by have := HJ5.out; have := HJ11.out; first | omega | exact Nat.le_refl _⟩, ⟨by (with_reducible repeat (first | apply Kd.R_alloc | apply Kd.R_drewN | apply Kd.R_drew)); exact Kd.R_mono HO_11.out (fun _ hk => trivial)⟩, ⟨by repeat (first | (with_reducible first | exact HB.out | apply below_alloc | apply pw_below_drewN | apply below_drew1) | exact HB.out)⟩⟩
                    · rw [if_neg c26] at H
                      have c26b0 : (t353 == 0) = false := beq_eq_false_iff_ne.mpr c26
                      have c26b1 : (t353 != 0) = true := bne_iff_ne.mpr c26
                      (first | rw [c26b0] | (simp only [i64_w, i32_w]; rw [c26b0]) | skip)
                      have H' := Aside0.mk H
                      clear H
                      go_wp2
                      go_meet
                      case rel => exact ⟨_, (true), (by first | rfl | (simp; done) | (simp [*]; done)), H', ⟨by have := HJ5.out; have := HJ11.out; first | omega | exact Nat.le_refl _⟩, ⟨by (with_reducible repeat (first | apply Kd.R_alloc | apply Kd.R_drewN | apply Kd.R_drew)); exact Kd.R_mono HO_11.out (fun _ hk => trivial)⟩, ⟨by repeat (first | (with_reducible first | exact HB.out | apply below_alloc | apply pw_below_drewN | apply below_drew1) | exact HB.out)⟩⟩
                  case rest =>
                    clear HC20
                    try clear c1
                    try clear c2
                    try clear p2
                    try clear p6
                    try clear c7
                    try clear c7b0
                    try clear c7b1
                    try clear c8
                    try clear c9
                    try clear c10
                    try clear c14
                    try clear c14b0
                    try clear c14b1
                    try clear c16
                    try clear c17
                    try clear c18
                    try clear c26
                    try clear c26b0
                    try clear c26b1
                    try clear c27
                    try clear c27b0
                    try clear c27b1
                    try clear c28
                    try clear c29
                    try clear p2
                    try clear p6
                    obtain ⟨kq, x81_19, rfl, HA, HJ19, HO_11, HB⟩ := hcut
                    cases kq with
                    | zero => exact absurd HA.out (by simp [pairinglaw8_WireFramed.j2])
                    | succ kj19 =>
                      have H := HA.out
                      clear HA
                      simp only [pairinglaw8_WireFramed.j2] at H
                      by_cases c32 : x81_19 = true
                      · subst c32
                        have H1 : (some false) = some r := by rw [if_pos rfl] at H; exact H
                        clear H
                        have H := H1
                        clear H1
                        obtain rfl := Option.some.inj H
                        go_wp2
                        go_ret
                        exact ⟨by first | rfl | (simp [errW_none, errW_some] <;> rfl) | (simp [*, errW_none, errW_some] <;> rfl), by repeat (first | (with_reducible first | exact HB.out | apply below_alloc | apply pw_below_drewN | apply below_drew1) | exact HB.out)⟩
                      · replace c32 := Bool.eq_false_iff.mpr c32
                        subst c32
                        have H1 : (pairinglaw8_WireFramed.l0 kj19 l1 a3 a4 t340 0) = some r := by rw [if_neg (show ¬ (false = true) by decide)] at H; exact H
                        clear H
                        have H := H1
                        clear H1
                        have H' := Aside0.mk H
                        clear H
                        go_wp2
                        go_loopg [17] kj19 (fun kq v17 w' => ∃ (x17_4 : Int), v17 = .int .i64 x17_4 ∧ Aside0 (pairinglaw8_WireFramed.l0 kq l1 a3 a4 t340 x17_4 = some r) ∧ Aside0 (kq ≤ kj19) ∧ Aside0 (Kd.R (Kd.int .u8) 5 w' w.heap.size (fun _ => True) (.slice Ao22 t340.length co22) t340) ∧ Aside0 (Below w.heap.size w w'))
                        case atStart => exact ⟨(0), (by first | rfl | (simp; done) | (simp [*]; done)), H', ⟨Nat.le_refl _⟩, ⟨by (with_reducible repeat (first | apply Kd.R_alloc | apply Kd.R_drewN | apply Kd.R_drew)); exact HO_11.out⟩, ⟨by repeat (first | (with_reducible first | exact HB.out | apply below_alloc | apply pw_below_drewN | apply below_drew1) | exact HB.out)⟩⟩
                        case round =>
                          clear H'
                          try clear c1
                          try clear c2
                          try clear p2
                          try clear c3
                          try clear p6
                          try clear c7
                          try clear c7b0
                          try clear c7b1
                          try clear c8
                          try clear c9
                          try clear c10
                          try clear c14
                          try clear c14b0
                          try clear c14b1
                          try clear c16
                          try clear c17
                          try clear c18
                          try clear c26
                          try clear c26b0
                          try clear c26b1
                          try clear c27
                          try clear c27b0
                          try clear c27b1
                          try clear c28
                          try clear c29
                          try clear c32
                          try clear p2
                          try clear p6
                          obtain ⟨x17_4, rfl, HA, HK4, HO_11, HB⟩ := hrel
                          cases gk with
                          | zero => exact absurd HA.out (by simp [pairinglaw8_WireFramed.l0])
                          | succ k4 =>
                            have H := HA.out
                            clear HA
                            simp only [pairinglaw8_WireFramed.l0] at H
                            by_cases c33 : x17_4 < (t340.length : Int)
                            · rw [if_pos c33] at H
                              have c33b0 : decide (x17_4 < (t340.length : Int)) = true := decide_eq_true c33
                              clear c33
                              by_cases c34 : 0 ≤ x17_4
                              · rw [if_pos c34] at H
                                have c34b0 := eq_true c34
                                have c34b1 : decide (0 ≤ x17_4) = true := decide_eq_true c34
                                clear c34
                                by_cases c35 : x17_4 ≤ (t340.length : Int)
                                · rw [if_pos c35] at H
                                  have c35b0 := eq_true c35
                                  have c35b1 : decide (x17_4 ≤ (t340.length : Int)) = true := decide_eq_true c35
                                  clear c35
                                  obtain ⟨y357, hy357⟩ : ∃ y_ : List Int, y_ = (t340.take (x17_4 : Int).toNat) := ⟨_, rfl⟩
                                  replace H : ((wire_Unframe.f y357).bind fun bt361 => (if bt361.2.2.2 = 3 then (pairinglaw8_WireFramed.l0 k4 l1 a3 a4 t340 (wrap64 (x17_4 + 1))) else (some false))) = some r := by first | (rw [hy357]; with_reducible exact H) | (have H2_ := (Option.bind_some _ _).symm.trans H; rw [hy357]; with_reducible exact H2_) | (have H2_ := (Option.bind_some _ _).symm.trans H; with_reducible exact H2_) | with_reducible exact H | (rw [hy357]; exact H) | exact H
                                  have Ny357 := Aside0.mk hy357
                                  clear hy357
                                  replace H := Option.bind_eq_some_iff.mp H
                                  obtain ⟨⟨t361, t362, t363, t364⟩, A360, H⟩ := H
                                  replace H : (if t364 = 3 then (pairinglaw8_WireFramed.l0 k4 l1 a3 a4 t340 (wrap64 (x17_4 + 1))) else (some false)) = some r := H
                                  have A36 := Aside0.mk A360
                                  clear A360
                                  by_cases c37 : t364 = 3
                                  · rw [if_pos c37] at H
                                    have c37b0 : (t364 == 3) = true := beq_iff_eq.mpr c37
                                    have c37b1 : (t364 != 3) = false := bne_eq_false_iff_eq.mpr c37
                                    clear c37
                                    have H' := Aside0.mk H
                                    clear H
                                    have q38 : (x17_4 : Int) ≤ ((t340.length : Int) : Int) := of_decide_eq_true (by first | (with_reducible assumption) | assumption)
                                    obtain ⟨i038, hi038, _, hsz38, _⟩ := info_parts info5
                                    have hroom38 : t340.length ≤ co22 := (Kd.R_reads' HO_11.out).2.1
                                    have hC38 : Kd.C (Kd.int .u8) _ Ao22 t340.length t340 := (Kd.R_reads' HO_11.out).2.2
                                    have hcut38 := cut_to (P := Try.prog) 23 5 .i64 Try.underlying23 hi038 Ao22 t340.length co22 x17_4 (of_decide_eq_true (by first | (with_reducible assumption) | assumption)) q38 hroom38
                                    have hr38 := Kd.C_take (m := (x17_4 : Int).toNat) hC38 (by omega)
                                    have hy38 : y357.length = (x17_4 : Int).toNat := (by rw [Ny357.out, List.length_take]; omega)
                                    rw [← Ny357.out] at hr38
                                    rw [← hy38] at hcut38
                                    have HR360 := Aside0.mk hr38
                                    have HC360 := Aside0.mk (show y357.length ≤ co22 from by omega)
                                    clear hr38 hC38 hroom38 hi038 hsz38
                                    have KY38 := Aside0.mk hy38
                                    clear hy38
                                    have KL38 := Aside0.mk (show (x17_4 : Int).toNat ≤ t340.length from by omega)
                                    replace q38 := eq_true q38
                                    go_wp2_with (first | ((with_reducible refine gate_callee (f := 28) rfl ?_); refine goesL_ (some 92) rfl rfl Try.func28 (by kernel_rfl) rfl #[.slice Ao22 y357.length co22] rfl (by (try simp only [List.map_toArray, List.map_cons, List.map_nil]); first | done | rfl | (simp only [List.length_drop, List.length_take]; rfl)) ?_; (with_reducible refine (wire_Unframe.calls _ _ y357 t361 t362 t363 t364 _ ?side1 ?side2 A36.out).mono ?_); (case side1 => repeat (first | exact (by repeat (first | (with_reducible exact HR360.out) | (with_reducible refine Kd.C_alloc ?_ _) | (with_reducible refine Kd.C_drewN ?_ _) | (with_reducible refine Kd.C_drew ?_) | exact HR360.out)) | (with_reducible refine Kd.C_alloc ?_ _) | (with_reducible refine Kd.C_drewN ?_ _) | (with_reducible refine Kd.C_drew ?_))); (case side2 => exact HC360.out); rintro e w39 ⟨v365, rfl, ho0, hb⟩; refine ⟨_, rfl, ?_⟩; have n0_ := Aside0.mk (Kd.R_elder' (by (with_reducible repeat (first | apply Kd.R_alloc | apply Kd.R_drewN | apply Kd.R_drew)); exact HO_11.out) (Kd.R_base ho0) hb); have n1_ := Aside0.mk (Kd.R_lower (Kd.R_new' ho0 (Kd.R_lt (by (with_reducible repeat (first | apply Kd.R_alloc | apply Kd.R_drewN | apply Kd.R_drew)); exact HO_11.out))) (below_size (by repeat (first | (with_reducible first | exact HB.out | apply below_alloc | apply pw_below_drewN | apply below_drew1) | exact HB.out)))); have n2_ := Aside0.mk (Kd.C_below (by repeat (first | (with_reducible exact HR360.out) | (with_reducible refine Kd.C_alloc ?_ _) | (with_reducible refine Kd.C_drewN ?_ _) | (with_reducible refine Kd.C_drew ?_) | exact HR360.out)) hb); have n3_ := Aside0.mk (below_step (by repeat (first | (with_reducible first | exact HB.out | apply below_alloc | apply pw_below_drewN | apply below_drew1) | exact HB.out)) hb); clear HO_11; clear HR360; clear HB; have HO_11 := n0_; have HO366 := n1_; have HR360 := n2_; have HB := n3_; clear n0_ n1_ n2_ n3_; (try clear hb); (try clear hb2); (try clear hk); (try clear hi); (try clear ho0)))
                                    go_roundg k4
                                    case measure => have := HJ5.out; have := HJ11.out; have := HJ19.out; have := HK4.out; omega
                                    case rel => exact ⟨(wrap64 (x17_4 + 1)), (by first | rfl | (simp; done) | (simp [*]; done)), H', ⟨by have := HJ5.out; have := HJ11.out; have := HJ19.out; have := HK4.out; omega⟩, ⟨by (with_reducible repeat (first | apply Kd.R_alloc | apply Kd.R_drewN | apply Kd.R_drew)); exact Kd.R_mono HO_11.out (fun _ hk => trivial)⟩, ⟨by repeat (first | (with_reducible first | exact HB.out | apply below_alloc | apply pw_below_drewN | apply below_drew1) | exact HB.out)⟩⟩
                                  · rw [if_neg c37] at H
                                    have c37b0 : (t364 == 3) = false := beq_eq_false_iff_ne.mpr c37
                                    have c37b1 : (t364 != 3) = true := bne_iff_ne.mpr c37
                                    obtain rfl := Option.some.inj H
                                    have q40 : (x17_4 : Int) ≤ ((t340.length : Int) : Int) := of_decide_eq_true (by first | (with_reducible assumption) | assumption)
                                    obtain ⟨i040, hi040, _, hsz40, _⟩ := info_parts info5
                                    have hroom40 : t340.length ≤ co22 := (Kd.R_reads' HO_11.out).2.1
                                    have hC40 : Kd.C (Kd.int .u8) _ Ao22 t340.length t340 := (Kd.R_reads' HO_11.out).2.2
                                    have hcut40 := cut_to (P := Try.prog) 23 5 .i64 Try.underlying23 hi040 Ao22 t340.length co22 x17_4 (of_decide_eq_true (by first | (with_reducible assumption) | assumption)) q40 hroom40
                                    have hr40 := Kd.C_take (m := (x17_4 : Int).toNat) hC40 (by omega)
                                    have hy40 : y357.length = (x17_4 : Int).toNat := (by rw [Ny357.out, List.length_take]; omega)
                                    rw [← Ny357.out] at hr40
                                    rw [← hy40] at hcut40
                                    have HR360 := Aside0.mk hr40
                                    have HC360 := Aside0.mk (show y357.length ≤ co22 from by omega)
                                    clear hr40 hC40 hroom40 hi040 hsz40
                                    have KY40 := Aside0.mk hy40
                                    clear hy40
                                    have KL40 := Aside0.mk (show (x17_4 : Int).toNat ≤ t340.length from by omega)
                                    replace q40 := eq_true q40
                                    go_wp2_with (first | ((with_reducible refine gate_callee (f := 28) rfl ?_); refine goesL_ (some 92) rfl rfl Try.func28 (by kernel_rfl) rfl #[.slice Ao22 y357.length co22] rfl (by (try simp only [List.map_toArray, List.map_cons, List.map_nil]); first | done | rfl | (simp only [List.length_drop, List.length_take]; rfl)) ?_; (with_reducible refine (wire_Unframe.calls _ _ y357 t361 t362 t363 t364 _ ?side1 ?side2 A36.out).mono ?_); (case side1 => repeat (first | exact (by repeat (first | (with_reducible exact HR360.out) | (with_reducible refine Kd.C_alloc ?_ _) | (with_reducible refine Kd.C_drewN ?_ _) | (with_reducible refine Kd.C_drew ?_) | exact HR360.out)) | (with_reducible refine Kd.C_alloc ?_ _) | (with_reducible refine Kd.C_drewN ?_ _) | (with_reducible refine Kd.C_drew ?_))); (case side2 => exact HC360.out); rintro e w41 ⟨v365, rfl, ho0, hb⟩; refine ⟨_, rfl, ?_⟩; have n0_ := Aside0.mk (Kd.R_elder' (by (with_reducible repeat (first | apply Kd.R_alloc | apply Kd.R_drewN | apply Kd.R_drew)); exact HO_11.out) (Kd.R_base ho0) hb); have n1_ := Aside0.mk (Kd.R_lower (Kd.R_new' ho0 (Kd.R_lt (by (with_reducible repeat (first | apply Kd.R_alloc | apply Kd.R_drewN | apply Kd.R_drew)); exact HO_11.out))) (below_size (by repeat (first | (with_reducible first | exact HB.out | apply below_alloc | apply pw_below_drewN | apply below_drew1) | exact HB.out)))); have n2_ := Aside0.mk (Kd.C_below (by repeat (first | (with_reducible exact HR360.out) | (with_reducible refine Kd.C_alloc ?_ _) | (with_reducible refine Kd.C_drewN ?_ _) | (with_reducible refine Kd.C_drew ?_) | exact HR360.out)) hb); have n3_ := Aside0.mk (below_step (by repeat (first | (with_reducible first | exact HB.out | apply below_alloc | apply pw_below_drewN | apply below_drew1) | exact HB.out)) hb); clear HO_11; clear HR360; clear HB; have HO_11 := n0_; have HO366 := n1_; have HR360 := n2_; have HB := n3_; clear n0_ n1_ n2_ n3_; (try clear hb); (try clear hb2); (try clear hk); (try clear hi); (try clear ho0)))
                                    go_ret
                                    exact ⟨by first | rfl | (simp [errW_none, errW_some] <;> rfl) | (simp [*, errW_none, errW_some] <;> rfl), by repeat (first | (with_reducible first | exact HB.out | apply below_alloc | apply pw_below_drewN | apply below_drew1) | exact HB.out)⟩
                                · rw [if_neg c35] at H
                                  exact absurd H (by simp)
                              · rw [if_neg c34] at H
                                exact absurd H (by simp)
                            · rw [if_neg c33] at H
                              have c33b0 : decide (x17_4 < (t340.length : Int)) = false := decide_eq_false c33
                              clear c33
                              by_cases c42 : ([] : List Int).length + t340.length < 140737488355328
                              · rw [if_pos c42] at H
                                have LMc42 := Aside0.mk c42
                                clear c42
                                obtain ⟨y367, hy367⟩ : ∃ y_ : List Int, y_ = (([] : List Int) ++ t340) := ⟨_, rfl⟩
                                replace H : (if (wrap64 ((l1.length : Int) + 4)) = 0 then (none) else (if 0 ≤ (wrap64 ((wrap64 ((wrap64 ((t340.length : Int) - (l1.length : Int))) - 4)) + (Int.tmod (Go.bits .and .i64 a3 65535) (wrap64 ((l1.length : Int) + 4))))) then (if (wrap64 ((wrap64 ((wrap64 ((t340.length : Int) - (l1.length : Int))) - 4)) + (Int.tmod (Go.bits .and .i64 a3 65535) (wrap64 ((l1.length : Int) + 4))))) < (y367.length : Int) then (if 0 ≤ (IntKind.u64.wrap (Go.bits .and .i64 a4 7)) then ((wire_Unframe.f (y367.set ((wrap64 ((wrap64 ((wrap64 ((t340.length : Int) - (l1.length : Int))) - 4)) + (Int.tmod (Go.bits .and .i64 a3 65535) (wrap64 ((l1.length : Int) + 4))))) : Int).toNat (Go.bits .xor .u8 (rd y367 (wrap64 ((wrap64 ((wrap64 ((t340.length : Int) - (l1.length : Int))) - 4)) + (Int.tmod (Go.bits .and .i64 a3 65535) (wrap64 ((l1.length : Int) + 4)))))) (shl .u8 1 (IntKind.u64.wrap (Go.bits .and .i64 a4 7)))))).bind fun bt372 => (if bt372.2.2.2 = 4 then ((pairinglaw8_awake.f k4).bind fun t378 => (some t378)) else (some false))) else (none)) else (none)) else (none))) = some r := by first | (rw [hy367]; with_reducible exact H) | (have H2_ := (Option.bind_some _ _).symm.trans H; rw [hy367]; with_reducible exact H2_) | (have H2_ := (Option.bind_some _ _).symm.trans H; with_reducible exact H2_) | with_reducible exact H | (rw [hy367]; exact H) | exact H
                                have Ny367 := Aside0.mk hy367
                                clear hy367
                                by_cases c43 : (wrap64 ((l1.length : Int) + 4)) = 0
                                · rw [if_pos c43] at H
                                  exact absurd H (by simp)
                                · rw [if_neg c43] at H
                                  have c43b0 : ((wrap64 ((l1.length : Int) + 4)) == 0) = false := beq_eq_false_iff_ne.mpr c43
                                  have c43b1 : ((wrap64 ((l1.length : Int) + 4)) != 0) = true := bne_iff_ne.mpr c43
                                  obtain ⟨ji44, hji44⟩ : ∃ j_ : Int, (wrap64 ((wrap64 ((wrap64 ((t340.length : Int) - (l1.length : Int))) - 4)) + (Int.tmod (Go.bits .and .i64 a3 65535) (wrap64 ((l1.length : Int) + 4))))) = j_ := ⟨_, rfl⟩
                                  replace H : (if 0 ≤ (ji44) then (if (ji44) < (y367.length : Int) then (if 0 ≤ (IntKind.u64.wrap (Go.bits .and .i64 a4 7)) then ((wire_Unframe.f (y367.set ((ji44) : Int).toNat (Go.bits .xor .u8 (rd y367 (ji44)) (shl .u8 1 (IntKind.u64.wrap (Go.bits .and .i64 a4 7)))))).bind fun bt372 => (if bt372.2.2.2 = 4 then ((pairinglaw8_awake.f k4).bind fun t378 => (some t378)) else (some false))) else (none)) else (none)) else (none)) = some r := by first | (rw [hji44] at H; exact H) | (simp only [hji44] at H ⊢; exact H)
                                  have hji44w : (IntKind.i64.wrap ((wrap64 ((wrap64 ((t340.length : Int) - (l1.length : Int))) - 4)) + (Int.tmod (Go.bits .and .i64 a3 65535) (wrap64 ((l1.length : Int) + 4))))) = ji44 := (i64_w _).trans hji44
                                  by_cases c45 : 0 ≤ (ji44)
                                  · rw [if_pos c45] at H
                                    have c45b0 : decide (0 ≤ (ji44)) = true := decide_eq_true c45
                                    clear c45
                                    by_cases c46 : (ji44) < (y367.length : Int)
                                    · rw [if_pos c46] at H
                                      have c46b0 : decide ((ji44) < (y367.length : Int)) = true := decide_eq_true c46
                                      clear c46
                                      obtain ⟨ji47, hji47⟩ : ∃ j_ : Int, (IntKind.u64.wrap (Go.bits .and .i64 a4 7)) = j_ := ⟨_, rfl⟩
                                      replace H : (if 0 ≤ (ji47) then ((wire_Unframe.f (y367.set ((ji44) : Int).toNat (Go.bits .xor .u8 (rd y367 (ji44)) (shl .u8 1 (ji47))))).bind fun bt372 => (if bt372.2.2.2 = 4 then ((pairinglaw8_awake.f k4).bind fun t378 => (some t378)) else (some false))) else (none)) = some r := by first | (rw [hji47] at H; exact H) | (simp only [hji47] at H ⊢; exact H)
                                      by_cases c48 : 0 ≤ (ji47)
                                      · rw [if_pos c48] at H
                                        have c48b0 := eq_true c48
                                        have c48b1 : decide (0 ≤ (ji47)) = true := decide_eq_true c48
                                        clear c48
                                        obtain ⟨ji49, hji49⟩ : ∃ j_ : Int, (shl .u8 1 (ji47)) = j_ := ⟨_, rfl⟩
                                        replace H : ((wire_Unframe.f (y367.set ((ji44) : Int).toNat (Go.bits .xor .u8 (rd y367 (ji44)) (ji49)))).bind fun bt372 => (if bt372.2.2.2 = 4 then ((pairinglaw8_awake.f k4).bind fun t378 => (some t378)) else (some false))) = some r := by first | (rw [hji49] at H; exact H) | (simp only [hji49] at H ⊢; exact H)
                                        have hji49_ : (IntKind.u8.wrap (1 * 2 ^ min (ji47).toNat 8)) = ji49 := hji49
                                        have hji49z : (ji47) ≤ 8 → (IntKind.u8.wrap (1 * 2 ^ (ji47).toNat)) = ji49 := shl_small hji49
                                        have hji49u : (IntKind.u8.wrap (2 ^ min (ji47).toNat 8)) = ji49 := by have h_ := hji49_; rw [Int.one_mul] at h_; exact h_
                                        have hji49v : (ji47) ≤ 8 → (IntKind.u8.wrap (2 ^ (ji47).toNat)) = ji49 := fun hle_ => by have h_ := hji49z hle_; rw [Int.one_mul] at h_; exact h_
                                        obtain ⟨y371, hy371⟩ : ∃ y_ : List Int, y_ = (y367.set ((ji44) : Int).toNat (Go.bits .xor .u8 (rd y367 (ji44)) (ji49))) := ⟨_, rfl⟩
                                        replace H : ((wire_Unframe.f y371).bind fun bt372 => (if bt372.2.2.2 = 4 then ((pairinglaw8_awake.f k4).bind fun t378 => (some t378)) else (some false))) = some r := by first | (rw [hy371]; with_reducible exact H) | (have H2_ := (Option.bind_some _ _).symm.trans H; rw [hy371]; with_reducible exact H2_) | (have H2_ := (Option.bind_some _ _).symm.trans H; with_reducible exact H2_) | with_reducible exact H | (rw [hy371]; exact H) | exact H
                                        have Ny371 := Aside0.mk hy371
                                        clear hy371
                                        replace H := Option.bind_eq_some_iff.mp H
                                        obtain ⟨⟨t372, t373, t374, t375⟩, A510, H⟩ := H
                                        replace H : (if t375 = 4 then ((pairinglaw8_awake.f k4).bind fun t378 => (some t378)) else (some false)) = some r := H
                                        have A51 := Aside0.mk A510
                                        clear A510
                                        by_cases c52 : t375 = 4
                                        · rw [if_pos c52] at H
                                          have c52b0 : (t375 == 4) = true := beq_iff_eq.mpr c52
                                          have c52b1 : (t375 != 4) = false := bne_eq_false_iff_eq.mpr c52
                                          clear c52
                                          replace H := Option.bind_eq_some_iff.mp H
                                          obtain ⟨t378, A530, H⟩ := H
                                          replace H : (some t378) = some r := H
                                          have A53 := Aside0.mk A530
                                          clear A530
                                          obtain rfl := Option.some.inj H
                                          go_wp2_with (first | ((with_reducible refine gate_builtin (b := .append) (xs := #[.const (.slice none 0 0), .tmp 99]) rfl ?_); (try (refine gate_guard (by rfl) ?_; dsimp only)); at_builtin; refine Kd.R_append_rows (Kd.int .u8) (w0 := w) w.heap.size rfl (.const (.slice none 0 0)) (.tmp 99) 23 5 (.int .u8 0) 1 rfl Try.underlying23 info5 rfl (by decide) (by omega) (.slice none 0 0) ([] : List Int) t340 _ _ _ (fun k_ => some k_ ≠ (.slice Ao22 t340.length co22 : Value).ownBlock) (fun _ => False) rfl rfl ?aO ?aR (fun _ _ h => h) (fun _ h => h.elim) ?aF ?aB ?aS ?aL ?_; (case aR => repeat (first | exact (Kd.R_reads' HO_11.out).2.2 | (with_reducible refine Kd.C_alloc ?_ _) | (with_reducible refine Kd.C_drewN ?_ _) | (with_reducible refine Kd.C_drew ?_))); (case aB => exact (by repeat (first | (with_reducible first | exact HB.out | apply below_alloc | apply pw_below_drewN | apply below_drew1) | exact HB.out))); (case aF => exact (fun k_ hk => Kd.fresh' (Kd.R_lt (by (with_reducible repeat (first | apply Kd.R_alloc | apply Kd.R_drewN | apply Kd.R_drew)); exact HO_11.out)) k_ hk)); (case aO => exact ((Kd.R_nil _ _ _ _ (fun k_ => some k_ ≠ (.slice Ao22 t340.length co22 : Value).ownBlock)))); (case aS => exact (below_size (by repeat (first | (with_reducible first | exact HB.out | apply below_alloc | apply pw_below_drewN | apply below_drew1) | exact HB.out)))); (case aL => have := LMc42.out; omega); intro v368 w54 ho hb hg hat; rw [← Ny367.out] at ho; have n0_ := Aside0.mk (Kd.R_after (Kd.R_apart_nil (by (with_reducible repeat (first | apply Kd.R_alloc | apply Kd.R_drewN | apply Kd.R_drew)); exact HO_11.out)) hg hat); have n1_ := Aside0.mk (hb); have n2_ := Aside0.mk (ho); clear HO_11; clear HB; have HO_11 := n0_; have HB := n1_; have HO369 := n2_; clear n0_ n1_ n2_; clear ho hb hg hat; obtain ⟨Ao55, co55, eo55⟩ := Kd.R_slice HO369.out; subst eo55; have p370 : 0 ≤ ((ji44) : Int) := of_decide_eq_true (by first | (with_reducible assumption) | assumption); have q370 : (ji44) < (y367.length : Int) := of_decide_eq_true (by first | (with_reducible assumption) | assumption); obtain ⟨ad370, e370, hx370_0⟩ := Kd.at_int (Kd.R_reads' HO369.out).2.2 (ji44) p370 q370; cases e370; replace p370 := eq_true p370; replace q370 := eq_true q370; have p50 : 0 ≤ ((ji44) : Int) := of_decide_eq_true (by first | (with_reducible assumption) | assumption); have q50 : ((ji44) : Int) < ((y367.length : Int) : Int) := of_decide_eq_true (by first | (with_reducible assumption) | assumption); obtain ⟨go50, co50, eo50, gb50, gl50, cl50, HG50⟩ := Kd.R_form HO369.out (by omega); (first | cases eo50 | (injection eo50 with ea_ en_ ec_; (first | subst ea_ | (injection ea_ with ea_; subst ea_)); subst ec_; clear en_)); have GB50 := Aside0.mk gb50; have GG50 := Aside0.mk HG50; clear gb50 gl50 HG50; (first | simp only [add_plain] at hx370_0 | skip); obtain ⟨hx50_0, hf50_0⟩ := Kd.R_celln 0 HO369.out ((ji44) : Int) p50 q50; replace p50 := eq_true p50; replace q50 := eq_true q50; obtain ⟨hy56_, hz56_⟩ := Kd.R_celln 0 HO369.out ((ji44) : Int) (of_decide_eq_true (by first | (with_reducible assumption) | assumption)) (of_decide_eq_true (by first | (with_reducible assumption) | assumption)); have HP56 := Kd.R_putg HO369.out ((ji44) : Int) (Go.bits .xor .u8 (rd y367 (ji44)) (ji49))) | ((with_reducible refine gate_store (t := 5) (p := 125) rfl ?_); refine store_event (t := 5) (p := 125) (v := ?vo_w57) (w1 := (w54.setCell ⟨go50, ((ji44) : Int).toNat, none⟩ (.int .u8 (Go.bits .xor .u8 (rd y367 (ji44)) (ji49))))) ?hg ?ho ?hn ?hr ?_; (case ho => rfl); (case hg => rfl); (case hn => rfl); (case hr => first | (go_simp; done) | (go_simp; rfl)); intro w57 hw; have hg : w54.grownBy w57 (some go50) := (by rw [hw]; exact HP56.2); have hp_ : Kd.R (Kd.int .u8) 5 w57 w.heap.size (fun k_ => some k_ ≠ (.slice Ao22 t340.length co22 : Value).ownBlock) (.slice (some ⟨go50, 0, none⟩) y367.length co55) y371 := (by rw [hw, Ny371.out]; exact HP56.1); clear HP56; have n0_ := Aside0.mk (Kd.R_after (v := (.slice (some ⟨go50, 0, none⟩) y367.length co55)) (v1 := (.slice (some ⟨go50, 0, none⟩) y367.length co55)) (ok := (fun _ => True)) (by (with_reducible repeat (first | apply Kd.R_alloc | apply Kd.R_drewN | apply Kd.R_drew)); exact HO_11.out) hg (.inl rfl)); have n1_ := Aside0.mk (hp_); have n2_ := Aside0.mk ((by rw [hw]; exact below_set (HB.out) GB50.out : Below w.heap.size w w57)); clear HO_11; clear HO369; clear HB; have HO_11 := n0_; have HO369 := n1_; have HB := n2_; clear n0_ n1_ n2_; clear hg hw hp_) | ((with_reducible refine gate_callee (f := 28) rfl ?_); refine goesL_ (some 128) rfl rfl Try.func28 (by kernel_rfl) rfl #[.slice (some ⟨go50, 0, none⟩) y371.length co55] rfl (by (try simp only [List.map_toArray, List.map_cons, List.map_nil]); first | done | (rw [show y371.length = y367.length from (Kd.R_reads' HO369.out).1.symm] <;> rfl) | rfl | (simp only [List.length_drop, List.length_take]; rfl)) ?_; (with_reducible refine (wire_Unframe.calls _ _ y371 t372 t373 t374 t375 _ ?side1 ?side2 A51.out).mono ?_); (case side1 => repeat (first | exact (Kd.R_reads' HO369.out).2.2 | (with_reducible refine Kd.C_alloc ?_ _) | (with_reducible refine Kd.C_drewN ?_ _) | (with_reducible refine Kd.C_drew ?_))); (case side2 => rw [show y371.length = y367.length from (Kd.R_reads' HO369.out).1.symm]; exact (Kd.R_reads' HO369.out).2.1); rintro e w58 ⟨v376, rfl, ho0, hb⟩; refine ⟨_, rfl, ?_⟩; have n0_ := Aside0.mk (Kd.R_elder' (by (with_reducible repeat (first | apply Kd.R_alloc | apply Kd.R_drewN | apply Kd.R_drew)); exact HO_11.out) (Kd.R_base ho0) hb); have n1_ := Aside0.mk (Kd.R_elder' (by (with_reducible repeat (first | apply Kd.R_alloc | apply Kd.R_drewN | apply Kd.R_drew)); exact HO369.out) (Kd.R_base ho0) hb); have n2_ := Aside0.mk (Kd.R_lower (Kd.R_new' (Kd.R_new' ho0 (Kd.R_lt (by (with_reducible repeat (first | apply Kd.R_alloc | apply Kd.R_drewN | apply Kd.R_drew)); exact HO_11.out))) (Kd.R_lt (by (with_reducible repeat (first | apply Kd.R_alloc | apply Kd.R_drewN | apply Kd.R_drew)); exact HO369.out))) (below_size (by repeat (first | (with_reducible first | exact HB.out | apply below_alloc | apply pw_below_drewN | apply below_drew1) | exact HB.out)))); have n3_ := Aside0.mk (below_step (by repeat (first | (with_reducible first | exact HB.out | apply below_alloc | apply pw_below_drewN | apply below_drew1) | exact HB.out)) hb); clear HO_11; clear HO369; clear HB; have HO_11 := n0_; have HO369 := n1_; have HO377 := n2_; have HB := n3_; clear n0_ n1_ n2_ n3_; (try clear hb); (try clear hb2); (try clear hk); (try clear hi); (try clear ho0)) | (go_at_call 10; (with_reducible refine (pairinglaw8_awake.calls k4  t378 _ A53.out).mono ?_); rintro e w59 ⟨rfl, hb⟩; have n0_ := Aside0.mk (Kd.R_below (by (with_reducible repeat (first | apply Kd.R_alloc | apply Kd.R_drewN | apply Kd.R_drew)); exact HO_11.out) hb); have n1_ := Aside0.mk (Kd.R_below (by (with_reducible repeat (first | apply Kd.R_alloc | apply Kd.R_drewN | apply Kd.R_drew)); exact HO369.out) hb); have n2_ := Aside0.mk (Kd.R_below (by (with_reducible repeat (first | apply Kd.R_alloc | apply Kd.R_drewN | apply Kd.R_drew)); exact HO377.out) hb); have n3_ := Aside0.mk (below_step (by repeat (first | (with_reducible first | exact HB.out | apply below_alloc | apply pw_below_drewN | apply below_drew1) | exact HB.out)) hb); clear HO_11; clear HO369; clear HO377; clear HB; have HO_11 := n0_; have HO369 := n1_; have HO377 := n2_; have HB := n3_; clear n0_ n1_ n2_ n3_; (try clear hb); (try clear hb2); (try clear hk); (try clear hi)))
                                          go_ret
                                          exact ⟨by first | rfl | (simp [errW_none, errW_some] <;> rfl) | (simp only [← hji44, ← hji47, ← hji49]; first | rfl | (simp [errW_none, errW_some] <;> rfl)) | (simp [*, errW_none, errW_some] <;> rfl), by repeat (first | (with_reducible first | exact HB.out | apply below_alloc | apply pw_below_drewN | apply below_drew1) | exact HB.out)⟩
                                        · rw [if_neg c52] at H
                                          have c52b0 : (t375 == 4) = false := beq_eq_false_iff_ne.mpr c52
                                          have c52b1 : (t375 != 4) = true := bne_iff_ne.mpr c52
                                          obtain rfl := Option.some.inj H
                                          go_wp2_with (first | ((with_reducible refine gate_builtin (b := .append) (xs := #[.const (.slice none 0 0), .tmp 99]) rfl ?_); (try (refine gate_guard (by rfl) ?_; dsimp only)); at_builtin; refine Kd.R_append_rows (Kd.int .u8) (w0 := w) w.heap.size rfl (.const (.slice none 0 0)) (.tmp 99) 23 5 (.int .u8 0) 1 rfl Try.underlying23 info5 rfl (by decide) (by omega) (.slice none 0 0) ([] : List Int) t340 _ _ _ (fun k_ => some k_ ≠ (.slice Ao22 t340.length co22 : Value).ownBlock) (fun _ => False) rfl rfl ?aO ?aR (fun _ _ h => h) (fun _ h => h.elim) ?aF ?aB ?aS ?aL ?_; (case aR => repeat (first | exact (Kd.R_reads' HO_11.out).2.2 | (with_reducible refine Kd.C_alloc ?_ _) | (with_reducible refine Kd.C_drewN ?_ _) | (with_reducible refine Kd.C_drew ?_))); (case aB => exact (by repeat (first | (with_reducible first | exact HB.out | apply below_alloc | apply pw_below_drewN | apply below_drew1) | exact HB.out))); (case aF => exact (fun k_ hk => Kd.fresh' (Kd.R_lt (by (with_reducible repeat (first | apply Kd.R_alloc | apply Kd.R_drewN | apply Kd.R_drew)); exact HO_11.out)) k_ hk)); (case aO => exact ((Kd.R_nil _ _ _ _ (fun k_ => some k_ ≠ (.slice Ao22 t340.length co22 : Value).ownBlock)))); (case aS => exact (below_size (by repeat (first | (with_reducible first | exact HB.out | apply below_alloc | apply pw_below_drewN | apply below_drew1) | exact HB.out)))); (case aL => have := LMc42.out; omega); intro v368 w60 ho hb hg hat; rw [← Ny367.out] at ho; have n0_ := Aside0.mk (Kd.R_after (Kd.R_apart_nil (by (with_reducible repeat (first | apply Kd.R_alloc | apply Kd.R_drewN | apply Kd.R_drew)); exact HO_11.out)) hg hat); have n1_ := Aside0.mk (hb); have n2_ := Aside0.mk (ho); clear HO_11; clear HB; have HO_11 := n0_; have HB := n1_; have HO369 := n2_; clear n0_ n1_ n2_; clear ho hb hg hat; obtain ⟨Ao61, co61, eo61⟩ := Kd.R_slice HO369.out; subst eo61; have p370 : 0 ≤ ((ji44) : Int) := of_decide_eq_true (by first | (with_reducible assumption) | assumption); have q370 : (ji44) < (y367.length : Int) := of_decide_eq_true (by first | (with_reducible assumption) | assumption); obtain ⟨ad370, e370, hx370_0⟩ := Kd.at_int (Kd.R_reads' HO369.out).2.2 (ji44) p370 q370; cases e370; replace p370 := eq_true p370; replace q370 := eq_true q370; have p50 : 0 ≤ ((ji44) : Int) := of_decide_eq_true (by first | (with_reducible assumption) | assumption); have q50 : ((ji44) : Int) < ((y367.length : Int) : Int) := of_decide_eq_true (by first | (with_reducible assumption) | assumption); obtain ⟨go50, co50, eo50, gb50, gl50, cl50, HG50⟩ := Kd.R_form HO369.out (by omega); (first | cases eo50 | (injection eo50 with ea_ en_ ec_; (first | subst ea_ | (injection ea_ with ea_; subst ea_)); subst ec_; clear en_)); have GB50 := Aside0.mk gb50; have GG50 := Aside0.mk HG50; clear gb50 gl50 HG50; (first | simp only [add_plain] at hx370_0 | skip); obtain ⟨hx50_0, hf50_0⟩ := Kd.R_celln 0 HO369.out ((ji44) : Int) p50 q50; replace p50 := eq_true p50; replace q50 := eq_true q50; obtain ⟨hy62_, hz62_⟩ := Kd.R_celln 0 HO369.out ((ji44) : Int) (of_decide_eq_true (by first | (with_reducible assumption) | assumption)) (of_decide_eq_true (by first | (with_reducible assumption) | assumption)); have HP62 := Kd.R_putg HO369.out ((ji44) : Int) (Go.bits .xor .u8 (rd y367 (ji44)) (ji49))) | ((with_reducible refine gate_store (t := 5) (p := 125) rfl ?_); refine store_event (t := 5) (p := 125) (v := ?vo_w63) (w1 := (w60.setCell ⟨go50, ((ji44) : Int).toNat, none⟩ (.int .u8 (Go.bits .xor .u8 (rd y367 (ji44)) (ji49))))) ?hg ?ho ?hn ?hr ?_; (case ho => rfl); (case hg => rfl); (case hn => rfl); (case hr => first | (go_simp; done) | (go_simp; rfl)); intro w63 hw; have hg : w60.grownBy w63 (some go50) := (by rw [hw]; exact HP62.2); have hp_ : Kd.R (Kd.int .u8) 5 w63 w.heap.size (fun k_ => some k_ ≠ (.slice Ao22 t340.length co22 : Value).ownBlock) (.slice (some ⟨go50, 0, none⟩) y367.length co61) y371 := (by rw [hw, Ny371.out]; exact HP62.1); clear HP62; have n0_ := Aside0.mk (Kd.R_after (v := (.slice (some ⟨go50, 0, none⟩) y367.length co61)) (v1 := (.slice (some ⟨go50, 0, none⟩) y367.length co61)) (ok := (fun _ => True)) (by (with_reducible repeat (first | apply Kd.R_alloc | apply Kd.R_drewN | apply Kd.R_drew)); exact HO_11.out) hg (.inl rfl)); have n1_ := Aside0.mk (hp_); have n2_ := Aside0.mk ((by rw [hw]; exact below_set (HB.out) GB50.out : Below w.heap.size w w63)); clear HO_11; clear HO369; clear HB; have HO_11 := n0_; have HO369 := n1_; have HB := n2_; clear n0_ n1_ n2_; clear hg hw hp_) | ((with_reducible refine gate_callee (f := 28) rfl ?_); refine goesL_ (some 128) rfl rfl Try.func28 (by kernel_rfl) rfl #[.slice (some ⟨go50, 0, none⟩) y371.length co61] rfl (by (try simp only [List.map_toArray, List.map_cons, List.map_nil]); first | done | (rw [show y371.length = y367.length from (Kd.R_reads' HO369.out).1.symm] <;> rfl) | rfl | (simp only [List.length_drop, List.length_take]; rfl)) ?_; (with_reducible refine (wire_Unframe.calls _ _ y371 t372 t373 t374 t375 _ ?side1 ?side2 A51.out).mono ?_); (case side1 => repeat (first | exact (Kd.R_reads' HO369.out).2.2 | (with_reducible refine Kd.C_alloc ?_ _) | (with_reducible refine Kd.C_drewN ?_ _) | (with_reducible refine Kd.C_drew ?_))); (case side2 => rw [show y371.length = y367.length from (Kd.R_reads' HO369.out).1.symm]; exact (Kd.R_reads' HO369.out).2.1); rintro e w64 ⟨v376, rfl, ho0, hb⟩; refine ⟨_, rfl, ?_⟩; have n0_ := Aside0.mk (Kd.R_elder' (by (with_reducible repeat (first | apply Kd.R_alloc | apply Kd.R_drewN | apply Kd.R_drew)); exact HO_11.out) (Kd.R_base ho0) hb); have n1_ := Aside0.mk (Kd.R_elder' (by (with_reducible repeat (first | apply Kd.R_alloc | apply Kd.R_drewN | apply Kd.R_drew)); exact HO369.out) (Kd.R_base ho0) hb); have n2_ := Aside0.mk (Kd.R_lower (Kd.R_new' (Kd.R_new' ho0 (Kd.R_lt (by (with_reducible repeat (first | apply Kd.R_alloc | apply Kd.R_drewN | apply Kd.R_drew)); exact HO_11.out))) (Kd.R_lt (by (with_reducible repeat (first | apply Kd.R_alloc | apply Kd.R_drewN | apply Kd.R_drew)); exact HO369.out))) (below_size (by repeat (first | (with_reducible first | exact HB.out | apply below_alloc | apply pw_below_drewN | apply below_drew1) | exact HB.out)))); have n3_ := Aside0.mk (below_step (by repeat (first | (with_reducible first | exact HB.out | apply below_alloc | apply pw_below_drewN | apply below_drew1) | exact HB.out)) hb); clear HO_11; clear HO369; clear HB; have HO_11 := n0_; have HO369 := n1_; have HO377 := n2_; have HB := n3_; clear n0_ n1_ n2_ n3_; (try clear hb); (try clear hb2); (try clear hk); (try clear hi); (try clear ho0)))
                                          go_ret
                                          exact ⟨by first | rfl | (simp [errW_none, errW_some] <;> rfl) | (simp only [← hji44, ← hji47, ← hji49]; first | rfl | (simp [errW_none, errW_some] <;> rfl)) | (simp [*, errW_none, errW_some] <;> rfl), by repeat (first | (with_reducible first | exact HB.out | apply below_alloc | apply pw_below_drewN | apply below_drew1) | exact HB.out)⟩
                                      · rw [if_neg c48] at H
                                        exact absurd H (by simp)
                                    · rw [if_neg c46] at H
                                      exact absurd H (by simp)
                                  · rw [if_neg c45] at H
                                    exact absurd H (by simp)
                              · rw [if_neg c42] at H
                                exact absurd H (by simp)
                · rw [if_neg c18] at H
                  exact absurd H (by simp)
              · rw [if_neg c17] at H
                exact absurd H (by simp)

/-- THE ONE PURE STATEMENT of pairinglaw8_WireFramed: yours. -/
def pairinglaw8_WireFramed.Pure : Prop := ∀ (a0 : Int) (l1 : List Int) (l2 : List Int) (a3 : Int) (a4 : Int), (Lit.int .u8 a0).wf = true → l1.length ≤ maxLen → l1.length * 1 ≤ 140737488351232 → (∀ x ∈ l1, (Lit.int .u8 x).wf = true) → l2.length ≤ maxLen → l2.length * 1 ≤ 140737488351232 → (∀ x ∈ l2, (Lit.int .u8 x).wf = true) → (Lit.int .i64 a3).wf = true → (Lit.int .i64 a4).wf = true → ∃ k, pairinglaw8_WireFramed.f k a0 l1 l2 a3 a4 = some true
theorem pairinglaw8_WireFramed.walk (P : pairinglaw8_WireFramed.Pure) (a0 : Int) (a1 : Option Addr) (len1 cap1 : Nat) (z1 : List Int) (a2 : Option Addr) (len2 cap2 : Nat) (z2 : List Int) (a3 : Int) (a4 : Int) (w : World) (w0 : (Lit.int .u8 a0).wf = true) (w1 : (a1 = none ∧ len1 = 0 ∧ cap1 = 0 ∧ z1 = []) ∨ ∃ x, a1 = some x ∧ len1 ≤ cap1 ∧ cap1 ≤ maxLen ∧ z1.length = cap1 ∧ (∀ i, i < z1.length → w.cell? (x.add i) = some (.int .u8 (z1.getD i 0))) ∧ ∀ n ∈ z1, (Lit.int .u8 n).wf = true) (y1 : len1 * 1 ≤ 140737488351232) (w2 : (a2 = none ∧ len2 = 0 ∧ cap2 = 0 ∧ z2 = []) ∨ ∃ x, a2 = some x ∧ len2 ≤ cap2 ∧ cap2 ≤ maxLen ∧ z2.length = cap2 ∧ (∀ i, i < z2.length → w.cell? (x.add i) = some (.int .u8 (z2.getD i 0))) ∧ ∀ n ∈ z2, (Lit.int .u8 n).wf = true) (y2 : len2 * 1 ≤ 140737488351232) (w3 : (Lit.int .i64 a3).wf = true) (w4 : (Lit.int .i64 a4).wf = true) :
    Calls Try.prog 9 #[.int .u8 a0, .slice a1 len1 cap1, .slice a2 len2 cap2, .int .i64 a3, .int .i64 a4] w fun e w' => e = .returned (.bool true) ∧ Below w.heap.size w w' := by
  obtain ⟨l1, rfl, hr1, hm1, hw1, hc1⟩ := ReadsInt.ofRowC w1
  obtain ⟨l2, rfl, hr2, hm2, hw2, hc2⟩ := ReadsInt.ofRowC w2
  obtain ⟨k, h⟩ := P a0 l1 l2 a3 a4 w0 hm1 y1 hw1 hm2 y2 hw2 w3 w4
  refine (pairinglaw8_WireFramed.calls k a0 _ _ l1 _ _ l2 a3 a4 true w (Kd.C_of_reads (d := (0 : Int)) (h1 := fun _ => rfl) hr1) hc1 (Kd.C_of_reads (d := (0 : Int)) (h1 := fun _ => rfl) hr2) hc2 h).mono ?_
  rintro e w' ⟨rfl, hd⟩
  exact ⟨rfl, hd⟩

end Go.Proofs.Ytecomiapfaikbaa.Q
