-- own text (xprint): Q, functions of the program; Lean checks it.
import Derived.Test.YtecomiapfaikbaaQ0
import Derived.Test.YtecomiapfaikbaaQ1
import Derived.Test.YtecomiapfaikbaaQ2
import Derived.Test.YtecomiapfaikbaaQ3
namespace Go.Proofs.Ytecomiapfaikbaa.Q
open Go.Proofs.Ytecomiapfaikbaa.H
open Go.RowKit Go.Proofs.YtecomiapfaikbaaW.PrintWords Go.Proofs.YtecomiapfaikbaaW.PrintLast Go.Proofs.YtecomiapfaikbaaW.PrintMore
attribute [local go_sem] max2_int min2_int max_two min_two max_three min_three max_four min_four   -- for this text's walks alone
set_option linter.unusedVariables false
set_option linter.unusedSimpArgs false

/-! ### pairinglaw8_WireBack: function 7 -/
mutual
def pairinglaw8_WireBack.j0 : Nat → Int → ByteArray → List Int → Bool → Option (Bool)
  | 0, _, _, _, _ => none
  | k + 1, x0, x1, x2, x32 => if x32 = true then ((pairinglaw8_awake.f k).bind fun t233 => (some t233)) else ((wire_EncodeInt.f k x0).bind fun bt234 => ((wire_EncodeText.f k x1).bind fun bt238 => (if bt238.2 = 0 then (if bt234.2 = 0 then (pairinglaw8_WireBack.j1 k x0 x1 x2 bt234.1 bt234.2 bt238.1 false) else (pairinglaw8_WireBack.j1 k x0 x1 x2 bt234.1 bt234.2 bt238.1 (bt234.2 != 5))) else (pairinglaw8_WireBack.j1 k x0 x1 x2 bt234.1 bt234.2 bt238.1 true))))
def pairinglaw8_WireBack.j1 : Nat → Int → ByteArray → List Int → List Int → Int → List Int → Bool → Option (Bool)
  | 0, _, _, _, _, _, _, _ => none
  | k + 1, x0, x1, x2, x7, x8, x9, x53 => if x53 = true then (some false) else (if ([] : List Int).length + x9.length < 140737488355328 then ((some (([] : List Int) ++ x9 : List Int)).bind fun y242 => (if y242.length + x2.length < 140737488355328 then ((wire_DecodeText.f (y242 ++ x2)).bind fun bt248 => (if bt248.2.2 = 0 then (if bt248.1.toList = x1.toList then (pairinglaw8_WireBack.j2 k x0 x2 x7 x8 x9 (bt248.2.1 != (x9.length : Int))) else (pairinglaw8_WireBack.j2 k x0 x2 x7 x8 x9 true)) else (pairinglaw8_WireBack.j2 k x0 x2 x7 x8 x9 true))) else (none))) else (none))
def pairinglaw8_WireBack.j2 : Nat → Int → List Int → List Int → Int → List Int → Bool → Option (Bool)
  | 0, _, _, _, _, _, _ => none
  | k + 1, x0, x2, x7, x8, x9, x75 => if x75 = true then (some false) else (pairinglaw8_WireBack.l0 k x0 x2 x7 x8 x9 0)
def pairinglaw8_WireBack.l0 : Nat → Int → List Int → List Int → Int → List Int → Int → Option (Bool)
  | 0, _, _, _, _, _, _ => none
  | k + 1, x0, x2, x7, x8, x9, x14 => if x14 < (x9.length : Int) then (if 0 ≤ x14 then (if x14 ≤ (x9.length : Int) then ((wire_DecodeText.f (x9.take (x14 : Int).toNat)).bind fun bt255 => (if bt255.2.2 = 3 then (pairinglaw8_WireBack.l0 k x0 x2 x7 x8 x9 (wrap64 (x14 + 1))) else (some false))) else (none)) else (none)) else (if x8 = 0 then (if ([] : List Int).length + x7.length < 140737488355328 then ((some (([] : List Int) ++ x7 : List Int)).bind fun y258 => (if y258.length + x2.length < 140737488355328 then ((wire_DecodeInt.f (y258 ++ x2)).bind fun bt264 => (if bt264.2.2 = 0 then (if bt264.1 = x0 then (pairinglaw8_WireBack.j4 k x7 (bt264.2.1 != (x7.length : Int))) else (pairinglaw8_WireBack.j4 k x7 true)) else (pairinglaw8_WireBack.j4 k x7 true))) else (none))) else (none)) else ((pairinglaw8_awake.f k).bind fun t275 => (some t275)))
def pairinglaw8_WireBack.j4 : Nat → List Int → Bool → Option (Bool)
  | 0, _, _ => none
  | k + 1, x7, x115 => if x115 = true then (some false) else (pairinglaw8_WireBack.l1 k x7 0)
def pairinglaw8_WireBack.l1 : Nat → List Int → Int → Option (Bool)
  | 0, _, _ => none
  | k + 1, x7, x21 => if x21 < (x7.length : Int) then (if 0 ≤ x21 then (if x21 ≤ (x7.length : Int) then ((wire_DecodeInt.f (x7.take (x21 : Int).toNat)).bind fun bt271 => (if bt271.2.2 = 3 then (pairinglaw8_WireBack.l1 k x7 (wrap64 (x21 + 1))) else (some false))) else (none)) else (none)) else ((pairinglaw8_awake.f k).bind fun t274 => (some t274))
end
def pairinglaw8_WireBack.f (k : Nat) (a0 : Int) (a1 : ByteArray) (l2 : List Int) : Option (Bool) := if (a1.size : Int) > 300 then (pairinglaw8_WireBack.j0 k a0 a1 l2 true) else (pairinglaw8_WireBack.j0 k a0 a1 l2 (decide ((l2.length : Int) > 300)))
theorem pairinglaw8_WireBack.mono_l : ∀ k, (∀ y0 y1 y2 y3, LeO (pairinglaw8_WireBack.j0 k y0 y1 y2 y3) (pairinglaw8_WireBack.j0 (k + 1) y0 y1 y2 y3)) ∧ (∀ y0 y1 y2 y3 y4 y5 y6, LeO (pairinglaw8_WireBack.j1 k y0 y1 y2 y3 y4 y5 y6) (pairinglaw8_WireBack.j1 (k + 1) y0 y1 y2 y3 y4 y5 y6)) ∧ (∀ y0 y1 y2 y3 y4 y5, LeO (pairinglaw8_WireBack.j2 k y0 y1 y2 y3 y4 y5) (pairinglaw8_WireBack.j2 (k + 1) y0 y1 y2 y3 y4 y5)) ∧ (∀ y0 y1 y2 y3 y4 y5, LeO (pairinglaw8_WireBack.l0 k y0 y1 y2 y3 y4 y5) (pairinglaw8_WireBack.l0 (k + 1) y0 y1 y2 y3 y4 y5)) ∧ (∀ y0 y1, LeO (pairinglaw8_WireBack.j4 k y0 y1) (pairinglaw8_WireBack.j4 (k + 1) y0 y1)) ∧ (∀ y0 y1, LeO (pairinglaw8_WireBack.l1 k y0 y1) (pairinglaw8_WireBack.l1 (k + 1) y0 y1))
  | 0 => ⟨fun _ _ _ _ r h => by simp [pairinglaw8_WireBack.j0] at h, fun _ _ _ _ _ _ _ r h => by simp [pairinglaw8_WireBack.j1] at h, fun _ _ _ _ _ _ r h => by simp [pairinglaw8_WireBack.j2] at h, fun _ _ _ _ _ _ r h => by simp [pairinglaw8_WireBack.l0] at h, fun _ _ r h => by simp [pairinglaw8_WireBack.j4] at h, fun _ _ r h => by simp [pairinglaw8_WireBack.l1] at h⟩
  | k + 1 => by
    obtain ⟨ih0, ih1, ih2, ih3, ih4, ih5⟩ := pairinglaw8_WireBack.mono_l k
    refine ⟨?_, ?_, ?_, ?_, ?_, ?_⟩
    · intro y0 y1 y2 y3
      unfold pairinglaw8_WireBack.j0
      repeat' first
      | (with_reducible exact ih0 _ _ _ _)
      | (with_reducible exact ih1 _ _ _ _ _ _ _)
      | (with_reducible exact ih2 _ _ _ _ _ _)
      | (with_reducible exact ih3 _ _ _ _ _ _)
      | (with_reducible exact ih4 _ _)
      | (with_reducible exact ih5 _ _)
      | (with_reducible exact pairinglaw8_awake.mono _)
      | (with_reducible exact wire_EncodeInt.mono _ _)
      | (with_reducible exact wire_EncodeText.mono _ _)
      | (with_reducible exact LeO.refl _)
      | (with_reducible exact LeO.none _)
      | (with_reducible refine LeO.ite ?_ ?_)
      | (with_reducible refine LeO.bind ?_ (fun _ => ?_))
      | exact ih0 _ _ _ _
      | exact ih1 _ _ _ _ _ _ _
      | exact ih2 _ _ _ _ _ _
      | exact ih3 _ _ _ _ _ _
      | exact ih4 _ _
      | exact ih5 _ _
      | exact pairinglaw8_awake.mono _
      | exact wire_EncodeInt.mono _ _
      | exact wire_EncodeText.mono _ _
      | exact LeO.none _
      | refine LeO.ite ?_ ?_
      | refine LeO.bind ?_ (fun _ => ?_)
    · intro y0 y1 y2 y3 y4 y5 y6
      unfold pairinglaw8_WireBack.j1
      repeat' first
      | (with_reducible exact ih0 _ _ _ _)
      | (with_reducible exact ih1 _ _ _ _ _ _ _)
      | (with_reducible exact ih2 _ _ _ _ _ _)
      | (with_reducible exact ih3 _ _ _ _ _ _)
      | (with_reducible exact ih4 _ _)
      | (with_reducible exact ih5 _ _)
      | (with_reducible exact pairinglaw8_awake.mono _)
      | (with_reducible exact wire_EncodeInt.mono _ _)
      | (with_reducible exact wire_EncodeText.mono _ _)
      | (with_reducible exact LeO.refl _)
      | (with_reducible exact LeO.none _)
      | (with_reducible refine LeO.ite ?_ ?_)
      | (with_reducible refine LeO.bind ?_ (fun _ => ?_))
      | exact ih0 _ _ _ _
      | exact ih1 _ _ _ _ _ _ _
      | exact ih2 _ _ _ _ _ _
      | exact ih3 _ _ _ _ _ _
      | exact ih4 _ _
      | exact ih5 _ _
      | exact pairinglaw8_awake.mono _
      | exact wire_EncodeInt.mono _ _
      | exact wire_EncodeText.mono _ _
      | exact LeO.none _
      | refine LeO.ite ?_ ?_
      | refine LeO.bind ?_ (fun _ => ?_)
    · intro y0 y1 y2 y3 y4 y5
      unfold pairinglaw8_WireBack.j2
      repeat' first
      | (with_reducible exact ih0 _ _ _ _)
      | (with_reducible exact ih1 _ _ _ _ _ _ _)
      | (with_reducible exact ih2 _ _ _ _ _ _)
      | (with_reducible exact ih3 _ _ _ _ _ _)
      | (with_reducible exact ih4 _ _)
      | (with_reducible exact ih5 _ _)
      | (with_reducible exact pairinglaw8_awake.mono _)
      | (with_reducible exact wire_EncodeInt.mono _ _)
      | (with_reducible exact wire_EncodeText.mono _ _)
      | (with_reducible exact LeO.refl _)
      | (with_reducible exact LeO.none _)
      | (with_reducible refine LeO.ite ?_ ?_)
      | (with_reducible refine LeO.bind ?_ (fun _ => ?_))
      | exact ih0 _ _ _ _
      | exact ih1 _ _ _ _ _ _ _
      | exact ih2 _ _ _ _ _ _
      | exact ih3 _ _ _ _ _ _
      | exact ih4 _ _
      | exact ih5 _ _
      | exact pairinglaw8_awake.mono _
      | exact wire_EncodeInt.mono _ _
      | exact wire_EncodeText.mono _ _
      | exact LeO.none _
      | refine LeO.ite ?_ ?_
      | refine LeO.bind ?_ (fun _ => ?_)
    · intro y0 y1 y2 y3 y4 y5
      unfold pairinglaw8_WireBack.l0
      repeat' first
      | (with_reducible exact ih0 _ _ _ _)
      | (with_reducible exact ih1 _ _ _ _ _ _ _)
      | (with_reducible exact ih2 _ _ _ _ _ _)
      | (with_reducible exact ih3 _ _ _ _ _ _)
      | (with_reducible exact ih4 _ _)
      | (with_reducible exact ih5 _ _)
      | (with_reducible exact pairinglaw8_awake.mono _)
      | (with_reducible exact wire_EncodeInt.mono _ _)
      | (with_reducible exact wire_EncodeText.mono _ _)
      | (with_reducible exact LeO.refl _)
      | (with_reducible exact LeO.none _)
      | (with_reducible refine LeO.ite ?_ ?_)
      | (with_reducible refine LeO.bind ?_ (fun _ => ?_))
      | exact ih0 _ _ _ _
      | exact ih1 _ _ _ _ _ _ _
      | exact ih2 _ _ _ _ _ _
      | exact ih3 _ _ _ _ _ _
      | exact ih4 _ _
      | exact ih5 _ _
      | exact pairinglaw8_awake.mono _
      | exact wire_EncodeInt.mono _ _
      | exact wire_EncodeText.mono _ _
      | exact LeO.none _
      | refine LeO.ite ?_ ?_
      | refine LeO.bind ?_ (fun _ => ?_)
    · intro y0 y1
      unfold pairinglaw8_WireBack.j4
      repeat' first
      | (with_reducible exact ih0 _ _ _ _)
      | (with_reducible exact ih1 _ _ _ _ _ _ _)
      | (with_reducible exact ih2 _ _ _ _ _ _)
      | (with_reducible exact ih3 _ _ _ _ _ _)
      | (with_reducible exact ih4 _ _)
      | (with_reducible exact ih5 _ _)
      | (with_reducible exact pairinglaw8_awake.mono _)
      | (with_reducible exact wire_EncodeInt.mono _ _)
      | (with_reducible exact wire_EncodeText.mono _ _)
      | (with_reducible exact LeO.refl _)
      | (with_reducible exact LeO.none _)
      | (with_reducible refine LeO.ite ?_ ?_)
      | (with_reducible refine LeO.bind ?_ (fun _ => ?_))
      | exact ih0 _ _ _ _
      | exact ih1 _ _ _ _ _ _ _
      | exact ih2 _ _ _ _ _ _
      | exact ih3 _ _ _ _ _ _
      | exact ih4 _ _
      | exact ih5 _ _
      | exact pairinglaw8_awake.mono _
      | exact wire_EncodeInt.mono _ _
      | exact wire_EncodeText.mono _ _
      | exact LeO.none _
      | refine LeO.ite ?_ ?_
      | refine LeO.bind ?_ (fun _ => ?_)
    · intro y0 y1
      unfold pairinglaw8_WireBack.l1
      repeat' first
      | (with_reducible exact ih0 _ _ _ _)
      | (with_reducible exact ih1 _ _ _ _ _ _ _)
      | (with_reducible exact ih2 _ _ _ _ _ _)
      | (with_reducible exact ih3 _ _ _ _ _ _)
      | (with_reducible exact ih4 _ _)
      | (with_reducible exact ih5 _ _)
      | (with_reducible exact pairinglaw8_awake.mono _)
      | (with_reducible exact wire_EncodeInt.mono _ _)
      | (with_reducible exact wire_EncodeText.mono _ _)
      | (with_reducible exact LeO.refl _)
      | (with_reducible exact LeO.none _)
      | (with_reducible refine LeO.ite ?_ ?_)
      | (with_reducible refine LeO.bind ?_ (fun _ => ?_))
      | exact ih0 _ _ _ _
      | exact ih1 _ _ _ _ _ _ _
      | exact ih2 _ _ _ _ _ _
      | exact ih3 _ _ _ _ _ _
      | exact ih4 _ _
      | exact ih5 _ _
      | exact pairinglaw8_awake.mono _
      | exact wire_EncodeInt.mono _ _
      | exact wire_EncodeText.mono _ _
      | exact LeO.none _
      | refine LeO.ite ?_ ?_
      | refine LeO.bind ?_ (fun _ => ?_)
theorem pairinglaw8_WireBack.mono : ∀ a0 a1 a2 k, LeO (pairinglaw8_WireBack.f k a0 a1 a2) (pairinglaw8_WireBack.f (k + 1) a0 a1 a2) := by
  intro a0 a1 a2 k
  obtain ⟨ih0, ih1, ih2, ih3, ih4, ih5⟩ := pairinglaw8_WireBack.mono_l k
  unfold pairinglaw8_WireBack.f
  repeat' first
      | (with_reducible exact ih0 _ _ _ _)
      | (with_reducible exact ih1 _ _ _ _ _ _ _)
      | (with_reducible exact ih2 _ _ _ _ _ _)
      | (with_reducible exact ih3 _ _ _ _ _ _)
      | (with_reducible exact ih4 _ _)
      | (with_reducible exact ih5 _ _)
      | (with_reducible exact pairinglaw8_awake.mono _)
      | (with_reducible exact wire_EncodeInt.mono _ _)
      | (with_reducible exact wire_EncodeText.mono _ _)
      | (with_reducible exact LeO.refl _)
      | (with_reducible exact LeO.none _)
      | (with_reducible refine LeO.ite ?_ ?_)
      | (with_reducible refine LeO.bind ?_ (fun _ => ?_))
      | exact ih0 _ _ _ _
      | exact ih1 _ _ _ _ _ _ _
      | exact ih2 _ _ _ _ _ _
      | exact ih3 _ _ _ _ _ _
      | exact ih4 _ _
      | exact ih5 _ _
      | exact pairinglaw8_awake.mono _
      | exact wire_EncodeInt.mono _ _
      | exact wire_EncodeText.mono _ _
      | exact LeO.none _
      | refine LeO.ite ?_ ?_
      | refine LeO.bind ?_ (fun _ => ?_)
set_option maxHeartbeats 8000000 in
set_option maxRecDepth 100000 in
theorem pairinglaw8_WireBack.calls (k : Nat) (a0 : Int) (a1 : ByteArray) (A2 : Option Addr) (c2 : Nat) (l2 : List Int) (r : Bool) (w : World) (hr2 : Kd.C (Kd.int .u8) w A2 l2.length l2) (hc2 : l2.length ≤ c2) (h : pairinglaw8_WireBack.f k a0 a1 l2 = some r) :
    Calls Try.prog 7 #[.int .i64 a0, .string a1, .slice A2 l2.length c2] w fun e w' => e = .returned (.bool r) ∧ Below w.heap.size w w' := by
  have HR2 := Aside0.mk hr2
  have HC2 := Aside0.mk hc2
  clear hr2 hc2
  have HB := Aside0.mk (Below.refl w.heap.size w)
  have H : (if (a1.size : Int) > 300 then (pairinglaw8_WireBack.j0 k a0 a1 l2 true) else (pairinglaw8_WireBack.j0 k a0 a1 l2 (decide ((l2.length : Int) > 300)))) = some r := h
  clear h
  have HC4 := Aside0.mk H
  clear H
  go_enter Try.func7, Try.ntmps7
  go_upto_region 1 with (fail)
  go_cut [32] (fun v32 wc => ∃ (kq : Nat) (x32_3 : Bool), v32 = .bool x32_3 ∧ Aside0 (pairinglaw8_WireBack.j0 kq a0 a1 l2 x32_3 = some r) ∧ Aside0 (kq ≤ k) ∧ Aside0 (Below w.heap.size w wc))
  case first =>
    have H := HC4.out
    clear HC4
    by_cases c5 : (a1.size : Int) > 300
    · rw [if_pos c5] at H
      have c5b0 : decide (300 < (a1.size : Int)) = true := decide_eq_true c5
      have c5b1 : decide (300 < a1.size) = true := decide_eq_true (by omega)
      clear c5
      (first | rw [c5b0] | (simp only [i64_w, i32_w]; rw [c5b0]) | skip)
      have H' := Aside0.mk H
      clear H
      go_wp2
      go_meet
      case rel => exact ⟨_, (true), (by first | rfl | (simp; done) | (simp [*]; done)), H', ⟨by first | omega | exact Nat.le_refl _⟩, ⟨by repeat (first | (with_reducible first | exact HB.out | apply below_alloc | apply pw_below_drewN | apply below_drew1) | exact HB.out)⟩⟩
    · rw [if_neg c5] at H
      have c5b0 : decide (300 < (a1.size : Int)) = false := decide_eq_false c5
      have c5b1 : decide (300 < a1.size) = false := decide_eq_false (by omega)
      clear c5
      (first | rw [c5b0] | (simp only [i64_w, i32_w]; rw [c5b0]) | skip)
      have H' := Aside0.mk H
      clear H
      go_wp2
      go_meet
      case rel => exact ⟨_, (decide ((l2.length : Int) > 300)), (by first | rfl | (simp; done) | (simp [*]; done)), H', ⟨by first | omega | exact Nat.le_refl _⟩, ⟨by repeat (first | (with_reducible first | exact HB.out | apply below_alloc | apply pw_below_drewN | apply below_drew1) | exact HB.out)⟩⟩
  case rest =>
    clear HC4
    try clear c2
    try clear p2
    try clear c5
    try clear c5b0
    try clear c5b1
    obtain ⟨kq, x32_3, rfl, HA, HJ3, HB⟩ := hcut
    cases kq with
    | zero => exact absurd HA.out (by simp [pairinglaw8_WireBack.j0])
    | succ kj3 =>
      have H := HA.out
      clear HA
      simp only [pairinglaw8_WireBack.j0] at H
      by_cases c6 : x32_3 = true
      · subst c6
        have H1 : ((pairinglaw8_awake.f kj3).bind fun t233 => (some t233)) = some r := by rw [if_pos rfl] at H; exact H
        clear H
        have H := H1
        clear H1
        replace H := Option.bind_eq_some_iff.mp H
        obtain ⟨t233, A70, H⟩ := H
        replace H : (some t233) = some r := H
        have A7 := Aside0.mk A70
        clear A70
        obtain rfl := Option.some.inj H
        go_wp2_with (first | ((with_reducible refine gate_callee (f := 10) rfl ?_); refine goesL_ (some 33) rfl rfl Try.func10 (by kernel_rfl) rfl #[] rfl (by (try simp only [List.map_toArray, List.map_cons, List.map_nil]); first | done | rfl | (simp only [List.length_drop, List.length_take]; rfl)) ?_; (with_reducible refine (pairinglaw8_awake.calls kj3  t233 _ A7.out).mono ?_); rintro e w8 ⟨rfl, hb⟩; refine ⟨_, rfl, ?_⟩; have n0_ := Aside0.mk (below_step (by repeat (first | (with_reducible first | exact HB.out | apply below_alloc | apply pw_below_drewN | apply below_drew1) | exact HB.out)) hb); clear HB; have HB := n0_; clear n0_; (try clear hb); (try clear hb2); (try clear hk); (try clear hi)))
        go_ret
        exact ⟨by first | rfl | (simp [errW_none, errW_some] <;> rfl) | (simp [*, errW_none, errW_some] <;> rfl), by repeat (first | (with_reducible first | exact HB.out | apply below_alloc | apply pw_below_drewN | apply below_drew1) | exact HB.out)⟩
      · replace c6 := Bool.eq_false_iff.mpr c6
        subst c6
        have H1 : ((wire_EncodeInt.f kj3 a0).bind fun bt234 => ((wire_EncodeText.f kj3 a1).bind fun bt238 => (if bt238.2 = 0 then (if bt234.2 = 0 then (pairinglaw8_WireBack.j1 kj3 a0 a1 l2 bt234.1 bt234.2 bt238.1 false) else (pairinglaw8_WireBack.j1 kj3 a0 a1 l2 bt234.1 bt234.2 bt238.1 (bt234.2 != 5))) else (pairinglaw8_WireBack.j1 kj3 a0 a1 l2 bt234.1 bt234.2 bt238.1 true)))) = some r := by rw [if_neg (show ¬ (false = true) by decide)] at H; exact H
        clear H
        have H := H1
        clear H1
        replace H := Option.bind_eq_some_iff.mp H
        obtain ⟨⟨t234, t235⟩, A90, H⟩ := H
        replace H : ((wire_EncodeText.f kj3 a1).bind fun bt238 => (if bt238.2 = 0 then (if t235 = 0 then (pairinglaw8_WireBack.j1 kj3 a0 a1 l2 t234 t235 bt238.1 false) else (pairinglaw8_WireBack.j1 kj3 a0 a1 l2 t234 t235 bt238.1 (t235 != 5))) else (pairinglaw8_WireBack.j1 kj3 a0 a1 l2 t234 t235 bt238.1 true))) = some r := H
        have A9 := Aside0.mk A90
        clear A90
        replace H := Option.bind_eq_some_iff.mp H
        obtain ⟨⟨t238, t239⟩, A100, H⟩ := H
        replace H : (if t239 = 0 then (if t235 = 0 then (pairinglaw8_WireBack.j1 kj3 a0 a1 l2 t234 t235 t238 false) else (pairinglaw8_WireBack.j1 kj3 a0 a1 l2 t234 t235 t238 (t235 != 5))) else (pairinglaw8_WireBack.j1 kj3 a0 a1 l2 t234 t235 t238 true)) = some r := H
        have A10 := Aside0.mk A100
        clear A100
        have HC11 := Aside0.mk H
        clear H
        go_upto_region 5 with (first | ((with_reducible refine gate_callee (f := 16) rfl ?_); refine goesL_ (some 36) rfl rfl Try.func16 (by kernel_rfl) rfl #[.int .i64 a0] rfl (by (try simp only [List.map_toArray, List.map_cons, List.map_nil]); first | done | rfl | (simp only [List.length_drop, List.length_take]; rfl)) ?_; (with_reducible refine (wire_EncodeInt.calls kj3 a0 t234 t235 _ A9.out).mono ?_); rintro e w12 ⟨v236, rfl, ho0, hb⟩; refine ⟨_, rfl, ?_⟩; have n0_ := Aside0.mk (Kd.R_lower ho0 (below_size (by repeat (first | (with_reducible first | exact HB.out | apply below_alloc | apply pw_below_drewN | apply below_drew1) | exact HB.out)))); have n1_ := Aside0.mk (below_step (by repeat (first | (with_reducible first | exact HB.out | apply below_alloc | apply pw_below_drewN | apply below_drew1) | exact HB.out)) hb); clear HB; have HO237 := n0_; have HB := n1_; clear n0_ n1_; (try clear hb); (try clear hb2); (try clear hk); (try clear hi); (try clear ho0)) | ((with_reducible refine gate_callee (f := 11) rfl ?_); refine goesL_ (some 41) rfl rfl Try.func11 (by kernel_rfl) rfl #[.string a1] rfl (by (try simp only [List.map_toArray, List.map_cons, List.map_nil]); first | done | rfl | (simp only [List.length_drop, List.length_take]; rfl)) ?_; (with_reducible refine (wire_EncodeText.calls kj3 a1 t238 t239 _ A10.out).mono ?_); rintro e w13 ⟨v240, rfl, ho0, hb⟩; refine ⟨_, rfl, ?_⟩; have n0_ := Aside0.mk (Kd.R_elder' (by (with_reducible repeat (first | apply Kd.R_alloc | apply Kd.R_drewN | apply Kd.R_drew)); exact HO237.out) (Kd.R_base ho0) hb); have n1_ := Aside0.mk (Kd.R_lower (Kd.R_new' ho0 (Kd.R_lt (by (with_reducible repeat (first | apply Kd.R_alloc | apply Kd.R_drewN | apply Kd.R_drew)); exact HO237.out))) (below_size (by repeat (first | (with_reducible first | exact HB.out | apply below_alloc | apply pw_below_drewN | apply below_drew1) | exact HB.out)))); have n2_ := Aside0.mk (below_step (by repeat (first | (with_reducible first | exact HB.out | apply below_alloc | apply pw_below_drewN | apply below_drew1) | exact HB.out)) hb); clear HO237; clear HB; have HO237 := n0_; have HO241 := n1_; have HB := n2_; clear n0_ n1_ n2_; (try clear hb); (try clear hb2); (try clear hk); (try clear hi); (try clear ho0)))
        (try simp only [Act.put, List.setIfInBounds_toArray, List.set_cons_zero, List.set_cons_succ])
        go_cut [53] (fun v53 wc => ∃ (kq : Nat) (x53_10 : Bool), v53 = .bool x53_10 ∧ Aside0 (pairinglaw8_WireBack.j1 kq a0 a1 l2 t234 t235 t238 x53_10 = some r) ∧ Aside0 (kq ≤ kj3) ∧ Aside0 (Kd.R (Kd.int .u8) 5 wc w.heap.size (fun k_ => some k_ ≠ (v240 : Value).ownBlock) v236 t234) ∧ Aside0 (Kd.R (Kd.int .u8) 5 wc w.heap.size (fun k_ => some k_ ≠ (v236 : Value).ownBlock) v240 t238) ∧ Aside0 (Below w.heap.size w wc))
        case first =>
          have H := HC11.out
          clear HC11
          by_cases c14 : t239 = 0
          · rw [if_pos c14] at H
            have c14b0 : (t239 == 0) = true := beq_iff_eq.mpr c14
            have c14b1 : (t239 != 0) = false := bne_eq_false_iff_eq.mpr c14
            clear c14
            (first | rw [c14b0] | (simp only [i64_w, i32_w]; rw [c14b0]) | skip)
            by_cases c15 : t235 = 0
            · rw [if_pos c15] at H
              have c15b0 : (t235 == 0) = true := beq_iff_eq.mpr c15
              have c15b1 : (t235 != 0) = false := bne_eq_false_iff_eq.mpr c15
              clear c15
              have H' := Aside0.mk H
              clear H
              go_wp2
              go_meet
              case rel => exact ⟨_, (false), (by first | rfl | (simp; done) | (simp [*]; done)), H', ⟨by have := HJ3.out; first | omega | exact Nat.le_refl _⟩, ⟨by (with_reducible repeat (first | apply Kd.R_alloc | apply Kd.R_drewN | apply Kd.R_drew)); exact Kd.R_mono HO237.out (fun _ hk => hk.2)⟩, ⟨by (with_reducible repeat (first | apply Kd.R_alloc | apply Kd.R_drewN | apply Kd.R_drew)); exact Kd.R_mono HO241.out (fun _ hk => hk.2)⟩, ⟨by repeat (first | (with_reducible first | exact HB.out | apply below_alloc | apply pw_below_drewN | apply below_drew1) | exact HB.out)⟩⟩
            · rw [if_neg c15] at H
              have c15b0 : (t235 == 0) = false := beq_eq_false_iff_ne.mpr c15
              have c15b1 : (t235 != 0) = true := bne_iff_ne.mpr c15
              have H' := Aside0.mk H
              clear H
              go_wp2
              go_meet
              case rel => exact ⟨_, ((t235 != 5)), (by first | rfl | (simp; done) | (simp [*]; done)), H', ⟨by have := HJ3.out; first | omega | exact Nat.le_refl _⟩, ⟨by (with_reducible repeat (first | apply Kd.R_alloc | apply Kd.R_drewN | apply Kd.R_drew)); exact Kd.R_mono HO237.out (fun _ hk => hk.2)⟩, ⟨by (with_reducible repeat (first | apply Kd.R_alloc | apply Kd.R_drewN | apply Kd.R_drew)); exact Kd.R_mono HO241.out (fun _ hk => hk.2)⟩, ⟨by repeat (first | (with_reducible first | exact HB.out | apply below_alloc | apply pw_below_drewN | apply below_drew1) | exact HB.out)⟩⟩
          · rw [if_neg c14] at H
            have c14b0 : (t239 == 0) = false := beq_eq_false_iff_ne.mpr c14
            have c14b1 : (t239 != 0) = true := bne_iff_ne.mpr c14
            (first | rw [c14b0] | (simp only [i64_w, i32_w]; rw [c14b0]) | skip)
            have H' := Aside0.mk H
            clear H
            go_wp2
            go_meet
            case rel => exact ⟨_, (true), (by first | rfl | (simp; done) | (simp [*]; done)), H', ⟨by have := HJ3.out; first | omega | exact Nat.le_refl _⟩, ⟨by (with_reducible repeat (first | apply Kd.R_alloc | apply Kd.R_drewN | apply Kd.R_drew)); exact Kd.R_mono HO237.out (fun _ hk => hk.2)⟩, ⟨by (with_reducible repeat (first | apply Kd.R_alloc | apply Kd.R_drewN | apply Kd.R_drew)); exact Kd.R_mono HO241.out (fun _ hk => hk.2)⟩, ⟨by repeat (first | (with_reducible first | exact HB.out | apply below_alloc | apply pw_below_drewN | apply below_drew1) | exact HB.out)⟩⟩
        case rest =>
          clear HC11
          try clear c1
          try clear c2
          try clear p2
          try clear c5
          try clear c5b0
          try clear c5b1
          try clear c6
          try clear c7
          try clear c10
          try clear c11
          try clear c14
          try clear c14b0
          try clear c14b1
          try clear c15
          try clear c15b0
          try clear c15b1
          try clear p2
          obtain ⟨kq, x53_10, rfl, HA, HJ10, HO_7, HO_9, HB⟩ := hcut
          cases kq with
          | zero => exact absurd HA.out (by simp [pairinglaw8_WireBack.j1])
          | succ kj10 =>
            have H := HA.out
            clear HA
            simp only [pairinglaw8_WireBack.j1] at H
            by_cases c16 : x53_10 = true
            · subst c16
              have H1 : (some false) = some r := by rw [if_pos rfl] at H; exact H
              clear H
              have H := H1
              clear H1
              obtain rfl := Option.some.inj H
              go_wp2
              go_ret
              exact ⟨by first | rfl | (simp [errW_none, errW_some] <;> rfl) | (simp [*, errW_none, errW_some] <;> rfl), by repeat (first | (with_reducible first | exact HB.out | apply below_alloc | apply pw_below_drewN | apply below_drew1) | exact HB.out)⟩
            · replace c16 := Bool.eq_false_iff.mpr c16
              subst c16
              have H1 : (if ([] : List Int).length + t238.length < 140737488355328 then ((some (([] : List Int) ++ t238 : List Int)).bind fun y242 => (if y242.length + l2.length < 140737488355328 then ((wire_DecodeText.f (y242 ++ l2)).bind fun bt248 => (if bt248.2.2 = 0 then (if bt248.1.toList = a1.toList then (pairinglaw8_WireBack.j2 kj10 a0 l2 t234 t235 t238 (bt248.2.1 != (t238.length : Int))) else (pairinglaw8_WireBack.j2 kj10 a0 l2 t234 t235 t238 true)) else (pairinglaw8_WireBack.j2 kj10 a0 l2 t234 t235 t238 true))) else (none))) else (none)) = some r := by rw [if_neg (show ¬ (false = true) by decide)] at H; exact H
              clear H
              have H := H1
              clear H1
              by_cases c17 : ([] : List Int).length + t238.length < 140737488355328
              · rw [if_pos c17] at H
                have LMc17 := Aside0.mk c17
                clear c17
                obtain ⟨y242, hy242⟩ : ∃ y_ : List Int, y_ = (([] : List Int) ++ t238) := ⟨_, rfl⟩
                replace H : (if y242.length + l2.length < 140737488355328 then ((wire_DecodeText.f (y242 ++ l2)).bind fun bt248 => (if bt248.2.2 = 0 then (if bt248.1.toList = a1.toList then (pairinglaw8_WireBack.j2 kj10 a0 l2 t234 t235 t238 (bt248.2.1 != (t238.length : Int))) else (pairinglaw8_WireBack.j2 kj10 a0 l2 t234 t235 t238 true)) else (pairinglaw8_WireBack.j2 kj10 a0 l2 t234 t235 t238 true))) else (none)) = some r := by first | (rw [hy242]; with_reducible exact H) | (have H2_ := (Option.bind_some _ _).symm.trans H; rw [hy242]; with_reducible exact H2_) | (have H2_ := (Option.bind_some _ _).symm.trans H; with_reducible exact H2_) | with_reducible exact H | (rw [hy242]; exact H) | exact H
                have Ny242 := Aside0.mk hy242
                clear hy242
                by_cases c18 : y242.length + l2.length < 140737488355328
                · rw [if_pos c18] at H
                  have LMc18 := Aside0.mk c18
                  clear c18
                  obtain ⟨y245, hy245⟩ : ∃ y_ : List Int, y_ = (y242 ++ l2) := ⟨_, rfl⟩
                  replace H : ((wire_DecodeText.f y245).bind fun bt248 => (if bt248.2.2 = 0 then (if bt248.1.toList = a1.toList then (pairinglaw8_WireBack.j2 kj10 a0 l2 t234 t235 t238 (bt248.2.1 != (t238.length : Int))) else (pairinglaw8_WireBack.j2 kj10 a0 l2 t234 t235 t238 true)) else (pairinglaw8_WireBack.j2 kj10 a0 l2 t234 t235 t238 true))) = some r := by first | (rw [hy245]; with_reducible exact H) | (have H2_ := (Option.bind_some _ _).symm.trans H; rw [hy245]; with_reducible exact H2_) | (have H2_ := (Option.bind_some _ _).symm.trans H; with_reducible exact H2_) | with_reducible exact H | (rw [hy245]; exact H) | exact H
                  have Ny245 := Aside0.mk hy245
                  clear hy245
                  replace H := Option.bind_eq_some_iff.mp H
                  obtain ⟨⟨t248, t249, t250⟩, A190, H⟩ := H
                  replace H : (if t250 = 0 then (if t248.toList = a1.toList then (pairinglaw8_WireBack.j2 kj10 a0 l2 t234 t235 t238 (t249 != (t238.length : Int))) else (pairinglaw8_WireBack.j2 kj10 a0 l2 t234 t235 t238 true)) else (pairinglaw8_WireBack.j2 kj10 a0 l2 t234 t235 t238 true)) = some r := H
                  have A19 := Aside0.mk A190
                  clear A190
                  have HC20 := Aside0.mk H
                  clear H
                  obtain ⟨Ao22, co22, eo22⟩ := Kd.R_slice HO_9.out
                  subst eo22
                  go_upto_region 8 with (first | ((with_reducible refine gate_builtin (b := .append) (xs := #[.const (.slice none 0 0), .tmp 55]) rfl ?_); (try (refine gate_guard (by rfl) ?_; dsimp only)); at_builtin; refine Kd.R_append_rows (Kd.int .u8) (w0 := w) w.heap.size rfl (.const (.slice none 0 0)) (.tmp 55) 23 5 (.int .u8 0) 1 rfl Try.underlying23 info5 rfl (by decide) (by omega) (.slice none 0 0) ([] : List Int) t238 _ _ _ (fun k_ => some k_ ≠ (v236 : Value).ownBlock ∧ some k_ ≠ (.slice Ao22 t238.length co22 : Value).ownBlock) (fun _ => False) rfl rfl ?aO ?aR (fun _ _ h => h) (fun _ h => h.elim) ?aF ?aB ?aS ?aL ?_; (case aR => repeat (first | exact (Kd.R_reads' HO_9.out).2.2 | (with_reducible refine Kd.C_alloc ?_ _) | (with_reducible refine Kd.C_drewN ?_ _) | (with_reducible refine Kd.C_drew ?_))); (case aB => exact (by repeat (first | (with_reducible first | exact HB.out | apply below_alloc | apply pw_below_drewN | apply below_drew1) | exact HB.out))); (case aF => exact (fun k_ hk => ⟨Kd.fresh' (Kd.R_lt (by (with_reducible repeat (first | apply Kd.R_alloc | apply Kd.R_drewN | apply Kd.R_drew)); exact HO_7.out)) k_ hk, Kd.fresh' (Kd.R_lt (by (with_reducible repeat (first | apply Kd.R_alloc | apply Kd.R_drewN | apply Kd.R_drew)); exact HO_9.out)) k_ hk⟩)); (case aO => exact ((Kd.R_nil _ _ _ _ (fun k_ => some k_ ≠ (v236 : Value).ownBlock ∧ some k_ ≠ (.slice Ao22 t238.length co22 : Value).ownBlock)))); (case aS => exact (below_size (by repeat (first | (with_reducible first | exact HB.out | apply below_alloc | apply pw_below_drewN | apply below_drew1) | exact HB.out)))); (case aL => have := LMc17.out; omega); intro v243 w21 ho hb hg hat; rw [← Ny242.out] at ho; have n0_ := Aside0.mk (Kd.R_after (Kd.R_apart_nil (by (with_reducible repeat (first | apply Kd.R_alloc | apply Kd.R_drewN | apply Kd.R_drew)); exact HO_7.out)) hg hat); have n1_ := Aside0.mk (Kd.R_after (Kd.R_apart_nil (by (with_reducible repeat (first | apply Kd.R_alloc | apply Kd.R_drewN | apply Kd.R_drew)); exact HO_9.out)) hg hat); have n2_ := Aside0.mk (hb); have n3_ := Aside0.mk (ho); clear HO_7; clear HO_9; clear HB; have HO_7 := n0_; have HO_9 := n1_; have HB := n2_; have HO244 := n3_; clear n0_ n1_ n2_ n3_; clear ho hb hg hat) | ((with_reducible refine gate_builtin (b := .append) (xs := #[.tmp 56, .tmp 57]) rfl ?_); (try (refine gate_guard (by rfl) ?_; dsimp only)); at_builtin; refine Kd.R_append_rows (Kd.int .u8) (w0 := w) w.heap.size rfl (.tmp 56) (.tmp 57) 23 5 (.int .u8 0) 1 rfl Try.underlying23 info5 rfl (by decide) (by omega) v243 y242 l2 _ _ _ (fun k_ => some k_ ≠ (v236 : Value).ownBlock ∧ some k_ ≠ (.slice Ao22 t238.length co22 : Value).ownBlock) (fun _ => False) rfl rfl ?aO ?aR (fun _ _ h => h) (fun _ h => h.elim) ?aF ?aB ?aS ?aL ?_; (case aR => repeat (first | exact (Kd.C_below HR2.out HB.out) | (with_reducible refine Kd.C_alloc ?_ _) | (with_reducible refine Kd.C_drewN ?_ _) | (with_reducible refine Kd.C_drew ?_))); (case aB => exact (by repeat (first | (with_reducible first | exact HB.out | apply below_alloc | apply pw_below_drewN | apply below_drew1) | exact HB.out))); (case aF => exact (fun k_ hk => ⟨Kd.fresh' (Kd.R_lt (by (with_reducible repeat (first | apply Kd.R_alloc | apply Kd.R_drewN | apply Kd.R_drew)); exact HO_7.out)) k_ hk, Kd.fresh' (Kd.R_lt (by (with_reducible repeat (first | apply Kd.R_alloc | apply Kd.R_drewN | apply Kd.R_drew)); exact HO_9.out)) k_ hk⟩)); (case aO => exact (by (with_reducible repeat (first | apply Kd.R_alloc | apply Kd.R_drewN | apply Kd.R_drew)); exact HO244.out)); (case aS => exact (below_size (by repeat (first | (with_reducible first | exact HB.out | apply below_alloc | apply pw_below_drewN | apply below_drew1) | exact HB.out)))); (case aL => have := LMc18.out; omega); intro v246 w23 ho hb hg hat; rw [← Ny245.out] at ho; have n0_ := Aside0.mk (Kd.R_after (ok := (fun k_ => some k_ ≠ (.slice Ao22 t238.length co22 : Value).ownBlock)) (by (with_reducible repeat (first | apply Kd.R_alloc | apply Kd.R_drewN | apply Kd.R_drew)); exact HO_7.out) hg hat); have n1_ := Aside0.mk (Kd.R_after (ok := (fun k_ => some k_ ≠ (v236 : Value).ownBlock)) (by (with_reducible repeat (first | apply Kd.R_alloc | apply Kd.R_drewN | apply Kd.R_drew)); exact HO_9.out) hg hat); have n2_ := Aside0.mk (hb); have n3_ := Aside0.mk (ho); clear HO_7; clear HO_9; clear HB; clear HO244; have HO_7 := n0_; have HO_9 := n1_; have HB := n2_; have HO247 := n3_; clear n0_ n1_ n2_ n3_; clear ho hb hg hat; obtain ⟨Ao24, co24, eo24⟩ := Kd.R_slice HO247.out; subst eo24) | ((with_reducible refine gate_callee (f := 24) rfl ?_); refine goesL_ (some 59) rfl rfl Try.func24 (by kernel_rfl) rfl #[.slice Ao24 y245.length co24] rfl (by (try simp only [List.map_toArray, List.map_cons, List.map_nil]); first | done | rfl | (simp only [List.length_drop, List.length_take]; rfl)) ?_; (with_reducible refine (wire_DecodeText.calls _ _ y245 t248 t249 t250 _ ?side1 ?side2 A19.out).mono ?_); (case side1 => repeat (first | exact (Kd.R_reads' HO247.out).2.2 | (with_reducible refine Kd.C_alloc ?_ _) | (with_reducible refine Kd.C_drewN ?_ _) | (with_reducible refine Kd.C_drew ?_))); (case side2 => exact (Kd.R_reads' HO247.out).2.1); rintro e w' ⟨rfl, ⟨nd, rfl⟩⟩; refine ⟨_, rfl, ?_⟩))
                  (try simp only [Act.put, List.setIfInBounds_toArray, List.set_cons_zero, List.set_cons_succ])
                  go_cut [75] (fun v75 wc => ∃ (kq : Nat) (x75_19 : Bool), v75 = .bool x75_19 ∧ Aside0 (pairinglaw8_WireBack.j2 kq a0 l2 t234 t235 t238 x75_19 = some r) ∧ Aside0 (kq ≤ kj10) ∧ Aside0 (Kd.R (Kd.int .u8) 5 wc w.heap.size (fun k_ => some k_ ≠ ((.slice Ao22 t238.length co22) : Value).ownBlock) v236 t234) ∧ Aside0 (Kd.R (Kd.int .u8) 5 wc w.heap.size (fun k_ => some k_ ≠ (v236 : Value).ownBlock) (.slice Ao22 t238.length co22) t238) ∧ Aside0 (Below w.heap.size w wc))
                  case first =>
                    have H := HC20.out
                    clear HC20
                    by_cases c25 : t250 = 0
                    · rw [if_pos c25] at H
                      have c25b0 : (t250 == 0) = true := beq_iff_eq.mpr c25
                      have c25b1 : (t250 != 0) = false := bne_eq_false_iff_eq.mpr c25
                      clear c25
                      (first | rw [c25b0] | (simp only [i64_w, i32_w]; rw [c25b0]) | skip)
                      by_cases c26 : t248.toList = a1.toList
                      · rw [if_pos c26] at H
                        have c26b0 : (t248.toList == a1.toList) = true := beq_iff_eq.mpr c26
                        have c26b1 : (t248.toList != a1.toList) = false := bne_eq_false_iff_eq.mpr c26
                        clear c26
                        have H' := Aside0.mk H
                        clear H
                        go_wp2
                        go_meet
                        case rel => exact ⟨_, ((t249 != (t238.length : Int))), (by first | rfl | (simp; done) | (simp [*]; done)), H', ⟨by have := HJ3.out; have := HJ10.out; first | omega | exact Nat.le_refl _⟩, ⟨by (with_reducible repeat (first | apply Kd.R_alloc | apply Kd.R_drewN | apply Kd.R_drew)); exact Kd.R_mono HO_7.out (fun _ hk => hk.1)⟩, ⟨by (with_reducible repeat (first | apply Kd.R_alloc | apply Kd.R_drewN | apply Kd.R_drew)); exact Kd.R_mono HO_9.out (fun _ hk => hk.1)⟩, ⟨by repeat (first | (with_reducible first | exact HB.out | apply below_alloc | apply pw_below_drewN | apply below_drew1) | exact HB.out)⟩⟩
                      · rw [if_neg c26] at H
                        have c26b0 : (t248.toList == a1.toList) = false := beq_eq_false_iff_ne.mpr c26
                        have c26b1 : (t248.toList != a1.toList) = true := bne_iff_ne.mpr c26
                        have H' := Aside0.mk H
                        clear H
                        go_wp2
                        go_meet
                        case rel => exact ⟨_, (true), (by first | rfl | (simp; done) | (simp [*]; done)), H', ⟨by have := HJ3.out; have := HJ10.out; first | omega | exact Nat.le_refl _⟩, ⟨by (with_reducible repeat (first | apply Kd.R_alloc | apply Kd.R_drewN | apply Kd.R_drew)); exact Kd.R_mono HO_7.out (fun _ hk => hk.1)⟩, ⟨by (with_reducible repeat (first | apply Kd.R_alloc | apply Kd.R_drewN | apply Kd.R_drew)); exact Kd.R_mono HO_9.out (fun _ hk => hk.1)⟩, ⟨by repeat (first | (with_reducible first | exact HB.out | apply below_alloc | apply pw_below_drewN | apply below_drew1) | exact HB.out)⟩⟩
                    · rw [if_neg c25] at H
                      have c25b0 : (t250 == 0) = false := beq_eq_false_iff_ne.mpr c25
                      have c25b1 : (t250 != 0) = true := bne_iff_ne.mpr c25
                      (first | rw [c25b0] | (simp only [i64_w, i32_w]; rw [c25b0]) | skip)
                      have H' := Aside0.mk H
                      clear H
                      go_wp2
                      go_meet
                      case rel => exact ⟨_, (true), (by first | rfl | (simp; done) | (simp [*]; done)), H', ⟨by have := HJ3.out; have := HJ10.out; first | omega | exact Nat.le_refl _⟩, ⟨by (with_reducible repeat (first | apply Kd.R_alloc | apply Kd.R_drewN | apply Kd.R_drew)); exact Kd.R_mono HO_7.out (fun _ hk => hk.1)⟩, ⟨by (with_reducible repeat (first | apply Kd.R_alloc | apply Kd.R_drewN | apply Kd.R_drew)); exact Kd.R_mono HO_9.out (fun _ hk => hk.1)⟩, ⟨by repeat (first | (with_reducible first | exact HB.out | apply below_alloc | apply pw_below_drewN | apply below_drew1) | exact HB.out)⟩⟩
                  case rest =>
                    clear HC20
                    try clear c1
                    try clear c2
                    try clear p2
                    try clear c5
                    try clear c5b0
                    try clear c5b1
                    try clear c6
                    try clear c7
                    try clear c10
                    try clear c11
                    try clear c14
                    try clear c14b0
                    try clear c14b1
                    try clear c15
                    try clear c15b0
                    try clear c15b1
                    try clear c16
                    try clear c17
                    try clear c18
                    try clear c24
                    try clear c25
                    try clear c25b0
                    try clear c25b1
                    try clear c26
                    try clear c26b0
                    try clear c26b1
                    try clear p2
                    obtain ⟨kq, x75_19, rfl, HA, HJ19, HO_7, HO_9, HB⟩ := hcut
                    cases kq with
                    | zero => exact absurd HA.out (by simp [pairinglaw8_WireBack.j2])
                    | succ kj19 =>
                      have H := HA.out
                      clear HA
                      simp only [pairinglaw8_WireBack.j2] at H
                      by_cases c27 : x75_19 = true
                      · subst c27
                        have H1 : (some false) = some r := by rw [if_pos rfl] at H; exact H
                        clear H
                        have H := H1
                        clear H1
                        obtain rfl := Option.some.inj H
                        go_wp2
                        go_ret
                        exact ⟨by first | rfl | (simp [errW_none, errW_some] <;> rfl) | (simp [*, errW_none, errW_some] <;> rfl), by repeat (first | (with_reducible first | exact HB.out | apply below_alloc | apply pw_below_drewN | apply below_drew1) | exact HB.out)⟩
                      · replace c27 := Bool.eq_false_iff.mpr c27
                        subst c27
                        have H1 : (pairinglaw8_WireBack.l0 kj19 a0 l2 t234 t235 t238 0) = some r := by rw [if_neg (show ¬ (false = true) by decide)] at H; exact H
                        clear H
                        have H := H1
                        clear H1
                        have H' := Aside0.mk H
                        clear H
                        go_wp2
                        go_loopg [14] kj19 (fun kq v14 w' => ∃ (x14_4 : Int), v14 = .int .i64 x14_4 ∧ Aside0 (pairinglaw8_WireBack.l0 kq a0 l2 t234 t235 t238 x14_4 = some r) ∧ Aside0 (kq ≤ kj19) ∧ Aside0 (Kd.R (Kd.int .u8) 5 w' w.heap.size (fun k_ => some k_ ≠ ((.slice Ao22 t238.length co22) : Value).ownBlock) v236 t234) ∧ Aside0 (Kd.R (Kd.int .u8) 5 w' w.heap.size (fun k_ => some k_ ≠ (v236 : Value).ownBlock) (.slice Ao22 t238.length co22) t238) ∧ Aside0 (Below w.heap.size w w'))
                        case atStart => exact ⟨(0), (by first | rfl | (simp; done) | (simp [*]; done)), H', ⟨Nat.le_refl _⟩, ⟨by (with_reducible repeat (first | apply Kd.R_alloc | apply Kd.R_drewN | apply Kd.R_drew)); exact HO_7.out⟩, ⟨by (with_reducible repeat (first | apply Kd.R_alloc | apply Kd.R_drewN | apply Kd.R_drew)); exact HO_9.out⟩, ⟨by repeat (first | (with_reducible first | exact HB.out | apply below_alloc | apply pw_below_drewN | apply below_drew1) | exact HB.out)⟩⟩
                        case round =>
                          clear H'
                          try clear c1
                          try clear c2
                          try clear p2
                          try clear c5
                          try clear c5b0
                          try clear c5b1
                          try clear c6
                          try clear c7
                          try clear c10
                          try clear c11
                          try clear c14
                          try clear c14b0
                          try clear c14b1
                          try clear c15
                          try clear c15b0
                          try clear c15b1
                          try clear c16
                          try clear c17
                          try clear c18
                          try clear c24
                          try clear c25
                          try clear c25b0
                          try clear c25b1
                          try clear c26
                          try clear c26b0
                          try clear c26b1
                          try clear c27
                          try clear p2
                          obtain ⟨x14_4, rfl, HA, HK4, HO_7, HO_9, HB⟩ := hrel
                          cases gk with
                          | zero => exact absurd HA.out (by simp [pairinglaw8_WireBack.l0])
                          | succ k4 =>
                            have H := HA.out
                            clear HA
                            simp only [pairinglaw8_WireBack.l0] at H
                            by_cases c28 : x14_4 < (t238.length : Int)
                            · rw [if_pos c28] at H
                              have c28b0 : decide (x14_4 < (t238.length : Int)) = true := decide_eq_true c28
                              clear c28
                              by_cases c29 : 0 ≤ x14_4
                              · rw [if_pos c29] at H
                                have c29b0 := eq_true c29
                                have c29b1 : decide (0 ≤ x14_4) = true := decide_eq_true c29
                                clear c29
                                by_cases c30 : x14_4 ≤ (t238.length : Int)
                                · rw [if_pos c30] at H
                                  have c30b0 := eq_true c30
                                  have c30b1 : decide (x14_4 ≤ (t238.length : Int)) = true := decide_eq_true c30
                                  clear c30
                                  obtain ⟨y251, hy251⟩ : ∃ y_ : List Int, y_ = (t238.take (x14_4 : Int).toNat) := ⟨_, rfl⟩
                                  replace H : ((wire_DecodeText.f y251).bind fun bt255 => (if bt255.2.2 = 3 then (pairinglaw8_WireBack.l0 k4 a0 l2 t234 t235 t238 (wrap64 (x14_4 + 1))) else (some false))) = some r := by first | (rw [hy251]; with_reducible exact H) | (have H2_ := (Option.bind_some _ _).symm.trans H; rw [hy251]; with_reducible exact H2_) | (have H2_ := (Option.bind_some _ _).symm.trans H; with_reducible exact H2_) | with_reducible exact H | (rw [hy251]; exact H) | exact H
                                  have Ny251 := Aside0.mk hy251
                                  clear hy251
                                  replace H := Option.bind_eq_some_iff.mp H
                                  obtain ⟨⟨t255, t256, t257⟩, A310, H⟩ := H
                                  replace H : (if t257 = 3 then (pairinglaw8_WireBack.l0 k4 a0 l2 t234 t235 t238 (wrap64 (x14_4 + 1))) else (some false)) = some r := H
                                  have A31 := Aside0.mk A310
                                  clear A310
                                  by_cases c32 : t257 = 3
                                  · rw [if_pos c32] at H
                                    have c32b0 : (t257 == 3) = true := beq_iff_eq.mpr c32
                                    have c32b1 : (t257 != 3) = false := bne_eq_false_iff_eq.mpr c32
                                    clear c32
                                    have H' := Aside0.mk H
                                    clear H
                                    have q33 : (x14_4 : Int) ≤ ((t238.length : Int) : Int) := of_decide_eq_true (by first | (with_reducible assumption) | assumption)
                                    obtain ⟨i033, hi033, _, hsz33, _⟩ := info_parts info5
                                    have hroom33 : t238.length ≤ co22 := (Kd.R_reads' HO_9.out).2.1
                                    have hC33 : Kd.C (Kd.int .u8) _ Ao22 t238.length t238 := (Kd.R_reads' HO_9.out).2.2
                                    have hcut33 := cut_to (P := Try.prog) 23 5 .i64 Try.underlying23 hi033 Ao22 t238.length co22 x14_4 (of_decide_eq_true (by first | (with_reducible assumption) | assumption)) q33 hroom33
                                    have hr33 := Kd.C_take (m := (x14_4 : Int).toNat) hC33 (by omega)
                                    have hy33 : y251.length = (x14_4 : Int).toNat := (by rw [Ny251.out, List.length_take]; omega)
                                    rw [← Ny251.out] at hr33
                                    rw [← hy33] at hcut33
                                    have HR254 := Aside0.mk hr33
                                    have HC254 := Aside0.mk (show y251.length ≤ co22 from by omega)
                                    clear hr33 hC33 hroom33 hi033 hsz33
                                    have KY33 := Aside0.mk hy33
                                    clear hy33
                                    have KL33 := Aside0.mk (show (x14_4 : Int).toNat ≤ t238.length from by omega)
                                    replace q33 := eq_true q33
                                    go_wp2_with (first | ((with_reducible refine gate_callee (f := 24) rfl ?_); refine goesL_ (some 86) rfl rfl Try.func24 (by kernel_rfl) rfl #[.slice Ao22 y251.length co22] rfl (by (try simp only [List.map_toArray, List.map_cons, List.map_nil]); first | done | rfl | (simp only [List.length_drop, List.length_take]; rfl)) ?_; (with_reducible refine (wire_DecodeText.calls _ _ y251 t255 t256 t257 _ ?side1 ?side2 A31.out).mono ?_); (case side1 => repeat (first | exact (by repeat (first | (with_reducible exact HR254.out) | (with_reducible refine Kd.C_alloc ?_ _) | (with_reducible refine Kd.C_drewN ?_ _) | (with_reducible refine Kd.C_drew ?_) | exact HR254.out)) | (with_reducible refine Kd.C_alloc ?_ _) | (with_reducible refine Kd.C_drewN ?_ _) | (with_reducible refine Kd.C_drew ?_))); (case side2 => exact HC254.out); rintro e w' ⟨rfl, ⟨nd, rfl⟩⟩; refine ⟨_, rfl, ?_⟩))
                                    go_roundg k4
                                    case measure => have := HJ3.out; have := HJ10.out; have := HJ19.out; have := HK4.out; omega
                                    case rel => exact ⟨(wrap64 (x14_4 + 1)), (by first | rfl | (simp; done) | (simp [*]; done)), H', ⟨by have := HJ3.out; have := HJ10.out; have := HJ19.out; have := HK4.out; omega⟩, ⟨by (with_reducible repeat (first | apply Kd.R_alloc | apply Kd.R_drewN | apply Kd.R_drew)); exact HO_7.out⟩, ⟨by (with_reducible repeat (first | apply Kd.R_alloc | apply Kd.R_drewN | apply Kd.R_drew)); exact HO_9.out⟩, ⟨by repeat (first | (with_reducible first | exact HB.out | apply below_alloc | apply pw_below_drewN | apply below_drew1) | exact HB.out)⟩⟩
                                  · rw [if_neg c32] at H
                                    have c32b0 : (t257 == 3) = false := beq_eq_false_iff_ne.mpr c32
                                    have c32b1 : (t257 != 3) = true := bne_iff_ne.mpr c32
                                    obtain rfl := Option.some.inj H
                                    have q34 : (x14_4 : Int) ≤ ((t238.length : Int) : Int) := of_decide_eq_true (by first | (with_reducible assumption) | assumption)
                                    obtain ⟨i034, hi034, _, hsz34, _⟩ := info_parts info5
                                    have hroom34 : t238.length ≤ co22 := (Kd.R_reads' HO_9.out).2.1
                                    have hC34 : Kd.C (Kd.int .u8) _ Ao22 t238.length t238 := (Kd.R_reads' HO_9.out).2.2
                                    have hcut34 := cut_to (P := Try.prog) 23 5 .i64 Try.underlying23 hi034 Ao22 t238.length co22 x14_4 (of_decide_eq_true (by first | (with_reducible assumption) | assumption)) q34 hroom34
                                    have hr34 := Kd.C_take (m := (x14_4 : Int).toNat) hC34 (by omega)
                                    have hy34 : y251.length = (x14_4 : Int).toNat := (by rw [Ny251.out, List.length_take]; omega)
                                    rw [← Ny251.out] at hr34
                                    rw [← hy34] at hcut34
                                    have HR254 := Aside0.mk hr34
                                    have HC254 := Aside0.mk (show y251.length ≤ co22 from by omega)
                                    clear hr34 hC34 hroom34 hi034 hsz34
                                    have KY34 := Aside0.mk hy34
                                    clear hy34
                                    have KL34 := Aside0.mk (show (x14_4 : Int).toNat ≤ t238.length from by omega)
                                    replace q34 := eq_true q34
                                    go_wp2_with (first | ((with_reducible refine gate_callee (f := 24) rfl ?_); refine goesL_ (some 86) rfl rfl Try.func24 (by kernel_rfl) rfl #[.slice Ao22 y251.length co22] rfl (by (try simp only [List.map_toArray, List.map_cons, List.map_nil]); first | done | rfl | (simp only [List.length_drop, List.length_take]; rfl)) ?_; (with_reducible refine (wire_DecodeText.calls _ _ y251 t255 t256 t257 _ ?side1 ?side2 A31.out).mono ?_); (case side1 => repeat (first | exact (by repeat (first | (with_reducible exact HR254.out) | (with_reducible refine Kd.C_alloc ?_ _) | (with_reducible refine Kd.C_drewN ?_ _) | (with_reducible refine Kd.C_drew ?_) | exact HR254.out)) | (with_reducible refine Kd.C_alloc ?_ _) | (with_reducible refine Kd.C_drewN ?_ _) | (with_reducible refine Kd.C_drew ?_))); (case side2 => exact HC254.out); rintro e w' ⟨rfl, ⟨nd, rfl⟩⟩; refine ⟨_, rfl, ?_⟩))
                                    go_ret
                                    exact ⟨by first | rfl | (simp [errW_none, errW_some] <;> rfl) | (simp [*, errW_none, errW_some] <;> rfl), by repeat (first | (with_reducible first | exact HB.out | apply below_alloc | apply pw_below_drewN | apply below_drew1) | exact HB.out)⟩
                                · rw [if_neg c30] at H
                                  exact absurd H (by simp)
                              · rw [if_neg c29] at H
                                exact absurd H (by simp)
                            · rw [if_neg c28] at H
                              have c28b0 : decide (x14_4 < (t238.length : Int)) = false := decide_eq_false c28
                              clear c28
                              by_cases c35 : t235 = 0
                              · rw [if_pos c35] at H
                                have c35b0 : (t235 == 0) = true := beq_iff_eq.mpr c35
                                have c35b1 : (t235 != 0) = false := bne_eq_false_iff_eq.mpr c35
                                clear c35
                                by_cases c36 : ([] : List Int).length + t234.length < 140737488355328
                                · rw [if_pos c36] at H
                                  have LMc36 := Aside0.mk c36
                                  clear c36
                                  obtain ⟨y258, hy258⟩ : ∃ y_ : List Int, y_ = (([] : List Int) ++ t234) := ⟨_, rfl⟩
                                  replace H : (if y258.length + l2.length < 140737488355328 then ((wire_DecodeInt.f (y258 ++ l2)).bind fun bt264 => (if bt264.2.2 = 0 then (if bt264.1 = a0 then (pairinglaw8_WireBack.j4 k4 t234 (bt264.2.1 != (t234.length : Int))) else (pairinglaw8_WireBack.j4 k4 t234 true)) else (pairinglaw8_WireBack.j4 k4 t234 true))) else (none)) = some r := by first | (rw [hy258]; with_reducible exact H) | (have H2_ := (Option.bind_some _ _).symm.trans H; rw [hy258]; with_reducible exact H2_) | (have H2_ := (Option.bind_some _ _).symm.trans H; with_reducible exact H2_) | with_reducible exact H | (rw [hy258]; exact H) | exact H
                                  have Ny258 := Aside0.mk hy258
                                  clear hy258
                                  by_cases c37 : y258.length + l2.length < 140737488355328
                                  · rw [if_pos c37] at H
                                    have LMc37 := Aside0.mk c37
                                    clear c37
                                    obtain ⟨y261, hy261⟩ : ∃ y_ : List Int, y_ = (y258 ++ l2) := ⟨_, rfl⟩
                                    replace H : ((wire_DecodeInt.f y261).bind fun bt264 => (if bt264.2.2 = 0 then (if bt264.1 = a0 then (pairinglaw8_WireBack.j4 k4 t234 (bt264.2.1 != (t234.length : Int))) else (pairinglaw8_WireBack.j4 k4 t234 true)) else (pairinglaw8_WireBack.j4 k4 t234 true))) = some r := by first | (rw [hy261]; with_reducible exact H) | (have H2_ := (Option.bind_some _ _).symm.trans H; rw [hy261]; with_reducible exact H2_) | (have H2_ := (Option.bind_some _ _).symm.trans H; with_reducible exact H2_) | with_reducible exact H | (rw [hy261]; exact H) | exact H
                                    have Ny261 := Aside0.mk hy261
                                    clear hy261
                                    replace H := Option.bind_eq_some_iff.mp H
                                    obtain ⟨⟨t264, t265, t266⟩, A380, H⟩ := H
                                    replace H : (if t266 = 0 then (if t264 = a0 then (pairinglaw8_WireBack.j4 k4 t234 (t265 != (t234.length : Int))) else (pairinglaw8_WireBack.j4 k4 t234 true)) else (pairinglaw8_WireBack.j4 k4 t234 true)) = some r := H
                                    have A38 := Aside0.mk A380
                                    clear A380
                                    have HC39 := Aside0.mk H
                                    clear H
                                    obtain ⟨Ao41, co41, eo41⟩ := Kd.R_slice HO_7.out
                                    subst eo41
                                    go_upto_region 18 with (first | ((with_reducible refine gate_builtin (b := .append) (xs := #[.const (.slice none 0 0), .tmp 95]) rfl ?_); (try (refine gate_guard (by rfl) ?_; dsimp only)); at_builtin; refine Kd.R_append_rows (Kd.int .u8) (w0 := w) w.heap.size rfl (.const (.slice none 0 0)) (.tmp 95) 23 5 (.int .u8 0) 1 rfl Try.underlying23 info5 rfl (by decide) (by omega) (.slice none 0 0) ([] : List Int) t234 _ _ _ (fun k_ => some k_ ≠ (.slice Ao41 t234.length co41 : Value).ownBlock ∧ some k_ ≠ (.slice Ao22 t238.length co22 : Value).ownBlock) (fun _ => False) rfl rfl ?aO ?aR (fun _ _ h => h) (fun _ h => h.elim) ?aF ?aB ?aS ?aL ?_; (case aR => repeat (first | exact (Kd.R_reads' HO_7.out).2.2 | (with_reducible refine Kd.C_alloc ?_ _) | (with_reducible refine Kd.C_drewN ?_ _) | (with_reducible refine Kd.C_drew ?_))); (case aB => exact (by repeat (first | (with_reducible first | exact HB.out | apply below_alloc | apply pw_below_drewN | apply below_drew1) | exact HB.out))); (case aF => exact (fun k_ hk => ⟨Kd.fresh' (Kd.R_lt (by (with_reducible repeat (first | apply Kd.R_alloc | apply Kd.R_drewN | apply Kd.R_drew)); exact HO_7.out)) k_ hk, Kd.fresh' (Kd.R_lt (by (with_reducible repeat (first | apply Kd.R_alloc | apply Kd.R_drewN | apply Kd.R_drew)); exact HO_9.out)) k_ hk⟩)); (case aO => exact ((Kd.R_nil _ _ _ _ (fun k_ => some k_ ≠ (.slice Ao41 t234.length co41 : Value).ownBlock ∧ some k_ ≠ (.slice Ao22 t238.length co22 : Value).ownBlock)))); (case aS => exact (below_size (by repeat (first | (with_reducible first | exact HB.out | apply below_alloc | apply pw_below_drewN | apply below_drew1) | exact HB.out)))); (case aL => have := LMc36.out; omega); intro v259 w40 ho hb hg hat; rw [← Ny258.out] at ho; have n0_ := Aside0.mk (Kd.R_after (Kd.R_apart_nil (by (with_reducible repeat (first | apply Kd.R_alloc | apply Kd.R_drewN | apply Kd.R_drew)); exact HO_7.out)) hg hat); have n1_ := Aside0.mk (Kd.R_after (Kd.R_apart_nil (by (with_reducible repeat (first | apply Kd.R_alloc | apply Kd.R_drewN | apply Kd.R_drew)); exact HO_9.out)) hg hat); have n2_ := Aside0.mk (hb); have n3_ := Aside0.mk (ho); clear HO_7; clear HO_9; clear HB; have HO_7 := n0_; have HO_9 := n1_; have HB := n2_; have HO260 := n3_; clear n0_ n1_ n2_ n3_; clear ho hb hg hat) | ((with_reducible refine gate_builtin (b := .append) (xs := #[.tmp 96, .tmp 97]) rfl ?_); (try (refine gate_guard (by rfl) ?_; dsimp only)); at_builtin; refine Kd.R_append_rows (Kd.int .u8) (w0 := w) w.heap.size rfl (.tmp 96) (.tmp 97) 23 5 (.int .u8 0) 1 rfl Try.underlying23 info5 rfl (by decide) (by omega) v259 y258 l2 _ _ _ (fun k_ => some k_ ≠ (.slice Ao41 t234.length co41 : Value).ownBlock ∧ some k_ ≠ (.slice Ao22 t238.length co22 : Value).ownBlock) (fun _ => False) rfl rfl ?aO ?aR (fun _ _ h => h) (fun _ h => h.elim) ?aF ?aB ?aS ?aL ?_; (case aR => repeat (first | exact (Kd.C_below HR2.out HB.out) | (with_reducible refine Kd.C_alloc ?_ _) | (with_reducible refine Kd.C_drewN ?_ _) | (with_reducible refine Kd.C_drew ?_))); (case aB => exact (by repeat (first | (with_reducible first | exact HB.out | apply below_alloc | apply pw_below_drewN | apply below_drew1) | exact HB.out))); (case aF => exact (fun k_ hk => ⟨Kd.fresh' (Kd.R_lt (by (with_reducible repeat (first | apply Kd.R_alloc | apply Kd.R_drewN | apply Kd.R_drew)); exact HO_7.out)) k_ hk, Kd.fresh' (Kd.R_lt (by (with_reducible repeat (first | apply Kd.R_alloc | apply Kd.R_drewN | apply Kd.R_drew)); exact HO_9.out)) k_ hk⟩)); (case aO => exact (by (with_reducible repeat (first | apply Kd.R_alloc | apply Kd.R_drewN | apply Kd.R_drew)); exact HO260.out)); (case aS => exact (below_size (by repeat (first | (with_reducible first | exact HB.out | apply below_alloc | apply pw_below_drewN | apply below_drew1) | exact HB.out)))); (case aL => have := LMc37.out; omega); intro v262 w42 ho hb hg hat; rw [← Ny261.out] at ho; have n0_ := Aside0.mk (Kd.R_after (ok := (fun k_ => some k_ ≠ (.slice Ao22 t238.length co22 : Value).ownBlock)) (by (with_reducible repeat (first | apply Kd.R_alloc | apply Kd.R_drewN | apply Kd.R_drew)); exact HO_7.out) hg hat); have n1_ := Aside0.mk (Kd.R_after (ok := (fun k_ => some k_ ≠ (.slice Ao41 t234.length co41 : Value).ownBlock)) (by (with_reducible repeat (first | apply Kd.R_alloc | apply Kd.R_drewN | apply Kd.R_drew)); exact HO_9.out) hg hat); have n2_ := Aside0.mk (hb); have n3_ := Aside0.mk (ho); clear HO_7; clear HO_9; clear HB; clear HO260; have HO_7 := n0_; have HO_9 := n1_; have HB := n2_; have HO263 := n3_; clear n0_ n1_ n2_ n3_; clear ho hb hg hat; obtain ⟨Ao43, co43, eo43⟩ := Kd.R_slice HO263.out; subst eo43) | ((with_reducible refine gate_callee (f := 22) rfl ?_); refine goesL_ (some 99) rfl rfl Try.func22 (by kernel_rfl) rfl #[.slice Ao43 y261.length co43] rfl (by (try simp only [List.map_toArray, List.map_cons, List.map_nil]); first | done | rfl | (simp only [List.length_drop, List.length_take]; rfl)) ?_; (with_reducible refine (wire_DecodeInt.calls _ _ y261 t264 t265 t266 _ ?side1 ?side2 A38.out).mono ?_); (case side1 => repeat (first | exact (Kd.R_reads' HO263.out).2.2 | (with_reducible refine Kd.C_alloc ?_ _) | (with_reducible refine Kd.C_drewN ?_ _) | (with_reducible refine Kd.C_drew ?_))); (case side2 => exact (Kd.R_reads' HO263.out).2.1); rintro e w' ⟨rfl, ⟨nd, rfl⟩⟩; refine ⟨_, rfl, ?_⟩))
                                    (try simp only [Act.put, List.setIfInBounds_toArray, List.set_cons_zero, List.set_cons_succ])
                                    go_cut [115] (fun v115 wc => ∃ (kq : Nat) (x115_38 : Bool), v115 = .bool x115_38 ∧ Aside0 (pairinglaw8_WireBack.j4 kq t234 x115_38 = some r) ∧ Aside0 (kq ≤ k4) ∧ Aside0 (Kd.R (Kd.int .u8) 5 wc w.heap.size (fun _ => True) (.slice Ao41 t234.length co41) t234) ∧ Aside0 (Below w.heap.size w wc))
                                    case first =>
                                      have H := HC39.out
                                      clear HC39
                                      by_cases c44 : t266 = 0
                                      · rw [if_pos c44] at H
                                        have c44b0 : (t266 == 0) = true := beq_iff_eq.mpr c44
                                        have c44b1 : (t266 != 0) = false := bne_eq_false_iff_eq.mpr c44
                                        clear c44
                                        (first | rw [c44b0] | (simp only [i64_w, i32_w]; rw [c44b0]) | skip)
                                        by_cases c45 : t264 = a0
                                        · rw [if_pos c45] at H
                                          have c45b0 : (t264 == a0) = true := beq_iff_eq.mpr c45
                                          have c45b1 : (t264 != a0) = false := bne_eq_false_iff_eq.mpr c45
                                          clear c45
                                          have H' := Aside0.mk H
                                          clear H
                                          go_wp2
                                          go_meet
                                          case rel => exact ⟨_, ((t265 != (t234.length : Int))), (by first | rfl | (simp; done) | (simp [*]; done)), H', ⟨by have := HJ3.out; have := HJ10.out; have := HJ19.out; have := HK4.out; first | omega | exact Nat.le_refl _⟩, ⟨by (with_reducible repeat (first | apply Kd.R_alloc | apply Kd.R_drewN | apply Kd.R_drew)); exact Kd.R_mono HO_7.out (fun _ hk => trivial)⟩, ⟨by repeat (first | (with_reducible first | exact HB.out | apply below_alloc | apply pw_below_drewN | apply below_drew1) | exact HB.out)⟩⟩
                                        · rw [if_neg c45] at H
                                          have c45b0 : (t264 == a0) = false := beq_eq_false_iff_ne.mpr c45
                                          have c45b1 : (t264 != a0) = true := bne_iff_ne.mpr c45
                                          have H' := Aside0.mk H
                                          clear H
                                          go_wp2
                                          go_meet
                                          case rel => exact ⟨_, (true), (by first | rfl | (simp; done) | (simp [*]; done)), H', ⟨by have := HJ3.out; have := HJ10.out; have := HJ19.out; have := HK4.out; first | omega | exact Nat.le_refl _⟩, ⟨by (with_reducible repeat (first | apply Kd.R_alloc | apply Kd.R_drewN | apply Kd.R_drew)); exact Kd.R_mono HO_7.out (fun _ hk => trivial)⟩, ⟨by repeat (first | (with_reducible first | exact HB.out | apply below_alloc | apply pw_below_drewN | apply below_drew1) | exact HB.out)⟩⟩
                                      · rw [if_neg c44] at H
                                        have c44b0 : (t266 == 0) = false := beq_eq_false_iff_ne.mpr c44
                                        have c44b1 : (t266 != 0) = true := bne_iff_ne.mpr c44
                                        (first | rw [c44b0] | (simp only [i64_w, i32_w]; rw [c44b0]) | skip)
                                        have H' := Aside0.mk H
                                        clear H
                                        go_wp2
                                        go_meet
                                        case rel => exact ⟨_, (true), (by first | rfl | (simp; done) | (simp [*]; done)), H', ⟨by have := HJ3.out; have := HJ10.out; have := HJ19.out; have := HK4.out; first | omega | exact Nat.le_refl _⟩, ⟨by (with_reducible repeat (first | apply Kd.R_alloc | apply Kd.R_drewN | apply Kd.R_drew)); exact Kd.R_mono HO_7.out (fun _ hk => trivial)⟩, ⟨by repeat (first | (with_reducible first | exact HB.out | apply below_alloc | apply pw_below_drewN | apply below_drew1) | exact HB.out)⟩⟩
                                    case rest =>
                                      clear HC39
                                      try clear c1
                                      try clear c2
                                      try clear p2
                                      try clear c3
                                      try clear q3
                                      try clear c4
                                      try clear c5
                                      try clear c5b0
                                      try clear c5b1
                                      try clear c6
                                      try clear p6
                                      try clear c7
                                      try clear c10
                                      try clear c11
                                      try clear c14
                                      try clear c14b0
                                      try clear c14b1
                                      try clear c15
                                      try clear c15b0
                                      try clear c15b1
                                      try clear c16
                                      try clear c17
                                      try clear c18
                                      try clear c22
                                      try clear c24
                                      try clear c25
                                      try clear c25b0
                                      try clear c25b1
                                      try clear c26
                                      try clear c26b0
                                      try clear c26b1
                                      try clear c27
                                      try clear c28
                                      try clear c28b0
                                      try clear c29
                                      try clear c29b0
                                      try clear c29b1
                                      try clear c30
                                      try clear c30b0
                                      try clear c30b1
                                      try clear c32
                                      try clear c32b0
                                      try clear c32b1
                                      try clear q33
                                      try clear q34
                                      try clear c35
                                      try clear c35b0
                                      try clear c35b1
                                      try clear c36
                                      try clear c37
                                      try clear c44
                                      try clear c44b0
                                      try clear c44b1
                                      try clear c45
                                      try clear c45b0
                                      try clear c45b1
                                      try clear p2
                                      try clear q33
                                      try clear q34
                                      obtain ⟨kq, x115_38, rfl, HA, HJ38, HO_7, HB⟩ := hcut
                                      cases kq with
                                      | zero => exact absurd HA.out (by simp [pairinglaw8_WireBack.j4])
                                      | succ kj38 =>
                                        have H := HA.out
                                        clear HA
                                        simp only [pairinglaw8_WireBack.j4] at H
                                        by_cases c46 : x115_38 = true
                                        · subst c46
                                          have H1 : (some false) = some r := by rw [if_pos rfl] at H; exact H
                                          clear H
                                          have H := H1
                                          clear H1
                                          obtain rfl := Option.some.inj H
                                          go_wp2
                                          go_ret
                                          exact ⟨by first | rfl | (simp [errW_none, errW_some] <;> rfl) | (simp [*, errW_none, errW_some] <;> rfl), by repeat (first | (with_reducible first | exact HB.out | apply below_alloc | apply pw_below_drewN | apply below_drew1) | exact HB.out)⟩
                                        · replace c46 := Bool.eq_false_iff.mpr c46
                                          subst c46
                                          have H1 : (pairinglaw8_WireBack.l1 kj38 t234 0) = some r := by rw [if_neg (show ¬ (false = true) by decide)] at H; exact H
                                          clear H
                                          have H := H1
                                          clear H1
                                          have H' := Aside0.mk H
                                          clear H
                                          go_wp2
                                          go_loopg [21] kj38 (fun kq v21 w' => ∃ (x21_6 : Int), v21 = .int .i64 x21_6 ∧ Aside0 (pairinglaw8_WireBack.l1 kq t234 x21_6 = some r) ∧ Aside0 (kq ≤ kj38) ∧ Aside0 (Kd.R (Kd.int .u8) 5 w' w.heap.size (fun _ => True) (.slice Ao41 t234.length co41) t234) ∧ Aside0 (Below w.heap.size w w'))
                                          case atStart => exact ⟨(0), (by first | rfl | (simp; done) | (simp [*]; done)), H', ⟨Nat.le_refl _⟩, ⟨by (with_reducible repeat (first | apply Kd.R_alloc | apply Kd.R_drewN | apply Kd.R_drew)); exact HO_7.out⟩, ⟨by repeat (first | (with_reducible first | exact HB.out | apply below_alloc | apply pw_below_drewN | apply below_drew1) | exact HB.out)⟩⟩
                                          case round =>
                                            clear H'
                                            try clear c1
                                            try clear c2
                                            try clear p2
                                            try clear c3
                                            try clear q3
                                            try clear c4
                                            try clear c5
                                            try clear c5b0
                                            try clear c5b1
                                            try clear c6
                                            try clear p6
                                            try clear c7
                                            try clear c10
                                            try clear c11
                                            try clear c14
                                            try clear c14b0
                                            try clear c14b1
                                            try clear c15
                                            try clear c15b0
                                            try clear c15b1
                                            try clear c16
                                            try clear c17
                                            try clear c18
                                            try clear c22
                                            try clear c24
                                            try clear c25
                                            try clear c25b0
                                            try clear c25b1
                                            try clear c26
                                            try clear c26b0
                                            try clear c26b1
                                            try clear c27
                                            try clear c28
                                            try clear c28b0
                                            try clear c29
                                            try clear c29b0
                                            try clear c29b1
                                            try clear c30
                                            try clear c30b0
                                            try clear c30b1
                                            try clear c32
                                            try clear c32b0
                                            try clear c32b1
                                            try clear q33
                                            try clear q34
                                            try clear c35
                                            try clear c35b0
                                            try clear c35b1
                                            try clear c36
                                            try clear c37
                                            try clear c44
                                            try clear c44b0
                                            try clear c44b1
                                            try clear c45
                                            try clear c45b0
                                            try clear c45b1
                                            try clear c46
                                            try clear p2
                                            try clear p6
                                            try clear q3
                                            try clear q33
                                            try clear q34
                                            obtain ⟨x21_6, rfl, HA, HK6, HO_7, HB⟩ := hrel
                                            cases gk with
                                            | zero => exact absurd HA.out (by simp [pairinglaw8_WireBack.l1])
                                            | succ k6 =>
                                              have H := HA.out
                                              clear HA
                                              simp only [pairinglaw8_WireBack.l1] at H
                                              by_cases c47 : x21_6 < (t234.length : Int)
                                              · rw [if_pos c47] at H
                                                have c47b0 : decide (x21_6 < (t234.length : Int)) = true := decide_eq_true c47
                                                clear c47
                                                by_cases c48 : 0 ≤ x21_6
                                                · rw [if_pos c48] at H
                                                  have c48b0 := eq_true c48
                                                  have c48b1 : decide (0 ≤ x21_6) = true := decide_eq_true c48
                                                  clear c48
                                                  by_cases c49 : x21_6 ≤ (t234.length : Int)
                                                  · rw [if_pos c49] at H
                                                    have c49b0 := eq_true c49
                                                    have c49b1 : decide (x21_6 ≤ (t234.length : Int)) = true := decide_eq_true c49
                                                    clear c49
                                                    obtain ⟨y267, hy267⟩ : ∃ y_ : List Int, y_ = (t234.take (x21_6 : Int).toNat) := ⟨_, rfl⟩
                                                    replace H : ((wire_DecodeInt.f y267).bind fun bt271 => (if bt271.2.2 = 3 then (pairinglaw8_WireBack.l1 k6 t234 (wrap64 (x21_6 + 1))) else (some false))) = some r := by first | (rw [hy267]; with_reducible exact H) | (have H2_ := (Option.bind_some _ _).symm.trans H; rw [hy267]; with_reducible exact H2_) | (have H2_ := (Option.bind_some _ _).symm.trans H; with_reducible exact H2_) | with_reducible exact H | (rw [hy267]; exact H) | exact H
                                                    have Ny267 := Aside0.mk hy267
                                                    clear hy267
                                                    replace H := Option.bind_eq_some_iff.mp H
                                                    obtain ⟨⟨t271, t272, t273⟩, A500, H⟩ := H
                                                    replace H : (if t273 = 3 then (pairinglaw8_WireBack.l1 k6 t234 (wrap64 (x21_6 + 1))) else (some false)) = some r := H
                                                    have A50 := Aside0.mk A500
                                                    clear A500
                                                    by_cases c51 : t273 = 3
                                                    · rw [if_pos c51] at H
                                                      have c51b0 : (t273 == 3) = true := beq_iff_eq.mpr c51
                                                      have c51b1 : (t273 != 3) = false := bne_eq_false_iff_eq.mpr c51
                                                      clear c51
                                                      have H' := Aside0.mk H
                                                      clear H
                                                      have q52 : (x21_6 : Int) ≤ ((t234.length : Int) : Int) := of_decide_eq_true (by first | (with_reducible assumption) | assumption)
                                                      obtain ⟨i052, hi052, _, hsz52, _⟩ := info_parts info5
                                                      have hroom52 : t234.length ≤ co41 := (Kd.R_reads' HO_7.out).2.1
                                                      have hC52 : Kd.C (Kd.int .u8) _ Ao41 t234.length t234 := (Kd.R_reads' HO_7.out).2.2
                                                      have hcut52 := cut_to (P := Try.prog) 23 5 .i64 Try.underlying23 hi052 Ao41 t234.length co41 x21_6 (of_decide_eq_true (by first | (with_reducible assumption) | assumption)) q52 hroom52
                                                      have hr52 := Kd.C_take (m := (x21_6 : Int).toNat) hC52 (by omega)
                                                      have hy52 : y267.length = (x21_6 : Int).toNat := (by rw [Ny267.out, List.length_take]; omega)
                                                      rw [← Ny267.out] at hr52
                                                      rw [← hy52] at hcut52
                                                      have HR270 := Aside0.mk hr52
                                                      have HC270 := Aside0.mk (show y267.length ≤ co41 from by omega)
                                                      clear hr52 hC52 hroom52 hi052 hsz52
                                                      have KY52 := Aside0.mk hy52
                                                      clear hy52
                                                      have KL52 := Aside0.mk (show (x21_6 : Int).toNat ≤ t234.length from by omega)
                                                      replace q52 := eq_true q52
                                                      go_wp2_with (first | ((with_reducible refine gate_callee (f := 22) rfl ?_); refine goesL_ (some 126) rfl rfl Try.func22 (by kernel_rfl) rfl #[.slice Ao41 y267.length co41] rfl (by (try simp only [List.map_toArray, List.map_cons, List.map_nil]); first | done | rfl | (simp only [List.length_drop, List.length_take]; rfl)) ?_; (with_reducible refine (wire_DecodeInt.calls _ _ y267 t271 t272 t273 _ ?side1 ?side2 A50.out).mono ?_); (case side1 => repeat (first | exact (by repeat (first | (with_reducible exact HR270.out) | (with_reducible refine Kd.C_alloc ?_ _) | (with_reducible refine Kd.C_drewN ?_ _) | (with_reducible refine Kd.C_drew ?_) | exact HR270.out)) | (with_reducible refine Kd.C_alloc ?_ _) | (with_reducible refine Kd.C_drewN ?_ _) | (with_reducible refine Kd.C_drew ?_))); (case side2 => exact HC270.out); rintro e w' ⟨rfl, ⟨nd, rfl⟩⟩; refine ⟨_, rfl, ?_⟩))
                                                      go_roundg k6
                                                      case measure => have := HJ3.out; have := HJ10.out; have := HJ19.out; have := HK4.out; have := HJ38.out; have := HK6.out; omega
                                                      case rel => exact ⟨(wrap64 (x21_6 + 1)), (by first | rfl | (simp; done) | (simp [*]; done)), H', ⟨by have := HJ3.out; have := HJ10.out; have := HJ19.out; have := HK4.out; have := HJ38.out; have := HK6.out; omega⟩, ⟨by (with_reducible repeat (first | apply Kd.R_alloc | apply Kd.R_drewN | apply Kd.R_drew)); exact HO_7.out⟩, ⟨by repeat (first | (with_reducible first | exact HB.out | apply below_alloc | apply pw_below_drewN | apply below_drew1) | exact HB.out)⟩⟩
                                                    · rw [if_neg c51] at H
                                                      have c51b0 : (t273 == 3) = false := beq_eq_false_iff_ne.mpr c51
                                                      have c51b1 : (t273 != 3) = true := bne_iff_ne.mpr c51
                                                      obtain rfl := Option.some.inj H
                                                      have q53 : (x21_6 : Int) ≤ ((t234.length : Int) : Int) := of_decide_eq_true (by first | (with_reducible assumption) | assumption)
                                                      obtain ⟨i053, hi053, _, hsz53, _⟩ := info_parts info5
                                                      have hroom53 : t234.length ≤ co41 := (Kd.R_reads' HO_7.out).2.1
                                                      have hC53 : Kd.C (Kd.int .u8) _ Ao41 t234.length t234 := (Kd.R_reads' HO_7.out).2.2
                                                      have hcut53 := cut_to (P := Try.prog) 23 5 .i64 Try.underlying23 hi053 Ao41 t234.length co41 x21_6 (of_decide_eq_true (by first | (with_reducible assumption) | assumption)) q53 hroom53
                                                      have hr53 := Kd.C_take (m := (x21_6 : Int).toNat) hC53 (by omega)
                                                      have hy53 : y267.length = (x21_6 : Int).toNat := (by rw [Ny267.out, List.length_take]; omega)
                                                      rw [← Ny267.out] at hr53
                                                      rw [← hy53] at hcut53
                                                      have HR270 := Aside0.mk hr53
                                                      have HC270 := Aside0.mk (show y267.length ≤ co41 from by omega)
                                                      clear hr53 hC53 hroom53 hi053 hsz53
                                                      have KY53 := Aside0.mk hy53
                                                      clear hy53
                                                      have KL53 := Aside0.mk (show (x21_6 : Int).toNat ≤ t234.length from by omega)
                                                      replace q53 := eq_true q53
                                                      go_wp2_with (first | ((with_reducible refine gate_callee (f := 22) rfl ?_); refine goesL_ (some 126) rfl rfl Try.func22 (by kernel_rfl) rfl #[.slice Ao41 y267.length co41] rfl (by (try simp only [List.map_toArray, List.map_cons, List.map_nil]); first | done | rfl | (simp only [List.length_drop, List.length_take]; rfl)) ?_; (with_reducible refine (wire_DecodeInt.calls _ _ y267 t271 t272 t273 _ ?side1 ?side2 A50.out).mono ?_); (case side1 => repeat (first | exact (by repeat (first | (with_reducible exact HR270.out) | (with_reducible refine Kd.C_alloc ?_ _) | (with_reducible refine Kd.C_drewN ?_ _) | (with_reducible refine Kd.C_drew ?_) | exact HR270.out)) | (with_reducible refine Kd.C_alloc ?_ _) | (with_reducible refine Kd.C_drewN ?_ _) | (with_reducible refine Kd.C_drew ?_))); (case side2 => exact HC270.out); rintro e w' ⟨rfl, ⟨nd, rfl⟩⟩; refine ⟨_, rfl, ?_⟩))
                                                      go_ret
                                                      exact ⟨by first | rfl | (simp [errW_none, errW_some] <;> rfl) | (simp [*, errW_none, errW_some] <;> rfl), by repeat (first | (with_reducible first | exact HB.out | apply below_alloc | apply pw_below_drewN | apply below_drew1) | exact HB.out)⟩
                                                  · rw [if_neg c49] at H
                                                    exact absurd H (by simp)
                                                · rw [if_neg c48] at H
                                                  exact absurd H (by simp)
                                              · rw [if_neg c47] at H
                                                have c47b0 : decide (x21_6 < (t234.length : Int)) = false := decide_eq_false c47
                                                clear c47
                                                replace H := Option.bind_eq_some_iff.mp H
                                                obtain ⟨t274, A540, H⟩ := H
                                                replace H : (some t274) = some r := H
                                                have A54 := Aside0.mk A540
                                                clear A540
                                                obtain rfl := Option.some.inj H
                                                go_wp2_with (first | ((with_reducible refine gate_callee (f := 10) rfl ?_); refine goesL_ (some 132) rfl rfl Try.func10 (by kernel_rfl) rfl #[] rfl (by (try simp only [List.map_toArray, List.map_cons, List.map_nil]); first | done | rfl | (simp only [List.length_drop, List.length_take]; rfl)) ?_; (with_reducible refine (pairinglaw8_awake.calls k6  t274 _ A54.out).mono ?_); rintro e w55 ⟨rfl, hb⟩; refine ⟨_, rfl, ?_⟩; have n0_ := Aside0.mk (Kd.R_below (by (with_reducible repeat (first | apply Kd.R_alloc | apply Kd.R_drewN | apply Kd.R_drew)); exact HO_7.out) hb); have n1_ := Aside0.mk (below_step (by repeat (first | (with_reducible first | exact HB.out | apply below_alloc | apply pw_below_drewN | apply below_drew1) | exact HB.out)) hb); clear HO_7; clear HB; have HO_7 := n0_; have HB := n1_; clear n0_ n1_; (try clear hb); (try clear hb2); (try clear hk); (try clear hi)))
                                                go_ret
                                                exact ⟨by first | rfl | (simp [errW_none, errW_some] <;> rfl) | (simp [*, errW_none, errW_some] <;> rfl), by repeat (first | (with_reducible first | exact HB.out | apply below_alloc | apply pw_below_drewN | apply below_drew1) | exact HB.out)⟩
                                  · rw [if_neg c37] at H
                                    exact absurd H (by simp)
                                · rw [if_neg c36] at H
                                  exact absurd H (by simp)
                              · rw [if_neg c35] at H
                                have c35b0 : (t235 == 0) = false := beq_eq_false_iff_ne.mpr c35
                                have c35b1 : (t235 != 0) = true := bne_iff_ne.mpr c35
                                replace H := Option.bind_eq_some_iff.mp H
                                obtain ⟨t275, A560, H⟩ := H
                                replace H : (some t275) = some r := H
                                have A56 := Aside0.mk A560
                                clear A560
                                obtain rfl := Option.some.inj H
                                go_wp2_with (first | ((with_reducible refine gate_callee (f := 10) rfl ?_); refine goesL_ (some 132) rfl rfl Try.func10 (by kernel_rfl) rfl #[] rfl (by (try simp only [List.map_toArray, List.map_cons, List.map_nil]); first | done | rfl | (simp only [List.length_drop, List.length_take]; rfl)) ?_; (with_reducible refine (pairinglaw8_awake.calls k4  t275 _ A56.out).mono ?_); rintro e w57 ⟨rfl, hb⟩; refine ⟨_, rfl, ?_⟩; have n0_ := Aside0.mk (Kd.R_below (by (with_reducible repeat (first | apply Kd.R_alloc | apply Kd.R_drewN | apply Kd.R_drew)); exact HO_7.out) hb); have n1_ := Aside0.mk (Kd.R_below (by (with_reducible repeat (first | apply Kd.R_alloc | apply Kd.R_drewN | apply Kd.R_drew)); exact HO_9.out) hb); have n2_ := Aside0.mk (below_step (by repeat (first | (with_reducible first | exact HB.out | apply below_alloc | apply pw_below_drewN | apply below_drew1) | exact HB.out)) hb); clear HO_7; clear HO_9; clear HB; have HO_7 := n0_; have HO_9 := n1_; have HB := n2_; clear n0_ n1_ n2_; (try clear hb); (try clear hb2); (try clear hk); (try clear hi)))
                                go_ret
                                exact ⟨by first | rfl | (simp [errW_none, errW_some] <;> rfl) | (simp [*, errW_none, errW_some] <;> rfl), by repeat (first | (with_reducible first | exact HB.out | apply below_alloc | apply pw_below_drewN | apply below_drew1) | exact HB.out)⟩
                · rw [if_neg c18] at H
                  exact absurd H (by simp)
              · rw [if_neg c17] at H
                exact absurd H (by simp)

/-- THE ONE PURE STATEMENT of pairinglaw8_WireBack: yours. -/
def pairinglaw8_WireBack.Pure : Prop := ∀ (a0 : Int) (a1 : ByteArray) (l2 : List Int), (Lit.int .i64 a0).wf = true → a1.size ≤ 140737488351232 → l2.length ≤ maxLen → l2.length * 1 ≤ 140737488351232 → (∀ x ∈ l2, (Lit.int .u8 x).wf = true) → ∃ k, pairinglaw8_WireBack.f k a0 a1 l2 = some true
theorem pairinglaw8_WireBack.walk (P : pairinglaw8_WireBack.Pure) (a0 : Int) (a1 : ByteArray) (a2 : Option Addr) (len2 cap2 : Nat) (z2 : List Int) (w : World) (w0 : (Lit.int .i64 a0).wf = true) (w1 : a1.size ≤ 140737488351232) (w2 : (a2 = none ∧ len2 = 0 ∧ cap2 = 0 ∧ z2 = []) ∨ ∃ x, a2 = some x ∧ len2 ≤ cap2 ∧ cap2 ≤ maxLen ∧ z2.length = cap2 ∧ (∀ i, i < z2.length → w.cell? (x.add i) = some (.int .u8 (z2.getD i 0))) ∧ ∀ n ∈ z2, (Lit.int .u8 n).wf = true) (y2 : len2 * 1 ≤ 140737488351232) :
    Calls Try.prog 7 #[.int .i64 a0, .string a1, .slice a2 len2 cap2] w fun e w' => e = .returned (.bool true) ∧ Below w.heap.size w w' := by
  obtain ⟨l2, rfl, hr2, hm2, hw2, hc2⟩ := ReadsInt.ofRowC w2
  obtain ⟨k, h⟩ := P a0 a1 l2 w0 w1 hm2 y2 hw2
  refine (pairinglaw8_WireBack.calls k a0 a1 _ _ l2 true w (Kd.C_of_reads (d := (0 : Int)) (h1 := fun _ => rfl) hr2) hc2 h).mono ?_
  rintro e w' ⟨rfl, hd⟩
  exact ⟨rfl, hd⟩

end Go.Proofs.Ytecomiapfaikbaa.Q
