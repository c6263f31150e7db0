-- own text (xprint): Q, functions of the program; Lean checks it.
import Derived.Test.YtecomiapfaikbaaQ0
import Derived.Test.YtecomiapfaikbaaQ1
import Derived.Test.YtecomiapfaikbaaQ2
namespace Go.Proofs.Ytecomiapfaikbaa.Q
open Go.Proofs.Ytecomiapfaikbaa.H
open Go.RowKit Go.Proofs.YtecomiapfaikbaaW.PrintWords Go.Proofs.YtecomiapfaikbaaW.PrintLast Go.Proofs.YtecomiapfaikbaaW.PrintMore
attribute [local go_sem] max2_int min2_int max_two min_two max_three min_three max_four min_four   -- for this text's walks alone
set_option linter.unusedVariables false
set_option linter.unusedSimpArgs false

/-! ### pairingref8_DecodeInt: function 23 -/
def pairingref8_DecodeInt.f (l0 : List Int) : Option (Int × Int × Int) := (pairingref8_DecodeUint.f l0).bind fun bt202 => (if bt202.2.2 = 0 then (if (Int.tmod bt202.1 2) = 1 then (if (wrap64 ((wrap64 (-(wrap64 (Int.tdiv bt202.1 2)))) - 1)) < (-2305843009213693952) then (some (0, 0, 2)) else (if (wrap64 ((wrap64 (-(wrap64 (Int.tdiv bt202.1 2)))) - 1)) > 2305843009213693952 then (some (0, 0, 2)) else (some (wrap64 ((wrap64 (-(wrap64 (Int.tdiv bt202.1 2)))) - 1), bt202.2.1, 0)))) else (if (wrap64 (Int.tdiv bt202.1 2)) < (-2305843009213693952) then (some (0, 0, 2)) else (if (wrap64 (Int.tdiv bt202.1 2)) > 2305843009213693952 then (some (0, 0, 2)) else (some (wrap64 (Int.tdiv bt202.1 2), bt202.2.1, 0))))) else (some (0, 0, bt202.2.2)))
set_option maxHeartbeats 8000000 in
set_option maxRecDepth 100000 in
theorem pairingref8_DecodeInt.calls (A0 : Option Addr) (c0 : Nat) (l0 : List Int) (r1 : Int) (r2 : Int) (r3 : Int) (w : World) (hr0 : Kd.C (Kd.int .u8) w A0 l0.length l0) (hc0 : l0.length ≤ c0) (h : pairingref8_DecodeInt.f l0 = some (r1, r2, r3)) :
    Calls Try.prog 23 #[.slice A0 l0.length c0] w fun e w' => e = .returned (.tuple #[.int .i64 r1, .int .i64 r2, .int .i64 r3]) ∧ Drawn0 w w' := by
  have HR0 := Aside0.mk hr0
  have HC0 := Aside0.mk hc0
  clear hr0 hc0
  have H : ((pairingref8_DecodeUint.f l0).bind fun bt202 => (if bt202.2.2 = 0 then (if (Int.tmod bt202.1 2) = 1 then (if (wrap64 ((wrap64 (-(wrap64 (Int.tdiv bt202.1 2)))) - 1)) < (-2305843009213693952) then (some (0, 0, 2)) else (if (wrap64 ((wrap64 (-(wrap64 (Int.tdiv bt202.1 2)))) - 1)) > 2305843009213693952 then (some (0, 0, 2)) else (some (wrap64 ((wrap64 (-(wrap64 (Int.tdiv bt202.1 2)))) - 1), bt202.2.1, 0)))) else (if (wrap64 (Int.tdiv bt202.1 2)) < (-2305843009213693952) then (some (0, 0, 2)) else (if (wrap64 (Int.tdiv bt202.1 2)) > 2305843009213693952 then (some (0, 0, 2)) else (some (wrap64 (Int.tdiv bt202.1 2), bt202.2.1, 0))))) else (some (0, 0, bt202.2.2)))) = some (r1, r2, r3) := h
  clear h
  replace H := Option.bind_eq_some_iff.mp H
  obtain ⟨⟨t202, t203, t204⟩, A20, H⟩ := H
  replace H : (if t204 = 0 then (if (Int.tmod t202 2) = 1 then (if (wrap64 ((wrap64 (-(wrap64 (Int.tdiv t202 2)))) - 1)) < (-2305843009213693952) then (some (0, 0, 2)) else (if (wrap64 ((wrap64 (-(wrap64 (Int.tdiv t202 2)))) - 1)) > 2305843009213693952 then (some (0, 0, 2)) else (some (wrap64 ((wrap64 (-(wrap64 (Int.tdiv t202 2)))) - 1), t203, 0)))) else (if (wrap64 (Int.tdiv t202 2)) < (-2305843009213693952) then (some (0, 0, 2)) else (if (wrap64 (Int.tdiv t202 2)) > 2305843009213693952 then (some (0, 0, 2)) else (some (wrap64 (Int.tdiv t202 2), t203, 0))))) else (some (0, 0, t204))) = some (r1, r2, r3) := H
  have A2 := Aside0.mk A20
  clear A20
  by_cases c3 : t204 = 0
  · rw [if_pos c3] at H
    have c3b0 : (t204 == 0) = true := beq_iff_eq.mpr c3
    have c3b1 : (t204 != 0) = false := bne_eq_false_iff_eq.mpr c3
    clear c3
    by_cases c4 : (Int.tmod t202 2) = 1
    · rw [if_pos c4] at H
      have c4b0 : ((Int.tmod t202 2) == 1) = true := beq_iff_eq.mpr c4
      have c4b1 : ((Int.tmod t202 2) != 1) = false := bne_eq_false_iff_eq.mpr c4
      clear c4
      by_cases c5 : (wrap64 ((wrap64 (-(wrap64 (Int.tdiv t202 2)))) - 1)) < (-2305843009213693952)
      · rw [if_pos c5] at H
        have c5b0 : decide ((wrap64 ((wrap64 (-(wrap64 (Int.tdiv t202 2)))) - 1)) < (-2305843009213693952)) = true := decide_eq_true c5
        clear c5
        simp only [Option.some.injEq, Prod.mk.injEq] at H
        obtain ⟨rfl, rfl, rfl⟩ := H
        go_enter Try.func23, Try.ntmps23
        go_wp2_with (first | ((with_reducible refine gate_callee (f := 21) rfl ?_); refine goesL_ (some 11) rfl rfl Try.func21 (by kernel_rfl) rfl #[.slice A0 l0.length c0] rfl (by (try simp only [List.map_toArray, List.map_cons, List.map_nil]); first | done | rfl | (simp only [List.length_drop, List.length_take]; rfl)) ?_; (with_reducible refine (pairingref8_DecodeUint.calls _ _ l0 t202 t203 t204 _ ?side1 ?side2 A2.out).mono ?_); (case side1 => repeat (first | exact HR0.out | (with_reducible refine Kd.C_alloc ?_ _) | (with_reducible refine Kd.C_drewN ?_ _) | (with_reducible refine Kd.C_drew ?_))); (case side2 => exact HC0.out); rintro e w' ⟨rfl, ⟨nd, rfl⟩⟩; refine ⟨_, rfl, ?_⟩))
        go_ret3
        exact ⟨by first | rfl | (simp; done) | (simp [*]; done), by repeat (first | exact Drawn0.refl _ | apply Drawn0.step)⟩
      · rw [if_neg c5] at H
        have c5b0 : decide ((wrap64 ((wrap64 (-(wrap64 (Int.tdiv t202 2)))) - 1)) < (-2305843009213693952)) = false := decide_eq_false c5
        clear c5
        by_cases c6 : (wrap64 ((wrap64 (-(wrap64 (Int.tdiv t202 2)))) - 1)) > 2305843009213693952
        · rw [if_pos c6] at H
          have c6b0 : decide (2305843009213693952 < (wrap64 ((wrap64 (-(wrap64 (Int.tdiv t202 2)))) - 1))) = true := decide_eq_true c6
          clear c6
          simp only [Option.some.injEq, Prod.mk.injEq] at H
          obtain ⟨rfl, rfl, rfl⟩ := H
          go_enter Try.func23, Try.ntmps23
          go_wp2_with (first | ((with_reducible refine gate_callee (f := 21) rfl ?_); refine goesL_ (some 11) rfl rfl Try.func21 (by kernel_rfl) rfl #[.slice A0 l0.length c0] rfl (by (try simp only [List.map_toArray, List.map_cons, List.map_nil]); first | done | rfl | (simp only [List.length_drop, List.length_take]; rfl)) ?_; (with_reducible refine (pairingref8_DecodeUint.calls _ _ l0 t202 t203 t204 _ ?side1 ?side2 A2.out).mono ?_); (case side1 => repeat (first | exact HR0.out | (with_reducible refine Kd.C_alloc ?_ _) | (with_reducible refine Kd.C_drewN ?_ _) | (with_reducible refine Kd.C_drew ?_))); (case side2 => exact HC0.out); rintro e w' ⟨rfl, ⟨nd, rfl⟩⟩; refine ⟨_, rfl, ?_⟩))
          go_ret3
          exact ⟨by first | rfl | (simp; done) | (simp [*]; done), by repeat (first | exact Drawn0.refl _ | apply Drawn0.step)⟩
        · rw [if_neg c6] at H
          have c6b0 : decide (2305843009213693952 < (wrap64 ((wrap64 (-(wrap64 (Int.tdiv t202 2)))) - 1))) = false := decide_eq_false c6
          clear c6
          simp only [Option.some.injEq, Prod.mk.injEq] at H
          obtain ⟨rfl, rfl, rfl⟩ := H
          go_enter Try.func23, Try.ntmps23
          go_wp2_with (first | ((with_reducible refine gate_callee (f := 21) rfl ?_); refine goesL_ (some 11) rfl rfl Try.func21 (by kernel_rfl) rfl #[.slice A0 l0.length c0] rfl (by (try simp only [List.map_toArray, List.map_cons, List.map_nil]); first | done | rfl | (simp only [List.length_drop, List.length_take]; rfl)) ?_; (with_reducible refine (pairingref8_DecodeUint.calls _ _ l0 t202 t203 t204 _ ?side1 ?side2 A2.out).mono ?_); (case side1 => repeat (first | exact HR0.out | (with_reducible refine Kd.C_alloc ?_ _) | (with_reducible refine Kd.C_drewN ?_ _) | (with_reducible refine Kd.C_drew ?_))); (case side2 => exact HC0.out); rintro e w' ⟨rfl, ⟨nd, rfl⟩⟩; refine ⟨_, rfl, ?_⟩))
          go_ret3
          exact ⟨by first | rfl | (simp; done) | (simp [*]; done), by repeat (first | exact Drawn0.refl _ | apply Drawn0.step)⟩
    · rw [if_neg c4] at H
      have c4b0 : ((Int.tmod t202 2) == 1) = false := beq_eq_false_iff_ne.mpr c4
      have c4b1 : ((Int.tmod t202 2) != 1) = true := bne_iff_ne.mpr c4
      by_cases c7 : (wrap64 (Int.tdiv t202 2)) < (-2305843009213693952)
      · rw [if_pos c7] at H
        have c7b0 : decide ((wrap64 (Int.tdiv t202 2)) < (-2305843009213693952)) = true := decide_eq_true c7
        clear c7
        simp only [Option.some.injEq, Prod.mk.injEq] at H
        obtain ⟨rfl, rfl, rfl⟩ := H
        go_enter Try.func23, Try.ntmps23
        go_wp2_with (first | ((with_reducible refine gate_callee (f := 21) rfl ?_); refine goesL_ (some 11) rfl rfl Try.func21 (by kernel_rfl) rfl #[.slice A0 l0.length c0] rfl (by (try simp only [List.map_toArray, List.map_cons, List.map_nil]); first | done | rfl | (simp only [List.length_drop, List.length_take]; rfl)) ?_; (with_reducible refine (pairingref8_DecodeUint.calls _ _ l0 t202 t203 t204 _ ?side1 ?side2 A2.out).mono ?_); (case side1 => repeat (first | exact HR0.out | (with_reducible refine Kd.C_alloc ?_ _) | (with_reducible refine Kd.C_drewN ?_ _) | (with_reducible refine Kd.C_drew ?_))); (case side2 => exact HC0.out); rintro e w' ⟨rfl, ⟨nd, rfl⟩⟩; refine ⟨_, rfl, ?_⟩))
        go_ret3
        exact ⟨by first | rfl | (simp; done) | (simp [*]; done), by repeat (first | exact Drawn0.refl _ | apply Drawn0.step)⟩
      · rw [if_neg c7] at H
        have c7b0 : decide ((wrap64 (Int.tdiv t202 2)) < (-2305843009213693952)) = false := decide_eq_false c7
        clear c7
        by_cases c8 : (wrap64 (Int.tdiv t202 2)) > 2305843009213693952
        · rw [if_pos c8] at H
          have c8b0 : decide (2305843009213693952 < (wrap64 (Int.tdiv t202 2))) = true := decide_eq_true c8
          clear c8
          simp only [Option.some.injEq, Prod.mk.injEq] at H
          obtain ⟨rfl, rfl, rfl⟩ := H
          go_enter Try.func23, Try.ntmps23
          go_wp2_with (first | ((with_reducible refine gate_callee (f := 21) rfl ?_); refine goesL_ (some 11) rfl rfl Try.func21 (by kernel_rfl) rfl #[.slice A0 l0.length c0] rfl (by (try simp only [List.map_toArray, List.map_cons, List.map_nil]); first | done | rfl | (simp only [List.length_drop, List.length_take]; rfl)) ?_; (with_reducible refine (pairingref8_DecodeUint.calls _ _ l0 t202 t203 t204 _ ?side1 ?side2 A2.out).mono ?_); (case side1 => repeat (first | exact HR0.out | (with_reducible refine Kd.C_alloc ?_ _) | (with_reducible refine Kd.C_drewN ?_ _) | (with_reducible refine Kd.C_drew ?_))); (case side2 => exact HC0.out); rintro e w' ⟨rfl, ⟨nd, rfl⟩⟩; refine ⟨_, rfl, ?_⟩))
          go_ret3
          exact ⟨by first | rfl | (simp; done) | (simp [*]; done), by repeat (first | exact Drawn0.refl _ | apply Drawn0.step)⟩
        · rw [if_neg c8] at H
          have c8b0 : decide (2305843009213693952 < (wrap64 (Int.tdiv t202 2))) = false := decide_eq_false c8
          clear c8
          simp only [Option.some.injEq, Prod.mk.injEq] at H
          obtain ⟨rfl, rfl, rfl⟩ := H
          go_enter Try.func23, Try.ntmps23
          go_wp2_with (first | ((with_reducible refine gate_callee (f := 21) rfl ?_); refine goesL_ (some 11) rfl rfl Try.func21 (by kernel_rfl) rfl #[.slice A0 l0.length c0] rfl (by (try simp only [List.map_toArray, List.map_cons, List.map_nil]); first | done | rfl | (simp only [List.length_drop, List.length_take]; rfl)) ?_; (with_reducible refine (pairingref8_DecodeUint.calls _ _ l0 t202 t203 t204 _ ?side1 ?side2 A2.out).mono ?_); (case side1 => repeat (first | exact HR0.out | (with_reducible refine Kd.C_alloc ?_ _) | (with_reducible refine Kd.C_drewN ?_ _) | (with_reducible refine Kd.C_drew ?_))); (case side2 => exact HC0.out); rintro e w' ⟨rfl, ⟨nd, rfl⟩⟩; refine ⟨_, rfl, ?_⟩))
          go_ret3
          exact ⟨by first | rfl | (simp; done) | (simp [*]; done), by repeat (first | exact Drawn0.refl _ | apply Drawn0.step)⟩
  · rw [if_neg c3] at H
    have c3b0 : (t204 == 0) = false := beq_eq_false_iff_ne.mpr c3
    have c3b1 : (t204 != 0) = true := bne_iff_ne.mpr c3
    simp only [Option.some.injEq, Prod.mk.injEq] at H
    obtain ⟨rfl, rfl, rfl⟩ := H
    go_enter Try.func23, Try.ntmps23
    go_wp2_with (first | ((with_reducible refine gate_callee (f := 21) rfl ?_); refine goesL_ (some 11) rfl rfl Try.func21 (by kernel_rfl) rfl #[.slice A0 l0.length c0] rfl (by (try simp only [List.map_toArray, List.map_cons, List.map_nil]); first | done | rfl | (simp only [List.length_drop, List.length_take]; rfl)) ?_; (with_reducible refine (pairingref8_DecodeUint.calls _ _ l0 t202 t203 t204 _ ?side1 ?side2 A2.out).mono ?_); (case side1 => repeat (first | exact HR0.out | (with_reducible refine Kd.C_alloc ?_ _) | (with_reducible refine Kd.C_drewN ?_ _) | (with_reducible refine Kd.C_drew ?_))); (case side2 => exact HC0.out); rintro e w' ⟨rfl, ⟨nd, rfl⟩⟩; refine ⟨_, rfl, ?_⟩))
    go_ret3
    exact ⟨by first | rfl | (simp; done) | (simp [*]; done), by repeat (first | exact Drawn0.refl _ | apply Drawn0.step)⟩

/-! ### wire_DecodeText: function 24 -/
def wire_DecodeText.f (l0 : List Int) : Option (ByteArray × Int × Int) := (wire_DecodeUint.f l0).bind fun bt205 => (if bt205.2.2 = 0 then (if bt205.1 > 20000 then (some ((⟨#[]⟩ : ByteArray), 0, 2)) else (if bt205.1 > (wrap64 ((l0.length : Int) - bt205.2.1)) then (some ((⟨#[]⟩ : ByteArray), 0, 3)) else (if 0 ≤ bt205.2.1 then (if bt205.2.1 ≤ (wrap64 (bt205.2.1 + bt205.1)) then (if (wrap64 (bt205.2.1 + bt205.1)) ≤ (l0.length : Int) then (some (strOfNums ((l0.take ((wrap64 (bt205.2.1 + bt205.1)) : Int).toNat).drop (bt205.2.1 : Int).toNat), wrap64 (bt205.2.1 + bt205.1), 0)) else (none)) else (none)) else (none)))) else (some ((⟨#[]⟩ : ByteArray), 0, bt205.2.2)))
set_option maxHeartbeats 8000000 in
set_option maxRecDepth 100000 in
theorem wire_DecodeText.calls (A0 : Option Addr) (c0 : Nat) (l0 : List Int) (r1 : ByteArray) (r2 : Int) (r3 : Int) (w : World) (hr0 : Kd.C (Kd.int .u8) w A0 l0.length l0) (hc0 : l0.length ≤ c0) (h : wire_DecodeText.f l0 = some (r1, r2, r3)) :
    Calls Try.prog 24 #[.slice A0 l0.length c0] w fun e w' => e = .returned (.tuple #[.string r1, .int .i64 r2, .int .i64 r3]) ∧ Drawn0 w w' := by
  have HR0 := Aside0.mk hr0
  have HC0 := Aside0.mk hc0
  unfold wire_DecodeText.f at h
  obtain ⟨⟨n1, k1, e⟩, h1, h2⟩ := Option.bind_eq_some_iff.mp h
  replace h2 : (if e = 0 then (if n1 > 20000 then (some ((⟨#[]⟩ : ByteArray), (0 : Int), (2 : Int))) else (if n1 > (wrap64 ((l0.length : Int) - k1)) then (some ((⟨#[]⟩ : ByteArray), 0, 3)) else (if 0 ≤ k1 then (if k1 ≤ (wrap64 (k1 + n1)) then (if (wrap64 (k1 + n1)) ≤ (l0.length : Int) then (some (strOfNums ((l0.take ((wrap64 (k1 + n1)) : Int).toNat).drop (k1 : Int).toNat), wrap64 (k1 + n1), 0)) else (none)) else (none)) else (none)))) else (some ((⟨#[]⟩ : ByteArray), 0, e))) = some (r1, r2, r3) := h2
  have A1 := Aside0.mk h1
  clear h h1
  obtain ⟨T, hT⟩ : ∃ T, wrap64 (k1 + n1) = T := ⟨_, rfl⟩
  obtain ⟨S, hS⟩ : ∃ S, wrap64 ((l0.length : Int) - k1) = S := ⟨_, rfl⟩
  rw [hT, hS] at h2
  by_cases c1 : e = 0
  · rw [if_pos c1] at h2
    have c1b : (e == 0) = true := beq_iff_eq.mpr c1
    have c1c : (e != 0) = false := bne_eq_false_iff_eq.mpr c1
    clear c1
    by_cases c2 : n1 > 20000
    · rw [if_pos c2] at h2
      have c2b : decide (20000 < n1) = true := decide_eq_true c2
      simp only [Option.some.injEq, Prod.mk.injEq] at h2
      obtain ⟨rfl, rfl, rfl⟩ := h2
      clear hr0 hc0 c2
      go_enter Try.func24, Try.ntmps24
      go_wp2_with fail
      refine (wire_DecodeUint.calls _ _ l0 n1 k1 e _ HR0.out HC0.out A1.out).mono ?_
      rintro e_ w1 ⟨rfl, ⟨nd, rfl⟩⟩
      go_wp2
      go_ret3
      exact ⟨rfl, by repeat (first | exact Drawn0.refl _ | apply Drawn0.step)⟩
    · rw [if_neg c2] at h2
      have c2b : decide (20000 < n1) = false := decide_eq_false c2
      clear c2
      by_cases c3 : n1 > S
      · rw [if_pos c3] at h2
        have c3b : decide (S < n1) = true := decide_eq_true c3
        simp only [Option.some.injEq, Prod.mk.injEq] at h2
        obtain ⟨rfl, rfl, rfl⟩ := h2
        clear hr0 hc0 c3
        go_enter Try.func24, Try.ntmps24
        go_wp2_with fail
        refine (wire_DecodeUint.calls _ _ l0 n1 k1 e _ HR0.out HC0.out A1.out).mono ?_
        rintro e_ w1 ⟨rfl, ⟨nd, rfl⟩⟩
        go_wp2
        go_ret3
        exact ⟨rfl, by repeat (first | exact Drawn0.refl _ | apply Drawn0.step)⟩
      · rw [if_neg c3] at h2
        have c3b : decide (S < n1) = false := decide_eq_false c3
        clear c3
        by_cases c4 : 0 ≤ k1
        · rw [if_pos c4] at h2
          by_cases c5 : k1 ≤ T
          · rw [if_pos c5] at h2
            by_cases c6 : T ≤ (l0.length : Int)
            · rw [if_pos c6] at h2
              simp only [Option.some.injEq, Prod.mk.injEq] at h2
              obtain ⟨rfl, rfl, rfl⟩ := h2
              obtain ⟨i0, hi, _, hs, _⟩ := info_parts infoB
              obtain ⟨A9, hcut, hA, hC⟩ := print_mid_of (P := Try.prog) (Value.int .u8) 0 23 5 .i64 .i64 Try.underlying23 hi hs A0 c0 l0 k1 T c4 c5 c6 hc0
              have HR := Kd.C_of_reads (h1 := fun _ => rfl) (hA _ (Kd.reads_of_C hr0))
              have hcv := fun (nq : Nat) => Kd.C_string (P := Try.prog) (A := A9) (c := (c0 - k1.toNat)) Try.underlying23 Try.underlying5 Try.underlying9 (Kd.C_drewN HR nq)
              obtain ⟨L, hL⟩ : ∃ L, ((l0.take T.toNat).drop k1.toNat).length = L := ⟨_, rfl⟩
              obtain ⟨X, hX⟩ : ∃ X, strOfNums ((l0.take T.toNat).drop k1.toNat) = X := ⟨_, rfl⟩
              rw [hL] at hcut
              rw [hL, hX] at hcv
              rw [hX]
              clear hr0 hc0 hA hC hi hs HR hL hX c4 c5 c6
              go_enter Try.func24, Try.ntmps24
              go_wp2_with fail
              refine (wire_DecodeUint.calls _ _ l0 n1 k1 e _ HR0.out HC0.out A1.out).mono ?_
              rintro e_ w1 ⟨rfl, ⟨nd, rfl⟩⟩
              go_wp2
              go_ret3
              exact ⟨by first | rfl | (rw [← hT]; rfl), by repeat (first | exact Drawn0.refl _ | apply Drawn0.step)⟩
            · rw [if_neg c6] at h2; exact absurd h2 (by simp)
          · rw [if_neg c5] at h2; exact absurd h2 (by simp)
        · rw [if_neg c4] at h2; exact absurd h2 (by simp)
  · rw [if_neg c1] at h2
    have c1b : (e == 0) = false := beq_eq_false_iff_ne.mpr c1
    have c1c : (e != 0) = true := bne_iff_ne.mpr c1
    simp only [Option.some.injEq, Prod.mk.injEq] at h2
    obtain ⟨rfl, rfl, rfl⟩ := h2
    clear hr0 hc0 c1
    go_enter Try.func24, Try.ntmps24
    go_wp2_with fail
    refine (wire_DecodeUint.calls _ _ l0 n1 k1 e _ HR0.out HC0.out A1.out).mono ?_
    rintro e_ w1 ⟨rfl, ⟨nd, rfl⟩⟩
    go_wp2
    go_ret3
    exact ⟨rfl, by repeat (first | exact Drawn0.refl _ | apply Drawn0.step)⟩

/-! ### pairingref8_DecodeText: function 25 -/
def pairingref8_DecodeText.f (l0 : List Int) : Option (ByteArray × Int × Int) := (pairingref8_DecodeUint.f l0).bind fun bt209 => (if bt209.2.2 = 0 then (if bt209.1 > 20000 then (some ((⟨#[]⟩ : ByteArray), 0, 2)) else (if bt209.1 > (wrap64 ((l0.length : Int) - bt209.2.1)) then (some ((⟨#[]⟩ : ByteArray), 0, 3)) else (if 0 ≤ bt209.2.1 then (if bt209.2.1 ≤ (wrap64 (bt209.2.1 + bt209.1)) then (if (wrap64 (bt209.2.1 + bt209.1)) ≤ (l0.length : Int) then (some (strOfNums ((l0.take ((wrap64 (bt209.2.1 + bt209.1)) : Int).toNat).drop (bt209.2.1 : Int).toNat), wrap64 (bt209.2.1 + bt209.1), 0)) else (none)) else (none)) else (none)))) else (some ((⟨#[]⟩ : ByteArray), 0, bt209.2.2)))
set_option maxHeartbeats 8000000 in
set_option maxRecDepth 100000 in
theorem pairingref8_DecodeText.calls (A0 : Option Addr) (c0 : Nat) (l0 : List Int) (r1 : ByteArray) (r2 : Int) (r3 : Int) (w : World) (hr0 : Kd.C (Kd.int .u8) w A0 l0.length l0) (hc0 : l0.length ≤ c0) (h : pairingref8_DecodeText.f l0 = some (r1, r2, r3)) :
    Calls Try.prog 25 #[.slice A0 l0.length c0] w fun e w' => e = .returned (.tuple #[.string r1, .int .i64 r2, .int .i64 r3]) ∧ Drawn0 w w' := by
  have HR0 := Aside0.mk hr0
  have HC0 := Aside0.mk hc0
  unfold pairingref8_DecodeText.f at h
  obtain ⟨⟨n1, k1, e⟩, h1, h2⟩ := Option.bind_eq_some_iff.mp h
  replace h2 : (if e = 0 then (if n1 > 20000 then (some ((⟨#[]⟩ : ByteArray), (0 : Int), (2 : Int))) else (if n1 > (wrap64 ((l0.length : Int) - k1)) then (some ((⟨#[]⟩ : ByteArray), 0, 3)) else (if 0 ≤ k1 then (if k1 ≤ (wrap64 (k1 + n1)) then (if (wrap64 (k1 + n1)) ≤ (l0.length : Int) then (some (strOfNums ((l0.take ((wrap64 (k1 + n1)) : Int).toNat).drop (k1 : Int).toNat), wrap64 (k1 + n1), 0)) else (none)) else (none)) else (none)))) else (some ((⟨#[]⟩ : ByteArray), 0, e))) = some (r1, r2, r3) := h2
  have A1 := Aside0.mk h1
  clear h h1
  obtain ⟨T, hT⟩ : ∃ T, wrap64 (k1 + n1) = T := ⟨_, rfl⟩
  obtain ⟨S, hS⟩ : ∃ S, wrap64 ((l0.length : Int) - k1) = S := ⟨_, rfl⟩
  rw [hT, hS] at h2
  by_cases c1 : e = 0
  · rw [if_pos c1] at h2
    have c1b : (e == 0) = true := beq_iff_eq.mpr c1
    have c1c : (e != 0) = false := bne_eq_false_iff_eq.mpr c1
    clear c1
    by_cases c2 : n1 > 20000
    · rw [if_pos c2] at h2
      have c2b : decide (20000 < n1) = true := decide_eq_true c2
      simp only [Option.some.injEq, Prod.mk.injEq] at h2
      obtain ⟨rfl, rfl, rfl⟩ := h2
      clear hr0 hc0 c2
      go_enter Try.func25, Try.ntmps25
      go_wp2_with fail
      refine (pairingref8_DecodeUint.calls _ _ l0 n1 k1 e _ HR0.out HC0.out A1.out).mono ?_
      rintro e_ w1 ⟨rfl, ⟨nd, rfl⟩⟩
      go_wp2
      go_ret3
      exact ⟨rfl, by repeat (first | exact Drawn0.refl _ | apply Drawn0.step)⟩
    · rw [if_neg c2] at h2
      have c2b : decide (20000 < n1) = false := decide_eq_false c2
      clear c2
      by_cases c3 : n1 > S
      · rw [if_pos c3] at h2
        have c3b : decide (S < n1) = true := decide_eq_true c3
        simp only [Option.some.injEq, Prod.mk.injEq] at h2
        obtain ⟨rfl, rfl, rfl⟩ := h2
        clear hr0 hc0 c3
        go_enter Try.func25, Try.ntmps25
        go_wp2_with fail
        refine (pairingref8_DecodeUint.calls _ _ l0 n1 k1 e _ HR0.out HC0.out A1.out).mono ?_
        rintro e_ w1 ⟨rfl, ⟨nd, rfl⟩⟩
        go_wp2
        go_ret3
        exact ⟨rfl, by repeat (first | exact Drawn0.refl _ | apply Drawn0.step)⟩
      · rw [if_neg c3] at h2
        have c3b : decide (S < n1) = false := decide_eq_false c3
        clear c3
        by_cases c4 : 0 ≤ k1
        · rw [if_pos c4] at h2
          by_cases c5 : k1 ≤ T
          · rw [if_pos c5] at h2
            by_cases c6 : T ≤ (l0.length : Int)
            · rw [if_pos c6] at h2
              simp only [Option.some.injEq, Prod.mk.injEq] at h2
              obtain ⟨rfl, rfl, rfl⟩ := h2
              obtain ⟨i0, hi, _, hs, _⟩ := info_parts infoB
              obtain ⟨A9, hcut, hA, hC⟩ := print_mid_of (P := Try.prog) (Value.int .u8) 0 23 5 .i64 .i64 Try.underlying23 hi hs A0 c0 l0 k1 T c4 c5 c6 hc0
              have HR := Kd.C_of_reads (h1 := fun _ => rfl) (hA _ (Kd.reads_of_C hr0))
              have hcv := fun (nq : Nat) => Kd.C_string (P := Try.prog) (A := A9) (c := (c0 - k1.toNat)) Try.underlying23 Try.underlying5 Try.underlying9 (Kd.C_drewN HR nq)
              obtain ⟨L, hL⟩ : ∃ L, ((l0.take T.toNat).drop k1.toNat).length = L := ⟨_, rfl⟩
              obtain ⟨X, hX⟩ : ∃ X, strOfNums ((l0.take T.toNat).drop k1.toNat) = X := ⟨_, rfl⟩
              rw [hL] at hcut
              rw [hL, hX] at hcv
              rw [hX]
              clear hr0 hc0 hA hC hi hs HR hL hX c4 c5 c6
              go_enter Try.func25, Try.ntmps25
              go_wp2_with fail
              refine (pairingref8_DecodeUint.calls _ _ l0 n1 k1 e _ HR0.out HC0.out A1.out).mono ?_
              rintro e_ w1 ⟨rfl, ⟨nd, rfl⟩⟩
              go_wp2
              go_ret3
              exact ⟨by first | rfl | (rw [← hT]; rfl), by repeat (first | exact Drawn0.refl _ | apply Drawn0.step)⟩
            · rw [if_neg c6] at h2; exact absurd h2 (by simp)
          · rw [if_neg c5] at h2; exact absurd h2 (by simp)
        · rw [if_neg c4] at h2; exact absurd h2 (by simp)
  · rw [if_neg c1] at h2
    have c1b : (e == 0) = false := beq_eq_false_iff_ne.mpr c1
    have c1c : (e != 0) = true := bne_iff_ne.mpr c1
    simp only [Option.some.injEq, Prod.mk.injEq] at h2
    obtain ⟨rfl, rfl, rfl⟩ := h2
    clear hr0 hc0 c1
    go_enter Try.func25, Try.ntmps25
    go_wp2_with fail
    refine (pairingref8_DecodeUint.calls _ _ l0 n1 k1 e _ HR0.out HC0.out A1.out).mono ?_
    rintro e_ w1 ⟨rfl, ⟨nd, rfl⟩⟩
    go_wp2
    go_ret3
    exact ⟨rfl, by repeat (first | exact Drawn0.refl _ | apply Drawn0.step)⟩

/-! ### pairinglaw8_WireDecodes: function 6 -/
def pairinglaw8_WireDecodes.f (k : Nat) (l0 : List Int) : Option (Bool) := if (l0.length : Int) > 3000 then ((pairinglaw8_awake.f k).bind fun t213 => (some t213)) else ((wire_DecodeUint.f l0).bind fun bt214 => ((pairingref8_DecodeUint.f l0).bind fun bt217 => ((wire_DecodeInt.f l0).bind fun bt220 => ((pairingref8_DecodeInt.f l0).bind fun bt223 => ((wire_DecodeText.f l0).bind fun bt226 => ((pairingref8_DecodeText.f l0).bind fun bt229 => (if bt214.1 = bt217.1 then (if bt214.2.1 = bt217.2.1 then (if bt214.2.2 = bt217.2.2 then (if bt220.1 = bt223.1 then (if bt220.2.1 = bt223.2.1 then (if bt220.2.2 = bt223.2.2 then (if bt226.1.toList = bt229.1.toList then (if bt226.2.1 = bt229.2.1 then (if bt226.2.2 = bt229.2.2 then ((pairinglaw8_awake.f k).bind fun t232 => (some t232)) else (some false)) else (some false)) else (some false)) else (some false)) else (some false)) else (some false)) else (some false)) else (some false)) else (some false))))))))
theorem pairinglaw8_WireDecodes.mono : ∀ a0 k, LeO (pairinglaw8_WireDecodes.f k a0) (pairinglaw8_WireDecodes.f (k + 1) a0) := by
  intro a0 k
  unfold pairinglaw8_WireDecodes.f
  repeat' first
      | (with_reducible exact pairinglaw8_awake.mono _)
      | (with_reducible exact LeO.refl _)
      | (with_reducible exact LeO.none _)
      | (with_reducible refine LeO.ite ?_ ?_)
      | (with_reducible refine LeO.bind ?_ (fun _ => ?_))
      | exact pairinglaw8_awake.mono _
      | exact LeO.none _
      | refine LeO.ite ?_ ?_
      | refine LeO.bind ?_ (fun _ => ?_)
set_option maxHeartbeats 8000000 in
set_option maxRecDepth 100000 in
theorem pairinglaw8_WireDecodes.calls (k : Nat) (A0 : Option Addr) (c0 : Nat) (l0 : List Int) (r : Bool) (w : World) (hr0 : Kd.C (Kd.int .u8) w A0 l0.length l0) (hc0 : l0.length ≤ c0) (h : pairinglaw8_WireDecodes.f k l0 = some r) :
    Calls Try.prog 6 #[.slice A0 l0.length c0] w fun e w' => e = .returned (.bool r) ∧ Below w.heap.size w w' := by
  have HR0 := Aside0.mk hr0
  have HC0 := Aside0.mk hc0
  clear hr0 hc0
  have HB := Aside0.mk (Below.refl w.heap.size w)
  have H : (if (l0.length : Int) > 3000 then ((pairinglaw8_awake.f k).bind fun t213 => (some t213)) else ((wire_DecodeUint.f l0).bind fun bt214 => ((pairingref8_DecodeUint.f l0).bind fun bt217 => ((wire_DecodeInt.f l0).bind fun bt220 => ((pairingref8_DecodeInt.f l0).bind fun bt223 => ((wire_DecodeText.f l0).bind fun bt226 => ((pairingref8_DecodeText.f l0).bind fun bt229 => (if bt214.1 = bt217.1 then (if bt214.2.1 = bt217.2.1 then (if bt214.2.2 = bt217.2.2 then (if bt220.1 = bt223.1 then (if bt220.2.1 = bt223.2.1 then (if bt220.2.2 = bt223.2.2 then (if bt226.1.toList = bt229.1.toList then (if bt226.2.1 = bt229.2.1 then (if bt226.2.2 = bt229.2.2 then ((pairinglaw8_awake.f k).bind fun t232 => (some t232)) else (some false)) else (some false)) else (some false)) else (some false)) else (some false)) else (some false)) else (some false)) else (some false)) else (some false))))))))) = some r := h
  clear h
  by_cases c2 : (l0.length : Int) > 3000
  · rw [if_pos c2] at H
    have c2b0 : decide (3000 < (l0.length : Int)) = true := decide_eq_true c2
    have c2b1 : decide (3000 < l0.length) = true := decide_eq_true (by omega)
    clear c2
    replace H := Option.bind_eq_some_iff.mp H
    obtain ⟨t213, A30, H⟩ := H
    replace H : (some t213) = some r := H
    have A3 := Aside0.mk A30
    clear A30
    obtain rfl := Option.some.inj H
    go_enter Try.func6, Try.ntmps6
    go_wp2_with (first | ((with_reducible refine gate_callee (f := 10) rfl ?_); refine goesL_ (some 24) rfl rfl Try.func10 (by kernel_rfl) rfl #[] rfl (by (try simp only [List.map_toArray, List.map_cons, List.map_nil]); first | done | rfl | (simp only [List.length_drop, List.length_take]; rfl)) ?_; (with_reducible refine (pairinglaw8_awake.calls k  t213 _ A3.out).mono ?_); rintro e w4 ⟨rfl, hb⟩; refine ⟨_, rfl, ?_⟩; have n0_ := Aside0.mk (below_step (by repeat (first | (with_reducible first | exact HB.out | apply below_alloc | apply pw_below_drewN | apply below_drew1) | exact HB.out)) hb); clear HB; have HB := n0_; clear n0_; (try clear hb); (try clear hb2); (try clear hk); (try clear hi)))
    go_ret
    exact ⟨by first | rfl | (simp [errW_none, errW_some] <;> rfl) | (simp [*, errW_none, errW_some] <;> rfl), by repeat (first | (with_reducible first | exact HB.out | apply below_alloc | apply pw_below_drewN | apply below_drew1) | exact HB.out)⟩
  · rw [if_neg c2] at H
    have c2b0 : decide (3000 < (l0.length : Int)) = false := decide_eq_false c2
    have c2b1 : decide (3000 < l0.length) = false := decide_eq_false (by omega)
    clear c2
    replace H := Option.bind_eq_some_iff.mp H
    obtain ⟨⟨t214, t215, t216⟩, A50, H⟩ := H
    replace H : ((pairingref8_DecodeUint.f l0).bind fun bt217 => ((wire_DecodeInt.f l0).bind fun bt220 => ((pairingref8_DecodeInt.f l0).bind fun bt223 => ((wire_DecodeText.f l0).bind fun bt226 => ((pairingref8_DecodeText.f l0).bind fun bt229 => (if t214 = bt217.1 then (if t215 = bt217.2.1 then (if t216 = bt217.2.2 then (if bt220.1 = bt223.1 then (if bt220.2.1 = bt223.2.1 then (if bt220.2.2 = bt223.2.2 then (if bt226.1.toList = bt229.1.toList then (if bt226.2.1 = bt229.2.1 then (if bt226.2.2 = bt229.2.2 then ((pairinglaw8_awake.f k).bind fun t232 => (some t232)) else (some false)) else (some false)) else (some false)) else (some false)) else (some false)) else (some false)) else (some false)) else (some false)) else (some false))))))) = some r := H
    have A5 := Aside0.mk A50
    clear A50
    replace H := Option.bind_eq_some_iff.mp H
    obtain ⟨⟨t217, t218, t219⟩, A60, H⟩ := H
    replace H : ((wire_DecodeInt.f l0).bind fun bt220 => ((pairingref8_DecodeInt.f l0).bind fun bt223 => ((wire_DecodeText.f l0).bind fun bt226 => ((pairingref8_DecodeText.f l0).bind fun bt229 => (if t214 = t217 then (if t215 = t218 then (if t216 = t219 then (if bt220.1 = bt223.1 then (if bt220.2.1 = bt223.2.1 then (if bt220.2.2 = bt223.2.2 then (if bt226.1.toList = bt229.1.toList then (if bt226.2.1 = bt229.2.1 then (if bt226.2.2 = bt229.2.2 then ((pairinglaw8_awake.f k).bind fun t232 => (some t232)) else (some false)) else (some false)) else (some false)) else (some false)) else (some false)) else (some false)) else (some false)) else (some false)) else (some false)))))) = some r := H
    have A6 := Aside0.mk A60
    clear A60
    replace H := Option.bind_eq_some_iff.mp H
    obtain ⟨⟨t220, t221, t222⟩, A70, H⟩ := H
    replace H : ((pairingref8_DecodeInt.f l0).bind fun bt223 => ((wire_DecodeText.f l0).bind fun bt226 => ((pairingref8_DecodeText.f l0).bind fun bt229 => (if t214 = t217 then (if t215 = t218 then (if t216 = t219 then (if t220 = bt223.1 then (if t221 = bt223.2.1 then (if t222 = bt223.2.2 then (if bt226.1.toList = bt229.1.toList then (if bt226.2.1 = bt229.2.1 then (if bt226.2.2 = bt229.2.2 then ((pairinglaw8_awake.f k).bind fun t232 => (some t232)) else (some false)) else (some false)) else (some false)) else (some false)) else (some false)) else (some false)) else (some false)) else (some false)) else (some false))))) = some r := H
    have A7 := Aside0.mk A70
    clear A70
    replace H := Option.bind_eq_some_iff.mp H
    obtain ⟨⟨t223, t224, t225⟩, A80, H⟩ := H
    replace H : ((wire_DecodeText.f l0).bind fun bt226 => ((pairingref8_DecodeText.f l0).bind fun bt229 => (if t214 = t217 then (if t215 = t218 then (if t216 = t219 then (if t220 = t223 then (if t221 = t224 then (if t222 = t225 then (if bt226.1.toList = bt229.1.toList then (if bt226.2.1 = bt229.2.1 then (if bt226.2.2 = bt229.2.2 then ((pairinglaw8_awake.f k).bind fun t232 => (some t232)) else (some false)) else (some false)) else (some false)) else (some false)) else (some false)) else (some false)) else (some false)) else (some false)) else (some false)))) = some r := H
    have A8 := Aside0.mk A80
    clear A80
    replace H := Option.bind_eq_some_iff.mp H
    obtain ⟨⟨t226, t227, t228⟩, A90, H⟩ := H
    replace H : ((pairingref8_DecodeText.f l0).bind fun bt229 => (if t214 = t217 then (if t215 = t218 then (if t216 = t219 then (if t220 = t223 then (if t221 = t224 then (if t222 = t225 then (if t226.toList = bt229.1.toList then (if t227 = bt229.2.1 then (if t228 = bt229.2.2 then ((pairinglaw8_awake.f k).bind fun t232 => (some t232)) else (some false)) else (some false)) else (some false)) else (some false)) else (some false)) else (some false)) else (some false)) else (some false)) else (some false))) = some r := H
    have A9 := Aside0.mk A90
    clear A90
    replace H := Option.bind_eq_some_iff.mp H
    obtain ⟨⟨t229, t230, t231⟩, A100, H⟩ := H
    replace H : (if t214 = t217 then (if t215 = t218 then (if t216 = t219 then (if t220 = t223 then (if t221 = t224 then (if t222 = t225 then (if t226.toList = t229.toList then (if t227 = t230 then (if t228 = t231 then ((pairinglaw8_awake.f k).bind fun t232 => (some t232)) else (some false)) else (some false)) else (some false)) else (some false)) else (some false)) else (some false)) else (some false)) else (some false)) else (some false)) = some r := H
    have A10 := Aside0.mk A100
    clear A100
    by_cases c11 : t214 = t217
    · rw [if_pos c11] at H
      have c11b0 : (t214 == t217) = true := beq_iff_eq.mpr c11
      have c11b1 : (t214 != t217) = false := bne_eq_false_iff_eq.mpr c11
      clear c11
      by_cases c12 : t215 = t218
      · rw [if_pos c12] at H
        have c12b0 : (t215 == t218) = true := beq_iff_eq.mpr c12
        have c12b1 : (t215 != t218) = false := bne_eq_false_iff_eq.mpr c12
        clear c12
        by_cases c13 : t216 = t219
        · rw [if_pos c13] at H
          have c13b0 : (t216 == t219) = true := beq_iff_eq.mpr c13
          have c13b1 : (t216 != t219) = false := bne_eq_false_iff_eq.mpr c13
          clear c13
          by_cases c14 : t220 = t223
          · rw [if_pos c14] at H
            have c14b0 : (t220 == t223) = true := beq_iff_eq.mpr c14
            have c14b1 : (t220 != t223) = false := bne_eq_false_iff_eq.mpr c14
            clear c14
            by_cases c15 : t221 = t224
            · rw [if_pos c15] at H
              have c15b0 : (t221 == t224) = true := beq_iff_eq.mpr c15
              have c15b1 : (t221 != t224) = false := bne_eq_false_iff_eq.mpr c15
              clear c15
              by_cases c16 : t222 = t225
              · rw [if_pos c16] at H
                have c16b0 : (t222 == t225) = true := beq_iff_eq.mpr c16
                have c16b1 : (t222 != t225) = false := bne_eq_false_iff_eq.mpr c16
                clear c16
                by_cases c17 : t226.toList = t229.toList
                · rw [if_pos c17] at H
                  have c17b0 : (t226.toList == t229.toList) = true := beq_iff_eq.mpr c17
                  have c17b1 : (t226.toList != t229.toList) = false := bne_eq_false_iff_eq.mpr c17
                  clear c17
                  by_cases c18 : t227 = t230
                  · rw [if_pos c18] at H
                    have c18b0 : (t227 == t230) = true := beq_iff_eq.mpr c18
                    have c18b1 : (t227 != t230) = false := bne_eq_false_iff_eq.mpr c18
                    clear c18
                    by_cases c19 : t228 = t231
                    · rw [if_pos c19] at H
                      have c19b0 : (t228 == t231) = true := beq_iff_eq.mpr c19
                      have c19b1 : (t228 != t231) = false := bne_eq_false_iff_eq.mpr c19
                      clear c19
                      replace H := Option.bind_eq_some_iff.mp H
                      obtain ⟨t232, A200, H⟩ := H
                      replace H : (some t232) = some r := H
                      have A20 := Aside0.mk A200
                      clear A200
                      obtain rfl := Option.some.inj H
                      go_enter Try.func6, Try.ntmps6
                      go_wp2_with (first | ((with_reducible refine gate_callee (f := 20) rfl ?_); refine goesL_ (some 27) rfl rfl Try.func20 (by kernel_rfl) rfl #[.slice A0 l0.length c0] rfl (by (try simp only [List.map_toArray, List.map_cons, List.map_nil]); first | done | rfl | (simp only [List.length_drop, List.length_take]; rfl)) ?_; (with_reducible refine (wire_DecodeUint.calls _ _ l0 t214 t215 t216 _ ?side1 ?side2 A5.out).mono ?_); (case side1 => repeat (first | exact HR0.out | (with_reducible refine Kd.C_alloc ?_ _) | (with_reducible refine Kd.C_drewN ?_ _) | (with_reducible refine Kd.C_drew ?_))); (case side2 => exact HC0.out); rintro e w' ⟨rfl, ⟨nd, rfl⟩⟩; refine ⟨_, rfl, ?_⟩) | ((with_reducible refine gate_callee (f := 21) rfl ?_); refine goesL_ (some 33) rfl rfl Try.func21 (by kernel_rfl) rfl #[.slice A0 l0.length c0] rfl (by (try simp only [List.map_toArray, List.map_cons, List.map_nil]); first | done | rfl | (simp only [List.length_drop, List.length_take]; rfl)) ?_; (with_reducible refine (pairingref8_DecodeUint.calls _ _ l0 t217 t218 t219 _ ?side1 ?side2 A6.out).mono ?_); (case side1 => repeat (first | exact HR0.out | (with_reducible refine Kd.C_alloc ?_ _) | (with_reducible refine Kd.C_drewN ?_ _) | (with_reducible refine Kd.C_drew ?_))); (case side2 => exact HC0.out); rintro e w' ⟨rfl, ⟨nd, rfl⟩⟩; refine ⟨_, rfl, ?_⟩) | ((with_reducible refine gate_callee (f := 22) rfl ?_); refine goesL_ (some 39) rfl rfl Try.func22 (by kernel_rfl) rfl #[.slice A0 l0.length c0] rfl (by (try simp only [List.map_toArray, List.map_cons, List.map_nil]); first | done | rfl | (simp only [List.length_drop, List.length_take]; rfl)) ?_; (with_reducible refine (wire_DecodeInt.calls _ _ l0 t220 t221 t222 _ ?side1 ?side2 A7.out).mono ?_); (case side1 => repeat (first | exact HR0.out | (with_reducible refine Kd.C_alloc ?_ _) | (with_reducible refine Kd.C_drewN ?_ _) | (with_reducible refine Kd.C_drew ?_))); (case side2 => exact HC0.out); rintro e w' ⟨rfl, ⟨nd, rfl⟩⟩; refine ⟨_, rfl, ?_⟩) | ((with_reducible refine gate_callee (f := 23) rfl ?_); refine goesL_ (some 45) rfl rfl Try.func23 (by kernel_rfl) rfl #[.slice A0 l0.length c0] rfl (by (try simp only [List.map_toArray, List.map_cons, List.map_nil]); first | done | rfl | (simp only [List.length_drop, List.length_take]; rfl)) ?_; (with_reducible refine (pairingref8_DecodeInt.calls _ _ l0 t223 t224 t225 _ ?side1 ?side2 A8.out).mono ?_); (case side1 => repeat (first | exact HR0.out | (with_reducible refine Kd.C_alloc ?_ _) | (with_reducible refine Kd.C_drewN ?_ _) | (with_reducible refine Kd.C_drew ?_))); (case side2 => exact HC0.out); rintro e w' ⟨rfl, ⟨nd, rfl⟩⟩; refine ⟨_, rfl, ?_⟩) | ((with_reducible refine gate_callee (f := 24) rfl ?_); refine goesL_ (some 51) rfl rfl Try.func24 (by kernel_rfl) rfl #[.slice A0 l0.length c0] rfl (by (try simp only [List.map_toArray, List.map_cons, List.map_nil]); first | done | rfl | (simp only [List.length_drop, List.length_take]; rfl)) ?_; (with_reducible refine (wire_DecodeText.calls _ _ l0 t226 t227 t228 _ ?side1 ?side2 A9.out).mono ?_); (case side1 => repeat (first | exact HR0.out | (with_reducible refine Kd.C_alloc ?_ _) | (with_reducible refine Kd.C_drewN ?_ _) | (with_reducible refine Kd.C_drew ?_))); (case side2 => exact HC0.out); rintro e w' ⟨rfl, ⟨nd, rfl⟩⟩; refine ⟨_, rfl, ?_⟩) | ((with_reducible refine gate_callee (f := 25) rfl ?_); refine goesL_ (some 57) rfl rfl Try.func25 (by kernel_rfl) rfl #[.slice A0 l0.length c0] rfl (by (try simp only [List.map_toArray, List.map_cons, List.map_nil]); first | done | rfl | (simp only [List.length_drop, List.length_take]; rfl)) ?_; (with_reducible refine (pairingref8_DecodeText.calls _ _ l0 t229 t230 t231 _ ?side1 ?side2 A10.out).mono ?_); (case side1 => repeat (first | exact HR0.out | (with_reducible refine Kd.C_alloc ?_ _) | (with_reducible refine Kd.C_drewN ?_ _) | (with_reducible refine Kd.C_drew ?_))); (case side2 => exact HC0.out); rintro e w' ⟨rfl, ⟨nd, rfl⟩⟩; refine ⟨_, rfl, ?_⟩) | (go_at_call 10; (with_reducible refine (pairinglaw8_awake.calls k  t232 _ A20.out).mono ?_); rintro e w21 ⟨rfl, hb⟩; have n0_ := Aside0.mk (below_step (by repeat (first | (with_reducible first | exact HB.out | apply below_alloc | apply pw_below_drewN | apply below_drew1) | exact HB.out)) hb); clear HB; have HB := n0_; clear n0_; (try clear hb); (try clear hb2); (try clear hk); (try clear hi)))
                      go_ret
                      exact ⟨by first | rfl | (simp [errW_none, errW_some] <;> rfl) | (simp [*, errW_none, errW_some] <;> rfl), by repeat (first | (with_reducible first | exact HB.out | apply below_alloc | apply pw_below_drewN | apply below_drew1) | exact HB.out)⟩
                    · rw [if_neg c19] at H
                      have c19b0 : (t228 == t231) = false := beq_eq_false_iff_ne.mpr c19
                      have c19b1 : (t228 != t231) = true := bne_iff_ne.mpr c19
                      obtain rfl := Option.some.inj H
                      go_enter Try.func6, Try.ntmps6
                      go_wp2_with (first | ((with_reducible refine gate_callee (f := 20) rfl ?_); refine goesL_ (some 27) rfl rfl Try.func20 (by kernel_rfl) rfl #[.slice A0 l0.length c0] rfl (by (try simp only [List.map_toArray, List.map_cons, List.map_nil]); first | done | rfl | (simp only [List.length_drop, List.length_take]; rfl)) ?_; (with_reducible refine (wire_DecodeUint.calls _ _ l0 t214 t215 t216 _ ?side1 ?side2 A5.out).mono ?_); (case side1 => repeat (first | exact HR0.out | (with_reducible refine Kd.C_alloc ?_ _) | (with_reducible refine Kd.C_drewN ?_ _) | (with_reducible refine Kd.C_drew ?_))); (case side2 => exact HC0.out); rintro e w' ⟨rfl, ⟨nd, rfl⟩⟩; refine ⟨_, rfl, ?_⟩) | ((with_reducible refine gate_callee (f := 21) rfl ?_); refine goesL_ (some 33) rfl rfl Try.func21 (by kernel_rfl) rfl #[.slice A0 l0.length c0] rfl (by (try simp only [List.map_toArray, List.map_cons, List.map_nil]); first | done | rfl | (simp only [List.length_drop, List.length_take]; rfl)) ?_; (with_reducible refine (pairingref8_DecodeUint.calls _ _ l0 t217 t218 t219 _ ?side1 ?side2 A6.out).mono ?_); (case side1 => repeat (first | exact HR0.out | (with_reducible refine Kd.C_alloc ?_ _) | (with_reducible refine Kd.C_drewN ?_ _) | (with_reducible refine Kd.C_drew ?_))); (case side2 => exact HC0.out); rintro e w' ⟨rfl, ⟨nd, rfl⟩⟩; refine ⟨_, rfl, ?_⟩) | ((with_reducible refine gate_callee (f := 22) rfl ?_); refine goesL_ (some 39) rfl rfl Try.func22 (by kernel_rfl) rfl #[.slice A0 l0.length c0] rfl (by (try simp only [List.map_toArray, List.map_cons, List.map_nil]); first | done | rfl | (simp only [List.length_drop, List.length_take]; rfl)) ?_; (with_reducible refine (wire_DecodeInt.calls _ _ l0 t220 t221 t222 _ ?side1 ?side2 A7.out).mono ?_); (case side1 => repeat (first | exact HR0.out | (with_reducible refine Kd.C_alloc ?_ _) | (with_reducible refine Kd.C_drewN ?_ _) | (with_reducible refine Kd.C_drew ?_))); (case side2 => exact HC0.out); rintro e w' ⟨rfl, ⟨nd, rfl⟩⟩; refine ⟨_, rfl, ?_⟩) | ((with_reducible refine gate_callee (f := 23) rfl ?_); refine goesL_ (some 45) rfl rfl Try.func23 (by kernel_rfl) rfl #[.slice A0 l0.length c0] rfl (by (try simp only [List.map_toArray, List.map_cons, List.map_nil]); first | done | rfl | (simp only [List.length_drop, List.length_take]; rfl)) ?_; (with_reducible refine (pairingref8_DecodeInt.calls _ _ l0 t223 t224 t225 _ ?side1 ?side2 A8.out).mono ?_); (case side1 => repeat (first | exact HR0.out | (with_reducible refine Kd.C_alloc ?_ _) | (with_reducible refine Kd.C_drewN ?_ _) | (with_reducible refine Kd.C_drew ?_))); (case side2 => exact HC0.out); rintro e w' ⟨rfl, ⟨nd, rfl⟩⟩; refine ⟨_, rfl, ?_⟩) | ((with_reducible refine gate_callee (f := 24) rfl ?_); refine goesL_ (some 51) rfl rfl Try.func24 (by kernel_rfl) rfl #[.slice A0 l0.length c0] rfl (by (try simp only [List.map_toArray, List.map_cons, List.map_nil]); first | done | rfl | (simp only [List.length_drop, List.length_take]; rfl)) ?_; (with_reducible refine (wire_DecodeText.calls _ _ l0 t226 t227 t228 _ ?side1 ?side2 A9.out).mono ?_); (case side1 => repeat (first | exact HR0.out | (with_reducible refine Kd.C_alloc ?_ _) | (with_reducible refine Kd.C_drewN ?_ _) | (with_reducible refine Kd.C_drew ?_))); (case side2 => exact HC0.out); rintro e w' ⟨rfl, ⟨nd, rfl⟩⟩; refine ⟨_, rfl, ?_⟩) | ((with_reducible refine gate_callee (f := 25) rfl ?_); refine goesL_ (some 57) rfl rfl Try.func25 (by kernel_rfl) rfl #[.slice A0 l0.length c0] rfl (by (try simp only [List.map_toArray, List.map_cons, List.map_nil]); first | done | rfl | (simp only [List.length_drop, List.length_take]; rfl)) ?_; (with_reducible refine (pairingref8_DecodeText.calls _ _ l0 t229 t230 t231 _ ?side1 ?side2 A10.out).mono ?_); (case side1 => repeat (first | exact HR0.out | (with_reducible refine Kd.C_alloc ?_ _) | (with_reducible refine Kd.C_drewN ?_ _) | (with_reducible refine Kd.C_drew ?_))); (case side2 => exact HC0.out); rintro e w' ⟨rfl, ⟨nd, rfl⟩⟩; refine ⟨_, rfl, ?_⟩))
                      go_ret
                      exact ⟨by first | rfl | (simp [errW_none, errW_some] <;> rfl) | (simp [*, errW_none, errW_some] <;> rfl), by repeat (first | (with_reducible first | exact HB.out | apply below_alloc | apply pw_below_drewN | apply below_drew1) | exact HB.out)⟩
                  · rw [if_neg c18] at H
                    have c18b0 : (t227 == t230) = false := beq_eq_false_iff_ne.mpr c18
                    have c18b1 : (t227 != t230) = true := bne_iff_ne.mpr c18
                    obtain rfl := Option.some.inj H
                    go_enter Try.func6, Try.ntmps6
                    go_wp2_with (first | ((with_reducible refine gate_callee (f := 20) rfl ?_); refine goesL_ (some 27) rfl rfl Try.func20 (by kernel_rfl) rfl #[.slice A0 l0.length c0] rfl (by (try simp only [List.map_toArray, List.map_cons, List.map_nil]); first | done | rfl | (simp only [List.length_drop, List.length_take]; rfl)) ?_; (with_reducible refine (wire_DecodeUint.calls _ _ l0 t214 t215 t216 _ ?side1 ?side2 A5.out).mono ?_); (case side1 => repeat (first | exact HR0.out | (with_reducible refine Kd.C_alloc ?_ _) | (with_reducible refine Kd.C_drewN ?_ _) | (with_reducible refine Kd.C_drew ?_))); (case side2 => exact HC0.out); rintro e w' ⟨rfl, ⟨nd, rfl⟩⟩; refine ⟨_, rfl, ?_⟩) | ((with_reducible refine gate_callee (f := 21) rfl ?_); refine goesL_ (some 33) rfl rfl Try.func21 (by kernel_rfl) rfl #[.slice A0 l0.length c0] rfl (by (try simp only [List.map_toArray, List.map_cons, List.map_nil]); first | done | rfl | (simp only [List.length_drop, List.length_take]; rfl)) ?_; (with_reducible refine (pairingref8_DecodeUint.calls _ _ l0 t217 t218 t219 _ ?side1 ?side2 A6.out).mono ?_); (case side1 => repeat (first | exact HR0.out | (with_reducible refine Kd.C_alloc ?_ _) | (with_reducible refine Kd.C_drewN ?_ _) | (with_reducible refine Kd.C_drew ?_))); (case side2 => exact HC0.out); rintro e w' ⟨rfl, ⟨nd, rfl⟩⟩; refine ⟨_, rfl, ?_⟩) | ((with_reducible refine gate_callee (f := 22) rfl ?_); refine goesL_ (some 39) rfl rfl Try.func22 (by kernel_rfl) rfl #[.slice A0 l0.length c0] rfl (by (try simp only [List.map_toArray, List.map_cons, List.map_nil]); first | done | rfl | (simp only [List.length_drop, List.length_take]; rfl)) ?_; (with_reducible refine (wire_DecodeInt.calls _ _ l0 t220 t221 t222 _ ?side1 ?side2 A7.out).mono ?_); (case side1 => repeat (first | exact HR0.out | (with_reducible refine Kd.C_alloc ?_ _) | (with_reducible refine Kd.C_drewN ?_ _) | (with_reducible refine Kd.C_drew ?_))); (case side2 => exact HC0.out); rintro e w' ⟨rfl, ⟨nd, rfl⟩⟩; refine ⟨_, rfl, ?_⟩) | ((with_reducible refine gate_callee (f := 23) rfl ?_); refine goesL_ (some 45) rfl rfl Try.func23 (by kernel_rfl) rfl #[.slice A0 l0.length c0] rfl (by (try simp only [List.map_toArray, List.map_cons, List.map_nil]); first | done | rfl | (simp only [List.length_drop, List.length_take]; rfl)) ?_; (with_reducible refine (pairingref8_DecodeInt.calls _ _ l0 t223 t224 t225 _ ?side1 ?side2 A8.out).mono ?_); (case side1 => repeat (first | exact HR0.out | (with_reducible refine Kd.C_alloc ?_ _) | (with_reducible refine Kd.C_drewN ?_ _) | (with_reducible refine Kd.C_drew ?_))); (case side2 => exact HC0.out); rintro e w' ⟨rfl, ⟨nd, rfl⟩⟩; refine ⟨_, rfl, ?_⟩) | ((with_reducible refine gate_callee (f := 24) rfl ?_); refine goesL_ (some 51) rfl rfl Try.func24 (by kernel_rfl) rfl #[.slice A0 l0.length c0] rfl (by (try simp only [List.map_toArray, List.map_cons, List.map_nil]); first | done | rfl | (simp only [List.length_drop, List.length_take]; rfl)) ?_; (with_reducible refine (wire_DecodeText.calls _ _ l0 t226 t227 t228 _ ?side1 ?side2 A9.out).mono ?_); (case side1 => repeat (first | exact HR0.out | (with_reducible refine Kd.C_alloc ?_ _) | (with_reducible refine Kd.C_drewN ?_ _) | (with_reducible refine Kd.C_drew ?_))); (case side2 => exact HC0.out); rintro e w' ⟨rfl, ⟨nd, rfl⟩⟩; refine ⟨_, rfl, ?_⟩) | ((with_reducible refine gate_callee (f := 25) rfl ?_); refine goesL_ (some 57) rfl rfl Try.func25 (by kernel_rfl) rfl #[.slice A0 l0.length c0] rfl (by (try simp only [List.map_toArray, List.map_cons, List.map_nil]); first | done | rfl | (simp only [List.length_drop, List.length_take]; rfl)) ?_; (with_reducible refine (pairingref8_DecodeText.calls _ _ l0 t229 t230 t231 _ ?side1 ?side2 A10.out).mono ?_); (case side1 => repeat (first | exact HR0.out | (with_reducible refine Kd.C_alloc ?_ _) | (with_reducible refine Kd.C_drewN ?_ _) | (with_reducible refine Kd.C_drew ?_))); (case side2 => exact HC0.out); rintro e w' ⟨rfl, ⟨nd, rfl⟩⟩; refine ⟨_, rfl, ?_⟩))
                    go_ret
                    exact ⟨by first | rfl | (simp [errW_none, errW_some] <;> rfl) | (simp [*, errW_none, errW_some] <;> rfl), by repeat (first | (with_reducible first | exact HB.out | apply below_alloc | apply pw_below_drewN | apply below_drew1) | exact HB.out)⟩
                · rw [if_neg c17] at H
                  have c17b0 : (t226.toList == t229.toList) = false := beq_eq_false_iff_ne.mpr c17
                  have c17b1 : (t226.toList != t229.toList) = true := bne_iff_ne.mpr c17
                  obtain rfl := Option.some.inj H
                  go_enter Try.func6, Try.ntmps6
                  go_wp2_with (first | ((with_reducible refine gate_callee (f := 20) rfl ?_); refine goesL_ (some 27) rfl rfl Try.func20 (by kernel_rfl) rfl #[.slice A0 l0.length c0] rfl (by (try simp only [List.map_toArray, List.map_cons, List.map_nil]); first | done | rfl | (simp only [List.length_drop, List.length_take]; rfl)) ?_; (with_reducible refine (wire_DecodeUint.calls _ _ l0 t214 t215 t216 _ ?side1 ?side2 A5.out).mono ?_); (case side1 => repeat (first | exact HR0.out | (with_reducible refine Kd.C_alloc ?_ _) | (with_reducible refine Kd.C_drewN ?_ _) | (with_reducible refine Kd.C_drew ?_))); (case side2 => exact HC0.out); rintro e w' ⟨rfl, ⟨nd, rfl⟩⟩; refine ⟨_, rfl, ?_⟩) | ((with_reducible refine gate_callee (f := 21) rfl ?_); refine goesL_ (some 33) rfl rfl Try.func21 (by kernel_rfl) rfl #[.slice A0 l0.length c0] rfl (by (try simp only [List.map_toArray, List.map_cons, List.map_nil]); first | done | rfl | (simp only [List.length_drop, List.length_take]; rfl)) ?_; (with_reducible refine (pairingref8_DecodeUint.calls _ _ l0 t217 t218 t219 _ ?side1 ?side2 A6.out).mono ?_); (case side1 => repeat (first | exact HR0.out | (with_reducible refine Kd.C_alloc ?_ _) | (with_reducible refine Kd.C_drewN ?_ _) | (with_reducible refine Kd.C_drew ?_))); (case side2 => exact HC0.out); rintro e w' ⟨rfl, ⟨nd, rfl⟩⟩; refine ⟨_, rfl, ?_⟩) | ((with_reducible refine gate_callee (f := 22) rfl ?_); refine goesL_ (some 39) rfl rfl Try.func22 (by kernel_rfl) rfl #[.slice A0 l0.length c0] rfl (by (try simp only [List.map_toArray, List.map_cons, List.map_nil]); first | done | rfl | (simp only [List.length_drop, List.length_take]; rfl)) ?_; (with_reducible refine (wire_DecodeInt.calls _ _ l0 t220 t221 t222 _ ?side1 ?side2 A7.out).mono ?_); (case side1 => repeat (first | exact HR0.out | (with_reducible refine Kd.C_alloc ?_ _) | (with_reducible refine Kd.C_drewN ?_ _) | (with_reducible refine Kd.C_drew ?_))); (case side2 => exact HC0.out); rintro e w' ⟨rfl, ⟨nd, rfl⟩⟩; refine ⟨_, rfl, ?_⟩) | ((with_reducible refine gate_callee (f := 23) rfl ?_); refine goesL_ (some 45) rfl rfl Try.func23 (by kernel_rfl) rfl #[.slice A0 l0.length c0] rfl (by (try simp only [List.map_toArray, List.map_cons, List.map_nil]); first | done | rfl | (simp only [List.length_drop, List.length_take]; rfl)) ?_; (with_reducible refine (pairingref8_DecodeInt.calls _ _ l0 t223 t224 t225 _ ?side1 ?side2 A8.out).mono ?_); (case side1 => repeat (first | exact HR0.out | (with_reducible refine Kd.C_alloc ?_ _) | (with_reducible refine Kd.C_drewN ?_ _) | (with_reducible refine Kd.C_drew ?_))); (case side2 => exact HC0.out); rintro e w' ⟨rfl, ⟨nd, rfl⟩⟩; refine ⟨_, rfl, ?_⟩) | ((with_reducible refine gate_callee (f := 24) rfl ?_); refine goesL_ (some 51) rfl rfl Try.func24 (by kernel_rfl) rfl #[.slice A0 l0.length c0] rfl (by (try simp only [List.map_toArray, List.map_cons, List.map_nil]); first | done | rfl | (simp only [List.length_drop, List.length_take]; rfl)) ?_; (with_reducible refine (wire_DecodeText.calls _ _ l0 t226 t227 t228 _ ?side1 ?side2 A9.out).mono ?_); (case side1 => repeat (first | exact HR0.out | (with_reducible refine Kd.C_alloc ?_ _) | (with_reducible refine Kd.C_drewN ?_ _) | (with_reducible refine Kd.C_drew ?_))); (case side2 => exact HC0.out); rintro e w' ⟨rfl, ⟨nd, rfl⟩⟩; refine ⟨_, rfl, ?_⟩) | ((with_reducible refine gate_callee (f := 25) rfl ?_); refine goesL_ (some 57) rfl rfl Try.func25 (by kernel_rfl) rfl #[.slice A0 l0.length c0] rfl (by (try simp only [List.map_toArray, List.map_cons, List.map_nil]); first | done | rfl | (simp only [List.length_drop, List.length_take]; rfl)) ?_; (with_reducible refine (pairingref8_DecodeText.calls _ _ l0 t229 t230 t231 _ ?side1 ?side2 A10.out).mono ?_); (case side1 => repeat (first | exact HR0.out | (with_reducible refine Kd.C_alloc ?_ _) | (with_reducible refine Kd.C_drewN ?_ _) | (with_reducible refine Kd.C_drew ?_))); (case side2 => exact HC0.out); rintro e w' ⟨rfl, ⟨nd, rfl⟩⟩; refine ⟨_, rfl, ?_⟩))
                  go_ret
                  exact ⟨by first | rfl | (simp [errW_none, errW_some] <;> rfl) | (simp [*, errW_none, errW_some] <;> rfl), by repeat (first | (with_reducible first | exact HB.out | apply below_alloc | apply pw_below_drewN | apply below_drew1) | exact HB.out)⟩
              · rw [if_neg c16] at H
                have c16b0 : (t222 == t225) = false := beq_eq_false_iff_ne.mpr c16
                have c16b1 : (t222 != t225) = true := bne_iff_ne.mpr c16
                obtain rfl := Option.some.inj H
                go_enter Try.func6, Try.ntmps6
                go_wp2_with (first | ((with_reducible refine gate_callee (f := 20) rfl ?_); refine goesL_ (some 27) rfl rfl Try.func20 (by kernel_rfl) rfl #[.slice A0 l0.length c0] rfl (by (try simp only [List.map_toArray, List.map_cons, List.map_nil]); first | done | rfl | (simp only [List.length_drop, List.length_take]; rfl)) ?_; (with_reducible refine (wire_DecodeUint.calls _ _ l0 t214 t215 t216 _ ?side1 ?side2 A5.out).mono ?_); (case side1 => repeat (first | exact HR0.out | (with_reducible refine Kd.C_alloc ?_ _) | (with_reducible refine Kd.C_drewN ?_ _) | (with_reducible refine Kd.C_drew ?_))); (case side2 => exact HC0.out); rintro e w' ⟨rfl, ⟨nd, rfl⟩⟩; refine ⟨_, rfl, ?_⟩) | ((with_reducible refine gate_callee (f := 21) rfl ?_); refine goesL_ (some 33) rfl rfl Try.func21 (by kernel_rfl) rfl #[.slice A0 l0.length c0] rfl (by (try simp only [List.map_toArray, List.map_cons, List.map_nil]); first | done | rfl | (simp only [List.length_drop, List.length_take]; rfl)) ?_; (with_reducible refine (pairingref8_DecodeUint.calls _ _ l0 t217 t218 t219 _ ?side1 ?side2 A6.out).mono ?_); (case side1 => repeat (first | exact HR0.out | (with_reducible refine Kd.C_alloc ?_ _) | (with_reducible refine Kd.C_drewN ?_ _) | (with_reducible refine Kd.C_drew ?_))); (case side2 => exact HC0.out); rintro e w' ⟨rfl, ⟨nd, rfl⟩⟩; refine ⟨_, rfl, ?_⟩) | ((with_reducible refine gate_callee (f := 22) rfl ?_); refine goesL_ (some 39) rfl rfl Try.func22 (by kernel_rfl) rfl #[.slice A0 l0.length c0] rfl (by (try simp only [List.map_toArray, List.map_cons, List.map_nil]); first | done | rfl | (simp only [List.length_drop, List.length_take]; rfl)) ?_; (with_reducible refine (wire_DecodeInt.calls _ _ l0 t220 t221 t222 _ ?side1 ?side2 A7.out).mono ?_); (case side1 => repeat (first | exact HR0.out | (with_reducible refine Kd.C_alloc ?_ _) | (with_reducible refine Kd.C_drewN ?_ _) | (with_reducible refine Kd.C_drew ?_))); (case side2 => exact HC0.out); rintro e w' ⟨rfl, ⟨nd, rfl⟩⟩; refine ⟨_, rfl, ?_⟩) | ((with_reducible refine gate_callee (f := 23) rfl ?_); refine goesL_ (some 45) rfl rfl Try.func23 (by kernel_rfl) rfl #[.slice A0 l0.length c0] rfl (by (try simp only [List.map_toArray, List.map_cons, List.map_nil]); first | done | rfl | (simp only [List.length_drop, List.length_take]; rfl)) ?_; (with_reducible refine (pairingref8_DecodeInt.calls _ _ l0 t223 t224 t225 _ ?side1 ?side2 A8.out).mono ?_); (case side1 => repeat (first | exact HR0.out | (with_reducible refine Kd.C_alloc ?_ _) | (with_reducible refine Kd.C_drewN ?_ _) | (with_reducible refine Kd.C_drew ?_))); (case side2 => exact HC0.out); rintro e w' ⟨rfl, ⟨nd, rfl⟩⟩; refine ⟨_, rfl, ?_⟩) | ((with_reducible refine gate_callee (f := 24) rfl ?_); refine goesL_ (some 51) rfl rfl Try.func24 (by kernel_rfl) rfl #[.slice A0 l0.length c0] rfl (by (try simp only [List.map_toArray, List.map_cons, List.map_nil]); first | done | rfl | (simp only [List.length_drop, List.length_take]; rfl)) ?_; (with_reducible refine (wire_DecodeText.calls _ _ l0 t226 t227 t228 _ ?side1 ?side2 A9.out).mono ?_); (case side1 => repeat (first | exact HR0.out | (with_reducible refine Kd.C_alloc ?_ _) | (with_reducible refine Kd.C_drewN ?_ _) | (with_reducible refine Kd.C_drew ?_))); (case side2 => exact HC0.out); rintro e w' ⟨rfl, ⟨nd, rfl⟩⟩; refine ⟨_, rfl, ?_⟩) | ((with_reducible refine gate_callee (f := 25) rfl ?_); refine goesL_ (some 57) rfl rfl Try.func25 (by kernel_rfl) rfl #[.slice A0 l0.length c0] rfl (by (try simp only [List.map_toArray, List.map_cons, List.map_nil]); first | done | rfl | (simp only [List.length_drop, List.length_take]; rfl)) ?_; (with_reducible refine (pairingref8_DecodeText.calls _ _ l0 t229 t230 t231 _ ?side1 ?side2 A10.out).mono ?_); (case side1 => repeat (first | exact HR0.out | (with_reducible refine Kd.C_alloc ?_ _) | (with_reducible refine Kd.C_drewN ?_ _) | (with_reducible refine Kd.C_drew ?_))); (case side2 => exact HC0.out); rintro e w' ⟨rfl, ⟨nd, rfl⟩⟩; refine ⟨_, rfl, ?_⟩))
                go_ret
                exact ⟨by first | rfl | (simp [errW_none, errW_some] <;> rfl) | (simp [*, errW_none, errW_some] <;> rfl), by repeat (first | (with_reducible first | exact HB.out | apply below_alloc | apply pw_below_drewN | apply below_drew1) | exact HB.out)⟩
            · rw [if_neg c15] at H
              have c15b0 : (t221 == t224) = false := beq_eq_false_iff_ne.mpr c15
              have c15b1 : (t221 != t224) = true := bne_iff_ne.mpr c15
              obtain rfl := Option.some.inj H
              go_enter Try.func6, Try.ntmps6
              go_wp2_with (first | ((with_reducible refine gate_callee (f := 20) rfl ?_); refine goesL_ (some 27) rfl rfl Try.func20 (by kernel_rfl) rfl #[.slice A0 l0.length c0] rfl (by (try simp only [List.map_toArray, List.map_cons, List.map_nil]); first | done | rfl | (simp only [List.length_drop, List.length_take]; rfl)) ?_; (with_reducible refine (wire_DecodeUint.calls _ _ l0 t214 t215 t216 _ ?side1 ?side2 A5.out).mono ?_); (case side1 => repeat (first | exact HR0.out | (with_reducible refine Kd.C_alloc ?_ _) | (with_reducible refine Kd.C_drewN ?_ _) | (with_reducible refine Kd.C_drew ?_))); (case side2 => exact HC0.out); rintro e w' ⟨rfl, ⟨nd, rfl⟩⟩; refine ⟨_, rfl, ?_⟩) | ((with_reducible refine gate_callee (f := 21) rfl ?_); refine goesL_ (some 33) rfl rfl Try.func21 (by kernel_rfl) rfl #[.slice A0 l0.length c0] rfl (by (try simp only [List.map_toArray, List.map_cons, List.map_nil]); first | done | rfl | (simp only [List.length_drop, List.length_take]; rfl)) ?_; (with_reducible refine (pairingref8_DecodeUint.calls _ _ l0 t217 t218 t219 _ ?side1 ?side2 A6.out).mono ?_); (case side1 => repeat (first | exact HR0.out | (with_reducible refine Kd.C_alloc ?_ _) | (with_reducible refine Kd.C_drewN ?_ _) | (with_reducible refine Kd.C_drew ?_))); (case side2 => exact HC0.out); rintro e w' ⟨rfl, ⟨nd, rfl⟩⟩; refine ⟨_, rfl, ?_⟩) | ((with_reducible refine gate_callee (f := 22) rfl ?_); refine goesL_ (some 39) rfl rfl Try.func22 (by kernel_rfl) rfl #[.slice A0 l0.length c0] rfl (by (try simp only [List.map_toArray, List.map_cons, List.map_nil]); first | done | rfl | (simp only [List.length_drop, List.length_take]; rfl)) ?_; (with_reducible refine (wire_DecodeInt.calls _ _ l0 t220 t221 t222 _ ?side1 ?side2 A7.out).mono ?_); (case side1 => repeat (first | exact HR0.out | (with_reducible refine Kd.C_alloc ?_ _) | (with_reducible refine Kd.C_drewN ?_ _) | (with_reducible refine Kd.C_drew ?_))); (case side2 => exact HC0.out); rintro e w' ⟨rfl, ⟨nd, rfl⟩⟩; refine ⟨_, rfl, ?_⟩) | ((with_reducible refine gate_callee (f := 23) rfl ?_); refine goesL_ (some 45) rfl rfl Try.func23 (by kernel_rfl) rfl #[.slice A0 l0.length c0] rfl (by (try simp only [List.map_toArray, List.map_cons, List.map_nil]); first | done | rfl | (simp only [List.length_drop, List.length_take]; rfl)) ?_; (with_reducible refine (pairingref8_DecodeInt.calls _ _ l0 t223 t224 t225 _ ?side1 ?side2 A8.out).mono ?_); (case side1 => repeat (first | exact HR0.out | (with_reducible refine Kd.C_alloc ?_ _) | (with_reducible refine Kd.C_drewN ?_ _) | (with_reducible refine Kd.C_drew ?_))); (case side2 => exact HC0.out); rintro e w' ⟨rfl, ⟨nd, rfl⟩⟩; refine ⟨_, rfl, ?_⟩) | ((with_reducible refine gate_callee (f := 24) rfl ?_); refine goesL_ (some 51) rfl rfl Try.func24 (by kernel_rfl) rfl #[.slice A0 l0.length c0] rfl (by (try simp only [List.map_toArray, List.map_cons, List.map_nil]); first | done | rfl | (simp only [List.length_drop, List.length_take]; rfl)) ?_; (with_reducible refine (wire_DecodeText.calls _ _ l0 t226 t227 t228 _ ?side1 ?side2 A9.out).mono ?_); (case side1 => repeat (first | exact HR0.out | (with_reducible refine Kd.C_alloc ?_ _) | (with_reducible refine Kd.C_drewN ?_ _) | (with_reducible refine Kd.C_drew ?_))); (case side2 => exact HC0.out); rintro e w' ⟨rfl, ⟨nd, rfl⟩⟩; refine ⟨_, rfl, ?_⟩) | ((with_reducible refine gate_callee (f := 25) rfl ?_); refine goesL_ (some 57) rfl rfl Try.func25 (by kernel_rfl) rfl #[.slice A0 l0.length c0] rfl (by (try simp only [List.map_toArray, List.map_cons, List.map_nil]); first | done | rfl | (simp only [List.length_drop, List.length_take]; rfl)) ?_; (with_reducible refine (pairingref8_DecodeText.calls _ _ l0 t229 t230 t231 _ ?side1 ?side2 A10.out).mono ?_); (case side1 => repeat (first | exact HR0.out | (with_reducible refine Kd.C_alloc ?_ _) | (with_reducible refine Kd.C_drewN ?_ _) | (with_reducible refine Kd.C_drew ?_))); (case side2 => exact HC0.out); rintro e w' ⟨rfl, ⟨nd, rfl⟩⟩; refine ⟨_, rfl, ?_⟩))
              go_ret
              exact ⟨by first | rfl | (simp [errW_none, errW_some] <;> rfl) | (simp [*, errW_none, errW_some] <;> rfl), by repeat (first | (with_reducible first | exact HB.out | apply below_alloc | apply pw_below_drewN | apply below_drew1) | exact HB.out)⟩
          · rw [if_neg c14] at H
            have c14b0 : (t220 == t223) = false := beq_eq_false_iff_ne.mpr c14
            have c14b1 : (t220 != t223) = true := bne_iff_ne.mpr c14
            obtain rfl := Option.some.inj H
            go_enter Try.func6, Try.ntmps6
            go_wp2_with (first | ((with_reducible refine gate_callee (f := 20) rfl ?_); refine goesL_ (some 27) rfl rfl Try.func20 (by kernel_rfl) rfl #[.slice A0 l0.length c0] rfl (by (try simp only [List.map_toArray, List.map_cons, List.map_nil]); first | done | rfl | (simp only [List.length_drop, List.length_take]; rfl)) ?_; (with_reducible refine (wire_DecodeUint.calls _ _ l0 t214 t215 t216 _ ?side1 ?side2 A5.out).mono ?_); (case side1 => repeat (first | exact HR0.out | (with_reducible refine Kd.C_alloc ?_ _) | (with_reducible refine Kd.C_drewN ?_ _) | (with_reducible refine Kd.C_drew ?_))); (case side2 => exact HC0.out); rintro e w' ⟨rfl, ⟨nd, rfl⟩⟩; refine ⟨_, rfl, ?_⟩) | ((with_reducible refine gate_callee (f := 21) rfl ?_); refine goesL_ (some 33) rfl rfl Try.func21 (by kernel_rfl) rfl #[.slice A0 l0.length c0] rfl (by (try simp only [List.map_toArray, List.map_cons, List.map_nil]); first | done | rfl | (simp only [List.length_drop, List.length_take]; rfl)) ?_; (with_reducible refine (pairingref8_DecodeUint.calls _ _ l0 t217 t218 t219 _ ?side1 ?side2 A6.out).mono ?_); (case side1 => repeat (first | exact HR0.out | (with_reducible refine Kd.C_alloc ?_ _) | (with_reducible refine Kd.C_drewN ?_ _) | (with_reducible refine Kd.C_drew ?_))); (case side2 => exact HC0.out); rintro e w' ⟨rfl, ⟨nd, rfl⟩⟩; refine ⟨_, rfl, ?_⟩) | ((with_reducible refine gate_callee (f := 22) rfl ?_); refine goesL_ (some 39) rfl rfl Try.func22 (by kernel_rfl) rfl #[.slice A0 l0.length c0] rfl (by (try simp only [List.map_toArray, List.map_cons, List.map_nil]); first | done | rfl | (simp only [List.length_drop, List.length_take]; rfl)) ?_; (with_reducible refine (wire_DecodeInt.calls _ _ l0 t220 t221 t222 _ ?side1 ?side2 A7.out).mono ?_); (case side1 => repeat (first | exact HR0.out | (with_reducible refine Kd.C_alloc ?_ _) | (with_reducible refine Kd.C_drewN ?_ _) | (with_reducible refine Kd.C_drew ?_))); (case side2 => exact HC0.out); rintro e w' ⟨rfl, ⟨nd, rfl⟩⟩; refine ⟨_, rfl, ?_⟩) | ((with_reducible refine gate_callee (f := 23) rfl ?_); refine goesL_ (some 45) rfl rfl Try.func23 (by kernel_rfl) rfl #[.slice A0 l0.length c0] rfl (by (try simp only [List.map_toArray, List.map_cons, List.map_nil]); first | done | rfl | (simp only [List.length_drop, List.length_take]; rfl)) ?_; (with_reducible refine (pairingref8_DecodeInt.calls _ _ l0 t223 t224 t225 _ ?side1 ?side2 A8.out).mono ?_); (case side1 => repeat (first | exact HR0.out | (with_reducible refine Kd.C_alloc ?_ _) | (with_reducible refine Kd.C_drewN ?_ _) | (with_reducible refine Kd.C_drew ?_))); (case side2 => exact HC0.out); rintro e w' ⟨rfl, ⟨nd, rfl⟩⟩; refine ⟨_, rfl, ?_⟩) | ((with_reducible refine gate_callee (f := 24) rfl ?_); refine goesL_ (some 51) rfl rfl Try.func24 (by kernel_rfl) rfl #[.slice A0 l0.length c0] rfl (by (try simp only [List.map_toArray, List.map_cons, List.map_nil]); first | done | rfl | (simp only [List.length_drop, List.length_take]; rfl)) ?_; (with_reducible refine (wire_DecodeText.calls _ _ l0 t226 t227 t228 _ ?side1 ?side2 A9.out).mono ?_); (case side1 => repeat (first | exact HR0.out | (with_reducible refine Kd.C_alloc ?_ _) | (with_reducible refine Kd.C_drewN ?_ _) | (with_reducible refine Kd.C_drew ?_))); (case side2 => exact HC0.out); rintro e w' ⟨rfl, ⟨nd, rfl⟩⟩; refine ⟨_, rfl, ?_⟩) | ((with_reducible refine gate_callee (f := 25) rfl ?_); refine goesL_ (some 57) rfl rfl Try.func25 (by kernel_rfl) rfl #[.slice A0 l0.length c0] rfl (by (try simp only [List.map_toArray, List.map_cons, List.map_nil]); first | done | rfl | (simp only [List.length_drop, List.length_take]; rfl)) ?_; (with_reducible refine (pairingref8_DecodeText.calls _ _ l0 t229 t230 t231 _ ?side1 ?side2 A10.out).mono ?_); (case side1 => repeat (first | exact HR0.out | (with_reducible refine Kd.C_alloc ?_ _) | (with_reducible refine Kd.C_drewN ?_ _) | (with_reducible refine Kd.C_drew ?_))); (case side2 => exact HC0.out); rintro e w' ⟨rfl, ⟨nd, rfl⟩⟩; refine ⟨_, rfl, ?_⟩))
            go_ret
            exact ⟨by first | rfl | (simp [errW_none, errW_some] <;> rfl) | (simp [*, errW_none, errW_some] <;> rfl), by repeat (first | (with_reducible first | exact HB.out | apply below_alloc | apply pw_below_drewN | apply below_drew1) | exact HB.out)⟩
        · rw [if_neg c13] at H
          have c13b0 : (t216 == t219) = false := beq_eq_false_iff_ne.mpr c13
          have c13b1 : (t216 != t219) = true := bne_iff_ne.mpr c13
          obtain rfl := Option.some.inj H
          go_enter Try.func6, Try.ntmps6
          go_wp2_with (first | ((with_reducible refine gate_callee (f := 20) rfl ?_); refine goesL_ (some 27) rfl rfl Try.func20 (by kernel_rfl) rfl #[.slice A0 l0.length c0] rfl (by (try simp only [List.map_toArray, List.map_cons, List.map_nil]); first | done | rfl | (simp only [List.length_drop, List.length_take]; rfl)) ?_; (with_reducible refine (wire_DecodeUint.calls _ _ l0 t214 t215 t216 _ ?side1 ?side2 A5.out).mono ?_); (case side1 => repeat (first | exact HR0.out | (with_reducible refine Kd.C_alloc ?_ _) | (with_reducible refine Kd.C_drewN ?_ _) | (with_reducible refine Kd.C_drew ?_))); (case side2 => exact HC0.out); rintro e w' ⟨rfl, ⟨nd, rfl⟩⟩; refine ⟨_, rfl, ?_⟩) | ((with_reducible refine gate_callee (f := 21) rfl ?_); refine goesL_ (some 33) rfl rfl Try.func21 (by kernel_rfl) rfl #[.slice A0 l0.length c0] rfl (by (try simp only [List.map_toArray, List.map_cons, List.map_nil]); first | done | rfl | (simp only [List.length_drop, List.length_take]; rfl)) ?_; (with_reducible refine (pairingref8_DecodeUint.calls _ _ l0 t217 t218 t219 _ ?side1 ?side2 A6.out).mono ?_); (case side1 => repeat (first | exact HR0.out | (with_reducible refine Kd.C_alloc ?_ _) | (with_reducible refine Kd.C_drewN ?_ _) | (with_reducible refine Kd.C_drew ?_))); (case side2 => exact HC0.out); rintro e w' ⟨rfl, ⟨nd, rfl⟩⟩; refine ⟨_, rfl, ?_⟩) | ((with_reducible refine gate_callee (f := 22) rfl ?_); refine goesL_ (some 39) rfl rfl Try.func22 (by kernel_rfl) rfl #[.slice A0 l0.length c0] rfl (by (try simp only [List.map_toArray, List.map_cons, List.map_nil]); first | done | rfl | (simp only [List.length_drop, List.length_take]; rfl)) ?_; (with_reducible refine (wire_DecodeInt.calls _ _ l0 t220 t221 t222 _ ?side1 ?side2 A7.out).mono ?_); (case side1 => repeat (first | exact HR0.out | (with_reducible refine Kd.C_alloc ?_ _) | (with_reducible refine Kd.C_drewN ?_ _) | (with_reducible refine Kd.C_drew ?_))); (case side2 => exact HC0.out); rintro e w' ⟨rfl, ⟨nd, rfl⟩⟩; refine ⟨_, rfl, ?_⟩) | ((with_reducible refine gate_callee (f := 23) rfl ?_); refine goesL_ (some 45) rfl rfl Try.func23 (by kernel_rfl) rfl #[.slice A0 l0.length c0] rfl (by (try simp only [List.map_toArray, List.map_cons, List.map_nil]); first | done | rfl | (simp only [List.length_drop, List.length_take]; rfl)) ?_; (with_reducible refine (pairingref8_DecodeInt.calls _ _ l0 t223 t224 t225 _ ?side1 ?side2 A8.out).mono ?_); (case side1 => repeat (first | exact HR0.out | (with_reducible refine Kd.C_alloc ?_ _) | (with_reducible refine Kd.C_drewN ?_ _) | (with_reducible refine Kd.C_drew ?_))); (case side2 => exact HC0.out); rintro e w' ⟨rfl, ⟨nd, rfl⟩⟩; refine ⟨_, rfl, ?_⟩) | ((with_reducible refine gate_callee (f := 24) rfl ?_); refine goesL_ (some 51) rfl rfl Try.func24 (by kernel_rfl) rfl #[.slice A0 l0.length c0] rfl (by (try simp only [List.map_toArray, List.map_cons, List.map_nil]); first | done | rfl | (simp only [List.length_drop, List.length_take]; rfl)) ?_; (with_reducible refine (wire_DecodeText.calls _ _ l0 t226 t227 t228 _ ?side1 ?side2 A9.out).mono ?_); (case side1 => repeat (first | exact HR0.out | (with_reducible refine Kd.C_alloc ?_ _) | (with_reducible refine Kd.C_drewN ?_ _) | (with_reducible refine Kd.C_drew ?_))); (case side2 => exact HC0.out); rintro e w' ⟨rfl, ⟨nd, rfl⟩⟩; refine ⟨_, rfl, ?_⟩) | ((with_reducible refine gate_callee (f := 25) rfl ?_); refine goesL_ (some 57) rfl rfl Try.func25 (by kernel_rfl) rfl #[.slice A0 l0.length c0] rfl (by (try simp only [List.map_toArray, List.map_cons, List.map_nil]); first | done | rfl | (simp only [List.length_drop, List.length_take]; rfl)) ?_; (with_reducible refine (pairingref8_DecodeText.calls _ _ l0 t229 t230 t231 _ ?side1 ?side2 A10.out).mono ?_); (case side1 => repeat (first | exact HR0.out | (with_reducible refine Kd.C_alloc ?_ _) | (with_reducible refine Kd.C_drewN ?_ _) | (with_reducible refine Kd.C_drew ?_))); (case side2 => exact HC0.out); rintro e w' ⟨rfl, ⟨nd, rfl⟩⟩; refine ⟨_, rfl, ?_⟩))
          go_ret
          exact ⟨by first | rfl | (simp [errW_none, errW_some] <;> rfl) | (simp [*, errW_none, errW_some] <;> rfl), by repeat (first | (with_reducible first | exact HB.out | apply below_alloc | apply pw_below_drewN | apply below_drew1) | exact HB.out)⟩
      · rw [if_neg c12] at H
        have c12b0 : (t215 == t218) = false := beq_eq_false_iff_ne.mpr c12
        have c12b1 : (t215 != t218) = true := bne_iff_ne.mpr c12
        obtain rfl := Option.some.inj H
        go_enter Try.func6, Try.ntmps6
        go_wp2_with (first | ((with_reducible refine gate_callee (f := 20) rfl ?_); refine goesL_ (some 27) rfl rfl Try.func20 (by kernel_rfl) rfl #[.slice A0 l0.length c0] rfl (by (try simp only [List.map_toArray, List.map_cons, List.map_nil]); first | done | rfl | (simp only [List.length_drop, List.length_take]; rfl)) ?_; (with_reducible refine (wire_DecodeUint.calls _ _ l0 t214 t215 t216 _ ?side1 ?side2 A5.out).mono ?_); (case side1 => repeat (first | exact HR0.out | (with_reducible refine Kd.C_alloc ?_ _) | (with_reducible refine Kd.C_drewN ?_ _) | (with_reducible refine Kd.C_drew ?_))); (case side2 => exact HC0.out); rintro e w' ⟨rfl, ⟨nd, rfl⟩⟩; refine ⟨_, rfl, ?_⟩) | ((with_reducible refine gate_callee (f := 21) rfl ?_); refine goesL_ (some 33) rfl rfl Try.func21 (by kernel_rfl) rfl #[.slice A0 l0.length c0] rfl (by (try simp only [List.map_toArray, List.map_cons, List.map_nil]); first | done | rfl | (simp only [List.length_drop, List.length_take]; rfl)) ?_; (with_reducible refine (pairingref8_DecodeUint.calls _ _ l0 t217 t218 t219 _ ?side1 ?side2 A6.out).mono ?_); (case side1 => repeat (first | exact HR0.out | (with_reducible refine Kd.C_alloc ?_ _) | (with_reducible refine Kd.C_drewN ?_ _) | (with_reducible refine Kd.C_drew ?_))); (case side2 => exact HC0.out); rintro e w' ⟨rfl, ⟨nd, rfl⟩⟩; refine ⟨_, rfl, ?_⟩) | ((with_reducible refine gate_callee (f := 22) rfl ?_); refine goesL_ (some 39) rfl rfl Try.func22 (by kernel_rfl) rfl #[.slice A0 l0.length c0] rfl (by (try simp only [List.map_toArray, List.map_cons, List.map_nil]); first | done | rfl | (simp only [List.length_drop, List.length_take]; rfl)) ?_; (with_reducible refine (wire_DecodeInt.calls _ _ l0 t220 t221 t222 _ ?side1 ?side2 A7.out).mono ?_); (case side1 => repeat (first | exact HR0.out | (with_reducible refine Kd.C_alloc ?_ _) | (with_reducible refine Kd.C_drewN ?_ _) | (with_reducible refine Kd.C_drew ?_))); (case side2 => exact HC0.out); rintro e w' ⟨rfl, ⟨nd, rfl⟩⟩; refine ⟨_, rfl, ?_⟩) | ((with_reducible refine gate_callee (f := 23) rfl ?_); refine goesL_ (some 45) rfl rfl Try.func23 (by kernel_rfl) rfl #[.slice A0 l0.length c0] rfl (by (try simp only [List.map_toArray, List.map_cons, List.map_nil]); first | done | rfl | (simp only [List.length_drop, List.length_take]; rfl)) ?_; (with_reducible refine (pairingref8_DecodeInt.calls _ _ l0 t223 t224 t225 _ ?side1 ?side2 A8.out).mono ?_); (case side1 => repeat (first | exact HR0.out | (with_reducible refine Kd.C_alloc ?_ _) | (with_reducible refine Kd.C_drewN ?_ _) | (with_reducible refine Kd.C_drew ?_))); (case side2 => exact HC0.out); rintro e w' ⟨rfl, ⟨nd, rfl⟩⟩; refine ⟨_, rfl, ?_⟩) | ((with_reducible refine gate_callee (f := 24) rfl ?_); refine goesL_ (some 51) rfl rfl Try.func24 (by kernel_rfl) rfl #[.slice A0 l0.length c0] rfl (by (try simp only [List.map_toArray, List.map_cons, List.map_nil]); first | done | rfl | (simp only [List.length_drop, List.length_take]; rfl)) ?_; (with_reducible refine (wire_DecodeText.calls _ _ l0 t226 t227 t228 _ ?side1 ?side2 A9.out).mono ?_); (case side1 => repeat (first | exact HR0.out | (with_reducible refine Kd.C_alloc ?_ _) | (with_reducible refine Kd.C_drewN ?_ _) | (with_reducible refine Kd.C_drew ?_))); (case side2 => exact HC0.out); rintro e w' ⟨rfl, ⟨nd, rfl⟩⟩; refine ⟨_, rfl, ?_⟩) | ((with_reducible refine gate_callee (f := 25) rfl ?_); refine goesL_ (some 57) rfl rfl Try.func25 (by kernel_rfl) rfl #[.slice A0 l0.length c0] rfl (by (try simp only [List.map_toArray, List.map_cons, List.map_nil]); first | done | rfl | (simp only [List.length_drop, List.length_take]; rfl)) ?_; (with_reducible refine (pairingref8_DecodeText.calls _ _ l0 t229 t230 t231 _ ?side1 ?side2 A10.out).mono ?_); (case side1 => repeat (first | exact HR0.out | (with_reducible refine Kd.C_alloc ?_ _) | (with_reducible refine Kd.C_drewN ?_ _) | (with_reducible refine Kd.C_drew ?_))); (case side2 => exact HC0.out); rintro e w' ⟨rfl, ⟨nd, rfl⟩⟩; refine ⟨_, rfl, ?_⟩))
        go_ret
        exact ⟨by first | rfl | (simp [errW_none, errW_some] <;> rfl) | (simp [*, errW_none, errW_some] <;> rfl), by repeat (first | (with_reducible first | exact HB.out | apply below_alloc | apply pw_below_drewN | apply below_drew1) | exact HB.out)⟩
    · rw [if_neg c11] at H
      have c11b0 : (t214 == t217) = false := beq_eq_false_iff_ne.mpr c11
      have c11b1 : (t214 != t217) = true := bne_iff_ne.mpr c11
      obtain rfl := Option.some.inj H
      go_enter Try.func6, Try.ntmps6
      go_wp2_with (first | ((with_reducible refine gate_callee (f := 20) rfl ?_); refine goesL_ (some 27) rfl rfl Try.func20 (by kernel_rfl) rfl #[.slice A0 l0.length c0] rfl (by (try simp only [List.map_toArray, List.map_cons, List.map_nil]); first | done | rfl | (simp only [List.length_drop, List.length_take]; rfl)) ?_; (with_reducible refine (wire_DecodeUint.calls _ _ l0 t214 t215 t216 _ ?side1 ?side2 A5.out).mono ?_); (case side1 => repeat (first | exact HR0.out | (with_reducible refine Kd.C_alloc ?_ _) | (with_reducible refine Kd.C_drewN ?_ _) | (with_reducible refine Kd.C_drew ?_))); (case side2 => exact HC0.out); rintro e w' ⟨rfl, ⟨nd, rfl⟩⟩; refine ⟨_, rfl, ?_⟩) | ((with_reducible refine gate_callee (f := 21) rfl ?_); refine goesL_ (some 33) rfl rfl Try.func21 (by kernel_rfl) rfl #[.slice A0 l0.length c0] rfl (by (try simp only [List.map_toArray, List.map_cons, List.map_nil]); first | done | rfl | (simp only [List.length_drop, List.length_take]; rfl)) ?_; (with_reducible refine (pairingref8_DecodeUint.calls _ _ l0 t217 t218 t219 _ ?side1 ?side2 A6.out).mono ?_); (case side1 => repeat (first | exact HR0.out | (with_reducible refine Kd.C_alloc ?_ _) | (with_reducible refine Kd.C_drewN ?_ _) | (with_reducible refine Kd.C_drew ?_))); (case side2 => exact HC0.out); rintro e w' ⟨rfl, ⟨nd, rfl⟩⟩; refine ⟨_, rfl, ?_⟩) | ((with_reducible refine gate_callee (f := 22) rfl ?_); refine goesL_ (some 39) rfl rfl Try.func22 (by kernel_rfl) rfl #[.slice A0 l0.length c0] rfl (by (try simp only [List.map_toArray, List.map_cons, List.map_nil]); first | done | rfl | (simp only [List.length_drop, List.length_take]; rfl)) ?_; (with_reducible refine (wire_DecodeInt.calls _ _ l0 t220 t221 t222 _ ?side1 ?side2 A7.out).mono ?_); (case side1 => repeat (first | exact HR0.out | (with_reducible refine Kd.C_alloc ?_ _) | (with_reducible refine Kd.C_drewN ?_ _) | (with_reducible refine Kd.C_drew ?_))); (case side2 => exact HC0.out); rintro e w' ⟨rfl, ⟨nd, rfl⟩⟩; refine ⟨_, rfl, ?_⟩) | ((with_reducible refine gate_callee (f := 23) rfl ?_); refine goesL_ (some 45) rfl rfl Try.func23 (by kernel_rfl) rfl #[.slice A0 l0.length c0] rfl (by (try simp only [List.map_toArray, List.map_cons, List.map_nil]); first | done | rfl | (simp only [List.length_drop, List.length_take]; rfl)) ?_; (with_reducible refine (pairingref8_DecodeInt.calls _ _ l0 t223 t224 t225 _ ?side1 ?side2 A8.out).mono ?_); (case side1 => repeat (first | exact HR0.out | (with_reducible refine Kd.C_alloc ?_ _) | (with_reducible refine Kd.C_drewN ?_ _) | (with_reducible refine Kd.C_drew ?_))); (case side2 => exact HC0.out); rintro e w' ⟨rfl, ⟨nd, rfl⟩⟩; refine ⟨_, rfl, ?_⟩) | ((with_reducible refine gate_callee (f := 24) rfl ?_); refine goesL_ (some 51) rfl rfl Try.func24 (by kernel_rfl) rfl #[.slice A0 l0.length c0] rfl (by (try simp only [List.map_toArray, List.map_cons, List.map_nil]); first | done | rfl | (simp only [List.length_drop, List.length_take]; rfl)) ?_; (with_reducible refine (wire_DecodeText.calls _ _ l0 t226 t227 t228 _ ?side1 ?side2 A9.out).mono ?_); (case side1 => repeat (first | exact HR0.out | (with_reducible refine Kd.C_alloc ?_ _) | (with_reducible refine Kd.C_drewN ?_ _) | (with_reducible refine Kd.C_drew ?_))); (case side2 => exact HC0.out); rintro e w' ⟨rfl, ⟨nd, rfl⟩⟩; refine ⟨_, rfl, ?_⟩) | ((with_reducible refine gate_callee (f := 25) rfl ?_); refine goesL_ (some 57) rfl rfl Try.func25 (by kernel_rfl) rfl #[.slice A0 l0.length c0] rfl (by (try simp only [List.map_toArray, List.map_cons, List.map_nil]); first | done | rfl | (simp only [List.length_drop, List.length_take]; rfl)) ?_; (with_reducible refine (pairingref8_DecodeText.calls _ _ l0 t229 t230 t231 _ ?side1 ?side2 A10.out).mono ?_); (case side1 => repeat (first | exact HR0.out | (with_reducible refine Kd.C_alloc ?_ _) | (with_reducible refine Kd.C_drewN ?_ _) | (with_reducible refine Kd.C_drew ?_))); (case side2 => exact HC0.out); rintro e w' ⟨rfl, ⟨nd, rfl⟩⟩; refine ⟨_, rfl, ?_⟩))
      go_ret
      exact ⟨by first | rfl | (simp [errW_none, errW_some] <;> rfl) | (simp [*, errW_none, errW_some] <;> rfl), by repeat (first | (with_reducible first | exact HB.out | apply below_alloc | apply pw_below_drewN | apply below_drew1) | exact HB.out)⟩

/-- THE ONE PURE STATEMENT of pairinglaw8_WireDecodes: yours. -/
def pairinglaw8_WireDecodes.Pure : Prop := ∀ (l0 : List Int), l0.length ≤ maxLen → l0.length * 1 ≤ 140737488351232 → (∀ x ∈ l0, (Lit.int .u8 x).wf = true) → ∃ k, pairinglaw8_WireDecodes.f k l0 = some true
theorem pairinglaw8_WireDecodes.walk (P : pairinglaw8_WireDecodes.Pure) (a0 : Option Addr) (len0 cap0 : Nat) (z0 : List Int) (w : World) (w0 : (a0 = none ∧ len0 = 0 ∧ cap0 = 0 ∧ z0 = []) ∨ ∃ x, a0 = some x ∧ len0 ≤ cap0 ∧ cap0 ≤ maxLen ∧ z0.length = cap0 ∧ (∀ i, i < z0.length → w.cell? (x.add i) = some (.int .u8 (z0.getD i 0))) ∧ ∀ n ∈ z0, (Lit.int .u8 n).wf = true) (y0 : len0 * 1 ≤ 140737488351232) :
    Calls Try.prog 6 #[.slice a0 len0 cap0] w fun e w' => e = .returned (.bool true) ∧ Below w.heap.size w w' := by
  obtain ⟨l0, rfl, hr0, hm0, hw0, hc0⟩ := ReadsInt.ofRowC w0
  obtain ⟨k, h⟩ := P l0 hm0 y0 hw0
  refine (pairinglaw8_WireDecodes.calls k _ _ l0 true w (Kd.C_of_reads (d := (0 : Int)) (h1 := fun _ => rfl) hr0) hc0 h).mono ?_
  rintro e w' ⟨rfl, hd⟩
  exact ⟨rfl, hd⟩

end Go.Proofs.Ytecomiapfaikbaa.Q
