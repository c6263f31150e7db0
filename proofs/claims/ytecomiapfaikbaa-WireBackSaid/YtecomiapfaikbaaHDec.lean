/- wire.DecodeUint of the program answers what 'decL' says, at every list of bytes: it only reads. -/
import Derived.Test.YtecomiapfaikbaaHBase
namespace Go.Proofs.Ytecomiapfaikbaa.H
open Go.RowKit Go.Proofs.YtecomiapfaikbaaW.PrintWords Go.Proofs.YtecomiapfaikbaaW.PrintLast Go.Proofs.YtecomiapfaikbaaW.PrintMore
set_option linter.unusedVariables false
set_option linter.unusedSimpArgs false

def decL : List Int → Nat → Int → Int × Int × Int
  | [], _, _ => (0, 0, 3)
  | c :: t, i, n => if c < 128 then (if (c = 0 ∧ 0 < i) ∨ n + c % 128 * 128 ^ i > 4611686018427387904 then (0, 0, 2) else (n + c % 128 * 128 ^ i, (i : Int) + 1, 0)) else if i = 8 then (0, 0, 2) else decL t (i + 1) (n + c % 128 * 128 ^ i)
def decOut (r : Int × Int × Int) : Value := .tuple #[.int .i64 r.1, .int .i64 r.2.1, .int .i64 r.2.2]

theorem dec_step (n c7 s m : Int) (i : Nat) (hi : i ≤ 8) (hn0 : 0 ≤ n) (hn : n < 128 ^ i) (h0 : 0 ≤ c7) (h1 : c7 ≤ 127) (hs : c7 * 128 ^ i = s) (hm : n + s = m) :
    0 ≤ s ∧ wrap64 (c7 * 2 ^ (7 * i)) = s ∧ Go.bits .or .i64 n s = m ∧ (0 ≤ m ∧ m < 128 ^ (i + 1)) := by
  have hp : (2 : Int) ^ (7 * i) = 128 ^ i := by rw [Int.pow_mul]; rfl
  have hpos : (0 : Int) < 128 ^ i := Int.pow_pos (by decide)
  have hs0 : 0 ≤ s := by rw [← hs]; exact Int.mul_nonneg h0 (by omega)
  have hle : (128 : Int) ^ i ≤ 128 ^ 8 := by exact_mod_cast Nat.pow_le_pow_right (n := 128) (by decide) hi
  have hs1 : s ≤ 127 * 128 ^ i := by rw [← hs]; exact Int.mul_le_mul_of_nonneg_right h1 (by omega)
  have hs2 : s < 9223372036854775808 := by omega
  refine ⟨hs0, ?_, ?_, by omega, by rw [Int.pow_succ]; omega⟩
  · rw [hp, hs]; unfold wrap64; omega
  · rw [bits_or_comm, bits_join .i64 63 (by decide) wraps_i64 (7 * i) s n hs0 (by rw [hp, ← hs]; exact Int.mul_emod_left _ _) (by omega) hn0 (by rw [hp]; exact hn) (by omega)]
    omega
set_option maxHeartbeats 8000000 in
set_option maxRecDepth 100000 in
theorem dec_calls (A0 : Option Addr) (c0 : Nat) (l0 : List Int) (w : World) (hr0 : Kd.C (Kd.int .u8) w A0 l0.length l0) (hc0 : l0.length ≤ c0) (hw : ∀ x ∈ l0, 0 ≤ x ∧ x ≤ 255) :
    Calls Try.prog 20 #[.slice A0 l0.length c0] w fun e w' => e = .returned (decOut (decL l0 0 0)) ∧ Drawn0 w w' := by
  have HR0 := Aside0.mk hr0
  have HC0 := Aside0.mk hc0
  have HW := Aside0.mk hw
  clear hr0 hc0 hw
  obtain ⟨R, hR⟩ : ∃ R, decL l0 0 0 = R := ⟨_, rfl⟩
  rw [hR]
  have HRR := Aside0.mk hR
  clear hR
  go_enter Try.func20, Try.ntmps20
  go_wp2
  go_loopg [2, 10] l0.length (fun gk v2 v10 w' => ∃ (n : Int) (i : Nat), v2 = .int .i64 n ∧ v10 = .int .i64 (i : Int) ∧ i ≤ 8 ∧ i + gk = l0.length ∧ Aside0 (0 ≤ n ∧ n < 128 ^ i ∧ decL (l0.drop i) i n = R) ∧ Drawn0 w w')
  case atStart => exact ⟨0, 0, rfl, rfl, by omega, by omega, ⟨by omega, by decide, by simpa using HRR.out⟩, Drawn0.refl _⟩
  case round =>
    obtain ⟨n, i, rfl, rfl, hi8, hik, HA, ⟨m1, rfl⟩⟩ := hrel
    cases gk with
    | zero =>
      have hlt : ¬ (i : Int) < (l0.length : Int) := by omega
      have hd : decL (l0.drop i) i n = (0, 0, 3) := by rw [List.drop_of_length_le (by omega)]; rfl
      have H := Aside0.mk (hd.symm.trans HA.out.2.2)
      clear hd HA
      go_wp2
      go_ret3
      rw [← H.out]
      exact ⟨rfl, by repeat (first | exact Drawn0.refl _ | apply Drawn0.step)⟩
    | succ g =>
      have hlt : (i : Int) < (l0.length : Int) := by omega
      have hi0 : (0 : Int) ≤ i := by omega
      obtain ⟨c, hc⟩ : ∃ c, rd l0 (i : Int) = c := ⟨_, rfl⟩
      have hget : l0[i]? = some c := by
        rw [← hc]; unfold rd; rw [Int.toNat_natCast, List.getD_eq_getElem?_getD, List.getElem?_eq_getElem (by omega)]; rfl
      have hcb : 0 ≤ c ∧ c ≤ 255 := HW.out c (List.mem_of_getElem? hget)
      have hdrop : l0.drop i = c :: l0.drop (i + 1) := by
        obtain ⟨h1, h2⟩ := List.getElem?_eq_some_iff.1 hget
        rw [List.drop_eq_getElem_cons h1, h2]
      obtain ⟨ad, e115, hx⟩ := Kd.at_int HR0.out (i : Int) hi0 hlt
      cases e115
      rw [hc] at hx
      rw [Int.toNat_natCast] at hx
      clear hc hget
      have hd : decL (l0.drop i) i n = if c < 128 then (if (c = 0 ∧ 0 < i) ∨ n + c % 128 * 128 ^ i > 4611686018427387904 then (0, 0, 2) else (n + c % 128 * 128 ^ i, (i : Int) + 1, 0)) else if i = 8 then (0, 0, 2) else decL (l0.drop (i + 1)) (i + 1) (n + c % 128 * 128 ^ i) := by rw [hdrop]; rfl
      have HD := Aside0.mk (hd.symm.trans HA.out.2.2)
      have HN := Aside0.mk (And.intro HA.out.1 HA.out.2.1)
      clear hdrop hd HA
      obtain ⟨c7, hc7⟩ : ∃ c7 : Int, c % 128 = c7 := ⟨_, rfl⟩
      have hand : Go.bits .and .u8 c 127 = c7 := by rw [← hc7]; exact bits_mask .u8 8 (by decide) wraps_u8 7 (by decide) c hcb.1 (by omega)
      have hc7b : 0 ≤ c7 ∧ c7 ≤ 127 := by omega
      obtain ⟨s, hs⟩ : ∃ s : Int, c7 * 128 ^ i = s := ⟨_, rfl⟩
      obtain ⟨m, hm⟩ : ∃ m : Int, n + s = m := ⟨_, rfl⟩
      rw [hc7, hs, hm] at HD
      obtain ⟨hsb, hsh, hor, hmb⟩ := dec_step n c7 s m i hi8 HN.out.1 HN.out.2 hc7b.1 hc7b.2 hs hm
      have hc70 := hc7b.1
      have hc71 := hc7b.2
      have hcb0 := hcb.1
      have hcb1 := hcb.2
      have hmb0 := hmb.1
      have HMB := Aside0.mk hmb
      clear hc7b hcb HN hc7 hs hm hsb hmb
      by_cases h128 : c < 128
      · have hb1 : decide (c < 128) = true := decide_eq_true h128
        have HD1 := Aside0.mk (show (if (c = 0 ∧ 0 < i) ∨ m > 4611686018427387904 then (0, 0, 2) else (m, (i : Int) + 1, 0)) = R by have := HD.out; rw [if_pos h128] at this; exact this)
        clear HD
        by_cases hbad : c = 0 ∧ 0 < i
        · have H := Aside0.mk (show (0, 0, 2) = R by have := HD1.out; rw [if_pos (.inl hbad)] at this; exact this)
          have hb0 : (c == 0) = true := beq_iff_eq.mpr hbad.1
          have hbi : decide ((0 : Int) < (i : Int)) = true := decide_eq_true (by omega)
          have hbj : decide (0 < i) = true := decide_eq_true (by omega)
          clear HD1 hbad
          go_wp2
          all_goals
            go_ret3
            rw [← H.out]
            exact ⟨rfl, by repeat (first | exact Drawn0.refl _ | apply Drawn0.step)⟩
        · by_cases hbig : m > 4611686018427387904
          · have H := Aside0.mk (show (0, 0, 2) = R by have := HD1.out; rw [if_pos (.inr hbig)] at this; exact this)
            have hbm : decide (4611686018427387904 < m) = true := decide_eq_true hbig
            clear HD1 hbig
            by_cases h0 : c = 0
            · have hb0 : (c == 0) = true := beq_iff_eq.mpr h0
              have hbi : decide ((0 : Int) < (i : Int)) = false := decide_eq_false (by omega)
              have hbj : decide (0 < i) = false := decide_eq_false (by omega)
              have hij : i ≤ 0 := by omega
              clear h0 hbad
              go_wp2
              all_goals
                go_ret3
                rw [← H.out]
                exact ⟨rfl, by repeat (first | exact Drawn0.refl _ | apply Drawn0.step)⟩
            · have hb0 : (c == 0) = false := beq_eq_false_iff_ne.mpr h0
              clear h0 hbad
              go_wp2
              all_goals
                go_ret3
                rw [← H.out]
                exact ⟨rfl, by repeat (first | exact Drawn0.refl _ | apply Drawn0.step)⟩
          · have H := Aside0.mk (show (m, (i : Int) + 1, 0) = R by have := HD1.out; rw [if_neg (by omega)] at this; exact this)
            have hbm : decide (4611686018427387904 < m) = false := decide_eq_false hbig
            clear HD1 hbig
            by_cases h0 : c = 0
            · have hb0 : (c == 0) = true := beq_iff_eq.mpr h0
              have hbi : decide ((0 : Int) < (i : Int)) = false := decide_eq_false (by omega)
              have hbj : decide (0 < i) = false := decide_eq_false (by omega)
              have hij : i ≤ 0 := by omega
              clear h0 hbad
              go_wp2
              all_goals
                go_ret3
                rw [← H.out]
                exact ⟨rfl, by repeat (first | exact Drawn0.refl _ | apply Drawn0.step)⟩
            · have hb0 : (c == 0) = false := beq_eq_false_iff_ne.mpr h0
              clear h0 hbad
              go_wp2
              all_goals
                go_ret3
                rw [← H.out]
                exact ⟨by first | rfl | (rw [show ((i : Int) + 1) = 9 by omega]; rfl), by repeat (first | exact Drawn0.refl _ | apply Drawn0.step)⟩
      · by_cases h8 : i = 8
        · have H := Aside0.mk (show (0, 0, 2) = R by have := HD.out; rw [if_neg h128, if_pos h8] at this; exact this)
          have hb1 : decide (c < 128) = false := decide_eq_false h128
          have hb8 : ((i : Int) == 8) = true := beq_iff_eq.mpr (by omega)
          clear HD h8
          go_wp2
          go_ret3
          rw [← H.out]
          exact ⟨rfl, by repeat (first | exact Drawn0.refl _ | apply Drawn0.step)⟩
        · have H := Aside0.mk (show decL (l0.drop (i + 1)) (i + 1) m = R by have := HD.out; rw [if_neg h128, if_neg h8] at this; exact this)
          have hb1 : decide (c < 128) = false := decide_eq_false h128
          have hb8 : ((i : Int) == 8) = false := beq_eq_false_iff_ne.mpr (by omega)
          clear HD
          go_wp2
          go_roundg g
          case measure => omega
          case rel => exact ⟨m, i + 1, rfl, by go_num, by omega, by omega, ⟨HMB.out.1, HMB.out.2, H.out⟩, by repeat (first | exact Drawn0.refl _ | apply Drawn0.step)⟩
/-- wire.DecodeUint, as the printed callers take it: bytes in, the number, the length and the error out. -/
def wire_DecodeUint.f (l0 : List Int) : Option (Int × Int × Int) := if ∀ x ∈ l0, 0 ≤ x ∧ x ≤ 255 then some (decL l0 0 0) else none
theorem wire_DecodeUint.calls (A0 : Option Addr) (c0 : Nat) (l0 : List Int) (r1 : Int) (r2 : Int) (r3 : Int) (w : World) (hr0 : Kd.C (Kd.int .u8) w A0 l0.length l0) (hc0 : l0.length ≤ c0) (h : wire_DecodeUint.f l0 = some (r1, r2, r3)) :
    Calls Try.prog 20 #[.slice A0 l0.length c0] w fun e w' => e = .returned (.tuple #[.int .i64 r1, .int .i64 r2, .int .i64 r3]) ∧ Drawn0 w w' := by
  unfold wire_DecodeUint.f at h
  split at h
  · rename_i hb
    have hd := Option.some.inj h
    refine (dec_calls A0 c0 l0 w hr0 hc0 hb).mono fun e w' hh => ?_
    rw [hd] at hh
    exact hh
  · exact absurd h (by simp)
theorem wraps_u64 (n : Int) (h0 : 0 ≤ n) (h1 : n < 2 ^ 64) : IntKind.u64.wrap n = n := by
  simp [IntKind.wrap, IntKind.bits, IntKind.signed]; omega
theorem dec_step_u (n c7 s m : Int) (i : Nat) (hi : i ≤ 8) (hn0 : 0 ≤ n) (hn : n < 128 ^ i) (h0 : 0 ≤ c7) (h1 : c7 ≤ 127) (hs : c7 * 128 ^ i = s) (hm : n + s = m) :
    IntKind.u64.wrap (c7 * 2 ^ (7 * i)) = s ∧ Go.bits .or .u64 n s = m ∧ wrap64 m = m ∧ IntKind.i64.wrap m = m := by
  have hp : (2 : Int) ^ (7 * i) = 128 ^ i := by rw [Int.pow_mul]; rfl
  have hpos : (0 : Int) < 128 ^ i := Int.pow_pos (by decide)
  have hs0 : 0 ≤ s := by rw [← hs]; exact Int.mul_nonneg h0 (by omega)
  have hle : (128 : Int) ^ i ≤ 128 ^ 8 := by exact_mod_cast Nat.pow_le_pow_right (n := 128) (by decide) hi
  have hs1 : s ≤ 127 * 128 ^ i := by rw [← hs]; exact Int.mul_le_mul_of_nonneg_right h1 (by omega)
  refine ⟨?_, ?_, by unfold wrap64; omega, by rw [i64_w]; unfold wrap64; omega⟩
  · rw [hp, hs]; exact wraps_u64 _ hs0 (by omega)
  · rw [bits_or_comm, bits_join .u64 64 (by decide) wraps_u64 (7 * i) s n hs0 (by rw [hp, ← hs]; exact Int.mul_emod_left _ _) (by omega) hn0 (by rw [hp]; exact hn) (by omega)]
    omega
set_option maxHeartbeats 8000000 in
set_option maxRecDepth 100000 in
theorem decref_calls (A0 : Option Addr) (c0 : Nat) (l0 : List Int) (w : World) (hr0 : Kd.C (Kd.int .u8) w A0 l0.length l0) (hc0 : l0.length ≤ c0) (hw : ∀ x ∈ l0, 0 ≤ x ∧ x ≤ 255) :
    Calls Try.prog 21 #[.slice A0 l0.length c0] w fun e w' => e = .returned (decOut (decL l0 0 0)) ∧ Drawn0 w w' := by
  have HR0 := Aside0.mk hr0
  have HC0 := Aside0.mk hc0
  have HW := Aside0.mk hw
  clear hr0 hc0 hw
  obtain ⟨R, hR⟩ : ∃ R, decL l0 0 0 = R := ⟨_, rfl⟩
  rw [hR]
  have HRR := Aside0.mk hR
  clear hR
  go_enter Try.func21, Try.ntmps21
  go_wp2
  go_loopg [5, 6] l0.length (fun gk v5 v6 w' => ∃ (n : Int) (i : Nat), v5 = .int .u64 n ∧ v6 = .int .i64 (i : Int) ∧ i ≤ 8 ∧ i + gk = l0.length ∧ Aside0 (0 ≤ n ∧ n < 128 ^ i ∧ decL (l0.drop i) i n = R) ∧ Drawn0 w w')
  case atStart => exact ⟨0, 0, rfl, rfl, by omega, by omega, ⟨by omega, by decide, by simpa using HRR.out⟩, Drawn0.refl _⟩
  case round =>
    obtain ⟨n, i, rfl, rfl, hi8, hik, HA, ⟨m1, rfl⟩⟩ := hrel
    cases gk with
    | zero =>
      have hlt : ¬ (i : Int) < (l0.length : Int) := by omega
      have hd : decL (l0.drop i) i n = (0, 0, 3) := by rw [List.drop_of_length_le (by omega)]; rfl
      have H := Aside0.mk (hd.symm.trans HA.out.2.2)
      clear hd HA
      go_wp2
      go_ret3
      rw [← H.out]
      exact ⟨rfl, by repeat (first | exact Drawn0.refl _ | apply Drawn0.step)⟩
    | succ g =>
      have hlt : (i : Int) < (l0.length : Int) := by omega
      have hi0 : (0 : Int) ≤ i := by omega
      obtain ⟨c, hc⟩ : ∃ c, rd l0 (i : Int) = c := ⟨_, rfl⟩
      have hget : l0[i]? = some c := by
        rw [← hc]; unfold rd; rw [Int.toNat_natCast, List.getD_eq_getElem?_getD, List.getElem?_eq_getElem (by omega)]; rfl
      have hcb : 0 ≤ c ∧ c ≤ 255 := HW.out c (List.mem_of_getElem? hget)
      have hdrop : l0.drop i = c :: l0.drop (i + 1) := by
        obtain ⟨h1, h2⟩ := List.getElem?_eq_some_iff.1 hget
        rw [List.drop_eq_getElem_cons h1, h2]
      obtain ⟨ad, e115, hx⟩ := Kd.at_int HR0.out (i : Int) hi0 hlt
      cases e115
      rw [hc] at hx
      rw [Int.toNat_natCast] at hx
      clear hc hget
      have hd : decL (l0.drop i) i n = if c < 128 then (if (c = 0 ∧ 0 < i) ∨ n + c % 128 * 128 ^ i > 4611686018427387904 then (0, 0, 2) else (n + c % 128 * 128 ^ i, (i : Int) + 1, 0)) else if i = 8 then (0, 0, 2) else decL (l0.drop (i + 1)) (i + 1) (n + c % 128 * 128 ^ i) := by rw [hdrop]; rfl
      have HD := Aside0.mk (hd.symm.trans HA.out.2.2)
      have HN := Aside0.mk (And.intro HA.out.1 HA.out.2.1)
      clear hdrop hd HA
      obtain ⟨c7, hc7⟩ : ∃ c7 : Int, c % 128 = c7 := ⟨_, rfl⟩
      have hand : Go.bits .and .u8 c 127 = c7 := by rw [← hc7]; exact bits_mask .u8 8 (by decide) wraps_u8 7 (by decide) c hcb.1 (by omega)
      have hc7b : 0 ≤ c7 ∧ c7 ≤ 127 := by omega
      obtain ⟨s, hs⟩ : ∃ s : Int, c7 * 128 ^ i = s := ⟨_, rfl⟩
      obtain ⟨m, hm⟩ : ∃ m : Int, n + s = m := ⟨_, rfl⟩
      rw [hc7, hs, hm] at HD
      obtain ⟨hsb, hsh0, hor0, hmb⟩ := dec_step n c7 s m i hi8 HN.out.1 HN.out.2 hc7b.1 hc7b.2 hs hm
      obtain ⟨hsh, hor, hm64, hm64'⟩ := dec_step_u n c7 s m i hi8 HN.out.1 HN.out.2 hc7b.1 hc7b.2 hs hm
      have hu1 : IntKind.u64.wrap c7 = c7 := wraps_u64 _ hc7b.1 (by omega)
      have hu2 : IntKind.u64.wrap (7 * (i : Int)) = 7 * (i : Int) := wraps_u64 _ (by omega) (by omega)
      have hc70 := hc7b.1
      have hc71 := hc7b.2
      have hcb0 := hcb.1
      have hcb1 := hcb.2
      have hmb0 := hmb.1
      have HMB := Aside0.mk hmb
      clear hc7b hcb HN hc7 hs hm hsb hmb hsh0 hor0
      by_cases h128 : c < 128
      · have hb1 : decide (127 < c) = false := decide_eq_false (by omega)
        have HD1 := Aside0.mk (show (if (c = 0 ∧ 0 < i) ∨ m > 4611686018427387904 then (0, 0, 2) else (m, (i : Int) + 1, 0)) = R by have := HD.out; rw [if_pos h128] at this; exact this)
        clear HD
        by_cases hbad : c = 0 ∧ 0 < i
        · have H := Aside0.mk (show (0, 0, 2) = R by have := HD1.out; rw [if_pos (.inl hbad)] at this; exact this)
          have hb0 : (c == 0) = true := beq_iff_eq.mpr hbad.1
          have hbi : decide ((0 : Int) < (i : Int)) = true := decide_eq_true (by omega)
          have hbj : decide (0 < i) = true := decide_eq_true (by omega)
          clear HD1 hbad
          go_wp2
          go_ret3
          rw [← H.out]
          exact ⟨by first | rfl | (rw [show ((i : Int) + 1) = 9 by omega]; rfl), by repeat (first | exact Drawn0.refl _ | apply Drawn0.step)⟩
        · by_cases hbig : m > 4611686018427387904
          · have H := Aside0.mk (show (0, 0, 2) = R by have := HD1.out; rw [if_pos (.inr hbig)] at this; exact this)
            have hbm : decide (4611686018427387904 < m) = true := decide_eq_true hbig
            clear HD1 hbig
            by_cases h0 : c = 0
            · have hb0 : (c == 0) = true := beq_iff_eq.mpr h0
              have hbi : decide ((0 : Int) < (i : Int)) = false := decide_eq_false (by omega)
              have hbj : decide (0 < i) = false := decide_eq_false (by omega)
              have hij : i ≤ 0 := by omega
              clear h0 hbad
              go_wp2
              go_ret3
              rw [← H.out]
              exact ⟨by first | rfl | (rw [show ((i : Int) + 1) = 9 by omega]; rfl), by repeat (first | exact Drawn0.refl _ | apply Drawn0.step)⟩
            · have hb0 : (c == 0) = false := beq_eq_false_iff_ne.mpr h0
              clear h0 hbad
              go_wp2
              go_ret3
              rw [← H.out]
              exact ⟨by first | rfl | (rw [show ((i : Int) + 1) = 9 by omega]; rfl), by repeat (first | exact Drawn0.refl _ | apply Drawn0.step)⟩
          · have H := Aside0.mk (show (m, (i : Int) + 1, 0) = R by have := HD1.out; rw [if_neg (by omega)] at this; exact this)
            have hbm : decide (4611686018427387904 < m) = false := decide_eq_false hbig
            clear HD1 hbig
            by_cases h0 : c = 0
            · have hb0 : (c == 0) = true := beq_iff_eq.mpr h0
              have hbi : decide ((0 : Int) < (i : Int)) = false := decide_eq_false (by omega)
              have hbj : decide (0 < i) = false := decide_eq_false (by omega)
              have hij : i ≤ 0 := by omega
              clear h0 hbad
              go_wp2
              go_ret3
              rw [← H.out]
              exact ⟨by first | rfl | (rw [show ((i : Int) + 1) = 9 by omega]; rfl), by repeat (first | exact Drawn0.refl _ | apply Drawn0.step)⟩
            · have hb0 : (c == 0) = false := beq_eq_false_iff_ne.mpr h0
              clear h0 hbad
              go_wp2
              go_ret3
              rw [← H.out]
              exact ⟨by first | rfl | (rw [show ((i : Int) + 1) = 9 by omega]; rfl), by repeat (first | exact Drawn0.refl _ | apply Drawn0.step)⟩
      · by_cases h8 : i = 8
        · have H := Aside0.mk (show (0, 0, 2) = R by have := HD.out; rw [if_neg h128, if_pos h8] at this; exact this)
          have hb1 : decide (127 < c) = true := decide_eq_true (by omega)
          have hb8 : ((i : Int) == 8) = true := beq_iff_eq.mpr (by omega)
          clear HD h8
          go_wp2
          go_ret3
          rw [← H.out]
          exact ⟨by first | rfl | (rw [show ((i : Int) + 1) = 9 by omega]; rfl), by repeat (first | exact Drawn0.refl _ | apply Drawn0.step)⟩
        · have H := Aside0.mk (show decL (l0.drop (i + 1)) (i + 1) m = R by have := HD.out; rw [if_neg h128, if_neg h8] at this; exact this)
          have hb1 : decide (127 < c) = true := decide_eq_true (by omega)
          have hb8 : ((i : Int) == 8) = false := beq_eq_false_iff_ne.mpr (by omega)
          clear HD
          go_wp2
          go_roundg g
          case measure => omega
          case rel => exact ⟨m, i + 1, rfl, by go_num, by omega, by omega, ⟨HMB.out.1, HMB.out.2, H.out⟩, by repeat (first | exact Drawn0.refl _ | apply Drawn0.step)⟩
/-- The reference's DecodeUint, as the printed callers take it. -/
def pairingref8_DecodeUint.f (l0 : List Int) : Option (Int × Int × Int) := if ∀ x ∈ l0, 0 ≤ x ∧ x ≤ 255 then some (decL l0 0 0) else none
theorem pairingref8_DecodeUint.calls (A0 : Option Addr) (c0 : Nat) (l0 : List Int) (r1 : Int) (r2 : Int) (r3 : Int) (w : World) (hr0 : Kd.C (Kd.int .u8) w A0 l0.length l0) (hc0 : l0.length ≤ c0) (h : pairingref8_DecodeUint.f l0 = some (r1, r2, r3)) :
    Calls Try.prog 21 #[.slice A0 l0.length c0] w fun e w' => e = .returned (.tuple #[.int .i64 r1, .int .i64 r2, .int .i64 r3]) ∧ Drawn0 w w' := by
  unfold pairingref8_DecodeUint.f at h
  split at h
  · rename_i hb
    have hd := Option.some.inj h
    refine (decref_calls A0 c0 l0 w hr0 hc0 hb).mono fun e w' hh => ?_
    rw [hd] at hh
    exact hh
  · exact absurd h (by simp)
end Go.Proofs.Ytecomiapfaikbaa.H
