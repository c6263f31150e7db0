/- What the printed EncodeUint of the program and of the reference answer: the groups of the number. -/
import Derived.Test.YtecomiapfaikbaaWireA
import Derived.Test.YtecomiapfaikbaaQ1
import Derived.Test.YtecomiapfaikbaaQ1
import Derived.OpenShut
namespace Go.Proofs.Ytecomiapfaikbaa.WireB
open Go.RowKit Go.Proofs.Ytecomiapfaikbaa.H Go.Proofs.Ytecomiapfaikbaa.Q Go.Proofs.Ytecomiapfaikbaa.WireA Go.Proofs.YtecomiapfaikbaaW.PrintWords

theorem wire_l0 (j : Nat) : ∀ (k : Nat) (x : Int) (acc : List Int), 0 ≤ x → x < 128 ^ (j + 1) → j < k → acc.length + j + 1 < 140737488355328 →
    wire_EncodeUint.l0 k x acc = some (acc ++ encF j x, 0) := by
  induction j with
  | zero =>
    intro k x acc h0 h1 hk hl
    obtain ⟨k, rfl⟩ : ∃ m, k = m + 1 := ⟨k - 1, by omega⟩
    simp only [wire_EncodeUint.l0]
    rw [if_neg (by omega), if_pos (by omega)]
    rw [Int.emod_eq_of_lt h0 (by omega)]; rfl
  | succ j ih =>
    intro k x acc h0 h1 hk hl
    obtain ⟨k, rfl⟩ : ∃ m, k = m + 1 := ⟨k - 1, by omega⟩
    simp only [wire_EncodeUint.l0]
    by_cases h : x > 127
    · rw [if_pos h, if_pos (by omega), or128 _ (by omega) (by omega), ih k _ _ (by omega) (pow128 j x h1) (by omega) (by simp; omega)]
      simp only [encF]
      rw [if_pos h, List.append_assoc, show x % 256 % 128 = x % 128 by omega]; rfl
    · rw [if_neg h, if_pos (by omega), encF_small _ _ (by omega), Int.emod_eq_of_lt h0 (by omega)]
theorem enc_wire (k : Nat) (hk : 12 ≤ k) (x : Int) (h0 : 0 ≤ x) (h1 : x ≤ 4611686018427387904) : wire_EncodeUint.f k x = some (enc x, 0) := by
  obtain ⟨k, rfl⟩ : ∃ m, k = m + 1 := ⟨k - 1, by omega⟩
  unfold wire_EncodeUint.f
  rw [if_neg (by omega), decide_eq_false (by omega)]
  simp only [wire_EncodeUint.j0]
  rw [if_neg (by simp), wire_l0 8 k x [] h0 (by omega) (by omega) (by simp)]; rfl
theorem enc_wire_no (k : Nat) (hk : 1 ≤ k) (x : Int) (h : x < 0 ∨ x > 4611686018427387904) : wire_EncodeUint.f k x = some ([], 5) := by
  obtain ⟨k, rfl⟩ : ∃ m, k = m + 1 := ⟨k - 1, by omega⟩
  unfold wire_EncodeUint.f
  split
  · simp only [wire_EncodeUint.j0, if_true]
  · rw [decide_eq_true (by omega)]; simp only [wire_EncodeUint.j0, if_true]
theorem uint0_l0 (j : Nat) : ∀ (k : Nat) (x : Int) (acc : List Int), 0 ≤ x → x < 9223372036854775808 → x < 128 ^ (j + 1) → j < k → acc.length + j + 1 < 140737488355328 →
    pairingref8_uint0.l0 k x acc = some (acc ++ encF j x) := by
  induction j with
  | zero =>
    intro k x acc h0 hb h1 hk hl
    obtain ⟨k, rfl⟩ : ∃ m, k = m + 1 := ⟨k - 1, by omega⟩
    simp only [pairingref8_uint0.l0]
    rw [if_neg (by omega), if_pos (by omega), Int.emod_eq_of_lt h0 (by omega)]; rfl
  | succ j ih =>
    intro k x acc h0 hb h1 hk hl
    obtain ⟨k, rfl⟩ : ∃ m, k = m + 1 := ⟨k - 1, by omega⟩
    simp only [pairingref8_uint0.l0]
    by_cases h : x > 127
    · rw [if_pos h, if_pos (by omega), and127 _ h0 hb, or128 _ (by omega) (by omega), ih k _ _ (by omega) (by omega) (pow128 j x h1) (by omega) (by simp; omega)]
      simp only [encF]
      rw [if_pos h, List.append_assoc, show x % 128 % 256 % 128 = x % 128 by omega]; rfl
    · rw [if_neg h, if_pos (by omega), encF_small _ _ (by omega), Int.emod_eq_of_lt h0 (by omega)]
theorem uint0_ref (k : Nat) (hk : 12 ≤ k) (x : Int) (h0 : 0 ≤ x) (h1 : x ≤ 4611686018427387904) : pairingref8_uint0.f k x = some (enc x) := by
  unfold pairingref8_uint0.f
  rw [uint0_l0 8 k x [] h0 (by omega) (by omega) (by omega) (by simp)]; rfl
theorem wf_u8 {x : Int} (h : (Lit.int .u8 x).wf = true) : 0 ≤ x ∧ x ≤ 255 := by
  have := bounds_u8 h
  omega
theorem wf_bytes {l : List Int} (h : ∀ x ∈ l, (Lit.int .u8 x).wf = true) : ∀ x ∈ l, 0 ≤ x ∧ x ≤ 255 := fun x hx => wf_u8 (h x hx)
end Go.Proofs.Ytecomiapfaikbaa.WireB
