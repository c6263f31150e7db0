/- WireNumbers: for every int, EncodeUint and EncodeInt of the program return the reference's bytes and error. Conditions: none. -/
import Derived.Test.YtecomiapfaikbaaPWireNumbersx1
import Derived.Laws.BitsLemmas
namespace Go.Proofs.Ytecomiapfaikbaa.Pure
open Go.RowKit Go.Proofs.Ytecomiapfaikbaa.PWireNumbers Go.Proofs.YtecomiapfaikbaaW.PrintWords Go.Proofs.YtecomiapfaikbaaW.PrintLast Go.Proofs.YtecomiapfaikbaaW.PrintMore

/-! ### the groups of a number -/
theorem or128 (x : Int) (h0 : 0 ≤ x) (h : x < 256) : Go.bits .or .u8 x 128 = x % 128 + 128 := by
  obtain ⟨a, rfl⟩ := Int.eq_ofNat_of_zero_le h0
  have ha : a < 256 := by omega
  have h1 := (bits_nat .u8 8 (by decide) wraps_u8 a 128 (by omega) (by omega)).2
  have h2 : ∀ a : Fin 256, a.val ||| 128 = a.val % 128 + 128 := by decide +kernel
  rw [h2 ⟨a, ha⟩] at h1
  have h3 : Go.bits .or .u8 (a : Int) 128 = ((a % 128 + 128 : Nat) : Int) := h1
  rw [h3]
  omega
theorem wraps_i64 (n : Int) (h0 : 0 ≤ n) (h1 : n < 2 ^ 63) : IntKind.i64.wrap n = n := by rw [IntKind.wrap_i64]; omega
theorem and127 (x : Int) (h0 : 0 ≤ x) (h1 : x < 9223372036854775808) : Go.bits .and .i64 x 127 = x % 128 :=
  bits_mask .i64 63 (by decide) wraps_i64 7 (by decide) x h0 (by omega)
/-- The groups of seven bits of a number below 128 ^ (j + 1). -/
def encF : Nat → Int → List Int
  | 0, x => [x]
  | j + 1, x => if x > 127 then (x % 128 + 128) :: encF j (x / 128) else [x]
theorem encF_small (j : Nat) (x : Int) (h : x ≤ 127) : encF j x = [x] := by
  cases j with
  | zero => rfl
  | succ j => simp only [encF]; rw [if_neg (by omega)]
theorem encF_length (j : Nat) : ∀ x, (encF j x).length ≤ j + 1 ∧ 1 ≤ (encF j x).length := by
  induction j with
  | zero => intro x; simp [encF]
  | succ j ih =>
    intro x
    simp only [encF]
    split
    · have := ih (x / 128); simp; omega
    · simp
theorem pow128 (j : Nat) (x : Int) (h : x < 128 ^ (j + 1 + 1)) : x / 128 < 128 ^ (j + 1) := by
  rw [Int.pow_succ] at h
  omega

theorem wire_l0 (j : Nat) : ∀ (k : Nat) (x : Int) (acc : List Int), 0 ≤ x → x < 128 ^ (j + 1) → j < k → acc.length + j + 1 < 140737488355328 →
    wire_EncodeUint.l0 k x acc = some (acc ++ encF j x, 0) := by
  induction j with
  | zero =>
    intro k x acc h0 h1 hk hl
    obtain ⟨k, rfl⟩ : ∃ m, k = m + 1 := ⟨k - 1, by omega⟩
    simp only [wire_EncodeUint.l0]
    rw [if_neg (by omega), if_pos (by omega)]
    rw [Int.emod_eq_of_lt h0 (by omega)]; rfl
  | succ j ih =>
    intro k x acc h0 h1 hk hl
    obtain ⟨k, rfl⟩ : ∃ m, k = m + 1 := ⟨k - 1, by omega⟩
    simp only [wire_EncodeUint.l0]
    by_cases h : x > 127
    · rw [if_pos h, if_pos (by omega), or128 _ (by omega) (by omega), ih k _ _ (by omega) (pow128 j x h1) (by omega) (by simp; omega)]
      simp only [encF]
      rw [if_pos h, List.append_assoc, show x % 256 % 128 = x % 128 by omega]; rfl
    · rw [if_neg h, if_pos (by omega), encF_small _ _ (by omega), Int.emod_eq_of_lt h0 (by omega)]
theorem enc_wire (k : Nat) (hk : 12 ≤ k) (x : Int) (h0 : 0 ≤ x) (h1 : x ≤ 4611686018427387904) : wire_EncodeUint.f k x = some (encF 8 x, 0) := by
  obtain ⟨k, rfl⟩ : ∃ m, k = m + 1 := ⟨k - 1, by omega⟩
  unfold wire_EncodeUint.f
  rw [if_neg (by omega), decide_eq_false (by omega)]
  simp only [wire_EncodeUint.j0]
  rw [if_neg (by simp), wire_l0 8 k x [] h0 (by omega) (by omega) (by simp)]; rfl
theorem enc_wire_no (k : Nat) (hk : 1 ≤ k) (x : Int) (h : x < 0 ∨ x > 4611686018427387904) : wire_EncodeUint.f k x = some ([], 5) := by
  obtain ⟨k, rfl⟩ : ∃ m, k = m + 1 := ⟨k - 1, by omega⟩
  unfold wire_EncodeUint.f
  split
  · simp only [wire_EncodeUint.j0, if_true]
  · rw [decide_eq_true (by omega)]; simp only [wire_EncodeUint.j0, if_true]
theorem same_self (l : List Int) : pairinglaw8_Same.f l l = some true := by simp [pairinglaw8_Same.f]
theorem awake_yes (k : Nat) (hk : 12 ≤ k) : pairinglaw8_awake.f k = some true := by
  unfold pairinglaw8_awake.f
  rw [enc_wire k hk 300 (by omega) (by omega), show encF 8 300 = [172, 2] by decide]
  simp only [Option.bind_some, if_true, same_self]

theorem uint0_l0 (j : Nat) : ∀ (k : Nat) (x : Int) (acc : List Int), 0 ≤ x → x < 9223372036854775808 → x < 128 ^ (j + 1) → j < k → acc.length + j + 1 < 140737488355328 →
    pairingref8_uint0.l0 k x acc = some (acc ++ encF j x) := by
  induction j with
  | zero =>
    intro k x acc h0 hb h1 hk hl
    obtain ⟨k, rfl⟩ : ∃ m, k = m + 1 := ⟨k - 1, by omega⟩
    simp only [pairingref8_uint0.l0]
    rw [if_neg (by omega), if_pos (by omega), Int.emod_eq_of_lt h0 (by omega)]; rfl
  | succ j ih =>
    intro k x acc h0 hb h1 hk hl
    obtain ⟨k, rfl⟩ : ∃ m, k = m + 1 := ⟨k - 1, by omega⟩
    simp only [pairingref8_uint0.l0]
    by_cases h : x > 127
    · rw [if_pos h, if_pos (by omega), and127 _ h0 hb, or128 _ (by omega) (by omega), ih k _ _ (by omega) (by omega) (pow128 j x h1) (by omega) (by simp; omega)]
      simp only [encF]
      rw [if_pos h, List.append_assoc, show x % 128 % 256 % 128 = x % 128 by omega]; rfl
    · rw [if_neg h, if_pos (by omega), encF_small _ _ (by omega), Int.emod_eq_of_lt h0 (by omega)]
theorem uint0_ref (k : Nat) (hk : 12 ≤ k) (x : Int) (h0 : 0 ≤ x) (h1 : x ≤ 4611686018427387904) : pairingref8_uint0.f k x = some (encF 8 x) := by
  unfold pairingref8_uint0.f
  rw [uint0_l0 8 k x [] h0 (by omega) (by omega) (by omega) (by simp)]; rfl

theorem uint_law (k : Nat) (hk : 14 ≤ k) (x : Int) : ∃ r, wire_EncodeUint.f k x = some r ∧ pairingref8_EncodeUint.f k x = some r := by
  by_cases h : 0 ≤ x ∧ x ≤ 4611686018427387904
  · refine ⟨_, enc_wire k (by omega) x h.1 h.2, ?_⟩
    unfold pairingref8_EncodeUint.f
    rw [if_neg (by omega), if_neg (by omega), uint0_ref k (by omega) x h.1 h.2]; rfl
  · refine ⟨_, enc_wire_no k (by omega) x (by omega), ?_⟩
    unfold pairingref8_EncodeUint.f
    split
    · rfl
    · rw [if_pos (by omega)]
theorem int_law (k : Nat) (hk : 14 ≤ k) (x : Int) : ∃ r, wire_EncodeInt.f k x = some r ∧ pairingref8_EncodeInt.f k x = some r := by
  obtain ⟨k, rfl⟩ : ∃ m, k = m + 1 := ⟨k - 1, by omega⟩
  unfold wire_EncodeInt.f pairingref8_EncodeInt.f
  by_cases h : -2305843009213693952 ≤ x ∧ x ≤ 2305843009213693952
  · rw [if_neg (by omega), if_neg (by omega), decide_eq_false (by omega)]
    simp only [wire_EncodeInt.j0, pairingref8_EncodeInt.j0, pairingref8_zigzag.f]
    have w1 : wrap64 (2 * x) = 2 * x := by unfold wrap64; omega
    have w2 : wrap64 ((-2) * x) = (-2) * x := by unfold wrap64; omega
    have w3 : wrap64 ((-2) * x - 1) = (-2) * x - 1 := by unfold wrap64; omega
    rw [w1, w2, w3]
    simp only [Bool.false_eq_true, if_false]
    by_cases hx : x < 0
    · rw [if_pos hx, if_neg (show ¬ x ≥ 0 by omega), enc_wire k (by omega) _ (by omega) (by omega)]
      simp only [Option.bind_some]
      rw [uint0_ref k (by omega) _ (by omega) (by omega)]
      exact ⟨_, rfl, rfl⟩
    · rw [if_neg hx, if_pos (show x ≥ 0 by omega), enc_wire k (by omega) _ (by omega) (by omega)]
      simp only [Option.bind_some]
      rw [uint0_ref k (by omega) _ (by omega) (by omega)]
      exact ⟨_, rfl, rfl⟩
  · by_cases hx : x < -2305843009213693952
    · rw [if_pos hx, if_pos hx]
      exact ⟨([], 5), rfl, rfl⟩
    · rw [if_neg hx, if_neg hx, decide_eq_true (by omega)]
      exact ⟨([], 5), rfl, rfl⟩
theorem WireNumbers : pairinglaw8_WireNumbers.Pure := by
  intro x _
  refine ⟨14, ?_⟩
  obtain ⟨r, h1, h2⟩ := uint_law 14 (by omega) x
  obtain ⟨q, h3, h4⟩ := int_law 14 (by omega) x
  unfold pairinglaw8_WireNumbers.f
  simp only [h1, h2, h3, h4, Option.bind_some, if_true, same_self, awake_yes 14 (by omega)]

end Go.Proofs.Ytecomiapfaikbaa.Pure
