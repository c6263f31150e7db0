/- WireTexts: for every string and int, EncodeText of the program returns the reference's bytes and error. Conditions: none. -/
import Derived.Test.YtecomiapfaikbaaPWireTextsx1
import Derived.Laws.BitsLemmas
namespace Go.Proofs.Ytecomiapfaikbaa.Pure
open Go.RowKit Go.Proofs.Ytecomiapfaikbaa.PWireTexts Go.Proofs.YtecomiapfaikbaaW.PrintWords Go.Proofs.YtecomiapfaikbaaW.PrintLast Go.Proofs.YtecomiapfaikbaaW.PrintMore

/-! ### the groups of a number -/
theorem or128 (x : Int) (h0 : 0 ≤ x) (h : x < 256) : Go.bits .or .u8 x 128 = x % 128 + 128 := by
  obtain ⟨a, rfl⟩ := Int.eq_ofNat_of_zero_le h0
  have ha : a < 256 := by omega
  have h1 := (bits_nat .u8 8 (by decide) wraps_u8 a 128 (by omega) (by omega)).2
  have h2 : ∀ a : Fin 256, a.val ||| 128 = a.val % 128 + 128 := by decide +kernel
  rw [h2 ⟨a, ha⟩] at h1
  have h3 : Go.bits .or .u8 (a : Int) 128 = ((a % 128 + 128 : Nat) : Int) := h1
  rw [h3]
  omega
theorem wraps_i64 (n : Int) (h0 : 0 ≤ n) (h1 : n < 2 ^ 63) : IntKind.i64.wrap n = n := by rw [IntKind.wrap_i64]; omega
theorem and127 (x : Int) (h0 : 0 ≤ x) (h1 : x < 9223372036854775808) : Go.bits .and .i64 x 127 = x % 128 :=
  bits_mask .i64 63 (by decide) wraps_i64 7 (by decide) x h0 (by omega)
/-- The groups of seven bits of a number below 128 ^ (j + 1). -/
def encF : Nat → Int → List Int
  | 0, x => [x]
  | j + 1, x => if x > 127 then (x % 128 + 128) :: encF j (x / 128) else [x]
theorem encF_small (j : Nat) (x : Int) (h : x ≤ 127) : encF j x = [x] := by
  cases j with
  | zero => rfl
  | succ j => simp only [encF]; rw [if_neg (by omega)]
theorem encF_length (j : Nat) : ∀ x, (encF j x).length ≤ j + 1 ∧ 1 ≤ (encF j x).length := by
  induction j with
  | zero => intro x; simp [encF]
  | succ j ih =>
    intro x
    simp only [encF]
    split
    · have := ih (x / 128); simp; omega
    · simp
theorem pow128 (j : Nat) (x : Int) (h : x < 128 ^ (j + 1 + 1)) : x / 128 < 128 ^ (j + 1) := by
  rw [Int.pow_succ] at h
  omega

theorem wire_l0 (j : Nat) : ∀ (k : Nat) (x : Int) (acc : List Int), 0 ≤ x → x < 128 ^ (j + 1) → j < k → acc.length + j + 1 < 140737488355328 →
    wire_EncodeUint.l0 k x acc = some (acc ++ encF j x, 0) := by
  induction j with
  | zero =>
    intro k x acc h0 h1 hk hl
    obtain ⟨k, rfl⟩ : ∃ m, k = m + 1 := ⟨k - 1, by omega⟩
    simp only [wire_EncodeUint.l0]
    rw [if_neg (by omega), if_pos (by omega)]
    rw [Int.emod_eq_of_lt h0 (by omega)]; rfl
  | succ j ih =>
    intro k x acc h0 h1 hk hl
    obtain ⟨k, rfl⟩ : ∃ m, k = m + 1 := ⟨k - 1, by omega⟩
    simp only [wire_EncodeUint.l0]
    by_cases h : x > 127
    · rw [if_pos h, if_pos (by omega), or128 _ (by omega) (by omega), ih k _ _ (by omega) (pow128 j x h1) (by omega) (by simp; omega)]
      simp only [encF]
      rw [if_pos h, List.append_assoc, show x % 256 % 128 = x % 128 by omega]; rfl
    · rw [if_neg h, if_pos (by omega), encF_small _ _ (by omega), Int.emod_eq_of_lt h0 (by omega)]
theorem enc_wire (k : Nat) (hk : 12 ≤ k) (x : Int) (h0 : 0 ≤ x) (h1 : x ≤ 4611686018427387904) : wire_EncodeUint.f k x = some (encF 8 x, 0) := by
  obtain ⟨k, rfl⟩ : ∃ m, k = m + 1 := ⟨k - 1, by omega⟩
  unfold wire_EncodeUint.f
  rw [if_neg (by omega), decide_eq_false (by omega)]
  simp only [wire_EncodeUint.j0]
  rw [if_neg (by simp), wire_l0 8 k x [] h0 (by omega) (by omega) (by simp)]; rfl
theorem enc_wire_no (k : Nat) (hk : 1 ≤ k) (x : Int) (h : x < 0 ∨ x > 4611686018427387904) : wire_EncodeUint.f k x = some ([], 5) := by
  obtain ⟨k, rfl⟩ : ∃ m, k = m + 1 := ⟨k - 1, by omega⟩
  unfold wire_EncodeUint.f
  split
  · simp only [wire_EncodeUint.j0, if_true]
  · rw [decide_eq_true (by omega)]; simp only [wire_EncodeUint.j0, if_true]
theorem same_self (l : List Int) : pairinglaw8_Same.f l l = some true := by simp [pairinglaw8_Same.f]
theorem awake_yes (k : Nat) (hk : 12 ≤ k) : pairinglaw8_awake.f k = some true := by
  unfold pairinglaw8_awake.f
  rw [enc_wire k hk 300 (by omega) (by omega), show encF 8 300 = [172, 2] by decide]
  simp only [Option.bind_some, if_true, same_self]

theorem uint0_l0 (j : Nat) : ∀ (k : Nat) (x : Int) (acc : List Int), 0 ≤ x → x < 9223372036854775808 → x < 128 ^ (j + 1) → j < k → acc.length + j + 1 < 140737488355328 →
    pairingref8_uint0.l0 k x acc = some (acc ++ encF j x) := by
  induction j with
  | zero =>
    intro k x acc h0 hb h1 hk hl
    obtain ⟨k, rfl⟩ : ∃ m, k = m + 1 := ⟨k - 1, by omega⟩
    simp only [pairingref8_uint0.l0]
    rw [if_neg (by omega), if_pos (by omega), Int.emod_eq_of_lt h0 (by omega)]; rfl
  | succ j ih =>
    intro k x acc h0 hb h1 hk hl
    obtain ⟨k, rfl⟩ : ∃ m, k = m + 1 := ⟨k - 1, by omega⟩
    simp only [pairingref8_uint0.l0]
    by_cases h : x > 127
    · rw [if_pos h, if_pos (by omega), and127 _ h0 hb, or128 _ (by omega) (by omega), ih k _ _ (by omega) (by omega) (pow128 j x h1) (by omega) (by simp; omega)]
      simp only [encF]
      rw [if_pos h, List.append_assoc, show x % 128 % 256 % 128 = x % 128 by omega]; rfl
    · rw [if_neg h, if_pos (by omega), encF_small _ _ (by omega), Int.emod_eq_of_lt h0 (by omega)]
theorem uint0_ref (k : Nat) (hk : 12 ≤ k) (x : Int) (h0 : 0 ≤ x) (h1 : x ≤ 4611686018427387904) : pairingref8_uint0.f k x = some (encF 8 x) := by
  unfold pairingref8_uint0.f
  rw [uint0_l0 8 k x [] h0 (by omega) (by omega) (by omega) (by simp)]; rfl

theorem text_law (k : Nat) (hk : 14 ≤ k) (s : ByteArray) (hs : s.size ≤ 140737488351232) : ∃ r, wire_EncodeText.f k s = some r ∧ pairingref8_EncodeText.f k s = some r := by
  unfold wire_EncodeText.f pairingref8_EncodeText.f
  by_cases h : (s.size : Int) > 20000
  · rw [if_pos h, if_pos h]
    exact ⟨_, rfl, rfl⟩
  · have hl := (encF_length 8 (s.size : Int)).1
    rw [if_neg h, if_neg h, enc_wire k (by omega) _ (by omega) (by omega)]
    simp only [Option.bind_some]
    rw [if_pos (by omega), uint0_ref k (by omega) _ (by omega) (by omega)]
    simp only [Option.bind_some]
    rw [if_pos (by omega)]
    exact ⟨_, rfl, rfl⟩
theorem and3 (x : Int) : 0 ≤ Go.bits .and .i64 x 3 ∧ Go.bits .and .i64 x 3 ≤ 3 := by
  have h1 : (BitVec.ofInt 64 x &&& BitVec.ofInt 64 3).toNat ≤ 3 := by
    rw [BitVec.toNat_and]
    exact Nat.le_trans Nat.and_le_right (by decide)
  have h2 : Go.bits .and .i64 x 3 = IntKind.i64.wrap ((BitVec.ofInt 64 x &&& BitVec.ofInt 64 3).toNat : Int) := rfl
  rw [h2, wraps_i64 _ (by omega) (by omega)]
  omega
theorem str_size (l : List Int) : (strOfNums l).size = l.length := by simp [strOfNums, ByteArray.size]
theorem WireTexts : pairinglaw8_WireTexts.Pure := by
  intro s x hs _
  refine ⟨14, ?_⟩
  unfold pairinglaw8_WireTexts.f
  by_cases h : (s.size : Int) > 3000
  · rw [if_pos h, awake_yes 14 (by omega)]; rfl
  · rw [if_neg h]
    have h3 := and3 x
    generalize Go.bits .and .i64 x 3 = y at h3
    have w1 : wrap64 (wrap64 (20000 + y) - 1) = 19999 + y := by unfold wrap64; omega
    rw [w1, if_pos (by omega), if_pos (by omega)]
    simp only [Option.bind_some]
    obtain ⟨r, h1, h2⟩ := text_law 14 (by omega) s hs
    obtain ⟨q, h4, h5⟩ := text_law 14 (by omega) (strOfNums (List.replicate (19999 + y).toNat 0)) (by rw [str_size, List.length_replicate]; omega)
    simp only [h1, h2, h4, h5, Option.bind_some, if_true, same_self, awake_yes 14 (by omega)]

end Go.Proofs.Ytecomiapfaikbaa.Pure
