/- Plain laws of the wire layer: the groups of a number and back; the checksum bit by bit and by its table; what Unframe and the reference's Unframe answer is the same. -/
import Derived.Test.YtecomiapfaikbaaHFrm
namespace Go.Proofs.Ytecomiapfaikbaa.WireA
open Go.RowKit Go.Proofs.Ytecomiapfaikbaa.H Go.Proofs.YtecomiapfaikbaaW.PrintWords

/-! ### groups -/
/-- The groups of seven bits of a number below 128 ^ (j + 1). -/
def encF : Nat → Int → List Int
  | 0, x => [x]
  | j + 1, x => if x > 127 then (x % 128 + 128) :: encF j (x / 128) else [x]
theorem encF_small (j : Nat) (x : Int) (h : x ≤ 127) : encF j x = [x] := by
  cases j with
  | zero => rfl
  | succ j => simp only [encF]; rw [if_neg (by omega)]
theorem encF_length (j : Nat) : ∀ x, (encF j x).length ≤ j + 1 ∧ 1 ≤ (encF j x).length := by
  induction j with
  | zero => intro x; simp [encF]
  | succ j ih =>
    intro x
    simp only [encF]
    split
    · have := ih (x / 128); simp; omega
    · simp
theorem pow128 (j : Nat) (x : Int) (h : x < 128 ^ (j + 1 + 1)) : x / 128 < 128 ^ (j + 1) := by
  rw [Int.pow_succ] at h
  omega
theorem encF_bytes (j : Nat) : ∀ x : Int, 0 ≤ x → x < 128 ^ (j + 1) → ∀ c ∈ encF j x, 0 ≤ c ∧ c ≤ 255 := by
  induction j with
  | zero =>
    intro x h0 h1 c hc
    simp only [encF, List.mem_singleton] at hc
    omega
  | succ j ih =>
    intro x h0 h1 c hc
    simp only [encF] at hc
    split at hc
    · rcases List.mem_cons.1 hc with rfl | hc
      · omega
      · exact ih _ (by omega) (pow128 j x h1) c hc
    · simp only [List.mem_singleton] at hc
      omega
theorem dec_enc (j : Nat) : ∀ (x n : Int) (i : Nat) (rest : List Int), 0 ≤ x → x < 128 ^ (j + 1) → i + j ≤ 8 → 0 ≤ n → n + x * 128 ^ i ≤ 4611686018427387904 → (x ≠ 0 ∨ i = 0) →
    decL (encF j x ++ rest) i n = (n + x * 128 ^ i, (i : Int) + (encF j x).length, 0) := by
  induction j with
  | zero =>
    intro x n i rest h0 h1 hij hn hb hx
    simp only [encF, List.cons_append, List.nil_append, decL]
    have hx1 : x < 128 := by omega
    rw [if_pos hx1, Int.emod_eq_of_lt h0 hx1, if_neg (by rintro (⟨a, b⟩ | h); omega; omega)]
    simp
  | succ j ih =>
    intro x n i rest h0 h1 hij hn hb hx
    simp only [encF]
    have hp : (0 : Int) < 128 ^ i := Int.pow_pos (by decide)
    by_cases h : x > 127
    · rw [if_pos h]
      simp only [List.cons_append, decL]
      rw [if_neg (by omega), if_neg (by omega), show (x % 128 + 128) % 128 = x % 128 by omega]
      have e1 : x / 128 * 128 ^ (i + 1) = x / 128 * 128 * 128 ^ i := by rw [Int.pow_succ, Int.mul_comm (128 ^ i) 128, Int.mul_assoc]
      have e2 : n + x % 128 * 128 ^ i + x / 128 * 128 ^ (i + 1) = n + x * 128 ^ i := by
        rw [e1, Int.add_assoc, ← Int.add_mul, show x % 128 + x / 128 * 128 = x by omega]
      have e3 : 0 ≤ x % 128 * 128 ^ i := Int.mul_nonneg (by omega) (by omega)
      rw [ih (x / 128) _ (i + 1) rest (by omega) (pow128 j x h1) (by omega) (by omega) (by rw [e2]; exact hb) (by left; omega), e2]
      simp only [List.length_cons]
      congr 2
      omega
    · rw [if_neg h]
      simp only [List.cons_append, List.nil_append, decL]
      have hx1 : x < 128 := by omega
      rw [if_pos hx1, Int.emod_eq_of_lt h0 hx1, if_neg (by rintro (⟨a, b⟩ | h); omega; omega)]
      simp
theorem dec_cut (j : Nat) : ∀ (x n : Int) (i m : Nat), i + j ≤ 8 → m < (encF j x).length → decL ((encF j x).take m) i n = (0, 0, 3) := by
  induction j with
  | zero =>
    intro x n i m _ hm
    simp only [encF, List.length_singleton] at hm
    obtain rfl : m = 0 := by omega
    rfl
  | succ j ih =>
    intro x n i m hij hm
    simp only [encF] at hm ⊢
    by_cases h : x > 127
    · rw [if_pos h] at hm ⊢
      cases m with
      | zero => rfl
      | succ m =>
        simp only [List.take_succ_cons, decL]
        rw [if_neg (by omega), if_neg (by omega)]
        exact ih _ _ (i + 1) m (by omega) (by simpa using hm)
    · rw [if_neg h] at hm ⊢
      simp only [List.length_singleton] at hm
      obtain rfl : m = 0 := by omega
      rfl
/-- The groups of a number from 0 to 2^62. -/
def enc (x : Int) : List Int := encF 8 x
theorem enc_len (x : Int) : (enc x).length ≤ 9 ∧ 1 ≤ (enc x).length := encF_length 8 x
theorem enc_bytes (x : Int) (h0 : 0 ≤ x) (h1 : x ≤ 4611686018427387904) : ∀ c ∈ enc x, 0 ≤ c ∧ c ≤ 255 := encF_bytes 8 x h0 (by omega)
theorem decL_enc (x : Int) (rest : List Int) (h0 : 0 ≤ x) (h1 : x ≤ 4611686018427387904) : decL (enc x ++ rest) 0 0 = (x, ((enc x).length : Int), 0) := by
  have h := dec_enc 8 x 0 0 rest h0 (by omega) (by omega) (by omega) (by simp; omega) (.inr rfl)
  unfold enc
  rw [h]
  simp
theorem decL_cut (x : Int) (m : Nat) (h : m < (enc x).length) : decL ((enc x).take m) 0 0 = (0, 0, 3) := dec_cut 8 x 0 0 m (by omega) h

/-! ### the checksum -/
theorem xor_div2 (a b : Nat) : (a ^^^ b) / 2 = a / 2 ^^^ b / 2 := by
  apply Nat.eq_of_testBit_eq
  intro i
  simp [Nat.testBit_div_two]
theorem xor_mod2 (a b : Nat) : (a ^^^ b) % 2 = (a % 2 + b % 2) % 2 := by
  have h := Nat.xor_mod_two_pow (a := a) (b := b) (n := 1)
  simp only [Nat.pow_one] at h
  rw [h]
  rcases Nat.mod_two_eq_zero_or_one a with h1 | h1 <;> rcases Nat.mod_two_eq_zero_or_one b with h2 | h2 <;> rw [h1, h2] <;> rfl
theorem xlc (a b c : Nat) : a ^^^ (b ^^^ c) = b ^^^ (a ^^^ c) := by rw [← Nat.xor_assoc, Nat.xor_comm a b, Nat.xor_assoc]
theorem cstep_xor (a b : Nat) : cstep (a ^^^ b) = cstep a ^^^ cstep b := by
  unfold cstep
  rw [xor_mod2, xor_div2]
  rcases Nat.mod_two_eq_zero_or_one a with h1 | h1 <;> rcases Nat.mod_two_eq_zero_or_one b with h2 | h2 <;> rw [h1, h2]
  · simp
  · simp [Nat.xor_assoc]
  · simp only [if_true, show (1 + 0) % 2 = 1 from rfl, show ¬ (0 = 1) by decide, if_false]
    rw [Nat.xor_assoc, Nat.xor_assoc, Nat.xor_comm (b / 2)]
  · simp only [if_true, Nat.reduceAdd, Nat.reduceMod, show ¬ (0 = 1) by decide, if_false]
    rw [Nat.xor_assoc, xlc 2197175160, Nat.xor_self, Nat.xor_zero]
theorem citer_xor (k a b : Nat) : citer k (a ^^^ b) = citer k a ^^^ citer k b := by
  induction k with
  | zero => rfl
  | succ k ih => show cstep (citer k (a ^^^ b)) = _; rw [ih, cstep_xor]; rfl
theorem cstep_even (m : Nat) : cstep (2 * m) = m := by unfold cstep; rw [if_neg (by omega)]; omega
theorem citer_high (h : Nat) : citer 8 (256 * h) = h := by
  simp only [citer]
  rw [show 256 * h = 2 * (2 * (2 * (2 * (2 * (2 * (2 * (2 * h))))))) by omega]
  simp only [cstep_even]
theorem split256 (x : Nat) : x = 256 * (x / 256) ^^^ x % 256 := by
  apply Nat.eq_of_testBit_eq
  intro i
  rw [Nat.testBit_xor, show (256 : Nat) = 2 ^ 8 from rfl, Nat.testBit_two_pow_mul, Nat.testBit_mod_two_pow, Nat.testBit_div_two_pow]
  by_cases h : i < 8
  · simp [h, show ¬ 8 ≤ i by omega]
  · simp [h, show 8 ≤ i by omega, show i - 8 + 8 = i by omega]
theorem byte_step (x c : Nat) : citer 8 (x ^^^ c) = x / 256 ^^^ citer 8 (x % 256 ^^^ c) := by
  conv => lhs; rw [split256 x]
  rw [Nat.xor_assoc, citer_xor, citer_high]
theorem crc_nil (x : Nat) : crcFold x [] = x := by rfl
theorem crc_cons (x : Nat) (c : Int) (t : List Int) : crcFold x (c :: t) = crcFold (x / 256 ^^^ citer 8 (x % 256 ^^^ c.toNat)) t := by rfl
theorem ref_nil (x : Nat) : refFold x [] = x := by rfl
theorem ref_cons (x : Nat) (c : Int) (t : List Int) : refFold x (c :: t) = refFold (citer 8 (x ^^^ c.toNat)) t := by rfl
theorem folds_same (l : List Int) : ∀ x, crcFold x l = refFold x l := by
  induction l with
  | nil => intro x; rw [crc_nil, ref_nil]
  | cons c t ih => intro x; rw [crc_cons, ref_cons, ← byte_step, ih]
theorem sums_same (l : List Int) : crcSum l = 4294967295 - ((refFold 4294967295 l : Nat) : Int) := congrArg (fun x : Nat => (4294967295 : Int) - (x : Int)) (folds_same l 4294967295)
theorem sum_range (l : List Int) (h : ∀ c ∈ l, 0 ≤ c ∧ c ≤ 255) : 0 ≤ crcSum l ∧ crcSum l ≤ 4294967295 := by
  have := crcFold_lt l 4294967295 (by decide) h
  unfold crcSum
  omega
theorem sum_known : crcSum [49, 50, 51, 52, 53, 54, 55, 56, 57] = 3808858755 := by decide +kernel

/-! ### frames -/
theorem take4 (l : List Int) (e : Nat) (h : e + 4 ≤ l.length) : (l.drop e).take 4 = [rd l e, rd l (e + 1), rd l (e + 2), rd l (e + 3)] := by
  apply List.ext_getElem?
  intro i
  rw [List.getElem?_take]
  by_cases hi : i < 4
  · rw [if_pos hi, List.getElem?_drop, List.getElem?_eq_getElem (by omega)]
    obtain rfl | rfl | rfl | rfl : i = 0 ∨ i = 1 ∨ i = 2 ∨ i = 3 := by omega
    · simp [rd, List.getD_eq_getElem?_getD, List.getElem?_eq_getElem (show e < l.length by omega)]
    · simp [rd, List.getD_eq_getElem?_getD, show ((e : Int) + 1).toNat = e + 1 by omega, List.getElem?_eq_getElem (show e + 1 < l.length by omega)]
    · simp [rd, List.getD_eq_getElem?_getD, show ((e : Int) + 2).toNat = e + 2 by omega, List.getElem?_eq_getElem (show e + 2 < l.length by omega)]
    · simp [rd, List.getD_eq_getElem?_getD, show ((e : Int) + 3).toNat = e + 3 by omega, List.getElem?_eq_getElem (show e + 3 < l.length by omega)]
  · rw [if_neg hi, List.getElem?_eq_none (by simp; omega)]
theorem unf_same (l : List Int) (hb : ∀ c ∈ l, 0 ≤ c ∧ c ≤ 255) : unf l = unfR l := by
  unfold unf unfR
  by_cases h0 : l = []
  · rw [if_pos h0, if_pos h0]
  rw [if_neg h0, if_neg h0]
  have hok := decL_ok (l.drop 1) 0 0 (by omega) (by omega)
  generalize decL (l.drop 1) 0 0 = r at *
  obtain ⟨n, k, e⟩ := r
  simp only at hok ⊢
  by_cases h1 : e ≠ 0
  · rw [if_pos h1, if_pos h1]
  rw [if_neg h1, if_neg h1]
  by_cases h2 : n > 1048576
  · rw [if_pos h2, if_pos h2]
  rw [if_neg h2, if_neg h2]
  by_cases h3 : (l.length : Int) < 1 + k + n + 4
  · rw [if_pos h3, if_pos h3]
  rw [if_neg h3, if_neg h3]
  have hk := hok (by omega)
  obtain ⟨E, hE⟩ : ∃ E : Nat, 1 + k + n = (E : Int) := ⟨(1 + k + n).toNat, by omega⟩
  rw [hE, Int.toNat_natCast]
  have hEl : E + 4 ≤ l.length := by omega
  rw [take4 l E hEl, ← sums_same]
  have hS := sum_range (l.take E) (fun c hc => hb c (List.mem_of_mem_take hc))
  have hA := hb _ (rd_mem l (E : Int) (by omega) (by omega))
  have hB := hb _ (rd_mem l ((E : Int) + 1) (by omega) (by omega))
  have hC := hb _ (rd_mem l ((E : Int) + 2) (by omega) (by omega))
  have hD := hb _ (rd_mem l ((E : Int) + 3) (by omega) (by omega))
  generalize crcSum (l.take E) = S at *
  generalize rd l (E : Int) = a at *
  generalize rd l ((E : Int) + 1) = b at *
  generalize rd l ((E : Int) + 2) = c at *
  generalize rd l ((E : Int) + 3) = d at *
  have hbe : beF 0 [a, b, c, d] = ((a * 256 + b) * 256 + c) * 256 + d := by simp [beF]
  generalize beF 0 [a, b, c, d] = x at *
  by_cases h4 : a = S / 16777216 % 256 ∧ b = S / 65536 % 256 ∧ c = S / 256 % 256 ∧ d = S % 256
  · rw [if_neg (show ¬ x ≠ S by omega), if_neg (show ¬ ¬ _ from fun h => h h4)]
  · rw [if_pos (show x ≠ S by omega), if_pos h4]
end Go.Proofs.Ytecomiapfaikbaa.WireA
