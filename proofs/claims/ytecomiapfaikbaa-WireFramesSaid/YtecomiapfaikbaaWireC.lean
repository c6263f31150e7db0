/- Plain laws of frames: a frame's bytes; what Unframe answers to a frame, to a shorter one and to one with a changed byte behind its length. -/
import Derived.Test.YtecomiapfaikbaaWireA
namespace Go.Proofs.Ytecomiapfaikbaa.WireC
open Go.RowKit Go.Proofs.Ytecomiapfaikbaa.H Go.Proofs.Ytecomiapfaikbaa.WireA Go.Proofs.YtecomiapfaikbaaW.PrintWords

def headF (t : Int) (l : List Int) : List Int := t :: (enc (l.length : Int) ++ l)
def sum4 (s : Int) : List Int := [s / 16777216 % 256, s / 65536 % 256, s / 256 % 256, s % 256]
def frameF (t : Int) (l : List Int) : List Int := t :: (enc (l.length : Int) ++ (l ++ sum4 (crcSum (headF t l))))
theorem head_bytes (t : Int) (l : List Int) (ht : 0 ≤ t ∧ t ≤ 255) (hb : ∀ c ∈ l, 0 ≤ c ∧ c ≤ 255) (hl : l.length ≤ 1048576) : ∀ c ∈ headF t l, 0 ≤ c ∧ c ≤ 255 := by
  intro c hc
  rcases List.mem_cons.1 hc with rfl | hc
  · exact ht
  rcases List.mem_append.1 hc with hc | hc
  · exact enc_bytes _ (by omega) (by omega) c hc
  · exact hb c hc
theorem sum4_bytes (s : Int) : ∀ c ∈ sum4 s, 0 ≤ c ∧ c ≤ 255 := by
  intro c hc
  simp only [sum4, List.mem_cons, List.not_mem_nil, or_false] at hc
  omega
theorem frame_bytes (t : Int) (l : List Int) (ht : 0 ≤ t ∧ t ≤ 255) (hb : ∀ c ∈ l, 0 ≤ c ∧ c ≤ 255) (hl : l.length ≤ 1048576) : ∀ c ∈ frameF t l, 0 ≤ c ∧ c ≤ 255 := by
  intro c hc
  rcases List.mem_cons.1 hc with rfl | hc
  · exact ht
  rcases List.mem_append.1 hc with hc | hc
  · exact enc_bytes _ (by omega) (by omega) c hc
  rcases List.mem_append.1 hc with hc | hc
  · exact hb c hc
  · exact sum4_bytes _ c hc
theorem be_sum4 (s : Int) (h : 0 ≤ s ∧ s ≤ 4294967295) : beF 0 (sum4 s) = s := by
  simp only [sum4, beF]; omega
theorem be_set (s c : Int) (q : Nat) (hq : q < 4) (hc : 0 ≤ c ∧ c ≤ 255) (hne : c ≠ (sum4 s).getD q 0) : beF 0 ((sum4 s).set q c) ≠ s := by
  obtain rfl | rfl | rfl | rfl : q = 0 ∨ q = 1 ∨ q = 2 ∨ q = 3 := by omega
  all_goals
    simp only [sum4, List.set_cons_zero, List.set_cons_succ, beF, List.getD_cons_zero, List.getD_cons_succ] at hne ⊢
    omega

/-! ### one changed byte changes the sum -/
theorem cstep_inj (x y : Nat) (hx : x < 4294967296) (hy : y < 4294967296) (h : cstep x = cstep y) : x = y := by
  have top : ∀ z : Nat, z < 4294967296 → (z / 2).testBit 31 = false := fun z hz => Nat.testBit_lt_two_pow (by omega)
  have hp : Nat.testBit 2197175160 31 = true := by decide
  have t := congrArg (fun z => Nat.testBit z 31) h
  have tx := top x hx
  have ty := top y hy
  unfold cstep at h t
  by_cases h1 : x % 2 = 1 <;> by_cases h2 : y % 2 = 1
  · rw [if_pos h1, if_pos h2] at h
    have h3 := congrArg (fun z => z ^^^ 2197175160) h
    simp only [Nat.xor_assoc, Nat.xor_self, Nat.xor_zero] at h3
    omega
  · rw [if_pos h1, if_neg h2] at t
    simp only [Nat.testBit_xor, tx, ty, hp] at t
    exact absurd t (by decide)
  · rw [if_neg h1, if_pos h2] at t
    simp only [Nat.testBit_xor, tx, ty, hp] at t
    exact absurd t (by decide)
  · rw [if_neg h1, if_neg h2] at h
    omega
theorem citer_inj (k x y : Nat) (hx : x < 4294967296) (hy : y < 4294967296) (h : citer k x = citer k y) : x = y := by
  induction k with
  | zero => exact h
  | succ k ih => exact ih (cstep_inj _ _ (citer_lt k x hx) (citer_lt k y hy) h)
theorem xor_cancel (a b c : Nat) (h : a ^^^ c = b ^^^ c) : a = b := by
  have h3 := congrArg (fun z => z ^^^ c) h
  simpa only [Nat.xor_assoc, Nat.xor_self, Nat.xor_zero] using h3
theorem xlt (x : Nat) (c : Int) (hx : x < 4294967296) (hc : 0 ≤ c ∧ c ≤ 255) : x ^^^ c.toNat < 4294967296 := Nat.xor_lt_two_pow (n := 32) (by omega) (by omega)
theorem ref_inj (l : List Int) : ∀ x y : Nat, x < 4294967296 → y < 4294967296 → (∀ c ∈ l, 0 ≤ c ∧ c ≤ 255) → refFold x l = refFold y l → x = y := by
  induction l with
  | nil => intro x y _ _ _ h; rwa [ref_nil, ref_nil] at h
  | cons c t ih =>
    intro x y hx hy hb h
    rw [ref_cons, ref_cons] at h
    have hc := hb c (by simp)
    have h1 := ih _ _ (citer_lt 8 _ (xlt x c hx hc)) (citer_lt 8 _ (xlt y c hy hc)) (fun d hd => hb d (by simp [hd])) h
    exact xor_cancel _ _ _ (citer_inj 8 _ _ (xlt x c hx hc) (xlt y c hy hc) h1)
theorem ref_set (l : List Int) : ∀ (x : Nat) (i : Nat) (c : Int), x < 4294967296 → i < l.length → 0 ≤ c ∧ c ≤ 255 → (∀ c ∈ l, 0 ≤ c ∧ c ≤ 255) → c ≠ l.getD i 0 → refFold x (l.set i c) ≠ refFold x l := by
  induction l with
  | nil => intro x i c _ hi; simp at hi
  | cons d t ih =>
    intro x i c hx hi hc hb hne h
    have hd := hb d (by simp)
    cases i with
    | zero =>
      rw [List.set_cons_zero, ref_cons, ref_cons] at h
      have h1 := ref_inj t _ _ (citer_lt 8 _ (xlt x c hx hc)) (citer_lt 8 _ (xlt x d hx hd)) (fun d hd => hb d (by simp [hd])) h
      have h2 := citer_inj 8 _ _ (xlt x c hx hc) (xlt x d hx hd) h1
      rw [Nat.xor_comm x, Nat.xor_comm x] at h2
      have h3 := xor_cancel _ _ _ h2
      simp only [List.getD_cons_zero] at hne
      omega
    | succ i =>
      rw [List.set_cons_succ, ref_cons, ref_cons] at h
      exact ih _ i c (citer_lt 8 _ (xlt x d hx hd)) (by simpa using hi) hc (fun d hd => hb d (by simp [hd])) (by simpa using hne) h
theorem sum_set (l : List Int) (i : Nat) (c : Int) (hi : i < l.length) (hc : 0 ≤ c ∧ c ≤ 255) (hb : ∀ c ∈ l, 0 ≤ c ∧ c ≤ 255) (hne : c ≠ l.getD i 0) : crcSum (l.set i c) ≠ crcSum l := by
  rw [sums_same, sums_same]
  have := ref_set l 4294967295 i c (by decide) hi hc hb hne
  generalize refFold 4294967295 (l.set i c) = a at *
  generalize refFold 4294967295 l = b at *
  omega

/-! ### Unframe -/
theorem unf_of (t : Int) (n : Nat) (tail : List Int) (hn : n ≤ 1048576) (hl : n + 4 ≤ tail.length) :
    unf (t :: (enc n ++ tail)) = if beF 0 ((tail.drop n).take 4) ≠ crcSum (t :: (enc n ++ tail.take n)) then (0, [], 0, 4) else (t, tail.take n, 1 + ((enc n).length : Int) + n + 4, 0) := by
  unfold unf
  have hd := decL_enc n tail (by omega) (by omega)
  rw [List.drop_succ_cons, List.drop_zero, hd]
  simp only
  rw [if_neg (by simp), if_neg (by simp), if_neg (by omega), if_neg (by simp; omega)]
  have e1 : (1 + ((enc n).length : Int) + n).toNat = (enc n).length + n + 1 := by omega
  have e2 : (1 + ((enc n).length : Int)).toNat = (enc n).length + 1 := by omega
  rw [e1, e2, List.drop_succ_cons, List.take_succ_cons, List.drop_succ_cons, List.drop_length_add_append, List.take_length_add_append, List.drop_left, List.getD_cons_zero]
theorem unf_short (t : Int) (n : Nat) (tail : List Int) (hn : n ≤ 1048576) (hl : tail.length < n + 4) : (unf (t :: (enc n ++ tail))).2.2.2 = 3 := by
  unfold unf
  have hd := decL_enc n tail (by omega) (by omega)
  rw [List.drop_succ_cons, List.drop_zero, hd]
  simp only
  rw [if_neg (by simp), if_neg (by simp), if_neg (by omega), if_pos (by simp; omega)]
theorem unf_cut (t : Int) (n m : Nat) (hm : m < (enc n).length) : (unf (t :: (enc n).take m)).2.2.2 = 3 := by
  unfold unf
  have hd := decL_cut n m hm
  rw [List.drop_succ_cons, List.drop_zero, hd]
  simp only
  rw [if_neg (by simp), if_pos (by simp)]
theorem frame_len (t : Int) (l : List Int) : (frameF t l).length = 1 + (enc (l.length : Int)).length + l.length + 4 := by
  simp [frameF, sum4]; omega
theorem unframe_frame (t : Int) (l rest : List Int) (hl : l.length ≤ 1048576) (ht : 0 ≤ t ∧ t ≤ 255) (hb : ∀ c ∈ l, 0 ≤ c ∧ c ≤ 255) :
    unf (frameF t l ++ rest) = (t, l, ((frameF t l).length : Int), 0) := by
  have hS := sum_range _ (head_bytes t l ht hb hl)
  have e : frameF t l ++ rest = t :: (enc (l.length : Int) ++ (l ++ (sum4 (crcSum (headF t l)) ++ rest))) := by simp [frameF]
  rw [e, unf_of t l.length _ hl (by simp [sum4])]
  rw [List.drop_left, List.take_left]
  have e4 : (sum4 (crcSum (headF t l)) ++ rest).take 4 = sum4 (crcSum (headF t l)) := List.take_left' (by rfl)
  rw [e4, be_sum4 _ hS]
  unfold headF
  rw [if_neg (by simp), frame_len]
  simp only [Prod.mk.injEq, true_and, and_true]
  omega
theorem unframe_prefix (t : Int) (l : List Int) (m : Nat) (hl : l.length ≤ 1048576) (hm : m < (frameF t l).length) : (unf ((frameF t l).take m)).2.2.2 = 3 := by
  rw [frame_len] at hm
  cases m with
  | zero => rfl
  | succ m =>
    unfold frameF
    rw [List.take_succ_cons, List.take_append]
    by_cases h : m < (enc (l.length : Int)).length
    · rw [show m - (enc (l.length : Int)).length = 0 by omega, List.take_zero, List.append_nil]
      exact unf_cut t l.length m h
    · rw [List.take_of_length_le (l := enc _) (by omega)]
      exact unf_short t l.length _ hl (by simp [sum4]; omega)
theorem unframe_set (t : Int) (l : List Int) (p : Nat) (c : Int) (hl : l.length ≤ 1048576) (ht : 0 ≤ t ∧ t ≤ 255) (hb : ∀ c ∈ l, 0 ≤ c ∧ c ≤ 255)
    (hc : 0 ≤ c ∧ c ≤ 255) (hp : 1 + (enc (l.length : Int)).length ≤ p) (hp' : p < (frameF t l).length) (hne : c ≠ (frameF t l).getD p 0) : (unf ((frameF t l).set p c)).2.2.2 = 4 := by
  rw [frame_len] at hp'
  obtain ⟨q, rfl⟩ : ∃ q, p = (enc (l.length : Int)).length + q + 1 := ⟨p - 1 - (enc (l.length : Int)).length, by omega⟩
  have hh := head_bytes t l ht hb hl
  have hS := sum_range _ hh
  have hget : (frameF t l).getD ((enc (l.length : Int)).length + q + 1) 0 = (l ++ sum4 (crcSum (headF t l))).getD q 0 := by
    unfold frameF
    rw [List.getD_cons_succ, List.getD_eq_getElem?_getD, List.getElem?_append_right (by omega), Nat.add_sub_cancel_left, ← List.getD_eq_getElem?_getD]
  rw [hget] at hne
  have hset : (frameF t l).set ((enc (l.length : Int)).length + q + 1) c = t :: (enc (l.length : Int) ++ (l ++ sum4 (crcSum (headF t l))).set q c) := by
    unfold frameF
    rw [List.set_cons_succ, List.set_append_right _ _ (by omega), Nat.add_sub_cancel_left]
  rw [hset, unf_of t l.length _ hl (by simp [sum4])]
  by_cases h : q < l.length
  · have e1 : (l ++ sum4 (crcSum (headF t l))).set q c = l.set q c ++ sum4 (crcSum (headF t l)) := List.set_append_left _ _ h
    have e2 : (l.set q c ++ sum4 (crcSum (headF t l))).drop l.length = sum4 (crcSum (headF t l)) := List.drop_left' (by simp)
    have e3 : (l.set q c ++ sum4 (crcSum (headF t l))).take l.length = l.set q c := List.take_left' (by simp)
    have e4 : (sum4 (crcSum (headF t l))).take 4 = sum4 (crcSum (headF t l)) := rfl
    rw [e1, e2, e3, e4, be_sum4 _ hS]
    have hs : t :: (enc (l.length : Int) ++ l.set q c) = (headF t l).set ((enc (l.length : Int)).length + q + 1) c := by
      unfold headF
      rw [List.set_cons_succ, List.set_append_right _ _ (by omega), Nat.add_sub_cancel_left]
    have hg : (headF t l).getD ((enc (l.length : Int)).length + q + 1) 0 = l.getD q 0 := by
      unfold headF
      rw [List.getD_cons_succ, List.getD_eq_getElem?_getD, List.getElem?_append_right (by omega), Nat.add_sub_cancel_left, ← List.getD_eq_getElem?_getD]
    have hn2 : c ≠ l.getD q 0 := by
      rw [List.getD_eq_getElem?_getD, List.getElem?_append_left h, ← List.getD_eq_getElem?_getD] at hne
      exact hne
    have hx := sum_set (headF t l) ((enc (l.length : Int)).length + q + 1) c (by simp [headF]; omega) hc hh (by rw [hg]; exact hn2)
    rw [if_pos (by rw [hs]; exact fun e => hx e.symm)]
  · obtain ⟨r, rfl⟩ : ∃ r, q = l.length + r := ⟨q - l.length, by omega⟩
    have hr : r < 4 := by omega
    have e1 : (l ++ sum4 (crcSum (headF t l))).set (l.length + r) c = l ++ (sum4 (crcSum (headF t l))).set r c := by
      rw [List.set_append_right _ _ (by omega), Nat.add_sub_cancel_left]
    have hn2 : c ≠ (sum4 (crcSum (headF t l))).getD r 0 := by
      rw [List.getD_eq_getElem?_getD, List.getElem?_append_right (by omega), Nat.add_sub_cancel_left, ← List.getD_eq_getElem?_getD] at hne
      exact hne
    have e4 : ((sum4 (crcSum (headF t l))).set r c).take 4 = (sum4 (crcSum (headF t l))).set r c := List.take_of_length_le (by simp [sum4])
    rw [e1, List.drop_left, List.take_left, e4]
    have hx := be_set (crcSum (headF t l)) c r hr hc hn2
    rw [if_pos (show _ ≠ crcSum (t :: (enc (l.length : Int) ++ l)) from hx)]
end Go.Proofs.Ytecomiapfaikbaa.WireC
