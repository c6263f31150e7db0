/- WireFramed: Unframe returns what Frame framed; a shorter frame is truncated; one changed bit of the body or of the sum gives the checksum's error. Conditions: none. -/
import Derived.Test.YtecomiapfaikbaaWireB
import Derived.Test.YtecomiapfaikbaaWireC
import Derived.Test.YtecomiapfaikbaaQ6
namespace Go.Proofs.Ytecomiapfaikbaa.Pure
open Go.RowKit Go.Proofs.Ytecomiapfaikbaa.Q Go.Proofs.Ytecomiapfaikbaa.H Go.Proofs.Ytecomiapfaikbaa.WireA Go.Proofs.Ytecomiapfaikbaa.WireB Go.Proofs.Ytecomiapfaikbaa.WireC Go.Proofs.YtecomiapfaikbaaW.PrintWords

theorem same_self (l : List Int) : pairinglaw8_Same.f l l = some true := by simp [pairinglaw8_Same.f]
theorem awake_yes (k : Nat) (hk : 12 ≤ k) : pairinglaw8_awake.f k = some true := by
  unfold pairinglaw8_awake.f
  rw [enc_wire k hk 300 (by omega) (by omega), show enc 300 = [172, 2] by decide]
  simp only [Option.bind_some, if_true, same_self]
theorem frame_yes (k : Nat) (hk : 12 ≤ k) (t : Int) (l : List Int) (ht : 0 ≤ t ∧ t ≤ 255) (hb : ∀ x ∈ l, 0 ≤ x ∧ x ≤ 255) (hl : l.length ≤ 200) :
    wire_Frame.f k t l = some (frameF t l, 0) := by
  have hh := head_bytes t l ht hb (by omega)
  have hn := enc_len (l.length : Int)
  have e : [t] ++ enc (l.length : Int) ++ l = headF t l := by simp [headF]
  unfold wire_Frame.f
  rw [if_neg (by omega), enc_wire k hk _ (by omega) (by omega)]
  simp only [Option.bind_some]
  rw [if_pos (by simp; omega), if_pos (by simp; omega), e]
  unfold wire_Checksum.f
  rw [if_pos hh]
  simp only [Option.bind_some]
  rw [if_pos (by simp [headF]; omega)]
  simp [frameF, headF, sum4]
theorem unf_yes (l : List Int) (hb : ∀ x ∈ l, 0 ≤ x ∧ x ≤ 255) (hl : l.length < 140737488355328) : wire_Unframe.f l = some (unf l) := by
  unfold wire_Unframe.f; rw [if_pos ⟨hb, hl⟩]
theorem and_low (x y : Int) (m : Nat) (h0 : BitVec.ofInt 64 y = BitVec.ofNat 64 m) (hm : m < 9223372036854775808) : 0 ≤ Go.bits .and .i64 x y ∧ Go.bits .and .i64 x y ≤ m := by
  have h1 : (BitVec.ofInt 64 x &&& BitVec.ofInt 64 y).toNat ≤ m := by
    rw [BitVec.toNat_and, h0]
    exact Nat.le_trans Nat.and_le_right (by simp; omega)
  have h2 : Go.bits .and .i64 x y = IntKind.i64.wrap ((BitVec.ofInt 64 x &&& BitVec.ofInt 64 y).toNat : Int) := rfl
  rw [h2, wraps_i64 _ (by omega) (by omega)]
  omega
theorem flip_nat (v c : Nat) (hv : v < 256) (hc : c < 256) (h0 : 0 < c) : (0 ≤ Go.bits .xor .u8 (v : Int) (c : Int) ∧ Go.bits .xor .u8 (v : Int) (c : Int) ≤ 255) ∧ Go.bits .xor .u8 (v : Int) (c : Int) ≠ v := by
  rw [bits_xor8 v c hv hc]
  have h1 : v ^^^ c < 256 := Nat.xor_lt_two_pow (n := 8) hv hc
  refine ⟨by omega, fun h => ?_⟩
  have h2 : v ^^^ c = v := by omega
  have h3 := congrArg (fun z => v ^^^ z) h2
  simp only [← Nat.xor_assoc, Nat.xor_self, Nat.zero_xor] at h3
  omega
theorem flip (v j : Int) (hv : 0 ≤ v ∧ v ≤ 255) (hj : 0 ≤ j ∧ j ≤ 7) : (0 ≤ Go.bits .xor .u8 v (shl .u8 1 j) ∧ Go.bits .xor .u8 v (shl .u8 1 j) ≤ 255) ∧ Go.bits .xor .u8 v (shl .u8 1 j) ≠ v := by
  obtain ⟨n, rfl⟩ : ∃ n : Nat, v = n := ⟨v.toNat, by omega⟩
  obtain ⟨c, hc, h0, h1⟩ : ∃ c : Nat, shl .u8 1 j = (c : Int) ∧ 0 < c ∧ c < 256 := by
    obtain rfl | rfl | rfl | rfl | rfl | rfl | rfl | rfl : j = 0 ∨ j = 1 ∨ j = 2 ∨ j = 3 ∨ j = 4 ∨ j = 5 ∨ j = 6 ∨ j = 7 := by omega
    · exact ⟨1, by decide, by decide, by decide⟩
    · exact ⟨2, by decide, by decide, by decide⟩
    · exact ⟨4, by decide, by decide, by decide⟩
    · exact ⟨8, by decide, by decide, by decide⟩
    · exact ⟨16, by decide, by decide, by decide⟩
    · exact ⟨32, by decide, by decide, by decide⟩
    · exact ⟨64, by decide, by decide, by decide⟩
    · exact ⟨128, by decide, by decide, by decide⟩
  rw [hc]
  exact flip_nat n c (by omega) h1 h0
theorem last (k : Nat) (hk : 14 ≤ k) (t : Int) (l : List Int) (a b : Int) (ht : 0 ≤ t ∧ t ≤ 255) (hb : ∀ x ∈ l, 0 ≤ x ∧ x ≤ 255) (hl : l.length ≤ 200) (x : Int) (hx : x = (frameF t l).length) :
    pairinglaw8_WireFramed.l0 k l a b (frameF t l) x = some true := by
  obtain ⟨k, rfl⟩ : ∃ m, k = m + 1 := ⟨k - 1, by omega⟩
  have hf := frame_bytes t l ht hb (by omega)
  have hlen := frame_len t l
  have hn := enc_len (l.length : Int)
  have hset := unframe_set t l
  simp only [pairinglaw8_WireFramed.l0]
  rw [if_neg (by omega), if_pos (by simp; omega)]
  rw [Option.bind_some, List.nil_append]
  have w1 : wrap64 ((l.length : Int) + 4) = (l.length : Int) + 4 := by unfold wrap64; omega
  have w2 : wrap64 (wrap64 (((frameF t l).length : Int) - l.length) - 4) = 1 + ((enc (l.length : Int)).length : Int) := by unfold wrap64; omega
  rw [w1, w2]
  have hA := and_low a 65535 65535 (BitVec.ofInt_natCast 64 65535) (by decide)
  have hB := and_low b 7 7 (BitVec.ofInt_natCast 64 7) (by decide)
  generalize Go.bits .and .i64 a 65535 = A at *
  generalize Go.bits .and .i64 b 7 = B at *
  have w3 : IntKind.u64.wrap B = B := wraps_u64 _ (by omega) (by omega)
  rw [w3, if_neg (by omega)]
  have ht0 : 0 ≤ Int.tmod A ((l.length : Int) + 4) ∧ Int.tmod A ((l.length : Int) + 4) < (l.length : Int) + 4 := by
    rw [Int.tmod_eq_emod_of_nonneg hA.1]; exact ⟨Int.emod_nonneg _ (by omega), Int.emod_lt_of_pos _ (by omega)⟩
  generalize Int.tmod A ((l.length : Int) + 4) = D at *
  have w4 : wrap64 (1 + ((enc (l.length : Int)).length : Int) + D) = 1 + ((enc (l.length : Int)).length : Int) + D := by unfold wrap64; omega
  rw [w4]
  obtain ⟨p, hp⟩ : ∃ p : Nat, 1 + ((enc (l.length : Int)).length : Int) + D = p := ⟨(1 + ((enc (l.length : Int)).length : Int) + D).toNat, by omega⟩
  rw [hp, if_pos (by omega), if_pos (by omega), if_pos (by omega)]
  have hmem := hf _ (rd_mem (frameF t l) (p : Int) (by omega) (by omega))
  have hr : rd (frameF t l) (p : Int) = (frameF t l).getD p 0 := by simp [rd]
  obtain ⟨c1, c2⟩ := flip (rd (frameF t l) (p : Int)) B hmem (by omega)
  rw [hr] at c1 c2
  rw [hr, Int.toNat_natCast, unf_yes _ (by
    intro x hx
    rcases List.mem_or_eq_of_mem_set hx with h | h
    · exact hf x h
    · rw [h]; exact c1) (by simp; omega)]
  rw [Option.bind_some]
  rw [if_pos (hset p _ (by omega) ht hb c1 (by omega) (by omega) c2), awake_yes k (by omega)]; rfl
theorem prefixes (n : Nat) : ∀ (k : Nat) (t : Int) (l : List Int) (a b x : Int), n + 14 ≤ k → (0 ≤ t ∧ t ≤ 255) → (∀ x ∈ l, 0 ≤ x ∧ x ≤ 255) → l.length ≤ 200 → 0 ≤ x → x + n = (frameF t l).length →
    pairinglaw8_WireFramed.l0 k l a b (frameF t l) x = some true := by
  induction n with
  | zero =>
    intro k t l a b x hk ht hb hl h0 hx
    exact last k (by omega) t l a b ht hb hl x (by omega)
  | succ n ih =>
    intro k t l a b x hk ht hb hl h0 hx
    obtain ⟨k, rfl⟩ : ∃ m, k = m + 1 := ⟨k - 1, by omega⟩
    have hf := frame_bytes t l ht hb (by omega)
    have hlen := frame_len t l
    have hn := enc_len (l.length : Int)
    simp only [pairinglaw8_WireFramed.l0]
    rw [if_pos (by omega), if_pos h0, if_pos (by omega), unf_yes _ (fun c hc => hf c (List.mem_of_mem_take hc)) (by simp; omega)]
    simp only [Option.bind_some]
    rw [if_pos (unframe_prefix t l x.toNat (by omega) (by omega)), show wrap64 (x + 1) = x + 1 by unfold wrap64; omega]
    exact ih k t l a b (x + 1) (by omega) ht hb hl (by omega) (by omega)
theorem WireFramed : pairinglaw8_WireFramed.Pure := by
  intro t l m a b ht _ _ hl _ _ hm _ _
  have hb := wf_bytes hl
  have hc := wf_bytes hm
  have ht := wf_u8 ht
  obtain ⟨K, hK⟩ : ∃ K : Nat, K = 496 := ⟨_, rfl⟩
  refine ⟨K + 3, ?_⟩
  unfold pairinglaw8_WireFramed.f
  by_cases h : (l.length : Int) > 200
  · rw [if_pos h]
    simp only [pairinglaw8_WireFramed.j0, if_true, awake_yes (K + 2) (by omega), Option.bind_some]
  rw [if_neg h]
  by_cases h' : (m.length : Int) > 200
  · rw [decide_eq_true h']
    simp only [pairinglaw8_WireFramed.j0, if_true, awake_yes (K + 2) (by omega), Option.bind_some]
  rw [decide_eq_false h']
  have hlen := frame_len t l
  have hn := enc_len (l.length : Int)
  have hf := frame_bytes t l ht hb (by omega)
  have hu := unframe_frame t l m (by omega) ht hb
  have hy := unf_yes (frameF t l ++ m) (by
    intro x hx
    rcases List.mem_append.1 hx with h | h
    · exact hf x h
    · exact hc x h) (by simp; omega)
  have hend := prefixes (frameF t l).length K t l a b 0 (by omega) ht hb (by omega) (by omega) (by omega)
  simp only [pairinglaw8_WireFramed.j0]
  rw [if_neg (by simp), frame_yes (K + 2) (by omega) t l ht hb (by omega), Option.bind_some, if_pos rfl]
  dsimp only
  rw [decide_eq_false (by rw [show wrap64 ((l.length : Int) + 6) = l.length + 6 by unfold wrap64; omega]; omega)]
  simp only [pairinglaw8_WireFramed.j1]
  rw [if_neg (by simp), if_pos (by simp; omega), Option.bind_some, List.nil_append, if_pos (by omega), hy, hu, Option.bind_some, if_pos rfl, if_pos rfl, same_self, Option.bind_some, if_pos rfl]
  dsimp only
  rw [bne_self_eq_false]
  simp only [pairinglaw8_WireFramed.j2]
  rw [if_neg (by simp)]
  exact hend
end Go.Proofs.Ytecomiapfaikbaa.Pure
