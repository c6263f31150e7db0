/- WireDecodes: for any bytes, DecodeUint, DecodeInt and DecodeText of the program return the reference's results or errors. Conditions: none. -/
import Derived.Test.YtecomiapfaikbaaWireB
import Derived.Test.YtecomiapfaikbaaQ3
namespace Go.Proofs.Ytecomiapfaikbaa.Pure
open Go.RowKit Go.Proofs.Ytecomiapfaikbaa.Q Go.Proofs.Ytecomiapfaikbaa.H Go.Proofs.Ytecomiapfaikbaa.WireA Go.Proofs.Ytecomiapfaikbaa.WireB Go.Proofs.YtecomiapfaikbaaW.PrintWords

theorem same_self (l : List Int) : pairinglaw8_Same.f l l = some true := by simp [pairinglaw8_Same.f]
theorem awake_yes (k : Nat) (hk : 12 ≤ k) : pairinglaw8_awake.f k = some true := by
  unfold pairinglaw8_awake.f
  rw [enc_wire k hk 300 (by omega) (by omega), show enc 300 = [172, 2] by decide]
  simp only [Option.bind_some, if_true, same_self]
theorem decs (l : List Int) (hb : ∀ x ∈ l, 0 ≤ x ∧ x ≤ 255) : wire_DecodeUint.f l = some (decL l 0 0) ∧ pairingref8_DecodeUint.f l = some (decL l 0 0) :=
  ⟨by unfold wire_DecodeUint.f; rw [if_pos hb], by unfold pairingref8_DecodeUint.f; rw [if_pos hb]⟩
theorem ints (l : List Int) (hb : ∀ x ∈ l, 0 ≤ x ∧ x ≤ 255) : ∃ r, wire_DecodeInt.f l = some r ∧ pairingref8_DecodeInt.f l = some r := by
  have hok := decL_ok l 0 0 (by omega) (by omega)
  unfold wire_DecodeInt.f pairingref8_DecodeInt.f
  rw [(decs l hb).1, (decs l hb).2]
  generalize decL l 0 0 = r at *
  obtain ⟨n, k, e⟩ := r
  simp only [Option.bind_some] at hok ⊢
  by_cases h : e = 0
  · rw [if_pos h, if_pos h]
    have hn := hok h
    have e1 : Int.tmod n 2 = n % 2 := Int.tmod_eq_emod_of_nonneg hn.1
    have e2 : Int.tdiv n 2 = n / 2 := Int.tdiv_eq_ediv_of_nonneg hn.1
    have w1 : wrap64 (n / 2) = n / 2 := by unfold wrap64; omega
    have w2 : wrap64 (-(n / 2)) = -(n / 2) := by unfold wrap64; omega
    have w3 : wrap64 (-(n / 2) - 1) = -(n / 2) - 1 := by unfold wrap64; omega
    rw [e1, e2, w1, w2, w3]
    by_cases h1 : n % 2 = 1
    · rw [if_pos h1, if_pos h1, if_neg (by omega), if_neg (by omega)]
      exact ⟨_, rfl, rfl⟩
    · rw [if_neg h1, if_neg h1, if_neg (by omega), if_neg (by omega)]
      exact ⟨_, rfl, rfl⟩
  · rw [if_neg h, if_neg h]
    exact ⟨_, rfl, rfl⟩
theorem texts (l : List Int) (hb : ∀ x ∈ l, 0 ≤ x ∧ x ≤ 255) (hl : l.length ≤ 3000) : ∃ r, wire_DecodeText.f l = some r ∧ pairingref8_DecodeText.f l = some r := by
  have hok := decL_ok l 0 0 (by omega) (by omega)
  unfold wire_DecodeText.f pairingref8_DecodeText.f
  rw [(decs l hb).1, (decs l hb).2]
  generalize decL l 0 0 = r at *
  obtain ⟨n, k, e⟩ := r
  simp only [Option.bind_some] at hok ⊢
  by_cases h : e = 0
  · rw [if_pos h]
    have hn := hok h
    by_cases h1 : n > 20000
    · rw [if_pos h1]; exact ⟨_, rfl, rfl⟩
    rw [if_neg h1]
    have w1 : wrap64 ((l.length : Int) - k) = (l.length : Int) - k := by unfold wrap64; omega
    have w2 : wrap64 (k + n) = k + n := by unfold wrap64; omega
    rw [w1, w2]
    by_cases h2 : n > (l.length : Int) - k
    · rw [if_pos h2]; exact ⟨_, rfl, rfl⟩
    rw [if_neg h2, if_pos (by omega), if_pos (by omega), if_pos (by omega)]
    exact ⟨_, rfl, rfl⟩
  · rw [if_neg h]
    exact ⟨_, rfl, rfl⟩
theorem WireDecodes : pairinglaw8_WireDecodes.Pure := by
  intro l _ _ hw
  have hb := wf_bytes hw
  refine ⟨12, ?_⟩
  unfold pairinglaw8_WireDecodes.f
  by_cases h : (l.length : Int) > 3000
  · rw [if_pos h, awake_yes 12 (by omega)]; rfl
  · rw [if_neg h]
    obtain ⟨r, h1, h2⟩ := ints l hb
    obtain ⟨q, h3, h4⟩ := texts l hb (by omega)
    simp only [(decs l hb).1, (decs l hb).2, h1, h2, h3, h4, Option.bind_some, if_true, awake_yes 12 (by omega)]
end Go.Proofs.Ytecomiapfaikbaa.Pure
