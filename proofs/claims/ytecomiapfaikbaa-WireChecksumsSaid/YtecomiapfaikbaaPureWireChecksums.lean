/- WireChecksums: for any bytes, the program's Checksum returns the reference's CRC-32C, and that of the nine known bytes is 0xE3069283. Conditions: none. -/
import Derived.Test.YtecomiapfaikbaaWireB
import Derived.Test.YtecomiapfaikbaaQ2
namespace Go.Proofs.Ytecomiapfaikbaa.Pure
open Go.RowKit Go.Proofs.Ytecomiapfaikbaa.Q Go.Proofs.Ytecomiapfaikbaa.H Go.Proofs.Ytecomiapfaikbaa.WireA Go.Proofs.Ytecomiapfaikbaa.WireB Go.Proofs.YtecomiapfaikbaaW.PrintWords

theorem same_self (l : List Int) : pairinglaw8_Same.f l l = some true := by simp [pairinglaw8_Same.f]
theorem awake_yes (k : Nat) (hk : 12 ≤ k) : pairinglaw8_awake.f k = some true := by
  unfold pairinglaw8_awake.f
  rw [enc_wire k hk 300 (by omega) (by omega), show enc 300 = [172, 2] by decide]
  simp only [Option.bind_some, if_true, same_self]
theorem WireChecksums : pairinglaw8_WireChecksums.Pure := by
  intro l _ _ hw
  have hb := wf_bytes hw
  refine ⟨12, ?_⟩
  unfold pairinglaw8_WireChecksums.f
  by_cases h : (l.length : Int) > 3000
  · rw [if_pos h, awake_yes 12 (by omega)]; rfl
  · rw [if_neg h]
    unfold wire_Checksum.f pairingref8_Checksum.f
    rw [if_pos hb, if_pos hb, if_pos (by decide), sum_known]
    simp only [Option.bind_some]
    rw [if_pos (sums_same l), if_pos trivial, awake_yes 12 (by omega)]; rfl
end Go.Proofs.Ytecomiapfaikbaa.Pure
