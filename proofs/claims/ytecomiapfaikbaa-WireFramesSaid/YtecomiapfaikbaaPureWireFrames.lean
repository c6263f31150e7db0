/- WireFrames: Frame and Unframe of the program return what the reference's Frame and Unframe return. Conditions: none. -/
import Derived.Test.YtecomiapfaikbaaWireB
import Derived.Test.YtecomiapfaikbaaWireC
import Derived.Test.YtecomiapfaikbaaQ5
namespace Go.Proofs.Ytecomiapfaikbaa.Pure
open Go.RowKit Go.Proofs.Ytecomiapfaikbaa.Q Go.Proofs.Ytecomiapfaikbaa.H Go.Proofs.Ytecomiapfaikbaa.WireA Go.Proofs.Ytecomiapfaikbaa.WireB Go.Proofs.Ytecomiapfaikbaa.WireC Go.Proofs.YtecomiapfaikbaaW.PrintWords

theorem same_self (l : List Int) : pairinglaw8_Same.f l l = some true := by simp [pairinglaw8_Same.f]
theorem awake_yes (k : Nat) (hk : 12 ≤ k) : pairinglaw8_awake.f k = some true := by
  unfold pairinglaw8_awake.f
  rw [enc_wire k hk 300 (by omega) (by omega), show enc 300 = [172, 2] by decide]
  simp only [Option.bind_some, if_true, same_self]
theorem frames (k : Nat) (hk : 12 ≤ k) (t : Int) (l : List Int) (ht : 0 ≤ t ∧ t ≤ 255) (hb : ∀ x ∈ l, 0 ≤ x ∧ x ≤ 255) (hl : l.length ≤ 3000) :
    wire_Frame.f k t l = some (frameF t l, 0) ∧ pairingref8_Frame.f k t l = some (frameF t l, 0) := by
  have hh := head_bytes t l ht hb (by omega)
  have hn := enc_len (l.length : Int)
  have e : [t] ++ enc (l.length : Int) ++ l = headF t l := by simp [headF]
  constructor
  · unfold wire_Frame.f
    rw [if_neg (by omega), enc_wire k hk _ (by omega) (by omega)]
    simp only [Option.bind_some]
    rw [if_pos (by simp; omega), if_pos (by simp; omega), e]
    unfold wire_Checksum.f
    rw [if_pos hh]
    simp only [Option.bind_some]
    rw [if_pos (by simp [headF]; omega)]
    simp [frameF, headF, sum4]
  · unfold pairingref8_Frame.f
    rw [if_neg (by omega), uint0_ref k hk _ (by omega) (by omega)]
    simp only [Option.bind_some]
    rw [if_pos (by simp; omega), if_pos (by simp; omega), e]
    unfold pairingref8_Checksum.f
    rw [if_pos hh, ← sums_same]
    simp only [Option.bind_some]
    rw [if_pos (by simp [headF]; omega)]
    simp [frameF, headF, sum4]
theorem WireFrames : pairinglaw8_WireFrames.Pure := by
  intro t l m ht _ _ hl _ _ hm
  have hb := wf_bytes hl
  have hc := wf_bytes hm
  have ht := wf_u8 ht
  refine ⟨14, ?_⟩
  unfold pairinglaw8_WireFrames.f
  by_cases h : (l.length : Int) > 3000
  · rw [if_pos h]
    simp only [pairinglaw8_WireFrames.j0, if_true, awake_yes 13 (by omega), Option.bind_some]
  rw [if_neg h]
  by_cases h' : (m.length : Int) > 3000
  · rw [decide_eq_true h']
    simp only [pairinglaw8_WireFrames.j0, if_true, awake_yes 13 (by omega), Option.bind_some]
  rw [decide_eq_false h']
  obtain ⟨f1, f2⟩ := frames 13 (by omega) t l ht hb (by omega)
  have u1 : wire_Unframe.f m = some (unf m) := by unfold wire_Unframe.f; rw [if_pos ⟨hc, by omega⟩]
  have u2 : pairingref8_Unframe.f m = some (unf m) := by unfold pairingref8_Unframe.f; rw [if_pos ⟨hc, by omega⟩, unf_same m hc]
  simp only [pairinglaw8_WireFrames.j0, Bool.false_eq_true, if_false, f1, f2, u1, u2, Option.bind_some, if_true, same_self, awake_yes 13 (by omega)]
end Go.Proofs.Ytecomiapfaikbaa.Pure
