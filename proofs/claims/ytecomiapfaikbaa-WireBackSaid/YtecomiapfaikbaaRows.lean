/-
  No cell of these rows narrows 'for every input' (looked for: loops, veiled, ifaces, maps, wideKeys, modest, calm, conditions, laid).
  DERIVED. THE GIVEN ROWS OF THIS SEAT. 7 by the template 'for every input the law returns true; each argument reads behind the call as it read before'; 0 by the template 'total and deterministic' (their statements: YtecomiapfaikbaaTotals.lean).
  GIVEN WITH THE SEED: the statements are not yours to turn. If you find one false, say at which input.
  Laid BY PROGRAM, IN A SANDBOX (cutbox-rows.mjs): the forced cells as the released guide's own fill.sh prints them over the translation 600d3f6cd78b76fe… (all of the seat's roots in one cut). By AI agents, Wed Nov 11 2026. No macro, syntax, notation, axiom, sorry.
-/
import Derived.Test.YtecomiapfaikbaaChecked
import GoSem.Claim
import GoSem.ClaimJoined
import GoSem.ClaimMapViews
import Derived.JoinedTies
import Derived.KernelRfl
namespace Go.Proofs.Ytecomiapfaikbaa
/- THE CELL 'sum', in the pinned program and in every row, IS THE sha256 OF THE DUMP (.gsa) THAT YtecomiapfaikbaaProg.lean LOADS. Nothing in Lean hashes anything: it is a label: what it is worth is what the hold of that sum in a sandbox is worth. -/
noncomputable def Try.pinned : Pinned := { name := "ytecomiapfaikbaa", sum := "600d3f6cd78b76fea9422a049f53ad0dca84d9b24fff277e3b9ca3294a071c62", checked := Try.checked }
namespace Rows
def none {H : Type} : Left H := { results := [], args := [] }

/-- 'pairinglaw8.WireTexts': WHATEVER THE INPUT: true; the input reads as it did. -/
def wireTextsSpec : ChangeSpec := { name := "wireTexts", fn := fun _ => fun
  | [d1, d2] => { results := [.lit (.bool true)], args := [d1, d2] }
  | _ => none }
def wireTextsRow : OpenClaim := { program := "ytecomiapfaikbaa", sum := "600d3f6cd78b76fea9422a049f53ad0dca84d9b24fff277e3b9ca3294a071c62", func := "pairing/pairinglaw8.WireTexts", spec := "wireTexts", apart := false }
def WireTextsSaid : Prop := wireTextsRow.holds Try.pinned (OpenSpec.ofChange wireTextsSpec)

/-- ITS FALSE NEIGHBOUR: 'it returns false'. Refute it at one input. -/
def wireTextsWrong : ChangeSpec := { name := "wireTexts", fn := fun _ => fun
  | [d1, d2] => { results := [.lit (.bool false)], args := [d1, d2] }
  | _ => none }
def WireTextsWrongFalsely : Prop := wireTextsRow.holds Try.pinned (OpenSpec.ofChange wireTextsWrong)

/-- 'pairinglaw8.WireNumbers': WHATEVER THE INPUT: true; the input reads as it did. -/
def wireNumbersSpec : ChangeSpec := { name := "wireNumbers", fn := fun _ => fun
  | [d] => { results := [.lit (.bool true)], args := [d] }
  | _ => none }
def wireNumbersRow : OpenClaim := { program := "ytecomiapfaikbaa", sum := "600d3f6cd78b76fea9422a049f53ad0dca84d9b24fff277e3b9ca3294a071c62", func := "pairing/pairinglaw8.WireNumbers", spec := "wireNumbers", apart := false }
def WireNumbersSaid : Prop := wireNumbersRow.holds Try.pinned (OpenSpec.ofChange wireNumbersSpec)

/-- ITS FALSE NEIGHBOUR: 'it returns false'. Refute it at one input. -/
def wireNumbersWrong : ChangeSpec := { name := "wireNumbers", fn := fun _ => fun
  | [d] => { results := [.lit (.bool false)], args := [d] }
  | _ => none }
def WireNumbersWrongFalsely : Prop := wireNumbersRow.holds Try.pinned (OpenSpec.ofChange wireNumbersWrong)

/-- 'pairinglaw8.WireChecksums': WHATEVER THE INPUT: true; the input reads as it did. -/
def wireChecksumsSpec : ChangeSpec := { name := "wireChecksums", fn := fun _ => fun
  | [d] => { results := [.lit (.bool true)], args := [d] }
  | _ => none }
def wireChecksumsRow : OpenClaim := { program := "ytecomiapfaikbaa", sum := "600d3f6cd78b76fea9422a049f53ad0dca84d9b24fff277e3b9ca3294a071c62", func := "pairing/pairinglaw8.WireChecksums", spec := "wireChecksums", apart := false }
def WireChecksumsSaid : Prop := wireChecksumsRow.holds Try.pinned (OpenSpec.ofChange wireChecksumsSpec)

/-- ITS FALSE NEIGHBOUR: 'it returns false'. Refute it at one input. -/
def wireChecksumsWrong : ChangeSpec := { name := "wireChecksums", fn := fun _ => fun
  | [d] => { results := [.lit (.bool false)], args := [d] }
  | _ => none }
def WireChecksumsWrongFalsely : Prop := wireChecksumsRow.holds Try.pinned (OpenSpec.ofChange wireChecksumsWrong)

/-- 'pairinglaw8.WireDecodes': WHATEVER THE INPUT: true; the input reads as it did. -/
def wireDecodesSpec : ChangeSpec := { name := "wireDecodes", fn := fun _ => fun
  | [d] => { results := [.lit (.bool true)], args := [d] }
  | _ => none }
def wireDecodesRow : OpenClaim := { program := "ytecomiapfaikbaa", sum := "600d3f6cd78b76fea9422a049f53ad0dca84d9b24fff277e3b9ca3294a071c62", func := "pairing/pairinglaw8.WireDecodes", spec := "wireDecodes", apart := false }
def WireDecodesSaid : Prop := wireDecodesRow.holds Try.pinned (OpenSpec.ofChange wireDecodesSpec)

/-- ITS FALSE NEIGHBOUR: 'it returns false'. Refute it at one input. -/
def wireDecodesWrong : ChangeSpec := { name := "wireDecodes", fn := fun _ => fun
  | [d] => { results := [.lit (.bool false)], args := [d] }
  | _ => none }
def WireDecodesWrongFalsely : Prop := wireDecodesRow.holds Try.pinned (OpenSpec.ofChange wireDecodesWrong)

/-- 'pairinglaw8.WireBack': WHATEVER THE INPUT: true; the input reads as it did. -/
def wireBackSpec : ChangeSpec := { name := "wireBack", fn := fun _ => fun
  | [d1, d2, d3] => { results := [.lit (.bool true)], args := [d1, d2, d3] }
  | _ => none }
def wireBackRow : OpenClaim := { program := "ytecomiapfaikbaa", sum := "600d3f6cd78b76fea9422a049f53ad0dca84d9b24fff277e3b9ca3294a071c62", func := "pairing/pairinglaw8.WireBack", spec := "wireBack", apart := false }
def WireBackSaid : Prop := wireBackRow.holds Try.pinned (OpenSpec.ofChange wireBackSpec)

/-- ITS FALSE NEIGHBOUR: 'it returns false'. Refute it at one input. -/
def wireBackWrong : ChangeSpec := { name := "wireBack", fn := fun _ => fun
  | [d1, d2, d3] => { results := [.lit (.bool false)], args := [d1, d2, d3] }
  | _ => none }
def WireBackWrongFalsely : Prop := wireBackRow.holds Try.pinned (OpenSpec.ofChange wireBackWrong)

/-- 'pairinglaw8.WireFrames': WHATEVER THE INPUT: true; the input reads as it did. -/
def wireFramesSpec : ChangeSpec := { name := "wireFrames", fn := fun _ => fun
  | [d1, d2, d3] => { results := [.lit (.bool true)], args := [d1, d2, d3] }
  | _ => none }
def wireFramesRow : OpenClaim := { program := "ytecomiapfaikbaa", sum := "600d3f6cd78b76fea9422a049f53ad0dca84d9b24fff277e3b9ca3294a071c62", func := "pairing/pairinglaw8.WireFrames", spec := "wireFrames", apart := false }
def WireFramesSaid : Prop := wireFramesRow.holds Try.pinned (OpenSpec.ofChange wireFramesSpec)

/-- ITS FALSE NEIGHBOUR: 'it returns false'. Refute it at one input. -/
def wireFramesWrong : ChangeSpec := { name := "wireFrames", fn := fun _ => fun
  | [d1, d2, d3] => { results := [.lit (.bool false)], args := [d1, d2, d3] }
  | _ => none }
def WireFramesWrongFalsely : Prop := wireFramesRow.holds Try.pinned (OpenSpec.ofChange wireFramesWrong)

/-- 'pairinglaw8.WireFramed': WHATEVER THE INPUT: true; the input reads as it did. -/
def wireFramedSpec : ChangeSpec := { name := "wireFramed", fn := fun _ => fun
  | [d1, d2, d3, d4, d5] => { results := [.lit (.bool true)], args := [d1, d2, d3, d4, d5] }
  | _ => none }
def wireFramedRow : OpenClaim := { program := "ytecomiapfaikbaa", sum := "600d3f6cd78b76fea9422a049f53ad0dca84d9b24fff277e3b9ca3294a071c62", func := "pairing/pairinglaw8.WireFramed", spec := "wireFramed", apart := false }
def WireFramedSaid : Prop := wireFramedRow.holds Try.pinned (OpenSpec.ofChange wireFramedSpec)

/-- ITS FALSE NEIGHBOUR: 'it returns false'. Refute it at one input. -/
def wireFramedWrong : ChangeSpec := { name := "wireFramed", fn := fun _ => fun
  | [d1, d2, d3, d4, d5] => { results := [.lit (.bool false)], args := [d1, d2, d3, d4, d5] }
  | _ => none }
def WireFramedWrongFalsely : Prop := wireFramedRow.holds Try.pinned (OpenSpec.ofChange wireFramedWrong)

/- THE SECOND FORM. 'bulk': how many values and letters a reading holds, each counted each time it is reached (what is shared counts as often as it is met; a slice's spare places count too). A statement '..UptoSaid' is the law's where the arguments, and the package variables that the reading takes, are together of bulk at most 1048576: NARROWER than '..Said'. Prove '..Said' where nothing that the law and all that it calls make is longer than what came in: it says more and counts as full. Else prove '..UptoSaid'. A law counts once. -/
mutual
def uptoBulk {H : Type} : DataW H → Nat
  | .lit (.string bytes) => bytes.length + 1
  | .lit _ => 1
  | .nil => 1
  | .ptr d => uptoBulk d + 1
  | .slice elems spare => uptoBulkAll elems + uptoBulkAll spare + 1
  | .agg parts => uptoBulkAll parts + 1
  | .iface _ d => uptoBulk d + 1
  | .map entries => uptoBulkEntries entries + 1
  | .held _ => 1
def uptoBulkAll {H : Type} : List (DataW H) → Nat
  | [] => 0
  | d :: r => uptoBulk d + uptoBulkAll r
def uptoBulkEntries {H : Type} : List (Lit × DataW H) → Nat
  | [] => 0
  | x :: r => uptoBulkEntry x + uptoBulkEntries r
def uptoBulkEntry {H : Type} : Lit × DataW H → Nat
  | (.string bytes, d) => bytes.length + uptoBulk d + 1
  | (_, d) => uptoBulk d + 1
 end
def uptoSmall : (H : Type) → List (DataW H) → Bool := fun _ ds => decide (uptoBulkAll ds ≤ 1048576)
def OpenSpec.upto (s : _root_.Go.ChangeSpec) : _root_.Go.OpenSpec := { _root_.Go.OpenSpec.ofChange s with cond := some uptoSmall }

/-- 'pairinglaw8.WireTexts', WHERE WHAT IT READS IS OF BULK AT MOST 1048576: true; the input reads as it did. -/
def wireTextsUptoRow : OpenClaim := { program := "ytecomiapfaikbaa", sum := "600d3f6cd78b76fea9422a049f53ad0dca84d9b24fff277e3b9ca3294a071c62", func := "pairing/pairinglaw8.WireTexts", spec := "wireTexts", apart := false, narrowed := true }
def WireTextsUptoSaid : Prop := wireTextsUptoRow.holds Try.pinned (OpenSpec.upto wireTextsSpec)

/-- 'pairinglaw8.WireNumbers', WHERE WHAT IT READS IS OF BULK AT MOST 1048576: true; the input reads as it did. -/
def wireNumbersUptoRow : OpenClaim := { program := "ytecomiapfaikbaa", sum := "600d3f6cd78b76fea9422a049f53ad0dca84d9b24fff277e3b9ca3294a071c62", func := "pairing/pairinglaw8.WireNumbers", spec := "wireNumbers", apart := false, narrowed := true }
def WireNumbersUptoSaid : Prop := wireNumbersUptoRow.holds Try.pinned (OpenSpec.upto wireNumbersSpec)

/-- 'pairinglaw8.WireChecksums', WHERE WHAT IT READS IS OF BULK AT MOST 1048576: true; the input reads as it did. -/
def wireChecksumsUptoRow : OpenClaim := { program := "ytecomiapfaikbaa", sum := "600d3f6cd78b76fea9422a049f53ad0dca84d9b24fff277e3b9ca3294a071c62", func := "pairing/pairinglaw8.WireChecksums", spec := "wireChecksums", apart := false, narrowed := true }
def WireChecksumsUptoSaid : Prop := wireChecksumsUptoRow.holds Try.pinned (OpenSpec.upto wireChecksumsSpec)

/-- 'pairinglaw8.WireDecodes', WHERE WHAT IT READS IS OF BULK AT MOST 1048576: true; the input reads as it did. -/
def wireDecodesUptoRow : OpenClaim := { program := "ytecomiapfaikbaa", sum := "600d3f6cd78b76fea9422a049f53ad0dca84d9b24fff277e3b9ca3294a071c62", func := "pairing/pairinglaw8.WireDecodes", spec := "wireDecodes", apart := false, narrowed := true }
def WireDecodesUptoSaid : Prop := wireDecodesUptoRow.holds Try.pinned (OpenSpec.upto wireDecodesSpec)

/-- 'pairinglaw8.WireBack', WHERE WHAT IT READS IS OF BULK AT MOST 1048576: true; the input reads as it did. -/
def wireBackUptoRow : OpenClaim := { program := "ytecomiapfaikbaa", sum := "600d3f6cd78b76fea9422a049f53ad0dca84d9b24fff277e3b9ca3294a071c62", func := "pairing/pairinglaw8.WireBack", spec := "wireBack", apart := false, narrowed := true }
def WireBackUptoSaid : Prop := wireBackUptoRow.holds Try.pinned (OpenSpec.upto wireBackSpec)

/-- 'pairinglaw8.WireFrames', WHERE WHAT IT READS IS OF BULK AT MOST 1048576: true; the input reads as it did. -/
def wireFramesUptoRow : OpenClaim := { program := "ytecomiapfaikbaa", sum := "600d3f6cd78b76fea9422a049f53ad0dca84d9b24fff277e3b9ca3294a071c62", func := "pairing/pairinglaw8.WireFrames", spec := "wireFrames", apart := false, narrowed := true }
def WireFramesUptoSaid : Prop := wireFramesUptoRow.holds Try.pinned (OpenSpec.upto wireFramesSpec)

/-- 'pairinglaw8.WireFramed', WHERE WHAT IT READS IS OF BULK AT MOST 1048576: true; the input reads as it did. -/
def wireFramedUptoRow : OpenClaim := { program := "ytecomiapfaikbaa", sum := "600d3f6cd78b76fea9422a049f53ad0dca84d9b24fff277e3b9ca3294a071c62", func := "pairing/pairinglaw8.WireFramed", spec := "wireFramed", apart := false, narrowed := true }
def WireFramedUptoSaid : Prop := wireFramedUptoRow.holds Try.pinned (OpenSpec.upto wireFramedSpec)

end Rows
end Go.Proofs.Ytecomiapfaikbaa
