/- Small lemmas for the walks of this seat: bits and wraps; an element of an array that is a value. -/
import Derived.Test.YtecomiapfaikbaaProg
import Derived.Below
import Derived.Deep.Draws
import Derived.Deep.AppendLies
import Derived.Maps.AppendAt
import Derived.OwnWalk
import Derived.Laws.BytesArg
import Derived.Laws.MakeOwn
import Derived.Laws.OwnMore
import Derived.Deep.OwnRows
import Derived.Tactics
import Derived.Lib.ConvBytes
import Derived.Laws.Slices
import Derived.WalkKit
import Derived.KernelRfl
import Derived.RowKit3
import Derived.Deep.LoopGhost
import Derived.Deep.QuietTactic
import Derived.BigQuiet
import Derived.WideLaws
import Derived.Deep.DeepCutAuto
import Derived.Deep.CutBlock
import Derived.Deep.RegionHeld3
import Derived.Laws.Rows
import Derived.Lib.AppendStr
import Derived.ArgAppend
import Derived.Laws.IdiomCopy
import Derived.OrdersHeld
import Derived.Laws.BitsLemmas
import Derived.RowKit
import Derived.Lib.SlBytesConst
import Derived.Outline
import Derived.Test.YtecomiapfaikbaaWWords
import Derived.Test.YtecomiapfaikbaaWLast
import Derived.Test.YtecomiapfaikbaaWTab
import Derived.Test.YtecomiapfaikbaaWFour
import Derived.Test.YtecomiapfaikbaaWQPut
import Derived.Test.YtecomiapfaikbaaWApart
import Derived.Test.YtecomiapfaikbaaWArr
import Derived.Test.YtecomiapfaikbaaWZeros
import Derived.Test.YtecomiapfaikbaaWFoot
import Derived.Test.YtecomiapfaikbaaWKept
import Derived.Test.YtecomiapfaikbaaWShare
import Derived.Test.YtecomiapfaikbaaWN
import Derived.Test.YtecomiapfaikbaaWFootNe
import Derived.Test.YtecomiapfaikbaaWAt
import Derived.Test.YtecomiapfaikbaaWEqStruct
import Derived.Test.YtecomiapfaikbaaWRepsOne
import Derived.Test.YtecomiapfaikbaaWInv
import Derived.Test.YtecomiapfaikbaaWInvWords
import Derived.Test.YtecomiapfaikbaaWGuard
import Derived.Test.YtecomiapfaikbaaWNEv
import Derived.Test.YtecomiapfaikbaaWMore
namespace Go.Proofs.Ytecomiapfaikbaa.H
open Go.RowKit Go.Proofs.YtecomiapfaikbaaW.PrintWords Go.Proofs.YtecomiapfaikbaaW.PrintLast Go.Proofs.YtecomiapfaikbaaW.PrintMore
set_option linter.unusedVariables false
set_option linter.unusedSimpArgs false

theorem wraps_i64 (n : Int) (h0 : 0 ≤ n) (h1 : n < 2 ^ 63) : IntKind.i64.wrap n = n := by rw [IntKind.wrap_i64]; omega
theorem wraps_u32 (n : Int) (h0 : 0 ≤ n) (h1 : n < 2 ^ 32) : IntKind.u32.wrap n = n := by rw [IntKind.wrap_u32]; omega
theorem bits_or_comm (k : IntKind) (a b : Int) : Go.bits .or k a b = Go.bits .or k b a := by simp only [bits]; rw [BitVec.or_comm]
theorem or128 (x : Int) (h0 : 0 ≤ x) (h : x < 256) : Go.bits .or .u8 x 128 = x % 128 + 128 := by
  obtain ⟨a, rfl⟩ := Int.eq_ofNat_of_zero_le h0
  have ha : a < 256 := by omega
  have h1 := (bits_nat .u8 8 (by decide) wraps_u8 a 128 (by omega) (by omega)).2
  have h2 : ∀ a : Fin 256, a.val ||| 128 = a.val % 128 + 128 := by decide +kernel
  rw [h2 ⟨a, ha⟩] at h1
  have h3 : Go.bits .or .u8 (a : Int) 128 = ((a % 128 + 128 : Nat) : Int) := h1
  rw [h3]
  omega
theorem and127 (x : Int) (h0 : 0 ≤ x) (h1 : x < 9223372036854775808) : Go.bits .and .i64 x 127 = x % 128 :=
  bits_mask .i64 63 (by decide) wraps_i64 7 (by decide) x h0 (by omega)
theorem infoB : (Try.prog.info? 5).map (fun i => (i.zero, i.size, i.bytes)) = some (some (.int .u8 0), 1, 1) := by kernel_rfl
/-- A row that lies whole in a new block reads as its numbers. -/
theorem lit_reads (W : World) (k : IntKind) (e : TypeId) (fr : Nat × Nat) (xs : List Int) (hm : xs.length ≤ 9223372036854775807) :
    Kd.C (Kd.int k) (W.alloc (.cells (xs.map (Value.int k)).toArray e fr)) (some ⟨W.heap.size, 0, none⟩) xs.length xs := by
  refine Kd.C_of_reads (enc := Value.int k) (d := (0 : Int)) (h1 := fun _ => rfl) ⟨rfl, hm, fun _ => ⟨_, rfl, fun j hj => ?_⟩⟩
  rw [add_plain, cell_of_row _ _ j _ e fr (heap_alloc_new W _)]
  simp [rdOf, List.getD_eq_getElem?_getD, hj]
end Go.Proofs.Ytecomiapfaikbaa.H
