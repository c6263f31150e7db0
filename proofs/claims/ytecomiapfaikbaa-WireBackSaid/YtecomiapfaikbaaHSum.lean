/- wire.table, wire.Checksum and the reference's Checksum answer what 'tabCells', 'crcSum' and 'refFold' say, at every list of bytes. -/
import Derived.Test.YtecomiapfaikbaaHBase
import Derived.Deep.WholeRow
import Derived.Laws.ResultCell
namespace Go.Proofs.Ytecomiapfaikbaa.H
open Go.RowKit Go.Proofs.YtecomiapfaikbaaW.PrintWords Go.Proofs.YtecomiapfaikbaaW.PrintLast Go.Proofs.YtecomiapfaikbaaW.PrintMore
set_option linter.unusedVariables false
set_option linter.unusedSimpArgs false

def cstep (x : Nat) : Nat := if x % 2 = 1 then (x / 2) ^^^ 2197175160 else x / 2
def citer : Nat → Nat → Nat
  | 0, x => x
  | k + 1, x => cstep (citer k x)
theorem cstep_lt (x : Nat) (h : x < 4294967296) : cstep x < 4294967296 := by
  unfold cstep
  split
  · exact Nat.xor_lt_two_pow (n := 32) (by omega) (by decide)
  · omega
theorem citer_lt (k x : Nat) (h : x < 4294967296) : citer k x < 4294967296 := by
  induction k with
  | zero => exact h
  | succ k ih => exact cstep_lt _ ih
/-- The table while it is filled: k entries stand, the others are 0. -/
def tabCells (k : Nat) : Array Value := ((List.range 256).map (fun i => Value.int .u32 (if i < k then (citer 8 i : Int) else 0))).toArray
theorem tab_size (k : Nat) : (tabCells k).size = 256 := by simp [tabCells]
theorem tab_zero : Array.replicate 256 (Value.int .u32 0) = tabCells 0 := by
  apply Array.ext_getElem?
  intro i
  by_cases h : i < 256
  · simp [tabCells, h]
  · simp [tabCells, h]
theorem tab_set (k : Nat) (h : k < 256) : (tabCells k).setIfInBounds k (.int .u32 (citer 8 k : Int)) = tabCells (k + 1) := by
  apply Array.ext_getElem?
  intro i
  rw [Array.getElem?_setIfInBounds]
  by_cases e : k = i
  · subst e
    simp [tabCells, h]
  · rw [if_neg e]
    by_cases hi : i < 256
    · simp only [tabCells, List.getElem?_toArray, List.getElem?_map, List.getElem?_range hi, Option.map_some]
      by_cases hk : i < k
      · rw [if_pos hk, if_pos (by omega)]
      · rw [if_neg hk, if_neg (by omega)]
    · simp [tabCells, hi]
theorem tab_one (k : Nat) : (tabCells k).all (·.oneCell') = true := by
  simp [tabCells, Value.oneCell']
theorem tab_at (x : Nat) (h : x < 256) : (tabCells 256)[x]? = some (.int .u32 (citer 8 x : Int)) := by
  simp [tabCells, h]
theorem tab_next (k : Nat) (h : k < 256) : (tabCells k)[k]? = some (.int .u32 0) := by
  simp [tabCells, h]
theorem bits_xor_nat (a b : Nat) (ha : a < 4294967296) (hb : b < 4294967296) : Go.bits .xor .u32 (a : Int) (b : Int) = ((a ^^^ b : Nat) : Int) := by
  simp only [bits, BitVec.ofInt_natCast, BitVec.toNat_xor, BitVec.toNat_ofNat]
  have e1 : a % 2 ^ IntKind.u32.bits = a := Nat.mod_eq_of_lt ha
  have e2 : b % 2 ^ IntKind.u32.bits = b := Nat.mod_eq_of_lt hb
  rw [e1, e2]
  exact wraps_u32 _ (by omega) (by have := Nat.xor_lt_two_pow (n := 32) ha hb; omega)
theorem xor_step (X : Nat) (h : X < 4294967296) (ho : X % 2 = 1) : Go.bits .xor .u32 ((X : Int) / 2) 2197175160 = ((cstep X : Nat) : Int) := by
  have := bits_xor_nat (X / 2) 2197175160 (by omega) (by decide)
  unfold cstep
  rw [if_pos ho]
  exact this
theorem infoTab : (Try.prog.info? 47).map (fun i => (i.zero, i.size)) = some (some (.agg (Array.replicate 256 (.int .u32 0))), 256) := by kernel_rfl

set_option maxHeartbeats 8000000 in
set_option maxRecDepth 100000 in
theorem table_calls (w : World) :
    Calls Try.prog 32 #[] w fun e w' => e = .returned (.agg (tabCells 256)) ∧ Below w.heap.size w w' := by
  have hv := (zero_of_info infoTab).1
  rw [tab_zero] at hv
  go_enter Try.func32, Try.ntmps32
  go_wp2
  go_loopg [4] 256 (fun gk v4 wx => ∃ i : Nat, i + gk = 256 ∧ v4 = .int .i64 (i : Int) ∧ wx = (w.alloc (.cells (tabCells 0) 47)).alloc (.cells (tabCells i) 47))
  case atStart => exact ⟨0, by omega, rfl, rfl⟩
  case round =>
    obtain ⟨i, hig, rfl, rfl⟩ := hrel
    cases gk with
    | zero =>
      obtain rfl : i = 256 := by omega
      have hg1 : ((w.alloc (.cells (tabCells 0) 47)).alloc (.cells (tabCells 256) 47)).heap[w.heap.size + 1]? = some (.cells (tabCells 256) 47 (0, 0)) := heap_alloc2_new w _ _
      have hg0 : ((w.alloc (.cells (tabCells 0) 47)).alloc (.cells (tabCells 256) 47)).heap[w.heap.size]? = some (.cells (tabCells 0) 47 (0, 0)) := heap_alloc2_old w _ _
      have hin : (Try.prog.info? 47).map (·.size) = some (tabCells 256).size := by rw [tab_size]; exact (zero_of_info infoTab).2
      have HG1 := Aside0.mk hg1
      have HG0 := Aside0.mk hg0
      have HIN := Aside0.mk hin
      clear hg1 hg0 hin hv
      go_wp2_with (first | (with_reducible refine wpList_load_row rfl 47 (.tmp 1) rfl (w.heap.size + 1) rfl 47 (tabCells 256) (0, 0) _ HG1.out Try.underlying47 rfl HIN.out ?_) | (with_reducible refine wpList_store_row rfl 47 (.tmp 0) (.tmp 24) rfl w.heap.size (tabCells 256) rfl rfl 47 (tabCells 0) HG0.out HIN.out (by rw [tab_size, tab_size]) (tab_one 256) ?_))
      refine bodyPost_ret (v := .agg (tabCells 256)) (results_cell_row rfl _ _ w.heap.size 47 (tabCells 256) (0, 0) _ rfl (setRow_heap _ _ _ _ _ _ HG0.out) Try.underlying47 rfl HIN.out) rfl ⟨rfl, ?_⟩
      have hb : Below w.heap.size w ((w.alloc (.cells (tabCells 0) 47)).alloc (.cells (tabCells 256) 47)) := ((Below.refl _ _).alloc (Nat.le_refl _) _).alloc (by simp) _
      exact ⟨hb.os, hb.tape, hb.output, by rw [setRow_size]; exact hb.size, fun j hj => by rw [setRow_other _ _ _ _ (by omega)]; exact hb.block j hj⟩
    | succ g =>
      have hlt : (i : Int) < 256 := by omega
      have hi0 : (0 : Int) ≤ i := by omega
      go_wp2
      go_loopg [3, 9] 8 (fun gi v3 v9 wx => ∃ (j X : Nat), j + gi = 8 ∧ v9 = .int .i64 (j : Int) ∧ v3 = .int .u32 (X : Int) ∧ Aside0 (X = citer j i ∧ X < 4294967296) ∧ wx = (w.alloc (.cells (tabCells 0) 47)).alloc (.cells (tabCells i) 47))
      case atStart => exact ⟨0, i, rfl, rfl, by first | rfl | (rw [IntKind.wrap_u32]; rw [Int.emod_eq_of_lt hi0 (by omega)]) | simp, ⟨rfl, by omega⟩, rfl⟩
      case round =>
        obtain ⟨j, X, hjg, rfl, rfl, HX, rfl⟩ := hrel
        cases gk with
        | zero =>
          obtain rfl : j = 8 := by omega
          have hc : (tabCells i)[i]? = some (.int .u32 0) := tab_next i (by omega)
          have hset := tab_set i (by omega)
          have hX := HX.out.1
          subst hX
          go_wp2
          go_roundg g
          case measure => omega
          case rel => exact ⟨i + 1, by omega, by go_num, by first | rfl | (rw [hset])⟩
        | succ g2 =>
          have hj : (j : Int) < 8 := by omega
          have hXb : (X : Int) < 4294967296 := by have := HX.out.2; omega
          have hX0 : (0 : Int) ≤ X := by omega
          have hand : Go.bits .and .u32 (X : Int) 1 = ((X % 2 : Nat) : Int) := by
            have := (bits_nat .u32 32 (by decide) (fun n a b => wraps_u32 n a b) X 1 (by omega) (by decide)).1
            rw [Nat.and_one_is_mod] at this; exact this
          by_cases ho : X % 2 = 1
          · have hto : (((X % 2 : Nat) : Int) == 1) = true := beq_iff_eq.mpr (by omega)
            have hxor : Go.bits .xor .u32 ((X : Int) / 2) 2197175160 = ((cstep X : Nat) : Int) := xor_step X (by omega) ho
            have HX2 := Aside0.mk (show cstep X = citer (j + 1) i ∧ cstep X < 4294967296 from ⟨by rw [HX.out.1]; rfl, cstep_lt X (by omega)⟩)
            clear ho hXb
            go_wp2
            go_roundg g2
            case measure => omega
            case rel => exact ⟨j + 1, cstep X, by omega, by go_num, rfl, HX2, rfl⟩
          · have hto : (((X % 2 : Nat) : Int) == 1) = false := beq_eq_false_iff_ne.mpr (by omega)
            have HX2 := Aside0.mk (show X / 2 = citer (j + 1) i ∧ X / 2 < 4294967296 from ⟨by show X / 2 = cstep (citer j i); rw [← HX.out.1]; unfold cstep; rw [if_neg ho], by omega⟩)
            clear ho hXb
            go_wp2
            go_roundg g2
            case measure => omega
            case rel => exact ⟨j + 1, X / 2, by omega, by go_num, by first | rfl | (simp; done), HX2, rfl⟩
/-- The state of the checksum, behind a list of bytes. -/
def crcFold : Nat → List Int → Nat
  | x, [] => x
  | x, c :: t => crcFold (x / 256 ^^^ citer 8 (x % 256 ^^^ c.toNat)) t
def crcSum (l : List Int) : Int := 4294967295 - (crcFold 4294967295 l : Int)
theorem crc_lt (x c : Nat) (hx : x < 4294967296) (hc : c < 256) : x / 256 ^^^ citer 8 (x % 256 ^^^ c) < 4294967296 :=
  Nat.xor_lt_two_pow (n := 32) (by omega) (citer_lt 8 _ (by have := Nat.xor_lt_two_pow (n := 8) (x := x % 256) (y := c) (by omega) hc; omega))
theorem crcFold_lt (l : List Int) : ∀ x : Nat, x < 4294967296 → (∀ c ∈ l, 0 ≤ c ∧ c ≤ 255) → crcFold x l < 4294967296 := by
  induction l with
  | nil => intro x hx _; exact hx
  | cons c t ih =>
    intro x hx hb
    have := hb c (by simp)
    exact ih _ (crc_lt x c.toNat hx (by omega)) (fun d hd => hb d (by simp [hd]))
theorem bits_xor8 (a b : Nat) (ha : a < 256) (hb : b < 256) : Go.bits .xor .u8 (a : Int) (b : Int) = ((a ^^^ b : Nat) : Int) := by
  simp only [bits, BitVec.ofInt_natCast, BitVec.toNat_xor, BitVec.toNat_ofNat]
  have e1 : a % 2 ^ IntKind.u8.bits = a := Nat.mod_eq_of_lt ha
  have e2 : b % 2 ^ IntKind.u8.bits = b := Nat.mod_eq_of_lt hb
  rw [e1, e2]
  exact wraps_u8 _ (by omega) (by have := Nat.xor_lt_two_pow (n := 8) ha hb; omega)
theorem xor_ones (x : Nat) (h : x < 4294967296) : Go.bits .xor .u32 4294967295 (x : Int) = 4294967295 - (x : Int) := by
  have h1 := bits_xor_nat 4294967295 x (by decide) h
  have h2 : (4294967295 : Nat) ^^^ x = 4294967295 - x := by
    have h3 : (BitVec.allOnes 32 ^^^ BitVec.ofNat 32 x).toNat = 4294967295 - x := by
      rw [BitVec.allOnes_xor, BitVec.toNat_not, BitVec.toNat_ofNat, Nat.mod_eq_of_lt h]
    rw [BitVec.toNat_xor, BitVec.toNat_allOnes, BitVec.toNat_ofNat, Nat.mod_eq_of_lt h] at h3
    exact h3
  rw [h2] at h1
  have h3 : Go.bits .xor .u32 4294967295 (x : Int) = ((4294967295 - x : Nat) : Int) := h1
  rw [h3]; omega
set_option maxHeartbeats 8000000 in
set_option maxRecDepth 100000 in
theorem sum_calls (A0 : Option Addr) (c0 : Nat) (l0 : List Int) (w : World) (hr0 : Kd.C (Kd.int .u8) w A0 l0.length l0) (hc0 : l0.length ≤ c0) (hw : ∀ x ∈ l0, 0 ≤ x ∧ x ≤ 255) :
    Calls Try.prog 18 #[.slice A0 l0.length c0] w fun e w' => e = .returned (.int .u32 (crcSum l0)) ∧ Below w.heap.size w w' := by
  have HR0 := Aside0.mk hr0
  have HW := Aside0.mk hw
  have hlen : l0.length ≤ 9223372036854775807 := (Kd.reads_of_C (enc := Value.int .u8) (d := (0 : Int)) (h1 := fun _ => rfl) hr0).2.1
  clear hr0 hc0 hw
  have hv := (zero_of_info infoTab).1
  rw [tab_zero] at hv
  obtain ⟨R, hR⟩ : ∃ R, crcFold 4294967295 l0 = R := ⟨_, rfl⟩
  have HRR := Aside0.mk hR
  have HRB := Aside0.mk (show R < 4294967296 by rw [← hR]; exact crcFold_lt l0 _ (by decide) HW.out)
  clear hR
  have HIN := Aside0.mk (show (Try.prog.info? 47).map (·.size) = some (tabCells 256).size by rw [tab_size]; exact (zero_of_info infoTab).2)
  go_enter Try.func18, Try.ntmps18
  go_wp2_with (first | (go_at_call 32; refine (table_calls _).mono ?_; rintro e w1 ⟨rfl, hb⟩; have HB := Aside0.mk hb; clear hb) | (with_reducible refine wpList_store_row rfl 47 (.tmp 3) (.tmp 7) rfl _ (tabCells 256) rfl rfl 47 (tabCells 0) (heap_alloc_last _ _) HIN.out (by rw [tab_size, tab_size]) (tab_one 256) ?_))
  rw [World.setRow_alloc_new]
  have hcell : ∀ x : Nat, x < 256 → (w1.alloc (.cells (tabCells 256) 47)).cell? ⟨w1.heap.size, x, none⟩ = some (.int .u32 (citer 8 x : Int)) := fun x hx => by
    rw [cell_of_row _ _ x (tabCells 256) 47 (0, 0) (heap_alloc_last _ _), tab_at x hx]
  have hbw : Below w.heap.size w (w1.alloc (.cells (tabCells 256) 47)) := below_alloc HB.out _
  obtain ⟨W, hW⟩ : ∃ W, w1.alloc (.cells (tabCells 256) 47) = W := ⟨_, rfl⟩
  obtain ⟨B, hB⟩ : ∃ B, w1.heap.size = B := ⟨_, rfl⟩
  rw [hW, hB] at hcell
  rw [hW] at hbw
  rw [hW, hB]
  clear hW hB HB hv
  have HR := Aside0.mk (Kd.C_below HR0.out hbw)
  have HCELL := Aside0.mk hcell
  have HBW := Aside0.mk hbw
  clear HR0 hcell hbw
  go_loopg [4, 10] l0.length (fun gk v4 v10 wx => ∃ (x i : Nat), i + gk = l0.length ∧ v4 = .int .u32 (x : Int) ∧ v10 = .int .i64 (i : Int) ∧ Aside0 (x < 4294967296 ∧ crcFold x (l0.drop i) = R) ∧ wx = W)
  case atStart => exact ⟨4294967295, 0, by omega, rfl, rfl, ⟨by decide, by simpa using HRR.out⟩, rfl⟩
  case round =>
    obtain ⟨x, i, hik, rfl, rfl, HX, rfl⟩ := hrel
    cases gk with
    | zero =>
      have hlt : ¬ (i : Int) < (l0.length : Int) := by omega
      have hd : crcFold x (l0.drop i) = x := by rw [List.drop_of_length_le (by omega)]; rfl
      have hxR : x = R := hd.symm.trans HX.out.2
      subst hxR
      have hones : Go.bits .xor .u32 IntKind.u32.max (x : Int) = 4294967295 - (x : Int) := xor_ones x HX.out.1
      have HFIN := Aside0.mk (show (4294967295 - (x : Int)) = crcSum l0 by unfold crcSum; rw [HRR.out])
      clear hd
      rw [HFIN.out] at hones
      go_wp2
      go_ret
      exact ⟨rfl, HBW.out⟩
    | succ g =>
      have hlt : (i : Int) < (l0.length : Int) := by omega
      have hi0 : (0 : Int) ≤ i := by omega
      obtain ⟨c, hc⟩ : ∃ c, rd l0 (i : Int) = c := ⟨_, rfl⟩
      have hget : l0[i]? = some c := by
        rw [← hc]; unfold rd; rw [Int.toNat_natCast, List.getD_eq_getElem?_getD, List.getElem?_eq_getElem (by omega)]; rfl
      have hcb : 0 ≤ c ∧ c ≤ 255 := HW.out c (List.mem_of_getElem? hget)
      have hdrop : l0.drop i = c :: l0.drop (i + 1) := by
        obtain ⟨h1, h2⟩ := List.getElem?_eq_some_iff.1 hget
        rw [List.drop_eq_getElem_cons h1, h2]
      obtain ⟨ad, e115, hx⟩ := Kd.at_int HR.out (i : Int) hi0 hlt
      cases e115
      rw [hc] at hx
      rw [Int.toNat_natCast] at hx
      obtain ⟨b, rfl⟩ := Int.eq_ofNat_of_zero_le hcb.1
      have hb : b < 256 := by omega
      have HN := Aside0.mk (show crcFold (x / 256 ^^^ citer 8 (x % 256 ^^^ b)) (l0.drop (i + 1)) = R by have := HX.out.2; rw [hdrop] at this; exact this)
      have HN2 := Aside0.mk (crc_lt x b HX.out.1 hb)
      have h8 : Go.bits .xor .u8 ((x : Int) % 256) (b : Int) = ((x % 256 ^^^ b : Nat) : Int) := bits_xor8 (x % 256) b (by omega) hb
      have hidx : x % 256 ^^^ b < 256 := Nat.xor_lt_two_pow (n := 8) (by omega) hb
      have htab := HCELL.out (x % 256 ^^^ b) hidx
      have hcl : citer 8 (x % 256 ^^^ b) < 4294967296 := citer_lt 8 _ (by omega)
      have hx32 : Go.bits .xor .u32 ((x : Int) / 256) ((citer 8 (x % 256 ^^^ b) : Nat) : Int) = ((x / 256 ^^^ citer 8 (x % 256 ^^^ b) : Nat) : Int) := by
        have := bits_xor_nat (x / 256) (citer 8 (x % 256 ^^^ b)) (by have := HX.out.1; omega) hcl; exact this
      obtain ⟨y, hy⟩ : ∃ y, x / 256 ^^^ citer 8 (x % 256 ^^^ b) = y := ⟨_, rfl⟩
      obtain ⟨t, ht⟩ : ∃ t, citer 8 (x % 256 ^^^ b) = t := ⟨_, rfl⟩
      obtain ⟨q, hq⟩ : ∃ q, x % 256 ^^^ b = q := ⟨_, rfl⟩
      rw [hy] at HN HN2 hx32
      rw [hq] at h8 htab hidx hx32
      rw [hq] at ht
      rw [ht] at htab hx32
      have hx0 : (0 : Int) ≤ x := by omega
      have hb0 : (0 : Int) ≤ b := by omega
      have hb1 : (b : Int) < 256 := by omega
      have hq0 : (0 : Int) ≤ q := by omega
      have hq1 : (q : Int) < 256 := by omega
      clear hy ht hq hc hget hcb hdrop hcl hb
      go_wp2
      go_roundg g
      case measure => omega
      case rel => exact ⟨y, i + 1, by omega, rfl, by go_num, ⟨HN2.out, HN.out⟩, rfl⟩
/-- The reference's state: bit by bit. -/
def refFold : Nat → List Int → Nat
  | x, [] => x
  | x, c :: t => refFold (citer 8 (x ^^^ c.toNat)) t
theorem refFold_lt (l : List Int) : ∀ x : Nat, x < 4294967296 → (∀ c ∈ l, 0 ≤ c ∧ c ≤ 255) → refFold x l < 4294967296 := by
  induction l with
  | nil => intro x hx _; exact hx
  | cons c t ih =>
    intro x hx hb
    have := hb c (by simp)
    exact ih _ (citer_lt 8 _ (Nat.xor_lt_two_pow (n := 32) hx (by omega))) (fun d hd => hb d (by simp [hd]))
set_option maxHeartbeats 8000000 in
set_option maxRecDepth 100000 in
theorem refsum_calls (A0 : Option Addr) (c0 : Nat) (l0 : List Int) (w : World) (hr0 : Kd.C (Kd.int .u8) w A0 l0.length l0) (hc0 : l0.length ≤ c0) (hw : ∀ x ∈ l0, 0 ≤ x ∧ x ≤ 255) :
    Calls Try.prog 19 #[.slice A0 l0.length c0] w fun e w' => e = .returned (.int .u32 (4294967295 - (refFold 4294967295 l0 : Int))) ∧ Drawn0 w w' := by
  have HR := Aside0.mk hr0
  have HW := Aside0.mk hw
  have hlen : l0.length ≤ 9223372036854775807 := (Kd.reads_of_C (enc := Value.int .u8) (d := (0 : Int)) (h1 := fun _ => rfl) hr0).2.1
  clear hr0 hc0 hw
  obtain ⟨R, hR⟩ : ∃ R, refFold 4294967295 l0 = R := ⟨_, rfl⟩
  have HRR := Aside0.mk hR
  clear hR
  have hones : Go.bits .xor .u32 IntKind.u32.max 0 = 4294967295 := by decide
  go_enter Try.func19, Try.ntmps19
  go_wp2
  go_loopg [3, 4] l0.length (fun gk v3 v4 wx => ∃ (x i : Nat), i + gk = l0.length ∧ v3 = .int .u32 (x : Int) ∧ v4 = .int .i64 (i : Int) ∧ Aside0 (x < 4294967296 ∧ refFold x (l0.drop i) = R) ∧ Drawn0 w wx)
  case atStart => exact ⟨4294967295, 0, by omega, rfl, rfl, ⟨by decide, by simpa using HRR.out⟩, Drawn0.refl _⟩
  case round =>
    obtain ⟨x, i, hik, rfl, rfl, HX, ⟨m1, rfl⟩⟩ := hrel
    cases gk with
    | zero =>
      have hlt : ¬ (i : Int) < (l0.length : Int) := by omega
      have hd : refFold x (l0.drop i) = x := by rw [List.drop_of_length_le (by omega)]; rfl
      have hxR : x = R := hd.symm.trans HX.out.2
      subst hxR
      have hones2 : Go.bits .xor .u32 IntKind.u32.max (x : Int) = 4294967295 - (x : Int) := xor_ones x HX.out.1
      obtain ⟨Y, hY⟩ : ∃ Y, 4294967295 - (x : Int) = Y := ⟨_, rfl⟩
      rw [hY] at hones2
      have HY := Aside0.mk hY
      have HRR2 := Aside0.mk HRR.out
      clear hd hones hY HRR
      go_wp2
      go_ret
      exact ⟨by rw [HRR2.out, HY.out]; rfl, by repeat (first | exact Drawn0.refl _ | apply Drawn0.step)⟩
    | succ g =>
      have hlt : (i : Int) < (l0.length : Int) := by omega
      have hi0 : (0 : Int) ≤ i := by omega
      obtain ⟨c, hc⟩ : ∃ c, rd l0 (i : Int) = c := ⟨_, rfl⟩
      have hget : l0[i]? = some c := by
        rw [← hc]; unfold rd; rw [Int.toNat_natCast, List.getD_eq_getElem?_getD, List.getElem?_eq_getElem (by omega)]; rfl
      have hcb : 0 ≤ c ∧ c ≤ 255 := HW.out c (List.mem_of_getElem? hget)
      have hdrop : l0.drop i = c :: l0.drop (i + 1) := by
        obtain ⟨h1, h2⟩ := List.getElem?_eq_some_iff.1 hget
        rw [List.drop_eq_getElem_cons h1, h2]
      obtain ⟨ad, e115, hx⟩ := Kd.at_int HR.out (i : Int) hi0 hlt
      cases e115
      rw [hc] at hx
      rw [Int.toNat_natCast] at hx
      obtain ⟨b, rfl⟩ := Int.eq_ofNat_of_zero_le hcb.1
      have hb : b < 256 := by omega
      have HN := Aside0.mk (show refFold (citer 8 (x ^^^ b)) (l0.drop (i + 1)) = R by have := HX.out.2; rw [hdrop] at this; exact this)
      have hxb : x ^^^ b < 4294967296 := Nat.xor_lt_two_pow (n := 32) HX.out.1 (by omega)
      have hx32 : Go.bits .xor .u32 (x : Int) (b : Int) = ((x ^^^ b : Nat) : Int) := bits_xor_nat x b HX.out.1 (by omega)
      obtain ⟨y, hy⟩ : ∃ y, x ^^^ b = y := ⟨_, rfl⟩
      rw [hy] at HN hxb hx32
      have HYB := Aside0.mk hxb
      have hb0 : (0 : Int) ≤ b := by omega
      have hb1 : (b : Int) < 256 := by omega
      have hbw : (b : Int) % 4294967296 = (b : Int) := by omega
      clear hy hc hget hcb hdrop hb hones hxb
      go_wp2
      go_loopg [3, 5] 8 (fun gi v3 v5 wx => ∃ (j X : Nat), j + gi = 8 ∧ v5 = .int .i64 (j : Int) ∧ v3 = .int .u32 (X : Int) ∧ Aside0 (X = citer j y ∧ X < 4294967296) ∧ Drawn0 w wx)
      case atStart => exact ⟨0, y, rfl, rfl, rfl, ⟨rfl, HYB.out⟩, by repeat (first | exact Drawn0.refl _ | apply Drawn0.step)⟩
      case round =>
        obtain ⟨j, X, hjg, rfl, rfl, HX2, ⟨m2, rfl⟩⟩ := hrel
        cases gk with
        | zero =>
          obtain rfl : j = 8 := by omega
          have hX := HX2.out.1
          have hX2 := HX2.out.2
          subst hX
          have HC := Aside0.mk hX2
          clear hX2
          go_wp2
          go_roundg g
          case measure => omega
          case rel => exact ⟨citer 8 y, i + 1, by omega, rfl, by go_num, ⟨HC.out, HN.out⟩, by repeat (first | exact Drawn0.refl _ | apply Drawn0.step)⟩
        | succ g2 =>
          have hj : (j : Int) < 8 := by omega
          have hX0 : (0 : Int) ≤ X := by omega
          have hand : Go.bits .and .u32 (X : Int) 1 = ((X % 2 : Nat) : Int) := by
            have := (bits_nat .u32 32 (by decide) (fun n a b => wraps_u32 n a b) X 1 (by have := HX2.out.2; omega) (by decide)).1
            rw [Nat.and_one_is_mod] at this; exact this
          by_cases ho : X % 2 = 1
          · have hto : (((X % 2 : Nat) : Int) == 1) = true := beq_iff_eq.mpr (by omega)
            have hxor : Go.bits .xor .u32 ((X : Int) / 2) 2197175160 = ((cstep X : Nat) : Int) := xor_step X HX2.out.2 ho
            have HX3 := Aside0.mk (show cstep X = citer (j + 1) y ∧ cstep X < 4294967296 from ⟨by rw [HX2.out.1]; rfl, cstep_lt X HX2.out.2⟩)
            clear ho
            go_wp2
            go_roundg g2
            case measure => omega
            case rel => exact ⟨j + 1, cstep X, by omega, by go_num, rfl, HX3, by repeat (first | exact Drawn0.refl _ | apply Drawn0.step)⟩
          · have hto : (((X % 2 : Nat) : Int) == 1) = false := beq_eq_false_iff_ne.mpr (by omega)
            have HX3 := Aside0.mk (show X / 2 = citer (j + 1) y ∧ X / 2 < 4294967296 from ⟨by show X / 2 = cstep (citer j y); rw [← HX2.out.1]; unfold cstep; rw [if_neg ho], by have := HX2.out.2; omega⟩)
            clear ho
            go_wp2
            go_roundg g2
            case measure => omega
            case rel => exact ⟨j + 1, X / 2, by omega, by go_num, by first | rfl | (simp; done), HX3, by repeat (first | exact Drawn0.refl _ | apply Drawn0.step)⟩

/-! as the printed callers take them -/
def wire_Checksum.f (l0 : List Int) : Option Int := if ∀ x ∈ l0, 0 ≤ x ∧ x ≤ 255 then some (crcSum l0) else none
theorem wire_Checksum.calls (A0 : Option Addr) (c0 : Nat) (l0 : List Int) (r : Int) (w : World) (hr0 : Kd.C (Kd.int .u8) w A0 l0.length l0) (hc0 : l0.length ≤ c0) (h : wire_Checksum.f l0 = some r) :
    Calls Try.prog 18 #[.slice A0 l0.length c0] w fun e w' => e = .returned (.int .u32 r) ∧ Below w.heap.size w w' := by
  unfold wire_Checksum.f at h
  split at h
  · rename_i hb
    obtain rfl := Option.some.inj h
    exact sum_calls A0 c0 l0 w hr0 hc0 hb
  · exact absurd h (by simp)
def pairingref8_Checksum.f (l0 : List Int) : Option Int := if ∀ x ∈ l0, 0 ≤ x ∧ x ≤ 255 then some (4294967295 - (refFold 4294967295 l0 : Int)) else none
theorem pairingref8_Checksum.calls (A0 : Option Addr) (c0 : Nat) (l0 : List Int) (r : Int) (w : World) (hr0 : Kd.C (Kd.int .u8) w A0 l0.length l0) (hc0 : l0.length ≤ c0) (h : pairingref8_Checksum.f l0 = some r) :
    Calls Try.prog 19 #[.slice A0 l0.length c0] w fun e w' => e = .returned (.int .u32 r) ∧ Drawn0 w w' := by
  unfold pairingref8_Checksum.f at h
  split at h
  · rename_i hb
    obtain rfl := Option.some.inj h
    exact refsum_calls A0 c0 l0 w hr0 hc0 hb
  · exact absurd h (by simp)
end Go.Proofs.Ytecomiapfaikbaa.H
