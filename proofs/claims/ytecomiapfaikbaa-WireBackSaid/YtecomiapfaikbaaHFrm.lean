/- wire.Unframe of the program answers what 'unf' says, at every list of bytes shorter than 2^47. -/
import Derived.Test.YtecomiapfaikbaaHDec
import Derived.Test.YtecomiapfaikbaaHSum
namespace Go.Proofs.Ytecomiapfaikbaa.H
open Go.RowKit Go.Proofs.YtecomiapfaikbaaW.PrintWords Go.Proofs.YtecomiapfaikbaaW.PrintLast Go.Proofs.YtecomiapfaikbaaW.PrintMore
set_option linter.unusedVariables false
set_option linter.unusedSimpArgs false
/-- Bytes, the most significant one first. -/
def beF : Int → List Int → Int
  | x, [] => x
  | x, c :: t => beF (x * 256 + c) t
/-- What DecodeUint yields where it yields a number. -/
theorem decL_ok (l : List Int) : ∀ (i : Nat) (n : Int), i ≤ 8 → 0 ≤ n → (decL l i n).2.2 = 0 → 0 ≤ (decL l i n).1 ∧ (decL l i n).1 ≤ 4611686018427387904 ∧ (i : Int) + 1 ≤ (decL l i n).2.1 ∧ (decL l i n).2.1 ≤ 9 ∧ (decL l i n).2.1 ≤ (i : Int) + l.length := by
  induction l with
  | nil => intro i n _ _ h; simp [decL] at h
  | cons c t ih =>
    intro i n hi hn h
    have hp : (0 : Int) < 128 ^ i := Int.pow_pos (by decide)
    have hm : 0 ≤ n + c % 128 * 128 ^ i := by
      have : 0 ≤ c % 128 * 128 ^ i := Int.mul_nonneg (by omega) (by omega)
      omega
    simp only [decL] at h ⊢
    by_cases h1 : c < 128
    · rw [if_pos h1] at h ⊢
      by_cases h2 : (c = 0 ∧ 0 < i) ∨ n + c % 128 * 128 ^ i > 4611686018427387904
      · rw [if_pos h2] at h; simp at h
      · rw [if_neg h2]
        refine ⟨hm, by omega, by simp, by simp; omega, by simp; omega⟩
    · rw [if_neg h1] at h ⊢
      by_cases h2 : i = 8
      · rw [if_pos h2] at h; simp at h
      · rw [if_neg h2] at h ⊢
        have := ih (i + 1) _ (by omega) hm h
        simp only [List.length_cons]
        omega
theorem decL_err (l : List Int) : ∀ (i : Nat) (n : Int), (decL l i n).2.2 = 0 ∨ (decL l i n).1 = 0 ∧ (decL l i n).2.1 = 0 := by
  induction l with
  | nil => intro i n; exact .inr ⟨rfl, rfl⟩
  | cons c t ih =>
    intro i n
    simp only [decL]
    repeat' split
    all_goals first | exact ih _ _ | exact .inr ⟨rfl, rfl⟩ | exact .inl rfl
/-- What Unframe answers. -/
def unf (l : List Int) : Int × List Int × Int × Int :=
  if l = [] then (0, [], 0, 3) else
  if (decL (l.drop 1) 0 0).2.2 ≠ 0 then (0, [], 0, (decL (l.drop 1) 0 0).2.2) else
  if (decL (l.drop 1) 0 0).1 > 1048576 then (0, [], 0, 2) else
  if (l.length : Int) < 1 + (decL (l.drop 1) 0 0).2.1 + (decL (l.drop 1) 0 0).1 + 4 then (0, [], 0, 3) else
  if beF 0 ((l.drop (1 + (decL (l.drop 1) 0 0).2.1 + (decL (l.drop 1) 0 0).1).toNat).take 4) ≠ crcSum (l.take (1 + (decL (l.drop 1) 0 0).2.1 + (decL (l.drop 1) 0 0).1).toNat) then (0, [], 0, 4) else
  (l.getD 0 0, (l.take (1 + (decL (l.drop 1) 0 0).2.1 + (decL (l.drop 1) 0 0).1).toNat).drop (1 + (decL (l.drop 1) 0 0).2.1).toNat, 1 + (decL (l.drop 1) 0 0).2.1 + (decL (l.drop 1) 0 0).1 + 4, 0)
def unfOut (v : Value) (r : Int × List Int × Int × Int) : Value := .tuple #[.int .u8 r.1, v, .int .i64 r.2.2.1, .int .i64 r.2.2.2]

/-! WALK -/
def unfT : Bool × List (List Nat × List Nat) := (true, [([], []), ([0], [0]), ([1], [1]), ([], []), ([], []), ([4], [4]), ([], []), ([3, 5, 6], [3, 5, 6]), ([7], [7]), ([], []), ([9], [9]), ([2, 8, 0, 1, 2], [2]), ([8, 11, 0, 1, 2, 3, 4, 5, 6, 7, 8, 11], [8]), ([10, 12, 0, 1, 2, 3, 4, 5, 6, 7, 8, 9, 10, 11, 12], [10]), ([13, 0, 1, 2, 3, 4, 5, 6, 7, 8, 9, 10, 11, 12, 13], [])])
def unfB : List Nat := [0, 1, 3, 0, 0, 16, 0, 120, 248, 0, 512, 511, 2559, 8191, 16383]
theorem unfTab : rtab .any (opsOf Try.f28 19) = unfT := by kernel_rfl
theorem unfBits : waitsOk unfT.2 unfB = true := by kernel_rfl
theorem or_shift (x c : Int) (j : Nat) (hj : j ≤ 3) (hx0 : 0 ≤ x) (hx : x < 256 ^ j) (hc0 : 0 ≤ c) (hc : c ≤ 255) : Go.bits .or .u32 (x * 256 % 4294967296) (c % 4294967296) = x * 256 + c ∧ x * 256 + c < 256 ^ (j + 1) := by
  have h1 : (256 : Int) ^ j ≤ 16777216 := by
    obtain rfl | rfl | rfl | rfl : j = 0 ∨ j = 1 ∨ j = 2 ∨ j = 3 := by omega
    all_goals decide
  have h2 : x * 256 % 4294967296 = x * 256 := by omega
  have h3 : c % 4294967296 = c := by omega
  rw [h2, h3]
  refine ⟨bits_join .u32 32 (by decide) wraps_u32 8 (x * 256) c (by omega) (by omega) (by omega) hc0 (by omega) (by omega), ?_⟩
  rw [Int.pow_succ]; omega
theorem getD_rd (l : List Int) : l.getD 0 0 = rd l 0 := rfl
set_option maxHeartbeats 8000000 in
set_option maxRecDepth 100000 in
theorem unf_calls (A0 : Option Addr) (c0 : Nat) (l0 : List Int) (w : World) (hr0 : Kd.C (Kd.int .u8) w A0 l0.length l0) (hc0 : l0.length ≤ c0) (hw : ∀ x ∈ l0, 0 ≤ x ∧ x ≤ 255) (hbig : l0.length < 140737488355328) :
    Calls Try.prog 28 #[.slice A0 l0.length c0] w fun e w' => ∃ v : Value, e = .returned (unfOut v (unf l0)) ∧ Kd.R (Kd.int .u8) 5 w' w.heap.size (fun _ => True) v (unf l0).2.1 ∧ Below w.heap.size w w' := by
  by_cases hz : l0 = []
  · subst hz
    have hl : ((([] : List Int).length : Int) == 0) = true := rfl
    go_enter Try.func28, Try.ntmps28
    go_wp2
    refine bodyPost_ret (v := .tuple #[.int .u8 0, .slice none 0 0, .int .i64 0, .int .i64 3]) (by simp [results, Try.results28, go_sem]) rfl ⟨_, rfl, Kd.R_nil _ _ _ _ _, Below.refl _ _⟩
  · have hpos : 0 < l0.length := List.length_pos_iff.mpr hz
    have hl : ((l0.length : Int) == 0) = false := beq_eq_false_iff_ne.mpr (by omega)
    have h1l : (1 : Int) ≤ (l0.length : Int) := by omega
    obtain ⟨i0, hi, _, hs, _⟩ := info_parts infoB
    obtain ⟨A1, hcut1, hA1, hC1⟩ := print_drop_of (P := Try.prog) (Value.int .u8) 0 23 5 .i64 Try.underlying23 hi hs A0 c0 l0 1 (by omega) h1l hc0
    have HR1 := Kd.C_of_reads (h1 := fun _ => rfl) (hA1 _ (Kd.reads_of_C hr0))
    have hlen : l0.length ≤ 9223372036854775807 := (Kd.reads_of_C (enc := Value.int .u8) (d := (0 : Int)) (h1 := fun _ => rfl) hr0).2.1
    have hbt : ∀ x ∈ l0.drop 1, 0 ≤ x ∧ x ≤ 255 := fun x hx => hw x (List.mem_of_mem_drop hx)
    have htl : (l0.drop 1).length + 1 = l0.length := by rw [List.length_drop]; omega
    obtain ⟨R, hR⟩ : ∃ R, unf l0 = R := ⟨_, rfl⟩
    rw [hR]
    have hunf := hR
    unfold unf at hunf
    rw [if_neg hz] at hunf
    simp only [show Int.toNat 1 = 1 from rfl] at hcut1 HR1 hC1
    generalize l0.drop 1 = t at *
    obtain ⟨n, k, e, hdec⟩ : ∃ n k e, decL t 0 0 = (n, k, e) := ⟨_, _, _, rfl⟩
    have hok := decL_ok t 0 0 (by omega) (by omega)
    have herr := decL_err t 0 0
    rw [hdec] at hunf hok herr
    simp only at hunf hok herr
    have A4 := Aside0.mk (show wire_DecodeUint.f t = some (n, k, e) by unfold wire_DecodeUint.f; rw [if_pos hbt, hdec])
    have HU := Aside0.mk hunf
    have HR1 := Aside0.mk HR1
    have HC1 := Aside0.mk hC1
    have HBIG := Aside0.mk hbig
    clear hbig
    have HR0 := Aside0.mk hr0
    have HC0 := Aside0.mk hc0
    have HW := Aside0.mk hw
    have HOK := Aside0.mk hok
    have HERR := Aside0.mk herr
    have HPOS := Aside0.mk hpos
    have HTL := Aside0.mk htl
    clear hA1 hC1 hr0 hc0 hw hdec hz hunf hok herr hR hpos hbt htl
    by_cases ce : e = 0
    · have ceb : (e != 0) = false := bne_eq_false_iff_eq.mpr ce
      have hb := HOK.out ce
      have HU2 := HU.out
      rw [if_neg (show ¬ e ≠ 0 from fun h => h ce)] at HU2
      clear HU HOK HERR
      have hn0 : 0 ≤ n := hb.1
      have hn1 : n ≤ 4611686018427387904 := hb.2.1
      have hk1 : 1 ≤ k := by have := hb.2.2.1; omega
      have hk9 : k ≤ 9 := hb.2.2.2.1
      have hE : wrap64 (wrap64 (1 + k) + n) = 1 + k + n := by unfold wrap64; omega
      clear hb
      by_cases c2 : n > 1048576
      · rw [if_pos c2] at HU2
        have HU := Aside0.mk HU2
        have c2b : decide (1048576 < n) = true := decide_eq_true c2
        clear HU2 c2 ce hE
        go_enter Try.func28, Try.ntmps28
        go_wp2_with fail
        refine (wire_DecodeUint.calls _ _ t n k e _ HR1.out HC1.out A4.out).mono ?_
        rintro e_ w1 ⟨rfl, ⟨nd, rfl⟩⟩
        go_wp2
        rw [← HU.out]
        refine bodyPost_ret (v := .tuple #[.int .u8 0, .slice none 0 0, .int .i64 0, .int .i64 2]) (by simp [results, Try.results28, go_sem]) rfl ⟨_, rfl, Kd.R_nil _ _ _ _ _, pw_below_drewN (Below.refl _ _) _⟩
      · rw [if_neg c2] at HU2
        have hn2 : n ≤ 1048576 := by omega
        have c2b : decide (1048576 < n) = false := decide_eq_false c2
        by_cases c3 : (l0.length : Int) < 1 + k + n + 4
        · rw [if_pos c3] at HU2
          have HU := Aside0.mk HU2
          clear HU2 c2 ce hE hn1
          go_enter Try.func28, Try.ntmps28
          go_wp2_with fail
          refine (wire_DecodeUint.calls _ _ t n k e _ HR1.out HC1.out A4.out).mono ?_
          rintro e_ w1 ⟨rfl, ⟨nd, rfl⟩⟩
          go_wp2
          rw [← HU.out]
          refine bodyPost_ret (v := .tuple #[.int .u8 0, .slice none 0 0, .int .i64 0, .int .i64 3]) (by simp [results, Try.results28, go_sem]) rfl ⟨_, rfl, Kd.R_nil _ _ _ _ _, pw_below_drewN (Below.refl _ _) _⟩
        · rw [if_neg c3] at HU2
          have c3b : 1 + k + n + 4 ≤ (l0.length : Int) := by omega
          obtain ⟨E, hEE⟩ : ∃ E, 1 + k + n = E := ⟨_, rfl⟩
          have hE0 : 0 ≤ E := by omega
          have hE4 : E ≤ E + 4 := by omega
          rw [hEE] at HU2 c3b hE
          obtain ⟨A2, hcut2, hA2, hC2⟩ := print_mid_of (P := Try.prog) (Value.int .u8) 0 23 5 .i64 .i64 Try.underlying23 hi hs A0 c0 l0 E (E + 4) hE0 hE4 c3b HC0.out
          have HRq := Kd.C_of_reads (h1 := fun _ => rfl) (hA2 _ (Kd.reads_of_C HR0.out))
          have hql : ((l0.take (E + 4).toNat).drop E.toNat).length = 4 := by rw [List.length_drop, List.length_take]; omega
          have hqe : (l0.take (E + 4).toNat).drop E.toNat = (l0.drop E.toNat).take 4 := by rw [List.drop_take, show (E + 4).toNat - E.toNat = 4 by omega]
          have hqb : ∀ x ∈ (l0.take (E + 4).toNat).drop E.toNat, 0 ≤ x ∧ x ≤ 255 := fun x hx => HW.out x (List.mem_of_mem_take (List.mem_of_mem_drop hx))
          rw [← hqe] at HU2
          obtain ⟨hcut3, hA3, hC3⟩ := print_take_of (P := Try.prog) (Value.int .u8) 0 23 5 .i64 Try.underlying23 hi hs A0 c0 l0 E hE0 (by omega) HC0.out
          have HRp := Kd.C_of_reads (h1 := fun _ => rfl) (hA3 _ (Kd.reads_of_C HR0.out))
          have hpb : ∀ x ∈ l0.take E.toNat, 0 ≤ x ∧ x ≤ 255 := fun x hx => HW.out x (List.mem_of_mem_take hx)
          obtain ⟨A3, hcut4, hA4, hC4⟩ := print_mid_of (P := Try.prog) (Value.int .u8) 0 23 5 .i64 .i64 Try.underlying23 hi hs A0 c0 l0 (1 + k) E (by omega) (by omega) (by omega) HC0.out
          have HRb := Kd.C_of_reads (h1 := fun _ => rfl) (hA4 _ (Kd.reads_of_C HR0.out))
          have hbl : ((l0.take E.toNat).drop (1 + k).toNat).length ≤ l0.length := by rw [List.length_drop, List.length_take]; omega
          rw [hql] at hcut2 HRq
          obtain ⟨ad, ead, hx0⟩ := Kd.at_int HR0.out 0 (by omega) (by omega)
          cases ead
          rw [getD_rd] at HU2
          simp only [show Int.toNat 0 = 0 from rfl, Addr.add_zero'] at hx0
          generalize rd l0 0 = kd at *
          generalize (l0.take E.toNat).drop (1 + k).toNat = bd at *
          generalize l0.take E.toNat = pl at *
          generalize (l0.take (E + 4).toNat).drop E.toNat = q at *
          have A5 := Aside0.mk (show wire_Checksum.f pl = some (crcSum pl) by unfold wire_Checksum.f; rw [if_pos hpb])
          generalize crcSum pl = S at *
          obtain ⟨B, hB⟩ : ∃ B, beF 0 q = B := ⟨_, rfl⟩
          rw [hB] at HU2
          have HB := Aside0.mk hB
          have HQ := Aside0.mk hqb
          have HQL := Aside0.mk hql
          have HRQ := Aside0.mk HRq
          have HRP := Aside0.mk HRp
          have HRB := Aside0.mk HRb
          have HU := Aside0.mk HU2
          have HC3 := Aside0.mk hC3
          have HC4 := Aside0.mk hC4
          have HBL := Aside0.mk hbl
          clear hB hqb hql HRq HRp HRb HU2 hC2 hC3 hC4 hA2 hA3 hA4 hpb hqe ce c2 c3 hn1 hE hbl hi hs
          go_enter Try.func28, Try.ntmps28
          go_wp2_with fail
          refine (wire_DecodeUint.calls _ _ t n k e _ HR1.out HC1.out A4.out).mono ?_
          rintro e_ w1 ⟨rfl, ⟨nd, rfl⟩⟩
          have hd3 : decide ((l0.length : Int) < E + 4) = false := decide_eq_false (by omega)
          go_wp2_with fail
          go_loopg [9, 45] 4 (fun gk v9 v45 wx => ∃ (x : Int) (j : Nat), j + gk = 4 ∧ v9 = .int .u32 x ∧ v45 = .int .i64 (j : Int) ∧ Aside0 (0 ≤ x ∧ x < 256 ^ j ∧ beF x (q.drop j) = B) ∧ Drawn0 w wx)
          case atStart => exact ⟨0, 0, by omega, rfl, rfl, ⟨by omega, by decide, HB.out⟩, by repeat (first | exact Drawn0.refl _ | apply Drawn0.step)⟩
          case round =>
            obtain ⟨x, j, hjg, rfl, rfl, HX, ⟨nd2, rfl⟩⟩ := hrel
            cases gk with
            | succ g =>
              have hj4 : (j : Int) < 4 := by omega
              have hj0 : (0 : Int) ≤ j := by omega
              obtain ⟨c, hc⟩ : ∃ c, rd q (j : Int) = c := ⟨_, rfl⟩
              have hget : q[j]? = some c := by
                rw [← hc]; unfold rd; rw [Int.toNat_natCast, List.getD_eq_getElem?_getD, List.getElem?_eq_getElem (by have := HQL.out; omega)]; rfl
              have hcb : 0 ≤ c ∧ c ≤ 255 := HQ.out c (List.mem_of_getElem? hget)
              have hdrop : q.drop j = c :: q.drop (j + 1) := by
                obtain ⟨h1, h2⟩ := List.getElem?_eq_some_iff.1 hget
                rw [List.drop_eq_getElem_cons h1, h2]
              have HRQ4 : Kd.C (Kd.int .u8) w A2 q.length q := by rw [HQL.out]; exact HRQ.out
              obtain ⟨adq, eq_, hx⟩ := Kd.at_int HRQ4 (j : Int) hj0 (by have := HQL.out; omega)
              cases eq_
              rw [hc] at hx
              rw [Int.toNat_natCast] at hx
              obtain ⟨hor, hbd⟩ := or_shift x c j (by omega) HX.out.1 HX.out.2.1 hcb.1 hcb.2
              obtain ⟨y, hy⟩ : ∃ y, x * 256 + c = y := ⟨_, rfl⟩
              rw [hy] at hor hbd
              have hcm : c % 4294967296 = c := by have := hcb.1; have := hcb.2; omega
              rw [hcm] at hor
              clear hcm
              have HX2 := Aside0.mk (show 0 ≤ y ∧ y < 256 ^ (j + 1) ∧ beF y (q.drop (j + 1)) = B from ⟨by have := HX.out.1; omega, hbd, by have := HX.out.2.2; rw [hdrop] at this; rw [← hy]; exact this⟩)
              have hcb0 := hcb.1
              have hcb1 := hcb.2
              clear hy hbd hdrop hget hc hcb HRQ4
              go_wp2
              go_roundg g
              case measure => omega
              case rel => exact ⟨y, j + 1, by omega, rfl, by go_num, HX2, by repeat (first | exact Drawn0.refl _ | apply Drawn0.step)⟩
            | zero =>
              obtain rfl : j = 4 := by omega
              have hxB : x = B := by have := HX.out.2.2; rw [List.drop_of_length_le (by have := HQL.out; omega)] at this; exact this
              have HXB := Aside0.mk hxB
              clear hxB
              go_wp2_with fail
              refine (wire_Checksum.calls _ _ pl S _ (Kd.C_drewN HRP.out nd2) HC3.out A5.out).mono ?_
              rintro e2_ w2 ⟨rfl, hb2⟩
              have HB2 := Aside0.mk (below_step (pw_below_drewN (Below.refl _ _) nd2) hb2)
              clear hb2
              by_cases cs : x = S
              · have csb : (x != S) = false := bne_eq_false_iff_eq.mpr cs
                have HU2 := HU.out
                rw [if_neg (show ¬ B ≠ S by rw [← HXB.out]; exact fun h => h cs)] at HU2
                have HU3 := Aside0.mk HU2
                clear cs HU2
                go_wp2_with fail
                have hv1 : wrap64 (1 + k) = 1 + k := by unfold wrap64; omega
                have hv2 : wrap64 (E + 4) = E + 4 := by unfold wrap64; omega
                have hv3 : IntKind.i64.wrap (1 + k) = 1 + k := (i64_w _).trans hv1
                have hv4 : IntKind.i64.wrap (E + 4) = E + 4 := (i64_w _).trans hv2
                have qi0 : (0 < l0.length) = True := eq_true HPOS.out
                refine start_ (n := 15) (S := fun w' => w'.cell? ad = some (.int .u8 kd)) (ds := []) #[false, false, false, false, false, false, false, false, false, false, false, false, false, false, false] (by kernel_rfl) rfl rfl ((HB2.out.cell (World.block_lt_of_cell? w _ hx0)).trans hx0) (fun hHeld => ?_); refine with_tabW unfTab unfBits (fun HT_ HW_ => ?_)
                have HB3 := Aside0.mk (below_drew1 HB2.out)
                clear HB2
                generalize w2.drew = w3 at HB3 hHeld ⊢
                refine pure_ (i := 0) (N := some 61) (v := ?_) (a' := ?_) #[true, false, false, false, false, false, false, false, false, false, false, false, false, false, false] rfl rfl (any_of HT_.out (by kernel_rfl)) (fun _ _ _ h => h) (Or.inl ⟨by rfl, ?_⟩) ?_ ?_
                rotate_left
                · intro w'
                  go_simp
                  with_reducible rfl
                rotate_left
                · simp only [Act.put, List.setIfInBounds_toArray, List.set_cons_zero, List.set_cons_succ, i64_w, i32_w]
                  rfl
                refine pure_ (i := 1) (N := some 62) (v := ?_) (a' := ?_) #[true, true, false, false, false, false, false, false, false, false, false, false, false, false, false] rfl rfl (any_of HT_.out (by kernel_rfl)) (fun _ _ _ h => h) (Or.inl ⟨by rfl, ?_⟩) ?_ ?_
                rotate_left
                · intro w'
                  go_simp
                  with_reducible rfl
                rotate_left
                · simp only [Act.put, List.setIfInBounds_toArray, List.set_cons_zero, List.set_cons_succ, i64_w, i32_w]
                  rfl
                refine pure_ (i := 3) (N := some 64) (v := ?_) (a' := ?_) #[true, true, false, true, false, false, false, false, false, false, false, false, false, false, false] rfl rfl (any_of HT_.out (by kernel_rfl)) (fun _ _ _ h => h) (Or.inl ⟨by rfl, ?_⟩) ?_ ?_
                rotate_left
                · intro w'
                  go_simp
                  with_reducible rfl
                rotate_left
                · simp only [Act.put, List.setIfInBounds_toArray, List.set_cons_zero, List.set_cons_succ, i64_w, i32_w]
                  rfl
                refine pure_ (i := 4) (N := some 65) (v := ?_) (a' := ?_) #[true, true, false, true, true, false, false, false, false, false, false, false, false, false, false] rfl rfl (any_of HT_.out (by kernel_rfl)) (fun _ _ _ h => h) (Or.inl ⟨by rfl, ?_⟩) ?_ ?_
                rotate_left
                · intro w'
                  go_simp
                  with_reducible rfl
                rotate_left
                · simp only [Act.put, List.setIfInBounds_toArray, List.set_cons_zero, List.set_cons_succ, i64_w, i32_w]
                  rfl
                refine pure_ (i := 5) (N := some 66) (v := ?_) (a' := ?_) #[true, true, false, true, true, true, false, false, false, false, false, false, false, false, false] rfl rfl (any_of HT_.out (by kernel_rfl)) (fun _ _ _ h => h) (Or.inl ⟨by rfl, ?_⟩) ?_ ?_
                rotate_left
                · intro w'
                  go_simp
                  with_reducible rfl
                rotate_left
                · simp only [Act.put, List.setIfInBounds_toArray, List.set_cons_zero, List.set_cons_succ, i64_w, i32_w]
                  rfl
                refine pure_ (i := 6) (N := some 67) (v := ?_) (a' := ?_) #[true, true, false, true, true, true, true, false, false, false, false, false, false, false, false] rfl rfl (any_of HT_.out (by kernel_rfl)) (fun _ _ _ h => h) (Or.inl ⟨by rfl, ?_⟩) ?_ ?_
                rotate_left
                · intro w'
                  go_simp
                  with_reducible rfl
                rotate_left
                · simp only [Act.put, List.setIfInBounds_toArray, List.set_cons_zero, List.set_cons_succ, i64_w, i32_w]
                  rfl
                refine pure_ (i := 7) (N := some 68) (v := ?_) (a' := ?_) #[true, true, false, true, true, true, true, true, false, false, false, false, false, false, false] rfl rfl (any_of HT_.out (by kernel_rfl)) (fun _ _ _ h => h) (Or.inl ⟨by rfl, ?_⟩) ?_ ?_
                rotate_left
                · intro w'
                  go_simp
                  with_reducible rfl
                rotate_left
                · simp only [Act.put, List.setIfInBounds_toArray, List.set_cons_zero, List.set_cons_succ, i64_w, i32_w]
                  rfl
                refine pure_ (i := 9) (N := some 70) (v := ?_) (a' := ?_) #[true, true, false, true, true, true, true, true, false, true, false, false, false, false, false] rfl rfl (any_of HT_.out (by kernel_rfl)) (fun _ _ _ h => h) (Or.inl ⟨by rfl, ?_⟩) ?_ ?_
                rotate_left
                · intro w'
                  go_simp
                  with_reducible rfl
                rotate_left
                · simp only [Act.put, List.setIfInBounds_toArray, List.set_cons_zero, List.set_cons_succ, i64_w, i32_w]
                  rfl
                refine pure_ (i := 10) (N := some 71) (v := ?_) (a' := ?_) #[true, true, false, true, true, true, true, true, false, true, true, false, false, false, false] rfl rfl (any_of HT_.out (by kernel_rfl)) (fun _ _ _ h => h) (Or.inl ⟨by rfl, ?_⟩) ?_ ?_
                rotate_left
                · intro w'
                  go_simp
                  with_reducible rfl
                rotate_left
                · simp only [Act.put, List.setIfInBounds_toArray, List.set_cons_zero, List.set_cons_succ, i64_w, i32_w]
                  rfl
                refine take_ (i := 2) (N := some 63) (v := ?_) (a' := ?_) #[true, true, true, true, true, true, true, true, false, true, true, false, false, false, false] rfl rfl (take_ofW HT_.out HW_.out (by kernel_rfl)) (fun _ _ _ h => h) (Or.inl ⟨by rfl, ?_⟩) hHeld ?_ ?_
                rotate_left
                · intro w' s0
                  go_simp
                  with_reducible rfl
                rotate_left
                · simp only [Act.put, List.setIfInBounds_toArray, List.set_cons_zero, List.set_cons_succ, i64_w, i32_w]
                  rfl
                refine one_ (i := 8) (N := some 69) #[true, true, true, true, true, true, true, true, true, true, true, false, false, false, false] rfl rfl (one_of HT_.out (by kernel_rfl)) (by decide) (fun K hK => ?_)
                refine Kd.R_append_rows_step (Kd.int .u8) (w0 := w) w.heap.size (by rfl) (.const (.slice none 0 0)) (.tmp 68) 23 5 (.int .u8 0) 1 rfl Try.underlying23 infoB rfl (by decide) (by omega) (.slice none 0 0) ([] : List Int) bd _ _ _ (fun _ => True) (fun _ => False) rfl rfl ?aO ?aR (fun _ _ h => h) (fun _ h => h.elim) ?aF ?aB ?aS ?aL ?_
                case aR => exact (Kd.C_below HRB.out HB3.out)
                case aB => exact HB3.out
                case aF => exact (fun _ _ => trivial)
                case aO => exact (Kd.R_nil _ _ _ _ (fun _ => True))
                case aS => exact (below_size HB3.out)
                case aL => have := HBL.out; have := HBIG.out; simp only [List.length_nil]; omega
                intro v329 w4 ho hb hg hat
                have HB4 := Aside0.mk hb
                have HO := Aside0.mk ho
                clear ho hb hg hat HB3
                refine hK.out _ _ ((HB4.out.cell (World.block_lt_of_cell? w _ hx0)).trans hx0) (fun hHeld => ?_)
                clear hK K
                refine norm_ (a' := ?_) ?_ ?_
                rotate_left
                · show Act.put _ (some 69) _ = _
                  simp only [Act.put, List.setIfInBounds_toArray, List.set_cons_zero, List.set_cons_succ, i64_w, i32_w]
                  rfl
                refine pure_ (i := 11) (N := some 2) (v := ?_) (a' := ?_) #[true, true, true, true, true, true, true, true, true, true, true, true, false, false, false] rfl rfl (any_of HT_.out (by kernel_rfl)) (fun _ _ _ h => h) (Or.inl ⟨by rfl, ?_⟩) ?_ ?_
                rotate_left
                · intro w'
                  go_simp
                  with_reducible rfl
                rotate_left
                · simp only [Act.put, List.setIfInBounds_toArray, List.set_cons_zero, List.set_cons_succ, i64_w, i32_w]
                  rfl
                refine pure_ (i := 12) (N := some 3) (v := ?_) (a' := ?_) #[true, true, true, true, true, true, true, true, true, true, true, true, true, false, false] rfl rfl (any_of HT_.out (by kernel_rfl)) (fun _ _ _ h => h) (Or.inl ⟨by rfl, ?_⟩) ?_ ?_
                rotate_left
                · intro w'
                  go_simp
                  with_reducible rfl
                rotate_left
                · simp only [Act.put, List.setIfInBounds_toArray, List.set_cons_zero, List.set_cons_succ, i64_w, i32_w]
                  rfl
                refine pure_ (i := 13) (N := some 4) (v := ?_) (a' := ?_) #[true, true, true, true, true, true, true, true, true, true, true, true, true, true, false] rfl rfl (any_of HT_.out (by kernel_rfl)) (fun _ _ _ h => h) (Or.inl ⟨by rfl, ?_⟩) ?_ ?_
                rotate_left
                · intro w'
                  go_simp
                  with_reducible rfl
                rotate_left
                · simp only [Act.put, List.setIfInBounds_toArray, List.set_cons_zero, List.set_cons_succ, i64_w, i32_w]
                  rfl
                refine pure_ (i := 14) (N := some 5) (v := ?_) (a' := ?_) #[true, true, true, true, true, true, true, true, true, true, true, true, true, true, true] rfl rfl (any_of HT_.out (by kernel_rfl)) (fun _ _ _ h => h) (Or.inl ⟨by rfl, ?_⟩) ?_ ?_
                rotate_left
                · intro w'
                  go_simp
                  with_reducible rfl
                rotate_left
                · simp only [Act.put, List.setIfInBounds_toArray, List.set_cons_zero, List.set_cons_succ, i64_w, i32_w]
                  rfl
                refine done_ (done_of HT_.out (by kernel_rfl)) ?_
                try go_wp2
                refine bodyPost_ret (results_list (rs := [.tmp 2, .tmp 3, .tmp 4, .tmp 5]) rfl (by simp) (.tmp (.tmp (.tmp (.tmp .nil))))) rfl ?_
                rw [← HU3.out]
                exact ⟨_, rfl, by simpa using HO.out, HB4.out⟩
              · have csb : (x != S) = true := bne_iff_ne.mpr cs
                have HU2 := HU.out
                rw [if_pos (show B ≠ S by rw [← HXB.out]; exact cs)] at HU2
                have HU3 := Aside0.mk HU2
                clear cs HU2
                go_wp2
                rw [← HU3.out]
                refine bodyPost_ret (v := .tuple #[.int .u8 0, .slice none 0 0, .int .i64 0, .int .i64 4]) (by simp [results, Try.results28, go_sem]) rfl ⟨_, rfl, Kd.R_nil _ _ _ _ _, HB2.out⟩
    · have ceb : (e != 0) = true := bne_iff_ne.mpr ce
      have HU2 := HU.out
      rw [if_pos (show e ≠ 0 from ce)] at HU2
      clear HU
      have HU := Aside0.mk HU2
      have hkn : n = 0 ∧ k = 0 := by rcases HERR.out with h | h; exact absurd h ce; exact h
      obtain ⟨rfl, rfl⟩ := hkn
      clear HU2 ce HOK HERR
      go_enter Try.func28, Try.ntmps28
      go_wp2_with fail
      refine (wire_DecodeUint.calls _ _ t 0 0 e _ HR1.out HC1.out A4.out).mono ?_
      rintro e_ w1 ⟨rfl, ⟨nd, rfl⟩⟩
      go_wp2
      rw [← HU.out]
      refine bodyPost_ret (v := .tuple #[.int .u8 0, .slice none 0 0, .int .i64 0, .int .i64 e]) (by simp [results, Try.results28, go_sem]) rfl ⟨_, rfl, Kd.R_nil _ _ _ _ _, pw_below_drewN (Below.refl _ _) _⟩
/-! as the printed callers take it -/
def wire_Unframe.f (l0 : List Int) : Option (Int × List Int × Int × Int) := if (∀ x ∈ l0, 0 ≤ x ∧ x ≤ 255) ∧ l0.length < 140737488355328 then some (unf l0) else none
theorem wire_Unframe.calls (A0 : Option Addr) (c0 : Nat) (l0 : List Int) (r1 : Int) (r2 : List Int) (r3 : Int) (r4 : Int) (w : World) (hr0 : Kd.C (Kd.int .u8) w A0 l0.length l0) (hc0 : l0.length ≤ c0) (h : wire_Unframe.f l0 = some (r1, r2, r3, r4)) :
    Calls Try.prog 28 #[.slice A0 l0.length c0] w fun e w' => ∃ v1_ : Value, e = .returned (.tuple #[.int .u8 r1, v1_, .int .i64 r3, .int .i64 r4]) ∧ Kd.R (Kd.int .u8) 5 w' w.heap.size (fun _ => True) v1_ r2 ∧ Below w.heap.size w w' := by
  unfold wire_Unframe.f at h
  split at h
  · rename_i hb
    have hd := Option.some.inj h
    refine (unf_calls A0 c0 l0 w hr0 hc0 hb.1 hb.2).mono fun e w' hh => ?_
    rw [hd] at hh
    exact hh
  · exact absurd h (by simp)
theorem rd_mem (l : List Int) (i : Int) (h0 : 0 ≤ i) (h : i < l.length) : rd l i ∈ l := by
  unfold rd
  rw [List.getD_eq_getElem?_getD, List.getElem?_eq_getElem (by omega)]
  exact List.getElem_mem _
/-- What the reference's Unframe answers. -/
def unfR (l : List Int) : Int × List Int × Int × Int :=
  if l = [] then (0, [], 0, 3) else
  if (decL (l.drop 1) 0 0).2.2 ≠ 0 then (0, [], 0, (decL (l.drop 1) 0 0).2.2) else
  if (decL (l.drop 1) 0 0).1 > 1048576 then (0, [], 0, 2) else
  if (l.length : Int) < 1 + (decL (l.drop 1) 0 0).2.1 + (decL (l.drop 1) 0 0).1 + 4 then (0, [], 0, 3) else
  if ¬ (rd l (1 + (decL (l.drop 1) 0 0).2.1 + (decL (l.drop 1) 0 0).1) = (4294967295 - (refFold 4294967295 (l.take (1 + (decL (l.drop 1) 0 0).2.1 + (decL (l.drop 1) 0 0).1).toNat) : Int)) / 16777216 % 256 ∧ rd l (1 + (decL (l.drop 1) 0 0).2.1 + (decL (l.drop 1) 0 0).1 + 1) = (4294967295 - (refFold 4294967295 (l.take (1 + (decL (l.drop 1) 0 0).2.1 + (decL (l.drop 1) 0 0).1).toNat) : Int)) / 65536 % 256 ∧ rd l (1 + (decL (l.drop 1) 0 0).2.1 + (decL (l.drop 1) 0 0).1 + 2) = (4294967295 - (refFold 4294967295 (l.take (1 + (decL (l.drop 1) 0 0).2.1 + (decL (l.drop 1) 0 0).1).toNat) : Int)) / 256 % 256 ∧ rd l (1 + (decL (l.drop 1) 0 0).2.1 + (decL (l.drop 1) 0 0).1 + 3) = (4294967295 - (refFold 4294967295 (l.take (1 + (decL (l.drop 1) 0 0).2.1 + (decL (l.drop 1) 0 0).1).toNat) : Int)) % 256) then (0, [], 0, 4) else
  (l.getD 0 0, (l.take (1 + (decL (l.drop 1) 0 0).2.1 + (decL (l.drop 1) 0 0).1).toNat).drop (1 + (decL (l.drop 1) 0 0).2.1).toNat, 1 + (decL (l.drop 1) 0 0).2.1 + (decL (l.drop 1) 0 0).1 + 4, 0)
theorem unfRTab : rtab .any (opsOf Try.f29 14) = unfT := by kernel_rfl
set_option maxHeartbeats 8000000 in
set_option maxRecDepth 100000 in
theorem unfref_calls (A0 : Option Addr) (c0 : Nat) (l0 : List Int) (w : World) (hr0 : Kd.C (Kd.int .u8) w A0 l0.length l0) (hc0 : l0.length ≤ c0) (hw : ∀ x ∈ l0, 0 ≤ x ∧ x ≤ 255) (hbig : l0.length < 140737488355328) :
    Calls Try.prog 29 #[.slice A0 l0.length c0] w fun e w' => ∃ v : Value, e = .returned (unfOut v (unfR l0)) ∧ Kd.R (Kd.int .u8) 5 w' w.heap.size (fun _ => True) v (unfR l0).2.1 ∧ Below w.heap.size w w' := by
  by_cases hz : l0 = []
  · subst hz
    have hl : ((([] : List Int).length : Int) == 0) = true := rfl
    go_enter Try.func29, Try.ntmps29
    go_wp2
    refine bodyPost_ret (v := .tuple #[.int .u8 0, .slice none 0 0, .int .i64 0, .int .i64 3]) (by simp [results, Try.results29, go_sem]) rfl ⟨_, rfl, Kd.R_nil _ _ _ _ _, Below.refl _ _⟩
  · have hpos : 0 < l0.length := List.length_pos_iff.mpr hz
    have hl : ((l0.length : Int) == 0) = false := beq_eq_false_iff_ne.mpr (by omega)
    have h1l : (1 : Int) ≤ (l0.length : Int) := by omega
    obtain ⟨i0, hi, _, hs, _⟩ := info_parts infoB
    obtain ⟨A1, hcut1, hA1, hC1⟩ := print_drop_of (P := Try.prog) (Value.int .u8) 0 23 5 .i64 Try.underlying23 hi hs A0 c0 l0 1 (by omega) h1l hc0
    have HR1 := Kd.C_of_reads (h1 := fun _ => rfl) (hA1 _ (Kd.reads_of_C hr0))
    have hlen : l0.length ≤ 9223372036854775807 := (Kd.reads_of_C (enc := Value.int .u8) (d := (0 : Int)) (h1 := fun _ => rfl) hr0).2.1
    have hbt : ∀ x ∈ l0.drop 1, 0 ≤ x ∧ x ≤ 255 := fun x hx => hw x (List.mem_of_mem_drop hx)
    have htl : (l0.drop 1).length + 1 = l0.length := by rw [List.length_drop]; omega
    obtain ⟨R, hR⟩ : ∃ R, unfR l0 = R := ⟨_, rfl⟩
    rw [hR]
    have hunf := hR
    unfold unfR at hunf
    rw [if_neg hz] at hunf
    simp only [show Int.toNat 1 = 1 from rfl] at hcut1 HR1 hC1
    generalize l0.drop 1 = t at *
    obtain ⟨n, k, e, hdec⟩ : ∃ n k e, decL t 0 0 = (n, k, e) := ⟨_, _, _, rfl⟩
    have hok := decL_ok t 0 0 (by omega) (by omega)
    have herr := decL_err t 0 0
    rw [hdec] at hunf hok herr
    simp only at hunf hok herr
    have A4 := Aside0.mk (show pairingref8_DecodeUint.f t = some (n, k, e) by unfold pairingref8_DecodeUint.f; rw [if_pos hbt, hdec])
    have HU := Aside0.mk hunf
    have HR1 := Aside0.mk HR1
    have HC1 := Aside0.mk hC1
    have HBIG := Aside0.mk hbig
    clear hbig
    have HR0 := Aside0.mk hr0
    have HC0 := Aside0.mk hc0
    have HW := Aside0.mk hw
    have HOK := Aside0.mk hok
    have HERR := Aside0.mk herr
    have HPOS := Aside0.mk hpos
    have HTL := Aside0.mk htl
    clear hA1 hC1 hr0 hc0 hw hdec hz hunf hok herr hR hpos hbt htl
    by_cases ce : e = 0
    · have ceb : (e != 0) = false := bne_eq_false_iff_eq.mpr ce
      have hb := HOK.out ce
      have HU2 := HU.out
      rw [if_neg (show ¬ e ≠ 0 from fun h => h ce)] at HU2
      clear HU HOK HERR
      have hn0 : 0 ≤ n := hb.1
      have hn1 : n ≤ 4611686018427387904 := hb.2.1
      have hk1 : 1 ≤ k := by have := hb.2.2.1; omega
      have hk9 : k ≤ 9 := hb.2.2.2.1
      have hE : wrap64 (wrap64 (1 + k) + n) = 1 + k + n := by unfold wrap64; omega
      clear hb
      by_cases c2 : n > 1048576
      · rw [if_pos c2] at HU2
        have HU := Aside0.mk HU2
        have c2b : decide (1048576 < n) = true := decide_eq_true c2
        clear HU2 c2 ce hE
        go_enter Try.func29, Try.ntmps29
        go_wp2_with fail
        refine (pairingref8_DecodeUint.calls _ _ t n k e _ HR1.out HC1.out A4.out).mono ?_
        rintro e_ w1 ⟨rfl, ⟨nd, rfl⟩⟩
        go_wp2
        rw [← HU.out]
        refine bodyPost_ret (v := .tuple #[.int .u8 0, .slice none 0 0, .int .i64 0, .int .i64 2]) (by simp [results, Try.results29, go_sem]) rfl ⟨_, rfl, Kd.R_nil _ _ _ _ _, pw_below_drewN (Below.refl _ _) _⟩
      · rw [if_neg c2] at HU2
        have hn2 : n ≤ 1048576 := by omega
        have c2b : decide (1048576 < n) = false := decide_eq_false c2
        by_cases c3 : (l0.length : Int) < 1 + k + n + 4
        · rw [if_pos c3] at HU2
          have HU := Aside0.mk HU2
          clear HU2 c2 ce hE hn1
          go_enter Try.func29, Try.ntmps29
          go_wp2_with fail
          refine (pairingref8_DecodeUint.calls _ _ t n k e _ HR1.out HC1.out A4.out).mono ?_
          rintro e_ w1 ⟨rfl, ⟨nd, rfl⟩⟩
          go_wp2
          rw [← HU.out]
          refine bodyPost_ret (v := .tuple #[.int .u8 0, .slice none 0 0, .int .i64 0, .int .i64 3]) (by simp [results, Try.results29, go_sem]) rfl ⟨_, rfl, Kd.R_nil _ _ _ _ _, pw_below_drewN (Below.refl _ _) _⟩
        · rw [if_neg c3] at HU2
          have c3b : 1 + k + n + 4 ≤ (l0.length : Int) := by omega
          obtain ⟨E, hEE⟩ : ∃ E, 1 + k + n = E := ⟨_, rfl⟩
          have hE0 : 0 ≤ E := by omega
          have hE4 : E ≤ E + 4 := by omega
          rw [hEE] at HU2 c3b hE
          obtain ⟨hcut3, hA3, hC3⟩ := print_take_of (P := Try.prog) (Value.int .u8) 0 23 5 .i64 Try.underlying23 hi hs A0 c0 l0 E hE0 (by omega) HC0.out
          have HRp := Kd.C_of_reads (h1 := fun _ => rfl) (hA3 _ (Kd.reads_of_C HR0.out))
          have hpb : ∀ x ∈ l0.take E.toNat, 0 ≤ x ∧ x ≤ 255 := fun x hx => HW.out x (List.mem_of_mem_take hx)
          obtain ⟨A3, hcut4, hA4, hC4⟩ := print_mid_of (P := Try.prog) (Value.int .u8) 0 23 5 .i64 .i64 Try.underlying23 hi hs A0 c0 l0 (1 + k) E (by omega) (by omega) (by omega) HC0.out
          have HRb := Kd.C_of_reads (h1 := fun _ => rfl) (hA4 _ (Kd.reads_of_C HR0.out))
          have hbl : ((l0.take E.toNat).drop (1 + k).toNat).length ≤ l0.length := by rw [List.length_drop, List.length_take]; omega
          obtain ⟨EN, rfl⟩ := Int.eq_ofNat_of_zero_le hE0
          obtain ⟨ad, ead, hx0⟩ := Kd.at_int HR0.out 0 (by omega) (by omega)
          obtain ⟨adA, eadA, hxA⟩ := Kd.at_int HR0.out (EN : Int) (by omega) (by omega)
          obtain ⟨adB, eadB, hxB⟩ := Kd.at_int HR0.out ((EN : Int) + 1) (by omega) (by omega)
          obtain ⟨adC, eadC, hxC⟩ := Kd.at_int HR0.out ((EN : Int) + 2) (by omega) (by omega)
          obtain ⟨adD, eadD, hxD⟩ := Kd.at_int HR0.out ((EN : Int) + 3) (by omega) (by omega)
          rw [ead] at eadA eadB eadC eadD
          cases ead
          obtain rfl := Option.some.inj eadA
          obtain rfl := Option.some.inj eadB
          obtain rfl := Option.some.inj eadC
          obtain rfl := Option.some.inj eadD
          rw [getD_rd] at HU2
          simp only [show Int.toNat 0 = 0 from rfl, Addr.add_zero'] at hx0
          simp only [Int.toNat_natCast, show ((EN : Int) + 1).toNat = EN + 1 from by omega, show ((EN : Int) + 2).toNat = EN + 2 from by omega, show ((EN : Int) + 3).toNat = EN + 3 from by omega] at hxA hxB hxC hxD HU2 hcut3 hcut4 HRp HRb hbl hpb hC3
          clear eadA eadB eadC eadD
          have hbA := HW.out (rd l0 (EN : Int)) (rd_mem _ _ (by omega) (by omega))
          have hbB := HW.out (rd l0 ((EN : Int) + 1)) (rd_mem _ _ (by omega) (by omega))
          have hbC := HW.out (rd l0 ((EN : Int) + 2)) (rd_mem _ _ (by omega) (by omega))
          have hbD := HW.out (rd l0 ((EN : Int) + 3)) (rd_mem _ _ (by omega) (by omega))
          generalize rd l0 0 = kd at *
          generalize rd l0 (EN : Int) = bA at *
          generalize rd l0 ((EN : Int) + 1) = bB at *
          generalize rd l0 ((EN : Int) + 2) = bC at *
          generalize rd l0 ((EN : Int) + 3) = bD at *
          generalize (l0.take EN).drop (1 + k).toNat = bd at *
          generalize l0.take EN = pl at *
          have A5 := Aside0.mk (show pairingref8_Checksum.f pl = some (4294967295 - (refFold 4294967295 pl : Int)) by unfold pairingref8_Checksum.f; rw [if_pos hpb])
          have hSb : 0 ≤ 4294967295 - (refFold 4294967295 pl : Int) ∧ 4294967295 - (refFold 4294967295 pl : Int) ≤ 4294967295 := by have := refFold_lt pl 4294967295 (by decide) hpb; omega
          generalize 4294967295 - (refFold 4294967295 pl : Int) = S at *
          rw [show S / 16777216 % 256 = S / 16777216 from by have := hSb.1; have := hSb.2; omega] at HU2
          have HRP := Aside0.mk HRp
          have HRB := Aside0.mk HRb
          have HU := Aside0.mk HU2
          have HC3 := Aside0.mk hC3
          have HC4 := Aside0.mk hC4
          have HBL := Aside0.mk hbl
          have HXA := Aside0.mk hxA
          have HXB := Aside0.mk hxB
          have HXC := Aside0.mk hxC
          have HXD := Aside0.mk hxD
          have hS0 := hSb.1
          have hS1 := hSb.2
          clear HRp HRb HU2 hC3 hC4 hA3 hA4 hpb ce c2 c3 hn1 hE hbl hi hs hxA hxB hxC hxD hSb hbA hbB hbC hbD
          have hd3 : decide ((l0.length : Int) < EN + 4) = false := decide_eq_false (by omega)
          go_enter Try.func29, Try.ntmps29
          go_wp2_with fail
          refine (pairingref8_DecodeUint.calls _ _ t n k e _ HR1.out HC1.out A4.out).mono ?_
          rintro e_ w1 ⟨rfl, ⟨nd, rfl⟩⟩
          go_wp2_with fail
          refine (pairingref8_Checksum.calls _ _ pl S _ (Kd.C_drewN HRP.out nd) HC3.out A5.out).mono ?_
          rintro e2_ w2 ⟨rfl, ⟨nd2, rfl⟩⟩
          have hxA := HXA.out
          have hxB := HXB.out
          have hxC := HXC.out
          have hxD := HXD.out
          have hyB : w.cell? ⟨ad.block, ad.off + (EN + 1), none⟩ = some (.int .u8 bB) := by have h := hxB; unfold Addr.add at h; rw [if_neg (by omega)] at h; exact h
          have hyC : w.cell? ⟨ad.block, ad.off + (EN + 2), none⟩ = some (.int .u8 bC) := by have h := hxC; unfold Addr.add at h; rw [if_neg (by omega)] at h; exact h
          have hyD : w.cell? ⟨ad.block, ad.off + (EN + 3), none⟩ = some (.int .u8 bD) := by have h := hxD; unfold Addr.add at h; rw [if_neg (by omega)] at h; exact h
          by_cases cA : bA = S / 16777216
          · have cAg : (bA != S / 16777216) = false := bne_eq_false_iff_eq.mpr cA
            have KA := Aside0.mk cA
            clear cA
            by_cases cB : bB = S / 65536 % 256
            · have cBg : (bB != S / 65536 % 256) = false := bne_eq_false_iff_eq.mpr cB
              have KB := Aside0.mk cB
              clear cB
              by_cases cC : bC = S / 256 % 256
              · have cCg : (bC != S / 256 % 256) = false := bne_eq_false_iff_eq.mpr cC
                have KC := Aside0.mk cC
                clear cC
                by_cases cD : bD = S % 256
                · have cDg : (bD != S % 256) = false := bne_eq_false_iff_eq.mpr cD
                  have KD := Aside0.mk cD
                  clear cD
                  have HU2 := HU.out
                  rw [if_neg (show ¬ ¬ (bA = S / 16777216 ∧ bB = S / 65536 % 256 ∧ bC = S / 256 % 256 ∧ bD = S % 256) from fun h => h ⟨KA.out, KB.out, KC.out, KD.out⟩)] at HU2
                  have HU3 := Aside0.mk HU2
                  clear HU2
                  go_wp2_with fail
                  have HB2 := Aside0.mk (pw_below_drewN (Below.refl w.heap.size w) (nd + nd2))
                  have HX0 := Aside0.mk hx0
                  have hv1 : wrap64 (1 + k) = 1 + k := by unfold wrap64; omega
                  have hv2 : wrap64 ((EN : Int) + 4) = (EN : Int) + 4 := by unfold wrap64; omega
                  have hv3 : IntKind.i64.wrap (1 + k) = 1 + k := (i64_w _).trans hv1
                  have hv4 : IntKind.i64.wrap ((EN : Int) + 4) = (EN : Int) + 4 := (i64_w _).trans hv2
                  have qi0 : (0 < l0.length) = True := eq_true HPOS.out
                  refine start_ (n := 15) (S := fun w' => w'.cell? ad = some (.int .u8 kd)) (ds := []) #[false, false, false, false, false, false, false, false, false, false, false, false, false, false, false] (by kernel_rfl) rfl rfl ((HB2.out.cell (World.block_lt_of_cell? w _ HX0.out)).trans HX0.out) (fun hHeld => ?_); refine with_tabW unfRTab unfBits (fun HT_ HW_ => ?_)
                  have HB3 := Aside0.mk (below_drew1 HB2.out)
                  clear HB2
                  generalize (w.drewN (nd + nd2)).drew = w3 at HB3 hHeld ⊢
                  refine pure_ (i := 0) (N := some 79) (v := ?_) (a' := ?_) #[true, false, false, false, false, false, false, false, false, false, false, false, false, false, false] rfl rfl (any_of HT_.out (by kernel_rfl)) (fun _ _ _ h => h) (Or.inl ⟨by rfl, ?_⟩) ?_ ?_
                  rotate_left
                  · intro w'
                    go_simp
                    with_reducible rfl
                  rotate_left
                  · simp only [Act.put, List.setIfInBounds_toArray, List.set_cons_zero, List.set_cons_succ, i64_w, i32_w]
                    rfl
                  refine pure_ (i := 1) (N := some 80) (v := ?_) (a' := ?_) #[true, true, false, false, false, false, false, false, false, false, false, false, false, false, false] rfl rfl (any_of HT_.out (by kernel_rfl)) (fun _ _ _ h => h) (Or.inl ⟨by rfl, ?_⟩) ?_ ?_
                  rotate_left
                  · intro w'
                    go_simp
                    with_reducible rfl
                  rotate_left
                  · simp only [Act.put, List.setIfInBounds_toArray, List.set_cons_zero, List.set_cons_succ, i64_w, i32_w]
                    rfl
                  refine pure_ (i := 3) (N := some 82) (v := ?_) (a' := ?_) #[true, true, false, true, false, false, false, false, false, false, false, false, false, false, false] rfl rfl (any_of HT_.out (by kernel_rfl)) (fun _ _ _ h => h) (Or.inl ⟨by rfl, ?_⟩) ?_ ?_
                  rotate_left
                  · intro w'
                    go_simp
                    with_reducible rfl
                  rotate_left
                  · simp only [Act.put, List.setIfInBounds_toArray, List.set_cons_zero, List.set_cons_succ, i64_w, i32_w]
                    rfl
                  refine pure_ (i := 4) (N := some 83) (v := ?_) (a' := ?_) #[true, true, false, true, true, false, false, false, false, false, false, false, false, false, false] rfl rfl (any_of HT_.out (by kernel_rfl)) (fun _ _ _ h => h) (Or.inl ⟨by rfl, ?_⟩) ?_ ?_
                  rotate_left
                  · intro w'
                    go_simp
                    with_reducible rfl
                  rotate_left
                  · simp only [Act.put, List.setIfInBounds_toArray, List.set_cons_zero, List.set_cons_succ, i64_w, i32_w]
                    rfl
                  refine pure_ (i := 5) (N := some 84) (v := ?_) (a' := ?_) #[true, true, false, true, true, true, false, false, false, false, false, false, false, false, false] rfl rfl (any_of HT_.out (by kernel_rfl)) (fun _ _ _ h => h) (Or.inl ⟨by rfl, ?_⟩) ?_ ?_
                  rotate_left
                  · intro w'
                    go_simp
                    with_reducible rfl
                  rotate_left
                  · simp only [Act.put, List.setIfInBounds_toArray, List.set_cons_zero, List.set_cons_succ, i64_w, i32_w]
                    rfl
                  refine pure_ (i := 6) (N := some 85) (v := ?_) (a' := ?_) #[true, true, false, true, true, true, true, false, false, false, false, false, false, false, false] rfl rfl (any_of HT_.out (by kernel_rfl)) (fun _ _ _ h => h) (Or.inl ⟨by rfl, ?_⟩) ?_ ?_
                  rotate_left
                  · intro w'
                    go_simp
                    with_reducible rfl
                  rotate_left
                  · simp only [Act.put, List.setIfInBounds_toArray, List.set_cons_zero, List.set_cons_succ, i64_w, i32_w]
                    rfl
                  refine pure_ (i := 7) (N := some 86) (v := ?_) (a' := ?_) #[true, true, false, true, true, true, true, true, false, false, false, false, false, false, false] rfl rfl (any_of HT_.out (by kernel_rfl)) (fun _ _ _ h => h) (Or.inl ⟨by rfl, ?_⟩) ?_ ?_
                  rotate_left
                  · intro w'
                    go_simp
                    with_reducible rfl
                  rotate_left
                  · simp only [Act.put, List.setIfInBounds_toArray, List.set_cons_zero, List.set_cons_succ, i64_w, i32_w]
                    rfl
                  refine pure_ (i := 9) (N := some 88) (v := ?_) (a' := ?_) #[true, true, false, true, true, true, true, true, false, true, false, false, false, false, false] rfl rfl (any_of HT_.out (by kernel_rfl)) (fun _ _ _ h => h) (Or.inl ⟨by rfl, ?_⟩) ?_ ?_
                  rotate_left
                  · intro w'
                    go_simp
                    with_reducible rfl
                  rotate_left
                  · simp only [Act.put, List.setIfInBounds_toArray, List.set_cons_zero, List.set_cons_succ, i64_w, i32_w]
                    rfl
                  refine pure_ (i := 10) (N := some 89) (v := ?_) (a' := ?_) #[true, true, false, true, true, true, true, true, false, true, true, false, false, false, false] rfl rfl (any_of HT_.out (by kernel_rfl)) (fun _ _ _ h => h) (Or.inl ⟨by rfl, ?_⟩) ?_ ?_
                  rotate_left
                  · intro w'
                    go_simp
                    with_reducible rfl
                  rotate_left
                  · simp only [Act.put, List.setIfInBounds_toArray, List.set_cons_zero, List.set_cons_succ, i64_w, i32_w]
                    rfl
                  refine take_ (i := 2) (N := some 81) (v := ?_) (a' := ?_) #[true, true, true, true, true, true, true, true, false, true, true, false, false, false, false] rfl rfl (take_ofW HT_.out HW_.out (by kernel_rfl)) (fun _ _ _ h => h) (Or.inl ⟨by rfl, ?_⟩) hHeld ?_ ?_
                  rotate_left
                  · intro w' s0
                    go_simp
                    with_reducible rfl
                  rotate_left
                  · simp only [Act.put, List.setIfInBounds_toArray, List.set_cons_zero, List.set_cons_succ, i64_w, i32_w]
                    rfl
                  refine one_ (i := 8) (N := some 87) #[true, true, true, true, true, true, true, true, true, true, true, false, false, false, false] rfl rfl (one_of HT_.out (by kernel_rfl)) (by decide) (fun K hK => ?_)
                  refine Kd.R_append_rows_step (Kd.int .u8) (w0 := w) w.heap.size (by rfl) (.const (.slice none 0 0)) (.tmp 86) 23 5 (.int .u8 0) 1 rfl Try.underlying23 infoB rfl (by decide) (by omega) (.slice none 0 0) ([] : List Int) bd _ _ _ (fun _ => True) (fun _ => False) rfl rfl ?aO ?aR (fun _ _ h => h) (fun _ h => h.elim) ?aF ?aB ?aS ?aL ?_
                  case aR => exact (Kd.C_below HRB.out HB3.out)
                  case aB => exact HB3.out
                  case aF => exact (fun _ _ => trivial)
                  case aO => exact (Kd.R_nil _ _ _ _ (fun _ => True))
                  case aS => exact (below_size HB3.out)
                  case aL => have := HBL.out; have := HBIG.out; simp only [List.length_nil]; omega
                  intro v329 w4 ho hb hg hat
                  have HB4 := Aside0.mk hb
                  have HO := Aside0.mk ho
                  clear ho hb hg hat HB3
                  refine hK.out _ _ ((HB4.out.cell (World.block_lt_of_cell? w _ HX0.out)).trans HX0.out) (fun hHeld => ?_)
                  clear hK K
                  refine norm_ (a' := ?_) ?_ ?_
                  rotate_left
                  · show Act.put _ (some 87) _ = _
                    simp only [Act.put, List.setIfInBounds_toArray, List.set_cons_zero, List.set_cons_succ, i64_w, i32_w]
                    rfl
                  refine pure_ (i := 11) (N := some 2) (v := ?_) (a' := ?_) #[true, true, true, true, true, true, true, true, true, true, true, true, false, false, false] rfl rfl (any_of HT_.out (by kernel_rfl)) (fun _ _ _ h => h) (Or.inl ⟨by rfl, ?_⟩) ?_ ?_
                  rotate_left
                  · intro w'
                    go_simp
                    with_reducible rfl
                  rotate_left
                  · simp only [Act.put, List.setIfInBounds_toArray, List.set_cons_zero, List.set_cons_succ, i64_w, i32_w]
                    rfl
                  refine pure_ (i := 12) (N := some 3) (v := ?_) (a' := ?_) #[true, true, true, true, true, true, true, true, true, true, true, true, true, false, false] rfl rfl (any_of HT_.out (by kernel_rfl)) (fun _ _ _ h => h) (Or.inl ⟨by rfl, ?_⟩) ?_ ?_
                  rotate_left
                  · intro w'
                    go_simp
                    with_reducible rfl
                  rotate_left
                  · simp only [Act.put, List.setIfInBounds_toArray, List.set_cons_zero, List.set_cons_succ, i64_w, i32_w]
                    rfl
                  refine pure_ (i := 13) (N := some 4) (v := ?_) (a' := ?_) #[true, true, true, true, true, true, true, true, true, true, true, true, true, true, false] rfl rfl (any_of HT_.out (by kernel_rfl)) (fun _ _ _ h => h) (Or.inl ⟨by rfl, ?_⟩) ?_ ?_
                  rotate_left
                  · intro w'
                    go_simp
                    with_reducible rfl
                  rotate_left
                  · simp only [Act.put, List.setIfInBounds_toArray, List.set_cons_zero, List.set_cons_succ, i64_w, i32_w]
                    rfl
                  refine pure_ (i := 14) (N := some 5) (v := ?_) (a' := ?_) #[true, true, true, true, true, true, true, true, true, true, true, true, true, true, true] rfl rfl (any_of HT_.out (by kernel_rfl)) (fun _ _ _ h => h) (Or.inl ⟨by rfl, ?_⟩) ?_ ?_
                  rotate_left
                  · intro w'
                    go_simp
                    with_reducible rfl
                  rotate_left
                  · simp only [Act.put, List.setIfInBounds_toArray, List.set_cons_zero, List.set_cons_succ, i64_w, i32_w]
                    rfl
                  refine done_ (done_of HT_.out (by kernel_rfl)) ?_
                  try go_wp2
                  refine bodyPost_ret (results_list (rs := [.tmp 2, .tmp 3, .tmp 4, .tmp 5]) rfl (by simp) (.tmp (.tmp (.tmp (.tmp .nil))))) rfl ?_
                  rw [← HU3.out]
                  exact ⟨_, rfl, by simpa using HO.out, HB4.out⟩
                · have cDb : (bD != S % 256) = true := bne_iff_ne.mpr cD
                  have HU2 := HU.out
                  rw [if_pos (show ¬ (bA = S / 16777216 ∧ bB = S / 65536 % 256 ∧ bC = S / 256 % 256 ∧ bD = S % 256) from fun h => cD h.2.2.2)] at HU2
                  have HU3 := Aside0.mk HU2
                  clear HU2 cD
                  go_wp2
                  rw [← HU3.out]
                  refine bodyPost_ret (v := .tuple #[.int .u8 0, .slice none 0 0, .int .i64 0, .int .i64 4]) (by simp [results, Try.results29, go_sem]) rfl ⟨_, rfl, Kd.R_nil _ _ _ _ _, by repeat (first | exact Below.refl _ _ | apply pw_below_drewN)⟩
              · have cCb : (bC != S / 256 % 256) = true := bne_iff_ne.mpr cC
                have HU2 := HU.out
                rw [if_pos (show ¬ (bA = S / 16777216 ∧ bB = S / 65536 % 256 ∧ bC = S / 256 % 256 ∧ bD = S % 256) from fun h => cC h.2.2.1)] at HU2
                have HU3 := Aside0.mk HU2
                clear HU2 cC
                go_wp2
                rw [← HU3.out]
                refine bodyPost_ret (v := .tuple #[.int .u8 0, .slice none 0 0, .int .i64 0, .int .i64 4]) (by simp [results, Try.results29, go_sem]) rfl ⟨_, rfl, Kd.R_nil _ _ _ _ _, by repeat (first | exact Below.refl _ _ | apply pw_below_drewN)⟩
            · have cBb : (bB != S / 65536 % 256) = true := bne_iff_ne.mpr cB
              have HU2 := HU.out
              rw [if_pos (show ¬ (bA = S / 16777216 ∧ bB = S / 65536 % 256 ∧ bC = S / 256 % 256 ∧ bD = S % 256) from fun h => cB h.2.1)] at HU2
              have HU3 := Aside0.mk HU2
              clear HU2 cB
              go_wp2
              rw [← HU3.out]
              refine bodyPost_ret (v := .tuple #[.int .u8 0, .slice none 0 0, .int .i64 0, .int .i64 4]) (by simp [results, Try.results29, go_sem]) rfl ⟨_, rfl, Kd.R_nil _ _ _ _ _, by repeat (first | exact Below.refl _ _ | apply pw_below_drewN)⟩
          · have cAb : (bA != S / 16777216) = true := bne_iff_ne.mpr cA
            have HU2 := HU.out
            rw [if_pos (show ¬ (bA = S / 16777216 ∧ bB = S / 65536 % 256 ∧ bC = S / 256 % 256 ∧ bD = S % 256) from fun h => cA h.1)] at HU2
            have HU3 := Aside0.mk HU2
            clear HU2 cA
            go_wp2
            rw [← HU3.out]
            refine bodyPost_ret (v := .tuple #[.int .u8 0, .slice none 0 0, .int .i64 0, .int .i64 4]) (by simp [results, Try.results29, go_sem]) rfl ⟨_, rfl, Kd.R_nil _ _ _ _ _, by repeat (first | exact Below.refl _ _ | apply pw_below_drewN)⟩
    · have ceb : (e != 0) = true := bne_iff_ne.mpr ce
      have HU2 := HU.out
      rw [if_pos (show e ≠ 0 from ce)] at HU2
      clear HU
      have HU := Aside0.mk HU2
      have hkn : n = 0 ∧ k = 0 := by rcases HERR.out with h | h; exact absurd h ce; exact h
      obtain ⟨rfl, rfl⟩ := hkn
      clear HU2 ce HOK HERR
      go_enter Try.func29, Try.ntmps29
      go_wp2_with fail
      refine (pairingref8_DecodeUint.calls _ _ t 0 0 e _ HR1.out HC1.out A4.out).mono ?_
      rintro e_ w1 ⟨rfl, ⟨nd, rfl⟩⟩
      go_wp2
      rw [← HU.out]
      refine bodyPost_ret (v := .tuple #[.int .u8 0, .slice none 0 0, .int .i64 0, .int .i64 e]) (by simp [results, Try.results29, go_sem]) rfl ⟨_, rfl, Kd.R_nil _ _ _ _ _, pw_below_drewN (Below.refl _ _) _⟩
def pairingref8_Unframe.f (l0 : List Int) : Option (Int × List Int × Int × Int) := if (∀ x ∈ l0, 0 ≤ x ∧ x ≤ 255) ∧ l0.length < 140737488355328 then some (unfR l0) else none
theorem pairingref8_Unframe.calls (A0 : Option Addr) (c0 : Nat) (l0 : List Int) (r1 : Int) (r2 : List Int) (r3 : Int) (r4 : Int) (w : World) (hr0 : Kd.C (Kd.int .u8) w A0 l0.length l0) (hc0 : l0.length ≤ c0) (h : pairingref8_Unframe.f l0 = some (r1, r2, r3, r4)) :
    Calls Try.prog 29 #[.slice A0 l0.length c0] w fun e w' => ∃ v1_ : Value, e = .returned (.tuple #[.int .u8 r1, v1_, .int .i64 r3, .int .i64 r4]) ∧ Kd.R (Kd.int .u8) 5 w' w.heap.size (fun _ => True) v1_ r2 ∧ Below w.heap.size w w' := by
  unfold pairingref8_Unframe.f at h
  split at h
  · rename_i hb
    have hd := Option.some.inj h
    refine (unfref_calls A0 c0 l0 w hr0 hc0 hb.1 hb.2).mono fun e w' hh => ?_
    rw [hd] at hh
    exact hh
  · exact absurd h (by simp)
end Go.Proofs.Ytecomiapfaikbaa.H
