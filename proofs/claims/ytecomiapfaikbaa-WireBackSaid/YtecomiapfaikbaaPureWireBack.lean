/- WireBack: what EncodeText and EncodeInt encode, DecodeText and DecodeInt decode to the same value and length; each shorter text is truncated. Conditions: none. -/
import Derived.Test.YtecomiapfaikbaaWireB
import Derived.Test.YtecomiapfaikbaaQ4
namespace Go.Proofs.Ytecomiapfaikbaa.Pure
open Go.RowKit Go.Proofs.Ytecomiapfaikbaa.Q Go.Proofs.Ytecomiapfaikbaa.H Go.Proofs.Ytecomiapfaikbaa.WireA Go.Proofs.Ytecomiapfaikbaa.WireB Go.Proofs.YtecomiapfaikbaaW.PrintWords

theorem same_self (l : List Int) : pairinglaw8_Same.f l l = some true := by simp [pairinglaw8_Same.f]
theorem awake_yes (k : Nat) (hk : 12 ≤ k) : pairinglaw8_awake.f k = some true := by
  unfold pairinglaw8_awake.f
  rw [enc_wire k hk 300 (by omega) (by omega), show enc 300 = [172, 2] by decide]
  simp only [Option.bind_some, if_true, same_self]
theorem dec_yes (l : List Int) (hb : ∀ x ∈ l, 0 ≤ x ∧ x ≤ 255) : wire_DecodeUint.f l = some (decL l 0 0) := by unfold wire_DecodeUint.f; rw [if_pos hb]

/-! ### texts -/
theorem bytes_ok (s : ByteArray) : ∀ c ∈ bytesOf s, 0 ≤ c ∧ c ≤ 255 := by
  intro c hc
  simp only [bytesOf, List.mem_map] at hc
  obtain ⟨b, _, rfl⟩ := hc
  have := b.toNat_lt
  omega
theorem bytes_len (s : ByteArray) : (bytesOf s).length = s.size := by
  unfold bytesOf
  rw [List.length_map]; rfl
def textF (s : ByteArray) : List Int := enc (s.size : Int) ++ bytesOf s
theorem text_bytes (s : ByteArray) (h : s.size ≤ 300) : ∀ c ∈ textF s, 0 ≤ c ∧ c ≤ 255 := by
  intro c hc
  rcases List.mem_append.1 hc with hc | hc
  · exact enc_bytes _ (by omega) (by omega) c hc
  · exact bytes_ok s c hc
theorem text_len (s : ByteArray) : (textF s).length = (enc (s.size : Int)).length + s.size := by simp [textF, bytes_len]
theorem text_enc (k : Nat) (hk : 12 ≤ k) (s : ByteArray) (h : s.size ≤ 300) : wire_EncodeText.f k s = some (textF s, 0) := by
  have hn := enc_len (s.size : Int)
  unfold wire_EncodeText.f
  rw [if_neg (by omega), enc_wire k hk _ (by omega) (by omega), Option.bind_some]
  dsimp only
  rw [if_pos (by omega)]; rfl
theorem str_bytes (s : ByteArray) : strOfNums (bytesOf s) = s := by
  unfold strOfNums bytesOf
  rw [List.map_map]
  have : ((fun n : Int => UInt8.ofNat n.toNat) ∘ fun b : UInt8 => (b.toNat : Int)) = id := by
    funext b
    simp
  simp [this]
theorem text_dec (s : ByteArray) (m : List Int) (h : s.size ≤ 300) (hm : ∀ c ∈ m, 0 ≤ c ∧ c ≤ 255) (hl : m.length ≤ 300) : wire_DecodeText.f (textF s ++ m) = some (s, ((textF s).length : Int), 0) := by
  have hn := enc_len (s.size : Int)
  have hlen := text_len s
  have hb : ∀ c ∈ textF s ++ m, 0 ≤ c ∧ c ≤ 255 := by
    intro c hc
    rcases List.mem_append.1 hc with hc | hc
    · exact text_bytes s h c hc
    · exact hm c hc
  have hd : decL (textF s ++ m) 0 0 = ((s.size : Int), ((enc (s.size : Int)).length : Int), 0) := by
    unfold textF
    rw [List.append_assoc]
    exact decL_enc _ _ (by omega) (by omega)
  unfold wire_DecodeText.f
  rw [dec_yes _ hb, hd, Option.bind_some]
  dsimp only
  have hll : (textF s ++ m).length = (textF s).length + m.length := by simp
  have w1 : wrap64 (((textF s ++ m).length : Int) - (enc (s.size : Int)).length) = ((textF s ++ m).length : Int) - (enc (s.size : Int)).length := by unfold wrap64; omega
  have w2 : wrap64 (((enc (s.size : Int)).length : Int) + s.size) = (textF s).length := by unfold wrap64; omega
  rw [w1, w2, if_pos rfl, if_neg (by omega), if_neg (by omega), if_pos (by omega), if_pos (by omega), if_pos (by omega), Int.toNat_natCast, Int.toNat_natCast, List.take_left]
  have e : (textF s).drop (enc (s.size : Int)).length = bytesOf s := by unfold textF; rw [List.drop_left]
  rw [e, str_bytes]
theorem text_cut (s : ByteArray) (m : Nat) (h : s.size ≤ 300) (hm : m < (textF s).length) : ∃ a b, wire_DecodeText.f ((textF s).take m) = some (a, b, 3) := by
  have hn := enc_len (s.size : Int)
  have hlen := text_len s
  have hb : ∀ c ∈ (textF s).take m, 0 ≤ c ∧ c ≤ 255 := fun c hc => text_bytes s h c (List.mem_of_mem_take hc)
  unfold wire_DecodeText.f
  rw [dec_yes _ hb]
  have ht : (textF s).take m = (enc (s.size : Int)).take m ++ (bytesOf s).take (m - (enc (s.size : Int)).length) := by unfold textF; rw [List.take_append]
  by_cases hc : m < (enc (s.size : Int)).length
  · rw [ht, show m - (enc (s.size : Int)).length = 0 by omega, List.take_zero, List.append_nil, decL_cut _ m hc, Option.bind_some]
    dsimp only
    rw [if_neg (by omega)]
    exact ⟨_, _, rfl⟩
  · have hd : decL ((textF s).take m) 0 0 = ((s.size : Int), ((enc (s.size : Int)).length : Int), 0) := by
      rw [ht, List.take_of_length_le (l := enc _) (by omega)]
      exact decL_enc _ _ (by omega) (by omega)
    have hll : ((textF s).take m).length = m := by rw [List.length_take]; omega
    rw [hd, Option.bind_some]
    dsimp only
    have w1 : wrap64 ((((textF s).take m).length : Int) - (enc (s.size : Int)).length) = (m : Int) - (enc (s.size : Int)).length := by unfold wrap64; omega
    rw [w1, if_pos rfl, if_neg (by omega), if_pos (by omega)]
    exact ⟨_, _, rfl⟩

/-! ### integers -/
def zig (x : Int) : Int := if x < 0 then -2 * x - 1 else 2 * x
theorem zig_range (x : Int) (h : -2305843009213693952 ≤ x ∧ x ≤ 2305843009213693952) : 0 ≤ zig x ∧ zig x ≤ 4611686018427387904 := by unfold zig; split <;> omega
theorem int_enc (k : Nat) (hk : 13 ≤ k) (x : Int) (h : -2305843009213693952 ≤ x ∧ x ≤ 2305843009213693952) : wire_EncodeInt.f k x = some (enc (zig x), 0) := by
  obtain ⟨k, rfl⟩ : ∃ m, k = m + 1 := ⟨k - 1, by omega⟩
  have hz := zig_range x h
  unfold wire_EncodeInt.f
  rw [if_neg (by omega), decide_eq_false (by omega)]
  simp only [wire_EncodeInt.j0]
  have w1 : wrap64 (2 * x) = 2 * x := by unfold wrap64; omega
  have w2 : wrap64 ((-2) * x) = (-2) * x := by unfold wrap64; omega
  have w3 : wrap64 ((-2) * x - 1) = (-2) * x - 1 := by unfold wrap64; omega
  rw [if_neg (by simp), w2, w3, w1]
  by_cases hx : x < 0
  · have e : zig x = (-2) * x - 1 := if_pos hx
    rw [e] at hz ⊢
    rw [if_pos hx, enc_wire k (by omega) _ (by omega) (by omega)]; rfl
  · have e : zig x = 2 * x := if_neg hx
    rw [e] at hz ⊢
    rw [if_neg hx, enc_wire k (by omega) _ (by omega) (by omega)]; rfl
theorem int_enc_no (k : Nat) (hk : 13 ≤ k) (x : Int) (h : ¬ (-2305843009213693952 ≤ x ∧ x ≤ 2305843009213693952)) : wire_EncodeInt.f k x = some ([], 5) := by
  obtain ⟨k, rfl⟩ : ∃ m, k = m + 1 := ⟨k - 1, by omega⟩
  unfold wire_EncodeInt.f
  by_cases hx : x < -2305843009213693952
  · rw [if_pos hx]; rfl
  · rw [if_neg hx, decide_eq_true (by omega)]; rfl
theorem int_dec (x : Int) (m : List Int) (h : -2305843009213693952 ≤ x ∧ x ≤ 2305843009213693952) (hm : ∀ c ∈ m, 0 ≤ c ∧ c ≤ 255) : wire_DecodeInt.f (enc (zig x) ++ m) = some (x, ((enc (zig x)).length : Int), 0) := by
  have hz := zig_range x h
  have hb : ∀ c ∈ enc (zig x) ++ m, 0 ≤ c ∧ c ≤ 255 := by
    intro c hc
    rcases List.mem_append.1 hc with hc | hc
    · exact enc_bytes _ hz.1 hz.2 c hc
    · exact hm c hc
  unfold wire_DecodeInt.f
  rw [dec_yes _ hb, decL_enc _ _ hz.1 hz.2, Option.bind_some]
  dsimp only
  generalize (enc (zig x)).length = L
  have e1 : Int.tmod (zig x) 2 = zig x % 2 := Int.tmod_eq_emod_of_nonneg hz.1
  have e2 : Int.tdiv (zig x) 2 = zig x / 2 := Int.tdiv_eq_ediv_of_nonneg hz.1
  rw [e1, e2, if_pos rfl]
  by_cases hx : x < 0
  · have e : zig x = -2 * x - 1 := if_pos hx
    rw [e] at hz ⊢
    have w1 : wrap64 ((-2 * x - 1) / 2) = -x - 1 := by unfold wrap64; omega
    have w2 : wrap64 (wrap64 (-(-x - 1)) - 1) = x := by unfold wrap64; omega
    rw [if_pos (by omega), w1, w2]
  · have e : zig x = 2 * x := if_neg hx
    rw [e] at hz ⊢
    have w1 : wrap64 (2 * x / 2) = x := by unfold wrap64; omega
    rw [if_neg (by omega), w1]
theorem int_cut (x : Int) (m : Nat) (h : -2305843009213693952 ≤ x ∧ x ≤ 2305843009213693952) (hm : m < (enc (zig x)).length) : wire_DecodeInt.f ((enc (zig x)).take m) = some (0, 0, 3) := by
  have hz := zig_range x h
  unfold wire_DecodeInt.f
  rw [dec_yes _ (fun c hc => enc_bytes _ hz.1 hz.2 c (List.mem_of_mem_take hc)), decL_cut _ m hm, Option.bind_some]
  dsimp only
  rw [if_neg (by omega)]

/-! ### loops -/
theorem ints_cut (n : Nat) : ∀ (k : Nat) (x j : Int), n + 13 ≤ k → (-2305843009213693952 ≤ x ∧ x ≤ 2305843009213693952) → 0 ≤ j → j + n = (enc (zig x)).length → pairinglaw8_WireBack.l1 k (enc (zig x)) j = some true := by
  induction n with
  | zero =>
    intro k x j hk h h0 hj
    obtain ⟨k, rfl⟩ : ∃ m, k = m + 1 := ⟨k - 1, by omega⟩
    simp only [pairinglaw8_WireBack.l1]
    rw [if_neg (by omega), awake_yes k (by omega)]; rfl
  | succ n ih =>
    intro k x j hk h h0 hj
    obtain ⟨k, rfl⟩ : ∃ m, k = m + 1 := ⟨k - 1, by omega⟩
    have hn := enc_len (zig x)
    simp only [pairinglaw8_WireBack.l1]
    rw [if_pos (by omega), if_pos h0, if_pos (by omega), int_cut x _ h (by omega), Option.bind_some, if_pos rfl, show wrap64 (j + 1) = j + 1 by unfold wrap64; omega]
    exact ih k x (j + 1) (by omega) h (by omega) (by omega)
theorem after (k : Nat) (hk : 40 ≤ k) (x : Int) (s : ByteArray) (m : List Int) (j : Int) (hs : s.size ≤ 300) (hm : ∀ c ∈ m, 0 ≤ c ∧ c ≤ 255) (hl : m.length ≤ 300) (hj : j = (textF s).length) (r : List Int × Int)
    (hr : (r = (enc (zig x), 0) ∧ -2305843009213693952 ≤ x ∧ x ≤ 2305843009213693952) ∨ r = ([], 5)) : pairinglaw8_WireBack.l0 k x m r.1 r.2 (textF s) j = some true := by
  obtain ⟨k, rfl⟩ : ∃ m, k = m + 1 := ⟨k - 1, by omega⟩
  simp only [pairinglaw8_WireBack.l0]
  rw [if_neg (by omega)]
  rcases hr with ⟨rfl, h⟩ | rfl
  · have hn := enc_len (zig x)
    dsimp only
    rw [if_pos rfl, if_pos (by simp; omega), Option.bind_some, List.nil_append, if_pos (by omega), int_dec x m h hm, Option.bind_some]
    dsimp only
    rw [if_pos rfl, if_pos rfl, bne_self_eq_false]
    obtain ⟨k, rfl⟩ : ∃ m, k = m + 1 := ⟨k - 1, by omega⟩
    simp only [pairinglaw8_WireBack.j4]
    rw [if_neg (by simp)]
    exact ints_cut (enc (zig x)).length k x 0 (by omega) h (by omega) (by omega)
  · dsimp only
    rw [if_neg (by omega), awake_yes k (by omega)]; rfl
theorem texts_cut (n : Nat) : ∀ (k : Nat) (x : Int) (s : ByteArray) (m : List Int) (j : Int) (r : List Int × Int), n + 40 ≤ k → s.size ≤ 300 → (∀ c ∈ m, 0 ≤ c ∧ c ≤ 255) → m.length ≤ 300 → 0 ≤ j → j + n = (textF s).length →
    ((r = (enc (zig x), 0) ∧ -2305843009213693952 ≤ x ∧ x ≤ 2305843009213693952) ∨ r = ([], 5)) → pairinglaw8_WireBack.l0 k x m r.1 r.2 (textF s) j = some true := by
  induction n with
  | zero =>
    intro k x s m j r hk hs hm hl h0 hj hr
    exact after k (by omega) x s m j hs hm hl (by omega) r hr
  | succ n ih =>
    intro k x s m j r hk hs hm hl h0 hj hr
    obtain ⟨k, rfl⟩ : ∃ m, k = m + 1 := ⟨k - 1, by omega⟩
    have hlen := text_len s
    have hn := enc_len (s.size : Int)
    obtain ⟨a, b, hc⟩ := text_cut s j.toNat hs (by omega)
    simp only [pairinglaw8_WireBack.l0]
    rw [if_pos (by omega), if_pos h0, if_pos (by omega), hc, Option.bind_some, if_pos rfl, show wrap64 (j + 1) = j + 1 by unfold wrap64; omega]
    exact ih k x s m (j + 1) r (by omega) hs hm hl (by omega) (by omega) hr
theorem WireBack : pairinglaw8_WireBack.Pure := by
  intro x s m _ _ _ _ hw
  have hm := wf_bytes hw
  obtain ⟨K, hK⟩ : ∃ K : Nat, K = 400 := ⟨_, rfl⟩
  refine ⟨K + 3, ?_⟩
  unfold pairinglaw8_WireBack.f
  by_cases h : (s.size : Int) > 300
  · rw [if_pos h]
    simp only [pairinglaw8_WireBack.j0]
    rw [if_pos trivial, awake_yes (K + 2) (by omega)]; rfl
  rw [if_neg h]
  by_cases h' : (m.length : Int) > 300
  · rw [decide_eq_true h']
    simp only [pairinglaw8_WireBack.j0]
    rw [if_pos trivial, awake_yes (K + 2) (by omega)]; rfl
  rw [decide_eq_false h']
  have hlen := text_len s
  have hn := enc_len (s.size : Int)
  obtain ⟨r, hr, he⟩ : ∃ r : List Int × Int, ((r = (enc (zig x), 0) ∧ -2305843009213693952 ≤ x ∧ x ≤ 2305843009213693952) ∨ r = ([], 5)) ∧ wire_EncodeInt.f (K + 2) x = some r := by
    by_cases hx : -2305843009213693952 ≤ x ∧ x ≤ 2305843009213693952
    · exact ⟨_, .inl ⟨rfl, hx⟩, int_enc (K + 2) (by omega) x hx⟩
    · exact ⟨_, .inr rfl, int_enc_no (K + 2) (by omega) x hx⟩
  have hend := texts_cut (textF s).length K x s m 0 r (by omega) (by omega) hm (by omega) (by omega) (by omega) hr
  have hr2 : r.2 = 0 ∨ r.2 = 5 := by rcases hr with ⟨rfl, _⟩ | rfl <;> simp
  simp only [pairinglaw8_WireBack.j0]
  rw [if_neg (by simp), he, Option.bind_some, text_enc (K + 2) (by omega) s (by omega), Option.bind_some, if_pos rfl]
  have hj : (if r.2 = 0 then pairinglaw8_WireBack.j1 (K + 2) x s m r.1 r.2 (textF s) false else pairinglaw8_WireBack.j1 (K + 2) x s m r.1 r.2 (textF s) (r.2 != 5)) = pairinglaw8_WireBack.j1 (K + 2) x s m r.1 r.2 (textF s) false := by
    rcases hr2 with e | e
    · rw [if_pos e]
    · rw [if_neg (by omega), show (r.2 != 5) = false by rw [e]; rfl]
  rw [hj]
  simp only [pairinglaw8_WireBack.j1]
  rw [if_neg (by simp), if_pos (by simp; omega), Option.bind_some, List.nil_append, if_pos (by omega), text_dec s m (by omega) hm (by omega), Option.bind_some]
  dsimp only
  rw [if_pos rfl, if_pos rfl, bne_self_eq_false]
  simp only [pairinglaw8_WireBack.j2]
  rw [if_neg (by simp)]
  exact hend
end Go.Proofs.Ytecomiapfaikbaa.Pure
