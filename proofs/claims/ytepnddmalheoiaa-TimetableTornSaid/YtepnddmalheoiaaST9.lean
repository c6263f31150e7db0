/- For timetableTorn_holds: texts of this session and words of the kit's print, those alone that the proof uses. -/
import Derived.OpenShut
import Derived.Test.YtepnddmalheoiaaProg
import Derived.Below
import Derived.Deep.Draws
import Derived.Deep.AppendLies
import Derived.Maps.AppendAt
import Derived.OwnWalk
import Derived.Laws.BytesArg
import Derived.Laws.MakeOwn
import Derived.Laws.OwnMore
import Derived.Deep.OwnRows
import Derived.Tactics
import Derived.Lib.ConvBytes
import Derived.Laws.Slices
import Derived.WalkKit
import Derived.KernelRfl
import Derived.RowKit3
import Derived.Deep.LoopGhost
import Derived.Deep.QuietTactic
import Derived.BigQuiet
import Derived.WideLaws
import Derived.Deep.DeepCutAuto
import Derived.Deep.CutBlock
import Derived.Deep.RegionHeld3
import Derived.Laws.Rows
import Derived.Lib.AppendStr
import Derived.ArgAppend
import Derived.Laws.IdiomCopy
import Derived.OrdersHeld
import Derived.Laws.BitsLemmas
import Derived.RowKit
import Derived.Deep.WholeRow
import Derived.Laws.ResultCell
import Derived.Lib.SlBytesConst
import Derived.Outline
import Derived.Laws.StructEq
import Derived.Test.YtepnddmalheoiaaST0
import Derived.Test.YtepnddmalheoiaaST1
import Derived.Test.YtepnddmalheoiaaST2
import Derived.Test.YtepnddmalheoiaaST3
import Derived.Test.YtepnddmalheoiaaST4
import Derived.Test.YtepnddmalheoiaaST5
import Derived.Test.YtepnddmalheoiaaST6
import Derived.Test.YtepnddmalheoiaaST8
namespace Go.Proofs.Ytepnddmalheoiaa.Cod
open Go.RowKit Go.Proofs.Ytepnddmalheoiaa.H Go.Proofs.Ytepnddmalheoiaa.WireA Go.Proofs.Ytepnddmalheoiaa.WireC Go.Proofs.YtepnddmalheoiaaW.PrintWords
set_option linter.unusedVariables false
set_option linter.unusedSimpArgs false
theorem wire_l0 (j : Nat) : ∀ (k : Nat) (x : Int) (acc : List Int),0 ≤ x → x < 128 ^ (j + 1) → j < k → acc.length + j + 1 < 140737488355328 →
  K.wire_EncodeUint.l0 k x acc = some (acc ++ encF j x,0):=by
 induction j with
 | zero =>
  intro k x acc h0 h1 hk hl
  obtain ⟨k,rfl⟩ : ∃ m,k = m + 1:=⟨k - 1,by omega⟩
  simp only [K.wire_EncodeUint.l0]
  rw [if_neg (by omega),if_pos (by omega)]
  rw [Int.emod_eq_of_lt h0 (by omega)];rfl
 | succ j ih =>
  intro k x acc h0 h1 hk hl
  obtain ⟨k,rfl⟩ : ∃ m,k = m + 1:=⟨k - 1,by omega⟩
  simp only [K.wire_EncodeUint.l0]
  by_cases h : x > 127
  ·rw [if_pos h,if_pos (by omega),or128 _ (by omega) (by omega),ih k _ _ (by omega) (pow128 j x h1) (by omega) (by simp;omega)]
   simp only [encF]
   rw [if_pos h,List.append_assoc,show x % 256 % 128 = x % 128 by omega];rfl
  ·rw [if_neg h,if_pos (by omega),encF_small _ _ (by omega),Int.emod_eq_of_lt h0 (by omega)]
theorem enc_wire (k : Nat) (hk : 12 ≤ k) (x : Int) (h0 : 0 ≤ x) (h1 : x ≤ 4611686018427387904) : K.wire_EncodeUint.f k x = some (enc x,0):=by
 obtain ⟨k,rfl⟩ : ∃ m,k = m + 1:=⟨k - 1,by omega⟩
 unfold K.wire_EncodeUint.f
 rw [if_neg (by omega),decide_eq_false (by omega)]
 simp only [K.wire_EncodeUint.j0]
 rw [if_neg (by simp),wire_l0 8 k x [] h0 (by omega) (by omega) (by simp)];rfl
theorem dec_yes (l : List Int) (hb : ∀ x ∈ l,0 ≤ x ∧ x ≤ 255) : wire_DecodeUint.f l = some (decL l 0 0):=by unfold wire_DecodeUint.f;rw [if_pos hb]
theorem bytes_ok (s : ByteArray) : ∀ c ∈ bytesOf s,0 ≤ c ∧ c ≤ 255:=by
 intro c hc
 simp only [bytesOf,List.mem_map] at hc
 obtain ⟨b,_,rfl⟩:=hc
 have:=b.toNat_lt
 omega
theorem bytes_len (s : ByteArray) : (bytesOf s).length = s.size:=by
 unfold bytesOf
 rw [List.length_map];rfl
def textF (s : ByteArray) : List Int:=enc (s.size : Int) ++ bytesOf s
theorem text_bytes (s : ByteArray) (h : s.size ≤ 20000) : ∀ c ∈ textF s,0 ≤ c ∧ c ≤ 255:=by
 intro c hc
 rcases List.mem_append.1 hc with hc|hc
 ·exact enc_bytes _ (by omega) (by omega) c hc
 ·exact bytes_ok s c hc
theorem text_len (s : ByteArray) : (textF s).length = (enc (s.size : Int)).length + s.size:=by simp [textF,bytes_len]
theorem text_enc (k : Nat) (hk : 12 ≤ k) (s : ByteArray) (h : s.size ≤ 20000) : K.wire_EncodeText.f k s = some (textF s,0):=by
 have hn:=enc_len (s.size : Int)
 unfold K.wire_EncodeText.f
 rw [if_neg (by omega),enc_wire k hk _ (by omega) (by omega),Option.bind_some]
 dsimp only
 rw [if_pos (by omega)];rfl
theorem str_bytes (s : ByteArray) : strOfNums (bytesOf s) = s:=by
 unfold strOfNums bytesOf
 rw [List.map_map]
 have : ((fun n : Int=>UInt8.ofNat n.toNat) ∘ fun b : UInt8=>(b.toNat : Int)) = id:=by
  funext b
  simp
 simp [this]
theorem text_dec (s : ByteArray) (m : List Int) (h : s.size ≤ 20000) (hm : ∀ c ∈ m,0 ≤ c ∧ c ≤ 255) (hl : m.length ≤ 1099511627776) : K.wire_DecodeText.f (textF s ++ m) = some (s,((textF s).length : Int),0):=by
 have hn:=enc_len (s.size : Int)
 have hlen:=text_len s
 have hb : ∀ c ∈ textF s ++ m,0 ≤ c ∧ c ≤ 255:=by
  intro c hc
  rcases List.mem_append.1 hc with hc|hc
  ·exact text_bytes s h c hc
  ·exact hm c hc
 have hd : decL (textF s ++ m) 0 0 = ((s.size : Int),((enc (s.size : Int)).length : Int),0):=by
  unfold textF
  rw [List.append_assoc]
  exact decL_enc _ _ (by omega) (by omega)
 unfold K.wire_DecodeText.f
 rw [dec_yes _ hb,hd,Option.bind_some]
 dsimp only
 have hll : (textF s ++ m).length = (textF s).length + m.length:=by simp
 have w1 : wrap64 (((textF s ++ m).length : Int) - (enc (s.size : Int)).length) = ((textF s ++ m).length : Int) - (enc (s.size : Int)).length:=by unfold wrap64;omega
 have w2 : wrap64 (((enc (s.size : Int)).length : Int) + s.size) = (textF s).length:=by unfold wrap64;omega
 rw [w1,w2,if_pos rfl,if_neg (by omega),if_neg (by omega),if_pos (by omega),if_pos (by omega),if_pos (by omega),Int.toNat_natCast,Int.toNat_natCast,List.take_left]
 have e : (textF s).drop (enc (s.size : Int)).length = bytesOf s:=by unfold textF;rw [List.drop_left]
 rw [e,str_bytes]
def zig (x : Int) : Int:=if x < 0 then -2 * x - 1 else 2 * x
theorem zig_range (x : Int) (h : -2305843009213693952 ≤ x ∧ x ≤ 2305843009213693952) : 0 ≤ zig x ∧ zig x ≤ 4611686018427387904:=by unfold zig;split <;> omega
theorem int_enc (k : Nat) (hk : 13 ≤ k) (x : Int) (h : -2305843009213693952 ≤ x ∧ x ≤ 2305843009213693952) : K.wire_EncodeInt.f k x = some (enc (zig x),0):=by
 obtain ⟨k,rfl⟩ : ∃ m,k = m + 1:=⟨k - 1,by omega⟩
 have hz:=zig_range x h
 unfold K.wire_EncodeInt.f
 rw [if_neg (by omega),decide_eq_false (by omega)]
 simp only [K.wire_EncodeInt.j0]
 have w1 : wrap64 (2 * x) = 2 * x:=by unfold wrap64;omega
 have w2 : wrap64 ((-2) * x) = (-2) * x:=by unfold wrap64;omega
 have w3 : wrap64 ((-2) * x - 1) = (-2) * x - 1:=by unfold wrap64;omega
 rw [if_neg (by simp),w2,w3,w1]
 by_cases hx : x < 0
 ·have e : zig x = (-2) * x - 1:=if_pos hx
  rw [e] at hz ⊢
  rw [if_pos hx,enc_wire k (by omega) _ (by omega) (by omega)];rfl
 ·have e : zig x = 2 * x:=if_neg hx
  rw [e] at hz ⊢
  rw [if_neg hx,enc_wire k (by omega) _ (by omega) (by omega)];rfl
theorem int_dec (x : Int) (m : List Int) (h : -2305843009213693952 ≤ x ∧ x ≤ 2305843009213693952) (hm : ∀ c ∈ m,0 ≤ c ∧ c ≤ 255) : K.wire_DecodeInt.f (enc (zig x) ++ m) = some (x,((enc (zig x)).length : Int),0):=by
 have hz:=zig_range x h
 have hb : ∀ c ∈ enc (zig x) ++ m,0 ≤ c ∧ c ≤ 255:=by
  intro c hc
  rcases List.mem_append.1 hc with hc|hc
  ·exact enc_bytes _ hz.1 hz.2 c hc
  ·exact hm c hc
 unfold K.wire_DecodeInt.f
 rw [dec_yes _ hb,decL_enc _ _ hz.1 hz.2,Option.bind_some]
 dsimp only
 generalize (enc (zig x)).length = L
 have e1 : Int.tmod (zig x) 2 = zig x % 2:=Int.tmod_eq_emod_of_nonneg hz.1
 have e2 : Int.tdiv (zig x) 2 = zig x / 2:=Int.tdiv_eq_ediv_of_nonneg hz.1
 rw [e1,e2,if_pos rfl]
 by_cases hx : x < 0
 ·have e : zig x = -2 * x - 1:=if_pos hx
  rw [e] at hz ⊢
  have w1 : wrap64 ((-2 * x - 1) / 2) = -x - 1:=by unfold wrap64;omega
  have w2 : wrap64 (wrap64 (-(-x - 1)) - 1) = x:=by unfold wrap64;omega
  rw [if_pos (by omega),w1,w2]
 ·have e : zig x = 2 * x:=if_neg hx
  rw [e] at hz ⊢
  have w1 : wrap64 (2 * x / 2) = x:=by unfold wrap64;omega
  rw [if_neg (by omega),w1]
theorem frame_yes (k : Nat) (hk : 12 ≤ k) (t : Int) (l : List Int) (ht : 0 ≤ t ∧ t ≤ 255) (hb : ∀ x ∈ l,0 ≤ x ∧ x ≤ 255) (hl : l.length ≤ 1048576) :
  K.wire_Frame.f k t l = some (frameF t l,0):=by
 have hh:=head_bytes t l ht hb (by omega)
 have hn:=enc_len (l.length : Int)
 have e : [t] ++ enc (l.length : Int) ++ l = headF t l:=by simp [headF]
 unfold K.wire_Frame.f
 rw [if_neg (by omega),enc_wire k hk _ (by omega) (by omega)]
 simp only [Option.bind_some]
 rw [if_pos (by simp;omega),if_pos (by simp;omega),e]
 unfold wire_Checksum.f
 rw [if_pos hh]
 simp only [Option.bind_some]
 rw [if_pos (by simp [headF];omega)]
 simp [frameF,headF,sum4]
theorem unf_yes (l : List Int) (hb : ∀ x ∈ l,0 ≤ x ∧ x ≤ 255) (hl : l.length < 140737488355328) : wire_Unframe.f l = some (unf l):=by
 unfold wire_Unframe.f;rw [if_pos ⟨hb,hl⟩]
end Go.Proofs.Ytepnddmalheoiaa.Cod
namespace Go.Proofs.Ytepnddmalheoiaa.H
open Go.RowKit Go.Proofs.YtepnddmalheoiaaW.PrintWords Go.Proofs.YtepnddmalheoiaaW.PrintLast Go.Proofs.YtepnddmalheoiaaW.PrintMore
set_option linter.unusedVariables false
set_option linter.unusedSimpArgs false
def IsW (w0 W : World) (g : Nat) (bs : List Int) : Prop:=∃ v,W.heap[g]? = some (.cells #[v] 79 (0,0)) ∧ w0.heap.size ≤ g ∧ Kd.R (Kd.int .u8) 5 W w0.heap.size (fun k=>k ≠ g) v bs
theorem IsW.below {w0 W W1 : World} {g : Nat} {bs : List Int} (h : IsW w0 W g bs) (hb : Below W.heap.size W W1) : IsW w0 W1 g bs:=by
 obtain ⟨v,h1,h2,h3⟩:=h
 exact ⟨v,blk_grown h1 (grown_of_below hb none) (by simp),h2,Kd.R_below h3 hb⟩
def KeepT (w w' : World) : Prop:=∀ (i : Nat) (cs : Array Value) (t : TypeId) (fr : Nat × Nat),w.heap[i]? = some (.cells cs t fr) → t ≠ 79 → t ≠ 5 → w'.heap[i]? = some (.cells cs t fr)
theorem KeepT.refl (w : World) : KeepT w w:=fun _ _ _ _ h _ _=>h
theorem KeepT.trans {w w1 w2 : World} (h : KeepT w w1) (h' : KeepT w1 w2) : KeepT w w2:=fun i cs t fr hi h1 h2=>h' i cs t fr (h i cs t fr hi h1 h2) h1 h2
theorem KeepT.of_below {w w1 : World} (h : Below w.heap.size w w1) : KeepT w w1:=fun i cs t fr hi _ _=>(h.block i (blk_lt hi)).trans hi
theorem KeepT.of_grown {w w1 : World} {v : Value} {bs : List Int} {base : Nat} {ok : Nat → Prop} (hv : Kd.R (Kd.int .u8) 5 w base ok v bs) (h : w.grownBy w1 v.ownBlock) : KeepT w w1:=by
 intro i cs t fr hi _ h2
 refine (h.block i (blk_lt hi) ?_).trans hi
 intro he
 obtain ⟨_,_,_,q,hq,cells,hc⟩:=(Kd.R_bound hv).1 i he.symm
 simp only [List.mem_cons,Kd.int,Kd.scalar,List.not_mem_nil,or_false] at hq
 rw [hi] at hc
 injection hc with hc
 injection hc with _ ht
 exact h2 (ht.trans hq)
theorem KeepT.set {w : World} {g j : Nat} {cs : Array Value} {u : Value} (hb : w.heap[g]? = some (.cells cs 79 (0,0))) : KeepT w (w.setCell ⟨g,j,none⟩ u):=by
 intro i cs' t fr hi h1 _
 have hne : i ≠ g:=by
  rintro rfl
  rw [hb] at hi
  injection hi with hi
  injection hi with _ ht
  exact h1 ht.symm
 exact (Below.heap_setCell w ⟨g,j,none⟩ u i hne).trans hi
set_option maxHeartbeats 8000000 in
set_option maxRecDepth 100000 in
theorem writer_uint_calls (k g : Nat) (bs : List Int) (n : Int) (xs : List Int) (e : Int) (w0 w : World) (hI : IsW w0 w g bs) (hB : Below w0.heap.size w0 w) (hE : K.wire_EncodeUint.f k n = some (xs,e)) (hl : bs.length + xs.length ≤ 140737488355328) :
  Calls Try.prog 40 #[.pointer (some ⟨g,0,none⟩),.int .i64 n] w fun r w'=>r = .returned (.tuple #[]) ∧ IsW w0 w' g (bs ++ xs) ∧ Below w0.heap.size w0 w' ∧ KeepT w w':=by
 have HI:=Aside0.mk hI
 have HB:=Aside0.mk hB
 clear hI hB
 go_enter Try.func40,Try.ntmps40
 go_wp2_with fail
 refine (K.wire_EncodeUint.calls k n xs e _ hE).mono ?_
 rintro e_ w1 ⟨v0,rfl,hR,hb1⟩
 have HR:=Aside0.mk hR
 have HB1:=Aside0.mk (below_step HB.out hb1)
 obtain ⟨v,hb,hg,hv⟩:=HI.out.below hb1
 have HK1:=Aside0.mk (KeepT.of_below hb1)
 clear hR hb1 HI
 have hc0 : w1.cell? ⟨g,0,none⟩ = some v:=(blk_cell hb 0).trans rfl
 have hf0:=blk_frozen hb 0
 have HBk:=Aside0.mk hb
 have HV:=Aside0.mk hv
 clear hb hv
 obtain ⟨A,c,hv0,hrd⟩:=own_reads (k:=.u8) (xs:=xs) (show w1.ownsRow w.heap.size 5 1 v0 xs.length (nums .u8 xs) from Kd.own_of_R HR.out)
 subst hv0
 have HRd:=Aside0.mk hrd
 have hs1 : w0.heap.size ≤ w1.heap.size:=HB1.out.size
 have hgv : some g ≠ v.ownBlock:=fun h=>HV.out.1 g h.symm rfl
 clear hrd
 go_wp2_with (at_builtin;refine print_append_row (w0:=w0) w0.heap.size rfl (.tmp 15) _ 46 5 .u8 1 rfl Try.underlying46 infoB (by decide) v bs xs A xs.length c rfl rfl (Kd.own_of_R HV.out) HRd.out HB1.out hs1 (by omega) ?_;intro v1 w2 ho hb2 hg2 hat;obtain ⟨A1,c1,hv1,_⟩:=own_reads ho;subst hv1;have hbk2:=blk_grown HBk.out hg2 hgv;have hc2 : w2.cell? ⟨g,0,none⟩ = some v:=(blk_cell hbk2 0).trans rfl;have hf2:=blk_frozen hbk2 0;have HBk2:=Aside0.mk hbk2;have HO2:=Aside0.mk ho;have HB2:=Aside0.mk hb2;have HAt:=Aside0.mk hat;have HK2:=Aside0.mk (KeepT.of_grown HV.out hg2);clear ho hb2 hg2 hat hbk2)
 have hok : ∀ q,(Value.slice A1 (bs ++ xs).length c1).ownBlock = some q → q ≠ g:=by
  intro q hq
  rcases HAt.out with h|⟨b,h,hb⟩
  ·exact HV.out.1 q (h ▸ hq)
  ·have : b = q:=Option.some.inj (h.symm.trans hq)
   have:=blk_lt HBk.out
   omega
 have hR2 : Kd.R (Kd.int .u8) 5 w2 w0.heap.size (fun q=>q ≠ g) (.slice A1 (bs ++ xs).length c1) (bs ++ xs):=Kd.R_of_own (h1:=fun _=>rfl) HO2.out hok
 rw [List.length_append] at hR2
 refine bodyPost_end (v:=.tuple #[]) (by simp [results,Try.results40,go_sem]) rfl ⟨rfl,⟨_,blk_put HBk2.out 0 _ rfl,hg,Kd.R_far (p:=⟨g,0,none⟩) hR2 (fun q hq=>hq) _⟩,below_set HB2.out hg,(HK1.out.trans HK2.out).trans (KeepT.set HBk2.out)⟩
set_option maxHeartbeats 8000000 in
set_option maxRecDepth 100000 in
theorem writer_int_calls (k g : Nat) (bs : List Int) (n : Int) (xs : List Int) (e : Int) (w0 w : World) (hI : IsW w0 w g bs) (hB : Below w0.heap.size w0 w) (hE : K.wire_EncodeInt.f k n = some (xs,e)) (hl : bs.length + xs.length ≤ 140737488355328) :
  Calls Try.prog 42 #[.pointer (some ⟨g,0,none⟩),.int .i64 n] w fun r w'=>r = .returned (.tuple #[]) ∧ IsW w0 w' g (bs ++ xs) ∧ Below w0.heap.size w0 w' ∧ KeepT w w':=by
 have HI:=Aside0.mk hI
 have HB:=Aside0.mk hB
 clear hI hB
 go_enter Try.func42,Try.ntmps42
 go_wp2_with fail
 refine (K.wire_EncodeInt.calls k n xs e _ hE).mono ?_
 rintro e_ w1 ⟨v0,rfl,hR,hb1⟩
 have HR:=Aside0.mk hR
 have HB1:=Aside0.mk (below_step HB.out hb1)
 obtain ⟨v,hb,hg,hv⟩:=HI.out.below hb1
 have HK1:=Aside0.mk (KeepT.of_below hb1)
 clear hR hb1 HI
 have hc0 : w1.cell? ⟨g,0,none⟩ = some v:=(blk_cell hb 0).trans rfl
 have hf0:=blk_frozen hb 0
 have HBk:=Aside0.mk hb
 have HV:=Aside0.mk hv
 clear hb hv
 obtain ⟨A,c,hv0,hrd⟩:=own_reads (k:=.u8) (xs:=xs) (show w1.ownsRow w.heap.size 5 1 v0 xs.length (nums .u8 xs) from Kd.own_of_R HR.out)
 subst hv0
 have HRd:=Aside0.mk hrd
 have hs1 : w0.heap.size ≤ w1.heap.size:=HB1.out.size
 have hgv : some g ≠ v.ownBlock:=fun h=>HV.out.1 g h.symm rfl
 clear hrd
 go_wp2_with (at_builtin;refine print_append_row (w0:=w0) w0.heap.size rfl (.tmp 15) _ 46 5 .u8 1 rfl Try.underlying46 infoB (by decide) v bs xs A xs.length c rfl rfl (Kd.own_of_R HV.out) HRd.out HB1.out hs1 (by omega) ?_;intro v1 w2 ho hb2 hg2 hat;obtain ⟨A1,c1,hv1,_⟩:=own_reads ho;subst hv1;have hbk2:=blk_grown HBk.out hg2 hgv;have hc2 : w2.cell? ⟨g,0,none⟩ = some v:=(blk_cell hbk2 0).trans rfl;have hf2:=blk_frozen hbk2 0;have HBk2:=Aside0.mk hbk2;have HO2:=Aside0.mk ho;have HB2:=Aside0.mk hb2;have HAt:=Aside0.mk hat;have HK2:=Aside0.mk (KeepT.of_grown HV.out hg2);clear ho hb2 hg2 hat hbk2)
 have hok : ∀ q,(Value.slice A1 (bs ++ xs).length c1).ownBlock = some q → q ≠ g:=by
  intro q hq
  rcases HAt.out with h|⟨b,h,hb⟩
  ·exact HV.out.1 q (h ▸ hq)
  ·have : b = q:=Option.some.inj (h.symm.trans hq)
   have:=blk_lt HBk.out
   omega
 have hR2 : Kd.R (Kd.int .u8) 5 w2 w0.heap.size (fun q=>q ≠ g) (.slice A1 (bs ++ xs).length c1) (bs ++ xs):=Kd.R_of_own (h1:=fun _=>rfl) HO2.out hok
 rw [List.length_append] at hR2
 refine bodyPost_end (v:=.tuple #[]) (by simp [results,Try.results42,go_sem]) rfl ⟨rfl,⟨_,blk_put HBk2.out 0 _ rfl,hg,Kd.R_far (p:=⟨g,0,none⟩) hR2 (fun q hq=>hq) _⟩,below_set HB2.out hg,(HK1.out.trans HK2.out).trans (KeepT.set HBk2.out)⟩
def textsF (k : Nat) : List ByteArray → Option (List Int)
 | []=>some []
 | t :: ts=>(K.wire_EncodeText.f k t).bind fun r=>(textsF k ts).bind fun q=>some (r.1 ++ q)
set_option maxHeartbeats 8000000 in
set_option maxRecDepth 100000 in
theorem writer_text_calls (k g a c : Nat) (bs : List Int) (ts : List ByteArray) (out : List Int) (w0 w : World) (hI : IsW w0 w g bs) (hB : Below w0.heap.size w0 w) (ha : w.heap[a]? = some (.cells (ts.map Value.string).toArray 9 (0,0))) (hc : ts.length ≤ c) (hE : textsF k ts = some out) (hl : bs.length + out.length ≤ 140737488355328) (hn : ts.length < 4611686018427387904) :
  Calls Try.prog 41 #[.pointer (some ⟨g,0,none⟩),.slice (some ⟨a,0,none⟩) ts.length c] w fun r w'=>r = .returned (.tuple #[]) ∧ IsW w0 w' g (bs ++ out) ∧ Below w0.heap.size w0 w' ∧ KeepT w w':=by
 have HI:=Aside0.mk hI
 have HB:=Aside0.mk hB
 have HA:=Aside0.mk ha
 have HE:=Aside0.mk hE
 clear hI hB ha hE
 go_enter Try.func41,Try.ntmps41
 go_wp2
 go_loopg [10] ts.length (fun gk v10 wx=>∃ (x : Int) (bs1 rest : List Int),v10 = .int .i64 x ∧ 0 ≤ x ∧ x + gk = ts.length ∧ Aside0 (textsF k (ts.drop x.toNat) = some rest ∧ bs1 ++ rest = bs ++ out) ∧ Aside0 (IsW w0 wx g bs1) ∧ Aside0 (Below w0.heap.size w0 wx) ∧ Aside0 (KeepT w wx))
 case atStart=>exact ⟨0,bs,out,rfl,by omega,by omega,⟨by simpa using HE.out,rfl⟩,HI,HB,⟨KeepT.refl w⟩⟩
 case round =>
  obtain ⟨x,bs1,rest,rfl,h0,hj,HT,HI1,HB1,HK1⟩:=hrel
  cases gk with
  | zero =>
   have c1 : decide (x < (ts.length : Int)) = false:=decide_eq_false (by omega)
   obtain ⟨h1,h2⟩:=HT.out
   rw [List.drop_eq_nil_of_le (by omega)] at h1
   obtain rfl:=Option.some.inj h1
   rw [List.append_nil] at h2
   subst h2
   go_wp2
   exact bodyPost_end (v:=.tuple #[]) (by simp [results,Try.results41,go_sem]) rfl ⟨rfl,HI1.out,HB1.out,HK1.out⟩
  | succ gk =>
   have c1 : decide (x < (ts.length : Int)) = true:=decide_eq_true (by omega)
   have p4 : (0 ≤ x) = True:=eq_true (by omega)
   have q4 : (x < (ts.length : Int)) = True:=eq_true (by omega)
   obtain ⟨h1,h2⟩:=HT.out
   rw [List.drop_eq_getElem_cons (show x.toNat < ts.length by omega)] at h1
   have hget : ts[x.toNat]? = some ts[x.toNat]:=List.getElem?_eq_getElem (by omega)
   generalize ts[x.toNat] = t at *
   obtain ⟨⟨xs,e⟩,hE1,h1⟩:=Option.bind_eq_some_iff.1 h1
   obtain ⟨q,hq,h1⟩:=Option.bind_eq_some_iff.1 h1
   obtain rfl:=Option.some.inj h1
   have ha1:=HK1.out a _ _ _ HA.out (by decide) (by decide)
   have hcell : wr.cell? ⟨a,x.toNat,none⟩ = some (.string t):=by rw [blk_cell ha1];simp [hget]
   have hfa:=blk_frozen ha1 x.toNat
   have HE1:=Aside0.mk hE1
   have HQ:=Aside0.mk hq
   have H2:=Aside0.mk h2
   clear hE1 hq h2 HT ha1
   go_wp2_with fail
   refine (K.wire_EncodeText.calls k t xs e _ HE1.out).mono ?_
   rintro e_ w1 ⟨v0,rfl,hR,hb1⟩
   have HR:=Aside0.mk hR
   have HB2:=Aside0.mk (below_step HB1.out hb1)
   obtain ⟨v,hb,hg,hv⟩:=HI1.out.below hb1
   have HK2:=Aside0.mk (KeepT.of_below hb1)
   clear hR hb1 HI1
   have hc0 : w1.cell? ⟨g,0,none⟩ = some v:=(blk_cell hb 0).trans rfl
   have hf0:=blk_frozen hb 0
   have HBk:=Aside0.mk hb
   have HV:=Aside0.mk hv
   clear hb hv
   obtain ⟨A,c0,hv0,hrd⟩:=own_reads (k:=.u8) (xs:=xs) (show w1.ownsRow wr.heap.size 5 1 v0 xs.length (nums .u8 xs) from Kd.own_of_R HR.out)
   subst hv0
   have HRd:=Aside0.mk hrd
   have hs1 : w0.heap.size ≤ w1.heap.size:=HB2.out.size
   have hgv : some g ≠ v.ownBlock:=fun h=>HV.out.1 g h.symm rfl
   have hlen:=congrArg List.length H2.out
   simp only [List.length_append] at hlen
   clear hrd
   go_wp2_with (at_builtin;refine print_append_row (w0:=w0) w0.heap.size rfl (.tmp 23) _ 46 5 .u8 1 rfl Try.underlying46 infoB (by decide) v bs1 xs A xs.length c0 rfl rfl (Kd.own_of_R HV.out) HRd.out HB2.out hs1 (by omega) ?_;intro v1 w2 ho hb2 hg2 hat;obtain ⟨A1,c1_,hv1,_⟩:=own_reads ho;subst hv1;have hbk2:=blk_grown HBk.out hg2 hgv;have hc2 : w2.cell? ⟨g,0,none⟩ = some v:=(blk_cell hbk2 0).trans rfl;have hf2:=blk_frozen hbk2 0;have HBk2:=Aside0.mk hbk2;have HO2:=Aside0.mk ho;have HB3:=Aside0.mk hb2;have HAt:=Aside0.mk hat;have HK3:=Aside0.mk (KeepT.of_grown HV.out hg2);clear ho hb2 hg2 hat hbk2)
   have hok : ∀ q,(Value.slice A1 (bs1 ++ xs).length c1_).ownBlock = some q → q ≠ g:=by
    intro q hq
    rcases HAt.out with h|⟨b,h,hb⟩
    ·exact HV.out.1 q (h ▸ hq)
    ·have : b = q:=Option.some.inj (h.symm.trans hq)
     have:=blk_lt HBk.out
     omega
   have hR2 : Kd.R (Kd.int .u8) 5 w2 w0.heap.size (fun q=>q ≠ g) (.slice A1 (bs1 ++ xs).length c1_) (bs1 ++ xs):=Kd.R_of_own (h1:=fun _=>rfl) HO2.out hok
   rw [List.length_append] at hR2
   have hw : wrap64 (x + 1) = x + 1:=by unfold wrap64;omega
   go_roundg gk
   case measure=>omega
   case rel =>
    refine ⟨x + 1,bs1 ++ xs,q,by first|rfl|rw [hw],by omega,by omega,⟨?_,?_⟩,⟨⟨_,blk_put HBk2.out 0 _ rfl,hg,Kd.R_far (p:=⟨g,0,none⟩) hR2 (fun q hq=>hq) _⟩⟩,⟨below_set HB3.out hg⟩,⟨((HK1.out.trans HK2.out).trans HK3.out).trans (KeepT.set HBk2.out)⟩⟩
    ·rw [show (x + 1).toNat = x.toNat + 1 by omega];exact HQ.out
    ·rw [List.append_assoc];exact H2.out
end Go.Proofs.Ytepnddmalheoiaa.H
namespace Go.Proofs.Ytepnddmalheoiaa.Q
open Go.Proofs.Ytepnddmalheoiaa.H
open Go.RowKit Go.Proofs.YtepnddmalheoiaaW.PrintWords Go.Proofs.YtepnddmalheoiaaW.PrintLast Go.Proofs.YtepnddmalheoiaaW.PrintMore
set_option linter.unusedVariables false
set_option linter.unusedSimpArgs false
def shiftsF (k : Nat) : List S44 → Option (List Int)
 | []=>some []
 | s :: t=>(K.wire_EncodeUint.f k s.f0).bind fun a=>(K.wire_EncodeInt.f k s.f1).bind fun b=>(shiftsF k t).bind fun r=>some (a.1 ++ (b.1 ++ r))
def zonesF (k : Nat) : List S42 → Option (List Int)
 | []=>some []
 | z :: t=>(textsF k [z.f0]).bind fun a=>(K.wire_EncodeInt.f k z.f1).bind fun b=>(K.wire_EncodeUint.f k (z.f2.length : Int)).bind fun c=>(shiftsF k z.f2).bind fun d=>(zonesF k t).bind fun r=>some (a ++ (b.1 ++ (c.1 ++ (d ++ r))))
def portsF (k : Nat) : List S39 → Option (List Int)
 | []=>some []
 | p :: t=>(textsF k [p.f0,p.f1]).bind fun a=>(portsF k t).bind fun r=>some (a ++ r)
def uintsF (k : Nat) : List Int → Option (List Int)
 | []=>some []
 | n :: t=>(K.wire_EncodeUint.f k n).bind fun a=>(uintsF k t).bind fun r=>some (a.1 ++ r)
def flightsF (k : Nat) : List S36 → Option (List Int)
 | []=>some []
 | f :: t=>(textsF k [f.f0,f.f1,f.f2]).bind fun a=>(K.wire_EncodeUint.f k f.f3).bind fun b=>(K.wire_EncodeUint.f k f.f4).bind fun c=>(textsF k [f.f5]).bind fun d=>(uintsF k [f.f6.f0,f.f6.f1,f.f6.f2]).bind fun e=>(flightsF k t).bind fun r=>some (a ++ (b.1 ++ (c.1 ++ (d ++ (e ++ r)))))
def bodyF (k : Nat) (zs : List S42) (ps : List S39) (fs : List S36) : Option (List Int) :=
 (K.wire_EncodeUint.f k (zs.length : Int)).bind fun a=>(zonesF k zs).bind fun b=>(K.wire_EncodeUint.f k (ps.length : Int)).bind fun c=>(portsF k ps).bind fun d=>(K.wire_EncodeUint.f k (fs.length : Int)).bind fun e=>(flightsF k fs).bind fun f=>some (a.1 ++ (b ++ (c.1 ++ (d ++ (e.1 ++ f)))))
def timetable_Encode.f (k : Nat) (zs : List S42) (ps : List S39) (fs : List S36) : Option (List Int × Int) :=
 (timetable_Validate.f k zs ps fs).bind fun e=>if e = 0 then (bodyF k zs ps fs).bind fun b=>if b.length ≤ 140737488355328 then (if b.length > 1048576 then some ([],10) else K.wire_Frame.f k 1 b) else none else some ([],e)
theorem heap_two (w : World) (o1 o2 : Obj) : ((w.alloc o1).alloc o2).heap[w.heap.size + 1]? = some o2:=by
 have h:=heap_alloc_new (w.alloc o1) o2
 simpa using h
structure Pt (w W : World) (g : Nat) (T : Array Value) (bs : List Int) : Prop where
 wr : IsW w W g bs
 be : Below w.heap.size w W
 tt : W.heap[w.heap.size]? = some (.cells T 26 (0,0))
theorem Pt.alloc {w W : World} {g : Nat} {T : Array Value} {bs : List Int} (h : Pt w W g T bs) (o : Obj) : Pt w (W.alloc o) g T bs :=
 ⟨h.wr.below (below_alloc (Below.refl _ _) o),below_alloc h.be o,blk_alloc h.tt o⟩
theorem Pt.step {w W W1 : World} {g : Nat} {T : Array Value} {bs bs1 : List Int} (h : Pt w W g T bs) (h1 : IsW w W1 g bs1 ∧ Below w.heap.size w W1 ∧ KeepT W W1) : Pt w W1 g T bs1 :=
 ⟨h1.1,h1.2.1,h1.2.2 _ _ _ _ h.tt (by decide) (by decide)⟩
set_option maxHeartbeats 8000000 in
set_option maxRecDepth 100000 in
theorem timetable_Encode.calls (k : Nat) (A0_0 : Option Addr) (c0_0 : Nat) (l0_0 : List S42) (A0_1 : Option Addr) (c0_1 : Nat) (l0_1 : List S39) (A0_2 : Option Addr) (c0_2 : Nat) (l0_2 : List S36) (r1 : List Int) (r2 : Int) (w : World) (hr0_0 : Kd.C k42 w A0_0 l0_0.length l0_0) (hc0_0 : l0_0.length ≤ c0_0) (hr0_1 : Kd.C k39 w A0_1 l0_1.length l0_1) (hc0_1 : l0_1.length ≤ c0_1) (hr0_2 : Kd.C k36 w A0_2 l0_2.length l0_2) (hc0_2 : l0_2.length ≤ c0_2) (h : timetable_Encode.f k l0_0 l0_1 l0_2 = some (r1,r2)) :
  Calls Try.prog 14 #[.agg #[.slice A0_0 l0_0.length c0_0,.slice A0_1 l0_1.length c0_1,.slice A0_2 l0_2.length c0_2]] w fun e w'=>∃ v0_ : Value,e = .returned (.tuple #[v0_,.int .i64 r2]) ∧ Kd.R (Kd.int .u8) 5 w' w.heap.size (fun _=>True) v0_ r1 ∧ Below w.heap.size w w':=by
 have HR0:=Aside0.mk hr0_0
 have HR1:=Aside0.mk hr0_1
 have HR2:=Aside0.mk hr0_2
 have HC0:=Aside0.mk hc0_0
 have HC1:=Aside0.mk hc0_1
 have HC2:=Aside0.mk hc0_2
 have hu26:=Try.underlying26
 have L0:=Aside0.mk hr0_0.2.1
 have L1:=Aside0.mk hr0_1.2.1
 have L2:=Aside0.mk hr0_2.2.1
 unfold timetable_Encode.f at h
 obtain ⟨e,hV,h⟩:=Option.bind_eq_some_iff.1 h
 have HV:=Aside0.mk hV
 have HH:=Aside0.mk h
 clear hr0_0 hr0_1 hr0_2 hc0_0 hc0_1 hc0_2 h hV
 go_enter Try.func14,Try.ntmps14
 go_wp2_with fail
 refine (timetable_Validate.calls k _ _ l0_0 _ _ l0_1 _ _ l0_2 e _ (Kd.C_alloc HR0.out _) HC0.out (Kd.C_alloc HR1.out _) HC1.out (Kd.C_alloc HR2.out _) HC2.out HV.out).mono ?_
 rintro e_ w1 ⟨rfl,hb1⟩
 have HB1:=Aside0.mk (below_step (below_alloc (Below.refl w.heap.size w) _) hb1)
 have HBK:=Aside0.mk (blk_below (heap_alloc_new w _) hb1)
 clear hb1
 have H:=HH.out
 by_cases he : e = 0
 ·have c1 : (e != 0) = false:=bne_eq_false_iff_eq.mpr he
  rw [if_pos he] at H
  obtain ⟨b,hbody,H⟩:=Option.bind_eq_some_iff.1 H
  have hlen : b.length ≤ 140737488355328:=by
   by_cases hq : b.length ≤ 140737488355328
   ·exact hq
   ·rw [if_neg hq] at H;cases H
  rw [if_pos hlen] at H
  unfold bodyF at hbody
  obtain ⟨⟨n1,e1⟩,hn1,hbody⟩:=Option.bind_eq_some_iff.1 hbody
  obtain ⟨zb,hzb,hbody⟩:=Option.bind_eq_some_iff.1 hbody
  obtain ⟨⟨n2,e2⟩,hn2,hbody⟩:=Option.bind_eq_some_iff.1 hbody
  obtain ⟨pb,hpb,hbody⟩:=Option.bind_eq_some_iff.1 hbody
  obtain ⟨⟨n3,e3⟩,hn3,hbody⟩:=Option.bind_eq_some_iff.1 hbody
  obtain ⟨fb,hfb,hbody⟩:=Option.bind_eq_some_iff.1 hbody
  have hbody:=Option.some.inj hbody
  simp only at hbody
  subst hbody
  simp only [List.length_append] at hlen
  have HLEN:=Aside0.mk hlen
  have HZ:=Aside0.mk hzb
  have HP:=Aside0.mk hpb
  have HF:=Aside0.mk hfb
  have HN1:=Aside0.mk hn1
  have HN2:=Aside0.mk hn2
  have HN3:=Aside0.mk hn3
  have HE:=Aside0.mk H
  clear hzb hpb hfb hn1 hn2 hn3 hlen H HH he
  obtain ⟨T,hT⟩ : ∃ T : Array Value,T = #[.slice A0_0 l0_0.length c0_0,.slice A0_1 l0_1.length c0_1,.slice A0_2 l0_2.length c0_2]:=⟨_,rfl⟩
  have HPt:=Aside0.mk (show Pt w (w1.alloc (.cells #[.slice none 0 0] 79 (0,0))) w1.heap.size #[.slice A0_0 l0_0.length c0_0,.slice A0_1 l0_1.length c0_1,.slice A0_2 l0_2.length c0_2] [] from
   ⟨⟨_,heap_alloc_new _ _,HB1.out.size,Kd.R_nil _ _ _ _ _⟩,below_alloc HB1.out _,blk_alloc HBK.out _⟩)
  have ha0:=(blk_cell HPt.out.tt 0).trans rfl
  have ha1:=(blk_cell HPt.out.tt 1).trans rfl
  have ha2:=(blk_cell HPt.out.tt 2).trans rfl
  go_wp2_with fail
  refine (writer_uint_calls k w1.heap.size [] _ n1 e1 w _ HPt.out.wr HPt.out.be HN1.out (by have:=HLEN.out;simp;omega)).mono ?_
  rintro e_ w2 ⟨rfl,h2⟩
  have HPt2:=Aside0.mk (HPt.out.step h2)
  have ha0:=(blk_cell HPt2.out.tt 0).trans rfl
  have ha1:=(blk_cell HPt2.out.tt 1).trans rfl
  have ha2:=(blk_cell HPt2.out.tt 2).trans rfl
  clear h2 HPt
  go_wp2
  go_loopg [31] l0_0.length (fun gk v31 wx=>∃ (x : Int) (bs1 rest : List Int),v31 = .int .i64 x ∧ 0 ≤ x ∧ x + gk = l0_0.length ∧ Aside0 (zonesF k (l0_0.drop x.toNat) = some rest ∧ bs1 ++ rest = n1 ++ zb) ∧ Aside0 (Pt w wx w1.heap.size #[.slice A0_0 l0_0.length c0_0,.slice A0_1 l0_1.length c0_1,.slice A0_2 l0_2.length c0_2] bs1))
  case atStart=>exact ⟨0,n1,zb,rfl,by omega,by omega,⟨by simpa using HZ.out,rfl⟩,⟨by simpa using HPt2.out⟩⟩
  case round =>
   obtain ⟨x,bs1,rest,rfl,h0,hj,HT,HPt⟩:=hrel
   cases gk with
   | zero =>
    have c1 : decide (x < (l0_0.length : Int)) = false:=decide_eq_false (by omega)
    obtain ⟨h1,h2⟩:=HT.out
    rw [List.drop_eq_nil_of_le (by omega)] at h1
    obtain rfl:=Option.some.inj h1
    rw [List.append_nil] at h2
    subst h2
    have ha0:=(blk_cell HPt.out.tt 0).trans rfl
    have ha1:=(blk_cell HPt.out.tt 1).trans rfl
    have ha2:=(blk_cell HPt.out.tt 2).trans rfl
    go_wp2_with fail
    refine (writer_uint_calls k w1.heap.size (n1 ++ zb) _ n2 e2 w _ HPt.out.wr HPt.out.be HN2.out (by have:=HLEN.out;simp at this ⊢;omega)).mono ?_
    rintro e_ w3 ⟨rfl,h8⟩
    have HPq:=Aside0.mk (HPt.out.step h8)
    clear h8 HPt
    have ha0:=(blk_cell HPq.out.tt 0).trans rfl
    have ha1:=(blk_cell HPq.out.tt 1).trans rfl
    have ha2:=(blk_cell HPq.out.tt 2).trans rfl
    go_wp2
    go_loopg [74] l0_1.length (fun gk v74 wx=>∃ (x : Int) (bs1 rest : List Int),v74 = .int .i64 x ∧ 0 ≤ x ∧ x + gk = l0_1.length ∧ Aside0 (portsF k (l0_1.drop x.toNat) = some rest ∧ bs1 ++ rest = n1 ++ zb ++ n2 ++ pb) ∧ Aside0 (Pt w wx w1.heap.size #[.slice A0_0 l0_0.length c0_0,.slice A0_1 l0_1.length c0_1,.slice A0_2 l0_2.length c0_2] bs1))
    case atStart=>exact ⟨0,n1 ++ zb ++ n2,pb,rfl,by omega,by omega,⟨by simpa using HP.out,rfl⟩,⟨HPq.out⟩⟩
    case round =>
     obtain ⟨x,bs1,rest,rfl,h0,hj,HT,HPt⟩:=hrel
     cases gk with
     | zero =>
      have c1 : decide (x < (l0_1.length : Int)) = false:=decide_eq_false (by omega)
      obtain ⟨h1,h2⟩:=HT.out
      rw [List.drop_eq_nil_of_le (by omega)] at h1
      obtain rfl:=Option.some.inj h1
      rw [List.append_nil] at h2
      subst h2
      have ha0:=(blk_cell HPt.out.tt 0).trans rfl
      have ha1:=(blk_cell HPt.out.tt 1).trans rfl
      have ha2:=(blk_cell HPt.out.tt 2).trans rfl
      go_wp2_with fail
      refine (writer_uint_calls k w1.heap.size (n1 ++ zb ++ n2 ++ pb) _ n3 e3 w _ HPt.out.wr HPt.out.be HN3.out (by have:=HLEN.out;simp at this ⊢;omega)).mono ?_
      rintro e_ w4 ⟨rfl,h8⟩
      have HPr:=Aside0.mk (HPt.out.step h8)
      clear h8 HPt
      have ha0:=(blk_cell HPr.out.tt 0).trans rfl
      have ha1:=(blk_cell HPr.out.tt 1).trans rfl
      have ha2:=(blk_cell HPr.out.tt 2).trans rfl
      go_wp2
      go_loopg [94] l0_2.length (fun gk v94 wx=>∃ (x : Int) (bs1 rest : List Int),v94 = .int .i64 x ∧ 0 ≤ x ∧ x + gk = l0_2.length ∧ Aside0 (flightsF k (l0_2.drop x.toNat) = some rest ∧ bs1 ++ rest = n1 ++ zb ++ n2 ++ pb ++ n3 ++ fb) ∧ Aside0 (Pt w wx w1.heap.size #[.slice A0_0 l0_0.length c0_0,.slice A0_1 l0_1.length c0_1,.slice A0_2 l0_2.length c0_2] bs1))
      case atStart=>exact ⟨0,n1 ++ zb ++ n2 ++ pb ++ n3,fb,rfl,by omega,by omega,⟨by simpa using HF.out,rfl⟩,⟨HPr.out⟩⟩
      case round =>
       obtain ⟨x,bs1,rest,rfl,h0,hj,HT,HPt⟩:=hrel
       cases gk with
       | zero =>
        have c1 : decide (x < (l0_2.length : Int)) = false:=decide_eq_false (by omega)
        obtain ⟨h1,h2⟩:=HT.out
        rw [List.drop_eq_nil_of_le (by omega)] at h1
        obtain rfl:=Option.some.inj h1
        rw [List.append_nil] at h2
        subst h2
        obtain ⟨v,hvb,hvg,hvr⟩:=HPt.out.wr
        obtain ⟨Av,cv,rfl,hlv,hCv⟩:=Kd.R_reads hvr
        have hv0:=(blk_cell hvb 0).trans rfl
        have HCv:=Aside0.mk hCv
        have HLv:=Aside0.mk hlv
        clear hvb hvr hCv hlv
        have H:=HE.out
        have hb : n1 ++ (zb ++ (n2 ++ (pb ++ (n3 ++ fb)))) = n1 ++ zb ++ n2 ++ pb ++ n3 ++ fb:=by simp only [List.append_assoc]
        rw [hb] at H
        clear hb HE
        generalize n1 ++ zb ++ n2 ++ pb ++ n3 ++ fb = b at *
        by_cases hbig : b.length > 1048576
        ·have d1 : decide ((b.length : Int) > 1048576) = true:=decide_eq_true (by omega)
         have d2 : decide (1048576 < (b.length : Int)) = true:=decide_eq_true (by omega)
         have d3 : decide (1048576 < b.length) = true:=decide_eq_true (by omega)
         rw [if_pos hbig] at H
         obtain ⟨rfl,rfl⟩ : r1 = [] ∧ r2 = 10:=by simpa [eq_comm] using H
         go_wp2
         exact bodyPost_ret (v:=.tuple #[.slice none 0 0,.int .i64 10]) (by simp [results,Try.results14,go_sem]) rfl ⟨_,rfl,Kd.R_nil _ _ _ _ _,HPt.out.be⟩
        ·have d1 : decide ((b.length : Int) > 1048576) = false:=decide_eq_false (by omega)
         have d2 : decide (1048576 < (b.length : Int)) = false:=decide_eq_false (by omega)
         have d3 : decide (1048576 < b.length) = false:=decide_eq_false (by omega)
         rw [if_neg hbig] at H
         have HE:=Aside0.mk H
         clear H
         go_wp2_with fail
         refine (K.wire_Frame.calls k 1 _ _ b r1 r2 _ HCv.out HLv.out HE.out).mono ?_
         rintro e_ w5 ⟨vf,rfl,hR,hb5⟩
         have HR5:=Aside0.mk hR
         have HB5:=Aside0.mk hb5
         clear hR hb5
         go_wp2
         exact bodyPost_ret (v:=.tuple #[vf,.int .i64 r2]) (by simp [results,Try.results14,go_sem]) rfl ⟨_,rfl,Kd.R_lower HR5.out HPt.out.be.size,below_step HPt.out.be HB5.out⟩
       | succ gk =>
        have c1 : decide (x < (l0_2.length : Int)) = true:=decide_eq_true (by omega)
        have p4 : (0 ≤ x) = True:=eq_true (by omega)
        have q4 : (x < (l0_2.length : Int)) = True:=eq_true (by omega)
        obtain ⟨h1,h2⟩:=HT.out
        rw [List.drop_eq_getElem_cons (show x.toNat < l0_2.length by omega)] at h1
        have hget : l0_2[x.toNat] = rd_T36 l0_2 x:=by simp [rd_T36,List.getD_eq_getElem?_getD,show x.toNat < l0_2.length by omega]
        rw [hget] at h1
        obtain ⟨ad,e0,hx0,hx1,hx2,hx3,hx4,hx5,hx6,hx7,hx8⟩:=at_T36 HR2.out x h0 (by omega)
        generalize rd_T36 l0_2 x = f at *
        cases e0
        replace hx0:=(HPt.out.be.cell (World.block_lt_of_cell? w _ hx0)).trans hx0
        replace hx1:=(HPt.out.be.cell (World.block_lt_of_cell? w _ hx1)).trans hx1
        replace hx2:=(HPt.out.be.cell (World.block_lt_of_cell? w _ hx2)).trans hx2
        replace hx3:=(HPt.out.be.cell (World.block_lt_of_cell? w _ hx3)).trans hx3
        replace hx4:=(HPt.out.be.cell (World.block_lt_of_cell? w _ hx4)).trans hx4
        replace hx5:=(HPt.out.be.cell (World.block_lt_of_cell? w _ hx5)).trans hx5
        replace hx6:=(HPt.out.be.cell (World.block_lt_of_cell? w _ hx6)).trans hx6
        replace hx7:=(HPt.out.be.cell (World.block_lt_of_cell? w _ hx7)).trans hx7
        replace hx8:=(HPt.out.be.cell (World.block_lt_of_cell? w _ hx8)).trans hx8
        obtain ⟨ta,h3,h1⟩:=Option.bind_eq_some_iff.1 h1
        obtain ⟨⟨tb,e4⟩,h4,h1⟩:=Option.bind_eq_some_iff.1 h1
        obtain ⟨⟨tc,e5⟩,h5,h1⟩:=Option.bind_eq_some_iff.1 h1
        obtain ⟨td,h6,h1⟩:=Option.bind_eq_some_iff.1 h1
        obtain ⟨te,h9,h1⟩:=Option.bind_eq_some_iff.1 h1
        obtain ⟨q,h7,h1⟩:=Option.bind_eq_some_iff.1 h1
        obtain rfl:=Option.some.inj h1
        have hL:=congrArg List.length h2
        simp only [List.length_append] at hL
        have H2:=Aside0.mk h2
        have H3:=Aside0.mk h3
        have H4:=Aside0.mk h4
        have H5:=Aside0.mk h5
        have H6:=Aside0.mk h6
        have H9:=Aside0.mk h9
        have H7:=Aside0.mk h7
        have HLB:=Aside0.mk hL
        clear hL h2 h3 h4 h5 h6 h7 h9 h1 hget HT
        have HPa:=Aside0.mk ((HPt.out.alloc (.cells #[.string f.f0,.string f.f1,.string f.f2,.int .i64 f.f3,.int .i64 f.f4,.string f.f5,.int .i64 f.f6.f0,.int .i64 f.f6.f1,.int .i64 f.f6.f2] 36 (0,0))).alloc (.cells #[.string f.f0,.string f.f1,.string f.f2] 9 (0,0)))
        have HZb:=Aside0.mk (blk_alloc (heap_alloc_new wr (.cells #[.string f.f0,.string f.f1,.string f.f2,.int .i64 f.f3,.int .i64 f.f4,.string f.f5,.int .i64 f.f6.f0,.int .i64 f.f6.f1,.int .i64 f.f6.f2] 36 (0,0))) (.cells #[.string f.f0,.string f.f1,.string f.f2] 9 (0,0)))
        go_wp2_with fail
        refine (writer_text_calls k w1.heap.size (wr.heap.size + 1) 3 bs1 [f.f0,f.f1,f.f2] ta w _ HPa.out.wr HPa.out.be (heap_two _ _ _) (by simp) H3.out (by have:=HLEN.out;have:=HLB.out;simp at this ⊢;omega) (by simp)).mono ?_
        rintro e_ w5 ⟨rfl,h8⟩
        have HPb:=Aside0.mk (HPa.out.step h8)
        have HZ3:=Aside0.mk (h8.2.2 _ _ _ _ HZb.out (by decide) (by decide))
        clear h8 HPa HZb HPt
        have hz0:=(blk_cell HZ3.out 0).trans rfl
        have hz1:=(blk_cell HZ3.out 1).trans rfl
        have hz2:=(blk_cell HZ3.out 2).trans rfl
        have hz3:=(blk_cell HZ3.out 3).trans rfl
        have hz4:=(blk_cell HZ3.out 4).trans rfl
        have hz5:=(blk_cell HZ3.out 5).trans rfl
        have hz6:=(blk_cell HZ3.out 6).trans rfl
        have hz7:=(blk_cell HZ3.out 7).trans rfl
        have hz8:=(blk_cell HZ3.out 8).trans rfl
        go_wp2_with fail
        refine (writer_uint_calls k w1.heap.size (bs1 ++ ta) _ tb e4 w _ HPb.out.wr HPb.out.be H4.out (by have:=HLEN.out;have:=HLB.out;simp at this ⊢;omega)).mono ?_
        rintro e_ w6 ⟨rfl,h8⟩
        have HPc:=Aside0.mk (HPb.out.step h8)
        have HZ4:=Aside0.mk (h8.2.2 _ _ _ _ HZ3.out (by decide) (by decide))
        clear h8 HPb HZ3
        have hz0:=(blk_cell HZ4.out 0).trans rfl
        have hz1:=(blk_cell HZ4.out 1).trans rfl
        have hz2:=(blk_cell HZ4.out 2).trans rfl
        have hz3:=(blk_cell HZ4.out 3).trans rfl
        have hz4:=(blk_cell HZ4.out 4).trans rfl
        have hz5:=(blk_cell HZ4.out 5).trans rfl
        have hz6:=(blk_cell HZ4.out 6).trans rfl
        have hz7:=(blk_cell HZ4.out 7).trans rfl
        have hz8:=(blk_cell HZ4.out 8).trans rfl
        go_wp2_with fail
        refine (writer_uint_calls k w1.heap.size (bs1 ++ ta ++ tb) _ tc e5 w _ HPc.out.wr HPc.out.be H5.out (by have:=HLEN.out;have:=HLB.out;simp at this ⊢;omega)).mono ?_
        rintro e_ w7 ⟨rfl,h8⟩
        have HPd:=Aside0.mk (HPc.out.step h8)
        have HZ5:=Aside0.mk (h8.2.2 _ _ _ _ HZ4.out (by decide) (by decide))
        clear h8 HPc HZ4
        have hz0:=(blk_cell HZ5.out 0).trans rfl
        have hz1:=(blk_cell HZ5.out 1).trans rfl
        have hz2:=(blk_cell HZ5.out 2).trans rfl
        have hz3:=(blk_cell HZ5.out 3).trans rfl
        have hz4:=(blk_cell HZ5.out 4).trans rfl
        have hz5:=(blk_cell HZ5.out 5).trans rfl
        have hz6:=(blk_cell HZ5.out 6).trans rfl
        have hz7:=(blk_cell HZ5.out 7).trans rfl
        have hz8:=(blk_cell HZ5.out 8).trans rfl
        have HPe:=Aside0.mk (HPd.out.alloc (.cells #[.string f.f5] 9 (0,0)))
        have HZ6:=Aside0.mk (blk_alloc HZ5.out (.cells #[.string f.f5] 9 (0,0)))
        go_wp2_with fail
        refine (writer_text_calls k w1.heap.size w7.heap.size 1 (bs1 ++ ta ++ tb ++ tc) [f.f5] td w _ HPe.out.wr HPe.out.be (heap_alloc_new _ _) (by simp) H6.out (by have:=HLEN.out;have:=HLB.out;simp at this ⊢;omega) (by simp)).mono ?_
        rintro e_ w8 ⟨rfl,h8⟩
        have HPf:=Aside0.mk (HPe.out.step h8)
        have HZ7:=Aside0.mk (h8.2.2 _ _ _ _ HZ6.out (by decide) (by decide))
        clear h8 HPd HPe HZ5 HZ6
        have hz0:=(blk_cell HZ7.out 0).trans rfl
        have hz1:=(blk_cell HZ7.out 1).trans rfl
        have hz2:=(blk_cell HZ7.out 2).trans rfl
        have hz3:=(blk_cell HZ7.out 3).trans rfl
        have hz4:=(blk_cell HZ7.out 4).trans rfl
        have hz5:=(blk_cell HZ7.out 5).trans rfl
        have hz6:=(blk_cell HZ7.out 6).trans rfl
        have hz7:=(blk_cell HZ7.out 7).trans rfl
        have hz8:=(blk_cell HZ7.out 8).trans rfl
        obtain ⟨wo,rfl⟩ : ∃ wo : World,wo = wr:=⟨_,rfl⟩
        obtain ⟨gj,rfl⟩ : ∃ gj : Nat,gj = gk:=⟨_,rfl⟩
        obtain ⟨ns,hns⟩ : ∃ ns : List Int,ns = [f.f6.f0,f.f6.f1,f.f6.f2]:=⟨_,rfl⟩
        have hn3 : ns.length = 3:=by rw [hns];rfl
        rw [← hns] at H9
        go_wp2
        go_loopg [122] 3 (fun gk v122 wx=>∃ (y : Int) (bs2 r2 : List Int),v122 = .int .i64 y ∧ 0 ≤ y ∧ y + gk = 3 ∧ Aside0 (uintsF k (ns.drop y.toNat) = some r2 ∧ bs2 ++ r2 = bs1 ++ ta ++ tb ++ tc ++ td ++ te) ∧ Aside0 (Pt w wx w1.heap.size #[.slice A0_0 l0_0.length c0_0,.slice A0_1 l0_1.length c0_1,.slice (some ad) l0_2.length c0_2] bs2))
        case atStart=>exact ⟨0,bs1 ++ ta ++ tb ++ tc ++ td,te,rfl,by omega,by omega,⟨by simpa using H9.out,rfl⟩,HPf⟩
        case round =>
         obtain ⟨y,bs2,r2,rfl,h10,hj2,HT2,HPg⟩:=hrel
         cases gk with
         | zero =>
          have c2 : decide (y < 3) = false:=decide_eq_false (by omega)
          obtain ⟨h1,h2⟩:=HT2.out
          rw [List.drop_eq_nil_of_le (by omega)] at h1
          obtain rfl:=Option.some.inj h1
          rw [List.append_nil] at h2
          subst h2
          have hw : wrap64 (x + 1) = x + 1:=by unfold wrap64;have:=L2.out;omega
          go_wp2
          go_roundg gj
          case measure=>omega
          case rel =>
           refine ⟨x + 1,_,q,by first|rfl|rw [hw],by omega,by omega,⟨?_,?_⟩,HPg⟩
           ·rw [show (x + 1).toNat = x.toNat + 1 by omega];exact H7.out
           ·have:=H2.out;simp only [List.append_assoc] at this ⊢;exact this
         | succ gk =>
          have c2 : decide (y < 3) = true:=decide_eq_true (by omega)
          obtain ⟨h1,h2⟩:=HT2.out
          rw [List.drop_eq_getElem_cons (show y.toNat < ns.length by omega)] at h1
          have hget : ns[y.toNat] = rd ns y:=by simp [rd,List.getD_eq_getElem?_getD,show y.toNat < ns.length by omega]
          rw [hget] at h1
          have hai:=fun (W_ : World)=>ar_run (P:=Try.prog) Try.underlying34 Try.underlying3 (by kernel_rfl) ns y hn3 h10 (by omega) W_
          rw [hns] at hai
          simp only [List.map_cons,List.map_nil] at hai
          rw [← hns] at hai
          generalize rd ns y = n0 at *
          obtain ⟨⟨sa,e6⟩,h3,h1⟩:=Option.bind_eq_some_iff.1 h1
          obtain ⟨q2,h7,h1⟩:=Option.bind_eq_some_iff.1 h1
          obtain rfl:=Option.some.inj h1
          have hL2:=congrArg List.length h2
          simp only [List.length_append] at hL2
          have HL2:=Aside0.mk hL2
          have H22:=Aside0.mk h2
          have H23:=Aside0.mk h3
          have H27:=Aside0.mk h7
          clear hL2 h2 h3 h7 h1 hget HT2
          go_wp2_with fail
          refine (writer_uint_calls k w1.heap.size bs2 _ sa e6 w _ HPg.out.wr HPg.out.be H23.out (by have:=HLB.out;have:=HL2.out;have:=HLEN.out;simp at this ⊢;omega)).mono ?_
          rintro e_ w9 ⟨rfl,h8⟩
          have HPh:=Aside0.mk (HPg.out.step h8)
          clear h8 HPg
          have hw : wrap64 (y + 1) = y + 1:=by unfold wrap64;omega
          go_wp2
          go_roundg gk
          case measure=>omega
          case rel =>
           refine ⟨y + 1,_,q2,by first|rfl|rw [hw],by omega,by omega,⟨?_,?_⟩,HPh⟩
           ·rw [show (y + 1).toNat = y.toNat + 1 by omega];exact H27.out
           ·have:=H22.out;simp only [List.append_assoc] at this ⊢;exact this
     | succ gk =>
      have c1 : decide (x < (l0_1.length : Int)) = true:=decide_eq_true (by omega)
      have p4 : (0 ≤ x) = True:=eq_true (by omega)
      have q4 : (x < (l0_1.length : Int)) = True:=eq_true (by omega)
      obtain ⟨h1,h2⟩:=HT.out
      rw [List.drop_eq_getElem_cons (show x.toNat < l0_1.length by omega)] at h1
      have hget : l0_1[x.toNat] = rd_T39 l0_1 x:=by simp [rd_T39,List.getD_eq_getElem?_getD,show x.toNat < l0_1.length by omega]
      rw [hget] at h1
      obtain ⟨ad,e0,hx0,hx1⟩:=at_T39 HR1.out x h0 (by omega)
      generalize rd_T39 l0_1 x = a at *
      cases e0
      replace hx0:=(HPt.out.be.cell (World.block_lt_of_cell? w _ hx0)).trans hx0
      replace hx1:=(HPt.out.be.cell (World.block_lt_of_cell? w _ hx1)).trans hx1
      obtain ⟨ta,h3,h1⟩:=Option.bind_eq_some_iff.1 h1
      obtain ⟨q,h7,h1⟩:=Option.bind_eq_some_iff.1 h1
      obtain rfl:=Option.some.inj h1
      have hL:=congrArg List.length h2
      simp only [List.length_append] at hL
      have H2:=Aside0.mk h2
      have H3:=Aside0.mk h3
      have H7:=Aside0.mk h7
      have HLB:=Aside0.mk hL
      clear hL h2 h3 h7 h1 hget HT
      have HPa:=Aside0.mk ((HPt.out.alloc (.cells #[.string a.f0,.string a.f1] 39 (0,0))).alloc (.cells #[.string a.f0,.string a.f1] 9 (0,0)))
      go_wp2_with fail
      refine (writer_text_calls k w1.heap.size (wr.heap.size + 1) 2 bs1 [a.f0,a.f1] ta w _ HPa.out.wr HPa.out.be (heap_two _ _ _) (by simp) H3.out (by have:=HLEN.out;have:=HLB.out;simp at this ⊢;omega) (by simp)).mono ?_
      rintro e_ w4 ⟨rfl,h8⟩
      have HPb:=Aside0.mk (HPa.out.step h8)
      clear h8 HPa HPt
      have hw : wrap64 (x + 1) = x + 1:=by unfold wrap64;have:=L1.out;omega
      go_wp2
      go_roundg gk
      case measure=>omega
      case rel =>
       refine ⟨x + 1,_,q,by first|rfl|rw [hw],by omega,by omega,⟨?_,?_⟩,HPb⟩
       ·rw [show (x + 1).toNat = x.toNat + 1 by omega];exact H7.out
       ·have:=H2.out;simp only [List.append_assoc] at this ⊢;exact this
   | succ gk =>
    have c1 : decide (x < (l0_0.length : Int)) = true:=decide_eq_true (by omega)
    have p4 : (0 ≤ x) = True:=eq_true (by omega)
    have q4 : (x < (l0_0.length : Int)) = True:=eq_true (by omega)
    obtain ⟨h1,h2⟩:=HT.out
    rw [List.drop_eq_getElem_cons (show x.toNat < l0_0.length by omega)] at h1
    have hget : l0_0[x.toNat] = rd_T42 l0_0 x:=by simp [rd_T42,List.getD_eq_getElem?_getD,show x.toNat < l0_0.length by omega]
    rw [hget] at h1
    obtain ⟨ad,Az,cz,e0,hx0,hx1,hx2,hlz,hCz⟩:=at_T42 HR0.out x h0 (by omega)
    generalize rd_T42 l0_0 x = z at *
    cases e0
    replace hx0:=(HPt.out.be.cell (World.block_lt_of_cell? w _ hx0)).trans hx0
    replace hx1:=(HPt.out.be.cell (World.block_lt_of_cell? w _ hx1)).trans hx1
    replace hx2:=(HPt.out.be.cell (World.block_lt_of_cell? w _ hx2)).trans hx2
    obtain ⟨ta,h3,h1⟩:=Option.bind_eq_some_iff.1 h1
    obtain ⟨⟨tb,e4⟩,h4,h1⟩:=Option.bind_eq_some_iff.1 h1
    obtain ⟨⟨tc,e5⟩,h5,h1⟩:=Option.bind_eq_some_iff.1 h1
    obtain ⟨td,h6,h1⟩:=Option.bind_eq_some_iff.1 h1
    obtain ⟨q,h7,h1⟩:=Option.bind_eq_some_iff.1 h1
    obtain rfl:=Option.some.inj h1
    have hL:=congrArg List.length h2
    simp only [List.length_append] at hL
    have H2:=Aside0.mk h2
    have H3:=Aside0.mk h3
    have H4:=Aside0.mk h4
    have H5:=Aside0.mk h5
    have H6:=Aside0.mk h6
    have H7:=Aside0.mk h7
    have HL:=Aside0.mk hL
    have HCz:=Aside0.mk hCz
    clear hL h2 h3 h4 h5 h6 h7 h1 hCz hget HT
    have HPa:=Aside0.mk ((HPt.out.alloc (.cells #[.string z.f0,.int .i64 z.f1,.slice Az z.f2.length cz] 42 (0,0))).alloc (.cells #[.string z.f0] 9 (0,0)))
    have HZb:=Aside0.mk (blk_alloc (heap_alloc_new wr (.cells #[.string z.f0,.int .i64 z.f1,.slice Az z.f2.length cz] 42 (0,0))) (.cells #[.string z.f0] 9 (0,0)))
    go_wp2_with fail
    refine (writer_text_calls k w1.heap.size (wr.heap.size + 1) 1 bs1 [z.f0] ta w _ HPa.out.wr HPa.out.be (heap_two _ _ _) (by simp) H3.out (by have:=HL.out;have:=HLEN.out;omega) (by simp)).mono ?_
    rintro e_ w3 ⟨rfl,h8⟩
    have HPb:=Aside0.mk (HPa.out.step h8)
    have HZ3:=Aside0.mk (h8.2.2 _ _ _ _ HZb.out (by decide) (by decide))
    clear h8 HPa HZb HPt
    have hz0:=(blk_cell HZ3.out 0).trans rfl
    have hz1:=(blk_cell HZ3.out 1).trans rfl
    have hz2:=(blk_cell HZ3.out 2).trans rfl
    go_wp2_with fail
    refine (writer_int_calls k w1.heap.size (bs1 ++ ta) _ tb e4 w _ HPb.out.wr HPb.out.be H4.out (by have:=HL.out;have:=HLEN.out;simp;omega)).mono ?_
    rintro e_ w4 ⟨rfl,h8⟩
    have HPc:=Aside0.mk (HPb.out.step h8)
    have HZ4:=Aside0.mk (h8.2.2 _ _ _ _ HZ3.out (by decide) (by decide))
    clear h8 HPb HZ3
    have hz0:=(blk_cell HZ4.out 0).trans rfl
    have hz1:=(blk_cell HZ4.out 1).trans rfl
    have hz2:=(blk_cell HZ4.out 2).trans rfl
    go_wp2_with fail
    refine (writer_uint_calls k w1.heap.size (bs1 ++ ta ++ tb) _ tc e5 w _ HPc.out.wr HPc.out.be H5.out (by have:=HL.out;have:=HLEN.out;simp;omega)).mono ?_
    rintro e_ w5 ⟨rfl,h8⟩
    have HPd:=Aside0.mk (HPc.out.step h8)
    have HZ5:=Aside0.mk (h8.2.2 _ _ _ _ HZ4.out (by decide) (by decide))
    clear h8 HPc HZ4
    have hz0:=(blk_cell HZ5.out 0).trans rfl
    have hz1:=(blk_cell HZ5.out 1).trans rfl
    have hz2:=(blk_cell HZ5.out 2).trans rfl
    go_wp2
    obtain ⟨wo,rfl⟩ : ∃ wo : World,wo = wr:=⟨_,rfl⟩
    obtain ⟨gj,rfl⟩ : ∃ gj : Nat,gj = gk:=⟨_,rfl⟩
    go_loopg [52] z.f2.length (fun gk2 v52 wx=>∃ (y : Int) (bs2 r2 : List Int),v52 = .int .i64 y ∧ 0 ≤ y ∧ y + gk2 = z.f2.length ∧ Aside0 (shiftsF k (z.f2.drop y.toNat) = some r2 ∧ bs2 ++ r2 = bs1 ++ ta ++ tb ++ tc ++ td) ∧ Aside0 (Pt w wx w1.heap.size #[(.slice (some ad) l0_0.length c0_0),.slice A0_1 l0_1.length c0_1,.slice A0_2 l0_2.length c0_2] bs2))
    case atStart=>exact ⟨0,bs1 ++ ta ++ tb ++ tc,td,rfl,by omega,by omega,⟨by simpa using H6.out,rfl⟩,HPd⟩
    case round =>
     obtain ⟨y,bs2,r2,rfl,h10,hj2,HT2,HPe⟩:=hrel
     cases gk with
     | zero =>
      have c2 : decide (y < (z.f2.length : Int)) = false:=decide_eq_false (by omega)
      obtain ⟨h1,h2⟩:=HT2.out
      rw [List.drop_eq_nil_of_le (by omega)] at h1
      obtain rfl:=Option.some.inj h1
      rw [List.append_nil] at h2
      subst h2
      have hw : wrap64 (x + 1) = x + 1:=by unfold wrap64;have:=L0.out;omega
      go_wp2
      go_roundg gj
      case measure=>omega
      case rel =>
       refine ⟨x + 1,_,q,by first|rfl|rw [hw],by omega,by omega,⟨?_,?_⟩,HPe⟩
       ·rw [show (x + 1).toNat = x.toNat + 1 by omega];exact H7.out
       ·have:=H2.out;simp only [List.append_assoc] at this ⊢;exact this
     | succ gk =>
      have c2 : decide (y < (z.f2.length : Int)) = true:=decide_eq_true (by omega)
      have p5 : (0 ≤ y) = True:=eq_true (by omega)
      have q5 : (y < (z.f2.length : Int)) = True:=eq_true (by omega)
      obtain ⟨h1,h2⟩:=HT2.out
      rw [List.drop_eq_getElem_cons (show y.toNat < z.f2.length by omega)] at h1
      have hget : z.f2[y.toNat] = rd_T44 z.f2 y:=by simp [rd_T44,List.getD_eq_getElem?_getD,show y.toNat < z.f2.length by omega]
      rw [hget] at h1
      obtain ⟨ad2,e0,hs0,hs1⟩:=at_T44 HCz.out y h10 (by omega)
      generalize rd_T44 z.f2 y = sh at *
      cases e0
      replace hs0:=(HPe.out.be.cell (World.block_lt_of_cell? w _ hs0)).trans hs0
      replace hs1:=(HPe.out.be.cell (World.block_lt_of_cell? w _ hs1)).trans hs1
      obtain ⟨⟨sa,e6⟩,h3,h1⟩:=Option.bind_eq_some_iff.1 h1
      obtain ⟨⟨sb,e7⟩,h4,h1⟩:=Option.bind_eq_some_iff.1 h1
      obtain ⟨q2,h7,h1⟩:=Option.bind_eq_some_iff.1 h1
      obtain rfl:=Option.some.inj h1
      have hL2:=congrArg List.length h2
      simp only [List.length_append] at hL2
      have HL2:=Aside0.mk hL2
      have H22:=Aside0.mk h2
      have H23:=Aside0.mk h3
      have H24:=Aside0.mk h4
      have H27:=Aside0.mk h7
      clear hL2 h2 h3 h4 h7 h1 hget HT2
      have HPf:=Aside0.mk (HPe.out.alloc (.cells #[.int .i64 sh.f0,.int .i64 sh.f1] 44 (0,0)))
      have HS1:=Aside0.mk (heap_alloc_new wr (.cells #[.int .i64 sh.f0,.int .i64 sh.f1] 44 (0,0)))
      have LS:=Aside0.mk (show z.f2.length ≤ 9223372036854775807 from HCz.out.2.1)
      have hv0:=(blk_cell HS1.out 0).trans rfl
      have hv1:=(blk_cell HS1.out 1).trans rfl
      go_wp2_with fail
      refine (writer_uint_calls k w1.heap.size bs2 _ sa e6 w _ HPf.out.wr HPf.out.be H23.out (by have:=HL.out;have:=HL2.out;have:=HLEN.out;simp at this ⊢;omega)).mono ?_
      rintro e_ w6 ⟨rfl,h8⟩
      have HPg:=Aside0.mk (HPf.out.step h8)
      have HS2:=Aside0.mk (h8.2.2 _ _ _ _ HS1.out (by decide) (by decide))
      clear h8 HPf HS1
      have hv0:=(blk_cell HS2.out 0).trans rfl
      have hv1:=(blk_cell HS2.out 1).trans rfl
      go_wp2_with fail
      refine (writer_int_calls k w1.heap.size (bs2 ++ sa) _ sb e7 w _ HPg.out.wr HPg.out.be H24.out (by have:=HL.out;have:=HL2.out;have:=HLEN.out;simp at this ⊢;omega)).mono ?_
      rintro e_ w7 ⟨rfl,h8⟩
      have HPh:=Aside0.mk (HPg.out.step h8)
      clear h8 HPg HS2
      have hw : wrap64 (y + 1) = y + 1:=by unfold wrap64;have:=LS.out;omega
      go_wp2
      go_roundg gk
      case measure=>omega
      case rel =>
       refine ⟨y + 1,_,q2,by first|rfl|rw [hw],by omega,by omega,⟨?_,?_⟩,HPh⟩
       ·rw [show (y + 1).toNat = y.toNat + 1 by omega];exact H27.out
       ·have:=H22.out;simp only [List.append_assoc] at this ⊢;exact this
 ·have c1 : (e != 0) = true:=bne_iff_ne.mpr he
  rw [if_neg he] at H
  obtain ⟨rfl,rfl⟩ : r1 = [] ∧ r2 = e:=by simpa [eq_comm] using H
  go_wp2
  exact bodyPost_ret (v:=.tuple #[.slice none 0 0,.int .i64 _]) (by simp [results,Try.results14,go_sem]) rfl ⟨_,rfl,Kd.R_nil _ _ _ _ _,HB1.out⟩
end Go.Proofs.Ytepnddmalheoiaa.Q
