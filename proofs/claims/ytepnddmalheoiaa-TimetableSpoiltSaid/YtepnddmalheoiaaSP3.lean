/- For timetableSpoilt_holds: texts of this session and words of the kit's print, those alone that the proof uses. -/
import Derived.Test.YtepnddmalheoiaaProg
import Derived.Below
import Derived.Deep.Draws
import Derived.Deep.AppendLies
import Derived.Maps.AppendAt
import Derived.OwnWalk
import Derived.Laws.BytesArg
import Derived.Laws.MakeOwn
import Derived.Laws.OwnMore
import Derived.Deep.OwnRows
import Derived.Tactics
import Derived.Lib.ConvBytes
import Derived.Laws.Slices
import Derived.WalkKit
import Derived.KernelRfl
import Derived.RowKit3
import Derived.Deep.LoopGhost
import Derived.Deep.QuietTactic
import Derived.BigQuiet
import Derived.WideLaws
import Derived.Deep.DeepCutAuto
import Derived.Deep.CutBlock
import Derived.Deep.RegionHeld3
import Derived.Laws.Rows
import Derived.Lib.AppendStr
import Derived.ArgAppend
import Derived.Laws.IdiomCopy
import Derived.OrdersHeld
import Derived.Laws.BitsLemmas
import Derived.RowKit
import Derived.Lib.SlBytesConst
import Derived.Outline
import Derived.Laws.StructEq
import Derived.ProofKit
import Derived.OpenShut
import Derived.SizedLaws
import Derived.ChangeArms
import Derived.WideShapes
import Derived.Deep.WholeRow
import Derived.Laws.ResultCell
import Derived.Test.YtepnddmalheoiaaSP0
import Derived.Test.YtepnddmalheoiaaSP1
import Derived.Test.YtepnddmalheoiaaSP2
set_option linter.unusedVariables false
set_option linter.unusedSimpArgs false
namespace Go.Proofs.Ytepnddmalheoiaa.H
open Go.RowKit Go.Proofs.YtepnddmalheoiaaW.PrintWords Go.Proofs.YtepnddmalheoiaaW.PrintLast Go.Proofs.YtepnddmalheoiaaW.PrintMore
theorem wraps_i64 (n : Int) (h0 : 0 ≤ n) (h1 : n < 2 ^ 63) : IntKind.i64.wrap n = n:=by rw [IntKind.wrap_i64];omega
theorem wraps_u32 (n : Int) (h0 : 0 ≤ n) (h1 : n < 2 ^ 32) : IntKind.u32.wrap n = n:=by rw [IntKind.wrap_u32];omega
theorem bits_or_comm (k : IntKind) (a b : Int) : Go.bits .or k a b = Go.bits .or k b a:=by simp only [bits];rw [BitVec.or_comm]
theorem infoB : (Try.prog.info? 5).map (fun i=>(i.zero,i.size,i.bytes)) = some (some (.int .u8 0),1,1):=by kernel_rfl
theorem rd_some (xs : List Int) (j : Int) (h0 : 0 ≤ j) (h1 : j < xs.length) : xs[j.toNat]? = some (rd xs j):=by
 have h : j.toNat < xs.length:=by omega
 simp [rd,List.getD_eq_getElem?_getD,h]
theorem ar_run {P : Program} {T e : TypeId} {n : Nat} (hu : P.underlying T = some (.array n e)) (he : P.underlying e = some (.int .i64)) (hi : (P.info? e).map (fun i=>i.size) = some 1) (xs : List Int) (j : Int) (hn : xs.length = n) (h0 : 0 ≤ j) (h1 : j < n) (w : World) :
  (Instr.index T (.agg (xs.map (Value.int .i64)).toArray) (.int .i64 j)).run P w = .ok (.int .i64 (rd xs j)) w:=by
 have h:=rd_some xs j h0 (by omega)
 obtain ⟨i,hi',hs⟩:=Option.map_eq_some_iff.1 hi
 simp [Instr.index,asIntOf,run_underlying hu,run_underlying he,hi',hs,h,part,isAgg,sizeOf,typeInfo,h0,h1,go_sem]
theorem ar_cell {w : World} {g : Nat} {t : TypeId} {cs : Array Value} (h : w.heap[g]? = some (.cells cs t (0,0))) (off n : Nat) (xs : List Int) (j : Int) (hn : xs.length = n) (hx : ∀ i,i < n → cs[off + i]? = some (.int .i64 (xs.getD i 0))) (h0 : 0 ≤ j) (h1 : j < n) :
  w.cell? ⟨g,off + j.toNat,none⟩ = some (.int .i64 (rd xs j)):=by
 rw [zad h,hx j.toNat (by omega)];rfl
theorem less_not (x : List UInt8) : ∀ y,(Op.bytesLess x y || x == y) = !Op.bytesLess y x:=by
 induction x with
 | nil=>intro y;cases y <;> simp [Op.bytesLess]
 | cons a x ih =>
  intro y
  cases y with
  | nil=>simp [Op.bytesLess]
  | cons b y =>
   have h:=ih y
   simp only [Op.bytesLess]
   rcases Nat.lt_trichotomy a.toNat b.toNat with h1|h1|h1
   ·have e1 : a < b:=h1
    have e2 : ¬ b < a:=by intro h2;have : b.toNat < a.toNat:=h2;omega
    have e3 : a ≠ b:=by rintro rfl;omega
    have e4 : ¬ b = a:=fun h=>e3 h.symm
    simp [e1,e2,e3,e4]
   ·obtain rfl : a = b:=UInt8.toNat_inj.1 h1
    have e2 : ¬ a < a:=by intro h2;have : a.toNat < a.toNat:=h2;omega
    simp [e2]
    simpa using h
   ·have e1 : b < a:=h1
    have e2 : ¬ a < b:=by intro h2;have : a.toNat < b.toNat:=h2;omega
    have e3 : a ≠ b:=by rintro rfl;omega
    have e4 : ¬ b = a:=fun h=>e3 h.symm
    simp [e1,e2,e3,e4]
theorem str_leq (t : TypeId) (a b : ByteArray) : binOp .leq t (.string a) (.string b) = pure (.bool !(Op.bytesLess b.toList a.toList)):=by
 rw [← less_not];simp [binOp,Op.stringOp]
theorem str_geq (t : TypeId) (a b : ByteArray) : binOp .geq t (.string a) (.string b) = pure (.bool !(Op.bytesLess a.toList b.toList)):=by simp [binOp,Op.stringOp]
theorem str_gtr (t : TypeId) (a b : ByteArray) : binOp .gtr t (.string a) (.string b) = pure (.bool (Op.bytesLess b.toList a.toList)):=by
 have h:=less_not a.toList b.toList
 have h2 : Op.bytesLess b.toList a.toList = !(Op.bytesLess a.toList b.toList || a.toList == b.toList):=by rw [h];simp
 rw [h2];simp [binOp,Op.stringOp]
end Go.Proofs.Ytepnddmalheoiaa.H
namespace Go.Proofs.Ytepnddmalheoiaa.H
open Go.RowKit Go.Proofs.YtepnddmalheoiaaW.PrintWords Go.Proofs.YtepnddmalheoiaaW.PrintLast Go.Proofs.YtepnddmalheoiaaW.PrintMore
def Light {H : Type} (P : Program) (t : TypeId) (d : DataW H) : Prop:=∀ n ∈ DataW.weights P t d,n ≤ reachBytes
def Opens (P : Program) (t : TypeId) {α : Type} (d : Kd α) (G : α → Prop) : Prop :=
 ∀ (H : Type) (enc : TypeId × Value → H) (W : World) (base : Nat) (spare : Nat → Bool) (held : Bool) (fuel : Nat) (cs : List Value) (x : DataW H × List MemPlace),DataW.trod enc P W base spare held fuel t cs = some x → Light P t x.1 → ∃ y,d.K W y cs ∧ G y
theorem add_twice (a : Addr) (m j : Nat) : (a.add m).add j = a.add (m + j):=by
 simp only [Addr.add]
 repeat' split
 all_goals first|rfl|omega|(simp_all <;> omega)|simp_all
section
variable {P : Program} {t : TypeId} {α β : Type}
theorem opens_int {k : IntKind} (hu : P.underlying t = some (.int k)) : Opens P t (Kd.int k) (fun y=>(Lit.int k y).wf = true):=by
 intro H enc W base spare held fuel cs x h _
 obtain ⟨n,rfl,_,hw⟩:=DataW.trod_int hu h
 exact ⟨n,rfl,hw⟩
theorem light_all {H : Type} {e : TypeId} {ds : List (DataW H)} (h : ∀ n ∈ DataW.weightsAll P e ds,n ≤ reachBytes) : ∀ d ∈ ds,Light P e d:=by
 induction ds with
 | nil=>intro d hd;cases hd
 | cons a ds ih =>
  intro d hd n hn
  have hw : DataW.weightsAll P e (a :: ds) = a.weights P e ++ DataW.weightsAll P e ds:=by simp [DataW.weightsAll]
  rw [hw] at h
  rcases List.mem_cons.1 hd with rfl|hd
  ·exact h n (List.mem_append_left _ hn)
  ·exact ih (fun m hm=>h m (List.mem_append_right _ hm)) d hd n hn
theorem list_of (n : Nat) : ∀ Q : Nat → α → Prop,(∀ i,i < n → ∃ y,Q i y) → ∃ l : List α,l.length = n ∧ ∀ i y,l[i]? = some y → Q i y:=by
 induction n with
 | zero=>exact fun Q _=>⟨[],rfl,fun i y h=>by simp at h⟩
 | succ n ih =>
  intro Q h
  obtain ⟨l,h1,h2⟩:=ih Q (fun i hi=>h i (by omega))
  obtain ⟨y,hy⟩:=h n (by omega)
  refine ⟨l ++ [y],by simp [h1],fun i z hz=>?_⟩
  rw [List.getElem?_append] at hz
  split at hz
  ·exact h2 i z hz
  ·rename_i hi
   have hi2 : i = n:=by
    have:=(List.getElem?_eq_some_iff.1 hz).1
    simp at this;omega
   subst hi2
   rw [h1,Nat.sub_self] at hz
   obtain rfl : y = z:=by simpa using hz
   exact hy
theorem opens_slice {e : TypeId} {d : Kd α} {G : α → Prop} {B : Nat} (hu : P.underlying t = some (.slice e)) (hE : Opens P e d G) (hsz : P.cellsOf e = d.sz) (hB : P.bytesOf e = B) :
  Opens P t (Kd.slice e d) (fun xs=>(∀ x ∈ xs,G x) ∧ xs.length * B ≤ 140737488351232):=by
 intro H enc W base spare held fuel cs x h hl
 rcases DataW.trod_slice hu h with ⟨rfl,rfl⟩|⟨a,len,cap,elems,rest,n,rfl,rfl,rfl,hb,hlc,hcm,hlen,hel,_,_⟩
 ·exact ⟨[],⟨none,0,rfl,Nat.le_refl _,rfl,by simp,fun h=>absurd h (by simp)⟩,(fun x hx=>by cases hx),by simp⟩
 ·have hw : ∀ n ∈ DataW.weights P t (DataW.slice (elems.map (·.1)) (rest.map (·.1))),n ≤ reachBytes:=hl
  have hw2 : DataW.weights P t (DataW.slice (elems.map (·.1)) (rest.map (·.1))) = ((elems.map (·.1)).length + (rest.map (·.1)).length) * P.bytesOf e :: (DataW.weightsAll P e (elems.map (·.1)) ++ DataW.weightsAll P e (rest.map (·.1))):=by simp [DataW.weights,hu]
  rw [hw2] at hw
  have hlt:=light_all (fun n hn=>hw n (List.mem_cons_of_mem _ (List.mem_append_left _ hn)))
  have hsz0:=hw _ List.mem_cons_self
  have key : ∀ i,i < len → ∃ y c,c.length = d.sz ∧ d.K W y c ∧ (∀ j u,c[j]? = some u → W.cell? (a.add (i * d.sz + j)) = some u) ∧ G y:=by
   intro i hi
   have h1:=hel i hi
   have hi2 : i < elems.length:=by omega
   rw [List.getElem?_eq_getElem hi2] at h1
   obtain ⟨c,hc,hx⟩:=Option.bind_eq_some_iff.1 h1
   obtain ⟨_,hcl,hcc⟩:=World.cells?_some hc
   obtain ⟨y,hy,hG⟩:=hE H enc W base spare held n c _ hx (hlt _ (List.mem_map_of_mem (List.getElem_mem hi2)))
   refine ⟨y,c,hcl.trans hsz,hy,fun j u hj=>?_,hG⟩
   have hj2 : j < P.cellsOf e:=by rw [← hcl];exact (List.getElem?_eq_some_iff.1 hj).1
   have:=hcc j hj2
   rw [hj] at this
   rw [← hsz]
   rwa [add_twice] at this
  obtain ⟨l,hl1,hl2⟩:=list_of len _ key
  refine ⟨l,⟨some a,cap,by rw [hl1],by rw [hl1];exact hlc,?_⟩,?_,?_⟩
  ·rw [hl1]
   refine ⟨hl1,by unfold maxLen at hcm;omega,fun _=>⟨a,rfl,fun j p hj=>?_⟩⟩
   obtain ⟨c,h1,h2,h3,_⟩:=hl2 j p hj
   exact ⟨c,h1,h2,h3⟩
  ·intro x hx
   obtain ⟨i,hi⟩:=List.getElem?_of_mem hx
   obtain ⟨_,_,_,_,hG⟩:=hl2 i x hi
   exact hG
  ·rw [hB] at hsz0
   have : l.length ≤ (elems.map (·.1)).length + (rest.map (·.1)).length:=by simp [hl1,hlen]
   exact Nat.le_trans (Nat.mul_le_mul_right _ this) hsz0
theorem opens_mono {d : Kd α} {G G' : α → Prop} (h : Opens P t d G) (hG : ∀ a,G a → G' a) : Opens P t d G':=by
 intro H enc W base spare held fuel cs x hx hl
 obtain ⟨y,hy,hg⟩:=h H enc W base spare held fuel cs x hx hl
 exact ⟨y,hy,hG y hg⟩
end
end Go.Proofs.Ytepnddmalheoiaa.H
namespace Go.Proofs.Ytepnddmalheoiaa.H
open Go.RowKit Go.Proofs.YtepnddmalheoiaaW.PrintWords Go.Proofs.YtepnddmalheoiaaW.PrintLast Go.Proofs.YtepnddmalheoiaaW.PrintMore
def decL : List Int → Nat → Int → Int × Int × Int
 | [],_,_=>(0,0,3)
 | c :: t,i,n=>if c < 128 then (if (c = 0 ∧ 0 < i) ∨ n + c % 128 * 128 ^ i > 4611686018427387904 then (0,0,2) else (n + c % 128 * 128 ^ i,(i : Int) + 1,0)) else if i = 8 then (0,0,2) else decL t (i + 1) (n + c % 128 * 128 ^ i)
def decOut (r : Int × Int × Int) : Value:=.tuple #[.int .i64 r.1,.int .i64 r.2.1,.int .i64 r.2.2]
theorem dec_step (n c7 s m : Int) (i : Nat) (hi : i ≤ 8) (hn0 : 0 ≤ n) (hn : n < 128 ^ i) (h0 : 0 ≤ c7) (h1 : c7 ≤ 127) (hs : c7 * 128 ^ i = s) (hm : n + s = m) :
  0 ≤ s ∧ wrap64 (c7 * 2 ^ (7 * i)) = s ∧ Go.bits .or .i64 n s = m ∧ (0 ≤ m ∧ m < 128 ^ (i + 1)):=by
 have hp : (2 : Int) ^ (7 * i) = 128 ^ i:=by rw [Int.pow_mul];rfl
 have hpos : (0 : Int) < 128 ^ i:=Int.pow_pos (by decide)
 have hs0 : 0 ≤ s:=by rw [← hs];exact Int.mul_nonneg h0 (by omega)
 have hle : (128 : Int) ^ i ≤ 128 ^ 8:=by exact_mod_cast Nat.pow_le_pow_right (n:=128) (by decide) hi
 have hs1 : s ≤ 127 * 128 ^ i:=by rw [← hs];exact Int.mul_le_mul_of_nonneg_right h1 (by omega)
 have hs2 : s < 9223372036854775808:=by omega
 refine ⟨hs0,?_,?_,by omega,by rw [Int.pow_succ];omega⟩
 ·rw [hp,hs];unfold wrap64;omega
 ·rw [bits_or_comm,bits_join .i64 63 (by decide) wraps_i64 (7 * i) s n hs0 (by rw [hp,← hs];exact Int.mul_emod_left _ _) (by omega) hn0 (by rw [hp];exact hn) (by omega)]
  omega
set_option maxHeartbeats 8000000 in
set_option maxRecDepth 100000 in
theorem dec_calls (A0 : Option Addr) (c0 : Nat) (l0 : List Int) (w : World) (hr0 : Kd.C (Kd.int .u8) w A0 l0.length l0) (hc0 : l0.length ≤ c0) (hw : ∀ x ∈ l0,0 ≤ x ∧ x ≤ 255) :
  Calls Try.prog 73 #[.slice A0 l0.length c0] w fun e w'=>e = .returned (decOut (decL l0 0 0)) ∧ zay w w':=by
 have HR0:=zac.mk hr0
 have HC0:=zac.mk hc0
 have HW:=zac.mk hw
 clear hr0 hc0 hw
 obtain ⟨R,hR⟩ : ∃ R,decL l0 0 0 = R:=⟨_,rfl⟩
 rw [hR]
 have HRR:=zac.mk hR
 clear hR
 go_enter Try.func73,Try.ntmps73
 go_wp2
 go_loopg [2,10] l0.length (fun gk v2 v10 w'=>∃ (n : Int) (i : Nat),v2 = .int .i64 n ∧ v10 = .int .i64 (i : Int) ∧ i ≤ 8 ∧ i + gk = l0.length ∧ zac (0 ≤ n ∧ n < 128 ^ i ∧ decL (l0.drop i) i n = R) ∧ zay w w')
 case atStart=>exact ⟨0,0,rfl,rfl,by omega,by omega,⟨by omega,by decide,by simpa using HRR.out⟩,zay.refl _⟩
 case round =>
  obtain ⟨n,i,rfl,rfl,hi8,hik,HA,⟨m1,rfl⟩⟩:=hrel
  cases gk with
  | zero =>
   have hlt : ¬ (i : Int) < (l0.length : Int):=by omega
   have hd : decL (l0.drop i) i n = (0,0,3):=by rw [List.drop_of_length_le (by omega)];rfl
   have H:=zac.mk (hd.symm.trans HA.out.2.2)
   clear hd HA
   go_wp2
   go_ret3
   rw [← H.out]
   exact ⟨rfl,by repeat (first|exact zay.refl _|apply zay.step)⟩
  | succ g =>
   have hlt : (i : Int) < (l0.length : Int):=by omega
   have hi0 : (0 : Int) ≤ i:=by omega
   obtain ⟨c,hc⟩ : ∃ c,rd l0 (i : Int) = c:=⟨_,rfl⟩
   have hget : l0[i]? = some c:=by
    rw [← hc];unfold rd;rw [Int.toNat_natCast,List.getD_eq_getElem?_getD,List.getElem?_eq_getElem (by omega)];rfl
   have hcb : 0 ≤ c ∧ c ≤ 255:=HW.out c (List.mem_of_getElem? hget)
   have hdrop : l0.drop i = c :: l0.drop (i + 1):=by
    obtain ⟨h1,h2⟩:=List.getElem?_eq_some_iff.1 hget
    rw [List.drop_eq_getElem_cons h1,h2]
   obtain ⟨ad,e115,hx⟩:=Kd.at_int HR0.out (i : Int) hi0 hlt
   cases e115
   rw [hc] at hx
   rw [Int.toNat_natCast] at hx
   clear hc hget
   have hd : decL (l0.drop i) i n = if c < 128 then (if (c = 0 ∧ 0 < i) ∨ n + c % 128 * 128 ^ i > 4611686018427387904 then (0,0,2) else (n + c % 128 * 128 ^ i,(i : Int) + 1,0)) else if i = 8 then (0,0,2) else decL (l0.drop (i + 1)) (i + 1) (n + c % 128 * 128 ^ i):=by rw [hdrop];rfl
   have HD:=zac.mk (hd.symm.trans HA.out.2.2)
   have HN:=zac.mk (And.intro HA.out.1 HA.out.2.1)
   clear hdrop hd HA
   obtain ⟨c7,hc7⟩ : ∃ c7 : Int,c % 128 = c7:=⟨_,rfl⟩
   have hand : Go.bits .and .u8 c 127 = c7:=by rw [← hc7];exact bits_mask .u8 8 (by decide) wraps_u8 7 (by decide) c hcb.1 (by omega)
   have hc7b : 0 ≤ c7 ∧ c7 ≤ 127:=by omega
   obtain ⟨s,hs⟩ : ∃ s : Int,c7 * 128 ^ i = s:=⟨_,rfl⟩
   obtain ⟨m,hm⟩ : ∃ m : Int,n + s = m:=⟨_,rfl⟩
   rw [hc7,hs,hm] at HD
   obtain ⟨hsb,hsh,hor,hmb⟩:=dec_step n c7 s m i hi8 HN.out.1 HN.out.2 hc7b.1 hc7b.2 hs hm
   have hc70:=hc7b.1
   have hc71:=hc7b.2
   have hcb0:=hcb.1
   have hcb1:=hcb.2
   have hmb0:=hmb.1
   have HMB:=zac.mk hmb
   clear hc7b hcb HN hc7 hs hm hsb hmb
   by_cases h128 : c < 128
   ·have hb1 : decide (c < 128) = true:=decide_eq_true h128
    have HD1:=zac.mk (show (if (c = 0 ∧ 0 < i) ∨ m > 4611686018427387904 then (0,0,2) else (m,(i : Int) + 1,0)) = R by have:=HD.out;rw [if_pos h128] at this;exact this)
    clear HD
    by_cases hbad : c = 0 ∧ 0 < i
    ·have H:=zac.mk (show (0,0,2) = R by have:=HD1.out;rw [if_pos (.inl hbad)] at this;exact this)
     have hb0 : (c == 0) = true:=beq_iff_eq.mpr hbad.1
     have hbi : decide ((0 : Int) < (i : Int)) = true:=decide_eq_true (by omega)
     have hbj : decide (0 < i) = true:=decide_eq_true (by omega)
     clear HD1 hbad
     go_wp2
     all_goals
      go_ret3
      rw [← H.out]
      exact ⟨rfl,by repeat (first|exact zay.refl _|apply zay.step)⟩
    ·by_cases hbig : m > 4611686018427387904
     ·have H:=zac.mk (show (0,0,2) = R by have:=HD1.out;rw [if_pos (.inr hbig)] at this;exact this)
      have hbm : decide (4611686018427387904 < m) = true:=decide_eq_true hbig
      clear HD1 hbig
      by_cases h0 : c = 0
      ·have hb0 : (c == 0) = true:=beq_iff_eq.mpr h0
       have hbi : decide ((0 : Int) < (i : Int)) = false:=decide_eq_false (by omega)
       have hbj : decide (0 < i) = false:=decide_eq_false (by omega)
       have hij : i ≤ 0:=by omega
       clear h0 hbad
       go_wp2
       all_goals
        go_ret3
        rw [← H.out]
        exact ⟨rfl,by repeat (first|exact zay.refl _|apply zay.step)⟩
      ·have hb0 : (c == 0) = false:=beq_eq_false_iff_ne.mpr h0
       clear h0 hbad
       go_wp2
       all_goals
        go_ret3
        rw [← H.out]
        exact ⟨rfl,by repeat (first|exact zay.refl _|apply zay.step)⟩
     ·have H:=zac.mk (show (m,(i : Int) + 1,0) = R by have:=HD1.out;rw [if_neg (by omega)] at this;exact this)
      have hbm : decide (4611686018427387904 < m) = false:=decide_eq_false hbig
      clear HD1 hbig
      by_cases h0 : c = 0
      ·have hb0 : (c == 0) = true:=beq_iff_eq.mpr h0
       have hbi : decide ((0 : Int) < (i : Int)) = false:=decide_eq_false (by omega)
       have hbj : decide (0 < i) = false:=decide_eq_false (by omega)
       have hij : i ≤ 0:=by omega
       clear h0 hbad
       go_wp2
       all_goals
        go_ret3
        rw [← H.out]
        exact ⟨rfl,by repeat (first|exact zay.refl _|apply zay.step)⟩
      ·have hb0 : (c == 0) = false:=beq_eq_false_iff_ne.mpr h0
       clear h0 hbad
       go_wp2
       all_goals
        go_ret3
        rw [← H.out]
        exact ⟨by first|rfl|(rw [show ((i : Int) + 1) = 9 by omega];rfl),by repeat (first|exact zay.refl _|apply zay.step)⟩
   ·by_cases h8 : i = 8
    ·have H:=zac.mk (show (0,0,2) = R by have:=HD.out;rw [if_neg h128,if_pos h8] at this;exact this)
     have hb1 : decide (c < 128) = false:=decide_eq_false h128
     have hb8 : ((i : Int) == 8) = true:=beq_iff_eq.mpr (by omega)
     clear HD h8
     go_wp2
     go_ret3
     rw [← H.out]
     exact ⟨rfl,by repeat (first|exact zay.refl _|apply zay.step)⟩
    ·have H:=zac.mk (show decL (l0.drop (i + 1)) (i + 1) m = R by have:=HD.out;rw [if_neg h128,if_neg h8] at this;exact this)
     have hb1 : decide (c < 128) = false:=decide_eq_false h128
     have hb8 : ((i : Int) == 8) = false:=beq_eq_false_iff_ne.mpr (by omega)
     clear HD
     go_wp2
     go_roundg g
     case measure=>omega
     case rel=>exact ⟨m,i + 1,rfl,by go_num,by omega,by omega,⟨HMB.out.1,HMB.out.2,H.out⟩,by repeat (first|exact zay.refl _|apply zay.step)⟩
def zbt.f (l0 : List Int) : Option (Int × Int × Int):=if ∀ x ∈ l0,0 ≤ x ∧ x ≤ 255 then some (decL l0 0 0) else none
theorem zbt.calls (A0 : Option Addr) (c0 : Nat) (l0 : List Int) (r1 : Int) (r2 : Int) (r3 : Int) (w : World) (hr0 : Kd.C (Kd.int .u8) w A0 l0.length l0) (hc0 : l0.length ≤ c0) (h : zbt.f l0 = some (r1,r2,r3)) :
  Calls Try.prog 73 #[.slice A0 l0.length c0] w fun e w'=>e = .returned (.tuple #[.int .i64 r1,.int .i64 r2,.int .i64 r3]) ∧ zay w w':=by
 unfold zbt.f at h
 split at h
 ·rename_i hb
  have hd:=Option.some.inj h
  refine (dec_calls A0 c0 l0 w hr0 hc0 hb).mono fun e w' hh=>?_
  rw [hd] at hh
  exact hh
 ·exact absurd h (by simp)
end Go.Proofs.Ytepnddmalheoiaa.H
namespace Go.Proofs.Ytepnddmalheoiaa.H
open Go.RowKit Go.Proofs.YtepnddmalheoiaaW.PrintWords Go.Proofs.YtepnddmalheoiaaW.PrintLast Go.Proofs.YtepnddmalheoiaaW.PrintMore
def cstep (x : Nat) : Nat:=if x % 2 = 1 then (x / 2) ^^^ 2197175160 else x / 2
def citer : Nat → Nat → Nat
 | 0,x=>x
 | k + 1,x=>cstep (citer k x)
theorem cstep_lt (x : Nat) (h : x < 4294967296) : cstep x < 4294967296:=by
 unfold cstep
 split
 ·exact Nat.xor_lt_two_pow (n:=32) (by omega) (by decide)
 ·omega
theorem citer_lt (k x : Nat) (h : x < 4294967296) : citer k x < 4294967296:=by
 induction k with
 | zero=>exact h
 | succ k ih=>exact cstep_lt _ ih
def zbz (k : Nat) : Array Value:=((List.range 256).map (fun i=>Value.int .u32 (if i < k then (citer 8 i : Int) else 0))).toArray
theorem tab_size (k : Nat) : (zbz k).size = 256:=by simp [zbz]
theorem tab_zero : Array.replicate 256 (Value.int .u32 0) = zbz 0:=by
 apply Array.ext_getElem?
 intro i
 by_cases h : i < 256
 ·simp [zbz,h]
 ·simp [zbz,h]
theorem tab_set (k : Nat) (h : k < 256) : (zbz k).setIfInBounds k (.int .u32 (citer 8 k : Int)) = zbz (k + 1):=by
 apply Array.ext_getElem?
 intro i
 rw [Array.getElem?_setIfInBounds]
 by_cases e : k = i
 ·subst e
  simp [zbz,h]
 ·rw [if_neg e]
  by_cases hi : i < 256
  ·simp only [zbz,List.getElem?_toArray,List.getElem?_map,List.getElem?_range hi,Option.map_some]
   by_cases hk : i < k
   ·rw [if_pos hk,if_pos (by omega)]
   ·rw [if_neg hk,if_neg (by omega)]
  ·simp [zbz,hi]
theorem tab_one (k : Nat) : (zbz k).all (·.oneCell') = true:=by
 simp [zbz,Value.oneCell']
theorem tab_at (x : Nat) (h : x < 256) : (zbz 256)[x]? = some (.int .u32 (citer 8 x : Int)):=by
 simp [zbz,h]
theorem tab_next (k : Nat) (h : k < 256) : (zbz k)[k]? = some (.int .u32 0):=by
 simp [zbz,h]
theorem bits_xor_nat (a b : Nat) (ha : a < 4294967296) (hb : b < 4294967296) : Go.bits .xor .u32 (a : Int) (b : Int) = ((a ^^^ b : Nat) : Int):=by
 simp only [bits,BitVec.ofInt_natCast,BitVec.toNat_xor,BitVec.toNat_ofNat]
 have e1 : a % 2 ^ IntKind.u32.bits = a:=Nat.mod_eq_of_lt ha
 have e2 : b % 2 ^ IntKind.u32.bits = b:=Nat.mod_eq_of_lt hb
 rw [e1,e2]
 exact wraps_u32 _ (by omega) (by have:=Nat.xor_lt_two_pow (n:=32) ha hb;omega)
theorem xor_step (X : Nat) (h : X < 4294967296) (ho : X % 2 = 1) : Go.bits .xor .u32 ((X : Int) / 2) 2197175160 = ((cstep X : Nat) : Int):=by
 have:=bits_xor_nat (X / 2) 2197175160 (by omega) (by decide)
 unfold cstep
 rw [if_pos ho]
 exact this
theorem infoTab : (Try.prog.info? 112).map (fun i=>(i.zero,i.size)) = some (some (.agg (Array.replicate 256 (.int .u32 0))),256):=by kernel_rfl
set_option maxHeartbeats 8000000 in
set_option maxRecDepth 100000 in
theorem table_calls (w : World) :
  Calls Try.prog 89 #[] w fun e w'=>e = .returned (.agg (zbz 256)) ∧ Below w.heap.size w w':=by
 have hv:=(zero_of_info infoTab).1
 rw [tab_zero] at hv
 go_enter Try.func89,Try.ntmps89
 go_wp2
 go_loopg [4] 256 (fun gk v4 wx=>∃ i : Nat,i + gk = 256 ∧ v4 = .int .i64 (i : Int) ∧ wx = (w.alloc (.cells (zbz 0) 112)).alloc (.cells (zbz i) 112))
 case atStart=>exact ⟨0,by omega,rfl,rfl⟩
 case round =>
  obtain ⟨i,hig,rfl,rfl⟩:=hrel
  cases gk with
  | zero =>
   obtain rfl : i = 256:=by omega
   have hg1 : ((w.alloc (.cells (zbz 0) 112)).alloc (.cells (zbz 256) 112)).heap[w.heap.size + 1]? = some (.cells (zbz 256) 112 (0,0)):=heap_alloc2_new w _ _
   have hg0 : ((w.alloc (.cells (zbz 0) 112)).alloc (.cells (zbz 256) 112)).heap[w.heap.size]? = some (.cells (zbz 0) 112 (0,0)):=heap_alloc2_old w _ _
   have hin : (Try.prog.info? 112).map (·.size) = some (zbz 256).size:=by rw [tab_size];exact (zero_of_info infoTab).2
   have HG1:=zac.mk hg1
   have HG0:=zac.mk hg0
   have HIN:=zac.mk hin
   clear hg1 hg0 hin hv
   go_wp2_with (first|(with_reducible refine wpList_load_row rfl 112 (.tmp 1) rfl (w.heap.size + 1) rfl 112 (zbz 256) (0,0) _ HG1.out Try.underlying112 rfl HIN.out ?_)|(with_reducible refine wpList_store_row rfl 112 (.tmp 0) (.tmp 24) rfl w.heap.size (zbz 256) rfl rfl 112 (zbz 0) HG0.out HIN.out (by rw [tab_size,tab_size]) (tab_one 256) ?_))
   refine bodyPost_ret (v:=.agg (zbz 256)) (results_cell_row rfl _ _ w.heap.size 112 (zbz 256) (0,0) _ rfl (setRow_heap _ _ _ _ _ _ HG0.out) Try.underlying112 rfl HIN.out) rfl ⟨rfl,?_⟩
   have hb : Below w.heap.size w ((w.alloc (.cells (zbz 0) 112)).alloc (.cells (zbz 256) 112)):=((Below.refl _ _).alloc (Nat.le_refl _) _).alloc (by simp) _
   exact ⟨hb.os,hb.tape,hb.output,by rw [setRow_size];exact hb.size,fun j hj=>by rw [setRow_other _ _ _ _ (by omega)];exact hb.block j hj⟩
  | succ g =>
   have hlt : (i : Int) < 256:=by omega
   have hi0 : (0 : Int) ≤ i:=by omega
   go_wp2
   go_loopg [3,9] 8 (fun gi v3 v9 wx=>∃ (j X : Nat),j + gi = 8 ∧ v9 = .int .i64 (j : Int) ∧ v3 = .int .u32 (X : Int) ∧ zac (X = citer j i ∧ X < 4294967296) ∧ wx = (w.alloc (.cells (zbz 0) 112)).alloc (.cells (zbz i) 112))
   case atStart=>exact ⟨0,i,rfl,rfl,by first|rfl|(rw [IntKind.wrap_u32];rw [Int.emod_eq_of_lt hi0 (by omega)])|simp,⟨rfl,by omega⟩,rfl⟩
   case round =>
    obtain ⟨j,X,hjg,rfl,rfl,HX,rfl⟩:=hrel
    cases gk with
    | zero =>
     obtain rfl : j = 8:=by omega
     have hc : (zbz i)[i]? = some (.int .u32 0):=tab_next i (by omega)
     have hset:=tab_set i (by omega)
     have hX:=HX.out.1
     subst hX
     go_wp2
     go_roundg g
     case measure=>omega
     case rel=>exact ⟨i + 1,by omega,by go_num,by first|rfl|(rw [hset])⟩
    | succ g2 =>
     have hj : (j : Int) < 8:=by omega
     have hXb : (X : Int) < 4294967296:=by have:=HX.out.2;omega
     have hX0 : (0 : Int) ≤ X:=by omega
     have hand : Go.bits .and .u32 (X : Int) 1 = ((X % 2 : Nat) : Int):=by
      have:=(bits_nat .u32 32 (by decide) (fun n a b=>wraps_u32 n a b) X 1 (by omega) (by decide)).1
      rw [Nat.and_one_is_mod] at this;exact this
     by_cases ho : X % 2 = 1
     ·have hto : (((X % 2 : Nat) : Int) == 1) = true:=beq_iff_eq.mpr (by omega)
      have hxor : Go.bits .xor .u32 ((X : Int) / 2) 2197175160 = ((cstep X : Nat) : Int):=xor_step X (by omega) ho
      have HX2:=zac.mk (show cstep X = citer (j + 1) i ∧ cstep X < 4294967296 from ⟨by rw [HX.out.1];rfl,cstep_lt X (by omega)⟩)
      clear ho hXb
      go_wp2
      go_roundg g2
      case measure=>omega
      case rel=>exact ⟨j + 1,cstep X,by omega,by go_num,rfl,HX2,rfl⟩
     ·have hto : (((X % 2 : Nat) : Int) == 1) = false:=beq_eq_false_iff_ne.mpr (by omega)
      have HX2:=zac.mk (show X / 2 = citer (j + 1) i ∧ X / 2 < 4294967296 from ⟨by show X / 2 = cstep (citer j i);rw [← HX.out.1];unfold cstep;rw [if_neg ho],by omega⟩)
      clear ho hXb
      go_wp2
      go_roundg g2
      case measure=>omega
      case rel=>exact ⟨j + 1,X / 2,by omega,by go_num,by first|rfl|(simp;done),HX2,rfl⟩
def crcFold : Nat → List Int → Nat
 | x,[]=>x
 | x,c :: t=>crcFold (x / 256 ^^^ citer 8 (x % 256 ^^^ c.toNat)) t
def crcSum (l : List Int) : Int:=4294967295 - (crcFold 4294967295 l : Int)
theorem crc_lt (x c : Nat) (hx : x < 4294967296) (hc : c < 256) : x / 256 ^^^ citer 8 (x % 256 ^^^ c) < 4294967296 :=
 Nat.xor_lt_two_pow (n:=32) (by omega) (citer_lt 8 _ (by have:=Nat.xor_lt_two_pow (n:=8) (x:=x % 256) (y:=c) (by omega) hc;omega))
theorem crcFold_lt (l : List Int) : ∀ x : Nat,x < 4294967296 → (∀ c ∈ l,0 ≤ c ∧ c ≤ 255) → crcFold x l < 4294967296:=by
 induction l with
 | nil=>intro x hx _;exact hx
 | cons c t ih =>
  intro x hx hb
  have:=hb c (by simp)
  exact ih _ (crc_lt x c.toNat hx (by omega)) (fun d hd=>hb d (by simp [hd]))
theorem bits_xor8 (a b : Nat) (ha : a < 256) (hb : b < 256) : Go.bits .xor .u8 (a : Int) (b : Int) = ((a ^^^ b : Nat) : Int):=by
 simp only [bits,BitVec.ofInt_natCast,BitVec.toNat_xor,BitVec.toNat_ofNat]
 have e1 : a % 2 ^ IntKind.u8.bits = a:=Nat.mod_eq_of_lt ha
 have e2 : b % 2 ^ IntKind.u8.bits = b:=Nat.mod_eq_of_lt hb
 rw [e1,e2]
 exact wraps_u8 _ (by omega) (by have:=Nat.xor_lt_two_pow (n:=8) ha hb;omega)
theorem xor_ones (x : Nat) (h : x < 4294967296) : Go.bits .xor .u32 4294967295 (x : Int) = 4294967295 - (x : Int):=by
 have h1:=bits_xor_nat 4294967295 x (by decide) h
 have h2 : (4294967295 : Nat) ^^^ x = 4294967295 - x:=by
  have h3 : (BitVec.allOnes 32 ^^^ BitVec.ofNat 32 x).toNat = 4294967295 - x:=by
   rw [BitVec.allOnes_xor,BitVec.toNat_not,BitVec.toNat_ofNat,Nat.mod_eq_of_lt h]
  rw [BitVec.toNat_xor,BitVec.toNat_allOnes,BitVec.toNat_ofNat,Nat.mod_eq_of_lt h] at h3
  exact h3
 rw [h2] at h1
 have h3 : Go.bits .xor .u32 4294967295 (x : Int) = ((4294967295 - x : Nat) : Int):=h1
 rw [h3];omega
set_option maxHeartbeats 8000000 in
set_option maxRecDepth 100000 in
theorem sum_calls (A0 : Option Addr) (c0 : Nat) (l0 : List Int) (w : World) (hr0 : Kd.C (Kd.int .u8) w A0 l0.length l0) (hc0 : l0.length ≤ c0) (hw : ∀ x ∈ l0,0 ≤ x ∧ x ≤ 255) :
  Calls Try.prog 67 #[.slice A0 l0.length c0] w fun e w'=>e = .returned (.int .u32 (crcSum l0)) ∧ Below w.heap.size w w':=by
 have HR0:=zac.mk hr0
 have HW:=zac.mk hw
 have hlen : l0.length ≤ 9223372036854775807:=(Kd.reads_of_C (enc:=Value.int .u8) (d:=(0 : Int)) (h1:=fun _=>rfl) hr0).2.1
 clear hr0 hc0 hw
 have hv:=(zero_of_info infoTab).1
 rw [tab_zero] at hv
 obtain ⟨R,hR⟩ : ∃ R,crcFold 4294967295 l0 = R:=⟨_,rfl⟩
 have HRR:=zac.mk hR
 have HRB:=zac.mk (show R < 4294967296 by rw [← hR];exact crcFold_lt l0 _ (by decide) HW.out)
 clear hR
 have HIN:=zac.mk (show (Try.prog.info? 112).map (·.size) = some (zbz 256).size by rw [tab_size];exact (zero_of_info infoTab).2)
 go_enter Try.func67,Try.ntmps67
 go_wp2_with (first|(go_at_call 89;refine (table_calls _).mono ?_;rintro e w1 ⟨rfl,hb⟩;have HB:=zac.mk hb;clear hb)|(with_reducible refine wpList_store_row rfl 112 (.tmp 3) (.tmp 7) rfl _ (zbz 256) rfl rfl 112 (zbz 0) (heap_alloc_last _ _) HIN.out (by rw [tab_size,tab_size]) (tab_one 256) ?_))
 rw [World.setRow_alloc_new]
 have hcell : ∀ x : Nat,x < 256 → (w1.alloc (.cells (zbz 256) 112)).cell? ⟨w1.heap.size,x,none⟩ = some (.int .u32 (citer 8 x : Int)):=fun x hx=>by
  rw [cell_of_row _ _ x (zbz 256) 112 (0,0) (heap_alloc_last _ _),tab_at x hx]
 have hbw : Below w.heap.size w (w1.alloc (.cells (zbz 256) 112)):=zae HB.out _
 obtain ⟨W,hW⟩ : ∃ W,w1.alloc (.cells (zbz 256) 112) = W:=⟨_,rfl⟩
 obtain ⟨B,hB⟩ : ∃ B,w1.heap.size = B:=⟨_,rfl⟩
 rw [hW,hB] at hcell
 rw [hW] at hbw
 rw [hW,hB]
 clear hW hB HB hv
 have HR:=zac.mk (Kd.C_below HR0.out hbw)
 have HCELL:=zac.mk hcell
 have HBW:=zac.mk hbw
 clear HR0 hcell hbw
 go_loopg [4,10] l0.length (fun gk v4 v10 wx=>∃ (x i : Nat),i + gk = l0.length ∧ v4 = .int .u32 (x : Int) ∧ v10 = .int .i64 (i : Int) ∧ zac (x < 4294967296 ∧ crcFold x (l0.drop i) = R) ∧ wx = W)
 case atStart=>exact ⟨4294967295,0,by omega,rfl,rfl,⟨by decide,by simpa using HRR.out⟩,rfl⟩
 case round =>
  obtain ⟨x,i,hik,rfl,rfl,HX,rfl⟩:=hrel
  cases gk with
  | zero =>
   have hlt : ¬ (i : Int) < (l0.length : Int):=by omega
   have hd : crcFold x (l0.drop i) = x:=by rw [List.drop_of_length_le (by omega)];rfl
   have hxR : x = R:=hd.symm.trans HX.out.2
   subst hxR
   have hones : Go.bits .xor .u32 IntKind.u32.max (x : Int) = 4294967295 - (x : Int):=xor_ones x HX.out.1
   have HFIN:=zac.mk (show (4294967295 - (x : Int)) = crcSum l0 by unfold crcSum;rw [HRR.out])
   clear hd
   rw [HFIN.out] at hones
   go_wp2
   go_ret
   exact ⟨rfl,HBW.out⟩
  | succ g =>
   have hlt : (i : Int) < (l0.length : Int):=by omega
   have hi0 : (0 : Int) ≤ i:=by omega
   obtain ⟨c,hc⟩ : ∃ c,rd l0 (i : Int) = c:=⟨_,rfl⟩
   have hget : l0[i]? = some c:=by
    rw [← hc];unfold rd;rw [Int.toNat_natCast,List.getD_eq_getElem?_getD,List.getElem?_eq_getElem (by omega)];rfl
   have hcb : 0 ≤ c ∧ c ≤ 255:=HW.out c (List.mem_of_getElem? hget)
   have hdrop : l0.drop i = c :: l0.drop (i + 1):=by
    obtain ⟨h1,h2⟩:=List.getElem?_eq_some_iff.1 hget
    rw [List.drop_eq_getElem_cons h1,h2]
   obtain ⟨ad,e115,hx⟩:=Kd.at_int HR.out (i : Int) hi0 hlt
   cases e115
   rw [hc] at hx
   rw [Int.toNat_natCast] at hx
   obtain ⟨b,rfl⟩:=Int.eq_ofNat_of_zero_le hcb.1
   have hb : b < 256:=by omega
   have HN:=zac.mk (show crcFold (x / 256 ^^^ citer 8 (x % 256 ^^^ b)) (l0.drop (i + 1)) = R by have:=HX.out.2;rw [hdrop] at this;exact this)
   have HN2:=zac.mk (crc_lt x b HX.out.1 hb)
   have h8 : Go.bits .xor .u8 ((x : Int) % 256) (b : Int) = ((x % 256 ^^^ b : Nat) : Int):=bits_xor8 (x % 256) b (by omega) hb
   have hidx : x % 256 ^^^ b < 256:=Nat.xor_lt_two_pow (n:=8) (by omega) hb
   have htab:=HCELL.out (x % 256 ^^^ b) hidx
   have hcl : citer 8 (x % 256 ^^^ b) < 4294967296:=citer_lt 8 _ (by omega)
   have hx32 : Go.bits .xor .u32 ((x : Int) / 256) ((citer 8 (x % 256 ^^^ b) : Nat) : Int) = ((x / 256 ^^^ citer 8 (x % 256 ^^^ b) : Nat) : Int):=by
    have:=bits_xor_nat (x / 256) (citer 8 (x % 256 ^^^ b)) (by have:=HX.out.1;omega) hcl;exact this
   obtain ⟨y,hy⟩ : ∃ y,x / 256 ^^^ citer 8 (x % 256 ^^^ b) = y:=⟨_,rfl⟩
   obtain ⟨t,ht⟩ : ∃ t,citer 8 (x % 256 ^^^ b) = t:=⟨_,rfl⟩
   obtain ⟨q,hq⟩ : ∃ q,x % 256 ^^^ b = q:=⟨_,rfl⟩
   rw [hy] at HN HN2 hx32
   rw [hq] at h8 htab hidx hx32
   rw [hq] at ht
   rw [ht] at htab hx32
   have hx0 : (0 : Int) ≤ x:=by omega
   have hb0 : (0 : Int) ≤ b:=by omega
   have hb1 : (b : Int) < 256:=by omega
   have hq0 : (0 : Int) ≤ q:=by omega
   have hq1 : (q : Int) < 256:=by omega
   clear hy ht hq hc hget hcb hdrop hcl hb
   go_wp2
   go_roundg g
   case measure=>omega
   case rel=>exact ⟨y,i + 1,by omega,rfl,by go_num,⟨HN2.out,HN.out⟩,rfl⟩
def wire_Checksum.f (l0 : List Int) : Option Int:=if ∀ x ∈ l0,0 ≤ x ∧ x ≤ 255 then some (crcSum l0) else none
theorem wire_Checksum.calls (A0 : Option Addr) (c0 : Nat) (l0 : List Int) (r : Int) (w : World) (hr0 : Kd.C (Kd.int .u8) w A0 l0.length l0) (hc0 : l0.length ≤ c0) (h : wire_Checksum.f l0 = some r) :
  Calls Try.prog 67 #[.slice A0 l0.length c0] w fun e w'=>e = .returned (.int .u32 r) ∧ Below w.heap.size w w':=by
 unfold wire_Checksum.f at h
 split at h
 ·rename_i hb
  obtain rfl:=Option.some.inj h
  exact sum_calls A0 c0 l0 w hr0 hc0 hb
 ·exact absurd h (by simp)
end Go.Proofs.Ytepnddmalheoiaa.H
namespace Go.Proofs.Ytepnddmalheoiaa.K
open Go.Proofs.Ytepnddmalheoiaa.H
open Go.RowKit Go.Proofs.YtepnddmalheoiaaW.PrintWords Go.Proofs.YtepnddmalheoiaaW.PrintLast Go.Proofs.YtepnddmalheoiaaW.PrintMore
attribute [local go_sem] str_leq str_geq str_gtr max2_int min2_int max_two min_two max_three min_three max_four min_four   -- for this text's walks alone
theorem info5 : (Try.prog.info? 5).map (fun i=>(i.zero,i.size,i.bytes)) = some (some (.int .u8 0),1,1):=by kernel_rfl
end Go.Proofs.Ytepnddmalheoiaa.K
namespace Go.Proofs.Ytepnddmalheoiaa.K
open Go.Proofs.Ytepnddmalheoiaa.H
open Go.RowKit Go.Proofs.YtepnddmalheoiaaW.PrintWords Go.Proofs.YtepnddmalheoiaaW.PrintLast Go.Proofs.YtepnddmalheoiaaW.PrintMore
attribute [local go_sem] str_leq str_geq str_gtr max2_int min2_int max_two min_two max_three min_three max_four min_four   -- for this text's walks alone
def text_lower.f (a0 : Int) : Option (Bool):=if a0 ≥ 97 then (some (decide (a0 ≤ 122))) else (some false)
set_option maxHeartbeats 8000000 in
set_option maxRecDepth 100000 in
theorem text_lower.calls (a0 : Int) (r : Bool) (w : World) (h : text_lower.f a0 = some r) :
  Calls Try.prog 81 #[.int .u8 a0] w fun e w'=>e = .returned (.bool r) ∧ zay w w':=by
 have H : (if a0 ≥ 97 then (some (decide (a0 ≤ 122))) else (some false)) = some r:=h
 clear h
 by_cases c2 : a0 ≥ 97
 ·rw [if_pos c2] at H
  have c2b0 : decide (97 ≤ a0) = true:=decide_eq_true c2
  clear c2
  obtain rfl:=Option.some.inj H
  go_enter Try.func81,Try.ntmps81
  go_wp2
  go_ret
  exact ⟨by first|rfl|(simp;done)|(simp [*];done),by repeat (first|exact zay.refl _|apply zay.step)⟩
 ·rw [if_neg c2] at H
  have c2b0 : decide (97 ≤ a0) = false:=decide_eq_false c2
  clear c2
  obtain rfl:=Option.some.inj H
  go_enter Try.func81,Try.ntmps81
  go_wp2
  go_ret
  exact ⟨by first|rfl|(simp;done)|(simp [*];done),by repeat (first|exact zay.refl _|apply zay.step)⟩
def text_digit.f (a0 : Int) : Option (Bool):=if a0 ≥ 48 then (some (decide (a0 ≤ 57))) else (some false)
set_option maxHeartbeats 8000000 in
set_option maxRecDepth 100000 in
theorem text_digit.calls (a0 : Int) (r : Bool) (w : World) (h : text_digit.f a0 = some r) :
  Calls Try.prog 84 #[.int .u8 a0] w fun e w'=>e = .returned (.bool r) ∧ zay w w':=by
 have H : (if a0 ≥ 48 then (some (decide (a0 ≤ 57))) else (some false)) = some r:=h
 clear h
 by_cases c2 : a0 ≥ 48
 ·rw [if_pos c2] at H
  have c2b0 : decide (48 ≤ a0) = true:=decide_eq_true c2
  clear c2
  obtain rfl:=Option.some.inj H
  go_enter Try.func84,Try.ntmps84
  go_wp2
  go_ret
  exact ⟨by first|rfl|(simp;done)|(simp [*];done),by repeat (first|exact zay.refl _|apply zay.step)⟩
 ·rw [if_neg c2] at H
  have c2b0 : decide (48 ≤ a0) = false:=decide_eq_false c2
  clear c2
  obtain rfl:=Option.some.inj H
  go_enter Try.func84,Try.ntmps84
  go_wp2
  go_ret
  exact ⟨by first|rfl|(simp;done)|(simp [*];done),by repeat (first|exact zay.refl _|apply zay.step)⟩
def text_IsName_1.f (a0 : Int) : Option (Bool):=(text_lower.f a0).bind fun t101=>(if t101 = true then (some true) else ((text_digit.f a0).bind fun t102=>(if t102 = true then (some true) else (some (a0 == 95)))))
set_option maxHeartbeats 8000000 in
set_option maxRecDepth 100000 in
theorem text_IsName_1.calls (a0 : Int) (r : Bool) (w : World) (h : text_IsName_1.f a0 = some r) :
  Calls Try.prog 83 #[.int .u8 a0] w fun e w'=>e = .returned (.bool r) ∧ zay w w':=by
 have H : ((text_lower.f a0).bind fun t101=>(if t101 = true then (some true) else ((text_digit.f a0).bind fun t102=>(if t102 = true then (some true) else (some (a0 == 95)))))) = some r:=h
 clear h
 replace H:=Option.bind_eq_some_iff.mp H
 obtain ⟨t101,A20,H⟩:=H
 replace H : (if t101 = true then (some true) else ((text_digit.f a0).bind fun t102=>(if t102 = true then (some true) else (some (a0 == 95))))) = some r:=H
 have A2:=zac.mk A20
 clear A20
 by_cases c3 : t101 = true
 ·subst c3
  have H1 : (some true) = some r:=by rw [if_pos rfl] at H;exact H
  clear H
  have H:=H1
  clear H1
  obtain rfl:=Option.some.inj H
  go_enter Try.func83,Try.ntmps83
  go_wp2_with (first|((with_reducible refine zbe (f:=81) rfl ?_);refine zce (some 4) rfl rfl Try.func81 (by kernel_rfl) rfl #[.int .u8 a0] rfl (by (try simp only [List.map_toArray,List.map_cons,List.map_nil]);first|done|rfl|(simp only [List.length_drop,List.length_take];rfl)) ?_;(with_reducible refine (text_lower.calls a0 true _ A2.out).mono ?_);rintro e w' ⟨rfl,⟨nd,rfl⟩⟩;refine ⟨_,rfl,?_⟩))
  go_ret
  exact ⟨by first|rfl|(simp;done)|(simp [*];done),by repeat (first|exact zay.refl _|apply zay.step)⟩
 ·replace c3:=Bool.eq_false_iff.mpr c3
  subst c3
  have H1 : ((text_digit.f a0).bind fun t102=>(if t102 = true then (some true) else (some (a0 == 95)))) = some r:=by rw [if_neg (show ¬ (false = true) by decide)] at H;exact H
  clear H
  have H:=H1
  clear H1
  replace H:=Option.bind_eq_some_iff.mp H
  obtain ⟨t102,A40,H⟩:=H
  replace H : (if t102 = true then (some true) else (some (a0 == 95))) = some r:=H
  have A4:=zac.mk A40
  clear A40
  by_cases c5 : t102 = true
  ·subst c5
   have H1 : (some true) = some r:=by rw [if_pos rfl] at H;exact H
   clear H
   have H:=H1
   clear H1
   obtain rfl:=Option.some.inj H
   go_enter Try.func83,Try.ntmps83
   go_wp2_with (first|((with_reducible refine zbe (f:=81) rfl ?_);refine zce (some 4) rfl rfl Try.func81 (by kernel_rfl) rfl #[.int .u8 a0] rfl (by (try simp only [List.map_toArray,List.map_cons,List.map_nil]);first|done|rfl|(simp only [List.length_drop,List.length_take];rfl)) ?_;(with_reducible refine (text_lower.calls a0 false _ A2.out).mono ?_);rintro e w' ⟨rfl,⟨nd,rfl⟩⟩;refine ⟨_,rfl,?_⟩)|(go_at_call 84;(with_reducible refine (text_digit.calls a0 true _ A4.out).mono ?_);rintro e w' ⟨rfl,⟨nd,rfl⟩⟩))
   go_ret
   exact ⟨by first|rfl|(simp;done)|(simp [*];done),by repeat (first|exact zay.refl _|apply zay.step)⟩
  ·replace c5:=Bool.eq_false_iff.mpr c5
   subst c5
   have H1 : (some (a0 == 95)) = some r:=by rw [if_neg (show ¬ (false = true) by decide)] at H;exact H
   clear H
   have H:=H1
   clear H1
   obtain rfl:=Option.some.inj H
   go_enter Try.func83,Try.ntmps83
   go_wp2_with (first|((with_reducible refine zbe (f:=81) rfl ?_);refine zce (some 4) rfl rfl Try.func81 (by kernel_rfl) rfl #[.int .u8 a0] rfl (by (try simp only [List.map_toArray,List.map_cons,List.map_nil]);first|done|rfl|(simp only [List.length_drop,List.length_take];rfl)) ?_;(with_reducible refine (text_lower.calls a0 false _ A2.out).mono ?_);rintro e w' ⟨rfl,⟨nd,rfl⟩⟩;refine ⟨_,rfl,?_⟩)|(go_at_call 84;(with_reducible refine (text_digit.calls a0 false _ A4.out).mono ?_);rintro e w' ⟨rfl,⟨nd,rfl⟩⟩))
   go_ret
   exact ⟨by first|rfl|(simp;done)|(simp [*];done),by repeat (first|exact zay.refl _|apply zay.step)⟩
def text_upper.f (a0 : Int) : Option (Bool):=if a0 ≥ 65 then (some (decide (a0 ≤ 90))) else (some false)
set_option maxHeartbeats 8000000 in
set_option maxRecDepth 100000 in
theorem text_upper.calls (a0 : Int) (r : Bool) (w : World) (h : text_upper.f a0 = some r) :
  Calls Try.prog 85 #[.int .u8 a0] w fun e w'=>e = .returned (.bool r) ∧ zay w w':=by
 have H : (if a0 ≥ 65 then (some (decide (a0 ≤ 90))) else (some false)) = some r:=h
 clear h
 by_cases c2 : a0 ≥ 65
 ·rw [if_pos c2] at H
  have c2b0 : decide (65 ≤ a0) = true:=decide_eq_true c2
  clear c2
  obtain rfl:=Option.some.inj H
  go_enter Try.func85,Try.ntmps85
  go_wp2
  go_ret
  exact ⟨by first|rfl|(simp;done)|(simp [*];done),by repeat (first|exact zay.refl _|apply zay.step)⟩
 ·rw [if_neg c2] at H
  have c2b0 : decide (65 ≤ a0) = false:=decide_eq_false c2
  clear c2
  obtain rfl:=Option.some.inj H
  go_enter Try.func85,Try.ntmps85
  go_wp2
  go_ret
  exact ⟨by first|rfl|(simp;done)|(simp [*];done),by repeat (first|exact zay.refl _|apply zay.step)⟩
def text_IsCode_1.f (a0 : Int) : Option (Bool):=(text_upper.f a0).bind fun t103=>(if t103 = true then (some true) else ((text_digit.f a0).bind fun t104=>(some t104)))
set_option maxHeartbeats 8000000 in
set_option maxRecDepth 100000 in
theorem text_IsCode_1.calls (a0 : Int) (r : Bool) (w : World) (h : text_IsCode_1.f a0 = some r) :
  Calls Try.prog 86 #[.int .u8 a0] w fun e w'=>e = .returned (.bool r) ∧ zay w w':=by
 have H : ((text_upper.f a0).bind fun t103=>(if t103 = true then (some true) else ((text_digit.f a0).bind fun t104=>(some t104)))) = some r:=h
 clear h
 replace H:=Option.bind_eq_some_iff.mp H
 obtain ⟨t103,A20,H⟩:=H
 replace H : (if t103 = true then (some true) else ((text_digit.f a0).bind fun t104=>(some t104))) = some r:=H
 have A2:=zac.mk A20
 clear A20
 by_cases c3 : t103 = true
 ·subst c3
  have H1 : (some true) = some r:=by rw [if_pos rfl] at H;exact H
  clear H
  have H:=H1
  clear H1
  obtain rfl:=Option.some.inj H
  go_enter Try.func86,Try.ntmps86
  go_wp2_with (first|((with_reducible refine zbe (f:=85) rfl ?_);refine zce (some 4) rfl rfl Try.func85 (by kernel_rfl) rfl #[.int .u8 a0] rfl (by (try simp only [List.map_toArray,List.map_cons,List.map_nil]);first|done|rfl|(simp only [List.length_drop,List.length_take];rfl)) ?_;(with_reducible refine (text_upper.calls a0 true _ A2.out).mono ?_);rintro e w' ⟨rfl,⟨nd,rfl⟩⟩;refine ⟨_,rfl,?_⟩))
  go_ret
  exact ⟨by first|rfl|(simp;done)|(simp [*];done),by repeat (first|exact zay.refl _|apply zay.step)⟩
 ·replace c3:=Bool.eq_false_iff.mpr c3
  subst c3
  have H1 : ((text_digit.f a0).bind fun t104=>(some t104)) = some r:=by rw [if_neg (show ¬ (false = true) by decide)] at H;exact H
  clear H
  have H:=H1
  clear H1
  replace H:=Option.bind_eq_some_iff.mp H
  obtain ⟨t104,A40,H⟩:=H
  replace H : (some t104) = some r:=H
  have A4:=zac.mk A40
  clear A40
  obtain rfl:=Option.some.inj H
  go_enter Try.func86,Try.ntmps86
  go_wp2_with (first|((with_reducible refine zbe (f:=85) rfl ?_);refine zce (some 4) rfl rfl Try.func85 (by kernel_rfl) rfl #[.int .u8 a0] rfl (by (try simp only [List.map_toArray,List.map_cons,List.map_nil]);first|done|rfl|(simp only [List.length_drop,List.length_take];rfl)) ?_;(with_reducible refine (text_upper.calls a0 false _ A2.out).mono ?_);rintro e w' ⟨rfl,⟨nd,rfl⟩⟩;refine ⟨_,rfl,?_⟩)|(go_at_call 84;(with_reducible refine (text_digit.calls a0 t104 _ A4.out).mono ?_);rintro e w' ⟨rfl,⟨nd,rfl⟩⟩))
  go_ret
  exact ⟨by first|rfl|(simp;done)|(simp [*];done),by repeat (first|exact zay.refl _|apply zay.step)⟩
def wire_DecodeInt.f (l0 : List Int) : Option (Int × Int × Int):=(zbt.f l0).bind fun bt105=>(if bt105.2.2 = 0 then (if (Int.tmod bt105.1 2) = 1 then (some (wrap64 ((wrap64 (-(wrap64 (Int.tdiv bt105.1 2)))) - 1),bt105.2.1,0)) else (some (wrap64 (Int.tdiv bt105.1 2),bt105.2.1,0))) else (some (0,0,bt105.2.2)))
set_option maxHeartbeats 8000000 in
set_option maxRecDepth 100000 in
theorem wire_DecodeInt.calls (A0 : Option Addr) (c0 : Nat) (l0 : List Int) (r1 : Int) (r2 : Int) (r3 : Int) (w : World) (hr0 : Kd.C (Kd.int .u8) w A0 l0.length l0) (hc0 : l0.length ≤ c0) (h : wire_DecodeInt.f l0 = some (r1,r2,r3)) :
  Calls Try.prog 93 #[.slice A0 l0.length c0] w fun e w'=>e = .returned (.tuple #[.int .i64 r1,.int .i64 r2,.int .i64 r3]) ∧ zay w w':=by
 have HR0:=zac.mk hr0
 have HC0:=zac.mk hc0
 clear hr0 hc0
 have H : ((zbt.f l0).bind fun bt105=>(if bt105.2.2 = 0 then (if (Int.tmod bt105.1 2) = 1 then (some (wrap64 ((wrap64 (-(wrap64 (Int.tdiv bt105.1 2)))) - 1),bt105.2.1,0)) else (some (wrap64 (Int.tdiv bt105.1 2),bt105.2.1,0))) else (some (0,0,bt105.2.2)))) = some (r1,r2,r3):=h
 clear h
 replace H:=Option.bind_eq_some_iff.mp H
 obtain ⟨⟨t105,t106,t107⟩,A20,H⟩:=H
 replace H : (if t107 = 0 then (if (Int.tmod t105 2) = 1 then (some (wrap64 ((wrap64 (-(wrap64 (Int.tdiv t105 2)))) - 1),t106,0)) else (some (wrap64 (Int.tdiv t105 2),t106,0))) else (some (0,0,t107))) = some (r1,r2,r3):=H
 have A2:=zac.mk A20
 clear A20
 by_cases c3 : t107 = 0
 ·rw [if_pos c3] at H
  have c3b0 : (t107 == 0) = true:=beq_iff_eq.mpr c3
  have c3b1 : (t107 != 0) = false:=bne_eq_false_iff_eq.mpr c3
  clear c3
  by_cases c4 : (Int.tmod t105 2) = 1
  ·rw [if_pos c4] at H
   have c4b0 : ((Int.tmod t105 2) == 1) = true:=beq_iff_eq.mpr c4
   have c4b1 : ((Int.tmod t105 2) != 1) = false:=bne_eq_false_iff_eq.mpr c4
   clear c4
   simp only [Option.some.injEq,Prod.mk.injEq] at H
   obtain ⟨rfl,rfl,rfl⟩:=H
   go_enter Try.func93,Try.ntmps93
   go_wp2_with (first|((with_reducible refine zbe (f:=73) rfl ?_);refine zce (some 7) rfl rfl Try.func73 (by kernel_rfl) rfl #[.slice A0 l0.length c0] rfl (by (try simp only [List.map_toArray,List.map_cons,List.map_nil]);first|done|rfl|(simp only [List.length_drop,List.length_take];rfl)) ?_;(with_reducible refine (zbt.calls _ _ l0 t105 t106 t107 _ ?side1 ?side2 A2.out).mono ?_);(case side1=>repeat (first|exact HR0.out|(with_reducible refine Kd.C_alloc ?_ _)|(with_reducible refine Kd.C_drewN ?_ _)|(with_reducible refine Kd.C_drew ?_)));(case side2=>exact HC0.out);rintro e w' ⟨rfl,⟨nd,rfl⟩⟩;refine ⟨_,rfl,?_⟩))
   go_ret3
   exact ⟨by first|rfl|(simp;done)|(simp [*];done),by repeat (first|exact zay.refl _|apply zay.step)⟩
  ·rw [if_neg c4] at H
   have c4b0 : ((Int.tmod t105 2) == 1) = false:=beq_eq_false_iff_ne.mpr c4
   have c4b1 : ((Int.tmod t105 2) != 1) = true:=bne_iff_ne.mpr c4
   simp only [Option.some.injEq,Prod.mk.injEq] at H
   obtain ⟨rfl,rfl,rfl⟩:=H
   go_enter Try.func93,Try.ntmps93
   go_wp2_with (first|((with_reducible refine zbe (f:=73) rfl ?_);refine zce (some 7) rfl rfl Try.func73 (by kernel_rfl) rfl #[.slice A0 l0.length c0] rfl (by (try simp only [List.map_toArray,List.map_cons,List.map_nil]);first|done|rfl|(simp only [List.length_drop,List.length_take];rfl)) ?_;(with_reducible refine (zbt.calls _ _ l0 t105 t106 t107 _ ?side1 ?side2 A2.out).mono ?_);(case side1=>repeat (first|exact HR0.out|(with_reducible refine Kd.C_alloc ?_ _)|(with_reducible refine Kd.C_drewN ?_ _)|(with_reducible refine Kd.C_drew ?_)));(case side2=>exact HC0.out);rintro e w' ⟨rfl,⟨nd,rfl⟩⟩;refine ⟨_,rfl,?_⟩))
   go_ret3
   exact ⟨by first|rfl|(simp;done)|(simp [*];done),by repeat (first|exact zay.refl _|apply zay.step)⟩
 ·rw [if_neg c3] at H
  have c3b0 : (t107 == 0) = false:=beq_eq_false_iff_ne.mpr c3
  have c3b1 : (t107 != 0) = true:=bne_iff_ne.mpr c3
  simp only [Option.some.injEq,Prod.mk.injEq] at H
  obtain ⟨rfl,rfl,rfl⟩:=H
  go_enter Try.func93,Try.ntmps93
  go_wp2_with (first|((with_reducible refine zbe (f:=73) rfl ?_);refine zce (some 7) rfl rfl Try.func73 (by kernel_rfl) rfl #[.slice A0 l0.length c0] rfl (by (try simp only [List.map_toArray,List.map_cons,List.map_nil]);first|done|rfl|(simp only [List.length_drop,List.length_take];rfl)) ?_;(with_reducible refine (zbt.calls _ _ l0 t105 t106 t107 _ ?side1 ?side2 A2.out).mono ?_);(case side1=>repeat (first|exact HR0.out|(with_reducible refine Kd.C_alloc ?_ _)|(with_reducible refine Kd.C_drewN ?_ _)|(with_reducible refine Kd.C_drew ?_)));(case side2=>exact HC0.out);rintro e w' ⟨rfl,⟨nd,rfl⟩⟩;refine ⟨_,rfl,?_⟩))
  go_ret3
  exact ⟨by first|rfl|(simp;done)|(simp [*];done),by repeat (first|exact zay.refl _|apply zay.step)⟩
def wire_DecodeText.f (l0 : List Int) : Option (ByteArray × Int × Int):=(zbt.f l0).bind fun bt108=>(if bt108.2.2 = 0 then (if bt108.1 > 20000 then (some ((⟨#[]⟩ : ByteArray),0,2)) else (if bt108.1 > (wrap64 ((l0.length : Int) - bt108.2.1)) then (some ((⟨#[]⟩ : ByteArray),0,3)) else (if 0 ≤ bt108.2.1 then (if bt108.2.1 ≤ (wrap64 (bt108.2.1 + bt108.1)) then (if (wrap64 (bt108.2.1 + bt108.1)) ≤ (l0.length : Int) then (some (strOfNums ((l0.take ((wrap64 (bt108.2.1 + bt108.1)) : Int).toNat).drop (bt108.2.1 : Int).toNat),wrap64 (bt108.2.1 + bt108.1),0)) else (none)) else (none)) else (none)))) else (some ((⟨#[]⟩ : ByteArray),0,bt108.2.2)))
set_option maxHeartbeats 8000000 in
set_option maxRecDepth 100000 in
theorem wire_DecodeText.calls (A0 : Option Addr) (c0 : Nat) (l0 : List Int) (r1 : ByteArray) (r2 : Int) (r3 : Int) (w : World) (hr0 : Kd.C (Kd.int .u8) w A0 l0.length l0) (hc0 : l0.length ≤ c0) (h : wire_DecodeText.f l0 = some (r1,r2,r3)) :
  Calls Try.prog 91 #[.slice A0 l0.length c0] w fun e w'=>e = .returned (.tuple #[.string r1,.int .i64 r2,.int .i64 r3]) ∧ zay w w':=by
 have HR0:=zac.mk hr0
 have HC0:=zac.mk hc0
 unfold wire_DecodeText.f at h
 obtain ⟨⟨n1,k1,e⟩,h1,h2⟩:=Option.bind_eq_some_iff.mp h
 replace h2 : (if e = 0 then (if n1 > 20000 then (some ((⟨#[]⟩ : ByteArray),(0 : Int),(2 : Int))) else (if n1 > (wrap64 ((l0.length : Int) - k1)) then (some ((⟨#[]⟩ : ByteArray),0,3)) else (if 0 ≤ k1 then (if k1 ≤ (wrap64 (k1 + n1)) then (if (wrap64 (k1 + n1)) ≤ (l0.length : Int) then (some (strOfNums ((l0.take ((wrap64 (k1 + n1)) : Int).toNat).drop (k1 : Int).toNat),wrap64 (k1 + n1),0)) else (none)) else (none)) else (none)))) else (some ((⟨#[]⟩ : ByteArray),0,e))) = some (r1,r2,r3):=h2
 have A1:=zac.mk h1
 clear h h1
 obtain ⟨T,hT⟩ : ∃ T,wrap64 (k1 + n1) = T:=⟨_,rfl⟩
 obtain ⟨S,hS⟩ : ∃ S,wrap64 ((l0.length : Int) - k1) = S:=⟨_,rfl⟩
 rw [hT,hS] at h2
 by_cases c1 : e = 0
 ·rw [if_pos c1] at h2
  have c1b : (e == 0) = true:=beq_iff_eq.mpr c1
  have c1c : (e != 0) = false:=bne_eq_false_iff_eq.mpr c1
  clear c1
  by_cases c2 : n1 > 20000
  ·rw [if_pos c2] at h2
   have c2b : decide (20000 < n1) = true:=decide_eq_true c2
   simp only [Option.some.injEq,Prod.mk.injEq] at h2
   obtain ⟨rfl,rfl,rfl⟩:=h2
   clear hr0 hc0 c2
   go_enter Try.func91,Try.ntmps91
   go_wp2_with fail
   refine (zbt.calls _ _ l0 n1 k1 e _ HR0.out HC0.out A1.out).mono ?_
   rintro e_ w1 ⟨rfl,⟨nd,rfl⟩⟩
   go_wp2
   go_ret3
   exact ⟨rfl,by repeat (first|exact zay.refl _|apply zay.step)⟩
  ·rw [if_neg c2] at h2
   have c2b : decide (20000 < n1) = false:=decide_eq_false c2
   clear c2
   by_cases c3 : n1 > S
   ·rw [if_pos c3] at h2
    have c3b : decide (S < n1) = true:=decide_eq_true c3
    simp only [Option.some.injEq,Prod.mk.injEq] at h2
    obtain ⟨rfl,rfl,rfl⟩:=h2
    clear hr0 hc0 c3
    go_enter Try.func91,Try.ntmps91
    go_wp2_with fail
    refine (zbt.calls _ _ l0 n1 k1 e _ HR0.out HC0.out A1.out).mono ?_
    rintro e_ w1 ⟨rfl,⟨nd,rfl⟩⟩
    go_wp2
    go_ret3
    exact ⟨rfl,by repeat (first|exact zay.refl _|apply zay.step)⟩
   ·rw [if_neg c3] at h2
    have c3b : decide (S < n1) = false:=decide_eq_false c3
    clear c3
    by_cases c4 : 0 ≤ k1
    ·rw [if_pos c4] at h2
     by_cases c5 : k1 ≤ T
     ·rw [if_pos c5] at h2
      by_cases c6 : T ≤ (l0.length : Int)
      ·rw [if_pos c6] at h2
       simp only [Option.some.injEq,Prod.mk.injEq] at h2
       obtain ⟨rfl,rfl,rfl⟩:=h2
       obtain ⟨i0,hi,_,hs,_⟩:=info_parts infoB
       obtain ⟨A9,hcut,hA,hC⟩:=print_mid_of (P:=Try.prog) (Value.int .u8) 0 46 5 .i64 .i64 Try.underlying46 hi hs A0 c0 l0 k1 T c4 c5 c6 hc0
       have HR:=Kd.C_of_reads (h1:=fun _=>rfl) (hA _ (Kd.reads_of_C hr0))
       have hcv:=fun (nq : Nat)=>Kd.C_string (P:=Try.prog) (A:=A9) (c:=(c0 - k1.toNat)) Try.underlying46 Try.underlying5 Try.underlying9 (Kd.C_drewN HR nq)
       obtain ⟨L,hL⟩ : ∃ L,((l0.take T.toNat).drop k1.toNat).length = L:=⟨_,rfl⟩
       obtain ⟨X,hX⟩ : ∃ X,strOfNums ((l0.take T.toNat).drop k1.toNat) = X:=⟨_,rfl⟩
       rw [hL] at hcut
       rw [hL,hX] at hcv
       rw [hX]
       clear hr0 hc0 hA hC hi hs HR hL hX c4 c5 c6
       go_enter Try.func91,Try.ntmps91
       go_wp2_with fail
       refine (zbt.calls _ _ l0 n1 k1 e _ HR0.out HC0.out A1.out).mono ?_
       rintro e_ w1 ⟨rfl,⟨nd,rfl⟩⟩
       go_wp2
       go_ret3
       exact ⟨by first|rfl|(rw [← hT];rfl),by repeat (first|exact zay.refl _|apply zay.step)⟩
      ·rw [if_neg c6] at h2;exact absurd h2 (by simp)
     ·rw [if_neg c5] at h2;exact absurd h2 (by simp)
    ·rw [if_neg c4] at h2;exact absurd h2 (by simp)
 ·rw [if_neg c1] at h2
  have c1b : (e == 0) = false:=beq_eq_false_iff_ne.mpr c1
  have c1c : (e != 0) = true:=bne_iff_ne.mpr c1
  simp only [Option.some.injEq,Prod.mk.injEq] at h2
  obtain ⟨rfl,rfl,rfl⟩:=h2
  clear hr0 hc0 c1
  go_enter Try.func91,Try.ntmps91
  go_wp2_with fail
  refine (zbt.calls _ _ l0 n1 k1 e _ HR0.out HC0.out A1.out).mono ?_
  rintro e_ w1 ⟨rfl,⟨nd,rfl⟩⟩
  go_wp2
  go_ret3
  exact ⟨rfl,by repeat (first|exact zay.refl _|apply zay.step)⟩
mutual
def wire_EncodeUint.j0 : Nat → Int → Bool → Option (List Int × Int)
 | 0,_,_=>none
 | k + 1,x0,x10=>if x10 = true then (some (([] : List Int),5)) else (wire_EncodeUint.l0 k x0 ([] : List Int))
def wire_EncodeUint.l0 : Nat → Int → List Int → Option (List Int × Int)
 | 0,_,_=>none
 | k + 1,x0,x4=>if x0 > 127 then (if x4.length < 140737488355328 then (wire_EncodeUint.l0 k (x0 / 128) (x4 ++ [Go.bits .or .u8 ((x0) % 256) 128])) else (none)) else (if x4.length < 140737488355328 then (some ((x4 ++ [(x0) % 256]),0)) else (none))
end
def wire_EncodeUint.f (k : Nat) (a0 : Int) : Option (List Int × Int):=if a0 < 0 then (wire_EncodeUint.j0 k a0 true) else (wire_EncodeUint.j0 k a0 (decide (a0 > 4611686018427387904)))
set_option maxHeartbeats 8000000 in
set_option maxRecDepth 100000 in
theorem wire_EncodeUint.calls (k : Nat) (a0 : Int) (r1 : List Int) (r2 : Int) (w : World) (h : wire_EncodeUint.f k a0 = some (r1,r2)) :
  Calls Try.prog 64 #[.int .i64 a0] w fun e w'=>∃ v0_ : Value,e = .returned (.tuple #[v0_,.int .i64 r2]) ∧ Kd.R (Kd.int .u8) 5 w' w.heap.size (fun _=>True) v0_ r1 ∧ Below w.heap.size w w':=by
 have HB:=zac.mk (Below.refl w.heap.size w)
 have H : (if a0 < 0 then (wire_EncodeUint.j0 k a0 true) else (wire_EncodeUint.j0 k a0 (decide (a0 > 4611686018427387904)))) = some (r1,r2):=h
 clear h
 have HC2:=zac.mk H
 clear H
 go_enter Try.func64,Try.ntmps64
 go_upto_region 1 with (fail)
 go_cut [10] (fun v10 wc=>∃ (kq : Nat) (x10_1 : Bool),v10 = .bool x10_1 ∧ zac (wire_EncodeUint.j0 kq a0 x10_1 = some (r1,r2)) ∧ zac (kq ≤ k) ∧ zac (Below w.heap.size w wc))
 case first =>
  have H:=HC2.out
  clear HC2
  by_cases c3 : a0 < 0
  ·rw [if_pos c3] at H
   have c3b0 : decide (a0 < 0) = true:=decide_eq_true c3
   clear c3
   (first|rw [c3b0]|(simp only [i64_w,i32_w];rw [c3b0])|skip)
   have H':=zac.mk H
   clear H
   go_wp2
   go_meet
   case rel=>exact ⟨_,(true),(by first|rfl|(simp;done)|(simp [*];done)),H',⟨by first|omega|exact Nat.le_refl _⟩,⟨by repeat (first|(with_reducible first|exact HB.out|apply zae|apply zab|apply zaf)|exact HB.out)⟩⟩
  ·rw [if_neg c3] at H
   have c3b0 : decide (a0 < 0) = false:=decide_eq_false c3
   clear c3
   (first|rw [c3b0]|(simp only [i64_w,i32_w];rw [c3b0])|skip)
   have H':=zac.mk H
   clear H
   go_wp2
   go_meet
   case rel=>exact ⟨_,(decide (a0 > 4611686018427387904)),(by first|rfl|(simp;done)|(simp [*];done)),H',⟨by first|omega|exact Nat.le_refl _⟩,⟨by repeat (first|(with_reducible first|exact HB.out|apply zae|apply zab|apply zaf)|exact HB.out)⟩⟩
 case rest =>
  clear HC2
  obtain ⟨kq,x10_1,rfl,HA,HJ1,HB⟩:=hcut
  cases kq with
  | zero=>exact absurd HA.out (by simp [wire_EncodeUint.j0])
  | succ kj1 =>
   have H:=HA.out
   clear HA
   simp only [wire_EncodeUint.j0] at H
   by_cases c4 : x10_1 = true
   ·subst c4
    have H1 : (some (([] : List Int),5)) = some (r1,r2):=by rw [if_pos rfl] at H;exact H
    clear H
    have H:=H1
    clear H1
    simp only [Option.some.injEq,Prod.mk.injEq] at H
    obtain ⟨rfl,rfl⟩:=H
    go_wp2
    go_ret2
    exact ⟨_,by first|rfl|(simp [errW_none,errW_some] <;> rfl)|(simp [*,errW_none,errW_some] <;> rfl),by first|exact Kd.R_nil _ _ _ _ _|exact Kd.N_nil _ _ _ _ _|exact Kd.V_nil _ _ _ _ _|exact Kd.Q_nil _ _ _ _ _|exact Kd.S_nil _ _ _ _ _,by repeat (first|(with_reducible first|exact HB.out|apply zae|apply zab|apply zaf)|exact HB.out)⟩
   ·replace c4:=Bool.eq_false_iff.mpr c4
    subst c4
    have H1 : (wire_EncodeUint.l0 kj1 a0 ([] : List Int)) = some (r1,r2):=by rw [if_neg (show ¬ (false = true) by decide)] at H;exact H
    clear H
    have H:=H1
    clear H1
    have H':=zac.mk H
    clear H
    go_wp2
    go_loopg [0,4] kj1 (fun kq v0 v4 w'=>∃ (x0_2 : Int) (x4_2 : List Int),v0 = .int .i64 x0_2 ∧ zac (wire_EncodeUint.l0 kq x0_2 x4_2 = some (r1,r2)) ∧ zac (kq ≤ kj1) ∧ zac (Kd.R (Kd.int .u8) 5 w' w.heap.size (fun _=>True) v4 x4_2) ∧ zac (Below w.heap.size w w'))
    case atStart=>exact ⟨(a0),(([] : List Int)),(by first|rfl|(simp;done)|(simp [*];done)),H',⟨Nat.le_refl _⟩,⟨by first|exact Kd.R_nil _ _ _ _ _|exact Kd.N_nil _ _ _ _ _|exact Kd.V_nil _ _ _ _ _|exact Kd.Q_nil _ _ _ _ _|exact Kd.S_nil _ _ _ _ _⟩,⟨by repeat (first|(with_reducible first|exact HB.out|apply zae|apply zab|apply zaf)|exact HB.out)⟩⟩
    case round =>
     clear H'
     try clear c4
     obtain ⟨x0_2,x4_2,rfl,HA,HK2,HO_4,HB⟩:=hrel
     cases gk with
     | zero=>exact absurd HA.out (by simp [wire_EncodeUint.l0])
     | succ k2 =>
      have H:=HA.out
      clear HA
      simp only [wire_EncodeUint.l0] at H
      by_cases c5 : x0_2 > 127
      ·rw [if_pos c5] at H
       have c5b0 : decide (127 < x0_2) = true:=decide_eq_true c5
       clear c5
       by_cases c6 : x4_2.length < 140737488355328
       ·rw [if_pos c6] at H
        have LMc6:=zac.mk c6
        clear c6
        obtain ⟨y112,hy112⟩ : ∃ y_ : List Int,y_ = (x4_2 ++ [Go.bits .or .u8 ((x0_2) % 256) 128]):=⟨_,rfl⟩
        replace H : (wire_EncodeUint.l0 k2 (x0_2 / 128) y112) = some (r1,r2):=by first|(rw [hy112];with_reducible exact H)|(have H2_:=(Option.bind_some _ _).symm.trans H;rw [hy112];with_reducible exact H2_)|(have H2_:=(Option.bind_some _ _).symm.trans H;with_reducible exact H2_)|with_reducible exact H|(rw [hy112];exact H)|exact H
        have Ny112:=zac.mk hy112
        clear hy112
        have H':=zac.mk H
        clear H
        go_wp2_with (first|((with_reducible refine gate_builtin (b:=.append) (xs:=#[.tmp 15,.tmp 19]) rfl ?_);at_builtin;refine Kd.R_append (Kd.int .u8) (w0:=w) w.heap.size rfl (.tmp 15) (.tmp 19) 46 5 (.int .u8 0) 1 rfl Try.underlying46 info5 rfl (by decide) (by omega) u4 x4_2 (Go.bits .or .u8 ((x0_2) % 256) 128) [.int .u8 (Go.bits .or .u8 ((x0_2) % 256) 128)] (fun _=>True) (fun _=>False) rfl rfl ?aP (fun _ hk=>hk.elim) ?aF ?aO ?aB ?aS ?aL ?_;(case aP=>exact rfl);(case aB=>exact (by repeat (first|(with_reducible first|exact HB.out|apply zae|apply zab|apply zaf)|exact HB.out)));(case aF=>exact (fun _ _=>trivial));(case aO=>exact (by (with_reducible repeat (first|apply Kd.R_alloc|apply Kd.R_drewN|apply Kd.R_drew));exact HO_4.out));(case aS=>exact (zam (by repeat (first|(with_reducible first|exact HB.out|apply zae|apply zab|apply zaf)|exact HB.out))));(case aL=>have:=LMc6.out;omega);intro v113 w7 ho hb hg hat;rw [← Ny112.out] at ho;have n0_:=zac.mk (hb);have n1_:=zac.mk (ho);clear HB;clear HO_4;have HB:=n0_;have HO114:=n1_;clear n0_ n1_;clear ho hb hg hat))
        go_roundg k2
        case measure=>have:=HJ1.out;have:=HK2.out;omega
        case rel=>exact ⟨(x0_2 / 128),(y112),(by first|rfl|(simp;done)|(simp [*];done)),H',⟨by have:=HJ1.out;have:=HK2.out;omega⟩,⟨by (with_reducible repeat (first|apply Kd.R_alloc|apply Kd.R_drewN|apply Kd.R_drew));exact HO114.out⟩,⟨by repeat (first|(with_reducible first|exact HB.out|apply zae|apply zab|apply zaf)|exact HB.out)⟩⟩
       ·rw [if_neg c6] at H
        exact absurd H (by simp)
      ·rw [if_neg c5] at H
       have c5b0 : decide (127 < x0_2) = false:=decide_eq_false c5
       clear c5
       by_cases c8 : x4_2.length < 140737488355328
       ·rw [if_pos c8] at H
        have LMc8:=zac.mk c8
        clear c8
        obtain ⟨y115,hy115⟩ : ∃ y_ : List Int,y_ = (x4_2 ++ [(x0_2) % 256]):=⟨_,rfl⟩
        replace H : (some (y115,0)) = some (r1,r2):=by first|(rw [hy115];with_reducible exact H)|(have H2_:=(Option.bind_some _ _).symm.trans H;rw [hy115];with_reducible exact H2_)|(have H2_:=(Option.bind_some _ _).symm.trans H;with_reducible exact H2_)|with_reducible exact H|(rw [hy115];exact H)|exact H
        have Ny115:=zac.mk hy115
        clear hy115
        simp only [Option.some.injEq,Prod.mk.injEq] at H
        obtain ⟨rfl,rfl⟩:=H
        go_wp2_with (first|((with_reducible refine gate_builtin (b:=.append) (xs:=#[.tmp 21,.tmp 24]) rfl ?_);at_builtin;refine Kd.R_append (Kd.int .u8) (w0:=w) w.heap.size rfl (.tmp 21) (.tmp 24) 46 5 (.int .u8 0) 1 rfl Try.underlying46 info5 rfl (by decide) (by omega) u4 x4_2 ((x0_2) % 256) [.int .u8 ((x0_2) % 256)] (fun _=>True) (fun _=>False) rfl rfl ?aP (fun _ hk=>hk.elim) ?aF ?aO ?aB ?aS ?aL ?_;(case aP=>exact rfl);(case aB=>exact (by repeat (first|(with_reducible first|exact HB.out|apply zae|apply zab|apply zaf)|exact HB.out)));(case aF=>exact (fun _ _=>trivial));(case aO=>exact (by (with_reducible repeat (first|apply Kd.R_alloc|apply Kd.R_drewN|apply Kd.R_drew));exact HO_4.out));(case aS=>exact (zam (by repeat (first|(with_reducible first|exact HB.out|apply zae|apply zab|apply zaf)|exact HB.out))));(case aL=>have:=LMc8.out;omega);intro v116 w9 ho hb hg hat;rw [← Ny115.out] at ho;have n0_:=zac.mk (hb);have n1_:=zac.mk (ho);clear HB;clear HO_4;have HB:=n0_;have HO117:=n1_;clear n0_ n1_;clear ho hb hg hat))
        go_ret2
        exact ⟨_,by first|rfl|(simp [errW_none,errW_some] <;> rfl)|(simp [*,errW_none,errW_some] <;> rfl),by (with_reducible repeat (first|apply Kd.R_alloc|apply Kd.R_drewN|apply Kd.R_drew));exact HO117.out,by repeat (first|(with_reducible first|exact HB.out|apply zae|apply zab|apply zaf)|exact HB.out)⟩
       ·rw [if_neg c8] at H
        exact absurd H (by simp)
def wire_EncodeInt.j0 : Nat → Int → Bool → Option (List Int × Int)
 | 0,_,_=>none
 | k + 1,x0,x9=>if x9 = true then (some (([] : List Int),5)) else (if x0 < 0 then ((wire_EncodeUint.f k (wrap64 ((wrap64 ((-2) * x0)) - 1))).bind fun bt118=>(some (bt118.1,bt118.2))) else ((wire_EncodeUint.f k (wrap64 (2 * x0))).bind fun bt122=>(some (bt122.1,bt122.2))))
def wire_EncodeInt.f (k : Nat) (a0 : Int) : Option (List Int × Int):=if a0 < (-2305843009213693952) then (wire_EncodeInt.j0 k a0 true) else (wire_EncodeInt.j0 k a0 (decide (a0 > 2305843009213693952)))
set_option maxHeartbeats 8000000 in
set_option maxRecDepth 100000 in
theorem wire_EncodeInt.calls (k : Nat) (a0 : Int) (r1 : List Int) (r2 : Int) (w : World) (h : wire_EncodeInt.f k a0 = some (r1,r2)) :
  Calls Try.prog 66 #[.int .i64 a0] w fun e w'=>∃ v0_ : Value,e = .returned (.tuple #[v0_,.int .i64 r2]) ∧ Kd.R (Kd.int .u8) 5 w' w.heap.size (fun _=>True) v0_ r1 ∧ Below w.heap.size w w':=by
 have HB:=zac.mk (Below.refl w.heap.size w)
 have H : (if a0 < (-2305843009213693952) then (wire_EncodeInt.j0 k a0 true) else (wire_EncodeInt.j0 k a0 (decide (a0 > 2305843009213693952)))) = some (r1,r2):=h
 clear h
 have HC2:=zac.mk H
 clear H
 go_enter Try.func66,Try.ntmps66
 go_upto_region 1 with (fail)
 go_cut [9] (fun v9 wc=>∃ (kq : Nat) (x9_1 : Bool),v9 = .bool x9_1 ∧ zac (wire_EncodeInt.j0 kq a0 x9_1 = some (r1,r2)) ∧ zac (kq ≤ k) ∧ zac (Below w.heap.size w wc))
 case first =>
  have H:=HC2.out
  clear HC2
  by_cases c3 : a0 < (-2305843009213693952)
  ·rw [if_pos c3] at H
   have c3b0 : decide (a0 < (-2305843009213693952)) = true:=decide_eq_true c3
   clear c3
   (first|rw [c3b0]|(simp only [i64_w,i32_w];rw [c3b0])|skip)
   have H':=zac.mk H
   clear H
   go_wp2
   go_meet
   case rel=>exact ⟨_,(true),(by first|rfl|(simp;done)|(simp [*];done)),H',⟨by first|omega|exact Nat.le_refl _⟩,⟨by repeat (first|(with_reducible first|exact HB.out|apply zae|apply zab|apply zaf)|exact HB.out)⟩⟩
  ·rw [if_neg c3] at H
   have c3b0 : decide (a0 < (-2305843009213693952)) = false:=decide_eq_false c3
   clear c3
   (first|rw [c3b0]|(simp only [i64_w,i32_w];rw [c3b0])|skip)
   have H':=zac.mk H
   clear H
   go_wp2
   go_meet
   case rel=>exact ⟨_,(decide (a0 > 2305843009213693952)),(by first|rfl|(simp;done)|(simp [*];done)),H',⟨by first|omega|exact Nat.le_refl _⟩,⟨by repeat (first|(with_reducible first|exact HB.out|apply zae|apply zab|apply zaf)|exact HB.out)⟩⟩
 case rest =>
  clear HC2
  obtain ⟨kq,x9_1,rfl,HA,HJ1,HB⟩:=hcut
  cases kq with
  | zero=>exact absurd HA.out (by simp [wire_EncodeInt.j0])
  | succ kj1 =>
   have H:=HA.out
   clear HA
   simp only [wire_EncodeInt.j0] at H
   by_cases c4 : x9_1 = true
   ·subst c4
    have H1 : (some (([] : List Int),5)) = some (r1,r2):=by rw [if_pos rfl] at H;exact H
    clear H
    have H:=H1
    clear H1
    simp only [Option.some.injEq,Prod.mk.injEq] at H
    obtain ⟨rfl,rfl⟩:=H
    go_wp2
    go_ret2
    exact ⟨_,by first|rfl|(simp [errW_none,errW_some] <;> rfl)|(simp [*,errW_none,errW_some] <;> rfl),by first|exact Kd.R_nil _ _ _ _ _|exact Kd.N_nil _ _ _ _ _|exact Kd.V_nil _ _ _ _ _|exact Kd.Q_nil _ _ _ _ _|exact Kd.S_nil _ _ _ _ _,by repeat (first|(with_reducible first|exact HB.out|apply zae|apply zab|apply zaf)|exact HB.out)⟩
   ·replace c4:=Bool.eq_false_iff.mpr c4
    subst c4
    have H1 : (if a0 < 0 then ((wire_EncodeUint.f kj1 (wrap64 ((wrap64 ((-2) * a0)) - 1))).bind fun bt118=>(some (bt118.1,bt118.2))) else ((wire_EncodeUint.f kj1 (wrap64 (2 * a0))).bind fun bt122=>(some (bt122.1,bt122.2)))) = some (r1,r2):=by rw [if_neg (show ¬ (false = true) by decide)] at H;exact H
    clear H
    have H:=H1
    clear H1
    by_cases c5 : a0 < 0
    ·rw [if_pos c5] at H
     have c5b0 : decide (a0 < 0) = true:=decide_eq_true c5
     clear c5
     replace H:=Option.bind_eq_some_iff.mp H
     obtain ⟨⟨t118,t119⟩,A60,H⟩:=H
     replace H : (some (t118,t119)) = some (r1,r2):=H
     have A6:=zac.mk A60
     clear A60
     simp only [Option.some.injEq,Prod.mk.injEq] at H
     obtain ⟨rfl,rfl⟩:=H
     go_wp2_with (first|((with_reducible refine zbe (f:=64) rfl ?_);refine zce (some 15) rfl rfl Try.func64 (by kernel_rfl) rfl #[.int .i64 (wrap64 ((wrap64 ((-2) * a0)) - 1))] rfl (by (try simp only [List.map_toArray,List.map_cons,List.map_nil]);first|done|rfl|(simp only [List.length_drop,List.length_take];rfl)) ?_;(with_reducible refine (wire_EncodeUint.calls kj1 (wrap64 ((wrap64 ((-2) * a0)) - 1)) t118 t119 _ A6.out).mono ?_);rintro e w7 ⟨v120,rfl,ho0,hb⟩;refine ⟨_,rfl,?_⟩;have n0_:=zac.mk (Kd.R_lower ho0 (zam (by repeat (first|(with_reducible first|exact HB.out|apply zae|apply zab|apply zaf)|exact HB.out))));have n1_:=zac.mk (zao (by repeat (first|(with_reducible first|exact HB.out|apply zae|apply zab|apply zaf)|exact HB.out)) hb);clear HB;have HO121:=n0_;have HB:=n1_;clear n0_ n1_;(try clear hb);(try clear hb2);(try clear hk);(try clear hi);(try clear ho0)))
     go_ret2
     exact ⟨_,by first|rfl|(simp [errW_none,errW_some] <;> rfl)|(simp [*,errW_none,errW_some] <;> rfl),by (with_reducible repeat (first|apply Kd.R_alloc|apply Kd.R_drewN|apply Kd.R_drew));exact HO121.out,by repeat (first|(with_reducible first|exact HB.out|apply zae|apply zab|apply zaf)|exact HB.out)⟩
    ·rw [if_neg c5] at H
     have c5b0 : decide (a0 < 0) = false:=decide_eq_false c5
     clear c5
     replace H:=Option.bind_eq_some_iff.mp H
     obtain ⟨⟨t122,t123⟩,A80,H⟩:=H
     replace H : (some (t122,t123)) = some (r1,r2):=H
     have A8:=zac.mk A80
     clear A80
     simp only [Option.some.injEq,Prod.mk.injEq] at H
     obtain ⟨rfl,rfl⟩:=H
     go_wp2_with (first|((with_reducible refine zbe (f:=64) rfl ?_);refine zce (some 20) rfl rfl Try.func64 (by kernel_rfl) rfl #[.int .i64 (wrap64 (2 * a0))] rfl (by (try simp only [List.map_toArray,List.map_cons,List.map_nil]);first|done|rfl|(simp only [List.length_drop,List.length_take];rfl)) ?_;(with_reducible refine (wire_EncodeUint.calls kj1 (wrap64 (2 * a0)) t122 t123 _ A8.out).mono ?_);rintro e w9 ⟨v124,rfl,ho0,hb⟩;refine ⟨_,rfl,?_⟩;have n0_:=zac.mk (Kd.R_lower ho0 (zam (by repeat (first|(with_reducible first|exact HB.out|apply zae|apply zab|apply zaf)|exact HB.out))));have n1_:=zac.mk (zao (by repeat (first|(with_reducible first|exact HB.out|apply zae|apply zab|apply zaf)|exact HB.out)) hb);clear HB;have HO125:=n0_;have HB:=n1_;clear n0_ n1_;(try clear hb);(try clear hb2);(try clear hk);(try clear hi);(try clear ho0)))
     go_ret2
     exact ⟨_,by first|rfl|(simp [errW_none,errW_some] <;> rfl)|(simp [*,errW_none,errW_some] <;> rfl),by (with_reducible repeat (first|apply Kd.R_alloc|apply Kd.R_drewN|apply Kd.R_drew));exact HO125.out,by repeat (first|(with_reducible first|exact HB.out|apply zae|apply zab|apply zaf)|exact HB.out)⟩
end Go.Proofs.Ytepnddmalheoiaa.K
namespace Go.Proofs.Ytepnddmalheoiaa.H
open Go.RowKit Go.Proofs.YtepnddmalheoiaaW.PrintWords Go.Proofs.YtepnddmalheoiaaW.PrintLast Go.Proofs.YtepnddmalheoiaaW.PrintMore
theorem goesV_ {P : Program} {ops : Array Oper} {Q : Exit → Act → World → Prop} {rest : List Oper} {oi : Oper} {a : Act} {w : World} (N : Option Tmp) (hd : oi.dst = N) (hg : oi.guard = none) {f : FuncId} {fn : Func} {o : Operand} {oas : Array Operand} {ts : Array TypeId} (hf : P.funcs[f]? = some fn) (hname : (fn.name == "runtime.NumGoroutine") = false) (hb : fn.body.isSome = true) (args : Array Value)
  (hop : oi.op = .call { callee:=.value o,args:=oas,argTypes:=ts }) (ho : a.eval o = .func (.func f) #[] #[]) (hargs : oas.map a.eval = args)
  (h : Calls P f args w fun e w'=>∃ v,e = .returned v ∧ wpList P ops Q rest (a.put N v) w') : wpList P ops Q (oi :: rest) a w:=by
 refine wpList_plain hg fun K hK=>?_
 have he:=enters_ hf hname hb args w
 have hrun : (execOp a.eval oi).run P w = .ok (.enter f args) w:=by
  unfold execOp
  simp [hop,ho,resolve,Deferred.ofValue,invoke,hargs,he]
 unfold Oper.wp
 rw [hrun,Oper.upon_enter]
 refine h.mono fun e w'' hh=>?_
 obtain ⟨v,rfl,hk⟩:=hh
 subst hd
 exact hK _ _ hk
theorem gate_value {P : Program} {ops : Array Oper} {Q : Exit → Act → World → Prop} {rest : List Oper} {o : Oper} {a : Act} {W : World} {t : Nat} {oas : Array Operand} {ts : Array TypeId} (_ho : o.op = .call { callee:=.value (.tmp t),args:=oas,argTypes:=ts }) (h : wpList P ops Q (o :: rest) a W) : wpList P ops Q (o :: rest) a W:=h
def Kinds (fn : FuncId) (p : Int → Bool) : Prop:=∀ (c : Int) (w : World),Calls Try.prog fn #[.int .u8 c] w fun e w'=>e = .returned (.bool (p c)) ∧ zay w w'
theorem all_bytes (s : ByteArray) (p : Int → Bool) (n : Nat) (hn : n = s.size) (h : ∀ i : Nat,i < n → p (bt s i) = true) : (bytesOf s).all p = true:=by
 rw [List.all_eq_true]
 intro c hc
 obtain ⟨i,hi,rfl⟩:=List.mem_iff_getElem.1 hc
 have hi' : i < n:=by rw [bytesOf_length] at hi;omega
 have h1:=h i hi'
 rw [← rd_bytesOf] at h1
 have h2 : rd (bytesOf s) i = (bytesOf s)[i]:=by
  simp [rd,List.getD_eq_getElem?_getD,List.getElem?_eq_getElem hi]
 rwa [h2] at h1
theorem not_all_bytes (s : ByteArray) (p : Int → Bool) (i : Nat) (hi : i < s.size) (h : p (bt s i) = false) : (bytesOf s).all p = false:=by
 rw [List.all_eq_false]
 have hi' : i < (bytesOf s).length:=by rw [bytesOf_length];exact hi
 refine ⟨(bytesOf s)[i],List.getElem_mem hi',?_⟩
 rw [← rd_bytesOf] at h
 have h2 : rd (bytesOf s) i = (bytesOf s)[i]:=by
  simp [rd,List.getD_eq_getElem?_getD,List.getElem?_eq_getElem hi']
 rw [h2] at h
 simp [h]
set_option maxHeartbeats 8000000 in
set_option maxRecDepth 100000 in
theorem all_calls {fn : FuncId} {F : Func} {p : Int → Bool} (hf : Try.prog.funcs[fn]? = some F) (hname : (F.name == "runtime.NumGoroutine") = false) (hb : F.body.isSome = true) (hk : Kinds fn p) (s : ByteArray) (hs : s.size ≤ 9223372036854775807) (w : World) :
  Calls Try.prog 82 #[.string s,.func (.func fn) #[] #[]] w fun e w'=>e = .returned (.bool ((bytesOf s).all p)) ∧ zay w w':=by
 go_enter Try.func82,Try.ntmps82
 go_wp2
 go_loopg [8] s.size (fun gk v8 wx=>∃ x : Int,v8 = .int .i64 x ∧ 0 ≤ x ∧ x + gk = s.size ∧ (∀ i : Nat,(i : Int) < x → p (bt s i) = true) ∧ zay w wx)
 case atStart=>exact ⟨0,rfl,by omega,by omega,fun i hi=>absurd hi (by omega),by repeat (first|exact zay.refl _|apply zay.step)⟩
 case round =>
  obtain ⟨x,rfl,h0,hj,hall,⟨m1,rfl⟩⟩:=hrel
  cases gk with
  | zero =>
   have c1 : decide (x < (s.size : Int)) = false:=decide_eq_false (by omega)
   have hA:=all_bytes s p s.size rfl (fun i hi=>hall i (by omega))
   go_wp2
   go_ret
   exact ⟨by rw [hA];rfl,by repeat (first|exact zay.refl _|exact ⟨_,rfl⟩|apply zay.step)⟩
  | succ g =>
   have c1 : decide (x < (s.size : Int)) = true:=decide_eq_true (by omega)
   have p4 : (0 ≤ x) = True:=eq_true (by omega)
   have q4 : (x < (s.size : Int)) = True:=eq_true (by omega)
   have hx4:=bt_at s x
   by_cases hp : p (bt s x) = true
   ·go_wp2_with ((with_reducible refine gate_value (t:=11) rfl ?_);refine goesV_ (some 15) rfl rfl hf hname hb #[.int .u8 (bt s x)] rfl rfl (by (try simp only [List.map_toArray,List.map_cons,List.map_nil]);first|done|rfl) ?_;refine (hk (bt s x) _).mono ?_;rintro e w2 ⟨rfl,hd⟩;refine ⟨_,rfl,?_⟩;rw [hp];obtain ⟨m2,rfl⟩:=hd)
    go_roundg g
    case measure=>omega
    case rel =>
     have hw : wrap64 (x + 1) = x + 1:=by unfold wrap64;omega
     refine ⟨x + 1,by first|rfl|rw [hw],by omega,by omega,fun i hi=>?_,by repeat (first|exact zay.refl _|exact ⟨_,rfl⟩|apply zay.step)⟩
     by_cases hi2 : (i : Int) < x
     ·exact hall i hi2
     ·rw [show (i : Int) = x by omega];exact hp
   ·have hp' : p (bt s x) = false:=by simpa using hp
    have hA:=not_all_bytes s p x.toNat (by omega) (by rw [show ((x.toNat : Nat) : Int) = x by omega];exact hp')
    go_wp2_with ((with_reducible refine gate_value (t:=11) rfl ?_);refine goesV_ (some 15) rfl rfl hf hname hb #[.int .u8 (bt s x)] rfl rfl (by (try simp only [List.map_toArray,List.map_cons,List.map_nil]);first|done|rfl) ?_;refine (hk (bt s x) _).mono ?_;rintro e w2 ⟨rfl,hd⟩;refine ⟨_,rfl,?_⟩;rw [hp'];obtain ⟨m2,rfl⟩:=hd)
    go_ret
    exact ⟨by rw [hA];rfl,by repeat (first|exact zay.refl _|exact ⟨_,rfl⟩|apply zay.step)⟩
def lowerP (c : Int) : Bool:=decide (97 ≤ c ∧ c ≤ 122)
def upperP (c : Int) : Bool:=decide (65 ≤ c ∧ c ≤ 90)
def digitP (c : Int) : Bool:=decide (48 ≤ c ∧ c ≤ 57)
theorem lower_f (c : Int) : K.text_lower.f c = some (lowerP c):=by
 unfold K.text_lower.f lowerP
 split <;> simp <;> omega
theorem upper_f (c : Int) : K.text_upper.f c = some (upperP c):=by
 unfold K.text_upper.f upperP
 split <;> simp <;> omega
theorem digit_f (c : Int) : K.text_digit.f c = some (digitP c):=by
 unfold K.text_digit.f digitP
 split <;> simp <;> omega
def nameP (c : Int) : Bool:=lowerP c || digitP c || c == 95
def codeP (c : Int) : Bool:=upperP c || digitP c
theorem name_f (c : Int) : K.text_IsName_1.f c = some (nameP c):=by
 unfold K.text_IsName_1.f nameP
 rw [lower_f,digit_f]
 cases lowerP c <;> cases digitP c <;> simp
theorem code_f (c : Int) : K.text_IsCode_1.f c = some (codeP c):=by
 unfold K.text_IsCode_1.f codeP
 rw [upper_f,digit_f]
 cases upperP c <;> cases digitP c <;> simp
theorem kinds_upper : Kinds 85 upperP:=fun c w=>K.text_upper.calls c _ w (upper_f c)
theorem kinds_name : Kinds 83 nameP:=fun c w=>K.text_IsName_1.calls c _ w (name_f c)
theorem kinds_code : Kinds 86 codeP:=fun c w=>K.text_IsCode_1.calls c _ w (code_f c)
def text_all_upper.f (s : ByteArray) : Option Bool:=if s.size ≤ 9223372036854775807 then some ((bytesOf s).all upperP) else none
def text_all_IsName_1.f (s : ByteArray) : Option Bool:=if s.size ≤ 9223372036854775807 then some ((bytesOf s).all nameP) else none
def text_all_IsCode_1.f (s : ByteArray) : Option Bool:=if s.size ≤ 9223372036854775807 then some ((bytesOf s).all codeP) else none
theorem text_all_upper.calls (a0 : ByteArray) (r : Bool) (w : World) (h : text_all_upper.f a0 = some r) :
  Calls Try.prog 82 #[.string a0,.func (.func 85) #[] #[]] w fun e w'=>e = .returned (.bool r) ∧ zay w w':=by
 unfold text_all_upper.f at h
 split at h
 ·rename_i hs
  obtain rfl:=Option.some.inj h
  exact all_calls Try.func85 (by kernel_rfl) rfl kinds_upper a0 hs w
 ·cases h
theorem text_all_IsName_1.calls (a0 : ByteArray) (r : Bool) (w : World) (h : text_all_IsName_1.f a0 = some r) :
  Calls Try.prog 82 #[.string a0,.func (.func 83) #[] #[]] w fun e w'=>e = .returned (.bool r) ∧ zay w w':=by
 unfold text_all_IsName_1.f at h
 split at h
 ·rename_i hs
  obtain rfl:=Option.some.inj h
  exact all_calls Try.func83 (by kernel_rfl) rfl kinds_name a0 hs w
 ·cases h
theorem text_all_IsCode_1.calls (a0 : ByteArray) (r : Bool) (w : World) (h : text_all_IsCode_1.f a0 = some r) :
  Calls Try.prog 82 #[.string a0,.func (.func 86) #[] #[]] w fun e w'=>e = .returned (.bool r) ∧ zay w w':=by
 unfold text_all_IsCode_1.f at h
 split at h
 ·rename_i hs
  obtain rfl:=Option.some.inj h
  exact all_calls Try.func86 (by kernel_rfl) rfl kinds_code a0 hs w
 ·cases h
end Go.Proofs.Ytepnddmalheoiaa.H
namespace Go.Proofs.Ytepnddmalheoiaa.H
open Go.RowKit Go.Proofs.YtepnddmalheoiaaW.PrintWords Go.Proofs.YtepnddmalheoiaaW.PrintLast Go.Proofs.YtepnddmalheoiaaW.PrintMore
def beF : Int → List Int → Int
 | x,[]=>x
 | x,c :: t=>beF (x * 256 + c) t
theorem decL_ok (l : List Int) : ∀ (i : Nat) (n : Int),i ≤ 8 → 0 ≤ n → (decL l i n).2.2 = 0 → 0 ≤ (decL l i n).1 ∧ (decL l i n).1 ≤ 4611686018427387904 ∧ (i : Int) + 1 ≤ (decL l i n).2.1 ∧ (decL l i n).2.1 ≤ 9 ∧ (decL l i n).2.1 ≤ (i : Int) + l.length:=by
 induction l with
 | nil=>intro i n _ _ h;simp [decL] at h
 | cons c t ih =>
  intro i n hi hn h
  have hp : (0 : Int) < 128 ^ i:=Int.pow_pos (by decide)
  have hm : 0 ≤ n + c % 128 * 128 ^ i:=by
   have : 0 ≤ c % 128 * 128 ^ i:=Int.mul_nonneg (by omega) (by omega)
   omega
  simp only [decL] at h ⊢
  by_cases h1 : c < 128
  ·rw [if_pos h1] at h ⊢
   by_cases h2 : (c = 0 ∧ 0 < i) ∨ n + c % 128 * 128 ^ i > 4611686018427387904
   ·rw [if_pos h2] at h;simp at h
   ·rw [if_neg h2]
    refine ⟨hm,by omega,by simp,by simp;omega,by simp;omega⟩
  ·rw [if_neg h1] at h ⊢
   by_cases h2 : i = 8
   ·rw [if_pos h2] at h;simp at h
   ·rw [if_neg h2] at h ⊢
    have:=ih (i + 1) _ (by omega) hm h
    simp only [List.length_cons]
    omega
theorem decL_err (l : List Int) : ∀ (i : Nat) (n : Int),(decL l i n).2.2 = 0 ∨ (decL l i n).1 = 0 ∧ (decL l i n).2.1 = 0:=by
 induction l with
 | nil=>intro i n;exact .inr ⟨rfl,rfl⟩
 | cons c t ih =>
  intro i n
  simp only [decL]
  repeat' split
  all_goals first|exact ih _ _|exact .inr ⟨rfl,rfl⟩|exact .inl rfl
def unf (l : List Int) : Int × List Int × Int × Int :=
 if l = [] then (0,[],0,3) else
 if (decL (l.drop 1) 0 0).2.2 ≠ 0 then (0,[],0,(decL (l.drop 1) 0 0).2.2) else
 if (decL (l.drop 1) 0 0).1 > 1048576 then (0,[],0,2) else
 if (l.length : Int) < 1 + (decL (l.drop 1) 0 0).2.1 + (decL (l.drop 1) 0 0).1 + 4 then (0,[],0,3) else
 if beF 0 ((l.drop (1 + (decL (l.drop 1) 0 0).2.1 + (decL (l.drop 1) 0 0).1).toNat).take 4) ≠ crcSum (l.take (1 + (decL (l.drop 1) 0 0).2.1 + (decL (l.drop 1) 0 0).1).toNat) then (0,[],0,4) else
 (l.getD 0 0,(l.take (1 + (decL (l.drop 1) 0 0).2.1 + (decL (l.drop 1) 0 0).1).toNat).drop (1 + (decL (l.drop 1) 0 0).2.1).toNat,1 + (decL (l.drop 1) 0 0).2.1 + (decL (l.drop 1) 0 0).1 + 4,0)
def unfOut (v : Value) (r : Int × List Int × Int × Int) : Value:=.tuple #[.int .u8 r.1,v,.int .i64 r.2.2.1,.int .i64 r.2.2.2]
def unfT : Bool × List (List Nat × List Nat):=(true,[([],[]),([0],[0]),([1],[1]),([],[]),([],[]),([4],[4]),([],[]),([3,5,6],[3,5,6]),([7],[7]),([],[]),([9],[9]),([2,8,0,1,2],[2]),([8,11,0,1,2,3,4,5,6,7,8,11],[8]),([10,12,0,1,2,3,4,5,6,7,8,9,10,11,12],[10]),([13,0,1,2,3,4,5,6,7,8,9,10,11,12,13],[])])
def unfB : List Nat:=[0,1,3,0,0,16,0,120,248,0,512,511,2559,8191,16383]
theorem unfTab : rtab .any (opsOf Try.f46 19) = unfT:=by kernel_rfl
theorem unfBits : waitsOk unfT.2 unfB = true:=by kernel_rfl
theorem or_shift (x c : Int) (j : Nat) (hj : j ≤ 3) (hx0 : 0 ≤ x) (hx : x < 256 ^ j) (hc0 : 0 ≤ c) (hc : c ≤ 255) : Go.bits .or .u32 (x * 256 % 4294967296) (c % 4294967296) = x * 256 + c ∧ x * 256 + c < 256 ^ (j + 1):=by
 have h1 : (256 : Int) ^ j ≤ 16777216:=by
  obtain rfl|rfl|rfl|rfl : j = 0 ∨ j = 1 ∨ j = 2 ∨ j = 3:=by omega
  all_goals decide
 have h2 : x * 256 % 4294967296 = x * 256:=by omega
 have h3 : c % 4294967296 = c:=by omega
 rw [h2,h3]
 refine ⟨bits_join .u32 32 (by decide) wraps_u32 8 (x * 256) c (by omega) (by omega) (by omega) hc0 (by omega) (by omega),?_⟩
 rw [Int.pow_succ];omega
theorem getD_rd (l : List Int) : l.getD 0 0 = rd l 0:=rfl
set_option maxHeartbeats 8000000 in
set_option maxRecDepth 100000 in
theorem unf_calls (A0 : Option Addr) (c0 : Nat) (l0 : List Int) (w : World) (hr0 : Kd.C (Kd.int .u8) w A0 l0.length l0) (hc0 : l0.length ≤ c0) (hw : ∀ x ∈ l0,0 ≤ x ∧ x ≤ 255) (hbig : l0.length < 140737488355328) :
  Calls Try.prog 46 #[.slice A0 l0.length c0] w fun e w'=>∃ v : Value,e = .returned (unfOut v (unf l0)) ∧ Kd.R (Kd.int .u8) 5 w' w.heap.size (fun _=>True) v (unf l0).2.1 ∧ Below w.heap.size w w':=by
 by_cases hz : l0 = []
 ·subst hz
  have hl : ((([] : List Int).length : Int) == 0) = true:=rfl
  go_enter Try.func46,Try.ntmps46
  go_wp2
  refine bodyPost_ret (v:=.tuple #[.int .u8 0,.slice none 0 0,.int .i64 0,.int .i64 3]) (by simp [results,Try.results46,go_sem]) rfl ⟨_,rfl,Kd.R_nil _ _ _ _ _,Below.refl _ _⟩
 ·have hpos : 0 < l0.length:=List.length_pos_iff.mpr hz
  have hl : ((l0.length : Int) == 0) = false:=beq_eq_false_iff_ne.mpr (by omega)
  have h1l : (1 : Int) ≤ (l0.length : Int):=by omega
  obtain ⟨i0,hi,_,hs,_⟩:=info_parts infoB
  obtain ⟨A1,hcut1,hA1,hC1⟩:=print_drop_of (P:=Try.prog) (Value.int .u8) 0 46 5 .i64 Try.underlying46 hi hs A0 c0 l0 1 (by omega) h1l hc0
  have HR1:=Kd.C_of_reads (h1:=fun _=>rfl) (hA1 _ (Kd.reads_of_C hr0))
  have hlen : l0.length ≤ 9223372036854775807:=(Kd.reads_of_C (enc:=Value.int .u8) (d:=(0 : Int)) (h1:=fun _=>rfl) hr0).2.1
  have hbt : ∀ x ∈ l0.drop 1,0 ≤ x ∧ x ≤ 255:=fun x hx=>hw x (List.mem_of_mem_drop hx)
  have htl : (l0.drop 1).length + 1 = l0.length:=by rw [List.length_drop];omega
  obtain ⟨R,hR⟩ : ∃ R,unf l0 = R:=⟨_,rfl⟩
  rw [hR]
  have hunf:=hR
  unfold unf at hunf
  rw [if_neg hz] at hunf
  simp only [show Int.toNat 1 = 1 from rfl] at hcut1 HR1 hC1
  generalize l0.drop 1 = t at *
  obtain ⟨n,k,e,hdec⟩ : ∃ n k e,decL t 0 0 = (n,k,e):=⟨_,_,_,rfl⟩
  have hok:=decL_ok t 0 0 (by omega) (by omega)
  have herr:=decL_err t 0 0
  rw [hdec] at hunf hok herr
  simp only at hunf hok herr
  have A4:=zac.mk (show zbt.f t = some (n,k,e) by unfold zbt.f;rw [if_pos hbt,hdec])
  have HU:=zac.mk hunf
  have HR1:=zac.mk HR1
  have HC1:=zac.mk hC1
  have HBIG:=zac.mk hbig
  clear hbig
  have HR0:=zac.mk hr0
  have HC0:=zac.mk hc0
  have HW:=zac.mk hw
  have HOK:=zac.mk hok
  have HERR:=zac.mk herr
  have HPOS:=zac.mk hpos
  have HTL:=zac.mk htl
  clear hA1 hC1 hr0 hc0 hw hdec hz hunf hok herr hR hpos hbt htl
  by_cases ce : e = 0
  ·have ceb : (e != 0) = false:=bne_eq_false_iff_eq.mpr ce
   have hb:=HOK.out ce
   have HU2:=HU.out
   rw [if_neg (show ¬ e ≠ 0 from fun h=>h ce)] at HU2
   clear HU HOK HERR
   have hn0 : 0 ≤ n:=hb.1
   have hn1 : n ≤ 4611686018427387904:=hb.2.1
   have hk1 : 1 ≤ k:=by have:=hb.2.2.1;omega
   have hk9 : k ≤ 9:=hb.2.2.2.1
   have hE : wrap64 (wrap64 (1 + k) + n) = 1 + k + n:=by unfold wrap64;omega
   clear hb
   by_cases c2 : n > 1048576
   ·rw [if_pos c2] at HU2
    have HU:=zac.mk HU2
    have c2b : decide (1048576 < n) = true:=decide_eq_true c2
    clear HU2 c2 ce hE
    go_enter Try.func46,Try.ntmps46
    go_wp2_with fail
    refine (zbt.calls _ _ t n k e _ HR1.out HC1.out A4.out).mono ?_
    rintro e_ w1 ⟨rfl,⟨nd,rfl⟩⟩
    go_wp2
    rw [← HU.out]
    refine bodyPost_ret (v:=.tuple #[.int .u8 0,.slice none 0 0,.int .i64 0,.int .i64 2]) (by simp [results,Try.results46,go_sem]) rfl ⟨_,rfl,Kd.R_nil _ _ _ _ _,zab (Below.refl _ _) _⟩
   ·rw [if_neg c2] at HU2
    have hn2 : n ≤ 1048576:=by omega
    have c2b : decide (1048576 < n) = false:=decide_eq_false c2
    by_cases c3 : (l0.length : Int) < 1 + k + n + 4
    ·rw [if_pos c3] at HU2
     have HU:=zac.mk HU2
     clear HU2 c2 ce hE hn1
     go_enter Try.func46,Try.ntmps46
     go_wp2_with fail
     refine (zbt.calls _ _ t n k e _ HR1.out HC1.out A4.out).mono ?_
     rintro e_ w1 ⟨rfl,⟨nd,rfl⟩⟩
     go_wp2
     rw [← HU.out]
     refine bodyPost_ret (v:=.tuple #[.int .u8 0,.slice none 0 0,.int .i64 0,.int .i64 3]) (by simp [results,Try.results46,go_sem]) rfl ⟨_,rfl,Kd.R_nil _ _ _ _ _,zab (Below.refl _ _) _⟩
    ·rw [if_neg c3] at HU2
     have c3b : 1 + k + n + 4 ≤ (l0.length : Int):=by omega
     obtain ⟨E,hEE⟩ : ∃ E,1 + k + n = E:=⟨_,rfl⟩
     have hE0 : 0 ≤ E:=by omega
     have hE4 : E ≤ E + 4:=by omega
     rw [hEE] at HU2 c3b hE
     obtain ⟨A2,hcut2,hA2,hC2⟩:=print_mid_of (P:=Try.prog) (Value.int .u8) 0 46 5 .i64 .i64 Try.underlying46 hi hs A0 c0 l0 E (E + 4) hE0 hE4 c3b HC0.out
     have HRq:=Kd.C_of_reads (h1:=fun _=>rfl) (hA2 _ (Kd.reads_of_C HR0.out))
     have hql : ((l0.take (E + 4).toNat).drop E.toNat).length = 4:=by rw [List.length_drop,List.length_take];omega
     have hqe : (l0.take (E + 4).toNat).drop E.toNat = (l0.drop E.toNat).take 4:=by rw [List.drop_take,show (E + 4).toNat - E.toNat = 4 by omega]
     have hqb : ∀ x ∈ (l0.take (E + 4).toNat).drop E.toNat,0 ≤ x ∧ x ≤ 255:=fun x hx=>HW.out x (List.mem_of_mem_take (List.mem_of_mem_drop hx))
     rw [← hqe] at HU2
     obtain ⟨hcut3,hA3,hC3⟩:=print_take_of (P:=Try.prog) (Value.int .u8) 0 46 5 .i64 Try.underlying46 hi hs A0 c0 l0 E hE0 (by omega) HC0.out
     have HRp:=Kd.C_of_reads (h1:=fun _=>rfl) (hA3 _ (Kd.reads_of_C HR0.out))
     have hpb : ∀ x ∈ l0.take E.toNat,0 ≤ x ∧ x ≤ 255:=fun x hx=>HW.out x (List.mem_of_mem_take hx)
     obtain ⟨A3,hcut4,hA4,hC4⟩:=print_mid_of (P:=Try.prog) (Value.int .u8) 0 46 5 .i64 .i64 Try.underlying46 hi hs A0 c0 l0 (1 + k) E (by omega) (by omega) (by omega) HC0.out
     have HRb:=Kd.C_of_reads (h1:=fun _=>rfl) (hA4 _ (Kd.reads_of_C HR0.out))
     have hbl : ((l0.take E.toNat).drop (1 + k).toNat).length ≤ l0.length:=by rw [List.length_drop,List.length_take];omega
     rw [hql] at hcut2 HRq
     obtain ⟨ad,ead,hx0⟩:=Kd.at_int HR0.out 0 (by omega) (by omega)
     cases ead
     rw [getD_rd] at HU2
     simp only [show Int.toNat 0 = 0 from rfl,Addr.add_zero'] at hx0
     generalize rd l0 0 = kd at *
     generalize (l0.take E.toNat).drop (1 + k).toNat = bd at *
     generalize l0.take E.toNat = pl at *
     generalize (l0.take (E + 4).toNat).drop E.toNat = q at *
     have A5:=zac.mk (show wire_Checksum.f pl = some (crcSum pl) by unfold wire_Checksum.f;rw [if_pos hpb])
     generalize crcSum pl = S at *
     obtain ⟨B,hB⟩ : ∃ B,beF 0 q = B:=⟨_,rfl⟩
     rw [hB] at HU2
     have HB:=zac.mk hB
     have HQ:=zac.mk hqb
     have HQL:=zac.mk hql
     have HRQ:=zac.mk HRq
     have HRP:=zac.mk HRp
     have HRB:=zac.mk HRb
     have HU:=zac.mk HU2
     have HC3:=zac.mk hC3
     have HC4:=zac.mk hC4
     have HBL:=zac.mk hbl
     clear hB hqb hql HRq HRp HRb HU2 hC2 hC3 hC4 hA2 hA3 hA4 hpb hqe ce c2 c3 hn1 hE hbl hi hs
     go_enter Try.func46,Try.ntmps46
     go_wp2_with fail
     refine (zbt.calls _ _ t n k e _ HR1.out HC1.out A4.out).mono ?_
     rintro e_ w1 ⟨rfl,⟨nd,rfl⟩⟩
     have hd3 : decide ((l0.length : Int) < E + 4) = false:=decide_eq_false (by omega)
     go_wp2_with fail
     go_loopg [9,45] 4 (fun gk v9 v45 wx=>∃ (x : Int) (j : Nat),j + gk = 4 ∧ v9 = .int .u32 x ∧ v45 = .int .i64 (j : Int) ∧ zac (0 ≤ x ∧ x < 256 ^ j ∧ beF x (q.drop j) = B) ∧ zay w wx)
     case atStart=>exact ⟨0,0,by omega,rfl,rfl,⟨by omega,by decide,HB.out⟩,by repeat (first|exact zay.refl _|apply zay.step)⟩
     case round =>
      obtain ⟨x,j,hjg,rfl,rfl,HX,⟨nd2,rfl⟩⟩:=hrel
      cases gk with
      | succ g =>
       have hj4 : (j : Int) < 4:=by omega
       have hj0 : (0 : Int) ≤ j:=by omega
       obtain ⟨c,hc⟩ : ∃ c,rd q (j : Int) = c:=⟨_,rfl⟩
       have hget : q[j]? = some c:=by
        rw [← hc];unfold rd;rw [Int.toNat_natCast,List.getD_eq_getElem?_getD,List.getElem?_eq_getElem (by have:=HQL.out;omega)];rfl
       have hcb : 0 ≤ c ∧ c ≤ 255:=HQ.out c (List.mem_of_getElem? hget)
       have hdrop : q.drop j = c :: q.drop (j + 1):=by
        obtain ⟨h1,h2⟩:=List.getElem?_eq_some_iff.1 hget
        rw [List.drop_eq_getElem_cons h1,h2]
       have HRQ4 : Kd.C (Kd.int .u8) w A2 q.length q:=by rw [HQL.out];exact HRQ.out
       obtain ⟨adq,eq_,hx⟩:=Kd.at_int HRQ4 (j : Int) hj0 (by have:=HQL.out;omega)
       cases eq_
       rw [hc] at hx
       rw [Int.toNat_natCast] at hx
       obtain ⟨hor,hbd⟩:=or_shift x c j (by omega) HX.out.1 HX.out.2.1 hcb.1 hcb.2
       obtain ⟨y,hy⟩ : ∃ y,x * 256 + c = y:=⟨_,rfl⟩
       rw [hy] at hor hbd
       have hcm : c % 4294967296 = c:=by have:=hcb.1;have:=hcb.2;omega
       rw [hcm] at hor
       clear hcm
       have HX2:=zac.mk (show 0 ≤ y ∧ y < 256 ^ (j + 1) ∧ beF y (q.drop (j + 1)) = B from ⟨by have:=HX.out.1;omega,hbd,by have:=HX.out.2.2;rw [hdrop] at this;rw [← hy];exact this⟩)
       have hcb0:=hcb.1
       have hcb1:=hcb.2
       clear hy hbd hdrop hget hc hcb HRQ4
       go_wp2
       go_roundg g
       case measure=>omega
       case rel=>exact ⟨y,j + 1,by omega,rfl,by go_num,HX2,by repeat (first|exact zay.refl _|apply zay.step)⟩
      | zero =>
       obtain rfl : j = 4:=by omega
       have hxB : x = B:=by have:=HX.out.2.2;rw [List.drop_of_length_le (by have:=HQL.out;omega)] at this;exact this
       have HXB:=zac.mk hxB
       clear hxB
       go_wp2_with fail
       refine (wire_Checksum.calls _ _ pl S _ (Kd.C_drewN HRP.out nd2) HC3.out A5.out).mono ?_
       rintro e2_ w2 ⟨rfl,hb2⟩
       have HB2:=zac.mk (zao (zab (Below.refl _ _) nd2) hb2)
       clear hb2
       by_cases cs : x = S
       ·have csb : (x != S) = false:=bne_eq_false_iff_eq.mpr cs
        have HU2:=HU.out
        rw [if_neg (show ¬ B ≠ S by rw [← HXB.out];exact fun h=>h cs)] at HU2
        have HU3:=zac.mk HU2
        clear cs HU2
        go_wp2_with fail
        have hv1 : wrap64 (1 + k) = 1 + k:=by unfold wrap64;omega
        have hv2 : wrap64 (E + 4) = E + 4:=by unfold wrap64;omega
        have hv3 : IntKind.i64.wrap (1 + k) = 1 + k:=(i64_w _).trans hv1
        have hv4 : IntKind.i64.wrap (E + 4) = E + 4:=(i64_w _).trans hv2
        have qi0 : (0 < l0.length) = True:=eq_true HPOS.out
        refine start_ (n:=15) (S:=fun w'=>w'.cell? ad = some (.int .u8 kd)) (ds:=[]) #[false,false,false,false,false,false,false,false,false,false,false,false,false,false,false] (by kernel_rfl) rfl rfl ((HB2.out.cell (World.block_lt_of_cell? w _ hx0)).trans hx0) (fun hHeld=>?_);refine with_tabW unfTab unfBits (fun HT_ HW_=>?_)
        have HB3:=zac.mk (zaf HB2.out)
        clear HB2
        generalize w2.drew = w3 at HB3 hHeld ⊢
        refine pure_ (i:=0) (N:=some 61) (v:=?_) (a':=?_) #[true,false,false,false,false,false,false,false,false,false,false,false,false,false,false] rfl rfl (zbx HT_.out (by kernel_rfl)) (fun _ _ _ h=>h) (Or.inl ⟨by rfl,?_⟩) ?_ ?_
        rotate_left
        ·intro w'
         go_simp
         with_reducible rfl
        rotate_left
        ·simp only [Act.put,List.setIfInBounds_toArray,List.set_cons_zero,List.set_cons_succ,i64_w,i32_w]
         rfl
        refine pure_ (i:=1) (N:=some 62) (v:=?_) (a':=?_) #[true,true,false,false,false,false,false,false,false,false,false,false,false,false,false] rfl rfl (zbx HT_.out (by kernel_rfl)) (fun _ _ _ h=>h) (Or.inl ⟨by rfl,?_⟩) ?_ ?_
        rotate_left
        ·intro w'
         go_simp
         with_reducible rfl
        rotate_left
        ·simp only [Act.put,List.setIfInBounds_toArray,List.set_cons_zero,List.set_cons_succ,i64_w,i32_w]
         rfl
        refine pure_ (i:=3) (N:=some 64) (v:=?_) (a':=?_) #[true,true,false,true,false,false,false,false,false,false,false,false,false,false,false] rfl rfl (zbx HT_.out (by kernel_rfl)) (fun _ _ _ h=>h) (Or.inl ⟨by rfl,?_⟩) ?_ ?_
        rotate_left
        ·intro w'
         go_simp
         with_reducible rfl
        rotate_left
        ·simp only [Act.put,List.setIfInBounds_toArray,List.set_cons_zero,List.set_cons_succ,i64_w,i32_w]
         rfl
        refine pure_ (i:=4) (N:=some 65) (v:=?_) (a':=?_) #[true,true,false,true,true,false,false,false,false,false,false,false,false,false,false] rfl rfl (zbx HT_.out (by kernel_rfl)) (fun _ _ _ h=>h) (Or.inl ⟨by rfl,?_⟩) ?_ ?_
        rotate_left
        ·intro w'
         go_simp
         with_reducible rfl
        rotate_left
        ·simp only [Act.put,List.setIfInBounds_toArray,List.set_cons_zero,List.set_cons_succ,i64_w,i32_w]
         rfl
        refine pure_ (i:=5) (N:=some 66) (v:=?_) (a':=?_) #[true,true,false,true,true,true,false,false,false,false,false,false,false,false,false] rfl rfl (zbx HT_.out (by kernel_rfl)) (fun _ _ _ h=>h) (Or.inl ⟨by rfl,?_⟩) ?_ ?_
        rotate_left
        ·intro w'
         go_simp
         with_reducible rfl
        rotate_left
        ·simp only [Act.put,List.setIfInBounds_toArray,List.set_cons_zero,List.set_cons_succ,i64_w,i32_w]
         rfl
        refine pure_ (i:=6) (N:=some 67) (v:=?_) (a':=?_) #[true,true,false,true,true,true,true,false,false,false,false,false,false,false,false] rfl rfl (zbx HT_.out (by kernel_rfl)) (fun _ _ _ h=>h) (Or.inl ⟨by rfl,?_⟩) ?_ ?_
        rotate_left
        ·intro w'
         go_simp
         with_reducible rfl
        rotate_left
        ·simp only [Act.put,List.setIfInBounds_toArray,List.set_cons_zero,List.set_cons_succ,i64_w,i32_w]
         rfl
        refine pure_ (i:=7) (N:=some 68) (v:=?_) (a':=?_) #[true,true,false,true,true,true,true,true,false,false,false,false,false,false,false] rfl rfl (zbx HT_.out (by kernel_rfl)) (fun _ _ _ h=>h) (Or.inl ⟨by rfl,?_⟩) ?_ ?_
        rotate_left
        ·intro w'
         go_simp
         with_reducible rfl
        rotate_left
        ·simp only [Act.put,List.setIfInBounds_toArray,List.set_cons_zero,List.set_cons_succ,i64_w,i32_w]
         rfl
        refine pure_ (i:=9) (N:=some 70) (v:=?_) (a':=?_) #[true,true,false,true,true,true,true,true,false,true,false,false,false,false,false] rfl rfl (zbx HT_.out (by kernel_rfl)) (fun _ _ _ h=>h) (Or.inl ⟨by rfl,?_⟩) ?_ ?_
        rotate_left
        ·intro w'
         go_simp
         with_reducible rfl
        rotate_left
        ·simp only [Act.put,List.setIfInBounds_toArray,List.set_cons_zero,List.set_cons_succ,i64_w,i32_w]
         rfl
        refine pure_ (i:=10) (N:=some 71) (v:=?_) (a':=?_) #[true,true,false,true,true,true,true,true,false,true,true,false,false,false,false] rfl rfl (zbx HT_.out (by kernel_rfl)) (fun _ _ _ h=>h) (Or.inl ⟨by rfl,?_⟩) ?_ ?_
        rotate_left
        ·intro w'
         go_simp
         with_reducible rfl
        rotate_left
        ·simp only [Act.put,List.setIfInBounds_toArray,List.set_cons_zero,List.set_cons_succ,i64_w,i32_w]
         rfl
        refine take_ (i:=2) (N:=some 63) (v:=?_) (a':=?_) #[true,true,true,true,true,true,true,true,false,true,true,false,false,false,false] rfl rfl (take_ofW HT_.out HW_.out (by kernel_rfl)) (fun _ _ _ h=>h) (Or.inl ⟨by rfl,?_⟩) hHeld ?_ ?_
        rotate_left
        ·intro w' s0
         go_simp
         with_reducible rfl
        rotate_left
        ·simp only [Act.put,List.setIfInBounds_toArray,List.set_cons_zero,List.set_cons_succ,i64_w,i32_w]
         rfl
        refine one_ (i:=8) (N:=some 69) #[true,true,true,true,true,true,true,true,true,true,true,false,false,false,false] rfl rfl (one_of HT_.out (by kernel_rfl)) (by decide) (fun K hK=>?_)
        refine Kd.R_append_rows_step (Kd.int .u8) (w0:=w) w.heap.size (by rfl) (.const (.slice none 0 0)) (.tmp 68) 46 5 (.int .u8 0) 1 rfl Try.underlying46 infoB rfl (by decide) (by omega) (.slice none 0 0) ([] : List Int) bd _ _ _ (fun _=>True) (fun _=>False) rfl rfl ?aO ?aR (fun _ _ h=>h) (fun _ h=>h.elim) ?aF ?aB ?aS ?aL ?_
        case aR=>exact (Kd.C_below HRB.out HB3.out)
        case aB=>exact HB3.out
        case aF=>exact (fun _ _=>trivial)
        case aO=>exact (Kd.R_nil _ _ _ _ (fun _=>True))
        case aS=>exact (zam HB3.out)
        case aL=>have:=HBL.out;have:=HBIG.out;simp only [List.length_nil];omega
        intro v329 w4 ho hb hg hat
        have HB4:=zac.mk hb
        have HO:=zac.mk ho
        clear ho hb hg hat HB3
        refine hK.out _ _ ((HB4.out.cell (World.block_lt_of_cell? w _ hx0)).trans hx0) (fun hHeld=>?_)
        clear hK K
        refine norm_ (a':=?_) ?_ ?_
        rotate_left
        ·show Act.put _ (some 69) _ = _
         simp only [Act.put,List.setIfInBounds_toArray,List.set_cons_zero,List.set_cons_succ,i64_w,i32_w]
         rfl
        refine pure_ (i:=11) (N:=some 2) (v:=?_) (a':=?_) #[true,true,true,true,true,true,true,true,true,true,true,true,false,false,false] rfl rfl (zbx HT_.out (by kernel_rfl)) (fun _ _ _ h=>h) (Or.inl ⟨by rfl,?_⟩) ?_ ?_
        rotate_left
        ·intro w'
         go_simp
         with_reducible rfl
        rotate_left
        ·simp only [Act.put,List.setIfInBounds_toArray,List.set_cons_zero,List.set_cons_succ,i64_w,i32_w]
         rfl
        refine pure_ (i:=12) (N:=some 3) (v:=?_) (a':=?_) #[true,true,true,true,true,true,true,true,true,true,true,true,true,false,false] rfl rfl (zbx HT_.out (by kernel_rfl)) (fun _ _ _ h=>h) (Or.inl ⟨by rfl,?_⟩) ?_ ?_
        rotate_left
        ·intro w'
         go_simp
         with_reducible rfl
        rotate_left
        ·simp only [Act.put,List.setIfInBounds_toArray,List.set_cons_zero,List.set_cons_succ,i64_w,i32_w]
         rfl
        refine pure_ (i:=13) (N:=some 4) (v:=?_) (a':=?_) #[true,true,true,true,true,true,true,true,true,true,true,true,true,true,false] rfl rfl (zbx HT_.out (by kernel_rfl)) (fun _ _ _ h=>h) (Or.inl ⟨by rfl,?_⟩) ?_ ?_
        rotate_left
        ·intro w'
         go_simp
         with_reducible rfl
        rotate_left
        ·simp only [Act.put,List.setIfInBounds_toArray,List.set_cons_zero,List.set_cons_succ,i64_w,i32_w]
         rfl
        refine pure_ (i:=14) (N:=some 5) (v:=?_) (a':=?_) #[true,true,true,true,true,true,true,true,true,true,true,true,true,true,true] rfl rfl (zbx HT_.out (by kernel_rfl)) (fun _ _ _ h=>h) (Or.inl ⟨by rfl,?_⟩) ?_ ?_
        rotate_left
        ·intro w'
         go_simp
         with_reducible rfl
        rotate_left
        ·simp only [Act.put,List.setIfInBounds_toArray,List.set_cons_zero,List.set_cons_succ,i64_w,i32_w]
         rfl
        refine done_ (done_of HT_.out (by kernel_rfl)) ?_
        try go_wp2
        refine bodyPost_ret (results_list (rs:=[.tmp 2,.tmp 3,.tmp 4,.tmp 5]) rfl (by simp) (.tmp (.tmp (.tmp (.tmp .nil))))) rfl ?_
        rw [← HU3.out]
        exact ⟨_,rfl,by simpa using HO.out,HB4.out⟩
       ·have csb : (x != S) = true:=bne_iff_ne.mpr cs
        have HU2:=HU.out
        rw [if_pos (show B ≠ S by rw [← HXB.out];exact cs)] at HU2
        have HU3:=zac.mk HU2
        clear cs HU2
        go_wp2
        rw [← HU3.out]
        refine bodyPost_ret (v:=.tuple #[.int .u8 0,.slice none 0 0,.int .i64 0,.int .i64 4]) (by simp [results,Try.results46,go_sem]) rfl ⟨_,rfl,Kd.R_nil _ _ _ _ _,HB2.out⟩
  ·have ceb : (e != 0) = true:=bne_iff_ne.mpr ce
   have HU2:=HU.out
   rw [if_pos (show e ≠ 0 from ce)] at HU2
   clear HU
   have HU:=zac.mk HU2
   have hkn : n = 0 ∧ k = 0:=by rcases HERR.out with h|h;exact absurd h ce;exact h
   obtain ⟨rfl,rfl⟩:=hkn
   clear HU2 ce HOK HERR
   go_enter Try.func46,Try.ntmps46
   go_wp2_with fail
   refine (zbt.calls _ _ t 0 0 e _ HR1.out HC1.out A4.out).mono ?_
   rintro e_ w1 ⟨rfl,⟨nd,rfl⟩⟩
   go_wp2
   rw [← HU.out]
   refine bodyPost_ret (v:=.tuple #[.int .u8 0,.slice none 0 0,.int .i64 0,.int .i64 e]) (by simp [results,Try.results46,go_sem]) rfl ⟨_,rfl,Kd.R_nil _ _ _ _ _,zab (Below.refl _ _) _⟩
def wire_Unframe.f (l0 : List Int) : Option (Int × List Int × Int × Int):=if (∀ x ∈ l0,0 ≤ x ∧ x ≤ 255) ∧ l0.length < 140737488355328 then some (unf l0) else none
theorem wire_Unframe.calls (A0 : Option Addr) (c0 : Nat) (l0 : List Int) (r1 : Int) (r2 : List Int) (r3 : Int) (r4 : Int) (w : World) (hr0 : Kd.C (Kd.int .u8) w A0 l0.length l0) (hc0 : l0.length ≤ c0) (h : wire_Unframe.f l0 = some (r1,r2,r3,r4)) :
  Calls Try.prog 46 #[.slice A0 l0.length c0] w fun e w'=>∃ v1_ : Value,e = .returned (.tuple #[.int .u8 r1,v1_,.int .i64 r3,.int .i64 r4]) ∧ Kd.R (Kd.int .u8) 5 w' w.heap.size (fun _=>True) v1_ r2 ∧ Below w.heap.size w w':=by
 unfold wire_Unframe.f at h
 split at h
 ·rename_i hb
  have hd:=Option.some.inj h
  refine (unf_calls A0 c0 l0 w hr0 hc0 hb.1 hb.2).mono fun e w' hh=>?_
  rw [hd] at hh
  exact hh
 ·exact absurd h (by simp)
end Go.Proofs.Ytepnddmalheoiaa.H
namespace Go.Proofs.Ytepnddmalheoiaa.K
open Go.Proofs.Ytepnddmalheoiaa.H
open Go.RowKit Go.Proofs.YtepnddmalheoiaaW.PrintWords Go.Proofs.YtepnddmalheoiaaW.PrintLast Go.Proofs.YtepnddmalheoiaaW.PrintMore
attribute [local go_sem] str_leq str_geq str_gtr max2_int min2_int max_two min_two max_three min_three max_four min_four   -- for this text's walks alone
def wire_EncodeText.f (k : Nat) (a0 : ByteArray) : Option (List Int × Int):=if (a0.size : Int) > 20000 then (some (([] : List Int),10)) else ((wire_EncodeUint.f k (a0.size : Int)).bind fun bt126=>(if bt126.1.length + a0.size < 140737488355328 then (some ((bt126.1 ++ bytesOf a0),0)) else (none)))
set_option maxHeartbeats 8000000 in
set_option maxRecDepth 100000 in
theorem wire_EncodeText.calls (k : Nat) (a0 : ByteArray) (r1 : List Int) (r2 : Int) (w : World) (h : wire_EncodeText.f k a0 = some (r1,r2)) :
  Calls Try.prog 65 #[.string a0] w fun e w'=>∃ v0_ : Value,e = .returned (.tuple #[v0_,.int .i64 r2]) ∧ Kd.R (Kd.int .u8) 5 w' w.heap.size (fun _=>True) v0_ r1 ∧ Below w.heap.size w w':=by
 have HB:=zac.mk (Below.refl w.heap.size w)
 have H : (if (a0.size : Int) > 20000 then (some (([] : List Int),10)) else ((wire_EncodeUint.f k (a0.size : Int)).bind fun bt126=>(if bt126.1.length + a0.size < 140737488355328 then (some ((bt126.1 ++ bytesOf a0),0)) else (none)))) = some (r1,r2):=h
 clear h
 by_cases c2 : (a0.size : Int) > 20000
 ·rw [if_pos c2] at H
  have c2b0 : decide (20000 < (a0.size : Int)) = true:=decide_eq_true c2
  have c2b1 : decide (20000 < a0.size) = true:=decide_eq_true (by omega)
  clear c2
  simp only [Option.some.injEq,Prod.mk.injEq] at H
  obtain ⟨rfl,rfl⟩:=H
  go_enter Try.func65,Try.ntmps65
  go_wp2
  go_ret2
  exact ⟨_,by first|rfl|(simp [errW_none,errW_some] <;> rfl)|(simp [*,errW_none,errW_some] <;> rfl),by first|exact Kd.R_nil _ _ _ _ _|exact Kd.N_nil _ _ _ _ _|exact Kd.V_nil _ _ _ _ _|exact Kd.Q_nil _ _ _ _ _|exact Kd.S_nil _ _ _ _ _,by repeat (first|(with_reducible first|exact HB.out|apply zae|apply zab|apply zaf)|exact HB.out)⟩
 ·rw [if_neg c2] at H
  have c2b0 : decide (20000 < (a0.size : Int)) = false:=decide_eq_false c2
  have c2b1 : decide (20000 < a0.size) = false:=decide_eq_false (by omega)
  clear c2
  replace H:=Option.bind_eq_some_iff.mp H
  obtain ⟨⟨t126,t127⟩,A30,H⟩:=H
  replace H : (if t126.length + a0.size < 140737488355328 then (some ((t126 ++ bytesOf a0),0)) else (none)) = some (r1,r2):=H
  have A3:=zac.mk A30
  clear A30
  by_cases c4 : t126.length + a0.size < 140737488355328
  ·rw [if_pos c4] at H
   have LMc4:=zac.mk c4
   clear c4
   obtain ⟨y130,hy130⟩ : ∃ y_ : List Int,y_ = (t126 ++ bytesOf a0):=⟨_,rfl⟩
   replace H : (some (y130,0)) = some (r1,r2):=by first|(rw [hy130];with_reducible exact H)|(have H2_:=(Option.bind_some _ _).symm.trans H;rw [hy130];with_reducible exact H2_)|(have H2_:=(Option.bind_some _ _).symm.trans H;with_reducible exact H2_)|with_reducible exact H|(rw [hy130];exact H)|exact H
   have Ny130:=zac.mk hy130
   clear hy130
   simp only [Option.some.injEq,Prod.mk.injEq] at H
   obtain ⟨rfl,rfl⟩:=H
   go_enter Try.func65,Try.ntmps65
   go_wp2_with (first|((with_reducible refine zbe (f:=64) rfl ?_);refine zce (some 12) rfl rfl Try.func64 (by kernel_rfl) rfl #[.int .i64 (a0.size : Int)] rfl (by (try simp only [List.map_toArray,List.map_cons,List.map_nil]);first|done|rfl|(simp only [List.length_drop,List.length_take];rfl)) ?_;(with_reducible refine (wire_EncodeUint.calls k (a0.size : Int) t126 t127 _ A3.out).mono ?_);rintro e w5 ⟨v128,rfl,ho0,hb⟩;refine ⟨_,rfl,?_⟩;have n0_:=zac.mk (Kd.R_lower ho0 (zam (by repeat (first|(with_reducible first|exact HB.out|apply zae|apply zab|apply zaf)|exact HB.out))));have n1_:=zac.mk (zao (by repeat (first|(with_reducible first|exact HB.out|apply zae|apply zab|apply zaf)|exact HB.out)) hb);clear HB;have HO129:=n0_;have HB:=n1_;clear n0_ n1_;(try clear hb);(try clear hb2);(try clear hk);(try clear hi);(try clear ho0))|(at_builtin;refine print_append_str (w0:=w) w.heap.size rfl (.tmp 15) _ 46 9 5 rfl Try.underlying46 Try.underlying9 info5 v128 t126 a0 rfl rfl ?aO ?aB ?aS ?aL ?_;(case aB=>exact (by repeat (first|(with_reducible first|exact HB.out|apply zae|apply zab|apply zaf)|exact HB.out)));(case aO=>exact (Kd.own_of_R (by (with_reducible repeat (first|apply Kd.R_alloc|apply Kd.R_drewN|apply Kd.R_drew));exact HO129.out)));(case aS=>exact (zam (by repeat (first|(with_reducible first|exact HB.out|apply zae|apply zab|apply zaf)|exact HB.out))));(case aL=>have:=LMc4.out;omega);intro v131 w6 ho0 hb hg;have ho:=Kd.R_of_own (h1:=fun _=>rfl) (ok:=fun _=>True) ho0 (fun _ _=>trivial);clear ho0;have hat:=True.intro;rw [← Ny130.out] at ho;change Kd.R (Kd.int .u8) 5 w6 w.heap.size (fun _=>True) v131 y130 at ho;have n0_:=zac.mk (hb);have n1_:=zac.mk (ho);clear HB;clear HO129;have HB:=n0_;have HO132:=n1_;clear n0_ n1_;clear ho hb hg hat))
   go_ret2
   exact ⟨_,by first|rfl|(simp [errW_none,errW_some] <;> rfl)|(simp [*,errW_none,errW_some] <;> rfl),by (with_reducible repeat (first|apply Kd.R_alloc|apply Kd.R_drewN|apply Kd.R_drew));exact HO132.out,by repeat (first|(with_reducible first|exact HB.out|apply zae|apply zab|apply zaf)|exact HB.out)⟩
  ·rw [if_neg c4] at H
   exact absurd H (by simp)
def wire_Frame.f (k : Nat) (a0 : Int) (l1 : List Int) : Option (List Int × Int):=if (l1.length : Int) > 1048576 then (some (([] : List Int),10)) else ((wire_EncodeUint.f k (l1.length : Int)).bind fun bt133=>((some (([a0] : List Int) : List Int)).bind fun y137=>(if y137.length + bt133.1.length < 140737488355328 then ((some (y137 ++ bt133.1 : List Int)).bind fun y140=>(if y140.length + l1.length < 140737488355328 then ((some (y140 ++ l1 : List Int)).bind fun y143=>((wire_Checksum.f y143).bind fun t146=>((some (([(t146 / 16777216) % 256,(t146 / 65536) % 256,(t146 / 256) % 256,(t146) % 256] : List Int) : List Int)).bind fun y147=>(if y143.length + y147.length < 140737488355328 then (some ((y143 ++ y147),0)) else (none))))) else (none))) else (none))))
set_option maxHeartbeats 8000000 in
set_option maxRecDepth 100000 in
theorem wire_Frame.calls (k : Nat) (a0 : Int) (A1 : Option Addr) (c1 : Nat) (l1 : List Int) (r1 : List Int) (r2 : Int) (w : World) (hr1 : Kd.C (Kd.int .u8) w A1 l1.length l1) (hc1 : l1.length ≤ c1) (h : wire_Frame.f k a0 l1 = some (r1,r2)) :
  Calls Try.prog 43 #[.int .u8 a0,.slice A1 l1.length c1] w fun e w'=>∃ v0_ : Value,e = .returned (.tuple #[v0_,.int .i64 r2]) ∧ Kd.R (Kd.int .u8) 5 w' w.heap.size (fun _=>True) v0_ r1 ∧ Below w.heap.size w w':=by
 have HR1:=zac.mk hr1
 have HC1:=zac.mk hc1
 clear hr1 hc1
 have HB:=zac.mk (Below.refl w.heap.size w)
 have H : (if (l1.length : Int) > 1048576 then (some (([] : List Int),10)) else ((wire_EncodeUint.f k (l1.length : Int)).bind fun bt133=>((some (([a0] : List Int) : List Int)).bind fun y137=>(if y137.length + bt133.1.length < 140737488355328 then ((some (y137 ++ bt133.1 : List Int)).bind fun y140=>(if y140.length + l1.length < 140737488355328 then ((some (y140 ++ l1 : List Int)).bind fun y143=>((wire_Checksum.f y143).bind fun t146=>((some (([(t146 / 16777216) % 256,(t146 / 65536) % 256,(t146 / 256) % 256,(t146) % 256] : List Int) : List Int)).bind fun y147=>(if y143.length + y147.length < 140737488355328 then (some ((y143 ++ y147),0)) else (none))))) else (none))) else (none))))) = some (r1,r2):=h
 clear h
 by_cases c3 : (l1.length : Int) > 1048576
 ·rw [if_pos c3] at H
  have c3b0 : decide (1048576 < (l1.length : Int)) = true:=decide_eq_true c3
  have c3b1 : decide (1048576 < l1.length) = true:=decide_eq_true (by omega)
  clear c3
  simp only [Option.some.injEq,Prod.mk.injEq] at H
  obtain ⟨rfl,rfl⟩:=H
  go_enter Try.func43,Try.ntmps43
  go_wp2
  go_ret2
  exact ⟨_,by first|rfl|(simp [errW_none,errW_some] <;> rfl)|(simp [*,errW_none,errW_some] <;> rfl),by first|exact Kd.R_nil _ _ _ _ _|exact Kd.N_nil _ _ _ _ _|exact Kd.V_nil _ _ _ _ _|exact Kd.Q_nil _ _ _ _ _|exact Kd.S_nil _ _ _ _ _,by repeat (first|(with_reducible first|exact HB.out|apply zae|apply zab|apply zaf)|exact HB.out)⟩
 ·rw [if_neg c3] at H
  have c3b0 : decide (1048576 < (l1.length : Int)) = false:=decide_eq_false c3
  have c3b1 : decide (1048576 < l1.length) = false:=decide_eq_false (by omega)
  clear c3
  replace H:=Option.bind_eq_some_iff.mp H
  obtain ⟨⟨t133,t134⟩,A40,H⟩:=H
  replace H : ((some (([a0] : List Int) : List Int)).bind fun y137=>(if y137.length + t133.length < 140737488355328 then ((some (y137 ++ t133 : List Int)).bind fun y140=>(if y140.length + l1.length < 140737488355328 then ((some (y140 ++ l1 : List Int)).bind fun y143=>((wire_Checksum.f y143).bind fun t146=>((some (([(t146 / 16777216) % 256,(t146 / 65536) % 256,(t146 / 256) % 256,(t146) % 256] : List Int) : List Int)).bind fun y147=>(if y143.length + y147.length < 140737488355328 then (some ((y143 ++ y147),0)) else (none))))) else (none))) else (none))) = some (r1,r2):=H
  have A4:=zac.mk A40
  clear A40
  obtain ⟨y137,hy137⟩ : ∃ y_ : List Int,y_ = (([a0] : List Int)):=⟨_,rfl⟩
  replace H : (if y137.length + t133.length < 140737488355328 then ((some (y137 ++ t133 : List Int)).bind fun y140=>(if y140.length + l1.length < 140737488355328 then ((some (y140 ++ l1 : List Int)).bind fun y143=>((wire_Checksum.f y143).bind fun t146=>((some (([(t146 / 16777216) % 256,(t146 / 65536) % 256,(t146 / 256) % 256,(t146) % 256] : List Int) : List Int)).bind fun y147=>(if y143.length + y147.length < 140737488355328 then (some ((y143 ++ y147),0)) else (none))))) else (none))) else (none)) = some (r1,r2):=by first|(rw [hy137];with_reducible exact H)|(have H2_:=(Option.bind_some _ _).symm.trans H;rw [hy137];with_reducible exact H2_)|(have H2_:=(Option.bind_some _ _).symm.trans H;with_reducible exact H2_)|with_reducible exact H|(rw [hy137];exact H)|exact H
  have Ny137:=zac.mk hy137
  clear hy137
  by_cases c5 : y137.length + t133.length < 140737488355328
  ·rw [if_pos c5] at H
   have LMc5:=zac.mk c5
   clear c5
   obtain ⟨y140,hy140⟩ : ∃ y_ : List Int,y_ = (y137 ++ t133):=⟨_,rfl⟩
   replace H : (if y140.length + l1.length < 140737488355328 then ((some (y140 ++ l1 : List Int)).bind fun y143=>((wire_Checksum.f y143).bind fun t146=>((some (([(t146 / 16777216) % 256,(t146 / 65536) % 256,(t146 / 256) % 256,(t146) % 256] : List Int) : List Int)).bind fun y147=>(if y143.length + y147.length < 140737488355328 then (some ((y143 ++ y147),0)) else (none))))) else (none)) = some (r1,r2):=by first|(rw [hy140];with_reducible exact H)|(have H2_:=(Option.bind_some _ _).symm.trans H;rw [hy140];with_reducible exact H2_)|(have H2_:=(Option.bind_some _ _).symm.trans H;with_reducible exact H2_)|with_reducible exact H|(rw [hy140];exact H)|exact H
   have Ny140:=zac.mk hy140
   clear hy140
   by_cases c6 : y140.length + l1.length < 140737488355328
   ·rw [if_pos c6] at H
    have LMc6:=zac.mk c6
    clear c6
    obtain ⟨y143,hy143⟩ : ∃ y_ : List Int,y_ = (y140 ++ l1):=⟨_,rfl⟩
    replace H : ((wire_Checksum.f y143).bind fun t146=>((some (([(t146 / 16777216) % 256,(t146 / 65536) % 256,(t146 / 256) % 256,(t146) % 256] : List Int) : List Int)).bind fun y147=>(if y143.length + y147.length < 140737488355328 then (some ((y143 ++ y147),0)) else (none)))) = some (r1,r2):=by first|(rw [hy143];with_reducible exact H)|(have H2_:=(Option.bind_some _ _).symm.trans H;rw [hy143];with_reducible exact H2_)|(have H2_:=(Option.bind_some _ _).symm.trans H;with_reducible exact H2_)|with_reducible exact H|(rw [hy143];exact H)|exact H
    have Ny143:=zac.mk hy143
    clear hy143
    replace H:=Option.bind_eq_some_iff.mp H
    obtain ⟨t146,A70,H⟩:=H
    replace H : ((some (([(t146 / 16777216) % 256,(t146 / 65536) % 256,(t146 / 256) % 256,(t146) % 256] : List Int) : List Int)).bind fun y147=>(if y143.length + y147.length < 140737488355328 then (some ((y143 ++ y147),0)) else (none))) = some (r1,r2):=H
    have A7:=zac.mk A70
    clear A70
    obtain ⟨y147,hy147⟩ : ∃ y_ : List Int,y_ = (([(t146 / 16777216) % 256,(t146 / 65536) % 256,(t146 / 256) % 256,(t146) % 256] : List Int)):=⟨_,rfl⟩
    replace H : (if y143.length + y147.length < 140737488355328 then (some ((y143 ++ y147),0)) else (none)) = some (r1,r2):=by first|(rw [hy147];with_reducible exact H)|(have H2_:=(Option.bind_some _ _).symm.trans H;rw [hy147];with_reducible exact H2_)|(have H2_:=(Option.bind_some _ _).symm.trans H;with_reducible exact H2_)|with_reducible exact H|(rw [hy147];exact H)|exact H
    have Ny147:=zac.mk hy147
    clear hy147
    by_cases c8 : y143.length + y147.length < 140737488355328
    ·rw [if_pos c8] at H
     have LMc8:=zac.mk c8
     clear c8
     obtain ⟨y150,hy150⟩ : ∃ y_ : List Int,y_ = (y143 ++ y147):=⟨_,rfl⟩
     replace H : (some (y150,0)) = some (r1,r2):=by first|(rw [hy150];with_reducible exact H)|(have H2_:=(Option.bind_some _ _).symm.trans H;rw [hy150];with_reducible exact H2_)|(have H2_:=(Option.bind_some _ _).symm.trans H;with_reducible exact H2_)|with_reducible exact H|(rw [hy150];exact H)|exact H
     have Ny150:=zac.mk hy150
     clear hy150
     simp only [Option.some.injEq,Prod.mk.injEq] at H
     obtain ⟨rfl,rfl⟩:=H
     go_enter Try.func43,Try.ntmps43
     go_wp2_with (first|((with_reducible refine zbe (f:=64) rfl ?_);refine zce (some 16) rfl rfl Try.func64 (by kernel_rfl) rfl #[.int .i64 (l1.length : Int)] rfl (by (try simp only [List.map_toArray,List.map_cons,List.map_nil]);first|done|rfl|(simp only [List.length_drop,List.length_take];rfl)) ?_;(with_reducible refine (wire_EncodeUint.calls k (l1.length : Int) t133 t134 _ A4.out).mono ?_);rintro e w9 ⟨v135,rfl,ho0,hb⟩;refine ⟨_,rfl,?_⟩;have n0_:=zac.mk (Kd.R_lower ho0 (zam (by repeat (first|(with_reducible first|exact HB.out|apply zae|apply zab|apply zaf)|exact HB.out))));have n1_:=zac.mk (zao (by repeat (first|(with_reducible first|exact HB.out|apply zae|apply zab|apply zaf)|exact HB.out)) hb);clear HB;have HO136:=n0_;have HB:=n1_;clear n0_ n1_;(try clear hb);(try clear hb2);(try clear hk);(try clear hi);(try clear ho0))|((with_reducible refine zbh (N:=20) rfl ?_);refine Kd.R_lit (Kd.int .u8) _ 5 ?hg (N:=20) ?hd (xs:=([a0] : List Int)) (inner:=[.int .u8 a0]) (ok:=fun _=>True) (okp:=fun _=>True) ?hr ?hp (fun _ hk=>hk) trivial (Below.refl _ _) (Nat.le_refl _) (by simp) ?_;(case hd=>rfl);(case hg=>rfl);(case hr=>first|(go_simp;done)|(go_simp;rfl));(case hp=>exact (Reps.one (show Kd.M (Kd.int .u8) _ _ _ a0 [.int .u8 a0] from rfl) (Reps.none _ _)));intro v138 w10 ho11 hb hg_ hnew_;clear hg_ hnew_;(first|rw [← Ny137.out] at ho11|(simp only [Int.reduceToNat] at ho11;rw [← Ny137.out] at ho11));have n0_:=zac.mk (Kd.R_elder' (by (with_reducible repeat (first|apply Kd.R_alloc|apply Kd.R_drewN|apply Kd.R_drew));exact HO136.out) (Kd.R_base ho11) hb);have n1_:=zac.mk (Kd.R_lower (Kd.R_new' ho11 (Kd.R_lt (by (with_reducible repeat (first|apply Kd.R_alloc|apply Kd.R_drewN|apply Kd.R_drew));exact HO136.out))) (zam (by repeat (first|(with_reducible first|exact HB.out|apply zae|apply zab|apply zaf)|exact HB.out))));have n2_:=zac.mk (zao (by repeat (first|(with_reducible first|exact HB.out|apply zae|apply zab|apply zaf)|exact HB.out)) hb);clear HO136;clear HB;have HO136:=n0_;have HO139:=n1_;have HB:=n2_;clear n0_ n1_ n2_;clear hb ho11;obtain ⟨Ao13,co13,eo13⟩:=Kd.R_slice HO136.out;subst eo13)|((with_reducible refine gate_builtin (b:=.append) (xs:=#[.tmp 20,.tmp 21]) rfl ?_);at_builtin;refine Kd.R_append_rows (Kd.int .u8) (w0:=w) w.heap.size rfl (.tmp 20) (.tmp 21) 46 5 (.int .u8 0) 1 rfl Try.underlying46 info5 rfl (by decide) (by omega) v138 y137 t133 _ _ _ (fun k_=>some k_ ≠ (.slice Ao13 t133.length co13 : Value).ownBlock) (fun _=>False) rfl rfl ?aO ?aR (fun _ _ h=>h) (fun _ h=>h.elim) ?aF ?aB ?aS ?aL ?_;(case aR=>repeat (first|exact (Kd.R_reads' HO136.out).2.2|(with_reducible refine Kd.C_alloc ?_ _)|(with_reducible refine Kd.C_drewN ?_ _)|(with_reducible refine Kd.C_drew ?_)));(case aB=>exact (by repeat (first|(with_reducible first|exact HB.out|apply zae|apply zab|apply zaf)|exact HB.out)));(case aF=>exact (fun k_ hk=>Kd.fresh' (Kd.R_lt (by (with_reducible repeat (first|apply Kd.R_alloc|apply Kd.R_drewN|apply Kd.R_drew));exact HO136.out)) k_ hk));(case aO=>exact (by (with_reducible repeat (first|apply Kd.R_alloc|apply Kd.R_drewN|apply Kd.R_drew));exact Kd.R_mono HO139.out (fun _ hk=>hk.2)));(case aS=>exact (zam (by repeat (first|(with_reducible first|exact HB.out|apply zae|apply zab|apply zaf)|exact HB.out))));(case aL=>have:=LMc5.out;omega);intro v141 w12 ho hb hg hat;rw [← Ny140.out] at ho;have n0_:=zac.mk (Kd.R_after (ok:=(fun _=>True)) (by (with_reducible repeat (first|apply Kd.R_alloc|apply Kd.R_drewN|apply Kd.R_drew));exact HO136.out) hg hat);have n1_:=zac.mk (hb);have n2_:=zac.mk (ho);clear HO136;clear HB;clear HO139;have HO136:=n0_;have HB:=n1_;have HO142:=n2_;clear n0_ n1_ n2_;clear ho hb hg hat)|((with_reducible refine gate_builtin (b:=.append) (xs:=#[.tmp 23,.tmp 24]) rfl ?_);at_builtin;refine Kd.R_append_rows (Kd.int .u8) (w0:=w) w.heap.size rfl (.tmp 23) (.tmp 24) 46 5 (.int .u8 0) 1 rfl Try.underlying46 info5 rfl (by decide) (by omega) v141 y140 l1 _ _ _ (fun k_=>some k_ ≠ (.slice Ao13 t133.length co13 : Value).ownBlock) (fun _=>False) rfl rfl ?aO ?aR (fun _ _ h=>h) (fun _ h=>h.elim) ?aF ?aB ?aS ?aL ?_;(case aR=>repeat (first|exact (Kd.C_below HR1.out HB.out)|(with_reducible refine Kd.C_alloc ?_ _)|(with_reducible refine Kd.C_drewN ?_ _)|(with_reducible refine Kd.C_drew ?_)));(case aB=>exact (by repeat (first|(with_reducible first|exact HB.out|apply zae|apply zab|apply zaf)|exact HB.out)));(case aF=>exact (fun k_ hk=>Kd.fresh' (Kd.R_lt (by (with_reducible repeat (first|apply Kd.R_alloc|apply Kd.R_drewN|apply Kd.R_drew));exact HO136.out)) k_ hk));(case aO=>exact (by (with_reducible repeat (first|apply Kd.R_alloc|apply Kd.R_drewN|apply Kd.R_drew));exact HO142.out));(case aS=>exact (zam (by repeat (first|(with_reducible first|exact HB.out|apply zae|apply zab|apply zaf)|exact HB.out))));(case aL=>have:=LMc6.out;omega);intro v144 w14 ho hb hg hat;rw [← Ny143.out] at ho;have n0_:=zac.mk (Kd.R_after (ok:=(fun _=>True)) (by (with_reducible repeat (first|apply Kd.R_alloc|apply Kd.R_drewN|apply Kd.R_drew));exact HO136.out) hg hat);have n1_:=zac.mk (hb);have n2_:=zac.mk (ho);clear HO136;clear HB;clear HO142;have HO136:=n0_;have HB:=n1_;have HO145:=n2_;clear n0_ n1_ n2_;clear ho hb hg hat;obtain ⟨Ao15,co15,eo15⟩:=Kd.R_slice HO145.out;subst eo15)|((with_reducible refine zbe (f:=67) rfl ?_);refine zce (some 27) rfl rfl Try.func67 (by kernel_rfl) rfl #[.slice Ao15 y143.length co15] rfl (by (try simp only [List.map_toArray,List.map_cons,List.map_nil]);first|done|rfl|(simp only [List.length_drop,List.length_take];rfl)) ?_;(with_reducible refine (wire_Checksum.calls _ _ y143 t146 _ ?side1 ?side2 A7.out).mono ?_);(case side1=>repeat (first|exact (Kd.R_reads' HO145.out).2.2|(with_reducible refine Kd.C_alloc ?_ _)|(with_reducible refine Kd.C_drewN ?_ _)|(with_reducible refine Kd.C_drew ?_)));(case side2=>exact (Kd.R_reads' HO145.out).2.1);rintro e w16 ⟨rfl,hb⟩;refine ⟨_,rfl,?_⟩;have n0_:=zac.mk (Kd.R_below (by (with_reducible repeat (first|apply Kd.R_alloc|apply Kd.R_drewN|apply Kd.R_drew));exact HO136.out) hb);have n1_:=zac.mk (Kd.R_below (by (with_reducible repeat (first|apply Kd.R_alloc|apply Kd.R_drewN|apply Kd.R_drew));exact HO145.out) hb);have n2_:=zac.mk (zao (by repeat (first|(with_reducible first|exact HB.out|apply zae|apply zab|apply zaf)|exact HB.out)) hb);clear HO136;clear HO145;clear HB;have HO136:=n0_;have HO145:=n1_;have HB:=n2_;clear n0_ n1_ n2_;(try clear hb);(try clear hb2);(try clear hk);(try clear hi))|((with_reducible refine zbh (N:=40) rfl ?_);refine Kd.R_lit (Kd.int .u8) _ 5 ?hg (N:=40) ?hd (xs:=([(t146 / 16777216) % 256,(t146 / 65536) % 256,(t146 / 256) % 256,(t146) % 256] : List Int)) (inner:=[.int .u8 ((t146 / 16777216) % 256),.int .u8 ((t146 / 65536) % 256),.int .u8 ((t146 / 256) % 256),.int .u8 ((t146) % 256)]) (ok:=fun _=>True) (okp:=fun _=>True) ?hr ?hp (fun _ hk=>hk) trivial (Below.refl _ _) (Nat.le_refl _) (by simp) ?_;(case hd=>rfl);(case hg=>rfl);(case hr=>first|(go_simp;done)|(go_simp;rfl));(case hp=>exact (Reps.one (show Kd.M (Kd.int .u8) _ _ _ ((t146 / 16777216) % 256) [.int .u8 ((t146 / 16777216) % 256)] from rfl) (Reps.one (show Kd.M (Kd.int .u8) _ _ _ ((t146 / 65536) % 256) [.int .u8 ((t146 / 65536) % 256)] from rfl) (Reps.one (show Kd.M (Kd.int .u8) _ _ _ ((t146 / 256) % 256) [.int .u8 ((t146 / 256) % 256)] from rfl) (Reps.one (show Kd.M (Kd.int .u8) _ _ _ ((t146) % 256) [.int .u8 ((t146) % 256)] from rfl) (Reps.none _ _))))));intro v148 w17 ho18 hb hg_ hnew_;clear hg_ hnew_;(first|rw [← Ny147.out] at ho18|(simp only [Int.reduceToNat] at ho18;rw [← Ny147.out] at ho18));have n0_:=zac.mk (Kd.R_elder' (by (with_reducible repeat (first|apply Kd.R_alloc|apply Kd.R_drewN|apply Kd.R_drew));exact HO136.out) (Kd.R_base ho18) hb);have n1_:=zac.mk (Kd.R_elder' (by (with_reducible repeat (first|apply Kd.R_alloc|apply Kd.R_drewN|apply Kd.R_drew));exact HO145.out) (Kd.R_base ho18) hb);have n2_:=zac.mk (Kd.R_lower (Kd.R_new' (Kd.R_new' ho18 (Kd.R_lt (by (with_reducible repeat (first|apply Kd.R_alloc|apply Kd.R_drewN|apply Kd.R_drew));exact HO136.out))) (Kd.R_lt (by (with_reducible repeat (first|apply Kd.R_alloc|apply Kd.R_drewN|apply Kd.R_drew));exact HO145.out))) (zam (by repeat (first|(with_reducible first|exact HB.out|apply zae|apply zab|apply zaf)|exact HB.out))));have n3_:=zac.mk (zao (by repeat (first|(with_reducible first|exact HB.out|apply zae|apply zab|apply zaf)|exact HB.out)) hb);clear HO136;clear HO145;clear HB;have HO136:=n0_;have HO145:=n1_;have HO149:=n2_;have HB:=n3_;clear n0_ n1_ n2_ n3_;clear hb ho18;obtain ⟨Ao20,co20,eo20⟩:=Kd.R_slice HO149.out;subst eo20)|((with_reducible refine gate_builtin (b:=.append) (xs:=#[.tmp 28,.tmp 40]) rfl ?_);at_builtin;refine Kd.R_append_rows (Kd.int .u8) (w0:=w) w.heap.size rfl (.tmp 28) (.tmp 40) 46 5 (.int .u8 0) 1 rfl Try.underlying46 info5 rfl (by decide) (by omega) (.slice Ao15 y143.length co15) y143 y147 _ _ _ (fun k_=>some k_ ≠ (.slice Ao13 t133.length co13 : Value).ownBlock ∧ some k_ ≠ (.slice Ao20 y147.length co20 : Value).ownBlock) (fun _=>False) rfl rfl ?aO ?aR (fun _ _ h=>h) (fun _ h=>h.elim) ?aF ?aB ?aS ?aL ?_;(case aR=>repeat (first|exact (Kd.R_reads' HO149.out).2.2|(with_reducible refine Kd.C_alloc ?_ _)|(with_reducible refine Kd.C_drewN ?_ _)|(with_reducible refine Kd.C_drew ?_)));(case aB=>exact (by repeat (first|(with_reducible first|exact HB.out|apply zae|apply zab|apply zaf)|exact HB.out)));(case aF=>exact (fun k_ hk=>⟨Kd.fresh' (Kd.R_lt (by (with_reducible repeat (first|apply Kd.R_alloc|apply Kd.R_drewN|apply Kd.R_drew));exact HO136.out)) k_ hk,Kd.fresh' (Kd.R_lt (by (with_reducible repeat (first|apply Kd.R_alloc|apply Kd.R_drewN|apply Kd.R_drew));exact HO149.out)) k_ hk⟩));(case aO=>exact (by (with_reducible repeat (first|apply Kd.R_alloc|apply Kd.R_drewN|apply Kd.R_drew));exact HO145.out));(case aS=>exact (zam (by repeat (first|(with_reducible first|exact HB.out|apply zae|apply zab|apply zaf)|exact HB.out))));(case aL=>have:=LMc8.out;omega);intro v151 w19 ho hb hg hat;rw [← Ny150.out] at ho;have n0_:=zac.mk (Kd.R_after (ok:=(fun k_=>some k_ ≠ (.slice Ao20 y147.length co20 : Value).ownBlock)) (by (with_reducible repeat (first|apply Kd.R_alloc|apply Kd.R_drewN|apply Kd.R_drew));exact Kd.R_mono HO136.out (fun _ hk=>⟨hk.2,hk.1.2⟩)) hg hat);have n1_:=zac.mk (Kd.R_after (ok:=(fun k_=>some k_ ≠ (.slice Ao13 t133.length co13 : Value).ownBlock)) (by (with_reducible repeat (first|apply Kd.R_alloc|apply Kd.R_drewN|apply Kd.R_drew));exact Kd.R_mono HO149.out (fun _ hk=>⟨hk.1.2,hk.2⟩)) hg hat);have n2_:=zac.mk (hb);have n3_:=zac.mk (ho);clear HO136;clear HO149;clear HB;clear HO145;have HO136:=n0_;have HO149:=n1_;have HB:=n2_;have HO152:=n3_;clear n0_ n1_ n2_ n3_;clear ho hb hg hat))
     go_ret2
     exact ⟨_,by first|rfl|(simp [errW_none,errW_some] <;> rfl)|(simp [*,errW_none,errW_some] <;> rfl),by (with_reducible repeat (first|apply Kd.R_alloc|apply Kd.R_drewN|apply Kd.R_drew));exact Kd.R_mono HO152.out (fun _ hk=>trivial),by repeat (first|(with_reducible first|exact HB.out|apply zae|apply zab|apply zaf)|exact HB.out)⟩
    ·rw [if_neg c8] at H
     exact absurd H (by simp)
   ·rw [if_neg c6] at H
    exact absurd H (by simp)
  ·rw [if_neg c5] at H
   exact absurd H (by simp)
end Go.Proofs.Ytepnddmalheoiaa.K
namespace Go.Proofs.Ytepnddmalheoiaa.H
open Go.RowKit Go.Proofs.YtepnddmalheoiaaW.PrintWords Go.Proofs.YtepnddmalheoiaaW.PrintLast Go.Proofs.YtepnddmalheoiaaW.PrintMore
def IsS88 (w0 W : World) (g : Nat) (f0 : List Int × Bool) : Prop:=∃ A0 c0,W.heap[g]? = some (.cells #[.slice A0 f0.1.length c0,.bool f0.2] 88 (0,0)) ∧ w0.heap.size ≤ g ∧ Kd.C (Kd.int .u8) w0 A0 f0.1.length f0.1 ∧ f0.1.length ≤ c0 ∧ ∀ x ∈ f0.1,0 ≤ x ∧ x ≤ 255
theorem IsS88.grown {w0 W : World} {g : Nat} {f0 : List Int × Bool} {W1 : World} {row : Option Nat} (h : IsS88 w0 W g f0) (hw : W.grownBy W1 row) (hne : some g ≠ row) : IsS88 w0 W1 g f0:=by
 obtain ⟨A0,c0,hb,hg,hr⟩:=h
 exact ⟨A0,c0,zcj hb hw hne,hg,hr⟩
theorem IsS88.below {w0 W : World} {g : Nat} {f0 : List Int × Bool} {W1 : World} (h : IsS88 w0 W g f0) (hw : Below W.heap.size W W1) : IsS88 w0 W1 g f0:=h.grown (grown_of_below hw none) (by simp)
theorem IsS88.drewN {w0 W : World} {g : Nat} {f0 : List Int × Bool} (h : IsS88 w0 W g f0) (m : Nat) : IsS88 w0 (W.drewN m) g f0:=h
theorem IsS88.drew {w0 W : World} {g : Nat} {f0 : List Int × Bool} (h : IsS88 w0 W g f0) : IsS88 w0 W.drew g f0:=h
theorem IsS88.apart {w0 W : World} {g : Nat} {f0 : List Int × Bool} {α : Type} {d : Kd α} {e : Nat} {base : Nat} {ok : Nat → Prop} {v : Value} {xs : List α} (h : IsS88 w0 W g f0) (ho : d.R e W base ok v xs) (ht : ∀ q,q ∈ e :: d.E → q ≠ 88) : d.R e W base (fun k=>ok k ∧ k ≠ g) v xs:=by
 obtain ⟨A0,c0,hb,hg,hr⟩:=h
 exact Kd.R_types ho hb ht
theorem IsS88.own_ne {w0 W : World} {g : Nat} {f0 : List Int × Bool} {α : Type} {d : Kd α} {e : Nat} {base : Nat} {ok : Nat → Prop} {v : Value} {xs : List α} (h : IsS88 w0 W g f0) (ho : d.R e W base ok v xs) (ht : e ≠ 88) : some g ≠ v.ownBlock:=by
 obtain ⟨A0,c0,hb,hg,hr⟩:=h
 exact Kd.R_ne ho hb ht
theorem IsS88.apartS {w0 W : World} {g : Nat} {f0 : List Int × Bool} {α : Type} {d : Kd α} {e : Nat} {base : Nat} {ok : Nat → Prop} {v : Value} {xs : List α} (h : IsS88 w0 W g f0) (ho : d.S e W base ok v xs) (ht : ∀ q,q ∈ e :: d.E → q ≠ 88) : d.S e W base (fun k=>ok k ∧ k ≠ g) v xs:=by
 obtain ⟨A0,c0,hb,hg,hr⟩:=h
 exact Kd.S_types ho hb ht
theorem IsS88.own_neS {w0 W : World} {g : Nat} {f0 : List Int × Bool} {α : Type} {d : Kd α} {e : Nat} {base : Nat} {ok : Nat → Prop} {v : Value} {xs : List α} (h : IsS88 w0 W g f0) (ho : d.S e W base ok v xs) (ht : e ≠ 88) : some g ≠ v.ownBlock:=by
 obtain ⟨A0,c0,hb,hg,hr⟩:=h
 exact Kd.S_ne ho hb ht
theorem IsS88.lt {w0 W : World} {g : Nat} {f0 : List Int × Bool} (h : IsS88 w0 W g f0) : g < W.heap.size:=by
 obtain ⟨A0,c0,hb,hg,hr⟩:=h
 exact zbq hb
theorem IsS88.far {w0 W : World} {g : Nat} {f0 : List Int × Bool} {p : Addr} (h : IsS88 w0 W g f0) (hne : g ≠ p.block) (u : Value) : IsS88 w0 (W.setCell p u) g f0:=by
 obtain ⟨A0,c0,hb,hg,hr⟩:=h
 exact ⟨A0,c0,zaz hb hne u,hg,hr⟩
def takeF (s : List Int × Bool) (n e : Int) : List Int × Bool:=if e = 0 then (s.1.drop n.toNat,s.2) else ([],true)
theorem nil_C (w : World) : Kd.C (Kd.int .u8) w none 0 []:=Kd.C_of_reads (enc:=Value.int .u8) (d:=(0 : Int)) (h1:=fun _=>rfl) ⟨rfl,by simp,fun h=>absurd h (by simp)⟩
set_option maxHeartbeats 8000000 in
set_option maxRecDepth 100000 in
theorem take_calls (g : Nat) (s : List Int × Bool) (n e : Int) (w0 w : World) (hI : IsS88 w0 w g s) (hB : Below w0.heap.size w0 w) (hn : e = 0 → 0 ≤ n ∧ n ≤ s.1.length) :
  Calls Try.prog 92 #[.pointer (some ⟨g,0,none⟩),.int .i64 n,.int .i64 e] w fun r w'=>r = .returned (.tuple #[]) ∧ IsS88 w0 w' g (takeF s n e) ∧ Below w0.heap.size w0 w' ∧ zax w w' g none:=by
 obtain ⟨A,c,hb,hg,hr,hc,hx⟩:=hI
 obtain ⟨l,b⟩:=s
 simp only at hb hr hc hx hn
 have hu:=Try.underlying88
 have hc0 : w.cell? ⟨g,0,none⟩ = some (.slice A l.length c):=(zad hb 0).trans rfl
 have hf0:=zaa hb 0
 have hf1:=zaa hb 1
 have HR:=zac.mk hr
 have HX:=zac.mk hx
 have HB0:=zac.mk hb
 have HBel:=zac.mk hB
 clear hr hx hb hB
 by_cases he : e = 0
 ·have c1 : (e == 0) = true:=beq_iff_eq.mpr he
  have c2 : (e != 0) = false:=bne_eq_false_iff_eq.mpr he
  obtain ⟨h0,h1⟩:=hn he
  obtain ⟨i0,hi,_,hs,_⟩:=info_parts infoB
  obtain ⟨A1,hcut,hA1,hC1⟩:=print_drop_of (P:=Try.prog) (Value.int .u8) 0 46 5 .i64 Try.underlying46 hi hs A c l n h0 h1 hc
  have HR1:=zac.mk (Kd.C_of_reads (h1:=fun _=>rfl) (hA1 _ (Kd.reads_of_C HR.out)))
  have HC1:=zac.mk hC1
  have hT : takeF (l,b) n e = (l.drop n.toNat,b):=if_pos he
  rw [hT]
  clear hA1 hC1 hT
  have hx' : ∀ x ∈ l.drop n.toNat,0 ≤ x ∧ x ≤ 255:=fun x h=>HX.out x (List.mem_of_mem_drop h)
  generalize l.drop n.toNat = t at *
  go_enter Try.func92,Try.ntmps92
  go_wp2
  refine bodyPost_end (v:=.tuple #[]) (by simp [results,Try.results92,go_sem]) rfl ⟨rfl,⟨A1,c - n.toNat,?_,hg,HR1.out,HC1.out,hx'⟩,zai HBel.out hg,(zax.refl w g none).set_ 0 _⟩
  exact zaw HB0.out 0 _ (by simp)
 ·have c1 : (e == 0) = false:=beq_eq_false_iff_ne.mpr he
  have c2 : (e != 0) = true:=bne_iff_ne.mpr he
  have hT : takeF (l,b) n e = ([],true):=if_neg he
  rw [hT]
  have hnil:=nil_C w0
  have hb1 : (w.setCell ⟨g,1,none⟩ (.bool true)).heap[g]? = some (.cells #[.slice A l.length c,.bool true] 88 (0,0)):=zaw HB0.out 1 _ (by simp)
  have hc1 : w.cell? ⟨g,1,none⟩ = some (.bool b):=(zad HB0.out 1).trans rfl
  have hc0' : (w.setCell ⟨g,1,none⟩ (.bool true)).cell? ⟨g,0,none⟩ = some (.slice A l.length c):=(zad hb1 0).trans rfl
  have hf0':=zaa hb1 0
  have HB1:=zac.mk hb1
  clear hb1
  go_enter Try.func92,Try.ntmps92
  go_wp2
  refine bodyPost_ret (v:=.tuple #[]) (by simp [results,Try.results92,go_sem]) rfl ⟨rfl,⟨none,0,?_,hg,hnil,Nat.le_refl _,fun x h=>absurd h (by simp)⟩,?_,?_⟩
  ·exact zaw HB1.out 0 _ (by simp)
  ·exact zai (zai HBel.out hg) hg
  ·exact ((zax.refl w g none).set_ 1 _).set_ 0 _
def zbl.f (s : List Int × Bool) : Option (Int × (List Int × Bool)):=some ((decL s.1 0 0).1,takeF s (decL s.1 0 0).2.1 (decL s.1 0 0).2.2)
set_option maxHeartbeats 8000000 in
set_option maxRecDepth 100000 in
theorem zbl.calls (g : Nat) (s0_0 : List Int × Bool) (r1 : Int) (r2 : List Int × Bool) (w0 w : World) (hI : IsS88 w0 w g s0_0) (hB : Below w0.heap.size w0 w) (h : zbl.f s0_0 = some (r1,r2)) :
  Calls Try.prog 77 #[.pointer (some ⟨g,0,none⟩)] w fun e w'=>e = .returned (.int .i64 r1) ∧ IsS88 w0 w' g r2 ∧ Below w0.heap.size w0 w' ∧ zax w w' g none:=by
 have h':=Option.some.inj h
 simp only [Prod.mk.injEq] at h'
 obtain ⟨h1,h2⟩:=h'
 have hI':=zac.mk hI
 obtain ⟨A,c,hb,hg,hr,hc,hx⟩:=hI
 have hok:=decL_ok s0_0.1 0 0 (by omega) (by omega)
 have hcw:=Kd.C_below hr hB
 have hc0 : w.cell? ⟨g,0,none⟩ = some (.slice A s0_0.1.length c):=(zad hb 0).trans rfl
 have hf0:=zaa hb 0
 have HR:=zac.mk hcw
 have HX:=zac.mk hx
 have HBel:=zac.mk hB
 clear hr hx hb hB h hcw
 generalize hR : decL s0_0.1 0 0 = R at *
 obtain ⟨n,k,e⟩:=R
 simp only at h1 h2 hok
 subst h1
 have HK : e = 0 → 0 ≤ k ∧ k ≤ s0_0.1.length:=fun he=>by have:=hok he;omega
 go_enter Try.func77,Try.ntmps77
 have HD : zbt.f s0_0.1 = some (n,k,e):=by unfold zbt.f;rw [if_pos HX.out,hR]
 go_wp2_with fail
 refine (zbt.calls _ _ s0_0.1 n k e _ HR.out hc HD).mono ?_
 rintro e_ w1 ⟨rfl,⟨nd,rfl⟩⟩
 go_wp2_with fail
 refine (take_calls g s0_0 k e w0 _ (IsS88.drewN hI'.out nd) (zab HBel.out nd) HK).mono ?_
 rintro e_ w2 ⟨rfl,hI2,hB2,hk2⟩
 go_wp2
 go_ret
 exact ⟨rfl,h2 ▸ hI2,hB2,hk2⟩
theorem uint_at (l : List Int) (hx : ∀ x ∈ l,0 ≤ x ∧ x ≤ 255) : zbt.f l = some (decL l 0 0):=by unfold zbt.f;rw [if_pos hx]
theorem int_ok (l : List Int) (n k e : Int) (hx : ∀ x ∈ l,0 ≤ x ∧ x ≤ 255) (hl : l.length ≤ 9223372036854775807) (h : K.wire_DecodeInt.f l = some (n,k,e)) : e = 0 → 0 ≤ k ∧ k ≤ l.length:=by
 intro he
 have hok:=decL_ok l 0 0 (by omega) (by omega)
 unfold K.wire_DecodeInt.f at h
 rw [uint_at l hx,Option.bind_some] at h
 generalize decL l 0 0 = R at *
 obtain ⟨a,b,c⟩:=R
 simp only at h hok
 by_cases hc : c = 0
 ·have:=hok hc
  rw [if_pos hc] at h
  split at h
  all_goals
   have h:=Option.some.inj h
   simp only [Prod.mk.injEq] at h
   omega
 ·rw [if_neg hc] at h
  have h:=Option.some.inj h
  simp only [Prod.mk.injEq] at h
  omega
theorem text_ok (l : List Int) (n : ByteArray) (k e : Int) (hx : ∀ x ∈ l,0 ≤ x ∧ x ≤ 255) (hl : l.length ≤ 9223372036854775807) (h : K.wire_DecodeText.f l = some (n,k,e)) : e = 0 → 0 ≤ k ∧ k ≤ l.length:=by
 intro he
 have hok:=decL_ok l 0 0 (by omega) (by omega)
 unfold K.wire_DecodeText.f at h
 rw [uint_at l hx,Option.bind_some] at h
 generalize decL l 0 0 = R at *
 obtain ⟨a,b,c⟩:=R
 simp only at h hok
 by_cases hc : c = 0
 ·have hk:=hok hc
  rw [if_pos hc] at h
  split at h
  ·have h:=Option.some.inj h
   simp only [Prod.mk.injEq] at h
   omega
  split at h
  ·have h:=Option.some.inj h
   simp only [Prod.mk.injEq] at h
   omega
  split at h
  ·split at h
   ·split at h
    ·have h:=Option.some.inj h
     simp only [Prod.mk.injEq] at h
     omega
    ·cases h
   ·cases h
  ·cases h
 ·rw [if_neg hc] at h
  have h:=Option.some.inj h
  simp only [Prod.mk.injEq] at h
  omega
def timetable_reader_int.f (s : List Int × Bool) : Option (Int × (List Int × Bool)):=(K.wire_DecodeInt.f s.1).bind fun r=>some (r.1,takeF s r.2.1 r.2.2)
set_option maxHeartbeats 8000000 in
set_option maxRecDepth 100000 in
theorem timetable_reader_int.calls (g : Nat) (s0_0 : List Int × Bool) (r1 : Int) (r2 : List Int × Bool) (w0 w : World) (hI : IsS88 w0 w g s0_0) (hB : Below w0.heap.size w0 w) (h : timetable_reader_int.f s0_0 = some (r1,r2)) :
  Calls Try.prog 76 #[.pointer (some ⟨g,0,none⟩)] w fun e w'=>e = .returned (.int .i64 r1) ∧ IsS88 w0 w' g r2 ∧ Below w0.heap.size w0 w' ∧ zax w w' g none:=by
 obtain ⟨⟨n,k,e⟩,HD,h'⟩:=Option.bind_eq_some_iff.1 h
 have h':=Option.some.inj h'
 simp only [Prod.mk.injEq] at h'
 obtain ⟨h1,h2⟩:=h'
 have hI':=zac.mk hI
 obtain ⟨A,c,hb,hg,hr,hc,hx⟩:=hI
 have hcw:=Kd.C_below hr hB
 have hc0 : w.cell? ⟨g,0,none⟩ = some (.slice A s0_0.1.length c):=(zad hb 0).trans rfl
 have hf0:=zaa hb 0
 have hlen : s0_0.1.length ≤ 9223372036854775807:=(Kd.reads_of_C (enc:=Value.int .u8) (d:=(0 : Int)) (h1:=fun _=>rfl) hr).2.1
 have HR:=zac.mk hcw
 have HX:=zac.mk hx
 have HBel:=zac.mk hB
 have HK : e = 0 → 0 ≤ k ∧ k ≤ s0_0.1.length:=int_ok s0_0.1 n k e HX.out hlen HD
 clear hr hx hb hB h hcw
 subst h1
 go_enter Try.func76,Try.ntmps76
 go_wp2_with fail
 refine (K.wire_DecodeInt.calls _ _ s0_0.1 n k e _ HR.out hc HD).mono ?_
 rintro e_ w1 ⟨rfl,⟨nd,rfl⟩⟩
 go_wp2_with fail
 refine (take_calls g s0_0 k e w0 _ (IsS88.drewN hI'.out nd) (zab HBel.out nd) HK).mono ?_
 rintro e_ w2 ⟨rfl,hI2,hB2,hk2⟩
 go_wp2
 go_ret
 exact ⟨rfl,h2 ▸ hI2,hB2,hk2⟩
def zbg.f (s : List Int × Bool) : Option (ByteArray × (List Int × Bool)):=(K.wire_DecodeText.f s.1).bind fun r=>some (r.1,takeF s r.2.1 r.2.2)
set_option maxHeartbeats 8000000 in
set_option maxRecDepth 100000 in
theorem zbg.calls (g : Nat) (s0_0 : List Int × Bool) (r1 : ByteArray) (r2 : List Int × Bool) (w0 w : World) (hI : IsS88 w0 w g s0_0) (hB : Below w0.heap.size w0 w) (h : zbg.f s0_0 = some (r1,r2)) :
  Calls Try.prog 75 #[.pointer (some ⟨g,0,none⟩)] w fun e w'=>e = .returned (.string r1) ∧ IsS88 w0 w' g r2 ∧ Below w0.heap.size w0 w' ∧ zax w w' g none:=by
 obtain ⟨⟨n,k,e⟩,HD,h'⟩:=Option.bind_eq_some_iff.1 h
 have h':=Option.some.inj h'
 simp only [Prod.mk.injEq] at h'
 obtain ⟨h1,h2⟩:=h'
 have hI':=zac.mk hI
 obtain ⟨A,c,hb,hg,hr,hc,hx⟩:=hI
 have hcw:=Kd.C_below hr hB
 have hc0 : w.cell? ⟨g,0,none⟩ = some (.slice A s0_0.1.length c):=(zad hb 0).trans rfl
 have hf0:=zaa hb 0
 have hlen : s0_0.1.length ≤ 9223372036854775807:=(Kd.reads_of_C (enc:=Value.int .u8) (d:=(0 : Int)) (h1:=fun _=>rfl) hr).2.1
 have HR:=zac.mk hcw
 have HX:=zac.mk hx
 have HBel:=zac.mk hB
 have HK : e = 0 → 0 ≤ k ∧ k ≤ s0_0.1.length:=text_ok s0_0.1 n k e HX.out hlen HD
 clear hr hx hb hB h hcw
 subst h1
 go_enter Try.func75,Try.ntmps75
 go_wp2_with fail
 refine (K.wire_DecodeText.calls _ _ s0_0.1 n k e _ HR.out hc HD).mono ?_
 rintro e_ w1 ⟨rfl,⟨nd,rfl⟩⟩
 go_wp2_with fail
 refine (take_calls g s0_0 k e w0 _ (IsS88.drewN hI'.out nd) (zab HBel.out nd) HK).mono ?_
 rintro e_ w2 ⟨rfl,hI2,hB2,hk2⟩
 go_wp2
 go_ret
 exact ⟨rfl,h2 ▸ hI2,hB2,hk2⟩
def zbw.f (s : List Int × Bool) (a : Int) : Option (Int × (List Int × Bool)):=(zbl.f s).bind fun r=>if r.2.2 = true then some (0,(r.2.1,true)) else if r.1 > a then some (0,(r.2.1,true)) else some r
set_option maxHeartbeats 8000000 in
set_option maxRecDepth 100000 in
theorem zbw.calls (g : Nat) (s0_0 : List Int × Bool) (a1 : Int) (r1 : Int) (r2 : List Int × Bool) (w0 w : World) (hI : IsS88 w0 w g s0_0) (hB : Below w0.heap.size w0 w) (h : zbw.f s0_0 a1 = some (r1,r2)) :
  Calls Try.prog 74 #[.pointer (some ⟨g,0,none⟩),.int .i64 a1] w fun e w'=>e = .returned (.int .i64 r1) ∧ IsS88 w0 w' g r2 ∧ Below w0.heap.size w0 w' ∧ zax w w' g none:=by
 obtain ⟨⟨n,t,b⟩,HD,h'⟩:=Option.bind_eq_some_iff.1 h
 simp only at h'
 have H:=zac.mk h'
 have hI':=zac.mk hI
 have HBel:=zac.mk hB
 clear hI hB h h'
 go_enter Try.func74,Try.ntmps74
 go_wp2_with fail
 refine (zbl.calls g s0_0 n (t,b) w0 _ hI'.out HBel.out HD).mono ?_
 rintro e_ w1 ⟨rfl,hI1,hB1,hk1⟩
 have hI1':=zac.mk hI1
 obtain ⟨A,c,hb,hg,hr,hc,hx⟩:=hI1
 have hc1 : w1.cell? ⟨g,1,none⟩ = some (.bool b):=(zad hb 1).trans rfl
 have hf1:=zaa hb 1
 have HB1:=zac.mk hB1
 have HK1:=zac.mk hk1
 have HBk:=zac.mk hb
 clear hb hB1 hk1
 have h2:=H.out
 clear H
 have hbad : ∀ r : Int × (List Int × Bool),r = (0,(t,true)) → IsS88 w0 (w1.setCell ⟨g,1,none⟩ (.bool true)) g r.2 ∧ Below w0.heap.size w0 (w1.setCell ⟨g,1,none⟩ (.bool true)) ∧ zax w (w1.setCell ⟨g,1,none⟩ (.bool true)) g none:=by
  rintro _ rfl
  exact ⟨⟨A,c,zaw HBk.out 1 _ (by simp),hg,hr,hc,hx⟩,zai HB1.out hg,HK1.out.set_ 1 _⟩
 have HBad:=zac.mk hbad
 clear hbad
 cases b with
 | true =>
  rw [if_pos rfl] at h2
  have h3:=Option.some.inj h2
  simp only [Prod.mk.injEq] at h3
  obtain ⟨h3,h4⟩:=h3
  subst h3
  go_wp2
  go_ret
  exact ⟨rfl,h4 ▸ (HBad.out _ rfl).1,(HBad.out _ rfl).2⟩
 | false =>
  rw [if_neg (by simp)] at h2
  by_cases hn : n > a1
  ·rw [if_pos hn] at h2
   have h3:=Option.some.inj h2
   simp only [Prod.mk.injEq] at h3
   obtain ⟨h3,h4⟩:=h3
   subst h3
   have hd : decide (n > a1) = true:=decide_eq_true hn
   have hd2 : decide (a1 < n) = true:=decide_eq_true hn
   go_wp2
   go_ret
   exact ⟨rfl,h4 ▸ (HBad.out _ rfl).1,(HBad.out _ rfl).2⟩
  ·rw [if_neg hn] at h2
   have h3:=Option.some.inj h2
   simp only [Prod.mk.injEq] at h3
   obtain ⟨h3,h4⟩:=h3
   subst h3
   have hd : decide (n > a1) = false:=decide_eq_false hn
   have hd2 : decide (a1 < n) = false:=decide_eq_false hn
   go_wp2
   go_ret
   exact ⟨rfl,h4 ▸ hI1'.out,HB1.out,HK1.out⟩
end Go.Proofs.Ytepnddmalheoiaa.H
namespace Go.Proofs.Ytepnddmalheoiaa.Q
open Go.Proofs.Ytepnddmalheoiaa.H
open Go.RowKit Go.Proofs.YtepnddmalheoiaaW.PrintWords Go.Proofs.YtepnddmalheoiaaW.PrintLast Go.Proofs.YtepnddmalheoiaaW.PrintMore
attribute [local go_sem] str_leq str_geq str_gtr max2_int min2_int max_two min_two max_three min_three max_four min_four   -- for this text's walks alone
theorem info36 : (Try.prog.info? 36).map (fun i=>(i.zero,i.size,i.bytes)) = some (some (.agg #[(.string ⟨#[]⟩),(.string ⟨#[]⟩),(.string ⟨#[]⟩),(.int .i64 0),(.int .i64 0),(.string ⟨#[]⟩),(.int .i64 0),(.int .i64 0),(.int .i64 0)]),9,104):=by kernel_rfl
theorem info39 : (Try.prog.info? 39).map (fun i=>(i.zero,i.size,i.bytes)) = some (some (.agg #[(.string ⟨#[]⟩),(.string ⟨#[]⟩)]),2,32):=by kernel_rfl
theorem info42 : (Try.prog.info? 42).map (fun i=>(i.zero,i.size,i.bytes)) = some (some (.agg #[(.string ⟨#[]⟩),(.int .i64 0),(.slice none 0 0)]),3,48):=by kernel_rfl
theorem info44 : (Try.prog.info? 44).map (fun i=>(i.zero,i.size,i.bytes)) = some (some (.agg #[(.int .i64 0),(.int .i64 0)]),2,16):=by kernel_rfl
structure S44 where
 f0 : Int
 f1 : Int
def z44 : S44:=⟨(0 : Int),(0 : Int)⟩
def k44 : Kd S44:=Kd.iso (Kd.pair (Kd.int .i64) (Kd.int .i64)) (fun x : S44=>(x.f0,x.f1))
theorem k44_open {w : World} {x : S44} {cs : List Value} (h : k44.K w x cs) : cs = [.int .i64 x.f0,.int .i64 x.f1]:=by
 obtain ⟨_,_,rfl,rfl,rfl⟩:=h
 exact rfl
theorem k44_mk (w : World) (x : S44)  : k44.K w x [.int .i64 x.f0,.int .i64 x.f1]:=⟨[.int .i64 x.f0],[.int .i64 x.f1],rfl,rfl,rfl⟩
theorem k44_mkM (w : World) (base : Nat) (ok : Nat → Prop) (x : S44)  : k44.M w base ok x [.int .i64 x.f0,.int .i64 x.f1]:=⟨[.int .i64 x.f0],[.int .i64 x.f1],rfl,rfl,rfl⟩
def zbu (xs : List S44) (i : Int) : S44:=xs.getD i.toNat z44
theorem at_T44 {w : World} {A : Option Addr} {n : Nat} {xs : List S44} (h : Kd.C k44 w A n xs) (i : Int) (h0 : 0 ≤ i) (h1 : i < n) : ∃ ad ,A = some ad ∧ w.cell? (ad.add (i.toNat * 2)) = some (.int .i64 (zbu xs i).f0) ∧ w.cell? ⟨(ad.add (i.toNat * 2)).block,(ad.add (i.toNat * 2)).off + 1,none⟩ = some (.int .i64 (zbu xs i).f1):=by
 obtain ⟨ad,c,e,_,hK,hc0⟩:=Kd.C_get h z44 i h0 h1
 have hc : ∀ j u,c[j]? = some u → w.cell? (ad.add (i.toNat * 2 + j)) = some u:=hc0
 obtain rfl:=k44_open hK
 exact ⟨ad,e,hc 0 _ rfl,by rw [← add_field _ _ 1 (by omega)];exact hc 1 _ rfl⟩
structure S42 where
 f0 : ByteArray
 f1 : Int
 f2 : (List S44)
def z42 : S42:=⟨(⟨#[]⟩ : ByteArray),(0 : Int),([] : List S44)⟩
def k42 : Kd S42:=Kd.iso (Kd.pair Kd.string (Kd.pair (Kd.int .i64) (Kd.slice 44 k44))) (fun x : S42=>(x.f0,x.f1,x.f2))
theorem k42_open {w : World} {x : S42} {cs : List Value} (h : k42.K w x cs) : ∃ A2 c2,cs = [.string x.f0,.int .i64 x.f1,.slice A2 x.f2.length c2] ∧ x.f2.length ≤ c2 ∧ k44.C w A2 x.f2.length x.f2:=by
 obtain ⟨_,_,rfl,rfl,⟨_,_,rfl,rfl,⟨A2,c2,rfl,l2,g2⟩⟩⟩:=h
 exact ⟨A2,c2,rfl,l2,g2⟩
theorem k42_mk (w : World) (x : S42) {A2 : Option Addr} {c2 : Nat} (l2 : x.f2.length ≤ c2) (g2 : k44.C w A2 x.f2.length x.f2) : k42.K w x [.string x.f0,.int .i64 x.f1,.slice A2 x.f2.length c2]:=⟨[.string x.f0],[.int .i64 x.f1,.slice A2 x.f2.length c2],rfl,rfl,⟨[.int .i64 x.f1],[.slice A2 x.f2.length c2],rfl,rfl,⟨A2,c2,rfl,l2,g2⟩⟩⟩
theorem k42_mkM (w : World) (base : Nat) (ok : Nat → Prop) (x : S42) {v2 : Value} (g2 : k44.R 44 w base ok v2 x.f2) : k42.M w base ok x [.string x.f0,.int .i64 x.f1,v2]:=⟨[.string x.f0],[.int .i64 x.f1,v2],rfl,rfl,⟨[.int .i64 x.f1],[v2],rfl,rfl,⟨v2,rfl,g2⟩⟩⟩
theorem k42_mkF (W : World) (ok : Nat → Prop) (x : S42) {A2 : Option Addr} {c2 : Nat} (l2 : x.f2.length ≤ c2) (g2 : Kd.F k44 W ok A2 x.f2.length x.f2) : Kd.FK k42 W ok x [.string x.f0,.int .i64 x.f1,.slice A2 x.f2.length c2]:=fun W2 hW=>k42_mk W2 x l2 (g2 W2 hW)
def zbi (xs : List S42) (i : Int) : S42:=xs.getD i.toNat z42
theorem at_T42 {w : World} {A : Option Addr} {n : Nat} {xs : List S42} (h : Kd.C k42 w A n xs) (i : Int) (h0 : 0 ≤ i) (h1 : i < n) : ∃ ad A2 c2,A = some ad ∧ w.cell? (ad.add (i.toNat * 3)) = some (.string (zbi xs i).f0) ∧ w.cell? ⟨(ad.add (i.toNat * 3)).block,(ad.add (i.toNat * 3)).off + 1,none⟩ = some (.int .i64 (zbi xs i).f1) ∧ w.cell? ⟨(ad.add (i.toNat * 3)).block,(ad.add (i.toNat * 3)).off + 2,none⟩ = some (.slice A2 (zbi xs i).f2.length c2) ∧ (zbi xs i).f2.length ≤ c2 ∧ k44.C w A2 (zbi xs i).f2.length (zbi xs i).f2:=by
 obtain ⟨ad,c,e,_,hK,hc0⟩:=Kd.C_get h z42 i h0 h1
 have hc : ∀ j u,c[j]? = some u → w.cell? (ad.add (i.toNat * 3 + j)) = some u:=hc0
 obtain ⟨A2,c2,rfl,l2,g2⟩:=k42_open hK
 exact ⟨ad,A2,c2,e,hc 0 _ rfl,by rw [← add_field _ _ 1 (by omega)];exact hc 1 _ rfl,by rw [← add_field _ _ 2 (by omega)];exact hc 2 _ rfl,l2,g2⟩
structure S39 where
 f0 : ByteArray
 f1 : ByteArray
def z39 : S39:=⟨(⟨#[]⟩ : ByteArray),(⟨#[]⟩ : ByteArray)⟩
def k39 : Kd S39:=Kd.iso (Kd.pair Kd.string Kd.string) (fun x : S39=>(x.f0,x.f1))
theorem k39_open {w : World} {x : S39} {cs : List Value} (h : k39.K w x cs) : cs = [.string x.f0,.string x.f1]:=by
 obtain ⟨_,_,rfl,rfl,rfl⟩:=h
 exact rfl
theorem k39_mk (w : World) (x : S39)  : k39.K w x [.string x.f0,.string x.f1]:=⟨[.string x.f0],[.string x.f1],rfl,rfl,rfl⟩
theorem k39_mkM (w : World) (base : Nat) (ok : Nat → Prop) (x : S39)  : k39.M w base ok x [.string x.f0,.string x.f1]:=⟨[.string x.f0],[.string x.f1],rfl,rfl,rfl⟩
def zbd (xs : List S39) (i : Int) : S39:=xs.getD i.toNat z39
theorem at_T39 {w : World} {A : Option Addr} {n : Nat} {xs : List S39} (h : Kd.C k39 w A n xs) (i : Int) (h0 : 0 ≤ i) (h1 : i < n) : ∃ ad ,A = some ad ∧ w.cell? (ad.add (i.toNat * 2)) = some (.string (zbd xs i).f0) ∧ w.cell? ⟨(ad.add (i.toNat * 2)).block,(ad.add (i.toNat * 2)).off + 1,none⟩ = some (.string (zbd xs i).f1):=by
 obtain ⟨ad,c,e,_,hK,hc0⟩:=Kd.C_get h z39 i h0 h1
 have hc : ∀ j u,c[j]? = some u → w.cell? (ad.add (i.toNat * 2 + j)) = some u:=hc0
 obtain rfl:=k39_open hK
 exact ⟨ad,e,hc 0 _ rfl,by rw [← add_field _ _ 1 (by omega)];exact hc 1 _ rfl⟩
structure S34 where
 f0 : Int
 f1 : Int
 f2 : Int
def z34 : S34:=⟨(0 : Int),(0 : Int),(0 : Int)⟩
def k34 : Kd S34:=Kd.iso (Kd.pair (Kd.int .i64) (Kd.pair (Kd.int .i64) (Kd.int .i64))) (fun x : S34=>(x.f0,x.f1,x.f2))
theorem k34_open {w : World} {x : S34} {cs : List Value} (h : k34.K w x cs) : cs = [.int .i64 x.f0,.int .i64 x.f1,.int .i64 x.f2]:=by
 obtain ⟨_,_,rfl,rfl,⟨_,_,rfl,rfl,rfl⟩⟩:=h
 exact rfl
theorem k34_mk (w : World) (x : S34)  : k34.K w x [.int .i64 x.f0,.int .i64 x.f1,.int .i64 x.f2]:=⟨[.int .i64 x.f0],[.int .i64 x.f1,.int .i64 x.f2],rfl,rfl,⟨[.int .i64 x.f1],[.int .i64 x.f2],rfl,rfl,rfl⟩⟩
theorem k34_mkM (w : World) (base : Nat) (ok : Nat → Prop) (x : S34)  : k34.M w base ok x [.int .i64 x.f0,.int .i64 x.f1,.int .i64 x.f2]:=⟨[.int .i64 x.f0],[.int .i64 x.f1,.int .i64 x.f2],rfl,rfl,⟨[.int .i64 x.f1],[.int .i64 x.f2],rfl,rfl,rfl⟩⟩
structure S36 where
 f0 : ByteArray
 f1 : ByteArray
 f2 : ByteArray
 f3 : Int
 f4 : Int
 f5 : ByteArray
 f6 : S34
def z36 : S36:=⟨(⟨#[]⟩ : ByteArray),(⟨#[]⟩ : ByteArray),(⟨#[]⟩ : ByteArray),(0 : Int),(0 : Int),(⟨#[]⟩ : ByteArray),z34⟩
def k36 : Kd S36:=Kd.iso (Kd.pair Kd.string (Kd.pair Kd.string (Kd.pair Kd.string (Kd.pair (Kd.int .i64) (Kd.pair (Kd.int .i64) (Kd.pair Kd.string k34)))))) (fun x : S36=>(x.f0,x.f1,x.f2,x.f3,x.f4,x.f5,x.f6))
theorem k36_open {w : World} {x : S36} {cs : List Value} (h : k36.K w x cs) : cs = [.string x.f0,.string x.f1,.string x.f2,.int .i64 x.f3,.int .i64 x.f4,.string x.f5,.int .i64 x.f6.f0,.int .i64 x.f6.f1,.int .i64 x.f6.f2]:=by
 obtain ⟨_,_,rfl,rfl,⟨_,_,rfl,rfl,⟨_,_,rfl,rfl,⟨_,_,rfl,rfl,⟨_,_,rfl,rfl,⟨_,_,rfl,rfl,s6⟩⟩⟩⟩⟩⟩:=h
 obtain rfl:=k34_open s6
 exact rfl
theorem k36_mk (w : World) (x : S36)  : k36.K w x [.string x.f0,.string x.f1,.string x.f2,.int .i64 x.f3,.int .i64 x.f4,.string x.f5,.int .i64 x.f6.f0,.int .i64 x.f6.f1,.int .i64 x.f6.f2]:=⟨[.string x.f0],[.string x.f1,.string x.f2,.int .i64 x.f3,.int .i64 x.f4,.string x.f5,.int .i64 x.f6.f0,.int .i64 x.f6.f1,.int .i64 x.f6.f2],rfl,rfl,⟨[.string x.f1],[.string x.f2,.int .i64 x.f3,.int .i64 x.f4,.string x.f5,.int .i64 x.f6.f0,.int .i64 x.f6.f1,.int .i64 x.f6.f2],rfl,rfl,⟨[.string x.f2],[.int .i64 x.f3,.int .i64 x.f4,.string x.f5,.int .i64 x.f6.f0,.int .i64 x.f6.f1,.int .i64 x.f6.f2],rfl,rfl,⟨[.int .i64 x.f3],[.int .i64 x.f4,.string x.f5,.int .i64 x.f6.f0,.int .i64 x.f6.f1,.int .i64 x.f6.f2],rfl,rfl,⟨[.int .i64 x.f4],[.string x.f5,.int .i64 x.f6.f0,.int .i64 x.f6.f1,.int .i64 x.f6.f2],rfl,rfl,⟨[.string x.f5],[.int .i64 x.f6.f0,.int .i64 x.f6.f1,.int .i64 x.f6.f2],rfl,rfl,(k34_mk w x.f6 )⟩⟩⟩⟩⟩⟩
theorem k36_mkM (w : World) (base : Nat) (ok : Nat → Prop) (x : S36)  : k36.M w base ok x [.string x.f0,.string x.f1,.string x.f2,.int .i64 x.f3,.int .i64 x.f4,.string x.f5,.int .i64 x.f6.f0,.int .i64 x.f6.f1,.int .i64 x.f6.f2]:=⟨[.string x.f0],[.string x.f1,.string x.f2,.int .i64 x.f3,.int .i64 x.f4,.string x.f5,.int .i64 x.f6.f0,.int .i64 x.f6.f1,.int .i64 x.f6.f2],rfl,rfl,⟨[.string x.f1],[.string x.f2,.int .i64 x.f3,.int .i64 x.f4,.string x.f5,.int .i64 x.f6.f0,.int .i64 x.f6.f1,.int .i64 x.f6.f2],rfl,rfl,⟨[.string x.f2],[.int .i64 x.f3,.int .i64 x.f4,.string x.f5,.int .i64 x.f6.f0,.int .i64 x.f6.f1,.int .i64 x.f6.f2],rfl,rfl,⟨[.int .i64 x.f3],[.int .i64 x.f4,.string x.f5,.int .i64 x.f6.f0,.int .i64 x.f6.f1,.int .i64 x.f6.f2],rfl,rfl,⟨[.int .i64 x.f4],[.string x.f5,.int .i64 x.f6.f0,.int .i64 x.f6.f1,.int .i64 x.f6.f2],rfl,rfl,⟨[.string x.f5],[.int .i64 x.f6.f0,.int .i64 x.f6.f1,.int .i64 x.f6.f2],rfl,rfl,(k34_mkM w base ok x.f6 )⟩⟩⟩⟩⟩⟩
def zaj (xs : List S36) (i : Int) : S36:=xs.getD i.toNat z36
theorem at_T36 {w : World} {A : Option Addr} {n : Nat} {xs : List S36} (h : Kd.C k36 w A n xs) (i : Int) (h0 : 0 ≤ i) (h1 : i < n) : ∃ ad ,A = some ad ∧ w.cell? (ad.add (i.toNat * 9)) = some (.string (zaj xs i).f0) ∧ w.cell? ⟨(ad.add (i.toNat * 9)).block,(ad.add (i.toNat * 9)).off + 1,none⟩ = some (.string (zaj xs i).f1) ∧ w.cell? ⟨(ad.add (i.toNat * 9)).block,(ad.add (i.toNat * 9)).off + 2,none⟩ = some (.string (zaj xs i).f2) ∧ w.cell? ⟨(ad.add (i.toNat * 9)).block,(ad.add (i.toNat * 9)).off + 3,none⟩ = some (.int .i64 (zaj xs i).f3) ∧ w.cell? ⟨(ad.add (i.toNat * 9)).block,(ad.add (i.toNat * 9)).off + 4,none⟩ = some (.int .i64 (zaj xs i).f4) ∧ w.cell? ⟨(ad.add (i.toNat * 9)).block,(ad.add (i.toNat * 9)).off + 5,none⟩ = some (.string (zaj xs i).f5) ∧ w.cell? ⟨(ad.add (i.toNat * 9)).block,(ad.add (i.toNat * 9)).off + 6,none⟩ = some (.int .i64 (zaj xs i).f6.f0) ∧ w.cell? ⟨(ad.add (i.toNat * 9)).block,(ad.add (i.toNat * 9)).off + 7,none⟩ = some (.int .i64 (zaj xs i).f6.f1) ∧ w.cell? ⟨(ad.add (i.toNat * 9)).block,(ad.add (i.toNat * 9)).off + 8,none⟩ = some (.int .i64 (zaj xs i).f6.f2):=by
 obtain ⟨ad,c,e,_,hK,hc0⟩:=Kd.C_get h z36 i h0 h1
 have hc : ∀ j u,c[j]? = some u → w.cell? (ad.add (i.toNat * 9 + j)) = some u:=hc0
 obtain rfl:=k36_open hK
 exact ⟨ad,e,hc 0 _ rfl,by rw [← add_field _ _ 1 (by omega)];exact hc 1 _ rfl,by rw [← add_field _ _ 2 (by omega)];exact hc 2 _ rfl,by rw [← add_field _ _ 3 (by omega)];exact hc 3 _ rfl,by rw [← add_field _ _ 4 (by omega)];exact hc 4 _ rfl,by rw [← add_field _ _ 5 (by omega)];exact hc 5 _ rfl,by rw [← add_field _ _ 6 (by omega)];exact hc 6 _ rfl,by rw [← add_field _ _ 7 (by omega)];exact hc 7 _ rfl,by rw [← add_field _ _ 8 (by omega)];exact hc 8 _ rfl⟩
end Go.Proofs.Ytepnddmalheoiaa.Q
