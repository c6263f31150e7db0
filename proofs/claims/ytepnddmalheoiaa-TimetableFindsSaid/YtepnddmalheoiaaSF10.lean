/- For timetableFinds_holds: texts of this session and words of the kit's print, those alone that the proof uses. -/
import Derived.Test.YtepnddmalheoiaaProg
import Derived.Below
import Derived.Deep.Draws
import Derived.Deep.AppendLies
import Derived.Maps.AppendAt
import Derived.OwnWalk
import Derived.Laws.BytesArg
import Derived.Laws.MakeOwn
import Derived.Laws.OwnMore
import Derived.Deep.OwnRows
import Derived.Tactics
import Derived.Lib.ConvBytes
import Derived.Laws.Slices
import Derived.WalkKit
import Derived.KernelRfl
import Derived.RowKit3
import Derived.Deep.LoopGhost
import Derived.Deep.QuietTactic
import Derived.BigQuiet
import Derived.WideLaws
import Derived.Deep.DeepCutAuto
import Derived.Deep.CutBlock
import Derived.Deep.RegionHeld3
import Derived.Laws.Rows
import Derived.Lib.AppendStr
import Derived.ArgAppend
import Derived.Laws.IdiomCopy
import Derived.OrdersHeld
import Derived.Laws.BitsLemmas
import Derived.RowKit
import Derived.Deep.WholeRow
import Derived.Laws.ResultCell
import Derived.Lib.SlBytesConst
import Derived.Outline
import Derived.Laws.StructEq
import Derived.IntWalk
import Derived.Test.YtepnddmalheoiaaSF0
import Derived.Test.YtepnddmalheoiaaSF1
import Derived.Test.YtepnddmalheoiaaSF2
import Derived.Test.YtepnddmalheoiaaSF4
import Derived.Test.YtepnddmalheoiaaSF5
import Derived.Test.YtepnddmalheoiaaSF6
import Derived.Test.YtepnddmalheoiaaSF7
import Derived.Test.YtepnddmalheoiaaSF8
import Derived.Test.YtepnddmalheoiaaSF9
namespace Go.Proofs.Ytepnddmalheoiaa.Q
open Go.Proofs.Ytepnddmalheoiaa.H
open Go.RowKit Go.Proofs.YtepnddmalheoiaaW.PrintWords Go.Proofs.YtepnddmalheoiaaW.PrintLast Go.Proofs.YtepnddmalheoiaaW.PrintMore
set_option linter.unusedVariables false
set_option linter.unusedSimpArgs false
def timetable_Decode.f (k : Nat) (l0 : List Int) : Option (List S42 × List S39 × List S36 × Int) :=
 (wire_Unframe.f l0).bind fun u=>if u.2.2.2 = 0 then (timetable_reader_timetable.f k (u.2.1,false)).bind fun t=>if u.1 = 1 ∧ u.2.2.1 = (l0.length : Int) ∧ t.2.2.2 = ([],false) then (timetable_Validate.f k t.1 t.2.1 t.2.2.1).bind fun e=>if e = 0 then some (t.1,t.2.1,t.2.2.1,0) else some ([],[],[],e) else some ([],[],[],2) else some ([],[],[],u.2.2.2)
theorem unf_body (l : List Int) (h : ∀ x ∈ l,0 ≤ x ∧ x ≤ 255) : ∀ x ∈ (unf l).2.1,0 ≤ x ∧ x ≤ 255:=by
 unfold unf
 repeat' split
 all_goals first
  | exact fun x hx=>h x (List.mem_of_mem_take (List.mem_of_mem_drop hx))
  | exact fun x hx=>absurd hx (by simp)
set_option maxHeartbeats 8000000 in
set_option maxRecDepth 100000 in
theorem timetable_Decode.calls (k : Nat) (A0 : Option Addr) (c0 : Nat) (l0 : List Int) (r1 : List S42) (r2 : List S39) (r3 : List S36) (r4 : Int) (w : World) (hr0 : Kd.C (Kd.int .u8) w A0 l0.length l0) (hc0 : l0.length ≤ c0) (h : timetable_Decode.f k l0 = some (r1,r2,r3,r4)) :
  Calls Try.prog 16 #[.slice A0 l0.length c0] w fun e w'=>∃ v0_ v1_ v2_ : Value,e = .returned (.tuple #[.agg #[v0_,v1_,v2_],.int .i64 r4]) ∧ Kd.S k42 42 w' w.heap.size (fun _=>True) v0_ r1 ∧ Kd.R k39 39 w' w.heap.size (fun _=>True) v1_ r2 ∧ Kd.R k36 36 w' w.heap.size (fun _=>True) v2_ r3 ∧ Below w.heap.size w w':=by
 have hu26:=Try.underlying26
 have HR0:=Aside0.mk hr0
 have HC0:=Aside0.mk hc0
 clear hr0 hc0
 unfold timetable_Decode.f at h
 obtain ⟨⟨u1,u2,u3,u4⟩,hu,h⟩:=Option.bind_eq_some_iff.1 h
 simp only at h
 have HBy : Aside0 (∀ x ∈ u2,0 ≤ x ∧ x ≤ 255):=by
  unfold wire_Unframe.f at hu
  split at hu
  ·rename_i hb
   have hq:=unf_body l0 hb.1
   rw [Option.some.inj hu] at hq
   exact ⟨hq⟩
  ·cases hu
 have HU:=Aside0.mk hu
 have HH:=Aside0.mk h
 clear hu h
 have hb0:=Below.refl w.heap.size w
 have HB0:=Aside0.mk hb0
 clear hb0
 go_enter Try.func16,Try.ntmps16
 go_wp2_with fail
 refine (wire_Unframe.calls _ _ l0 u1 u2 u3 u4 _ (Kd.C_alloc HR0.out _) HC0.out HU.out).mono ?_
 rintro e_ w1 ⟨v,rfl,hR,hb1⟩
 obtain ⟨A1,c1,rfl,hl1,hC1⟩:=Kd.R_reads hR
 have HC1:=Aside0.mk hC1
 have HL1:=Aside0.mk hl1
 have HB1:=Aside0.mk (below_step (below_alloc HB0.out (.cells #[.slice none 0 0,.slice none 0 0,.slice none 0 0] 26 (0,0))) hb1)
 have HBK:=Aside0.mk (blk_below (g:=w.heap.size) (heap_alloc_new w (.cells #[.slice none 0 0,.slice none 0 0,.slice none 0 0] 26 (0,0))) hb1)
 have H:=HH.out
 clear hR hb1 hC1 hl1 HH
 by_cases hu4 : u4 = 0
 ·rw [if_pos hu4] at H
  obtain ⟨⟨t1,t2,t3,t4⟩,ht,H⟩:=Option.bind_eq_some_iff.1 H
  simp only at H
  have HH:=Aside0.mk H
  have HT:=Aside0.mk ht
  have c4 : (u4 != 0) = false:=bne_eq_false_iff_eq.mpr hu4
  clear H ht hu4
  go_wp2_with fail
  have hI : IsS88 w1 (w1.alloc (.cells #[.slice A1 u2.length c1,.bool false] 88 (0,0))) w1.heap.size (u2,false):=⟨A1,c1,heap_alloc_new _ _,Nat.le_refl _,HC1.out,HL1.out,HBy.out⟩
  refine (timetable_reader_timetable.calls k w1.heap.size (u2,false) t1 t2 t3 t4 w1 _ hI (below_alloc (Below.refl _ _) _) HT.out).mono ?_
  rintro e_ w2 ⟨v0,v1,v2,rfl,hS,hR1,hR2,hI2,hb2,hk2⟩
  obtain ⟨l4,b4⟩:=t4
  obtain ⟨Az,cz,rfl,hlz,hCz⟩:=Kd.S_reads hS
  obtain ⟨Ap,cp,rfl,hlp,hCp⟩:=Kd.R_reads hR1
  obtain ⟨Af,cf,rfl,hlf,hCf⟩:=Kd.R_reads hR2
  have HZ:=Aside0.mk hCz
  have HP:=Aside0.mk hCp
  have HF:=Aside0.mk hCf
  have HlZ:=Aside0.mk hlz
  have HlP:=Aside0.mk hlp
  have HlF:=Aside0.mk hlf
  clear hCz hCp hCf hlz hlp hlf
  have HI2:=Aside0.mk hI2
  clear hI
  obtain ⟨A2,c2,hb,hg,hr,hc,hx⟩:=hI2
  have hc0 : w2.cell? ⟨w1.heap.size,0,none⟩ = some (.slice A2 l4.length c2):=(blk_cell hb 0).trans rfl
  have hc1 : w2.cell? ⟨w1.heap.size,1,none⟩ = some (.bool b4):=(blk_cell hb 1).trans rfl
  have HBk:=Aside0.mk hb
  have HX:=Aside0.mk hx
  have HR:=Aside0.mk hr
  have HB2:=Aside0.mk (below_step HB1.out hb2)
  have HBK2:=Aside0.mk (blk_below HBK.out hb2)
  have HS:=Aside0.mk hS
  have HR1:=Aside0.mk hR1
  have HR2:=Aside0.mk hR2
  have HK:=Aside0.mk hk2
  clear hS hR1 hR2 hb2 hk2 hb hx hr
  obtain ⟨T,hT⟩ : ∃ T,T = Obj.cells #[.slice Az t1.length cz,.slice Ap t2.length cp,.slice Af t3.length cf] 26 (0,0):=⟨_,rfl⟩
  have HA:=Aside0.mk (blk_alloc HBk.out T)
  have HRs:=Aside0.mk (blk_alloc HBK2.out T)
  have HN:=Aside0.mk (heap_alloc_new w2 T)
  have HBA:=Aside0.mk (below_alloc HB2.out T)
  subst hT
  have ha0:=(blk_cell HA.out 0).trans rfl
  have ha1:=(blk_cell HA.out 1).trans rfl
  have hr0:=(blk_cell HRs.out 0).trans rfl
  have hr1:=(blk_cell HRs.out 1).trans rfl
  have hr2:=(blk_cell HRs.out 2).trans rfl
  have hf0:=blk_frozen HRs.out 0
  have hf1:=blk_frozen HRs.out 1
  have hf2:=blk_frozen HRs.out 2
  by_cases q1 : u1 = 1
  ·have d1 : (u1 != 1) = false:=bne_eq_false_iff_eq.mpr q1
   by_cases q2 : u3 = (l0.length : Int)
   ·have d2 : (u3 != (l0.length : Int)) = false:=bne_eq_false_iff_eq.mpr q2
    have Q12:=Aside0.mk (And.intro q1 q2)
    clear q1 q2
    cases b4 with
    | true =>
     have H:=HH.out
     rw [if_neg (by simp)] at H
     obtain ⟨rfl,rfl,rfl,rfl⟩ : r1 = [] ∧ r2 = [] ∧ r3 = [] ∧ r4 = 2:=by simpa [eq_comm] using H
     go_wp2
     refine bodyPost_ret (results_list rfl (by simp) (.cell w.heap.size 26 #[.slice none 0 0,.slice none 0 0,.slice none 0 0] (0,0) _ rfl (blk_put (blk_put (blk_put HRs.out 0 _ rfl) 1 _ rfl) 2 _ rfl) hu26 rfl (by kernel_rfl) (.tmp .nil))) rfl ⟨_,_,_,rfl,Kd.S_nil _ _ _ _ _,Kd.R_nil _ _ _ _ _,Kd.R_nil _ _ _ _ _,below_set (below_set (below_set HBA.out (Nat.le_refl _)) (Nat.le_refl _)) (Nat.le_refl _)⟩
    | false =>
     cases l4 with
     | nil =>
      go_wp2_with fail
      have H:=HH.out
      rw [if_pos (by simpa using Q12.out)] at H
      obtain ⟨e,hV,H⟩:=Option.bind_eq_some_iff.1 H
      refine (timetable_Validate.calls k _ _ t1 _ _ t2 _ _ t3 e _ (Kd.C_alloc HZ.out _) HlZ.out (Kd.C_alloc HP.out _) HlP.out (Kd.C_alloc HF.out _) HlF.out hV).mono ?_
      rintro e_ w3 ⟨rfl,hb3⟩
      have HB3:=Aside0.mk (below_step HBA.out hb3)
      have HR3:=Aside0.mk (blk_below HRs.out hb3)
      have HN3:=Aside0.mk (blk_below HN.out hb3)
      have HB3':=Aside0.mk hb3
      have hr0:=(blk_cell HR3.out 0).trans rfl
      have hr1:=(blk_cell HR3.out 1).trans rfl
      have hr2:=(blk_cell HR3.out 2).trans rfl
      have hf0:=blk_frozen HR3.out 0
      have hf1:=blk_frozen HR3.out 1
      have hf2:=blk_frozen HR3.out 2
      have hn0:=(blk_cell HN3.out 0).trans rfl
      have hn1:=(blk_cell HN3.out 1).trans rfl
      have hn2:=(blk_cell HN3.out 2).trans rfl
      clear hb3
      by_cases he : e = 0
      ·have d5 : (e != 0) = false:=bne_eq_false_iff_eq.mpr he
       rw [if_pos he] at H
       obtain ⟨rfl,rfl,rfl,rfl⟩ : t1 = r1 ∧ t2 = r2 ∧ t3 = r3 ∧ 0 = r4:=by simpa using H
       go_wp2
       refine bodyPost_ret (results_list rfl (by simp) (.cell w.heap.size 26 #[.slice Az t1.length cz,.slice Ap t2.length cp,.slice Af t3.length cf] (0,0) _ rfl (blk_put (blk_put (blk_put HR3.out 0 _ rfl) 1 _ rfl) 2 _ rfl) hu26 rfl (by kernel_rfl) (.tmp .nil))) rfl ⟨_,_,_,rfl,?_,?_,?_,below_set (below_set (below_set HB3.out (Nat.le_refl _)) (Nat.le_refl _)) (Nat.le_refl _)⟩
       ·exact Kd.S_mono (Kd.S_set (Kd.S_set (Kd.S_set (Kd.S_lower (Kd.S_below (Kd.S_alloc HS.out _) HB3'.out) (Nat.le_trans HB1.out.size (by simp))) HR3.out (by decide) 0 _) (blk_put HR3.out 0 _ rfl) (by decide) 1 _) (blk_put (blk_put HR3.out 0 _ rfl) 1 _ rfl) (by decide) 2 _) (fun _ _=>trivial)
       ·exact Kd.R_mono (Kd.R_set (Kd.R_set (Kd.R_set (Kd.R_lower (Kd.R_below (Kd.R_alloc HR1.out _) HB3'.out) (Nat.le_trans HB1.out.size (by simp))) HR3.out (by decide) 0 _) (blk_put HR3.out 0 _ rfl) (by decide) 1 _) (blk_put (blk_put HR3.out 0 _ rfl) 1 _ rfl) (by decide) 2 _) (fun _ _=>trivial)
       ·exact Kd.R_mono (Kd.R_set (Kd.R_set (Kd.R_set (Kd.R_lower (Kd.R_below (Kd.R_alloc HR2.out _) HB3'.out) (Nat.le_trans HB1.out.size (by simp))) HR3.out (by decide) 0 _) (blk_put HR3.out 0 _ rfl) (by decide) 1 _) (blk_put (blk_put HR3.out 0 _ rfl) 1 _ rfl) (by decide) 2 _) (fun _ _=>trivial)
      ·have d5 : (e != 0) = true:=bne_iff_ne.mpr he
       rw [if_neg he] at H
       obtain ⟨rfl,rfl,rfl,rfl⟩ : r1 = [] ∧ r2 = [] ∧ r3 = [] ∧ r4 = e:=by simpa [eq_comm] using H
       go_wp2
       refine bodyPost_ret (results_list rfl (by simp) (.cell w.heap.size 26 #[.slice none 0 0,.slice none 0 0,.slice none 0 0] (0,0) _ rfl (blk_put (blk_put (blk_put HR3.out 0 _ rfl) 1 _ rfl) 2 _ rfl) hu26 rfl (by kernel_rfl) (.tmp .nil))) rfl ⟨_,_,_,rfl,Kd.S_nil _ _ _ _ _,Kd.R_nil _ _ _ _ _,Kd.R_nil _ _ _ _ _,below_set (below_set (below_set HB3.out (Nat.le_refl _)) (Nat.le_refl _)) (Nat.le_refl _)⟩
     | cons a l4 =>
      have H:=HH.out
      rw [if_neg (by simp)] at H
      obtain ⟨rfl,rfl,rfl,rfl⟩ : r1 = [] ∧ r2 = [] ∧ r3 = [] ∧ r4 = 2:=by simpa [eq_comm] using H
      go_wp2
      refine bodyPost_ret (results_list rfl (by simp) (.cell w.heap.size 26 #[.slice none 0 0,.slice none 0 0,.slice none 0 0] (0,0) _ rfl (blk_put (blk_put (blk_put HRs.out 0 _ rfl) 1 _ rfl) 2 _ rfl) hu26 rfl (by kernel_rfl) (.tmp .nil))) rfl ⟨_,_,_,rfl,Kd.S_nil _ _ _ _ _,Kd.R_nil _ _ _ _ _,Kd.R_nil _ _ _ _ _,below_set (below_set (below_set HBA.out (Nat.le_refl _)) (Nat.le_refl _)) (Nat.le_refl _)⟩
   ·have d2 : (u3 != (l0.length : Int)) = true:=bne_iff_ne.mpr q2
    have H:=HH.out
    rw [if_neg (fun h=>q2 h.2.1)] at H
    obtain ⟨rfl,rfl,rfl,rfl⟩ : r1 = [] ∧ r2 = [] ∧ r3 = [] ∧ r4 = 2:=by simpa [eq_comm] using H
    go_wp2
    refine bodyPost_ret (results_list rfl (by simp) (.cell w.heap.size 26 #[.slice none 0 0,.slice none 0 0,.slice none 0 0] (0,0) _ rfl (blk_put (blk_put (blk_put HRs.out 0 _ rfl) 1 _ rfl) 2 _ rfl) hu26 rfl (by kernel_rfl) (.tmp .nil))) rfl ⟨_,_,_,rfl,Kd.S_nil _ _ _ _ _,Kd.R_nil _ _ _ _ _,Kd.R_nil _ _ _ _ _,below_set (below_set (below_set HBA.out (Nat.le_refl _)) (Nat.le_refl _)) (Nat.le_refl _)⟩
  ·have d1 : (u1 != 1) = true:=bne_iff_ne.mpr q1
   have H:=HH.out
   rw [if_neg (fun h=>q1 h.1)] at H
   obtain ⟨rfl,rfl,rfl,rfl⟩ : r1 = [] ∧ r2 = [] ∧ r3 = [] ∧ r4 = 2:=by simpa [eq_comm] using H
   go_wp2
   refine bodyPost_ret (results_list rfl (by simp) (.cell w.heap.size 26 #[.slice none 0 0,.slice none 0 0,.slice none 0 0] (0,0) _ rfl (blk_put (blk_put (blk_put HRs.out 0 _ rfl) 1 _ rfl) 2 _ rfl) hu26 rfl (by kernel_rfl) (.tmp .nil))) rfl ⟨_,_,_,rfl,Kd.S_nil _ _ _ _ _,Kd.R_nil _ _ _ _ _,Kd.R_nil _ _ _ _ _,below_set (below_set (below_set HBA.out (Nat.le_refl _)) (Nat.le_refl _)) (Nat.le_refl _)⟩
 ·have H2:=H
  rw [if_neg hu4] at H2
  have c4 : (u4 != 0) = true:=bne_iff_ne.mpr hu4
  obtain ⟨rfl,rfl,rfl,rfl⟩ : r1 = [] ∧ r2 = [] ∧ r3 = [] ∧ r4 = u4:=by simpa [eq_comm] using H2
  have hr0:=(blk_cell HBK.out 0).trans rfl
  have hr1:=(blk_cell HBK.out 1).trans rfl
  have hr2:=(blk_cell HBK.out 2).trans rfl
  have hf0:=blk_frozen HBK.out 0
  have hf1:=blk_frozen HBK.out 1
  have hf2:=blk_frozen HBK.out 2
  clear H H2
  go_wp2
  refine bodyPost_ret (results_list rfl (by simp) (.cell w.heap.size 26 #[.slice none 0 0,.slice none 0 0,.slice none 0 0] (0,0) _ rfl (blk_put (blk_put (blk_put HBK.out 0 _ rfl) 1 _ rfl) 2 _ rfl) hu26 rfl (by kernel_rfl) (.tmp .nil))) rfl ⟨_,_,_,rfl,Kd.S_nil _ _ _ _ _,Kd.R_nil _ _ _ _ _,Kd.R_nil _ _ _ _ _,below_set (below_set (below_set HB1.out (Nat.le_refl _)) (Nat.le_refl _)) (Nat.le_refl _)⟩
end Go.Proofs.Ytepnddmalheoiaa.Q
namespace Go.Proofs.Ytepnddmalheoiaa.Q
open Go.Proofs.Ytepnddmalheoiaa.H
open Go.RowKit Go.Proofs.YtepnddmalheoiaaW.PrintWords Go.Proofs.YtepnddmalheoiaaW.PrintLast Go.Proofs.YtepnddmalheoiaaW.PrintMore
attribute [local go_sem] str_leq str_geq str_gtr max2_int min2_int max_two min_two max_three min_three max_four min_four   -- for this text's walks alone
set_option linter.unusedVariables false
set_option linter.unusedSimpArgs false
def pairingbase_Zones.f  : Option ((List (S42))):=some (([(⟨(⟨#[117,116,99]⟩ : ByteArray),0,([] : List (S44))⟩ : S42),(⟨(⟨#[111,115,108,111]⟩ : ByteArray),60,(([(⟨1441500,120⟩ : S44),(⟨1444000,60⟩ : S44)] : List (S44)))⟩ : S42),(⟨(⟨#[121,111,114,107]⟩ : ByteArray),(-300),(([(⟨1442900,(-240)⟩ : S44)] : List (S44)))⟩ : S42)] : List (S42)))
set_option maxHeartbeats 8000000 in
set_option maxRecDepth 100000 in
theorem pairingbase_Zones.calls  (r : List (S42)) (w : World) (h : pairingbase_Zones.f  = some r) :
  Calls Try.prog 36 #[] w fun e w'=>∃ v0_ : Value,e = .returned (v0_) ∧ Kd.N k42 42 w' w.heap.size (fun k_=>(w.heap.size ≤ k_)) v0_ r ∧ Below w.heap.size w w':=by
 have hu42:=Try.underlying42
 have hu44:=Try.underlying44
 have HB:=Aside0.mk (Below.refl w.heap.size w)
 have H : (some (([(⟨(⟨#[117,116,99]⟩ : ByteArray),0,([] : List (S44))⟩ : S42),(⟨(⟨#[111,115,108,111]⟩ : ByteArray),60,(([(⟨1441500,120⟩ : S44),(⟨1444000,60⟩ : S44)] : List (S44)))⟩ : S42),(⟨(⟨#[121,111,114,107]⟩ : ByteArray),(-300),(([(⟨1442900,(-240)⟩ : S44)] : List (S44)))⟩ : S42)] : List (S42)))) = some r:=h
 clear h
 obtain ⟨y249,hy249⟩ : ∃ y_ : List (S44),y_ = (([(⟨1441500,120⟩ : S44),(⟨1444000,60⟩ : S44)] : List (S44))):=⟨_,rfl⟩
 replace H : (some (([(⟨(⟨#[117,116,99]⟩ : ByteArray),0,([] : List (S44))⟩ : S42),(⟨(⟨#[111,115,108,111]⟩ : ByteArray),60,y249⟩ : S42),(⟨(⟨#[121,111,114,107]⟩ : ByteArray),(-300),(([(⟨1442900,(-240)⟩ : S44)] : List (S44)))⟩ : S42)] : List (S42)))) = some r:=by first|(rw [hy249];with_reducible exact H)|(have H2_:=(Option.bind_some _ _).symm.trans H;rw [hy249];with_reducible exact H2_)|(have H2_:=(Option.bind_some _ _).symm.trans H;with_reducible exact H2_)|with_reducible exact H|(rw [hy249];exact H)|exact H
 have Ny249:=Aside0.mk hy249
 clear hy249
 obtain ⟨y252,hy252⟩ : ∃ y_ : List (S44),y_ = (([(⟨1442900,(-240)⟩ : S44)] : List (S44))):=⟨_,rfl⟩
 replace H : (some (([(⟨(⟨#[117,116,99]⟩ : ByteArray),0,([] : List (S44))⟩ : S42),(⟨(⟨#[111,115,108,111]⟩ : ByteArray),60,y249⟩ : S42),(⟨(⟨#[121,111,114,107]⟩ : ByteArray),(-300),y252⟩ : S42)] : List (S42)))) = some r:=by first|(rw [hy252];with_reducible exact H)|(have H2_:=(Option.bind_some _ _).symm.trans H;rw [hy252];with_reducible exact H2_)|(have H2_:=(Option.bind_some _ _).symm.trans H;with_reducible exact H2_)|with_reducible exact H|(rw [hy252];exact H)|exact H
 have Ny252:=Aside0.mk hy252
 clear hy252
 obtain ⟨y255,hy255⟩ : ∃ y_ : List (S42),y_ = (([(⟨(⟨#[117,116,99]⟩ : ByteArray),0,([] : List (S44))⟩ : S42),(⟨(⟨#[111,115,108,111]⟩ : ByteArray),60,y249⟩ : S42),(⟨(⟨#[121,111,114,107]⟩ : ByteArray),(-300),y252⟩ : S42)] : List (S42))):=⟨_,rfl⟩
 replace H : (some y255) = some r:=by first|(rw [hy255];with_reducible exact H)|(have H2_:=(Option.bind_some _ _).symm.trans H;rw [hy255];with_reducible exact H2_)|(have H2_:=(Option.bind_some _ _).symm.trans H;with_reducible exact H2_)|with_reducible exact H|(rw [hy255];exact H)|exact H
 have Ny255:=Aside0.mk hy255
 clear hy255
 obtain rfl:=Option.some.inj H
 go_enter Try.func36,Try.ntmps36
 go_wp2_with (first|((with_reducible refine gate_dst (N:=4) rfl ?_);refine Kd.R_lit k44 _ 44 ?hg (N:=4) ?hd (xs:=([(⟨1441500,120⟩ : S44),(⟨1444000,60⟩ : S44)] : List (S44))) (inner:=[.int .i64 1441500,.int .i64 120,.int .i64 1444000,.int .i64 60]) (ok:=fun _=>True) (okp:=fun _=>True) ?hr ?hp (fun _ hk=>hk) trivial (Below.refl _ _) (Nat.le_refl _) (by simp) ?_;(case hd=>rfl);(case hg=>rfl);(case hr=>first|(go_simp;done)|(go_simp;rfl));(case hp=>exact (Reps.c2 (show Kd.M k44 _ _ _ (⟨1441500,120⟩ : S44) [.int .i64 1441500,.int .i64 120] from (k44_mkM _ _ _ (⟨1441500,120⟩ : S44) )) (Reps.c2 (show Kd.M k44 _ _ _ (⟨1444000,60⟩ : S44) [.int .i64 1444000,.int .i64 60] from (k44_mkM _ _ _ (⟨1444000,60⟩ : S44) )) (Reps.none _ _))));intro v250 w1 ho2 hb hg_ hnew_;clear hg_ hnew_;(first|rw [← Ny249.out] at ho2|(simp only [Int.reduceToNat] at ho2;rw [← Ny249.out] at ho2));have n0_:=Aside0.mk (Kd.R_lower (Kd.R_newM (M:=fun k_=>(w.heap.size ≤ k_)) ho2 (below_size (by repeat (first|(with_reducible first|exact HB.out|apply below_alloc|apply pw_below_drewN|apply below_drew1)|exact HB.out))) (fun k_ h_=>h_)) (below_size (by repeat (first|(with_reducible first|exact HB.out|apply below_alloc|apply pw_below_drewN|apply below_drew1)|exact HB.out))));have n1_:=Aside0.mk (below_step (by repeat (first|(with_reducible first|exact HB.out|apply below_alloc|apply pw_below_drewN|apply below_drew1)|exact HB.out)) hb);clear HB;have HO251:=n0_;have HB:=n1_;clear n0_ n1_;clear hb ho2;obtain ⟨Ao3,co3,eo3⟩:=Kd.R_slice HO251.out;subst eo3)|((with_reducible refine gate_dst (N:=7) rfl ?_);refine Kd.R_lit k44 _ 44 ?hg (N:=7) ?hd (xs:=([(⟨1442900,(-240)⟩ : S44)] : List (S44))) (inner:=[.int .i64 1442900,.int .i64 (-240)]) (ok:=fun _=>True) (okp:=fun _=>True) ?hr ?hp (fun _ hk=>hk) trivial (Below.refl _ _) (Nat.le_refl _) (by simp) ?_;(case hd=>rfl);(case hg=>rfl);(case hr=>first|(go_simp;done)|(go_simp;rfl));(case hp=>exact (Reps.c2 (show Kd.M k44 _ _ _ (⟨1442900,(-240)⟩ : S44) [.int .i64 1442900,.int .i64 (-240)] from (k44_mkM _ _ _ (⟨1442900,(-240)⟩ : S44) )) (Reps.none _ _)));intro v253 w4 ho5 hb hg_ hnew_;clear hg_ hnew_;(first|rw [← Ny252.out] at ho5|(simp only [Int.reduceToNat] at ho5;rw [← Ny252.out] at ho5));have n0_:=Aside0.mk (Kd.R_elder' (by (with_reducible repeat (first|apply Kd.R_alloc|apply Kd.R_drewN|apply Kd.R_drew));exact HO251.out) (Kd.R_base ho5) hb);have n1_:=Aside0.mk (Kd.R_lower (Kd.R_new' (Kd.R_newM (M:=fun k_=>(w.heap.size ≤ k_)) ho5 (below_size (by repeat (first|(with_reducible first|exact HB.out|apply below_alloc|apply pw_below_drewN|apply below_drew1)|exact HB.out))) (fun k_ h_=>h_)) (Kd.R_lt (by (with_reducible repeat (first|apply Kd.R_alloc|apply Kd.R_drewN|apply Kd.R_drew));exact HO251.out))) (below_size (by repeat (first|(with_reducible first|exact HB.out|apply below_alloc|apply pw_below_drewN|apply below_drew1)|exact HB.out))));have n2_:=Aside0.mk (below_step (by repeat (first|(with_reducible first|exact HB.out|apply below_alloc|apply pw_below_drewN|apply below_drew1)|exact HB.out)) hb);clear HO251;clear HB;have HO251:=n0_;have HO254:=n1_;have HB:=n2_;clear n0_ n1_ n2_;clear hb ho5;obtain ⟨Ao6,co6,eo6⟩:=Kd.R_slice HO254.out;subst eo6)|((with_reducible refine gate_dst (N:=9) rfl ?_);refine Kd.N_lit k42 _ 42 ?hg (N':=9) ?hd (xs:=([(⟨(⟨#[117,116,99]⟩ : ByteArray),0,([] : List (S44))⟩ : S42),(⟨(⟨#[111,115,108,111]⟩ : ByteArray),60,y249⟩ : S42),(⟨(⟨#[121,111,114,107]⟩ : ByteArray),(-300),y252⟩ : S42)] : List (S42))) (inner:=[.string (⟨#[117,116,99]⟩ : ByteArray),.int .i64 0,.slice none 0 0,.string (⟨#[111,115,108,111]⟩ : ByteArray),.int .i64 60,.slice Ao3 y249.length co3,.string (⟨#[121,111,114,107]⟩ : ByteArray),.int .i64 (-300),.slice Ao6 y252.length co6]) (ok:=(fun k_=>(w.heap.size ≤ k_))) (okp:=(fun k_=>(w.heap.size ≤ k_))) ?hr ?hp (fun _ hk=>hk) ((show ∀ k_,w4.heap.size ≤ k_ → (fun k_=>(w.heap.size ≤ k_)) k_ from fun k_ hk=>(Nat.le_trans (below_size (by repeat (first|(with_reducible first|exact HB.out|apply below_alloc|apply pw_below_drewN|apply below_drew1)|exact HB.out))) hk)) _ (Nat.le_refl _)) (Below.refl _ _) (Nat.le_refl _) (by simp) ?_;(case hd=>rfl);(case hg=>rfl);(case hr=>first|(go_simp;done)|(go_simp;rfl));(case hp=>exact (Reps.c3 (show Kd.FK k42 _ _ (⟨(⟨#[117,116,99]⟩ : ByteArray),0,([] : List (S44))⟩ : S42) [.string (⟨#[117,116,99]⟩ : ByteArray),.int .i64 0,.slice none 0 0] from (k42_mkF _ _ (⟨(⟨#[117,116,99]⟩ : ByteArray),0,([] : List (S44))⟩ : S42) (Nat.le_refl _) (Kd.F_nil _ _ _))) (Reps.c3 (show Kd.FK k42 _ _ (⟨(⟨#[111,115,108,111]⟩ : ByteArray),60,y249⟩ : S42) [.string (⟨#[111,115,108,111]⟩ : ByteArray),.int .i64 60,.slice Ao3 y249.length co3] from (k42_mkF _ _ (⟨(⟨#[111,115,108,111]⟩ : ByteArray),60,y249⟩ : S42) (Kd.R_reads' (Kd.R_mono (ok':=(fun k_=>(w.heap.size ≤ k_))) (HO251.out) (fun k_ hk=>hk.1.1))).2.1 (Kd.R_F (Kd.R_mono (ok':=(fun k_=>(w.heap.size ≤ k_))) (HO251.out) (fun k_ hk=>hk.1.1))))) (Reps.c3 (show Kd.FK k42 _ _ (⟨(⟨#[121,111,114,107]⟩ : ByteArray),(-300),y252⟩ : S42) [.string (⟨#[121,111,114,107]⟩ : ByteArray),.int .i64 (-300),.slice Ao6 y252.length co6] from (k42_mkF _ _ (⟨(⟨#[121,111,114,107]⟩ : ByteArray),(-300),y252⟩ : S42) (Kd.R_reads' (Kd.R_mono (ok':=(fun k_=>(w.heap.size ≤ k_))) (HO254.out) (fun k_ hk=>hk.1.1))).2.1 (Kd.R_F (Kd.R_mono (ok':=(fun k_=>(w.heap.size ≤ k_))) (HO254.out) (fun k_ hk=>hk.1.1))))) (Reps.none _ _)))));intro v256 w7 ho8 hb hg_ hnew_;clear hg_ hnew_;(first|rw [← Ny255.out] at ho8|(simp only [Int.reduceToNat] at ho8;rw [← Ny255.out] at ho8));have n0_:=Aside0.mk (Kd.N_lower ho8 (below_size (by repeat (first|(with_reducible first|exact HB.out|apply below_alloc|apply pw_below_drewN|apply below_drew1)|exact HB.out))));have n1_:=Aside0.mk (below_step (by repeat (first|(with_reducible first|exact HB.out|apply below_alloc|apply pw_below_drewN|apply below_drew1)|exact HB.out)) hb);clear HB;clear HO251;clear HO254;have HO257:=n0_;have HB:=n1_;clear n0_ n1_;clear hb ho8))
 go_ret
 exact ⟨_,by first|rfl|(simp [errW_none,errW_some] <;> rfl)|(simp [*,errW_none,errW_some] <;> rfl),by (with_reducible repeat (first|apply Kd.N_alloc|apply Kd.N_drewN|apply Kd.N_drew));exact HO257.out,by repeat (first|(with_reducible first|exact HB.out|apply below_alloc|apply pw_below_drewN|apply below_drew1)|exact HB.out)⟩
def pairingbase_Airports.f  : Option ((List (S39))):=some (([(⟨(⟨#[65,65,65]⟩ : ByteArray),(⟨#[117,116,99]⟩ : ByteArray)⟩ : S39),(⟨(⟨#[66,66,66]⟩ : ByteArray),(⟨#[111,115,108,111]⟩ : ByteArray)⟩ : S39),(⟨(⟨#[67,67,67]⟩ : ByteArray),(⟨#[121,111,114,107]⟩ : ByteArray)⟩ : S39)] : List (S39)))
set_option maxHeartbeats 8000000 in
set_option maxRecDepth 100000 in
theorem pairingbase_Airports.calls  (r : List (S39)) (w : World) (h : pairingbase_Airports.f  = some r) :
  Calls Try.prog 37 #[] w fun e w'=>∃ v0_ : Value,e = .returned (v0_) ∧ Kd.R k39 39 w' w.heap.size (fun _=>True) v0_ r ∧ Below w.heap.size w w':=by
 have hu39:=Try.underlying39
 have HB:=Aside0.mk (Below.refl w.heap.size w)
 have H : (some (([(⟨(⟨#[65,65,65]⟩ : ByteArray),(⟨#[117,116,99]⟩ : ByteArray)⟩ : S39),(⟨(⟨#[66,66,66]⟩ : ByteArray),(⟨#[111,115,108,111]⟩ : ByteArray)⟩ : S39),(⟨(⟨#[67,67,67]⟩ : ByteArray),(⟨#[121,111,114,107]⟩ : ByteArray)⟩ : S39)] : List (S39)))) = some r:=h
 clear h
 obtain ⟨y258,hy258⟩ : ∃ y_ : List (S39),y_ = (([(⟨(⟨#[65,65,65]⟩ : ByteArray),(⟨#[117,116,99]⟩ : ByteArray)⟩ : S39),(⟨(⟨#[66,66,66]⟩ : ByteArray),(⟨#[111,115,108,111]⟩ : ByteArray)⟩ : S39),(⟨(⟨#[67,67,67]⟩ : ByteArray),(⟨#[121,111,114,107]⟩ : ByteArray)⟩ : S39)] : List (S39))):=⟨_,rfl⟩
 replace H : (some y258) = some r:=by first|(rw [hy258];with_reducible exact H)|(have H2_:=(Option.bind_some _ _).symm.trans H;rw [hy258];with_reducible exact H2_)|(have H2_:=(Option.bind_some _ _).symm.trans H;with_reducible exact H2_)|with_reducible exact H|(rw [hy258];exact H)|exact H
 have Ny258:=Aside0.mk hy258
 clear hy258
 obtain rfl:=Option.some.inj H
 go_enter Try.func37,Try.ntmps37
 go_wp2_with (first|((with_reducible refine gate_dst (N:=4) rfl ?_);refine Kd.R_lit k39 _ 39 ?hg (N:=4) ?hd (xs:=([(⟨(⟨#[65,65,65]⟩ : ByteArray),(⟨#[117,116,99]⟩ : ByteArray)⟩ : S39),(⟨(⟨#[66,66,66]⟩ : ByteArray),(⟨#[111,115,108,111]⟩ : ByteArray)⟩ : S39),(⟨(⟨#[67,67,67]⟩ : ByteArray),(⟨#[121,111,114,107]⟩ : ByteArray)⟩ : S39)] : List (S39))) (inner:=[.string (⟨#[65,65,65]⟩ : ByteArray),.string (⟨#[117,116,99]⟩ : ByteArray),.string (⟨#[66,66,66]⟩ : ByteArray),.string (⟨#[111,115,108,111]⟩ : ByteArray),.string (⟨#[67,67,67]⟩ : ByteArray),.string (⟨#[121,111,114,107]⟩ : ByteArray)]) (ok:=fun _=>True) (okp:=fun _=>True) ?hr ?hp (fun _ hk=>hk) trivial (Below.refl _ _) (Nat.le_refl _) (by simp) ?_;(case hd=>rfl);(case hg=>rfl);(case hr=>first|(go_simp;done)|(go_simp;rfl));(case hp=>exact (Reps.c2 (show Kd.M k39 _ _ _ (⟨(⟨#[65,65,65]⟩ : ByteArray),(⟨#[117,116,99]⟩ : ByteArray)⟩ : S39) [.string (⟨#[65,65,65]⟩ : ByteArray),.string (⟨#[117,116,99]⟩ : ByteArray)] from (k39_mkM _ _ _ (⟨(⟨#[65,65,65]⟩ : ByteArray),(⟨#[117,116,99]⟩ : ByteArray)⟩ : S39) )) (Reps.c2 (show Kd.M k39 _ _ _ (⟨(⟨#[66,66,66]⟩ : ByteArray),(⟨#[111,115,108,111]⟩ : ByteArray)⟩ : S39) [.string (⟨#[66,66,66]⟩ : ByteArray),.string (⟨#[111,115,108,111]⟩ : ByteArray)] from (k39_mkM _ _ _ (⟨(⟨#[66,66,66]⟩ : ByteArray),(⟨#[111,115,108,111]⟩ : ByteArray)⟩ : S39) )) (Reps.c2 (show Kd.M k39 _ _ _ (⟨(⟨#[67,67,67]⟩ : ByteArray),(⟨#[121,111,114,107]⟩ : ByteArray)⟩ : S39) [.string (⟨#[67,67,67]⟩ : ByteArray),.string (⟨#[121,111,114,107]⟩ : ByteArray)] from (k39_mkM _ _ _ (⟨(⟨#[67,67,67]⟩ : ByteArray),(⟨#[121,111,114,107]⟩ : ByteArray)⟩ : S39) )) (Reps.none _ _)))));intro v259 w1 ho2 hb hg_ hnew_;clear hg_ hnew_;(first|rw [← Ny258.out] at ho2|(simp only [Int.reduceToNat] at ho2;rw [← Ny258.out] at ho2));have n0_:=Aside0.mk (Kd.R_lower ho2 (below_size (by repeat (first|(with_reducible first|exact HB.out|apply below_alloc|apply pw_below_drewN|apply below_drew1)|exact HB.out))));have n1_:=Aside0.mk (below_step (by repeat (first|(with_reducible first|exact HB.out|apply below_alloc|apply pw_below_drewN|apply below_drew1)|exact HB.out)) hb);clear HB;have HO260:=n0_;have HB:=n1_;clear n0_ n1_;clear hb ho2))
 go_ret
 exact ⟨_,by first|rfl|(simp [errW_none,errW_some] <;> rfl)|(simp [*,errW_none,errW_some] <;> rfl),by (with_reducible repeat (first|apply Kd.R_alloc|apply Kd.R_drewN|apply Kd.R_drew));exact HO260.out,by repeat (first|(with_reducible first|exact HB.out|apply below_alloc|apply pw_below_drewN|apply below_drew1)|exact HB.out)⟩
def pairinglaw9_example.f  : Option ((List (S42)) × (List (S39)) × (List (S36))):=(pairingbase_Zones.f).bind fun t263=>((pairingbase_Airports.f).bind fun t266=>(some (t263,t266,(([(⟨(⟨#[83,75,49]⟩ : ByteArray),(⟨#[65,65,65]⟩ : ByteArray),(⟨#[66,66,66]⟩ : ByteArray),3000,3060,(⟨#[98,55,51,55]⟩ : ByteArray),(⟨1,1,2⟩ : S34)⟩ : S36)] : List (S36))))))
def pairinglaw9_example.T2 : Bool × List (List Nat × List Nat):=(true,[([],[]),([0],[]),([],[]),([2],[2]),([0,1,3],[0,1,3]),([4,1,0,1,2,3,4],[4])])
def pairinglaw9_example.B2 : List Nat:=[0,1,0,4,15,31]
theorem pairinglaw9_example.tab2 : rtab .any (opsOf Try.f25 2) = pairinglaw9_example.T2:=by kernel_rfl
theorem pairinglaw9_example.bits2 : waitsOk pairinglaw9_example.T2.2 pairinglaw9_example.B2 = true:=by kernel_rfl
set_option maxHeartbeats 8000000 in
set_option maxRecDepth 100000 in
theorem pairinglaw9_example.calls  (r1 : List (S42)) (r2 : List (S39)) (r3 : List (S36)) (w : World) (h : pairinglaw9_example.f  = some (r1,r2,r3)) :
  Calls Try.prog 25 #[] w fun e w'=>∃ v0_ v1_ v2_ : Value,e = .returned (.agg #[v0_,v1_,v2_]) ∧ Kd.N k42 42 w' w.heap.size (fun k_=>(w.heap.size ≤ k_)) v0_ r1 ∧ Kd.R k39 39 w' w.heap.size (fun k_=>(w.heap.size ≤ k_)) v1_ r2 ∧ Kd.R k36 36 w' w.heap.size (fun k_=>(w.heap.size ≤ k_)) v2_ r3 ∧ Below w.heap.size w w':=by
 have hu26:=Try.underlying26
 have hu34:=Try.underlying34
 have hu36:=Try.underlying36
 have HB:=Aside0.mk (Below.refl w.heap.size w)
 have H : ((pairingbase_Zones.f).bind fun t263=>((pairingbase_Airports.f).bind fun t266=>(some (t263,t266,(([(⟨(⟨#[83,75,49]⟩ : ByteArray),(⟨#[65,65,65]⟩ : ByteArray),(⟨#[66,66,66]⟩ : ByteArray),3000,3060,(⟨#[98,55,51,55]⟩ : ByteArray),(⟨1,1,2⟩ : S34)⟩ : S36)] : List (S36))))))) = some (r1,r2,r3):=h
 clear h
 replace H:=Option.bind_eq_some_iff.mp H
 obtain ⟨t263,A10,H⟩:=H
 replace H : ((pairingbase_Airports.f).bind fun t266=>(some (t263,t266,(([(⟨(⟨#[83,75,49]⟩ : ByteArray),(⟨#[65,65,65]⟩ : ByteArray),(⟨#[66,66,66]⟩ : ByteArray),3000,3060,(⟨#[98,55,51,55]⟩ : ByteArray),(⟨1,1,2⟩ : S34)⟩ : S36)] : List (S36)))))) = some (r1,r2,r3):=H
 have A1:=Aside0.mk A10
 clear A10
 replace H:=Option.bind_eq_some_iff.mp H
 obtain ⟨t266,A20,H⟩:=H
 replace H : (some (t263,t266,(([(⟨(⟨#[83,75,49]⟩ : ByteArray),(⟨#[65,65,65]⟩ : ByteArray),(⟨#[66,66,66]⟩ : ByteArray),3000,3060,(⟨#[98,55,51,55]⟩ : ByteArray),(⟨1,1,2⟩ : S34)⟩ : S36)] : List (S36))))) = some (r1,r2,r3):=H
 have A2:=Aside0.mk A20
 clear A20
 obtain ⟨y269,hy269⟩ : ∃ y_ : List (S36),y_ = (([(⟨(⟨#[83,75,49]⟩ : ByteArray),(⟨#[65,65,65]⟩ : ByteArray),(⟨#[66,66,66]⟩ : ByteArray),3000,3060,(⟨#[98,55,51,55]⟩ : ByteArray),(⟨1,1,2⟩ : S34)⟩ : S36)] : List (S36))):=⟨_,rfl⟩
 replace H : (some (t263,t266,y269)) = some (r1,r2,r3):=by first|(rw [hy269];with_reducible exact H)|(have H2_:=(Option.bind_some _ _).symm.trans H;rw [hy269];with_reducible exact H2_)|(have H2_:=(Option.bind_some _ _).symm.trans H;with_reducible exact H2_)|with_reducible exact H|(rw [hy269];exact H)|exact H
 have Ny269:=Aside0.mk hy269
 clear hy269
 simp only [Option.some.injEq,Prod.mk.injEq] at H
 obtain ⟨rfl,rfl,rfl⟩:=H
 go_enter Try.func25,Try.ntmps25
 try go_wp2_with (first|((with_reducible refine gate_dst (N:=0) rfl ?_);refine box_event ?hg (N:=0) ?hd (cs:=#[.slice none 0 0,.slice none 0 0,.slice none 0 0]) (t:=26) ?hr ?_;(case hd=>rfl);(case hg=>rfl);(case hr=>first|(go_simp;done)|(go_simp;rfl));intro gb261 hg w3 hbox hb;have n0_:=Aside0.mk (below_step (by repeat (first|(with_reducible first|exact HB.out|apply below_alloc|apply pw_below_drewN|apply below_drew1)|exact HB.out)) hb);have n1_:=Aside0.mk (hbox);have n2_:=Aside0.mk ((by rw [hg];exact (below_size (by repeat (first|(with_reducible first|exact HB.out|apply below_alloc|apply pw_below_drewN|apply below_drew1)|exact HB.out))) : w.heap.size ≤ gb261));have n3_:=Aside0.mk ((by rw [hg];exact (below_size (by repeat (first|(with_reducible first|exact HB.out|apply below_alloc|apply pw_below_drewN|apply below_drew1)|exact HB.out))) : w.heap.size ≤ gb261));clear HB;have HB:=n0_;have BK261:=n1_;have GW261:=n2_;have GE261:=n3_;clear n0_ n1_ n2_ n3_;clear hb hbox hg)|((with_reducible refine gate_dst (N:=1) rfl ?_);refine box_event ?hg (N:=1) ?hd (cs:=#[.string (⟨#[]⟩ : ByteArray),.string (⟨#[]⟩ : ByteArray),.string (⟨#[]⟩ : ByteArray),.int .i64 0,.int .i64 0,.string (⟨#[]⟩ : ByteArray),.int .i64 0,.int .i64 0,.int .i64 0]) (t:=36) ?hr ?_;(case hd=>rfl);(case hg=>rfl);(case hr=>first|(go_simp;done)|(go_simp;rfl));intro gb262 hg w4 hbox hb;have n0_:=Aside0.mk (blk_below (g:=gb261) (o:=.cells #[.slice none 0 0,.slice none 0 0,.slice none 0 0] 26 (0,0)) (by (with_reducible repeat (first|refine blk_drewN ?_ _|refine blk_drew ?_|refine blk_alloc ?_ _));exact BK261.out) hb);have n1_:=Aside0.mk (below_step (by repeat (first|(with_reducible first|exact HB.out|apply below_alloc|apply pw_below_drewN|apply below_drew1|refine below_set ?_ GE261.out)|exact HB.out)) hb);have n2_:=Aside0.mk (hbox);have n3_:=Aside0.mk ((by rw [hg];exact (below_size (by repeat (first|(with_reducible first|exact HB.out|apply below_alloc|apply pw_below_drewN|apply below_drew1|refine below_set ?_ GE261.out)|exact HB.out))) : w.heap.size ≤ gb262));have n4_:=Aside0.mk ((by rw [hg];exact (below_size (by repeat (first|(with_reducible first|exact HB.out|apply below_alloc|apply pw_below_drewN|apply below_drew1|refine below_set ?_ GE261.out)|exact HB.out))) : w.heap.size ≤ gb262));have n5_:=Aside0.mk ((by rw [hg];exact Nat.ne_of_lt (blk_lt (g:=gb261) (o:=.cells #[.slice none 0 0,.slice none 0 0,.slice none 0 0] 26 (0,0)) (by (with_reducible repeat (first|refine blk_drewN ?_ _|refine blk_drew ?_|refine blk_alloc ?_ _));exact BK261.out)) : gb261 ≠ gb262));have n6_:=Aside0.mk ((by rw [hg];exact Nat.ne_of_gt (blk_lt (g:=gb261) (o:=.cells #[.slice none 0 0,.slice none 0 0,.slice none 0 0] 26 (0,0)) (by (with_reducible repeat (first|refine blk_drewN ?_ _|refine blk_drew ?_|refine blk_alloc ?_ _));exact BK261.out)) : gb262 ≠ gb261));clear BK261;clear HB;have BK261:=n0_;have HB:=n1_;have BK262:=n2_;have GW262:=n3_;have GE262:=n4_;have NB261_262:=n5_;have NB262_261:=n6_;clear n0_ n1_ n2_ n3_ n4_ n5_ n6_;clear hb hbox hg;have hnb5:=NB262_261.out;have hnc5:=NB261_262.out;have hcz6_0 : w4.cell? ⟨gb262,0,none⟩ = some (.string (⟨#[]⟩ : ByteArray)):=(blk_cell BK262.out 0).trans rfl;have hcz6_1 : w4.cell? ⟨gb262,1,none⟩ = some (.string (⟨#[]⟩ : ByteArray)):=(blk_cell BK262.out 1).trans rfl;have hcz6_2 : w4.cell? ⟨gb262,2,none⟩ = some (.string (⟨#[]⟩ : ByteArray)):=(blk_cell BK262.out 2).trans rfl;have hcz6_3 : w4.cell? ⟨gb262,3,none⟩ = some (.int .i64 0):=(blk_cell BK262.out 3).trans rfl;have hcz6_4 : w4.cell? ⟨gb262,4,none⟩ = some (.int .i64 0):=(blk_cell BK262.out 4).trans rfl;have hcz6_5 : w4.cell? ⟨gb262,5,none⟩ = some (.string (⟨#[]⟩ : ByteArray)):=(blk_cell BK262.out 5).trans rfl;have hcz6_6 : w4.cell? ⟨gb262,6,none⟩ = some (.int .i64 0):=(blk_cell BK262.out 6).trans rfl;have hcz6_7 : w4.cell? ⟨gb262,7,none⟩ = some (.int .i64 0):=(blk_cell BK262.out 7).trans rfl;have hcz6_8 : w4.cell? ⟨gb262,8,none⟩ = some (.int .i64 0):=(blk_cell BK262.out 8).trans rfl;have hfz6_0:=blk_frozen BK262.out 0;have hfz6_1:=blk_frozen BK262.out 1;have hfz6_2:=blk_frozen BK262.out 2;have hfz6_3:=blk_frozen BK262.out 3;have hfz6_4:=blk_frozen BK262.out 4;have hfz6_5:=blk_frozen BK262.out 5;have hfz6_6:=blk_frozen BK262.out 6;have hfz6_7:=blk_frozen BK262.out 7;have hfz6_8:=blk_frozen BK262.out 8))
 have n0_ : Aside0 ((((((((((w4.setCell ⟨gb262,0,none⟩ (.string (⟨#[83,75,49]⟩ : ByteArray))).setCell ⟨gb262,1,none⟩ (.string (⟨#[65,65,65]⟩ : ByteArray))).setCell ⟨gb262,2,none⟩ (.string (⟨#[66,66,66]⟩ : ByteArray))).setCell ⟨gb262,3,none⟩ (.int .i64 3000)).setCell ⟨gb262,4,none⟩ (.int .i64 3060)).setCell ⟨gb262,5,none⟩ (.string (⟨#[98,55,51,55]⟩ : ByteArray))).setCell ⟨gb262,6,none⟩ (.int .i64 1)).setCell ⟨gb262,7,none⟩ (.int .i64 1)).setCell ⟨gb262,8,none⟩ (.int .i64 2)).heap[gb261]? = some (.cells #[.slice none 0 0,.slice none 0 0,.slice none 0 0] 26 (0,0))):=⟨by (with_reducible repeat (first|refine blk_drewN ?_ _|refine blk_drew ?_|refine blk_alloc ?_ _));refine blk_far ?_ NB261_262.out _;(with_reducible repeat (first|refine blk_drewN ?_ _|refine blk_drew ?_|refine blk_alloc ?_ _));refine blk_far ?_ NB261_262.out _;(with_reducible repeat (first|refine blk_drewN ?_ _|refine blk_drew ?_|refine blk_alloc ?_ _));refine blk_far ?_ NB261_262.out _;(with_reducible repeat (first|refine blk_drewN ?_ _|refine blk_drew ?_|refine blk_alloc ?_ _));refine blk_far ?_ NB261_262.out _;(with_reducible repeat (first|refine blk_drewN ?_ _|refine blk_drew ?_|refine blk_alloc ?_ _));refine blk_far ?_ NB261_262.out _;(with_reducible repeat (first|refine blk_drewN ?_ _|refine blk_drew ?_|refine blk_alloc ?_ _));refine blk_far ?_ NB261_262.out _;(with_reducible repeat (first|refine blk_drewN ?_ _|refine blk_drew ?_|refine blk_alloc ?_ _));refine blk_far ?_ NB261_262.out _;(with_reducible repeat (first|refine blk_drewN ?_ _|refine blk_drew ?_|refine blk_alloc ?_ _));refine blk_far ?_ NB261_262.out _;(with_reducible repeat (first|refine blk_drewN ?_ _|refine blk_drew ?_|refine blk_alloc ?_ _));refine blk_far ?_ NB261_262.out _;(with_reducible repeat (first|refine blk_drewN ?_ _|refine blk_drew ?_|refine blk_alloc ?_ _));exact BK261.out⟩
 have n1_ : Aside0 ((((((((((w4.setCell ⟨gb262,0,none⟩ (.string (⟨#[83,75,49]⟩ : ByteArray))).setCell ⟨gb262,1,none⟩ (.string (⟨#[65,65,65]⟩ : ByteArray))).setCell ⟨gb262,2,none⟩ (.string (⟨#[66,66,66]⟩ : ByteArray))).setCell ⟨gb262,3,none⟩ (.int .i64 3000)).setCell ⟨gb262,4,none⟩ (.int .i64 3060)).setCell ⟨gb262,5,none⟩ (.string (⟨#[98,55,51,55]⟩ : ByteArray))).setCell ⟨gb262,6,none⟩ (.int .i64 1)).setCell ⟨gb262,7,none⟩ (.int .i64 1)).setCell ⟨gb262,8,none⟩ (.int .i64 2)).heap[gb262]? = some (.cells #[.string (⟨#[83,75,49]⟩ : ByteArray),.string (⟨#[65,65,65]⟩ : ByteArray),.string (⟨#[66,66,66]⟩ : ByteArray),.int .i64 3000,.int .i64 3060,.string (⟨#[98,55,51,55]⟩ : ByteArray),.int .i64 1,.int .i64 1,.int .i64 2] 36 (0,0))):=⟨by (with_reducible repeat (first|refine blk_drewN ?_ _|refine blk_drew ?_|refine blk_alloc ?_ _));refine blk_put (cs:=#[.string (⟨#[83,75,49]⟩ : ByteArray),.string (⟨#[65,65,65]⟩ : ByteArray),.string (⟨#[66,66,66]⟩ : ByteArray),.int .i64 3000,.int .i64 3060,.string (⟨#[98,55,51,55]⟩ : ByteArray),.int .i64 1,.int .i64 1,.int .i64 0]) ?_ 8 _ rfl;(with_reducible repeat (first|refine blk_drewN ?_ _|refine blk_drew ?_|refine blk_alloc ?_ _));refine blk_put (cs:=#[.string (⟨#[83,75,49]⟩ : ByteArray),.string (⟨#[65,65,65]⟩ : ByteArray),.string (⟨#[66,66,66]⟩ : ByteArray),.int .i64 3000,.int .i64 3060,.string (⟨#[98,55,51,55]⟩ : ByteArray),.int .i64 1,.int .i64 0,.int .i64 0]) ?_ 7 _ rfl;(with_reducible repeat (first|refine blk_drewN ?_ _|refine blk_drew ?_|refine blk_alloc ?_ _));refine blk_put (cs:=#[.string (⟨#[83,75,49]⟩ : ByteArray),.string (⟨#[65,65,65]⟩ : ByteArray),.string (⟨#[66,66,66]⟩ : ByteArray),.int .i64 3000,.int .i64 3060,.string (⟨#[98,55,51,55]⟩ : ByteArray),.int .i64 0,.int .i64 0,.int .i64 0]) ?_ 6 _ rfl;(with_reducible repeat (first|refine blk_drewN ?_ _|refine blk_drew ?_|refine blk_alloc ?_ _));refine blk_put (cs:=#[.string (⟨#[83,75,49]⟩ : ByteArray),.string (⟨#[65,65,65]⟩ : ByteArray),.string (⟨#[66,66,66]⟩ : ByteArray),.int .i64 3000,.int .i64 3060,.string (⟨#[]⟩ : ByteArray),.int .i64 0,.int .i64 0,.int .i64 0]) ?_ 5 _ rfl;(with_reducible repeat (first|refine blk_drewN ?_ _|refine blk_drew ?_|refine blk_alloc ?_ _));refine blk_put (cs:=#[.string (⟨#[83,75,49]⟩ : ByteArray),.string (⟨#[65,65,65]⟩ : ByteArray),.string (⟨#[66,66,66]⟩ : ByteArray),.int .i64 3000,.int .i64 0,.string (⟨#[]⟩ : ByteArray),.int .i64 0,.int .i64 0,.int .i64 0]) ?_ 4 _ rfl;(with_reducible repeat (first|refine blk_drewN ?_ _|refine blk_drew ?_|refine blk_alloc ?_ _));refine blk_put (cs:=#[.string (⟨#[83,75,49]⟩ : ByteArray),.string (⟨#[65,65,65]⟩ : ByteArray),.string (⟨#[66,66,66]⟩ : ByteArray),.int .i64 0,.int .i64 0,.string (⟨#[]⟩ : ByteArray),.int .i64 0,.int .i64 0,.int .i64 0]) ?_ 3 _ rfl;(with_reducible repeat (first|refine blk_drewN ?_ _|refine blk_drew ?_|refine blk_alloc ?_ _));refine blk_put (cs:=#[.string (⟨#[83,75,49]⟩ : ByteArray),.string (⟨#[65,65,65]⟩ : ByteArray),.string (⟨#[]⟩ : ByteArray),.int .i64 0,.int .i64 0,.string (⟨#[]⟩ : ByteArray),.int .i64 0,.int .i64 0,.int .i64 0]) ?_ 2 _ rfl;(with_reducible repeat (first|refine blk_drewN ?_ _|refine blk_drew ?_|refine blk_alloc ?_ _));refine blk_put (cs:=#[.string (⟨#[83,75,49]⟩ : ByteArray),.string (⟨#[]⟩ : ByteArray),.string (⟨#[]⟩ : ByteArray),.int .i64 0,.int .i64 0,.string (⟨#[]⟩ : ByteArray),.int .i64 0,.int .i64 0,.int .i64 0]) ?_ 1 _ rfl;(with_reducible repeat (first|refine blk_drewN ?_ _|refine blk_drew ?_|refine blk_alloc ?_ _));refine blk_put (cs:=#[.string (⟨#[]⟩ : ByteArray),.string (⟨#[]⟩ : ByteArray),.string (⟨#[]⟩ : ByteArray),.int .i64 0,.int .i64 0,.string (⟨#[]⟩ : ByteArray),.int .i64 0,.int .i64 0,.int .i64 0]) ?_ 0 _ rfl;(with_reducible repeat (first|refine blk_drewN ?_ _|refine blk_drew ?_|refine blk_alloc ?_ _));exact BK262.out⟩
 have n2_ : Aside0 (Below w.heap.size w (((((((((w4.setCell ⟨gb262,0,none⟩ (.string (⟨#[83,75,49]⟩ : ByteArray))).setCell ⟨gb262,1,none⟩ (.string (⟨#[65,65,65]⟩ : ByteArray))).setCell ⟨gb262,2,none⟩ (.string (⟨#[66,66,66]⟩ : ByteArray))).setCell ⟨gb262,3,none⟩ (.int .i64 3000)).setCell ⟨gb262,4,none⟩ (.int .i64 3060)).setCell ⟨gb262,5,none⟩ (.string (⟨#[98,55,51,55]⟩ : ByteArray))).setCell ⟨gb262,6,none⟩ (.int .i64 1)).setCell ⟨gb262,7,none⟩ (.int .i64 1)).setCell ⟨gb262,8,none⟩ (.int .i64 2))):=⟨by repeat (first|(with_reducible first|exact HB.out|apply below_alloc|apply pw_below_drewN|apply below_drew1|refine below_set ?_ GE261.out|refine below_set ?_ GE262.out)|exact HB.out)⟩
 (try clear BK261)
 (try clear BK262)
 (try clear HB)
 generalize (((((((((w4.setCell ⟨gb262,0,none⟩ (.string (⟨#[83,75,49]⟩ : ByteArray))).setCell ⟨gb262,1,none⟩ (.string (⟨#[65,65,65]⟩ : ByteArray))).setCell ⟨gb262,2,none⟩ (.string (⟨#[66,66,66]⟩ : ByteArray))).setCell ⟨gb262,3,none⟩ (.int .i64 3000)).setCell ⟨gb262,4,none⟩ (.int .i64 3060)).setCell ⟨gb262,5,none⟩ (.string (⟨#[98,55,51,55]⟩ : ByteArray))).setCell ⟨gb262,6,none⟩ (.int .i64 1)).setCell ⟨gb262,7,none⟩ (.int .i64 1)).setCell ⟨gb262,8,none⟩ (.int .i64 2)) = w7 at n0_ n1_ n2_ ⊢
 have BK261:=n0_
 have BK262:=n1_
 have HB:=n2_
 clear n0_ n1_ n2_
 have n0_:=Aside0.mk (blk_drew BK261.out)
 have n1_:=Aside0.mk (blk_drew BK262.out)
 have n2_:=Aside0.mk (below_drew1 HB.out)
 clear BK261
 clear BK262
 clear HB
 have BK261:=n0_
 have BK262:=n1_
 have HB:=n2_
 clear n0_ n1_ n2_
 refine start_ (n:=6) (S:=fun w'=>True) (ds:=[]) #[false,false,false,false,false,false] (by kernel_rfl) rfl rfl trivial (fun hHeld=>?_);refine with_tabW pairinglaw9_example.tab2 pairinglaw9_example.bits2 (fun HT_ HW_=>?_)
 generalize w7.drew = w8 at BK261 BK262 HB hHeld ⊢
 refine inv_at [0,1,2,3,4,5] (fun a0_ b a w'=>∃ (v264 : Value) (v267 : Value) (v270 : Value) (m4_ : Value),a = putSel a0_ b [(0,4,v264),(1,5,v267),(2,6,.agg #[.string (⟨#[83,75,49]⟩ : ByteArray),.string (⟨#[65,65,65]⟩ : ByteArray),.string (⟨#[66,66,66]⟩ : ByteArray),.int .i64 3000,.int .i64 3060,.string (⟨#[98,55,51,55]⟩ : ByteArray),.int .i64 1,.int .i64 1,.int .i64 2]),(3,7,v270),(4,8,m4_)] ∧ (b 5 = false → w'.heap[gb261]? = some (.cells #[.slice none 0 0,.slice none 0 0,.slice none 0 0] 26 (0,0))) ∧ (w'.heap[gb262]? = some (.cells #[.string (⟨#[83,75,49]⟩ : ByteArray),.string (⟨#[65,65,65]⟩ : ByteArray),.string (⟨#[66,66,66]⟩ : ByteArray),.int .i64 3000,.int .i64 3060,.string (⟨#[98,55,51,55]⟩ : ByteArray),.int .i64 1,.int .i64 1,.int .i64 2] 36 (0,0))) ∧ (Below w.heap.size w w') ∧ (b 0 = true → Kd.N k42 42 w' w.heap.size (fun k_=>(w.heap.size ≤ k_) ∧ k_ ≠ gb261 ∧ k_ ≠ gb262) v264 t263) ∧ (b 1 = true → Kd.R k39 39 w' w.heap.size (fun k_=>(w.heap.size ≤ k_)) v267 t266) ∧ (b 3 = true → Kd.R k36 36 w' w.heap.size (fun k_=>(w.heap.size ≤ k_) ∧ k_ ≠ gb262) v270 y269) ∧ (b 5 = true → w'.heap[gb261]? = some (.cells #[v264,v267,v270] 26 (0,0))) ∧ (b 4 = true → (m4_ : Value) = .agg #[v264,v267,v270])) HT_.out HW_.out (by kernel_rfl) (by kernel_rfl) ?_ ?_ ?_
 ·exact ⟨.bool false,.bool false,.bool false,.bool false,by simp only [putSel,Bool.false_eq_true,if_false],fun _=>BK261.out,BK262.out,HB.out,fun h_=>absurd h_ (by decide),fun h_=>absurd h_ (by decide),fun h_=>absurd h_ (by decide),fun h_=>absurd h_ (by decide),fun h_=>absurd h_ (by decide)⟩
 ·skip
  clear BK261 BK262 HB
  refine steps_cons ?_ ?_
  ·rintro b a w' ⟨v264,v267,v270,m4_,ha,Q_BK261,Q_BK262,Q_HB,Q_HO265,Q_HO268,Q_HO271,Q_BK261_e5,Q_X4_⟩ hb_ hon hoff
   refine ⟨_,rfl,fun K hK=>?_⟩
   replace ha:=Aside0.mk ha
   have BK261:=Aside0.mk (Q_BK261 (hoff 5 (by kernel_rfl)))
   have BK262:=Aside0.mk Q_BK262
   have HB:=Aside0.mk Q_HB
   refine goes_ Try.func36 (by kernel_rfl) rfl #[] (by rfl) rfl rfl (by first|(simp only [List.map_toArray,List.map_cons,List.map_nil,Act.eval,Array.getD_eq_getD_getElem?,Option.getD_some];done)|(simp only [List.map_toArray,List.map_cons,List.map_nil,Act.eval,Array.getD_eq_getD_getElem?,Option.getD_some];rfl)) ?_
   with_reducible refine (pairingbase_Zones.calls  t263 _ A1.out).mono ?_
   rintro e w9 ⟨v264,rfl,ho0,hb⟩
   refine ⟨_,rfl,?_⟩
   have n0_:=Aside0.mk (Kd.N_lower (Kd.N_mono (ok':=fun k_=>(w.heap.size ≤ k_) ∧ k_ ≠ gb261 ∧ k_ ≠ gb262) ho0 (fun k_ hk_=>⟨(Nat.le_trans (below_size (by repeat (first|(with_reducible first|exact HB.out|apply below_alloc|apply pw_below_drewN|apply below_drew1|refine below_set ?_ GE261.out|refine below_set ?_ GE262.out)|exact HB.out))) hk_),(Kd.freshB (g:=gb261) (o:=.cells #[.slice none 0 0,.slice none 0 0,.slice none 0 0] 26 (0,0)) (by (with_reducible repeat (first|refine blk_drewN ?_ _|refine blk_drew ?_|refine blk_alloc ?_ _));exact BK261.out) k_ hk_),(Kd.freshB (g:=gb262) (o:=.cells #[.string (⟨#[83,75,49]⟩ : ByteArray),.string (⟨#[65,65,65]⟩ : ByteArray),.string (⟨#[66,66,66]⟩ : ByteArray),.int .i64 3000,.int .i64 3060,.string (⟨#[98,55,51,55]⟩ : ByteArray),.int .i64 1,.int .i64 1,.int .i64 2] 36 (0,0)) (by (with_reducible repeat (first|refine blk_drewN ?_ _|refine blk_drew ?_|refine blk_alloc ?_ _));exact BK262.out) k_ hk_)⟩)) (below_size (by repeat (first|(with_reducible first|exact HB.out|apply below_alloc|apply pw_below_drewN|apply below_drew1|refine below_set ?_ GE261.out|refine below_set ?_ GE262.out)|exact HB.out))))
   have n1_:=Aside0.mk (blk_below (g:=gb261) (o:=.cells #[.slice none 0 0,.slice none 0 0,.slice none 0 0] 26 (0,0)) (by (with_reducible repeat (first|refine blk_drewN ?_ _|refine blk_drew ?_|refine blk_alloc ?_ _));exact BK261.out) hb)
   have n2_:=Aside0.mk (blk_below (g:=gb262) (o:=.cells #[.string (⟨#[83,75,49]⟩ : ByteArray),.string (⟨#[65,65,65]⟩ : ByteArray),.string (⟨#[66,66,66]⟩ : ByteArray),.int .i64 3000,.int .i64 3060,.string (⟨#[98,55,51,55]⟩ : ByteArray),.int .i64 1,.int .i64 1,.int .i64 2] 36 (0,0)) (by (with_reducible repeat (first|refine blk_drewN ?_ _|refine blk_drew ?_|refine blk_alloc ?_ _));exact BK262.out) hb)
   have n3_:=Aside0.mk (below_step (by repeat (first|(with_reducible first|exact HB.out|apply below_alloc|apply pw_below_drewN|apply below_drew1|refine below_set ?_ GE261.out|refine below_set ?_ GE262.out)|exact HB.out)) hb)
   have z_HO271:=fun (h0_ : b 3 = true)=>(show Kd.R k36 36 w9 w.heap.size (fun k_=>(w.heap.size ≤ k_) ∧ k_ ≠ gb262) v270 y269 from by first|exact (Kd.R_below (by (with_reducible repeat (first|apply Kd.R_alloc|apply Kd.R_drewN|apply Kd.R_drew));exact (Q_HO271 h0_)) hb)|exact Kd.R_mono (Kd.R_below (by (with_reducible repeat (first|apply Kd.R_alloc|apply Kd.R_drewN|apply Kd.R_drew));exact (Q_HO271 h0_)) hb) (fun _ h_=>by first|trivial|exact h_|exact h_.1))
   clear BK261
   clear BK262
   clear HB
   have HO265:=n0_
   have BK261:=n1_
   have BK262:=n2_
   have HB:=n3_
   clear n0_ n1_ n2_ n3_
   (try clear hb)
   (try clear hb2)
   (try clear hk)
   (try clear hi)
   (try clear ho0)
   refine hK.out _ _ ⟨v264,v267,v270,m4_,(by rw [ha.out];exact putSel_upk 0 hb_ rfl rfl rfl),fun _=>(by (with_reducible repeat (first|refine blk_drewN ?_ _|refine blk_drew ?_|refine blk_alloc ?_ _));exact BK261.out),(by (with_reducible repeat (first|refine blk_drewN ?_ _|refine blk_drew ?_|refine blk_alloc ?_ _));exact BK262.out),(by repeat (first|(with_reducible first|exact HB.out|apply below_alloc|apply pw_below_drewN|apply below_drew1|refine below_set ?_ GE261.out|refine below_set ?_ GE262.out)|exact HB.out)),fun _=>(by (with_reducible repeat (first|apply Kd.N_alloc|apply Kd.N_drewN|apply Kd.N_drew));exact HO265.out),fun h0_=>absurd ((hoff 1 (by kernel_rfl)).symm.trans h0_) (by decide),z_HO271,fun h0_=>absurd ((hoff 5 (by kernel_rfl)).symm.trans h0_) (by decide),fun h0_=>absurd ((hoff 4 (by kernel_rfl)).symm.trans h0_) (by decide)⟩
  refine steps_cons ?_ ?_
  ·rintro b a w' ⟨v264,v267,v270,m4_,ha,Q_BK261,Q_BK262,Q_HB,Q_HO265,Q_HO268,Q_HO271,Q_BK261_e5,Q_X4_⟩ hb_ hon hoff
   refine ⟨_,rfl,fun K hK=>?_⟩
   replace ha:=Aside0.mk ha
   have BK261:=Aside0.mk (Q_BK261 (hoff 5 (by kernel_rfl)))
   have BK262:=Aside0.mk Q_BK262
   have HB:=Aside0.mk Q_HB
   have HO265:=Aside0.mk (Q_HO265 (hon 0 (by kernel_rfl)))
   refine goes_ Try.func37 (by kernel_rfl) rfl #[] (by rfl) rfl rfl (by first|(simp only [List.map_toArray,List.map_cons,List.map_nil,Act.eval,Array.getD_eq_getD_getElem?,Option.getD_some];done)|(simp only [List.map_toArray,List.map_cons,List.map_nil,Act.eval,Array.getD_eq_getD_getElem?,Option.getD_some];rfl)) ?_
   with_reducible refine (pairingbase_Airports.calls  t266 _ A2.out).mono ?_
   rintro e w11 ⟨v267,rfl,ho0,hb⟩
   refine ⟨_,rfl,?_⟩
   have n0_:=Aside0.mk (Kd.N_elder' (by (with_reducible repeat (first|apply Kd.N_alloc|apply Kd.N_drewN|apply Kd.N_drew));exact HO265.out) (Kd.R_base ho0) hb)
   have n1_:=Aside0.mk (Kd.R_lower (Kd.R_newM (M:=fun k_=>(w.heap.size ≤ k_)) ho0 (below_size (by repeat (first|(with_reducible first|exact HB.out|apply below_alloc|apply pw_below_drewN|apply below_drew1|refine below_set ?_ GE261.out|refine below_set ?_ GE262.out)|exact HB.out))) (fun k_ h_=>h_)) (below_size (by repeat (first|(with_reducible first|exact HB.out|apply below_alloc|apply pw_below_drewN|apply below_drew1|refine below_set ?_ GE261.out|refine below_set ?_ GE262.out)|exact HB.out))))
   have n2_:=Aside0.mk (blk_below (g:=gb261) (o:=.cells #[.slice none 0 0,.slice none 0 0,.slice none 0 0] 26 (0,0)) (by (with_reducible repeat (first|refine blk_drewN ?_ _|refine blk_drew ?_|refine blk_alloc ?_ _));exact BK261.out) hb)
   have n3_:=Aside0.mk (blk_below (g:=gb262) (o:=.cells #[.string (⟨#[83,75,49]⟩ : ByteArray),.string (⟨#[65,65,65]⟩ : ByteArray),.string (⟨#[66,66,66]⟩ : ByteArray),.int .i64 3000,.int .i64 3060,.string (⟨#[98,55,51,55]⟩ : ByteArray),.int .i64 1,.int .i64 1,.int .i64 2] 36 (0,0)) (by (with_reducible repeat (first|refine blk_drewN ?_ _|refine blk_drew ?_|refine blk_alloc ?_ _));exact BK262.out) hb)
   have n4_:=Aside0.mk (below_step (by repeat (first|(with_reducible first|exact HB.out|apply below_alloc|apply pw_below_drewN|apply below_drew1|refine below_set ?_ GE261.out|refine below_set ?_ GE262.out)|exact HB.out)) hb)
   have z_HO271:=fun (h0_ : b 3 = true)=>(show Kd.R k36 36 w11 w.heap.size (fun k_=>(w.heap.size ≤ k_) ∧ k_ ≠ gb262) v270 y269 from by first|exact (Kd.R_below (by (with_reducible repeat (first|apply Kd.R_alloc|apply Kd.R_drewN|apply Kd.R_drew));exact (Q_HO271 h0_)) hb)|exact Kd.R_mono (Kd.R_below (by (with_reducible repeat (first|apply Kd.R_alloc|apply Kd.R_drewN|apply Kd.R_drew));exact (Q_HO271 h0_)) hb) (fun _ h_=>by first|trivial|exact h_|exact h_.1))
   clear HO265
   clear BK261
   clear BK262
   clear HB
   have HO265:=n0_
   have HO268:=n1_
   have BK261:=n2_
   have BK262:=n3_
   have HB:=n4_
   clear n0_ n1_ n2_ n3_ n4_
   (try clear hb)
   (try clear hb2)
   (try clear hk)
   (try clear hi)
   (try clear ho0)
   refine hK.out _ _ ⟨v264,v267,v270,m4_,(by rw [ha.out];exact putSel_upk 1 hb_ rfl rfl rfl),fun _=>(by (with_reducible repeat (first|refine blk_drewN ?_ _|refine blk_drew ?_|refine blk_alloc ?_ _));exact BK261.out),(by (with_reducible repeat (first|refine blk_drewN ?_ _|refine blk_drew ?_|refine blk_alloc ?_ _));exact BK262.out),(by repeat (first|(with_reducible first|exact HB.out|apply below_alloc|apply pw_below_drewN|apply below_drew1|refine below_set ?_ GE261.out|refine below_set ?_ GE262.out)|exact HB.out)),fun _=>(by (with_reducible repeat (first|apply Kd.N_alloc|apply Kd.N_drewN|apply Kd.N_drew));exact Kd.N_mono HO265.out (fun _ hk=>by first|exact ⟨hk.1.1,⟨hk.2,⟨hk.1.2.1,hk.1.2.2⟩⟩⟩|(simp only [ne_eq] at hk ⊢;revert hk;simp only [and_imp];intros;(repeat' apply And.intro) <;> assumption))),fun _=>(by (with_reducible repeat (first|apply Kd.R_alloc|apply Kd.R_drewN|apply Kd.R_drew));exact Kd.R_mono HO268.out (fun _ hk=>hk.1)),z_HO271,fun h0_=>absurd ((hoff 5 (by kernel_rfl)).symm.trans h0_) (by decide),fun h0_=>absurd ((hoff 4 (by kernel_rfl)).symm.trans h0_) (by decide)⟩
  refine steps_cons ?_ ?_
  ·rintro b a w' ⟨v264,v267,v270,m4_,ha,Q_BK261,Q_BK262,Q_HB,Q_HO265,Q_HO268,Q_HO271,Q_BK261_e5,Q_X4_⟩ hb_ hon hoff
   refine ⟨_,rfl,fun K hK=>?_⟩
   have e1 : a.tmps[1]? = some (.pointer (some ⟨gb262,0,none⟩)):=by rw [ha];exact (putSel_off rfl).trans rfl
   replace ha:=Aside0.mk ha
   have BK261:=Aside0.mk (Q_BK261 (hoff 5 (by kernel_rfl)))
   have BK262:=Aside0.mk Q_BK262
   have HB:=Aside0.mk Q_HB
   have hc0_ : w'.cell? ⟨gb262,0,none⟩ = some (.string (⟨#[83,75,49]⟩ : ByteArray)):=(blk_cell BK262.out 0).trans rfl
   have hc1_ : w'.cell? ⟨gb262,1,none⟩ = some (.string (⟨#[65,65,65]⟩ : ByteArray)):=(blk_cell BK262.out 1).trans rfl
   have hc2_ : w'.cell? ⟨gb262,2,none⟩ = some (.string (⟨#[66,66,66]⟩ : ByteArray)):=(blk_cell BK262.out 2).trans rfl
   have hc3_ : w'.cell? ⟨gb262,3,none⟩ = some (.int .i64 3000):=(blk_cell BK262.out 3).trans rfl
   have hc4_ : w'.cell? ⟨gb262,4,none⟩ = some (.int .i64 3060):=(blk_cell BK262.out 4).trans rfl
   have hc5_ : w'.cell? ⟨gb262,5,none⟩ = some (.string (⟨#[98,55,51,55]⟩ : ByteArray)):=(blk_cell BK262.out 5).trans rfl
   have hc6_ : w'.cell? ⟨gb262,6,none⟩ = some (.int .i64 1):=(blk_cell BK262.out 6).trans rfl
   have hc7_ : w'.cell? ⟨gb262,7,none⟩ = some (.int .i64 1):=(blk_cell BK262.out 7).trans rfl
   have hc8_ : w'.cell? ⟨gb262,8,none⟩ = some (.int .i64 2):=(blk_cell BK262.out 8).trans rfl
   refine value_ (w1:=w') (v:=.agg #[.string (⟨#[83,75,49]⟩ : ByteArray),.string (⟨#[65,65,65]⟩ : ByteArray),.string (⟨#[66,66,66]⟩ : ByteArray),.int .i64 3000,.int .i64 3060,.string (⟨#[98,55,51,55]⟩ : ByteArray),.int .i64 1,.int .i64 1,.int .i64 2]) (by rfl) rfl ?_ ?_
   ·go_simp
    (try simp only [i64_w])
    try rfl
   refine hK.out _ _ ⟨v264,v267,v270,m4_,(by rw [ha.out];exact putSel_upk 2 hb_ rfl rfl rfl),Q_BK261,Q_BK262,Q_HB,Q_HO265,Q_HO268,fun h0_=>absurd ((hoff 3 (by kernel_rfl)).symm.trans h0_) (by decide),fun h0_=>absurd ((hoff 5 (by kernel_rfl)).symm.trans h0_) (by decide),fun h0_=>absurd ((hoff 4 (by kernel_rfl)).symm.trans h0_) (by decide)⟩
  refine steps_cons ?_ ?_
  ·rintro b a w' ⟨v264,v267,v270,m4_,ha,Q_BK261,Q_BK262,Q_HB,Q_HO265,Q_HO268,Q_HO271,Q_BK261_e5,Q_X4_⟩ hb_ hon hoff
   refine ⟨_,rfl,fun K hK=>?_⟩
   have e6 : a.tmps[6]? = some (.agg #[.string (⟨#[83,75,49]⟩ : ByteArray),.string (⟨#[65,65,65]⟩ : ByteArray),.string (⟨#[66,66,66]⟩ : ByteArray),.int .i64 3000,.int .i64 3060,.string (⟨#[98,55,51,55]⟩ : ByteArray),.int .i64 1,.int .i64 1,.int .i64 2]):=by rw [ha];exact putSel_on (e:=(2,6,.agg #[.string (⟨#[83,75,49]⟩ : ByteArray),.string (⟨#[65,65,65]⟩ : ByteArray),.string (⟨#[66,66,66]⟩ : ByteArray),.int .i64 3000,.int .i64 3060,.string (⟨#[98,55,51,55]⟩ : ByteArray),.int .i64 1,.int .i64 1,.int .i64 2])) 2 rfl rfl (hon 2 (by kernel_rfl)) rfl
   replace ha:=Aside0.mk ha
   have BK261:=Aside0.mk (Q_BK261 (hoff 5 (by kernel_rfl)))
   have BK262:=Aside0.mk Q_BK262
   have HB:=Aside0.mk Q_HB
   refine Kd.R_lit_step k36 _ 36 ?hg (N:=7) ?hd (xs:=([(⟨(⟨#[83,75,49]⟩ : ByteArray),(⟨#[65,65,65]⟩ : ByteArray),(⟨#[66,66,66]⟩ : ByteArray),3000,3060,(⟨#[98,55,51,55]⟩ : ByteArray),(⟨1,1,2⟩ : S34)⟩ : S36)] : List (S36))) (inner:=[.string (⟨#[83,75,49]⟩ : ByteArray),.string (⟨#[65,65,65]⟩ : ByteArray),.string (⟨#[66,66,66]⟩ : ByteArray),.int .i64 3000,.int .i64 3060,.string (⟨#[98,55,51,55]⟩ : ByteArray),.int .i64 1,.int .i64 1,.int .i64 2]) (ok:=fun _=>True) (okp:=fun _=>True) ?hr ?hp (fun _ hk=>hk) trivial (Below.refl _ _) (Nat.le_refl _) (by simp) ?_;(case hd=>rfl);(case hg=>rfl);(case hr=>first|(go_simp;done)|(go_simp;rfl));(case hp=>exact (Reps.c9 (show Kd.M k36 _ _ _ (⟨(⟨#[83,75,49]⟩ : ByteArray),(⟨#[65,65,65]⟩ : ByteArray),(⟨#[66,66,66]⟩ : ByteArray),3000,3060,(⟨#[98,55,51,55]⟩ : ByteArray),(⟨1,1,2⟩ : S34)⟩ : S36) [.string (⟨#[83,75,49]⟩ : ByteArray),.string (⟨#[65,65,65]⟩ : ByteArray),.string (⟨#[66,66,66]⟩ : ByteArray),.int .i64 3000,.int .i64 3060,.string (⟨#[98,55,51,55]⟩ : ByteArray),.int .i64 1,.int .i64 1,.int .i64 2] from (k36_mkM _ _ _ (⟨(⟨#[83,75,49]⟩ : ByteArray),(⟨#[65,65,65]⟩ : ByteArray),(⟨#[66,66,66]⟩ : ByteArray),3000,3060,(⟨#[98,55,51,55]⟩ : ByteArray),(⟨1,1,2⟩ : S34)⟩ : S36) )) (Reps.none _ _)))
   intro v270 w9 ho10 hb hg_ hnew_
   clear hg_ hnew_
   (first|rw [← Ny269.out] at ho10|(simp only [Int.reduceToNat] at ho10;rw [← Ny269.out] at ho10))
   have n0_:=Aside0.mk (Kd.R_lower (Kd.R_newB (Kd.R_newM (M:=fun k_=>(w.heap.size ≤ k_)) ho10 (below_size (by repeat (first|(with_reducible first|exact HB.out|apply below_alloc|apply pw_below_drewN|apply below_drew1|refine below_set ?_ GE261.out|refine below_set ?_ GE262.out)|exact HB.out))) (fun k_ h_=>h_)) (g:=gb262) (o:=.cells #[.string (⟨#[83,75,49]⟩ : ByteArray),.string (⟨#[65,65,65]⟩ : ByteArray),.string (⟨#[66,66,66]⟩ : ByteArray),.int .i64 3000,.int .i64 3060,.string (⟨#[98,55,51,55]⟩ : ByteArray),.int .i64 1,.int .i64 1,.int .i64 2] 36 (0,0)) (by (with_reducible repeat (first|refine blk_drewN ?_ _|refine blk_drew ?_|refine blk_alloc ?_ _));exact BK262.out)) (below_size (by repeat (first|(with_reducible first|exact HB.out|apply below_alloc|apply pw_below_drewN|apply below_drew1|refine below_set ?_ GE261.out|refine below_set ?_ GE262.out)|exact HB.out))))
   have n1_:=Aside0.mk (blk_below (g:=gb261) (o:=.cells #[.slice none 0 0,.slice none 0 0,.slice none 0 0] 26 (0,0)) (by (with_reducible repeat (first|refine blk_drewN ?_ _|refine blk_drew ?_|refine blk_alloc ?_ _));exact BK261.out) hb)
   have n2_:=Aside0.mk (blk_below (g:=gb262) (o:=.cells #[.string (⟨#[83,75,49]⟩ : ByteArray),.string (⟨#[65,65,65]⟩ : ByteArray),.string (⟨#[66,66,66]⟩ : ByteArray),.int .i64 3000,.int .i64 3060,.string (⟨#[98,55,51,55]⟩ : ByteArray),.int .i64 1,.int .i64 1,.int .i64 2] 36 (0,0)) (by (with_reducible repeat (first|refine blk_drewN ?_ _|refine blk_drew ?_|refine blk_alloc ?_ _));exact BK262.out) hb)
   have n3_:=Aside0.mk (below_step (by repeat (first|(with_reducible first|exact HB.out|apply below_alloc|apply pw_below_drewN|apply below_drew1|refine below_set ?_ GE261.out|refine below_set ?_ GE262.out)|exact HB.out)) hb)
   have z_HO265:=fun (h0_ : b 0 = true)=>(show Kd.N k42 42 w9 w.heap.size (fun k_=>(w.heap.size ≤ k_) ∧ k_ ≠ gb261 ∧ k_ ≠ gb262) v264 t263 from by first|exact (Kd.N_elder' (by (with_reducible repeat (first|apply Kd.N_alloc|apply Kd.N_drewN|apply Kd.N_drew));exact (Q_HO265 h0_)) (Kd.R_base ho10) hb)|exact Kd.N_mono (Kd.N_elder' (by (with_reducible repeat (first|apply Kd.N_alloc|apply Kd.N_drewN|apply Kd.N_drew));exact (Q_HO265 h0_)) (Kd.R_base ho10) hb) (fun _ h_=>by first|trivial|exact h_|exact h_.1))
   have z_HO268:=fun (h0_ : b 1 = true)=>(show Kd.R k39 39 w9 w.heap.size (fun k_=>(w.heap.size ≤ k_)) v267 t266 from by first|exact (Kd.R_below (by (with_reducible repeat (first|apply Kd.R_alloc|apply Kd.R_drewN|apply Kd.R_drew));exact (Q_HO268 h0_)) hb)|exact Kd.R_mono (Kd.R_below (by (with_reducible repeat (first|apply Kd.R_alloc|apply Kd.R_drewN|apply Kd.R_drew));exact (Q_HO268 h0_)) hb) (fun _ h_=>by first|trivial|exact h_|exact h_.1))
   clear BK261
   clear BK262
   clear HB
   have HO271:=n0_
   have BK261:=n1_
   have BK262:=n2_
   have HB:=n3_
   clear n0_ n1_ n2_ n3_
   clear hb ho10
   refine hK.out _ _ ⟨v264,v267,v270,m4_,(by rw [ha.out];exact putSel_upk 3 hb_ rfl rfl rfl),fun _=>(by (with_reducible repeat (first|refine blk_drewN ?_ _|refine blk_drew ?_|refine blk_alloc ?_ _));exact BK261.out),(by (with_reducible repeat (first|refine blk_drewN ?_ _|refine blk_drew ?_|refine blk_alloc ?_ _));exact BK262.out),(by repeat (first|(with_reducible first|exact HB.out|apply below_alloc|apply pw_below_drewN|apply below_drew1|refine below_set ?_ GE261.out|refine below_set ?_ GE262.out)|exact HB.out)),z_HO265,z_HO268,fun _=>(by (with_reducible repeat (first|apply Kd.R_alloc|apply Kd.R_drewN|apply Kd.R_drew));exact Kd.R_mono HO271.out (fun _ hk=>by first|exact ⟨hk.1.1,hk.2⟩|(simp only [ne_eq] at hk ⊢;revert hk;simp only [and_imp];intros;(repeat' apply And.intro) <;> assumption))),fun h0_=>absurd ((hoff 5 (by kernel_rfl)).symm.trans h0_) (by decide),fun h0_=>absurd ((hoff 4 (by kernel_rfl)).symm.trans h0_) (by decide)⟩
  refine steps_cons ?_ ?_
  ·rintro b a w' ⟨v264,v267,v270,m4_,ha,Q_BK261,Q_BK262,Q_HB,Q_HO265,Q_HO268,Q_HO271,Q_BK261_e5,Q_X4_⟩ hb_ hon hoff
   refine ⟨_,rfl,fun K hK=>?_⟩
   have e4 : a.tmps[4]? = some (v264):=by rw [ha];exact putSel_on (e:=(0,4,v264)) 0 rfl rfl (hon 0 (by kernel_rfl)) rfl
   have e5 : a.tmps[5]? = some (v267):=by rw [ha];exact putSel_on (e:=(1,5,v267)) 1 rfl rfl (hon 1 (by kernel_rfl)) rfl
   have e7 : a.tmps[7]? = some (v270):=by rw [ha];exact putSel_on (e:=(3,7,v270)) 3 rfl rfl (hon 3 (by kernel_rfl)) rfl
   replace ha:=Aside0.mk ha
   have BK261:=Aside0.mk (Q_BK261 (hoff 5 (by kernel_rfl)))
   have BK262:=Aside0.mk Q_BK262
   have HB:=Aside0.mk Q_HB
   have HO265:=Aside0.mk (Q_HO265 (hon 0 (by kernel_rfl)))
   have HO268:=Aside0.mk (Q_HO268 (hon 1 (by kernel_rfl)))
   have HO271:=Aside0.mk (Q_HO271 (hon 3 (by kernel_rfl)))
   obtain ⟨Ao4_0,co4_0,eo_⟩:=Kd.N_slice HO265.out
   subst eo_
   obtain ⟨Ao4_1,co4_1,eo_⟩:=Kd.R_slice HO268.out
   subst eo_
   obtain ⟨Ao4_2,co4_2,eo_⟩:=Kd.R_slice HO271.out
   subst eo_
   refine value_ (w1:=w') (v:=.agg #[.slice Ao4_0 t263.length co4_0,.slice Ao4_1 t266.length co4_1,.slice Ao4_2 y269.length co4_2]) (by rfl) rfl ?_ ?_
   ·go_simp
    (try simp only [i64_w])
    try rfl
   refine hK.out _ _ ⟨.slice Ao4_0 t263.length co4_0,.slice Ao4_1 t266.length co4_1,.slice Ao4_2 y269.length co4_2,(.agg #[.slice Ao4_0 t263.length co4_0,.slice Ao4_1 t266.length co4_1,.slice Ao4_2 y269.length co4_2]),(by rw [ha.out];exact putSel_upk 4 hb_ rfl rfl rfl),Q_BK261,Q_BK262,Q_HB,Q_HO265,Q_HO268,Q_HO271,fun h0_=>absurd ((hoff 5 (by kernel_rfl)).symm.trans h0_) (by decide),fun _=>rfl⟩
  refine steps_cons ?_ ?_
  ·rintro b a w' ⟨v264,v267,v270,m4_,ha,Q_BK261,Q_BK262,Q_HB,Q_HO265,Q_HO268,Q_HO271,Q_BK261_e5,Q_X4_⟩ hb_ hon hoff
   refine ⟨_,rfl,fun K hK=>?_⟩
   have e0 : a.tmps[0]? = some (.pointer (some ⟨gb261,0,none⟩)):=by rw [ha];exact (putSel_off rfl).trans rfl
   have e8 : a.tmps[8]? = some (m4_):=by rw [ha];exact putSel_on (e:=(4,8,m4_)) 4 rfl rfl (hon 4 (by kernel_rfl)) rfl
   rw [Q_X4_ (hon 4 (by kernel_rfl))] at e8
   replace ha:=Aside0.mk ha
   have BK261:=Aside0.mk (Q_BK261 hb_)
   have BK262:=Aside0.mk Q_BK262
   have HB:=Aside0.mk Q_HB
   have HO265:=Aside0.mk (Q_HO265 (hon 0 (by kernel_rfl)))
   have HO268:=Aside0.mk (Q_HO268 (hon 1 (by kernel_rfl)))
   have HO271:=Aside0.mk (Q_HO271 (hon 3 (by kernel_rfl)))
   obtain ⟨Ao17,co17,eo17⟩:=Kd.R_slice HO271.out
   (first|subst eo17|(injection eo17 with f1_ f2_ f3_;have f4_:=f1_.symm;have f5_:=f3_.symm;clear f1_ f2_ f3_;subst f4_;subst f5_))
   obtain ⟨Ao18,co18,eo18⟩:=Kd.R_slice HO268.out
   (first|subst eo18|(injection eo18 with f1_ f2_ f3_;have f4_:=f1_.symm;have f5_:=f3_.symm;clear f1_ f2_ f3_;subst f4_;subst f5_))
   obtain ⟨Ao19,co19,eo19⟩:=Kd.N_slice HO265.out
   (first|subst eo19|(injection eo19 with f1_ f2_ f3_;have f4_:=f1_.symm;have f5_:=f3_.symm;clear f1_ f2_ f3_;subst f4_;subst f5_))
   have hs20 : w'.cell? ⟨gb261,0,none⟩ = some (.slice none 0 0):=(blk_cell BK261.out 0).trans rfl
   have hfs20:=blk_frozen BK261.out 0
   have hns20_1:=NB262_261.out
   have hms20_1:=NB261_262.out
   have hs21 : w'.cell? ⟨gb261,1,none⟩ = some (.slice none 0 0):=(blk_cell BK261.out 1).trans rfl
   have hfs21:=blk_frozen BK261.out 1
   have hns21_1:=NB262_261.out
   have hms21_1:=NB261_262.out
   have hs22 : w'.cell? ⟨gb261,2,none⟩ = some (.slice none 0 0):=(blk_cell BK261.out 2).trans rfl
   have hfs22:=blk_frozen BK261.out 2
   have hns22_1:=NB262_261.out
   have hms22_1:=NB261_262.out
   refine skip_ (w1:=?_) (by rfl) rfl ?_ ?_
   rotate_left
   ·go_simp
    rfl
   refine hK.out _ _ ⟨.slice Ao19 t263.length co19,.slice Ao18 t266.length co18,.slice Ao17 y269.length co17,m4_,(by rw [ha.out];exact putSel_none (v:=undef) rfl),fun h0_=>absurd ((up_self b 5).symm.trans h0_) (by decide),(by (with_reducible repeat (first|refine blk_drewN ?_ _|refine blk_drew ?_|refine blk_alloc ?_ _));refine blk_far ?_ NB262_261.out _;(with_reducible repeat (first|refine blk_drewN ?_ _|refine blk_drew ?_|refine blk_alloc ?_ _));refine blk_far ?_ NB262_261.out _;(with_reducible repeat (first|refine blk_drewN ?_ _|refine blk_drew ?_|refine blk_alloc ?_ _));refine blk_far ?_ NB262_261.out _;(with_reducible repeat (first|refine blk_drewN ?_ _|refine blk_drew ?_|refine blk_alloc ?_ _));exact BK262.out),(by repeat (first|(with_reducible first|exact HB.out|apply below_alloc|apply pw_below_drewN|apply below_drew1|refine below_set ?_ GE261.out|refine below_set ?_ GE262.out)|exact HB.out)),fun _=>(by (with_reducible repeat (first|apply Kd.N_alloc|apply Kd.N_drewN|apply Kd.N_drew));exact Kd.N_mono (Kd.N_far (p:=⟨gb261,2,none⟩) (Kd.N_far (p:=⟨gb261,1,none⟩) (Kd.N_far (p:=⟨gb261,0,none⟩) (Kd.N_mono HO265.out (fun k_ hk=>(⟨hk,by simp only [ne_eq] at hk ⊢;revert hk;simp only [and_imp];intros;assumption⟩ : _ ∧ k_ ≠ gb261))) (fun _ hk=>hk.2) (.slice Ao19 t263.length co19)) (fun _ hk=>hk.2) (.slice Ao18 t266.length co18)) (fun _ hk=>hk.2) (.slice Ao17 y269.length co17)) (fun _ hk=>by first|exact ⟨hk.1.1,⟨hk.1.2.1,⟨hk.1.2.2.1,⟨hk.1.2.2.2.1,hk.1.2.2.2.2⟩⟩⟩⟩|(simp only [ne_eq] at hk ⊢;revert hk;simp only [and_imp];intros;(repeat' apply And.intro) <;> assumption))),fun _=>(by (with_reducible repeat (first|apply Kd.R_alloc|apply Kd.R_drewN|apply Kd.R_drew));exact Kd.R_mono (Kd.R_far (p:=⟨gb261,2,none⟩) (Kd.R_far (p:=⟨gb261,1,none⟩) (Kd.R_far (p:=⟨gb261,0,none⟩) (Kd.R_types HO268.out BK261.out (by decide)) (fun _ hk=>hk.2) (.slice Ao19 t263.length co19)) (fun _ hk=>hk.2) (.slice Ao18 t266.length co18)) (fun _ hk=>hk.2) (.slice Ao17 y269.length co17)) (fun _ hk=>hk.1)),fun _=>(by (with_reducible repeat (first|apply Kd.R_alloc|apply Kd.R_drewN|apply Kd.R_drew));exact Kd.R_mono (Kd.R_far (p:=⟨gb261,2,none⟩) (Kd.R_far (p:=⟨gb261,1,none⟩) (Kd.R_far (p:=⟨gb261,0,none⟩) (Kd.R_types HO271.out BK261.out (by decide)) (fun _ hk=>hk.2) (.slice Ao19 t263.length co19)) (fun _ hk=>hk.2) (.slice Ao18 t266.length co18)) (fun _ hk=>hk.2) (.slice Ao17 y269.length co17)) (fun _ hk=>by first|exact ⟨hk.1.1,hk.1.2⟩|(simp only [ne_eq] at hk ⊢;revert hk;simp only [and_imp];intros;(repeat' apply And.intro) <;> assumption))),fun _=>(by (with_reducible repeat (first|refine blk_drewN ?_ _|refine blk_drew ?_|refine blk_alloc ?_ _));refine blk_put (cs:=#[.slice Ao19 t263.length co19,.slice Ao18 t266.length co18,.slice none 0 0]) ?_ 2 _ rfl;(with_reducible repeat (first|refine blk_drewN ?_ _|refine blk_drew ?_|refine blk_alloc ?_ _));refine blk_put (cs:=#[.slice Ao19 t263.length co19,.slice none 0 0,.slice none 0 0]) ?_ 1 _ rfl;(with_reducible repeat (first|refine blk_drewN ?_ _|refine blk_drew ?_|refine blk_alloc ?_ _));refine blk_put (cs:=#[.slice none 0 0,.slice none 0 0,.slice none 0 0]) ?_ 0 _ rfl;(with_reducible repeat (first|refine blk_drewN ?_ _|refine blk_drew ?_|refine blk_alloc ?_ _));exact BK261.out),Q_X4_⟩
  exact steps_nil
 rintro b a w19 hall ⟨v264,v267,v270,m4_,ha,Q_BK261,Q_BK262,Q_HB,Q_HO265,Q_HO268,Q_HO271,Q_BK261_e5,Q_X4_⟩
 clear BK261 BK262 HB
 have hb0_:=hall 0 (by kernel_rfl)
 have hb1_:=hall 1 (by kernel_rfl)
 have hb2_:=hall 2 (by kernel_rfl)
 have hb3_:=hall 3 (by kernel_rfl)
 have hb4_:=hall 4 (by kernel_rfl)
 have hb5_:=hall 5 (by kernel_rfl)
 subst ha
 obtain rfl:=Q_X4_ hb4_
 simp only [putSel,hb0_,hb1_,hb2_,hb3_,hb4_,hb5_,if_true,Act.put,List.setIfInBounds_toArray,List.set_cons_zero,List.set_cons_succ]
 clear Q_BK261
 have BK262:=Aside0.mk Q_BK262
 clear Q_BK262
 have HB:=Aside0.mk Q_HB
 clear Q_HB
 have HO265:=Aside0.mk (Q_HO265 hb0_)
 clear Q_HO265
 have HO268:=Aside0.mk (Q_HO268 hb1_)
 clear Q_HO268
 have HO271:=Aside0.mk (Q_HO271 hb3_)
 clear Q_HO271
 have BK261:=Aside0.mk (Q_BK261_e5 hb5_)
 clear Q_BK261_e5
 clear hall hb0_ hb1_ hb2_ hb3_ hb4_ hb5_
 obtain ⟨Ao20,co20,eo20⟩:=Kd.R_slice HO271.out
 (first|subst eo20|(injection eo20 with f1_ f2_ f3_;have f4_:=f1_.symm;have f5_:=f3_.symm;clear f1_ f2_ f3_;subst f4_;subst f5_))
 obtain ⟨Ao21,co21,eo21⟩:=Kd.R_slice HO268.out
 (first|subst eo21|(injection eo21 with f1_ f2_ f3_;have f4_:=f1_.symm;have f5_:=f3_.symm;clear f1_ f2_ f3_;subst f4_;subst f5_))
 obtain ⟨Ao22,co22,eo22⟩:=Kd.N_slice HO265.out
 (first|subst eo22|(injection eo22 with f1_ f2_ f3_;have f4_:=f1_.symm;have f5_:=f3_.symm;clear f1_ f2_ f3_;subst f4_;subst f5_))
 try go_wp2
 refine bodyPost_ret (results_cell_row rfl _ _ gb261 26 #[.slice Ao22 t263.length co22,.slice Ao21 t266.length co21,.slice Ao20 y269.length co20] (0,0) _ rfl (by (with_reducible repeat (first|refine blk_drewN ?_ _|refine blk_drew ?_|refine blk_alloc ?_ _));exact BK261.out) Try.underlying26 rfl (by kernel_rfl)) rfl ?_
 exact ⟨_,_,_,by first|rfl|(simp [errW_none,errW_some] <;> rfl)|(simp [*,errW_none,errW_some] <;> rfl),by (with_reducible repeat (first|apply Kd.N_alloc|apply Kd.N_drewN|apply Kd.N_drew));exact Kd.N_mono HO265.out (fun _ hk=>hk.1),by (with_reducible repeat (first|apply Kd.R_alloc|apply Kd.R_drewN|apply Kd.R_drew));exact HO268.out,by (with_reducible repeat (first|apply Kd.R_alloc|apply Kd.R_drewN|apply Kd.R_drew));exact Kd.R_mono HO271.out (fun _ hk=>hk.1),by repeat (first|(with_reducible first|exact HB.out|apply below_alloc|apply pw_below_drewN|apply below_drew1|refine below_set ?_ GE261.out|refine below_set ?_ GE262.out)|exact HB.out)⟩
end Go.Proofs.Ytepnddmalheoiaa.Q
namespace Go.Proofs.Ytepnddmalheoiaa.Q
open Go.Proofs.Ytepnddmalheoiaa.H
open Go.RowKit Go.Proofs.YtepnddmalheoiaaW.PrintWords Go.Proofs.YtepnddmalheoiaaW.PrintLast Go.Proofs.YtepnddmalheoiaaW.PrintMore
set_option linter.unusedVariables false
set_option linter.unusedSimpArgs false
def exZ : List S42:=((pairinglaw9_example.f).getD ([],[],[])).1
def exP : List S39:=((pairinglaw9_example.f).getD ([],[],[])).2.1
def exF : List S36:=((pairinglaw9_example.f).getD ([],[],[])).2.2
theorem ex_f : pairinglaw9_example.f = some (exZ,exP,exF):=rfl
def exFr : List Int:=((timetable_Encode.f 60 exZ exP exF).getD ([],1)).1
theorem ex_enc : timetable_Encode.f 60 exZ exP exF = some (exFr,0):=by decide +kernel
def exD : List S42 × List S39 × List S36 × Int:=(timetable_Decode.f 60 exFr).getD ([],[],[],1)
theorem opt_getD {α : Type} {o : Option α} {d : α} (h : o.isSome = true) : o = some (o.getD d):=by
 cases o with
 | none=>cases h
 | some a=>rfl
theorem ex_dec : timetable_Decode.f 60 exFr = some exD:=opt_getD (by decide +kernel)
theorem ex_ok : exD.2.2.2 = 0:=by decide +kernel
theorem ex_len : exD.2.2.1.length = 1:=by decide +kernel
theorem ex_num : (rd_T36 exD.2.2.1 0).f0.toList = [83,75,49]:=by decide +kernel
theorem ex_no : timetable_Validate.f 60 [z42] [] [] = some 1:=by decide +kernel
def pairinglaw9_awake.f (k : Nat) : Option Bool:=if 100 ≤ k then some true else none
set_option maxHeartbeats 8000000 in
set_option maxRecDepth 100000 in
theorem awake_calls (w : World) : Calls Try.prog 10 #[] w fun e w'=>e = .returned (.bool true) ∧ Below w.heap.size w w':=by
 have hB:=Below.refl w.heap.size w
 have HB:=Aside0.mk hB
 clear hB
 go_enter Try.func10,Try.ntmps10
 go_wp2_with fail
 refine (pairinglaw9_example.calls exZ exP exF _ ex_f).mono ?_
 rintro e_ w1 ⟨v0,v1,v2,rfl,hN,hP,hF,hb1⟩
 obtain ⟨A0,c0,rfl,hl0,hC0⟩:=Kd.N_reads hN
 obtain ⟨A1,c1,rfl,hl1,hC1⟩:=Kd.R_reads hP
 obtain ⟨A2,c2,rfl,hl2,hC2⟩:=Kd.R_reads hF
 have H0:=Aside0.mk hC0
 have H1:=Aside0.mk hC1
 have H2:=Aside0.mk hC2
 have L0:=Aside0.mk hl0
 have L1:=Aside0.mk hl1
 have L2:=Aside0.mk hl2
 have HB1:=Aside0.mk (below_step HB.out hb1)
 clear hN hP hF hb1 hC0 hC1 hC2 hl0 hl1 hl2
 go_wp2_with fail
 refine (timetable_Encode.calls 60 _ _ exZ _ _ exP _ _ exF exFr 0 _ H0.out L0.out H1.out L1.out H2.out L2.out ex_enc).mono ?_
 rintro e_ w2 ⟨v,rfl,hR,hb2⟩
 obtain ⟨A3,c3,rfl,hl3,hC3⟩:=Kd.R_reads hR
 have H3:=Aside0.mk hC3
 have L3:=Aside0.mk hl3
 have HB2:=Aside0.mk (below_step HB1.out hb2)
 clear hR hb2 hC3 hl3
 go_wp2_with fail
 refine (timetable_Decode.calls 60 _ _ exFr exD.1 exD.2.1 exD.2.2.1 exD.2.2.2 _ H3.out L3.out ex_dec).mono ?_
 rintro e_ w3 ⟨u0,u1,u2,rfl,hS,hP,hF,hb3⟩
 rw [ex_ok]
 obtain ⟨A4,c4,rfl,hl4,hC4⟩:=Kd.S_reads hS
 obtain ⟨A5,c5,rfl,hl5,hC5⟩:=Kd.R_reads hP
 obtain ⟨A6,c6,rfl,hl6,hC6⟩:=Kd.R_reads hF
 obtain ⟨ad,e0,hx0,_⟩:=at_T36 hC6 0 (by omega) (by rw [ex_len];decide)
 cases e0
 have HB3:=Aside0.mk (below_step HB2.out hb3)
 clear hS hP hF hb3 hC4 hC5 hl4 hl5 hl6
 have hen:=ex_num
 have hex:=ex_len
 generalize rd_T36 exD.2.2.1 0 = f at *
 rw [hex] at hC6 ⊢
 have ha0 : ad.add (Int.toNat 0 * 9) = ad:=by simp [Addr.add]
 rw [ha0] at hx0
 have hxx:=fun (o : Obj)=>(below_alloc (Below.refl w3.heap.size w3) o).cell (World.block_lt_of_cell? w3 _ hx0)
 have hxy:=fun (o : Obj)=>(hxx o).trans hx0
 have HX:=Aside0.mk hxy
 clear hxx hx0
 have HX1:=HX.out (.cells #[.slice A4 exD.1.length c4,.slice A5 exD.2.1.length c5,.slice (some ad) 1 c6] 26 (0,0))
 have d1 : (f.f0.toList == [83,75,49]) = true:=by rw [hen];rfl
 clear hen hex
 clear hxy ha0
 go_wp2_with fail
 have hz : ∀ (W : World),Kd.C k42 (W.alloc (.cells #[.string ⟨#[]⟩,.int .i64 0,.slice none 0 0] 42 (0,0))) (some ⟨W.heap.size,0,none⟩) [z42].length [z42]:=by
  intro W
  refine ⟨rfl,by decide,fun _=>⟨_,rfl,fun j p hj=>?_⟩⟩
  have hj0 : j = 0:=by
   have:=(List.getElem?_eq_some_iff.1 hj).1
   simpa using this
  subst hj0
  obtain rfl : z42 = p:=by simpa using hj
  refine ⟨[.string ⟨#[]⟩,.int .i64 0,.slice none 0 0],rfl,k42_mk _ z42 (A2:=none) (c2:=0) (Nat.le_refl _) ⟨rfl,by decide,fun h=>absurd h (by decide)⟩,fun i u hu=>?_⟩
  have hb:=heap_alloc_new W (.cells #[.string ⟨#[]⟩,.int .i64 0,.slice none 0 0] 42 (0,0))
  have hi : i < 3:=(List.getElem?_eq_some_iff.1 hu).1
  have h3:=blk_cell hb (0 * 3 + i)
  have hs : k42.sz = 3:=rfl
  rw [hs,add_plain]
  refine h3.trans ?_
  match i,hi with
  | 0,_=>exact hu
  | 1,_=>exact hu
  | 2,_=>exact hu
 have hN : ∀ (W : World),Kd.C k39 W none ([] : List S39).length []:=fun W=>⟨rfl,by decide,fun h=>absurd h (by decide)⟩
 have hM : ∀ (W : World),Kd.C k36 W none ([] : List S36).length []:=fun W=>⟨rfl,by decide,fun h=>absurd h (by decide)⟩
 have HZ:=hz (w3.alloc (.cells #[.slice A4 exD.1.length c4,.slice A5 exD.2.1.length c5,.slice (some ad) 1 c6] 26 (0,0)))
 have hsz : (w3.alloc (.cells #[.slice A4 exD.1.length c4,.slice A5 exD.2.1.length c5,.slice (some ad) 1 c6] 26 (0,0))).heap.size = w3.heap.size + 1:=by simp
 rw [hsz] at HZ
 refine (timetable_Validate.calls 60 _ _ [z42] _ _ [] _ _ [] 1 _ HZ (Nat.le_refl _) (hN _) (Nat.le_refl _) (hM _) (Nat.le_refl _) ex_no).mono ?_
 rintro e_ w4 ⟨rfl,hb4⟩
 have HB4:=Aside0.mk (below_step (below_alloc (below_alloc HB3.out _) _) hb4)
 clear hb4 hz hN hM HZ hsz
 go_wp2
 go_ret
 exact ⟨rfl,HB4.out⟩
theorem pairinglaw9_awake.calls (k : Nat) (r : Bool) (w : World) (h : pairinglaw9_awake.f k = some r) : Calls Try.prog 10 #[] w fun e w'=>e = .returned (.bool r) ∧ Below w.heap.size w w':=by
 unfold pairinglaw9_awake.f at h
 split at h
 ·obtain rfl:=Option.some.inj h
  exact awake_calls w
 ·cases h
end Go.Proofs.Ytepnddmalheoiaa.Q
namespace Go.Proofs.Ytepnddmalheoiaa.Q
open Go.Proofs.Ytepnddmalheoiaa.H
open Go.RowKit Go.Proofs.YtepnddmalheoiaaW.PrintWords Go.Proofs.YtepnddmalheoiaaW.PrintLast Go.Proofs.YtepnddmalheoiaaW.PrintMore
attribute [local go_sem] str_leq str_geq str_gtr max2_int min2_int max_two min_two max_three min_three max_four min_four   -- for this text's walks alone
set_option linter.unusedVariables false
set_option linter.unusedSimpArgs false
def pairingbase_At.f (l0 : List Int) (a1 : Int) : Option (Int):=if (l0.length : Int) = 0 then (some (Go.bits .and .i64 a1 65535)) else (if 0 ≤ (Int.tmod a1 (l0.length : Int)) then (if (Int.tmod a1 (l0.length : Int)) < (l0.length : Int) then (some (wrap64 ((Go.bits .and .i64 (rd l0 (Int.tmod a1 (l0.length : Int))) 65535) + (wrap64 (Int.tdiv a1 (l0.length : Int)))))) else (none)) else (none))
set_option maxHeartbeats 8000000 in
set_option maxRecDepth 100000 in
theorem pairingbase_At.calls (A0 : Option Addr) (c0 : Nat) (l0 : List Int) (a1 : Int) (r : Int) (w : World) (hr0 : Kd.C (Kd.int .i64) w A0 l0.length l0) (hc0 : l0.length ≤ c0) (h : pairingbase_At.f l0 a1 = some r) :
  Calls Try.prog 38 #[.slice A0 l0.length c0,.int .i64 a1] w fun e w'=>e = .returned (.int .i64 r) ∧ Drawn0 w w':=by
 have HR0:=Aside0.mk hr0
 have HC0:=Aside0.mk hc0
 clear hr0 hc0
 have H : (if (l0.length : Int) = 0 then (some (Go.bits .and .i64 a1 65535)) else (if 0 ≤ (Int.tmod a1 (l0.length : Int)) then (if (Int.tmod a1 (l0.length : Int)) < (l0.length : Int) then (some (wrap64 ((Go.bits .and .i64 (rd l0 (Int.tmod a1 (l0.length : Int))) 65535) + (wrap64 (Int.tdiv a1 (l0.length : Int)))))) else (none)) else (none))) = some r:=h
 clear h
 by_cases c3 : (l0.length : Int) = 0
 ·rw [if_pos c3] at H
  have c3b0 : ((l0.length : Int) == 0) = true:=beq_iff_eq.mpr c3
  have c3b1 : ((l0.length : Int) != 0) = false:=bne_eq_false_iff_eq.mpr c3
  clear c3
  obtain rfl:=Option.some.inj H
  go_enter Try.func38,Try.ntmps38
  go_wp2
  repeat (go_quiet (fail);try go_wp2)
  go_ret
  exact ⟨by first|rfl|(simp;done)|(simp [*];done),by repeat (first|exact Drawn0.refl _|apply Drawn0.step)⟩
 ·rw [if_neg c3] at H
  have c3b0 : ((l0.length : Int) == 0) = false:=beq_eq_false_iff_ne.mpr c3
  have c3b1 : ((l0.length : Int) != 0) = true:=bne_iff_ne.mpr c3
  have c3b2 : ¬ (l0 = []):=fun h_=>c3 (by rw [h_];rfl)
  obtain ⟨ji4,hji4⟩ : ∃ j_ : Int,(Int.tmod a1 (l0.length : Int)) = j_:=⟨_,rfl⟩
  replace H : (if 0 ≤ (ji4) then (if (ji4) < (l0.length : Int) then (some (wrap64 ((Go.bits .and .i64 (rd l0 (ji4)) 65535) + (wrap64 (Int.tdiv a1 (l0.length : Int)))))) else (none)) else (none)) = some r:=by first|(rw [hji4] at H;exact H)|(simp only [hji4] at H ⊢;exact H)
  by_cases c5 : 0 ≤ (ji4)
  ·rw [if_pos c5] at H
   have c5b0 : decide (0 ≤ (ji4)) = true:=decide_eq_true c5
   clear c5
   by_cases c6 : (ji4) < (l0.length : Int)
   ·rw [if_pos c6] at H
    have c6b0 : decide ((ji4) < (l0.length : Int)) = true:=decide_eq_true c6
    clear c6
    obtain rfl:=Option.some.inj H
    have p101 : 0 ≤ ((ji4) : Int):=of_decide_eq_true (by first|(with_reducible assumption)|assumption)
    have q101 : (ji4) < (l0.length : Int):=of_decide_eq_true (by first|(with_reducible assumption)|assumption)
    obtain ⟨ad101,e101,hx101_0⟩:=Kd.at_int HR0.out (ji4) p101 q101
    cases e101
    replace p101:=eq_true p101
    replace q101:=eq_true q101
    go_enter Try.func38,Try.ntmps38
    go_wp2
    repeat (go_quiet (fail);try go_wp2)
    go_ret
    exact ⟨by first|rfl|(simp;done)|(simp only [← hji4] <;> (first|rfl|simp))|(simp [*];done),by repeat (first|exact Drawn0.refl _|apply Drawn0.step)⟩
   ·rw [if_neg c6] at H
    exact absurd H (by simp)
  ·rw [if_neg c5] at H
   exact absurd H (by simp)
end Go.Proofs.Ytepnddmalheoiaa.Q
namespace Go.Proofs.Ytepnddmalheoiaa.Q
open Go.Proofs.Ytepnddmalheoiaa.H
open Go.RowKit Go.Proofs.YtepnddmalheoiaaW.PrintWords Go.Proofs.YtepnddmalheoiaaW.PrintLast Go.Proofs.YtepnddmalheoiaaW.PrintMore
set_option linter.unusedVariables false
set_option linter.unusedSimpArgs false
def oS1 : Obj:=.cells #[.int .i64 1441500,.int .i64 120,.int .i64 1444000,.int .i64 60] 44 (0,0)
def oS2 : Obj:=.cells #[.int .i64 1442900,.int .i64 (-240)] 44 (0,0)
def oZ (n : Nat) : Obj:=.cells #[.string ⟨#[117,116,99]⟩,.int .i64 0,.slice none 0 0,.string ⟨#[111,115,108,111]⟩,.int .i64 60,.slice (some ⟨n,0,none⟩) 2 2,.string ⟨#[121,111,114,107]⟩,.int .i64 (-300),.slice (some ⟨n + 1,0,none⟩) 1 1] 42 (0,0)
def oA : Obj:=.cells #[.string ⟨#[65,65,65]⟩,.string ⟨#[117,116,99]⟩,.string ⟨#[66,66,66]⟩,.string ⟨#[111,115,108,111]⟩,.string ⟨#[67,67,67]⟩,.string ⟨#[121,111,114,107]⟩] 39 (0,0)
def oC : Obj:=.cells #[.string ⟨#[65,65,65]⟩,.string ⟨#[66,66,66]⟩,.string ⟨#[67,67,67]⟩] 9 (0,0)
set_option maxHeartbeats 8000000 in
set_option maxRecDepth 100000 in
theorem zones_calls (w : World) : Calls Try.prog 36 #[] w fun e w'=>e = .returned (.slice (some ⟨w.heap.size + 2,0,none⟩) 3 3) ∧ w' = ((w.alloc oS1).alloc oS2).alloc (oZ w.heap.size):=by
 go_enter Try.func36,Try.ntmps36
 go_wp2
 go_ret
 exact ⟨rfl,rfl⟩
set_option maxHeartbeats 8000000 in
set_option maxRecDepth 100000 in
theorem airports_calls (w : World) : Calls Try.prog 37 #[] w fun e w'=>e = .returned (.slice (some ⟨w.heap.size,0,none⟩) 3 3) ∧ w' = w.alloc oA:=by
 go_enter Try.func37,Try.ntmps37
 go_wp2
 go_ret
 exact ⟨rfl,rfl⟩
set_option maxHeartbeats 8000000 in
set_option maxRecDepth 100000 in
theorem codes_calls (w : World) : Calls Try.prog 39 #[] w fun e w'=>e = .returned (.slice (some ⟨w.heap.size,0,none⟩) 3 3) ∧ w' = w.alloc oC:=by
 go_enter Try.func39,Try.ntmps39
 go_wp2
 go_ret
 exact ⟨rfl,rfl⟩
def atN (l : List Int) (i : Int) : Int:=(pairingbase_At.f l i).getD 0
def AtOk (l : List Int) : Prop:=∀ i : Int,0 ≤ i → i ≤ 8 → pairingbase_At.f l i = some (atN l i) ∧ 0 ≤ atN l i ∧ atN l i ≤ 70000
def bAt (n a : Int) : Int:=if n % 7 = 6 then 0 else a
def bTo (n a : Int) : Int:=if a = 0 then 1 + n / 8 % 2 else if n % 11 = 10 then 3 - a else 0
def gapL : List Int:=[30,45,45,60,90,150,600,780]
def codeL : List ByteArray:=[⟨#[65,65,65]⟩,⟨#[66,66,66]⟩,⟨#[67,67,67]⟩]
def typeL : List ByteArray:=[⟨#[97,51,50,48]⟩,⟨#[98,55,51,55]⟩,⟨#[101,49,57,48]⟩]
def codeF (j : Int) : ByteArray:=codeL.getD j.toNat ⟨#[]⟩
def typeF (j : Int) : ByteArray:=typeL.getD j.toNat ⟨#[]⟩
def numF (i : Int) : ByteArray:=(⟨#[70]⟩ : ByteArray) ++ strOfNums [48 + i]
def bDep (n clock : Int) : Int:=clock + rd gapL (n / 16 % 8)
def bArr (n dep : Int) : Int:=dep + 60 + 15 * (n / 128 % 6)
def bFlight (i n a dep : Int) : S36:=⟨numF i,codeF a,codeF (bTo n a),dep,bArr n dep,typeF (n / 1024 % 3),⟨1,1,2⟩⟩
def bClock (n dep : Int) : Int:=if n % 5 = 4 then dep + 20 else bArr n dep
def bFs (l : List Int) : Nat → Int → Int → Int → List S36
 | 0,_,_,_=>[]
 | g + 1,i,a,clock=>bFlight i (atN l (2 + i)) (bAt (atN l (2 + i)) a) (bDep (atN l (2 + i)) clock) :: bFs l g (i + 1) (bTo (atN l (2 + i)) (bAt (atN l (2 + i)) a)) (bClock (atN l (2 + i)) (bDep (atN l (2 + i)) clock))
def bM (l : List Int) : Int:=2 + atN l 1 % 6
def bAll (l : List Int) : List S36:=bFs l (bM l).toNat 0 0 (1440000 + 15 * (atN l 0 % 96))
def oG : Obj:=.cells #[.int .i64 30,.int .i64 45,.int .i64 45,.int .i64 60,.int .i64 90,.int .i64 150,.int .i64 600,.int .i64 780] 3 (0,0)
def oY : Obj:=.cells #[.string ⟨#[97,51,50,48]⟩,.string ⟨#[98,55,51,55]⟩,.string ⟨#[101,49,57,48]⟩] 9 (0,0)
def oT (n : Nat) (v : Value) : Obj:=.cells #[.slice (some ⟨n + 3,0,none⟩) 3 3,.slice (some ⟨n + 4,0,none⟩) 3 3,v] 26 (0,0)
def oR : Obj:=.cells #[.slice none 0 0,.slice none 0 0,.slice none 0 0] 26 (0,0)
structure BOut (w W : World) (v : Value) (fs : List S36) : Prop where
 be : Below w.heap.size w W
 s1 : W.heap[w.heap.size + 1]? = some oS1
 s2 : W.heap[w.heap.size + 2]? = some oS2
 z : W.heap[w.heap.size + 3]? = some (oZ (w.heap.size + 1))
 a : W.heap[w.heap.size + 4]? = some oA
 f : Kd.R k36 36 W w.heap.size (fun k=>w.heap.size + 8 ≤ k) v fs
structure BPt (w W : World) (v : Value) (fs : List S36) : Prop extends BOut w W v fs where
 b0 : W.heap[w.heap.size]? = some oR
 t : W.heap[w.heap.size + 5]? = some (oT w.heap.size v)
 g : W.heap[w.heap.size + 6]? = some oG
 y : W.heap[w.heap.size + 7]? = some oY
theorem BOut.below {w W W1 : World} {v : Value} {fs : List S36} (h : BOut w W v fs) (hb : Below W.heap.size W W1) : BOut w W1 v fs :=
 ⟨below_step h.be hb,blk_below h.s1 hb,blk_below h.s2 hb,blk_below h.z hb,blk_below h.a hb,Kd.R_below h.f hb⟩
theorem BOut.far {w W : World} {v : Value} {fs : List S36} (h : BOut w W v fs) (j : Nat) (u : Value) : BOut w (W.setCell ⟨w.heap.size,j,none⟩ u) v fs :=
 ⟨below_set h.be (Nat.le_refl _),blk_far h.s1 (by show _ ≠ w.heap.size;omega) _,blk_far h.s2 (by show _ ≠ w.heap.size;omega) _,blk_far h.z (by show _ ≠ w.heap.size;omega) _,blk_far h.a (by show _ ≠ w.heap.size;omega) _,Kd.R_far (p:=⟨w.heap.size,j,none⟩) h.f (fun k hk=>by show k ≠ w.heap.size;omega) _⟩
theorem BPt.below {w W W1 : World} {v : Value} {fs : List S36} (h : BPt w W v fs) (hb : Below W.heap.size W W1) : BPt w W1 v fs :=
 ⟨h.toBOut.below hb,blk_below h.b0 hb,blk_below h.t hb,blk_below h.g hb,blk_below h.y hb⟩
theorem BPt.drawn {w W : World} {v : Value} {fs : List S36} (h : BPt w W v fs) (n : Nat) : BPt w (W.drewN n) v fs:=h.below (pw_below_drewN (Below.refl _ _) n)
theorem gap_range (j : Int) (h0 : 0 ≤ j) (h1 : j < 8) : 0 ≤ rd gapL j ∧ rd gapL j ≤ 780:=by
 obtain rfl|rfl|rfl|rfl|rfl|rfl|rfl|rfl : j = 0 ∨ j = 1 ∨ j = 2 ∨ j = 3 ∨ j = 4 ∨ j = 5 ∨ j = 6 ∨ j = 7:=by omega
 all_goals decide
theorem str_one (x : Int) : (strOfNums [x]).size = 1:=rfl
theorem string_of_blk {W : World} {g : Nat} {x : Int} (h : W.heap[g]? = some (.cells #[.int .u8 x] 5 (0,0))) : (convert 46 9 (.slice (some ⟨g,0,none⟩) 1 1)).run Try.prog W = .ok (.string (strOfNums [x])) W:=by
 have hC : Kd.C (Kd.int .u8) W (some ⟨g,0,none⟩) 1 [x]:=by
  refine ⟨rfl,by decide,fun _=>⟨_,rfl,fun j p hj=>?_⟩⟩
  have hj0 : j = 0:=by
   have:=(List.getElem?_eq_some_iff.1 hj).1
   simpa using this
  subst hj0
  obtain rfl : x = p:=by simpa using hj
  refine ⟨[.int .u8 x],rfl,rfl,fun i u hu=>?_⟩
  have hi : i = 0:=by
   have:=(List.getElem?_eq_some_iff.1 hu).1
   simpa using this
  subst hi
  have hs : (Kd.int .u8).sz = 1:=rfl
  rw [hs,add_plain]
  exact (blk_cell h (0 * 1 + 0)).trans hu
 exact Kd.C_string Try.underlying46 Try.underlying5 Try.underlying9 hC
theorem code_cell {W : World} {g : Nat} (h : W.heap[g]? = some oC) (j : Int) (h0 : 0 ≤ j) (h1 : j < 3) : W.cell? ⟨g,j.toNat,none⟩ = some (.string (codeF j)):=by
 obtain rfl|rfl|rfl : j = 0 ∨ j = 1 ∨ j = 2:=by omega
 all_goals exact (blk_cell h _).trans rfl
theorem type_cell {W : World} {g : Nat} (h : W.heap[g]? = some oY) (j : Int) (h0 : 0 ≤ j) (h1 : j < 3) : W.cell? ⟨g,j.toNat,none⟩ = some (.string (typeF j)):=by
 obtain rfl|rfl|rfl : j = 0 ∨ j = 1 ∨ j = 2:=by omega
 all_goals exact (blk_cell h _).trans rfl
theorem below_set9 {w W : World} {g : Nat} {v0 v1 v2 v3 v4 v5 v6 v7 v8 : Value} (h : Below w.heap.size w W) (hg : w.heap.size ≤ g) :
  Below w.heap.size w (((((((((W.setCell ⟨g,0,none⟩ v0).setCell ⟨g,1,none⟩ v1).setCell ⟨g,2,none⟩ v2).setCell ⟨g,3,none⟩ v3).setCell ⟨g,4,none⟩ v4).setCell ⟨g,5,none⟩ v5).setCell ⟨g,6,none⟩ v6).setCell ⟨g,7,none⟩ v7).setCell ⟨g,8,none⟩ v8) :=
 below_set (below_set (below_set (below_set (below_set (below_set (below_set (below_set (below_set h hg) hg) hg) hg) hg) hg) hg) hg) hg
theorem blk_put9 {W : World} {g : Nat} {u0 u1 u2 u3 u4 u5 u6 u7 u8 v0 v1 v2 v3 v4 v5 v6 v7 v8 : Value} {t : TypeId} (h : W.heap[g]? = some (.cells #[u0,u1,u2,u3,u4,u5,u6,u7,u8] t (0,0))) :
  (((((((((W.setCell ⟨g,0,none⟩ v0).setCell ⟨g,1,none⟩ v1).setCell ⟨g,2,none⟩ v2).setCell ⟨g,3,none⟩ v3).setCell ⟨g,4,none⟩ v4).setCell ⟨g,5,none⟩ v5).setCell ⟨g,6,none⟩ v6).setCell ⟨g,7,none⟩ v7).setCell ⟨g,8,none⟩ v8).heap[g]? = some (.cells #[v0,v1,v2,v3,v4,v5,v6,v7,v8] t (0,0)):=by
 refine blk_put (cs:=#[v0,v1,v2,v3,v4,v5,v6,v7,u8]) ?_ 8 _ rfl
 refine blk_put (cs:=#[v0,v1,v2,v3,v4,v5,v6,u7,u8]) ?_ 7 _ rfl
 refine blk_put (cs:=#[v0,v1,v2,v3,v4,v5,u6,u7,u8]) ?_ 6 _ rfl
 refine blk_put (cs:=#[v0,v1,v2,v3,v4,u5,u6,u7,u8]) ?_ 5 _ rfl
 refine blk_put (cs:=#[v0,v1,v2,v3,u4,u5,u6,u7,u8]) ?_ 4 _ rfl
 refine blk_put (cs:=#[v0,v1,v2,u3,u4,u5,u6,u7,u8]) ?_ 3 _ rfl
 refine blk_put (cs:=#[v0,v1,u2,u3,u4,u5,u6,u7,u8]) ?_ 2 _ rfl
 refine blk_put (cs:=#[v0,u1,u2,u3,u4,u5,u6,u7,u8]) ?_ 1 _ rfl
 refine blk_put (cs:=#[u0,u1,u2,u3,u4,u5,u6,u7,u8]) ?_ 0 _ rfl
 exact h
theorem BPt.app {w W W1 : World} {v v1 : Value} {fs fs1 : List S36} {g : Nat} {c0 c1 c2 c3 c5 c6 c7 c8 : Value} {x : Int} (h : BPt w W v fs) (hG : w.heap.size + 8 ≤ g ∧ ∀ k,v.ownBlock = some k → k ≠ g) (hb : Below w.heap.size W W1) (hg : W.grownBy W1 v.ownBlock) (ho : Kd.R k36 36 W1 w.heap.size (fun k=>w.heap.size + 8 ≤ k) v1 fs1)
  (h12 : W.heap[g]? = some (.cells #[c0,c1,c2,c3,.int .i64 x,c5,c6,c7,c8] 36 (0,0))) :
  BPt w (W1.setCell ⟨w.heap.size + 5,2,none⟩ v1) v1 fs1 ∧ W1.cell? ⟨w.heap.size + 5,2,none⟩ = some v ∧ W1.frozen? ⟨w.heap.size + 5,2,none⟩ = false ∧ W1.cell? ⟨g,4,none⟩ = some (.int .i64 x) ∧ (W1.setCell ⟨w.heap.size + 5,2,none⟩ v1).cell? ⟨g,4,none⟩ = some (.int .i64 x):=by
 have ne : ∀ j,j < w.heap.size + 8 → some j ≠ v.ownBlock:=fun j hj he=>by have:=h.f.1 j he.symm;omega
 have t1:=blk_grown h.t hg (ne _ (by omega))
 refine ⟨⟨⟨below_set (h.be.trans hb) (by show w.heap.size ≤ w.heap.size + 5;omega),blk_far (blk_grown h.s1 hg (ne _ (by omega))) (by show _ ≠ w.heap.size + 5;omega) _,blk_far (blk_grown h.s2 hg (ne _ (by omega))) (by show _ ≠ w.heap.size + 5;omega) _,blk_far (blk_grown h.z hg (ne _ (by omega))) (by show _ ≠ w.heap.size + 5;omega) _,blk_far (blk_grown h.a hg (ne _ (by omega))) (by show _ ≠ w.heap.size + 5;omega) _,Kd.R_far (p:=⟨w.heap.size + 5,2,none⟩) ho (fun k hk=>by show k ≠ w.heap.size + 5;omega) _⟩,blk_far (blk_grown h.b0 hg (ne _ (by omega))) (by show _ ≠ w.heap.size + 5;omega) _,?_,blk_far (blk_grown h.g hg (ne _ (by omega))) (by show _ ≠ w.heap.size + 5;omega) _,blk_far (blk_grown h.y hg (ne _ (by omega))) (by show _ ≠ w.heap.size + 5;omega) _⟩,(blk_cell t1 2).trans rfl,blk_frozen t1 2,?_,?_⟩
 ·exact blk_put (cs:=#[.slice (some ⟨w.heap.size + 3,0,none⟩) 3 3,.slice (some ⟨w.heap.size + 4,0,none⟩) 3 3,v]) t1 2 _ rfl
 ·exact (blk_cell (blk_grown h12 hg (fun he=>hG.2 g he.symm rfl)) 4).trans rfl
 ·exact (blk_cell (blk_far (p:=⟨w.heap.size + 5,2,none⟩) (blk_grown h12 hg (fun he=>hG.2 g he.symm rfl)) (by show g ≠ w.heap.size + 5;omega) _) 4).trans rfl
def base.T17 : Bool × List (List Nat × List Nat):=(true,[([],[]),([0],[0]),([1],[1]),([2],[2]),([3],[3]),([4],[4]),([],[]),([],[]),([6,7],[6,7]),([8],[8]),([6],[]),([],[]),([10,11],[10,11]),([12],[12]),([],[]),([],[]),([15],[15]),([],[]),([17],[17]),([18],[18]),([19],[19]),([16,20],[16,20]),([],[]),([],[]),([23],[23]),([24],[24]),([22,25],[22,25]),([26],[26]),([],[]),([5,9,13,14,21,27,28],[5,9,13,14,21,27,28]),([],[]),([30,29,10,0,1,2,3,4,5,6,7,8,9,10,11,12,13,14,15,16,17,18,19,20,21,22,23,24,25,26,27,28,29,30],[29,30])])
def base.B17 : List Nat:=[0,1,3,7,15,31,0,0,192,448,64,0,3136,7232,0,0,32768,0,131072,393216,917504,2064384,0,0,8388608,25165824,62914560,130023424,0,536870911,0,2147483647]
theorem base.tab17 : rtab .any (opsOf Try.f13 17) = base.T17:=by kernel_rfl
theorem base.bits17 : waitsOk base.T17.2 base.B17 = true:=by kernel_rfl
set_option maxHeartbeats 8000000 in
set_option maxRecDepth 100000 in
theorem base_calls (A0 : Option Addr) (c0 : Nat) (l : List Int) (w : World) (hr0 : Kd.C (Kd.int .i64) w A0 l.length l) (hc0 : l.length ≤ c0) (hat : AtOk l) :
  Calls Try.prog 13 #[.slice A0 l.length c0] w fun e w'=>∃ v : Value,e = .returned (.agg #[.slice (some ⟨w.heap.size + 3,0,none⟩) 3 3,.slice (some ⟨w.heap.size + 4,0,none⟩) 3 3,v]) ∧ BOut w w' v (bAll l):=by
 have hu26:=Try.underlying26
 have HR:=Aside0.mk hr0
 have HC:=Aside0.mk hc0
 have HAt:=Aside0.mk hat
 clear hr0 hc0 hat
 go_enter Try.func13,Try.ntmps13
 go_wp2_with fail
 refine (zones_calls _).mono ?_
 rintro e_ w1 ⟨he,hw1⟩
 obtain rfl : e_ = .returned (.slice (some ⟨w.heap.size + 3,0,none⟩) 3 3):=by rw [he];simp
 have hP1 : Below w.heap.size w w1 ∧ w1.heap.size = w.heap.size + 4 ∧ w1.heap[w.heap.size]? = some oR ∧ w1.heap[w.heap.size + 1]? = some oS1 ∧ w1.heap[w.heap.size + 2]? = some oS2 ∧ w1.heap[w.heap.size + 3]? = some (oZ (w.heap.size + 1)):=by
  have hw1 : w1 = (((w.alloc oR).alloc oS1).alloc oS2).alloc (oZ (w.alloc oR).heap.size):=hw1
  have e0:=blk_alloc (blk_alloc (blk_alloc (heap_alloc_new w oR) oS1) oS2) (oZ (w.alloc oR).heap.size)
  have e1:=blk_alloc (blk_alloc (heap_alloc_new (w.alloc oR) oS1) oS2) (oZ (w.alloc oR).heap.size)
  have e2:=blk_alloc (heap_alloc_new ((w.alloc oR).alloc oS1) oS2) (oZ (w.alloc oR).heap.size)
  have e3:=heap_alloc_new (((w.alloc oR).alloc oS1).alloc oS2) (oZ (w.alloc oR).heap.size)
  simp only [World.size_alloc] at e0 e1 e2 e3
  rw [World.size_alloc] at hw1
  rw [hw1]
  exact ⟨below_alloc (below_alloc (below_alloc (below_alloc (Below.refl _ _) _) _) _) _,by simp only [World.size_alloc],e0,e1,e2,e3⟩
 have HP1:=Aside0.mk hP1
 clear he hw1 hP1
 go_wp2_with fail
 refine (airports_calls _).mono ?_
 rintro e_ w2 ⟨he,hw2⟩
 obtain rfl : e_ = .returned (.slice (some ⟨w.heap.size + 4,0,none⟩) 3 3):=by rw [he,HP1.out.2.1]
 have hP2 : Below w.heap.size w w2 ∧ w2.heap.size = w.heap.size + 5 ∧ w2.heap[w.heap.size]? = some oR ∧ w2.heap[w.heap.size + 1]? = some oS1 ∧ w2.heap[w.heap.size + 2]? = some oS2 ∧ w2.heap[w.heap.size + 3]? = some (oZ (w.heap.size + 1)) ∧ w2.heap[w.heap.size + 4]? = some oA:=by
  obtain ⟨h1,h2,h3,h4,h5,h6⟩:=HP1.out
  have e4:=heap_alloc_new w1 oA
  rw [h2] at e4
  rw [hw2]
  exact ⟨below_alloc h1 _,by rw [World.size_alloc,h2],blk_alloc h3 _,blk_alloc h4 _,blk_alloc h5 _,blk_alloc h6 _,e4⟩
 have HP2:=Aside0.mk hP2
 clear he hw2 hP2 HP1
 obtain ⟨a0,ha00,ha01⟩:=HAt.out 0 (by omega) (by omega)
 have HA0:=Aside0.mk a0
 clear a0
 generalize hn0 : atN l 0 = n0 at *
 have HN0:=Aside0.mk hn0
 clear hn0
 go_wp2_with fail
 refine (pairingbase_At.calls _ _ l 0 n0 _ (Kd.C_alloc (Kd.C_below HR.out HP2.out.1) _) HC.out HA0.out).mono ?_
 rintro e_ w3 ⟨rfl,⟨nd,rfl⟩⟩
 have hs2:=HP2.out.2.1
 have e1 : w2.heap.size = w.heap.size + 5:=hs2
 have e2 : w2.heap.size + 1 = w.heap.size + 6:=by omega
 have e3 : w2.heap.size + 1 + 1 = w.heap.size + 7:=by omega
 have E1:=Aside0.mk e1
 have E2:=Aside0.mk e2
 have E3:=Aside0.mk e3
 clear hs2 e1 e2 e3
 go_wp2
 have HB0 : BPt w ((((w2.alloc (oT w.heap.size (.slice none 0 0))).drewN nd).alloc oG).alloc oY) (.slice none 0 0) []:=by
  obtain ⟨h1,h2,h3,h4,h5,h6,h7⟩:=HP2.out
  have f5:=heap_alloc_new w2 (oT w.heap.size (.slice none 0 0))
  have f6:=heap_alloc_new ((w2.alloc (oT w.heap.size (.slice none 0 0))).drewN nd) oG
  have f7:=heap_alloc_new (((w2.alloc (oT w.heap.size (.slice none 0 0))).drewN nd).alloc oG) oY
  have hsn : ((w2.alloc (oT w.heap.size (.slice none 0 0))).drewN nd).heap.size = w2.heap.size + 1:=by simp
  simp only [World.size_alloc,hsn,h2] at f5 f6 f7
  exact ⟨⟨below_alloc (below_alloc (pw_below_drewN (below_alloc h1 _) _) _) _,blk_alloc (blk_alloc (blk_drewN (blk_alloc h4 _) _) _) _,blk_alloc (blk_alloc (blk_drewN (blk_alloc h5 _) _) _) _,blk_alloc (blk_alloc (blk_drewN (blk_alloc h6 _) _) _) _,blk_alloc (blk_alloc (blk_drewN (blk_alloc h7 _) _) _) _,Kd.R_nil _ _ _ _ _⟩,blk_alloc (blk_alloc (blk_drewN (blk_alloc h3 _) _) _) _,blk_alloc (blk_alloc (blk_drewN f5 _) _) _,blk_alloc f6 _,f7⟩
 have HBP:=Aside0.mk HB0
 clear HB0
 rw [E3.out,E2.out,E1.out]
 have hm1:=HAt.out 1 (by omega) (by omega)
 have HM1:=Aside0.mk hm1
 have HMv:=Aside0.mk (show bM l = 2 + atN l 1 % 6 from rfl)
 clear hm1
 go_loopg [4,5,8] (bM l).toNat (fun gk v4 v5 v8 wx=>∃ (i a clock : Int) (v : Value) (fs : List S36),v4 = .int .i64 a ∧ v5 = .int .i64 clock ∧ v8 = .int .i64 i ∧ Aside0 (0 ≤ i ∧ i + gk = bM l ∧ 0 ≤ a ∧ a ≤ 2 ∧ 0 ≤ clock ∧ clock ≤ 1441425 + 1000 * i ∧ (fs.length : Int) = i ∧ fs ++ bFs l gk i a clock = bAll l) ∧ Aside0 (BPt w wx v fs))
 case atStart =>
  have hm:=HMv.out
  exact ⟨0,0,_,.slice none 0 0,[],rfl,rfl,rfl,⟨by omega,by omega,by omega,by omega,by omega,by omega,rfl,by rw [List.nil_append,bAll,HN0.out]⟩,HBP⟩
 case round =>
  clear HBP
  obtain ⟨i,a,clock,v,fs,rfl,rfl,rfl,HF,HBP⟩:=hrel
  have HD:=Aside0.mk (Kd.C_below HR.out HBP.out.be)
  go_wp2_with fail
  refine (pairingbase_At.calls _ _ l 1 (atN l 1) _ HD.out HC.out HM1.out.1).mono ?_
  rintro e_ w4 ⟨rfl,⟨nd1,rfl⟩⟩
  obtain ⟨_,hn10,hn11⟩:=HM1.out
  have hm:=HMv.out
  obtain ⟨hi0,hig,ha0,ha2,hc0,hc1,hlen,htot⟩:=HF.out
  cases gk with
  | zero =>
   have c1 : decide (i < 2 + atN l 1 % 6) = false:=decide_eq_false (by omega)
   have hfs : fs = bAll l:=by rw [← htot];simp [bFs]
   have HFs:=Aside0.mk hfs
   have HB2:=Aside0.mk (HBP.out.drawn nd1)
   obtain ⟨Af,cf,rfl⟩:=Kd.R_slice HBP.out.f
   have ht0:=(blk_cell HBP.out.t 0).trans rfl
   have ht1:=(blk_cell HBP.out.t 1).trans rfl
   have ht2 : wr.cell? ⟨w.heap.size + 5,2,none⟩ = some (.slice Af fs.length cf):=(blk_cell HBP.out.t 2).trans rfl
   have hr0:=(blk_cell HBP.out.b0 0).trans rfl
   have hr1:=(blk_cell HBP.out.b0 1).trans rfl
   have hr2:=(blk_cell HBP.out.b0 2).trans rfl
   have hf0:=blk_frozen HBP.out.b0 0
   have hf1:=blk_frozen HBP.out.b0 1
   have hf2:=blk_frozen HBP.out.b0 2
   clear hfs htot
   go_wp2
   refine bodyPost_ret (results_cell_row rfl _ _ w.heap.size 26 #[.slice (some ⟨w.heap.size + 3,0,none⟩) 3 3,.slice (some ⟨w.heap.size + 4,0,none⟩) 3 3,.slice Af fs.length cf] (0,0) _ rfl (blk_put (blk_put (blk_put HB2.out.b0 0 _ rfl) 1 _ rfl) 2 _ rfl) hu26 rfl (by kernel_rfl)) rfl ⟨_,rfl,?_⟩
   rw [← HFs.out]
   exact ((HB2.out.toBOut.far 0 _).far 1 _).far 2 _
  | succ gk =>
   have c1 : decide (i < 2 + atN l 1 % 6) = true:=decide_eq_true (by omega)
   have HG:=Aside0.mk (And.intro hig (And.intro hlen htot))
   have hi6 : i ≤ 6:=by omega
   clear hig hlen htot hm HF
   obtain ⟨hn1,hn2,hn3⟩:=HAt.out (2 + i) (by omega) (by omega)
   have HN:=Aside0.mk hn1
   clear hn1
   generalize hn : atN l (2 + i) = n at *
   have HNe:=Aside0.mk hn
   clear hn
   go_wp2_with fail
   refine (pairingbase_At.calls _ _ l (2 + i) n _ (Kd.C_drewN HD.out _) HC.out HN.out).mono ?_
   rintro e_ w5 ⟨rfl,⟨nd2,rfl⟩⟩
   have HB2:=Aside0.mk (HBP.out.drawn (nd1 + nd2))
   clear HBP HD
   go_upto_if 37 with (fail)
   go_cut [4] (fun v4 wc=>v4 = .int .i64 (bAt n a) ∧ Aside0 (BPt w wc v fs))
   case first =>
    by_cases h6 : n % 7 = 6
    ·have e6:=Aside0.mk (show bAt n a = 0 from by unfold bAt;rw [if_pos h6])
     go_wp2
     go_meet
     case rel=>exact ⟨by rw [e6.out],HB2⟩
    ·have e6:=Aside0.mk (show bAt n a = a from by unfold bAt;rw [if_neg h6])
     go_wp2
     go_meet
     case rel=>exact ⟨by rw [e6.out],HB2⟩
   case rest =>
    clear HB2
    obtain ⟨rfl,HB2⟩:=hcut
    have ha : 0 ≤ bAt n a ∧ bAt n a ≤ 2:=by unfold bAt;split <;> omega
    have HBAT:=Aside0.mk (show bFs l (gk + 1) i a clock = bFlight i (atN l (2 + i)) (bAt (atN l (2 + i)) a) (bDep (atN l (2 + i)) clock) :: bFs l gk (i + 1) (bTo (atN l (2 + i)) (bAt (atN l (2 + i)) a)) (bClock (atN l (2 + i)) (bDep (atN l (2 + i)) clock)) from rfl)
    generalize hb : bAt n a = x4 at *
    have HBb:=Aside0.mk hb
    obtain ⟨hb0,hb2⟩:=ha
    clear hb
    go_upto_if 39 with (fail)
    go_cut [10] (fun v10 wc=>v10 = .int .i64 (bTo n x4) ∧ Aside0 (BPt w wc v fs))
    case first =>
     by_cases h6 : x4 = 0
     ·have e6:=Aside0.mk (show bTo n x4 = 1 + n / 8 % 2 from by unfold bTo;rw [if_pos h6])
      have c1 : (x4 == 0) = true:=beq_iff_eq.mpr h6
      go_wp2
      go_meet
      case rel=>exact ⟨by rw [e6.out],HB2⟩
     ·have c1 : (x4 == 0) = false:=beq_eq_false_iff_ne.mpr h6
      by_cases h7 : n % 11 = 10
      ·have e6:=Aside0.mk (show bTo n x4 = 3 - x4 from by unfold bTo;rw [if_neg h6,if_pos h7])
       go_wp2
       go_meet
       case rel=>exact ⟨by rw [e6.out],HB2⟩
      ·have e6:=Aside0.mk (show bTo n x4 = 0 from by unfold bTo;rw [if_neg h6,if_neg h7])
       go_wp2
       go_meet
       case rel=>exact ⟨by rw [e6.out],HB2⟩
    case rest =>
     clear HB2
     obtain ⟨rfl,HB2⟩:=hcut
     have ht : 0 ≤ bTo n x4 ∧ bTo n x4 ≤ 2:=by unfold bTo;repeat' split <;> omega
     generalize hb : bTo n x4 = x10 at *
     have HBt:=Aside0.mk hb
     obtain ⟨ht0,ht2⟩:=ht
     clear hb
     have hgap:=ar_cell (w:=wc) HB2.out.g 0 8 gapL (n / 16 % 8) rfl (fun i hi=>by match i,hi with|0,_=>rfl|1,_=>rfl|2,_=>rfl|3,_=>rfl|4,_=>rfl|5,_=>rfl|6,_=>rfl|7,_=>rfl) (by omega) (by omega)
     rw [Nat.zero_add] at hgap
     have hgr : 0 ≤ rd gapL (n / 16 % 8) ∧ rd gapL (n / 16 % 8) ≤ 780:=gap_range _ (by omega) (by omega)
     have q8 : (n / 16 % 8 < 8) = True:=eq_true (by omega)
     have p8 : (0 ≤ n / 16 % 8) = True:=eq_true (by omega)
     have HDep:=Aside0.mk (show bDep n clock = clock + rd gapL (n / 16 % 8) from rfl)
     generalize rd gapL (n / 16 % 8) = gv at *
     go_upto_region 17 with (fail)
     have hd0 : 0 ≤ clock + gv ∧ clock + gv ≤ 1441425 + 1000 * i + 780:=by omega
     rw [← HDep.out] at hd0
     obtain ⟨hd0,hd1⟩:=hd0
     rw [← HDep.out]
     generalize hdq : bDep n clock = dep at *
     have HDq:=Aside0.mk hdq
     clear hdq
     have P4:=Aside0.mk (show 0 ≤ x4 ∧ x4 < 3 from ⟨hb0,by omega⟩)
     have P10:=Aside0.mk (show 0 ≤ x10 ∧ x10 < 3 from ⟨ht0,by omega⟩)
     have PN:=Aside0.mk (show 0 ≤ n / 1024 % 3 ∧ n / 1024 % 3 < 3 from ⟨by omega,by omega⟩)
     have m1 : Int.tmod (n / 1024) 3 = n / 1024 % 3:=Int.tmod_eq_emod_of_nonneg (by omega)
     have m2 : Int.tmod (n / 128) 6 = n / 128 % 6:=Int.tmod_eq_emod_of_nonneg (by omega)
     have m3 : IntKind.i64.wrap (48 + i) = 48 + i:=IntWalk.i64_in _ (by omega)
     have m4 : IntKind.u8.wrap (48 + i) = 48 + i:=by rw [IntKind.wrap_u8];omega
     have m5 : IntKind.i64.wrap (dep + 60) = dep + 60:=IntWalk.i64_in _ (by omega)
     have m6 : IntKind.i64.wrap (15 * (n / 128 % 6)) = 15 * (n / 128 % 6):=IntWalk.i64_in _ (by omega)
     have m7 : IntKind.i64.wrap (dep + 60 + 15 * (n / 128 % 6)) = dep + 60 + 15 * (n / 128 % 6):=IntWalk.i64_in _ (by omega)
     have m8 : (0 ≤ n / 1024 % 3) = True:=eq_true PN.out.1
     have m9 : (n / 1024 % 3 < 3) = True:=eq_true PN.out.2
     go_cut [12] (fun v12 wc=>∃ g12 : Nat,v12 = .pointer (some ⟨g12,0,none⟩) ∧ Aside0 (w.heap.size + 8 ≤ g12 ∧ ∀ k,v.ownBlock = some k → k ≠ g12) ∧ Aside0 (wc.heap[g12]? = some (.cells #[.string ((⟨#[70]⟩ : ByteArray) ++ strOfNums [48 + i]),.string (codeF x4),.string (codeF x10),.int .i64 dep,.int .i64 (dep + 60 + 15 * (n / 128 % 6)),.string (typeF (n / 1024 % 3)),.int .i64 1,.int .i64 1,.int .i64 2] 36 (0,0))) ∧ Aside0 (BPt w wc v fs))
     case first =>
      clear hgap
      refine start_ (n:=32) (S:=fun w'=>True) (ds:=[]) #[false,false,false,false,false,false,false,false,false,false,false,false,false,false,false,false,false,false,false,false,false,false,false,false,false,false,false,false,false,false,false,false] (by kernel_rfl) rfl rfl trivial (fun hHeld=>?_)
      refine with_tabW base.tab17 base.bits17 (fun HT_ HW_=>?_)
      have HBP6:=Aside0.mk (HB2.out.below (below_drew (Below.refl _ _)))
      clear HB2
      generalize wc.drew = w7 at HBP6 hHeld ⊢
      have HBP7:=HBP6
      clear HBP6
      have HB:=Aside0.mk (Below.refl w7.heap.size w7)
      refine pure_ (i:=0) (N:=some 57) (v:=?_) (a':=?_) #[true,false,false,false,false,false,false,false,false,false,false,false,false,false,false,false,false,false,false,false,false,false,false,false,false,false,false,false,false,false,false,false] rfl rfl (any_of HT_.out (by kernel_rfl)) (fun _ _ _ h=>h) (Or.inl ⟨by rfl,?_⟩) ?_ ?_
      rotate_left
      ·intro w'
       go_simp
       with_reducible rfl
      rotate_left
      ·simp only [Act.put,List.setIfInBounds_toArray,List.set_cons_zero,List.set_cons_succ,i64_w,i32_w]
       rfl
      refine pure_ (i:=1) (N:=some 58) (v:=?_) (a':=?_) #[true,true,false,false,false,false,false,false,false,false,false,false,false,false,false,false,false,false,false,false,false,false,false,false,false,false,false,false,false,false,false,false] rfl rfl (any_of HT_.out (by kernel_rfl)) (fun _ _ _ h=>h) (Or.inl ⟨by rfl,?_⟩) ?_ ?_
      rotate_left
      ·intro w'
       go_simp
       with_reducible rfl
      rotate_left
      ·simp only [Act.put,List.setIfInBounds_toArray,List.set_cons_zero,List.set_cons_succ,i64_w,i32_w]
       rfl
      refine pure_ (i:=2) (N:=some 59) (v:=?_) (a':=?_) #[true,true,true,false,false,false,false,false,false,false,false,false,false,false,false,false,false,false,false,false,false,false,false,false,false,false,false,false,false,false,false,false] rfl rfl (any_of HT_.out (by kernel_rfl)) (fun _ _ _ h=>h) (Or.inl ⟨by rfl,?_⟩) ?_ ?_
      rotate_left
      ·intro w'
       go_simp
       with_reducible rfl
      rotate_left
      ·simp only [Act.put,List.setIfInBounds_toArray,List.set_cons_zero,List.set_cons_succ,i64_w,i32_w]
       rfl
      refine pure_ (i:=7) (N:=some 64) (v:=?_) (a':=?_) #[true,true,true,false,false,false,false,true,false,false,false,false,false,false,false,false,false,false,false,false,false,false,false,false,false,false,false,false,false,false,false,false] rfl rfl (any_of HT_.out (by kernel_rfl)) (fun _ _ _ h=>h) (Or.inl ⟨by rfl,?_⟩) ?_ ?_
      rotate_left
      ·intro w'
       go_simp
       with_reducible rfl
      rotate_left
      ·simp only [Act.put,List.setIfInBounds_toArray,List.set_cons_zero,List.set_cons_succ,i64_w,i32_w]
       rfl
      refine pure_ (i:=11) (N:=some 68) (v:=?_) (a':=?_) #[true,true,true,false,false,false,false,true,false,false,false,true,false,false,false,false,false,false,false,false,false,false,false,false,false,false,false,false,false,false,false,false] rfl rfl (any_of HT_.out (by kernel_rfl)) (fun _ _ _ h=>h) (Or.inl ⟨by rfl,?_⟩) ?_ ?_
      rotate_left
      ·intro w'
       go_simp
       with_reducible rfl
      rotate_left
      ·simp only [Act.put,List.setIfInBounds_toArray,List.set_cons_zero,List.set_cons_succ,i64_w,i32_w]
       rfl
      refine pure_ (i:=14) (N:=some 71) (v:=?_) (a':=?_) #[true,true,true,false,false,false,false,true,false,false,false,true,false,false,true,false,false,false,false,false,false,false,false,false,false,false,false,false,false,false,false,false] rfl rfl (any_of HT_.out (by kernel_rfl)) (fun _ _ _ h=>h) (Or.inl ⟨by rfl,?_⟩) ?_ ?_
      rotate_left
      ·intro w'
       go_simp
       with_reducible rfl
      rotate_left
      ·simp only [Act.put,List.setIfInBounds_toArray,List.set_cons_zero,List.set_cons_succ,i64_w,i32_w]
       rfl
      refine pure_ (i:=15) (N:=some 72) (v:=?_) (a':=?_) #[true,true,true,false,false,false,false,true,false,false,false,true,false,false,true,true,false,false,false,false,false,false,false,false,false,false,false,false,false,false,false,false] rfl rfl (any_of HT_.out (by kernel_rfl)) (fun _ _ _ h=>h) (Or.inl ⟨by rfl,?_⟩) ?_ ?_
      rotate_left
      ·intro w'
       go_simp
       with_reducible rfl
      rotate_left
      ·simp only [Act.put,List.setIfInBounds_toArray,List.set_cons_zero,List.set_cons_succ,i64_w,i32_w]
       rfl
      refine pure_ (i:=16) (N:=some 73) (v:=?_) (a':=?_) #[true,true,true,false,false,false,false,true,false,false,false,true,false,false,true,true,true,false,false,false,false,false,false,false,false,false,false,false,false,false,false,false] rfl rfl (any_of HT_.out (by kernel_rfl)) (fun _ _ _ h=>h) (Or.inl ⟨by rfl,?_⟩) ?_ ?_
      rotate_left
      ·intro w'
       go_simp
       with_reducible rfl
      rotate_left
      ·simp only [Act.put,List.setIfInBounds_toArray,List.set_cons_zero,List.set_cons_succ,i64_w,i32_w]
       rfl
      refine pure_ (i:=17) (N:=some 74) (v:=?_) (a':=?_) #[true,true,true,false,false,false,false,true,false,false,false,true,false,false,true,true,true,true,false,false,false,false,false,false,false,false,false,false,false,false,false,false] rfl rfl (any_of HT_.out (by kernel_rfl)) (fun _ _ _ h=>h) (Or.inl ⟨by rfl,?_⟩) ?_ ?_
      rotate_left
      ·intro w'
       go_simp
       with_reducible rfl
      rotate_left
      ·simp only [Act.put,List.setIfInBounds_toArray,List.set_cons_zero,List.set_cons_succ,i64_w,i32_w]
       rfl
      refine pure_ (i:=18) (N:=some 75) (v:=?_) (a':=?_) #[true,true,true,false,false,false,false,true,false,false,false,true,false,false,true,true,true,true,true,false,false,false,false,false,false,false,false,false,false,false,false,false] rfl rfl (any_of HT_.out (by kernel_rfl)) (fun _ _ _ h=>h) (Or.inl ⟨by rfl,?_⟩) ?_ ?_
      rotate_left
      ·intro w'
       go_simp
       with_reducible rfl
      rotate_left
      ·simp only [Act.put,List.setIfInBounds_toArray,List.set_cons_zero,List.set_cons_succ,i64_w,i32_w]
       rfl
      refine pure_ (i:=19) (N:=some 76) (v:=?_) (a':=?_) #[true,true,true,false,false,false,false,true,false,false,false,true,false,false,true,true,true,true,true,true,false,false,false,false,false,false,false,false,false,false,false,false] rfl rfl (any_of HT_.out (by kernel_rfl)) (fun _ _ _ h=>h) (Or.inl ⟨by rfl,?_⟩) ?_ ?_
      rotate_left
      ·intro w'
       go_simp
       with_reducible rfl
      rotate_left
      ·simp only [Act.put,List.setIfInBounds_toArray,List.set_cons_zero,List.set_cons_succ,i64_w,i32_w]
       rfl
      refine pure_ (i:=20) (N:=some 77) (v:=?_) (a':=?_) #[true,true,true,false,false,false,false,true,false,false,false,true,false,false,true,true,true,true,true,true,true,false,false,false,false,false,false,false,false,false,false,false] rfl rfl (any_of HT_.out (by kernel_rfl)) (fun _ _ _ h=>h) (Or.inl ⟨by rfl,?_⟩) ?_ ?_
      rotate_left
      ·intro w'
       go_simp
       with_reducible rfl
      rotate_left
      ·simp only [Act.put,List.setIfInBounds_toArray,List.set_cons_zero,List.set_cons_succ,i64_w,i32_w]
       rfl
      refine pure_ (i:=21) (N:=some 78) (v:=?_) (a':=?_) #[true,true,true,false,false,false,false,true,false,false,false,true,false,false,true,true,true,true,true,true,true,true,false,false,false,false,false,false,false,false,false,false] rfl rfl (any_of HT_.out (by kernel_rfl)) (fun _ _ _ h=>h) (Or.inl ⟨by rfl,?_⟩) ?_ ?_
      rotate_left
      ·intro w'
       go_simp
       with_reducible rfl
      rotate_left
      ·simp only [Act.put,List.setIfInBounds_toArray,List.set_cons_zero,List.set_cons_succ,i64_w,i32_w]
       rfl
      refine pure_ (i:=22) (N:=some 79) (v:=?_) (a':=?_) #[true,true,true,false,false,false,false,true,false,false,false,true,false,false,true,true,true,true,true,true,true,true,true,false,false,false,false,false,false,false,false,false] rfl rfl (any_of HT_.out (by kernel_rfl)) (fun _ _ _ h=>h) (Or.inl ⟨by rfl,?_⟩) ?_ ?_
      rotate_left
      ·intro w'
       go_simp
       with_reducible rfl
      rotate_left
      ·simp only [Act.put,List.setIfInBounds_toArray,List.set_cons_zero,List.set_cons_succ,i64_w,i32_w]
       rfl
      refine pure_ (i:=23) (N:=some 80) (v:=?_) (a':=?_) #[true,true,true,false,false,false,false,true,false,false,false,true,false,false,true,true,true,true,true,true,true,true,true,true,false,false,false,false,false,false,false,false] rfl rfl (any_of HT_.out (by kernel_rfl)) (fun _ _ _ h=>h) (Or.inl ⟨by rfl,?_⟩) ?_ ?_
      rotate_left
      ·intro w'
       go_simp
       with_reducible rfl
      rotate_left
      ·simp only [Act.put,List.setIfInBounds_toArray,List.set_cons_zero,List.set_cons_succ,i64_w,i32_w]
       rfl
      refine pure_ (i:=24) (N:=some 81) (v:=?_) (a':=?_) #[true,true,true,false,false,false,false,true,false,false,false,true,false,false,true,true,true,true,true,true,true,true,true,true,true,false,false,false,false,false,false,false] rfl rfl (any_of HT_.out (by kernel_rfl)) (fun _ _ _ h=>h) (Or.inl ⟨by rfl,?_⟩) ?_ ?_
      rotate_left
      ·intro w'
       go_simp
       with_reducible rfl
      rotate_left
      ·simp only [Act.put,List.setIfInBounds_toArray,List.set_cons_zero,List.set_cons_succ,i64_w,i32_w]
       rfl
      refine pure_ (i:=25) (N:=some 82) (v:=?_) (a':=?_) #[true,true,true,false,false,false,false,true,false,false,false,true,false,false,true,true,true,true,true,true,true,true,true,true,true,true,false,false,false,false,false,false] rfl rfl (any_of HT_.out (by kernel_rfl)) (fun _ _ _ h=>h) (Or.inl ⟨by rfl,?_⟩) ?_ ?_
      rotate_left
      ·intro w'
       go_simp
       with_reducible rfl
      rotate_left
      ·simp only [Act.put,List.setIfInBounds_toArray,List.set_cons_zero,List.set_cons_succ,i64_w,i32_w]
       rfl
      refine pure_ (i:=26) (N:=some 83) (v:=?_) (a':=?_) #[true,true,true,false,false,false,false,true,false,false,false,true,false,false,true,true,true,true,true,true,true,true,true,true,true,true,true,false,false,false,false,false] rfl rfl (any_of HT_.out (by kernel_rfl)) (fun _ _ _ h=>h) (Or.inl ⟨by rfl,?_⟩) ?_ ?_
      rotate_left
      ·intro w'
       go_simp
       with_reducible rfl
      rotate_left
      ·simp only [Act.put,List.setIfInBounds_toArray,List.set_cons_zero,List.set_cons_succ,i64_w,i32_w]
       rfl
      refine pure_ (i:=28) (N:=some 85) (v:=?_) (a':=?_) #[true,true,true,false,false,false,false,true,false,false,false,true,false,false,true,true,true,true,true,true,true,true,true,true,true,true,true,false,true,false,false,false] rfl rfl (any_of HT_.out (by kernel_rfl)) (fun _ _ _ h=>h) (Or.inl ⟨by rfl,?_⟩) ?_ ?_
      rotate_left
      ·intro w'
       go_simp
       with_reducible rfl
      rotate_left
      ·simp only [Act.put,List.setIfInBounds_toArray,List.set_cons_zero,List.set_cons_succ,i64_w,i32_w]
       rfl
      refine inv_at [3,4,5,6,8,9,10,12,13,27,29,30,31] (fun a0_ b a w'=>∃ (g60 : Nat) (g63 : Nat) (g67 : Nat) (g12 : Nat) (m3_ : Value) (m6_ : Value) (m8_ : Value) (m10_ : Value) (m12_ : Value) (m30_ : Value),a = putSel a0_ b [(3,60,m3_),(4,61,.string (strOfNums [48 + i])),(5,62,.string ((⟨#[70]⟩ : ByteArray) ++ strOfNums [48 + i])),(6,63,m6_),(8,65,m8_),(9,66,.string (codeF x4)),(10,67,m10_),(12,69,m12_),(13,70,.string (codeF x10)),(27,84,.string (typeF (n / 1024 % 3))),(29,86,.agg #[.string ((⟨#[70]⟩ : ByteArray) ++ strOfNums [48 + i]),.string (codeF x4),.string (codeF x10),.int .i64 dep,.int .i64 (dep + 60 + 15 * (n / 128 % 6)),.string (typeF (n / 1024 % 3)),.int .i64 1,.int .i64 1,.int .i64 2]),(30,12,m30_)] ∧ (Below w7.heap.size w7 w') ∧ (b 3 = true → b 31 = false → w'.heap[g60]? = some (.cells #[.int .u8 (48 + i)] 5 (0,0))) ∧ (b 6 = true → b 31 = false → w'.heap[g63]? = some oC) ∧ (b 10 = true → b 31 = false → w'.heap[g67]? = some oC) ∧ (b 30 = true → b 31 = false → w'.heap[g12]? = some (.cells #[.string ⟨#[]⟩,.string ⟨#[]⟩,.string ⟨#[]⟩,.int .i64 0,.int .i64 0,.string ⟨#[]⟩,.int .i64 0,.int .i64 0,.int .i64 0] 36 (0,0))) ∧ (b 30 = true → w7.heap.size ≤ g12) ∧ (b 31 = true → w'.heap[g12]? = some (.cells #[.string ((⟨#[70]⟩ : ByteArray) ++ strOfNums [48 + i]),.string (codeF x4),.string (codeF x10),.int .i64 dep,.int .i64 (dep + 60 + 15 * (n / 128 % 6)),.string (typeF (n / 1024 % 3)),.int .i64 1,.int .i64 1,.int .i64 2] 36 (0,0))) ∧ (b 3 = true → (m3_ : Value) = .slice (some ⟨g60,0,none⟩) 1 1) ∧ (b 6 = true → (m6_ : Value) = .slice (some ⟨g63,0,none⟩) 3 3) ∧ (b 8 = true → (m8_ : Value) = .pointer (some ⟨g63,x4.toNat,none⟩)) ∧ (b 10 = true → (m10_ : Value) = .slice (some ⟨g67,0,none⟩) 3 3) ∧ (b 12 = true → (m12_ : Value) = .pointer (some ⟨g67,x10.toNat,none⟩)) ∧ (b 30 = true → (m30_ : Value) = .pointer (some ⟨g12,0,none⟩))) HT_.out HW_.out (by kernel_rfl) (by kernel_rfl) ?_ ?_ ?_
      ·exact ⟨0,0,0,0,.bool false,.bool false,.bool false,.bool false,.bool false,.bool false,by simp only [putSel,Bool.false_eq_true,if_false],HB.out,fun h_=>absurd h_ (by decide),fun h_=>absurd h_ (by decide),fun h_=>absurd h_ (by decide),fun h_=>absurd h_ (by decide),fun h_=>absurd h_ (by decide),fun h_=>absurd h_ (by decide),fun h_=>absurd h_ (by decide),fun h_=>absurd h_ (by decide),fun h_=>absurd h_ (by decide),fun h_=>absurd h_ (by decide),fun h_=>absurd h_ (by decide),fun h_=>absurd h_ (by decide)⟩
      ·skip
       clear HB
       refine steps_cons ?_ ?_
       ·rintro b a w' ⟨g60,g63,g67,g12,m3_,m6_,m8_,m10_,m12_,m30_,ha,Q_HB,Q_F60,Q_F63,Q_F67,Q_F12,Q_G12,Q_F12b,Q_X3_,Q_X6_,Q_X8_,Q_X10_,Q_X12_,Q_X30_⟩ hb_ hon hoff
        refine ⟨_,rfl,fun K hK=>?_⟩
        have e59 : a.tmps[59]? = some (.int .u8 (48 + i)):=by rw [ha];exact (putSel_off rfl).trans rfl
        replace ha:=Aside0.mk ha
        have HB:=Aside0.mk Q_HB
        refine value_ (w1:=w'.alloc (.cells #[.int .u8 (48 + i)] 5 (0,0))) (v:=.slice (some ⟨w'.heap.size,0,none⟩) 1 1) (by rfl) rfl ?_ ?_
        ·go_simp
         try rfl
        refine hK.out _ _ ⟨w'.heap.size,g63,g67,g12,(.slice (some ⟨w'.heap.size,0,none⟩) 1 1),m6_,m8_,m10_,m12_,m30_,(by rw [ha.out];exact putSel_upk 0 hb_ rfl rfl rfl),below_alloc HB.out _,fun _ _=>heap_alloc_new _ _,fun h0_ h1_=>blk_alloc (Q_F63 h0_ h1_) _,fun h0_ h1_=>blk_alloc (Q_F67 h0_ h1_) _,fun h0_ h1_=>blk_alloc (Q_F12 h0_ h1_) _,Q_G12,fun h0_=>absurd ((hoff 31 (by kernel_rfl)).symm.trans h0_) (by decide),fun _=>rfl,Q_X6_,Q_X8_,Q_X10_,Q_X12_,Q_X30_⟩
       refine steps_cons ?_ ?_
       ·rintro b a w' ⟨g60,g63,g67,g12,m3_,m6_,m8_,m10_,m12_,m30_,ha,Q_HB,Q_F60,Q_F63,Q_F67,Q_F12,Q_G12,Q_F12b,Q_X3_,Q_X6_,Q_X8_,Q_X10_,Q_X12_,Q_X30_⟩ hb_ hon hoff
        refine ⟨_,rfl,fun K hK=>?_⟩
        have e60 : a.tmps[60]? = some (m3_):=by rw [ha];exact putSel_on (e:=(3,60,m3_)) 0 rfl rfl (hon 3 (by kernel_rfl)) rfl
        rw [Q_X3_ (hon 3 (by kernel_rfl))] at e60
        replace ha:=Aside0.mk ha
        have HB:=Aside0.mk Q_HB
        have F60:=Aside0.mk (Q_F60 (hon 3 (by kernel_rfl)) (hoff 31 (by kernel_rfl)))
        have hcv:=string_of_blk F60.out
        refine value_ (w1:=w') (v:=.string (strOfNums [48 + i])) (by rfl) rfl ?_ ?_
        ·go_simp
         (try simp only [i64_w])
         try rfl
        refine hK.out _ _ ⟨g60,g63,g67,g12,m3_,m6_,m8_,m10_,m12_,m30_,(by rw [ha.out];exact putSel_upk 1 hb_ rfl rfl rfl),Q_HB,Q_F60,Q_F63,Q_F67,Q_F12,Q_G12,fun h0_=>absurd ((hoff 31 (by kernel_rfl)).symm.trans h0_) (by decide),Q_X3_,Q_X6_,Q_X8_,Q_X10_,Q_X12_,Q_X30_⟩
       refine steps_cons ?_ ?_
       ·rintro b a w' ⟨g60,g63,g67,g12,m3_,m6_,m8_,m10_,m12_,m30_,ha,Q_HB,Q_F60,Q_F63,Q_F67,Q_F12,Q_G12,Q_F12b,Q_X3_,Q_X6_,Q_X8_,Q_X10_,Q_X12_,Q_X30_⟩ hb_ hon hoff
        refine ⟨_,rfl,fun K hK=>?_⟩
        have e61 : a.tmps[61]? = some (.string (strOfNums [48 + i])):=by rw [ha];exact putSel_on (e:=(4,61,.string (strOfNums [48 + i]))) 1 rfl rfl (hon 4 (by kernel_rfl)) rfl
        replace ha:=Aside0.mk ha
        have HB:=Aside0.mk Q_HB
        have F60:=Aside0.mk (Q_F60 (hon 3 (by kernel_rfl)) (hoff 31 (by kernel_rfl)))
        have hsz_ : 1 + (strOfNums [48 + i]).size ≤ 9223372036854775807:=by rw [str_one];decide
        refine value_ (w1:=w') (v:=.string ((⟨#[70]⟩ : ByteArray) ++ strOfNums [48 + i])) (by rfl) rfl ?_ ?_
        ·go_simp
         (try simp only [i64_w])
         try rfl
        refine hK.out _ _ ⟨g60,g63,g67,g12,m3_,m6_,m8_,m10_,m12_,m30_,(by rw [ha.out];exact putSel_upk 2 hb_ rfl rfl rfl),Q_HB,Q_F60,Q_F63,Q_F67,Q_F12,Q_G12,fun h0_=>absurd ((hoff 31 (by kernel_rfl)).symm.trans h0_) (by decide),Q_X3_,Q_X6_,Q_X8_,Q_X10_,Q_X12_,Q_X30_⟩
       refine steps_cons ?_ ?_
       ·rintro b a w' ⟨g60,g63,g67,g12,m3_,m6_,m8_,m10_,m12_,m30_,ha,Q_HB,Q_F60,Q_F63,Q_F67,Q_F12,Q_G12,Q_F12b,Q_X3_,Q_X6_,Q_X8_,Q_X10_,Q_X12_,Q_X30_⟩ hb_ hon hoff
        refine ⟨_,rfl,fun K hK=>?_⟩
        replace ha:=Aside0.mk ha
        have HB:=Aside0.mk Q_HB
        refine goes_ Try.func39 (by kernel_rfl) rfl #[] (by rfl) rfl rfl (by first|(simp only [List.map_toArray,List.map_cons,List.map_nil,Act.eval,Array.getD_eq_getD_getElem?,Option.getD_some];done)|(simp only [List.map_toArray,List.map_cons,List.map_nil,Act.eval,Array.getD_eq_getD_getElem?,Option.getD_some];rfl)) ?_
        with_reducible refine (codes_calls _).mono ?_
        rintro e w2_ ⟨rfl,rfl⟩
        refine ⟨_,rfl,?_⟩
        refine hK.out _ _ ⟨g60,w'.heap.size,g67,g12,m3_,(.slice (some ⟨w'.heap.size,0,none⟩) 3 3),m8_,m10_,m12_,m30_,(by rw [ha.out];exact putSel_upk 3 hb_ rfl rfl rfl),below_alloc HB.out _,fun h0_ h1_=>blk_alloc (Q_F60 h0_ h1_) _,fun _ _=>heap_alloc_new _ _,fun h0_ _=>absurd ((hoff 10 (by kernel_rfl)).symm.trans h0_) (by decide),fun h0_ h1_=>blk_alloc (Q_F12 h0_ h1_) _,Q_G12,fun h0_=>absurd ((hoff 31 (by kernel_rfl)).symm.trans h0_) (by decide),Q_X3_,fun _=>rfl,fun h0_=>absurd ((hoff 8 (by kernel_rfl)).symm.trans h0_) (by decide),fun h0_=>absurd ((hoff 10 (by kernel_rfl)).symm.trans h0_) (by decide),fun h0_=>absurd ((hoff 12 (by kernel_rfl)).symm.trans h0_) (by decide),Q_X30_⟩
       refine steps_cons ?_ ?_
       ·rintro b a w' ⟨g60,g63,g67,g12,m3_,m6_,m8_,m10_,m12_,m30_,ha,Q_HB,Q_F60,Q_F63,Q_F67,Q_F12,Q_G12,Q_F12b,Q_X3_,Q_X6_,Q_X8_,Q_X10_,Q_X12_,Q_X30_⟩ hb_ hon hoff
        refine ⟨_,rfl,fun K hK=>?_⟩
        have e63 : a.tmps[63]? = some (m6_):=by rw [ha];exact putSel_on (e:=(6,63,m6_)) 3 rfl rfl (hon 6 (by kernel_rfl)) rfl
        rw [Q_X6_ (hon 6 (by kernel_rfl))] at e63
        have e64 : a.tmps[64]? = some (.int .i64 x4):=by rw [ha];exact (putSel_off rfl).trans rfl
        replace ha:=Aside0.mk ha
        have HB:=Aside0.mk Q_HB
        have F63:=Aside0.mk (Q_F63 (hon 6 (by kernel_rfl)) (hoff 31 (by kernel_rfl)))
        have p4_:=eq_true P4.out.1
        have q4_:=eq_true (show x4 < 3 from P4.out.2)
        refine value_ (w1:=w') (v:=.pointer (some ⟨g63,x4.toNat,none⟩)) (by rfl) rfl ?_ ?_
        ·go_simp
         (try simp only [i64_w])
         try rfl
        refine hK.out _ _ ⟨g60,g63,g67,g12,m3_,m6_,(.pointer (some ⟨g63,x4.toNat,none⟩)),m10_,m12_,m30_,(by rw [ha.out];exact putSel_upk 4 hb_ rfl rfl rfl),Q_HB,Q_F60,Q_F63,Q_F67,Q_F12,Q_G12,fun h0_=>absurd ((hoff 31 (by kernel_rfl)).symm.trans h0_) (by decide),Q_X3_,Q_X6_,fun _=>rfl,Q_X10_,Q_X12_,Q_X30_⟩
       refine steps_cons ?_ ?_
       ·rintro b a w' ⟨g60,g63,g67,g12,m3_,m6_,m8_,m10_,m12_,m30_,ha,Q_HB,Q_F60,Q_F63,Q_F67,Q_F12,Q_G12,Q_F12b,Q_X3_,Q_X6_,Q_X8_,Q_X10_,Q_X12_,Q_X30_⟩ hb_ hon hoff
        refine ⟨_,rfl,fun K hK=>?_⟩
        have e65 : a.tmps[65]? = some (m8_):=by rw [ha];exact putSel_on (e:=(8,65,m8_)) 4 rfl rfl (hon 8 (by kernel_rfl)) rfl
        rw [Q_X8_ (hon 8 (by kernel_rfl))] at e65
        replace ha:=Aside0.mk ha
        have HB:=Aside0.mk Q_HB
        have F63:=Aside0.mk (Q_F63 (hon 6 (by kernel_rfl)) (hoff 31 (by kernel_rfl)))
        have hcv:=code_cell F63.out x4 P4.out.1 P4.out.2
        refine value_ (w1:=w') (v:=.string (codeF x4)) (by rfl) rfl ?_ ?_
        ·go_simp
         (try simp only [i64_w])
         try rfl
        refine hK.out _ _ ⟨g60,g63,g67,g12,m3_,m6_,m8_,m10_,m12_,m30_,(by rw [ha.out];exact putSel_upk 5 hb_ rfl rfl rfl),Q_HB,Q_F60,Q_F63,Q_F67,Q_F12,Q_G12,fun h0_=>absurd ((hoff 31 (by kernel_rfl)).symm.trans h0_) (by decide),Q_X3_,Q_X6_,Q_X8_,Q_X10_,Q_X12_,Q_X30_⟩
       refine steps_cons ?_ ?_
       ·rintro b a w' ⟨g60,g63,g67,g12,m3_,m6_,m8_,m10_,m12_,m30_,ha,Q_HB,Q_F60,Q_F63,Q_F67,Q_F12,Q_G12,Q_F12b,Q_X3_,Q_X6_,Q_X8_,Q_X10_,Q_X12_,Q_X30_⟩ hb_ hon hoff
        refine ⟨_,rfl,fun K hK=>?_⟩
        replace ha:=Aside0.mk ha
        have HB:=Aside0.mk Q_HB
        have F63:=Aside0.mk (Q_F63 (hon 6 (by kernel_rfl)) (hoff 31 (by kernel_rfl)))
        refine goes_ Try.func39 (by kernel_rfl) rfl #[] (by rfl) rfl rfl (by first|(simp only [List.map_toArray,List.map_cons,List.map_nil,Act.eval,Array.getD_eq_getD_getElem?,Option.getD_some];done)|(simp only [List.map_toArray,List.map_cons,List.map_nil,Act.eval,Array.getD_eq_getD_getElem?,Option.getD_some];rfl)) ?_
        with_reducible refine (codes_calls _).mono ?_
        rintro e w2_ ⟨rfl,rfl⟩
        refine ⟨_,rfl,?_⟩
        refine hK.out _ _ ⟨g60,g63,w'.heap.size,g12,m3_,m6_,m8_,(.slice (some ⟨w'.heap.size,0,none⟩) 3 3),m12_,m30_,(by rw [ha.out];exact putSel_upk 6 hb_ rfl rfl rfl),below_alloc HB.out _,fun h0_ h1_=>blk_alloc (Q_F60 h0_ h1_) _,fun _ _=>blk_alloc F63.out _,fun _ _=>heap_alloc_new _ _,fun h0_ h1_=>blk_alloc (Q_F12 h0_ h1_) _,Q_G12,fun h0_=>absurd ((hoff 31 (by kernel_rfl)).symm.trans h0_) (by decide),Q_X3_,Q_X6_,Q_X8_,fun _=>rfl,fun h0_=>absurd ((hoff 12 (by kernel_rfl)).symm.trans h0_) (by decide),Q_X30_⟩
       refine steps_cons ?_ ?_
       ·rintro b a w' ⟨g60,g63,g67,g12,m3_,m6_,m8_,m10_,m12_,m30_,ha,Q_HB,Q_F60,Q_F63,Q_F67,Q_F12,Q_G12,Q_F12b,Q_X3_,Q_X6_,Q_X8_,Q_X10_,Q_X12_,Q_X30_⟩ hb_ hon hoff
        refine ⟨_,rfl,fun K hK=>?_⟩
        have e67 : a.tmps[67]? = some (m10_):=by rw [ha];exact putSel_on (e:=(10,67,m10_)) 6 rfl rfl (hon 10 (by kernel_rfl)) rfl
        rw [Q_X10_ (hon 10 (by kernel_rfl))] at e67
        have e68 : a.tmps[68]? = some (.int .i64 x10):=by rw [ha];exact (putSel_off rfl).trans rfl
        replace ha:=Aside0.mk ha
        have HB:=Aside0.mk Q_HB
        have F63:=Aside0.mk (Q_F63 (hon 6 (by kernel_rfl)) (hoff 31 (by kernel_rfl)))
        have F67:=Aside0.mk (Q_F67 (hon 10 (by kernel_rfl)) (hoff 31 (by kernel_rfl)))
        have p4_:=eq_true P10.out.1
        have q4_:=eq_true (show x10 < 3 from P10.out.2)
        refine value_ (w1:=w') (v:=.pointer (some ⟨g67,x10.toNat,none⟩)) (by rfl) rfl ?_ ?_
        ·go_simp
         (try simp only [i64_w])
         try rfl
        refine hK.out _ _ ⟨g60,g63,g67,g12,m3_,m6_,m8_,m10_,(.pointer (some ⟨g67,x10.toNat,none⟩)),m30_,(by rw [ha.out];exact putSel_upk 7 hb_ rfl rfl rfl),Q_HB,Q_F60,Q_F63,Q_F67,Q_F12,Q_G12,fun h0_=>absurd ((hoff 31 (by kernel_rfl)).symm.trans h0_) (by decide),Q_X3_,Q_X6_,Q_X8_,Q_X10_,fun _=>rfl,Q_X30_⟩
       refine steps_cons ?_ ?_
       ·rintro b a w' ⟨g60,g63,g67,g12,m3_,m6_,m8_,m10_,m12_,m30_,ha,Q_HB,Q_F60,Q_F63,Q_F67,Q_F12,Q_G12,Q_F12b,Q_X3_,Q_X6_,Q_X8_,Q_X10_,Q_X12_,Q_X30_⟩ hb_ hon hoff
        refine ⟨_,rfl,fun K hK=>?_⟩
        have e69 : a.tmps[69]? = some (m12_):=by rw [ha];exact putSel_on (e:=(12,69,m12_)) 7 rfl rfl (hon 12 (by kernel_rfl)) rfl
        rw [Q_X12_ (hon 12 (by kernel_rfl))] at e69
        replace ha:=Aside0.mk ha
        have HB:=Aside0.mk Q_HB
        have F63:=Aside0.mk (Q_F63 (hon 6 (by kernel_rfl)) (hoff 31 (by kernel_rfl)))
        have F67:=Aside0.mk (Q_F67 (hon 10 (by kernel_rfl)) (hoff 31 (by kernel_rfl)))
        have hcv:=code_cell F67.out x10 P10.out.1 P10.out.2
        refine value_ (w1:=w') (v:=.string (codeF x10)) (by rfl) rfl ?_ ?_
        ·go_simp
         (try simp only [i64_w])
         try rfl
        refine hK.out _ _ ⟨g60,g63,g67,g12,m3_,m6_,m8_,m10_,m12_,m30_,(by rw [ha.out];exact putSel_upk 8 hb_ rfl rfl rfl),Q_HB,Q_F60,Q_F63,Q_F67,Q_F12,Q_G12,fun h0_=>absurd ((hoff 31 (by kernel_rfl)).symm.trans h0_) (by decide),Q_X3_,Q_X6_,Q_X8_,Q_X10_,Q_X12_,Q_X30_⟩
       refine steps_cons ?_ ?_
       ·rintro b a w' ⟨g60,g63,g67,g12,m3_,m6_,m8_,m10_,m12_,m30_,ha,Q_HB,Q_F60,Q_F63,Q_F67,Q_F12,Q_G12,Q_F12b,Q_X3_,Q_X6_,Q_X8_,Q_X10_,Q_X12_,Q_X30_⟩ hb_ hon hoff
        refine ⟨_,rfl,fun K hK=>?_⟩
        have e83 : a.tmps[83]? = some (.pointer (some ⟨w.heap.size + 7,(n / 1024 % 3).toNat,none⟩)):=by rw [ha];exact (putSel_off rfl).trans rfl
        replace ha:=Aside0.mk ha
        have HB:=Aside0.mk Q_HB
        have hcv:=type_cell (HBP7.out.below HB.out).y (n / 1024 % 3) PN.out.1 PN.out.2
        refine value_ (w1:=w') (v:=.string (typeF (n / 1024 % 3))) (by rfl) rfl ?_ ?_
        ·go_simp
         (try simp only [i64_w])
         try rfl
        refine hK.out _ _ ⟨g60,g63,g67,g12,m3_,m6_,m8_,m10_,m12_,m30_,(by rw [ha.out];exact putSel_upk 9 hb_ rfl rfl rfl),Q_HB,Q_F60,Q_F63,Q_F67,Q_F12,Q_G12,fun h0_=>absurd ((hoff 31 (by kernel_rfl)).symm.trans h0_) (by decide),Q_X3_,Q_X6_,Q_X8_,Q_X10_,Q_X12_,Q_X30_⟩
       refine steps_cons ?_ ?_
       ·rintro b a w' ⟨g60,g63,g67,g12,m3_,m6_,m8_,m10_,m12_,m30_,ha,Q_HB,Q_F60,Q_F63,Q_F67,Q_F12,Q_G12,Q_F12b,Q_X3_,Q_X6_,Q_X8_,Q_X10_,Q_X12_,Q_X30_⟩ hb_ hon hoff
        refine ⟨_,rfl,fun K hK=>?_⟩
        have e62 : a.tmps[62]? = some (.string ((⟨#[70]⟩ : ByteArray) ++ strOfNums [48 + i])):=by rw [ha];exact putSel_on (e:=(5,62,.string ((⟨#[70]⟩ : ByteArray) ++ strOfNums [48 + i]))) 2 rfl rfl (hon 5 (by kernel_rfl)) rfl
        have e66 : a.tmps[66]? = some (.string (codeF x4)):=by rw [ha];exact putSel_on (e:=(9,66,.string (codeF x4))) 5 rfl rfl (hon 9 (by kernel_rfl)) rfl
        have e70 : a.tmps[70]? = some (.string (codeF x10)):=by rw [ha];exact putSel_on (e:=(13,70,.string (codeF x10))) 8 rfl rfl (hon 13 (by kernel_rfl)) rfl
        have e71 : a.tmps[71]? = some (.int .i64 dep):=by rw [ha];exact (putSel_off rfl).trans rfl
        have e78 : a.tmps[78]? = some (.int .i64 (dep + 60 + 15 * (n / 128 % 6))):=by rw [ha];exact (putSel_off rfl).trans rfl
        have e84 : a.tmps[84]? = some (.string (typeF (n / 1024 % 3))):=by rw [ha];exact putSel_on (e:=(27,84,.string (typeF (n / 1024 % 3)))) 9 rfl rfl (hon 27 (by kernel_rfl)) rfl
        have e85 : a.tmps[85]? = some (.agg #[.int .i64 1,.int .i64 1,.int .i64 2]):=by rw [ha];exact (putSel_off rfl).trans rfl
        replace ha:=Aside0.mk ha
        have HB:=Aside0.mk Q_HB
        have F60:=Aside0.mk (Q_F60 (hon 3 (by kernel_rfl)) (hoff 31 (by kernel_rfl)))
        have F63:=Aside0.mk (Q_F63 (hon 6 (by kernel_rfl)) (hoff 31 (by kernel_rfl)))
        have F67:=Aside0.mk (Q_F67 (hon 10 (by kernel_rfl)) (hoff 31 (by kernel_rfl)))
        refine value_ (w1:=w') (v:=.agg #[.string ((⟨#[70]⟩ : ByteArray) ++ strOfNums [48 + i]),.string (codeF x4),.string (codeF x10),.int .i64 dep,.int .i64 (dep + 60 + 15 * (n / 128 % 6)),.string (typeF (n / 1024 % 3)),.int .i64 1,.int .i64 1,.int .i64 2]) (by rfl) rfl ?_ ?_
        ·go_simp
         (try simp only [i64_w])
         try rfl
        refine hK.out _ _ ⟨g60,g63,g67,g12,m3_,m6_,m8_,m10_,m12_,m30_,(by rw [ha.out];exact putSel_upk 10 hb_ rfl rfl rfl),Q_HB,Q_F60,Q_F63,Q_F67,Q_F12,Q_G12,fun h0_=>absurd ((hoff 31 (by kernel_rfl)).symm.trans h0_) (by decide),Q_X3_,Q_X6_,Q_X8_,Q_X10_,Q_X12_,Q_X30_⟩
       refine steps_cons ?_ ?_
       ·rintro b a w' ⟨g60,g63,g67,g12,m3_,m6_,m8_,m10_,m12_,m30_,ha,Q_HB,Q_F60,Q_F63,Q_F67,Q_F12,Q_G12,Q_F12b,Q_X3_,Q_X6_,Q_X8_,Q_X10_,Q_X12_,Q_X30_⟩ hb_ hon hoff
        refine ⟨_,rfl,fun K hK=>?_⟩
        replace ha:=Aside0.mk ha
        have HB:=Aside0.mk Q_HB
        refine value_ (w1:=w'.alloc (.cells #[.string ⟨#[]⟩,.string ⟨#[]⟩,.string ⟨#[]⟩,.int .i64 0,.int .i64 0,.string ⟨#[]⟩,.int .i64 0,.int .i64 0,.int .i64 0] 36 (0,0))) (v:=.pointer (some ⟨w'.heap.size,0,none⟩)) (by rfl) rfl ?_ ?_
        ·go_simp
         try rfl
        refine hK.out _ _ ⟨g60,g63,g67,w'.heap.size,m3_,m6_,m8_,m10_,m12_,(.pointer (some ⟨w'.heap.size,0,none⟩)),(by rw [ha.out];exact putSel_upk 11 hb_ rfl rfl rfl),below_alloc HB.out _,fun h0_ h1_=>blk_alloc (Q_F60 h0_ h1_) _,fun h0_ h1_=>blk_alloc (Q_F63 h0_ h1_) _,fun h0_ h1_=>blk_alloc (Q_F67 h0_ h1_) _,fun _ _=>heap_alloc_new _ _,fun _=>HB.out.size,fun h0_=>absurd ((hoff 31 (by kernel_rfl)).symm.trans h0_) (by decide),Q_X3_,Q_X6_,Q_X8_,Q_X10_,Q_X12_,fun _=>rfl⟩
       refine steps_cons ?_ ?_
       ·rintro b a w' ⟨g60,g63,g67,g12,m3_,m6_,m8_,m10_,m12_,m30_,ha,Q_HB,Q_F60,Q_F63,Q_F67,Q_F12,Q_G12,Q_F12b,Q_X3_,Q_X6_,Q_X8_,Q_X10_,Q_X12_,Q_X30_⟩ hb_ hon hoff
        refine ⟨_,rfl,fun K hK=>?_⟩
        have e12 : a.tmps[12]? = some (m30_):=by rw [ha];exact putSel_on (e:=(30,12,m30_)) 11 rfl rfl (hon 30 (by kernel_rfl)) rfl
        rw [Q_X30_ (hon 30 (by kernel_rfl))] at e12
        have e86 : a.tmps[86]? = some (.agg #[.string ((⟨#[70]⟩ : ByteArray) ++ strOfNums [48 + i]),.string (codeF x4),.string (codeF x10),.int .i64 dep,.int .i64 (dep + 60 + 15 * (n / 128 % 6)),.string (typeF (n / 1024 % 3)),.int .i64 1,.int .i64 1,.int .i64 2]):=by rw [ha];exact putSel_on (e:=(29,86,.agg #[.string ((⟨#[70]⟩ : ByteArray) ++ strOfNums [48 + i]),.string (codeF x4),.string (codeF x10),.int .i64 dep,.int .i64 (dep + 60 + 15 * (n / 128 % 6)),.string (typeF (n / 1024 % 3)),.int .i64 1,.int .i64 1,.int .i64 2])) 10 rfl rfl (hon 29 (by kernel_rfl)) rfl
        replace ha:=Aside0.mk ha
        have HB:=Aside0.mk Q_HB
        have F60:=Aside0.mk (Q_F60 (hon 3 (by kernel_rfl)) hb_)
        have F63:=Aside0.mk (Q_F63 (hon 6 (by kernel_rfl)) hb_)
        have F67:=Aside0.mk (Q_F67 (hon 10 (by kernel_rfl)) hb_)
        have F12:=Aside0.mk (Q_F12 (hon 30 (by kernel_rfl)) hb_)
        have G12:=Aside0.mk (Q_G12 (hon 30 (by kernel_rfl)))
        have hs0:=(blk_cell F12.out 0).trans rfl
        have hs1:=(blk_cell F12.out 1).trans rfl
        have hs2:=(blk_cell F12.out 2).trans rfl
        have hs3:=(blk_cell F12.out 3).trans rfl
        have hs4:=(blk_cell F12.out 4).trans rfl
        have hs5:=(blk_cell F12.out 5).trans rfl
        have hs6:=(blk_cell F12.out 6).trans rfl
        have hs7:=(blk_cell F12.out 7).trans rfl
        have hs8:=(blk_cell F12.out 8).trans rfl
        have hf0:=blk_frozen F12.out 0
        have hf1:=blk_frozen F12.out 1
        have hf2:=blk_frozen F12.out 2
        have hf3:=blk_frozen F12.out 3
        have hf4:=blk_frozen F12.out 4
        have hf5:=blk_frozen F12.out 5
        have hf6:=blk_frozen F12.out 6
        have hf7:=blk_frozen F12.out 7
        have hf8:=blk_frozen F12.out 8
        refine skip_ (w1:=?_) (by rfl) rfl ?_ ?_
        rotate_left
        ·go_simp
         rfl
        refine hK.out _ _ ⟨g60,g63,g67,g12,m3_,m6_,m8_,m10_,m12_,m30_,(by rw [ha.out];exact putSel_none (v:=undef) rfl),below_set9 HB.out G12.out,fun _ h1_=>absurd ((up_self b 31).symm.trans h1_) (by decide),fun _ h1_=>absurd ((up_self b 31).symm.trans h1_) (by decide),fun _ h1_=>absurd ((up_self b 31).symm.trans h1_) (by decide),fun _ h1_=>absurd ((up_self b 31).symm.trans h1_) (by decide),Q_G12,fun _=>blk_put9 F12.out,Q_X3_,Q_X6_,Q_X8_,Q_X10_,Q_X12_,Q_X30_⟩
       exact steps_nil
      ·rintro b a w' hall ⟨g60,g63,g67,g12,m3_,m6_,m8_,m10_,m12_,m30_,ha,Q_HB,Q_F60,Q_F63,Q_F67,Q_F12,Q_G12,Q_F12b,Q_X3_,Q_X6_,Q_X8_,Q_X10_,Q_X12_,Q_X30_⟩
       clear HB
       have hb3_:=hall 3 (by kernel_rfl)
       have hb4_:=hall 4 (by kernel_rfl)
       have hb5_:=hall 5 (by kernel_rfl)
       have hb6_:=hall 6 (by kernel_rfl)
       have hb8_:=hall 8 (by kernel_rfl)
       have hb9_:=hall 9 (by kernel_rfl)
       have hb10_:=hall 10 (by kernel_rfl)
       have hb12_:=hall 12 (by kernel_rfl)
       have hb13_:=hall 13 (by kernel_rfl)
       have hb27_:=hall 27 (by kernel_rfl)
       have hb29_:=hall 29 (by kernel_rfl)
       have hb30_:=hall 30 (by kernel_rfl)
       have hb31_:=hall 31 (by kernel_rfl)
       subst ha
       obtain rfl:=Q_X3_ hb3_
       obtain rfl:=Q_X6_ hb6_
       obtain rfl:=Q_X8_ hb8_
       obtain rfl:=Q_X10_ hb10_
       obtain rfl:=Q_X12_ hb12_
       obtain rfl:=Q_X30_ hb30_
       simp only [putSel,hb3_,hb4_,hb5_,hb6_,hb8_,hb9_,hb10_,hb12_,hb13_,hb27_,hb29_,hb30_,hb31_,if_true,Act.put,List.setIfInBounds_toArray,List.set_cons_zero,List.set_cons_succ]
       have HB:=Aside0.mk Q_HB
       clear Q_HB
       clear Q_F60
       clear Q_F63
       clear Q_F67
       clear Q_F12
       have G12:=Aside0.mk (Q_G12 hb30_)
       clear Q_G12
       have F12b:=Aside0.mk (Q_F12b hb31_)
       clear Q_F12b
       clear hall hb3_ hb4_ hb5_ hb6_ hb8_ hb9_ hb10_ hb12_ hb13_ hb27_ hb29_ hb30_ hb31_
       have HBo:=Aside0.mk (HBP7.out.below HB.out)
       have HG2:=Aside0.mk (show w.heap.size + 8 ≤ g12 ∧ ∀ k,v.ownBlock = some k → k ≠ g12 from ⟨Nat.le_trans (blk_lt HBP7.out.y) G12.out,fun k hk=>by have:=Kd.R_lt HBP7.out.f k hk;have:=G12.out;omega⟩)
       try go_wp2
       go_meet
       case rel=>exact ⟨g12,rfl,HG2,F12b,HBo⟩
     case rest =>
      clear HB2 hgap m1 m2 m3 m4 m5 m6 m7 m8 m9 P4 P10 PN
      obtain ⟨g12,rfl,HGe,HF12,HB2⟩:=hcut
      have ht0:=(blk_cell HB2.out.t 0).trans rfl
      have ht1:=(blk_cell HB2.out.t 1).trans rfl
      have ht2 : wc.cell? ⟨w.heap.size + 5,2,none⟩ = some v:=(blk_cell HB2.out.t 2).trans rfl
      have hq0:=(blk_cell HF12.out 0).trans rfl
      have hq1:=(blk_cell HF12.out 1).trans rfl
      have hq2:=(blk_cell HF12.out 2).trans rfl
      have hq3:=(blk_cell HF12.out 3).trans rfl
      have hq4:=(blk_cell HF12.out 4).trans rfl
      have hq5:=(blk_cell HF12.out 5).trans rfl
      have hq6:=(blk_cell HF12.out 6).trans rfl
      have hq7:=(blk_cell HF12.out 7).trans rfl
      have hq8:=(blk_cell HF12.out 8).trans rfl
      obtain ⟨Af,cf,rfl⟩:=Kd.R_slice HB2.out.f
      have hlf : fs.length ≤ 6:=by have:=HG.out.2.1;omega
      go_upto_if 97 with (at_builtin;refine Kd.R_append (w0:=wc) k36 w.heap.size rfl (.tmp 88) (.tmp 90) 24 36 (.agg #[(.string ⟨#[]⟩),(.string ⟨#[]⟩),(.string ⟨#[]⟩),(.int .i64 0),(.int .i64 0),(.string ⟨#[]⟩),(.int .i64 0),(.int .i64 0),(.int .i64 0)]) 104 rfl Try.underlying24 info36 rfl (by decide) (by omega) (.slice Af fs.length cf) fs ⟨(⟨#[70]⟩ : ByteArray) ++ strOfNums [48 + i],codeF x4,codeF x10,dep,dep + 60 + 15 * (n / 128 % 6),typeF (n / 1024 % 3),⟨1,1,2⟩⟩ [.string ((⟨#[70]⟩ : ByteArray) ++ strOfNums [48 + i]),.string (codeF x4),.string (codeF x10),.int .i64 dep,.int .i64 (dep + 60 + 15 * (n / 128 % 6)),.string (typeF (n / 1024 % 3)),.int .i64 1,.int .i64 1,.int .i64 2] (fun k=>w.heap.size + 8 ≤ k) (fun _=>False) rfl rfl (k36_mkM _ _ _ ⟨(⟨#[70]⟩ : ByteArray) ++ strOfNums [48 + i],codeF x4,codeF x10,dep,dep + 60 + 15 * (n / 128 % 6),typeF (n / 1024 % 3),⟨1,1,2⟩⟩) (fun _ hk=>hk.elim) (fun k hk=>Nat.le_trans (blk_lt HB2.out.y) hk) HB2.out.f (Below.refl _ _) (Below.size HB2.out.be) (by omega) ?_;intro v1 w9 ho hb9 hg9 hat9;obtain ⟨A9,c9,rfl⟩:=Kd.R_slice ho;have HP9:=Aside0.mk (BPt.app HB2.out HGe.out hb9 hg9 ho HF12.out);have ht2':=HP9.out.2.1;have hf2':=HP9.out.2.2.1;have hq4':=HP9.out.2.2.2.1;have hq5':=HP9.out.2.2.2.2;have hne1 : g12 ≠ w.heap.size + 5:=(by have:=HGe.out.1;omega);have hne2 : w.heap.size + 5 ≠ g12:=(by have:=HGe.out.1;omega);clear hg9 ho hb9 hat9)
      have hb3:=HP9.out.1
      simp only [List.length_append,List.length_cons,List.length_nil,Nat.zero_add] at hb3
      have HB3:=Aside0.mk hb3
      clear hb3
      clear HP9
      go_cut [5] (fun v5 wc=>v5 = .int .i64 (bClock n dep) ∧ Aside0 (BPt w wc (.slice A9 (fs.length + 1) c9) (fs ++ [(⟨(⟨#[70]⟩ : ByteArray) ++ strOfNums [48 + i],codeF x4,codeF x10,dep,dep + 60 + 15 * (n / 128 % 6),typeF (n / 1024 % 3),⟨1,1,2⟩⟩ : S36)])))
      case first =>
       by_cases h6 : n % 5 = 4
       ·have e6:=Aside0.mk (show bClock n dep = dep + 20 from by unfold bClock;rw [if_pos h6])
        go_wp2
        go_meet
        case rel=>exact ⟨by rw [e6.out],HB3⟩
       ·have e6:=Aside0.mk (show bClock n dep = dep + 60 + 15 * (n / 128 % 6) from by unfold bClock bArr;rw [if_neg h6])
        go_wp2
        go_meet
        case rel=>exact ⟨by rw [e6.out],HB3⟩
      case rest =>
       clear HB3 ht2' hf2' hq4' HF12 hq0 hq1 hq2 hq3 hq4 hq5 hq6 hq7 hq8 ht0 ht1 ht2
       obtain ⟨rfl,HB3⟩:=hcut
       go_wp2
       go_roundg gk
       case measure=>omega
       case rel =>
        obtain ⟨hg1,hg2,hg3⟩:=HG.out
        have hck : 0 ≤ bClock n dep ∧ bClock n dep ≤ dep + 135:=by unfold bClock bArr;split <;> omega
        refine ⟨i + 1,x10,bClock n dep,_,_,rfl,rfl,rfl,⟨by omega,by omega,by omega,by omega,by omega,by omega,by simp;omega,?_⟩,HB3⟩
        rw [← hg3,HBAT.out,HNe.out,HBb.out,HDq.out,HBt.out]
        simp [bFlight,numF,bArr,HBt.out]
def zonesB : List S42:=[⟨⟨#[117,116,99]⟩,0,[]⟩,⟨⟨#[111,115,108,111]⟩,60,[⟨1441500,120⟩,⟨1444000,60⟩]⟩,⟨⟨#[121,111,114,107]⟩,-300,[⟨1442900,-240⟩]⟩]
def portsB : List S39:=[⟨⟨#[65,65,65]⟩,⟨#[117,116,99]⟩⟩,⟨⟨#[66,66,66]⟩,⟨#[111,115,108,111]⟩⟩,⟨⟨#[67,67,67]⟩,⟨#[121,111,114,107]⟩⟩]
def atOkB (l : List Int) : Bool:=(List.range 9).all fun i=>decide (pairingbase_At.f l (i : Int) = some (atN l (i : Int)) ∧ 0 ≤ atN l (i : Int) ∧ atN l (i : Int) ≤ 70000)
theorem atOk_of {l : List Int} (h : atOkB l = true) : AtOk l:=by
 intro i h0 h1
 have h2:=List.all_eq_true.1 h i.toNat (List.mem_range.2 (by omega))
 have h3:=of_decide_eq_true h2
 rwa [show ((i.toNat : Nat) : Int) = i by omega] at h3
theorem shift_row {w W : World} {g : Nat} {ok : Nat → Prop} {xs : List S44} {cs : Array Value} (hb : W.heap[g]? = some (.cells cs 44 (0,0))) (hg : w.heap.size ≤ g) (hc : cs.size = xs.length * 2) (hm : xs.length ≤ 1000) (hok : ok g) (hr : Reps (k44.M W w.heap.size (fun k=>ok k ∧ some k ≠ (Value.slice (some ⟨g,0,none⟩) xs.length xs.length).ownBlock)) 2 xs cs.toList) : k44.R 44 W w.heap.size ok (.slice (some ⟨g,0,none⟩) xs.length xs.length) xs:=by
 have hs : k44.sz = 2:=rfl
 refine ⟨fun k hk=>?_,cs.toList,⟨by rw [hs];simpa using hc,.inr ⟨g,xs.length,cs,rfl,hg,hb,Nat.le_refl _,by unfold maxLen;omega,hc,?_⟩⟩,hr⟩
 ·obtain rfl : g = k:=by simpa [Value.ownBlock] using hk
  exact hok
 ·exact List.take_of_length_le (by simp [hc,show k44.sz = 2 from rfl])
theorem zonesB_S {w W : World} {v : Value} {fs : List S36} (h : BOut w W v fs) : Kd.S k42 42 W w.heap.size (fun _=>True) (.slice (some ⟨w.heap.size + 3,0,none⟩) 3 3) zonesB:=by
 refine ⟨fun b=>if b = w.heap.size + 1 then 1 else if b = w.heap.size + 2 then 2 else 0,fun _ _=>trivial,_,⟨rfl,.inr ⟨w.heap.size + 3,3,_,rfl,by omega,h.z,Nat.le_refl _,by decide,rfl,rfl⟩⟩,?_⟩
 refine Reps.c3 (k42_mkM _ _ _ (⟨⟨#[117,116,99]⟩,0,[]⟩ : S42) (Kd.R_nil _ _ _ _ _)) (Reps.c3 (k42_mkM _ _ _ (⟨⟨#[111,115,108,111]⟩,60,[⟨1441500,120⟩,⟨1444000,60⟩]⟩ : S42) ?_) (Reps.c3 (k42_mkM _ _ _ (⟨⟨#[121,111,114,107]⟩,-300,[⟨1442900,-240⟩]⟩ : S42) ?_) (Reps.none _ _)))
 ·exact shift_row h.s1 (by omega) rfl (by decide) ⟨⟨trivial,by simp [Value.ownBlock]⟩,by simp⟩ (Reps.c2 (k44_mkM _ _ _ (⟨1441500,120⟩ : S44)) (Reps.c2 (k44_mkM _ _ _ (⟨1444000,60⟩ : S44)) (Reps.none _ _)))
 ·exact shift_row h.s2 (by omega) rfl (by decide) ⟨⟨trivial,by simp [Value.ownBlock]⟩,by simp⟩ (Reps.c2 (k44_mkM _ _ _ (⟨1442900,-240⟩ : S44)) (Reps.none _ _))
theorem portsB_R {w W : World} {v : Value} {fs : List S36} (h : BOut w W v fs) : Kd.R k39 39 W w.heap.size (fun _=>True) (.slice (some ⟨w.heap.size + 4,0,none⟩) 3 3) portsB:=by
 refine ⟨fun _ _=>trivial,_,⟨rfl,.inr ⟨w.heap.size + 4,3,_,rfl,by omega,h.a,Nat.le_refl _,by decide,rfl,rfl⟩⟩,?_⟩
 exact Reps.c2 (k39_mkM _ _ _ (⟨⟨#[65,65,65]⟩,⟨#[117,116,99]⟩⟩ : S39)) (Reps.c2 (k39_mkM _ _ _ (⟨⟨#[66,66,66]⟩,⟨#[111,115,108,111]⟩⟩ : S39)) (Reps.c2 (k39_mkM _ _ _ (⟨⟨#[67,67,67]⟩,⟨#[121,111,114,107]⟩⟩ : S39)) (Reps.none _ _)))
def pairingbase_Timetable.f (l : List Int) : Option (List S42 × List S39 × List S36):=if atOkB l = true then some (zonesB,portsB,bAll l) else none
theorem pairingbase_Timetable.calls (A0 : Option Addr) (c0 : Nat) (l0 : List Int) (r1 : List S42) (r2 : List S39) (r3 : List S36) (w : World) (hr0 : Kd.C (Kd.int .i64) w A0 l0.length l0) (hc0 : l0.length ≤ c0) (h : pairingbase_Timetable.f l0 = some (r1,r2,r3)) :
  Calls Try.prog 13 #[.slice A0 l0.length c0] w fun e w'=>∃ v0_ v1_ v2_ : Value,e = .returned (.agg #[v0_,v1_,v2_]) ∧ Kd.S k42 42 w' w.heap.size (fun _=>True) v0_ r1 ∧ Kd.R k39 39 w' w.heap.size (fun _=>True) v1_ r2 ∧ Kd.R k36 36 w' w.heap.size (fun _=>True) v2_ r3 ∧ Below w.heap.size w w':=by
 unfold pairingbase_Timetable.f at h
 split at h
 ·rename_i hb
  have h:=Option.some.inj h
  simp only [Prod.mk.injEq] at h
  obtain ⟨rfl,rfl,rfl⟩:=h
  refine (base_calls A0 c0 l0 w hr0 hc0 (atOk_of hb)).mono ?_
  rintro e w' ⟨v,rfl,hO⟩
  exact ⟨_,_,_,rfl,zonesB_S hO,portsB_R hO,Kd.R_mono hO.f (fun _ _=>trivial),hO.be⟩
 ·cases h
end Go.Proofs.Ytepnddmalheoiaa.Q
namespace Go.Proofs.Ytepnddmalheoiaa.Q
open Go.Proofs.Ytepnddmalheoiaa.H
open Go.RowKit Go.Proofs.YtepnddmalheoiaaW.PrintWords Go.Proofs.YtepnddmalheoiaaW.PrintLast Go.Proofs.YtepnddmalheoiaaW.PrintMore
attribute [local go_sem] str_leq str_geq str_gtr max2_int min2_int max_two min_two max_three min_three max_four min_four   -- for this text's walks alone
set_option linter.unusedVariables false
set_option linter.unusedSimpArgs false
theorem info3 : (Try.prog.info? 3).map (fun i=>(i.zero,i.size,i.bytes)) = some (some (.int .i64 0),1,8):=by kernel_rfl
end Go.Proofs.Ytepnddmalheoiaa.Q
