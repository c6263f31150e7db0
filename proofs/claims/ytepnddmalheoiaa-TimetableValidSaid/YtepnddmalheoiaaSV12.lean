/- The law timetableValid, proved: for every input the call answers true. -/
import Derived.Test.YtepnddmalheoiaaProg
import Derived.Below
import Derived.Deep.Draws
import Derived.Deep.AppendLies
import Derived.Maps.AppendAt
import Derived.OwnWalk
import Derived.Laws.BytesArg
import Derived.Laws.MakeOwn
import Derived.Laws.OwnMore
import Derived.Deep.OwnRows
import Derived.Tactics
import Derived.Lib.ConvBytes
import Derived.Laws.Slices
import Derived.WalkKit
import Derived.KernelRfl
import Derived.RowKit3
import Derived.Deep.LoopGhost
import Derived.Deep.QuietTactic
import Derived.BigQuiet
import Derived.WideLaws
import Derived.Deep.DeepCutAuto
import Derived.Deep.CutBlock
import Derived.Deep.RegionHeld3
import Derived.Laws.Rows
import Derived.Lib.AppendStr
import Derived.ArgAppend
import Derived.Laws.IdiomCopy
import Derived.OrdersHeld
import Derived.Laws.BitsLemmas
import Derived.RowKit
import Derived.Deep.WholeRow
import Derived.Laws.ResultCell
import Derived.Lib.SlBytesConst
import Derived.Outline
import Derived.Laws.StructEq
import Derived.ProofKit
import Derived.OpenShut
import Derived.SizedLaws
import Derived.ChangeArms
import Derived.WideShapes
import Derived.Test.YtepnddmalheoiaaRows
import Derived.ShutString
import Derived.ChangeOld
import Derived.ChangeSlices
import Derived.Test.YtepnddmalheoiaaSV0
import Derived.Test.YtepnddmalheoiaaSV1
import Derived.Test.YtepnddmalheoiaaSV2
import Derived.Test.YtepnddmalheoiaaSV3
import Derived.Test.YtepnddmalheoiaaSV4
import Derived.Test.YtepnddmalheoiaaSV5
import Derived.Test.YtepnddmalheoiaaSV6
import Derived.Test.YtepnddmalheoiaaSV7
import Derived.Test.YtepnddmalheoiaaSV8
import Derived.Test.YtepnddmalheoiaaSV9
import Derived.Test.YtepnddmalheoiaaSV10
import Derived.Test.YtepnddmalheoiaaSV11
namespace Go.Proofs.Ytepnddmalheoiaa.Q
open Go.Proofs.Ytepnddmalheoiaa.H
open Go.RowKit Go.Proofs.YtepnddmalheoiaaW.PrintWords Go.Proofs.YtepnddmalheoiaaW.PrintLast Go.Proofs.YtepnddmalheoiaaW.PrintMore
set_option linter.unusedVariables false
set_option linter.unusedSimpArgs false
def timetable_Decode.f (k : Nat) (l0 : List Int) : Option (List S42 × List S39 × List S36 × Int) :=
 (wire_Unframe.f l0).bind fun u=>if u.2.2.2 = 0 then (timetable_reader_timetable.f k (u.2.1,false)).bind fun t=>if u.1 = 1 ∧ u.2.2.1 = (l0.length : Int) ∧ t.2.2.2 = ([],false) then (timetable_Validate.f k t.1 t.2.1 t.2.2.1).bind fun e=>if e = 0 then some (t.1,t.2.1,t.2.2.1,0) else some ([],[],[],e) else some ([],[],[],2) else some ([],[],[],u.2.2.2)
theorem unf_body (l : List Int) (h : ∀ x ∈ l,0 ≤ x ∧ x ≤ 255) : ∀ x ∈ (unf l).2.1,0 ≤ x ∧ x ≤ 255:=by
 unfold unf
 repeat' split
 all_goals first
  | exact fun x hx=>h x (List.mem_of_mem_take (List.mem_of_mem_drop hx))
  | exact fun x hx=>absurd hx (by simp)
set_option maxHeartbeats 8000000 in
set_option maxRecDepth 100000 in
theorem timetable_Decode.calls (k : Nat) (A0 : Option Addr) (c0 : Nat) (l0 : List Int) (r1 : List S42) (r2 : List S39) (r3 : List S36) (r4 : Int) (w : World) (hr0 : Kd.C (Kd.int .u8) w A0 l0.length l0) (hc0 : l0.length ≤ c0) (h : timetable_Decode.f k l0 = some (r1,r2,r3,r4)) :
  Calls Try.prog 16 #[.slice A0 l0.length c0] w fun e w'=>∃ v0_ v1_ v2_ : Value,e = .returned (.tuple #[.agg #[v0_,v1_,v2_],.int .i64 r4]) ∧ Kd.S k42 42 w' w.heap.size (fun _=>True) v0_ r1 ∧ Kd.R k39 39 w' w.heap.size (fun _=>True) v1_ r2 ∧ Kd.R k36 36 w' w.heap.size (fun _=>True) v2_ r3 ∧ Below w.heap.size w w':=by
 have hu26:=Try.underlying26
 have HR0:=Aside0.mk hr0
 have HC0:=Aside0.mk hc0
 clear hr0 hc0
 unfold timetable_Decode.f at h
 obtain ⟨⟨u1,u2,u3,u4⟩,hu,h⟩:=Option.bind_eq_some_iff.1 h
 simp only at h
 have HBy : Aside0 (∀ x ∈ u2,0 ≤ x ∧ x ≤ 255):=by
  unfold wire_Unframe.f at hu
  split at hu
  ·rename_i hb
   have hq:=unf_body l0 hb.1
   rw [Option.some.inj hu] at hq
   exact ⟨hq⟩
  ·cases hu
 have HU:=Aside0.mk hu
 have HH:=Aside0.mk h
 clear hu h
 have hb0:=Below.refl w.heap.size w
 have HB0:=Aside0.mk hb0
 clear hb0
 go_enter Try.func16,Try.ntmps16
 go_wp2_with fail
 refine (wire_Unframe.calls _ _ l0 u1 u2 u3 u4 _ (Kd.C_alloc HR0.out _) HC0.out HU.out).mono ?_
 rintro e_ w1 ⟨v,rfl,hR,hb1⟩
 obtain ⟨A1,c1,rfl,hl1,hC1⟩:=Kd.R_reads hR
 have HC1:=Aside0.mk hC1
 have HL1:=Aside0.mk hl1
 have HB1:=Aside0.mk (below_step (below_alloc HB0.out (.cells #[.slice none 0 0,.slice none 0 0,.slice none 0 0] 26 (0,0))) hb1)
 have HBK:=Aside0.mk (blk_below (g:=w.heap.size) (heap_alloc_new w (.cells #[.slice none 0 0,.slice none 0 0,.slice none 0 0] 26 (0,0))) hb1)
 have H:=HH.out
 clear hR hb1 hC1 hl1 HH
 by_cases hu4 : u4 = 0
 ·rw [if_pos hu4] at H
  obtain ⟨⟨t1,t2,t3,t4⟩,ht,H⟩:=Option.bind_eq_some_iff.1 H
  simp only at H
  have HH:=Aside0.mk H
  have HT:=Aside0.mk ht
  have c4 : (u4 != 0) = false:=bne_eq_false_iff_eq.mpr hu4
  clear H ht hu4
  go_wp2_with fail
  have hI : IsS88 w1 (w1.alloc (.cells #[.slice A1 u2.length c1,.bool false] 88 (0,0))) w1.heap.size (u2,false):=⟨A1,c1,heap_alloc_new _ _,Nat.le_refl _,HC1.out,HL1.out,HBy.out⟩
  refine (timetable_reader_timetable.calls k w1.heap.size (u2,false) t1 t2 t3 t4 w1 _ hI (below_alloc (Below.refl _ _) _) HT.out).mono ?_
  rintro e_ w2 ⟨v0,v1,v2,rfl,hS,hR1,hR2,hI2,hb2,hk2⟩
  obtain ⟨l4,b4⟩:=t4
  obtain ⟨Az,cz,rfl,hlz,hCz⟩:=Kd.S_reads hS
  obtain ⟨Ap,cp,rfl,hlp,hCp⟩:=Kd.R_reads hR1
  obtain ⟨Af,cf,rfl,hlf,hCf⟩:=Kd.R_reads hR2
  have HZ:=Aside0.mk hCz
  have HP:=Aside0.mk hCp
  have HF:=Aside0.mk hCf
  have HlZ:=Aside0.mk hlz
  have HlP:=Aside0.mk hlp
  have HlF:=Aside0.mk hlf
  clear hCz hCp hCf hlz hlp hlf
  have HI2:=Aside0.mk hI2
  clear hI
  obtain ⟨A2,c2,hb,hg,hr,hc,hx⟩:=hI2
  have hc0 : w2.cell? ⟨w1.heap.size,0,none⟩ = some (.slice A2 l4.length c2):=(blk_cell hb 0).trans rfl
  have hc1 : w2.cell? ⟨w1.heap.size,1,none⟩ = some (.bool b4):=(blk_cell hb 1).trans rfl
  have HBk:=Aside0.mk hb
  have HX:=Aside0.mk hx
  have HR:=Aside0.mk hr
  have HB2:=Aside0.mk (below_step HB1.out hb2)
  have HBK2:=Aside0.mk (blk_below HBK.out hb2)
  have HS:=Aside0.mk hS
  have HR1:=Aside0.mk hR1
  have HR2:=Aside0.mk hR2
  have HK:=Aside0.mk hk2
  clear hS hR1 hR2 hb2 hk2 hb hx hr
  obtain ⟨T,hT⟩ : ∃ T,T = Obj.cells #[.slice Az t1.length cz,.slice Ap t2.length cp,.slice Af t3.length cf] 26 (0,0):=⟨_,rfl⟩
  have HA:=Aside0.mk (blk_alloc HBk.out T)
  have HRs:=Aside0.mk (blk_alloc HBK2.out T)
  have HN:=Aside0.mk (heap_alloc_new w2 T)
  have HBA:=Aside0.mk (below_alloc HB2.out T)
  subst hT
  have ha0:=(blk_cell HA.out 0).trans rfl
  have ha1:=(blk_cell HA.out 1).trans rfl
  have hr0:=(blk_cell HRs.out 0).trans rfl
  have hr1:=(blk_cell HRs.out 1).trans rfl
  have hr2:=(blk_cell HRs.out 2).trans rfl
  have hf0:=blk_frozen HRs.out 0
  have hf1:=blk_frozen HRs.out 1
  have hf2:=blk_frozen HRs.out 2
  by_cases q1 : u1 = 1
  ·have d1 : (u1 != 1) = false:=bne_eq_false_iff_eq.mpr q1
   by_cases q2 : u3 = (l0.length : Int)
   ·have d2 : (u3 != (l0.length : Int)) = false:=bne_eq_false_iff_eq.mpr q2
    have Q12:=Aside0.mk (And.intro q1 q2)
    clear q1 q2
    cases b4 with
    | true =>
     have H:=HH.out
     rw [if_neg (by simp)] at H
     obtain ⟨rfl,rfl,rfl,rfl⟩ : r1 = [] ∧ r2 = [] ∧ r3 = [] ∧ r4 = 2:=by simpa [eq_comm] using H
     go_wp2
     refine bodyPost_ret (results_list rfl (by simp) (.cell w.heap.size 26 #[.slice none 0 0,.slice none 0 0,.slice none 0 0] (0,0) _ rfl (blk_put (blk_put (blk_put HRs.out 0 _ rfl) 1 _ rfl) 2 _ rfl) hu26 rfl (by kernel_rfl) (.tmp .nil))) rfl ⟨_,_,_,rfl,Kd.S_nil _ _ _ _ _,Kd.R_nil _ _ _ _ _,Kd.R_nil _ _ _ _ _,below_set (below_set (below_set HBA.out (Nat.le_refl _)) (Nat.le_refl _)) (Nat.le_refl _)⟩
    | false =>
     cases l4 with
     | nil =>
      go_wp2_with fail
      have H:=HH.out
      rw [if_pos (by simpa using Q12.out)] at H
      obtain ⟨e,hV,H⟩:=Option.bind_eq_some_iff.1 H
      refine (timetable_Validate.calls k _ _ t1 _ _ t2 _ _ t3 e _ (Kd.C_alloc HZ.out _) HlZ.out (Kd.C_alloc HP.out _) HlP.out (Kd.C_alloc HF.out _) HlF.out hV).mono ?_
      rintro e_ w3 ⟨rfl,hb3⟩
      have HB3:=Aside0.mk (below_step HBA.out hb3)
      have HR3:=Aside0.mk (blk_below HRs.out hb3)
      have HN3:=Aside0.mk (blk_below HN.out hb3)
      have HB3':=Aside0.mk hb3
      have hr0:=(blk_cell HR3.out 0).trans rfl
      have hr1:=(blk_cell HR3.out 1).trans rfl
      have hr2:=(blk_cell HR3.out 2).trans rfl
      have hf0:=blk_frozen HR3.out 0
      have hf1:=blk_frozen HR3.out 1
      have hf2:=blk_frozen HR3.out 2
      have hn0:=(blk_cell HN3.out 0).trans rfl
      have hn1:=(blk_cell HN3.out 1).trans rfl
      have hn2:=(blk_cell HN3.out 2).trans rfl
      clear hb3
      by_cases he : e = 0
      ·have d5 : (e != 0) = false:=bne_eq_false_iff_eq.mpr he
       rw [if_pos he] at H
       obtain ⟨rfl,rfl,rfl,rfl⟩ : t1 = r1 ∧ t2 = r2 ∧ t3 = r3 ∧ 0 = r4:=by simpa using H
       go_wp2
       refine bodyPost_ret (results_list rfl (by simp) (.cell w.heap.size 26 #[.slice Az t1.length cz,.slice Ap t2.length cp,.slice Af t3.length cf] (0,0) _ rfl (blk_put (blk_put (blk_put HR3.out 0 _ rfl) 1 _ rfl) 2 _ rfl) hu26 rfl (by kernel_rfl) (.tmp .nil))) rfl ⟨_,_,_,rfl,?_,?_,?_,below_set (below_set (below_set HB3.out (Nat.le_refl _)) (Nat.le_refl _)) (Nat.le_refl _)⟩
       ·exact Kd.S_mono (Kd.S_set (Kd.S_set (Kd.S_set (Kd.S_lower (Kd.S_below (Kd.S_alloc HS.out _) HB3'.out) (Nat.le_trans HB1.out.size (by simp))) HR3.out (by decide) 0 _) (blk_put HR3.out 0 _ rfl) (by decide) 1 _) (blk_put (blk_put HR3.out 0 _ rfl) 1 _ rfl) (by decide) 2 _) (fun _ _=>trivial)
       ·exact Kd.R_mono (Kd.R_set (Kd.R_set (Kd.R_set (Kd.R_lower (Kd.R_below (Kd.R_alloc HR1.out _) HB3'.out) (Nat.le_trans HB1.out.size (by simp))) HR3.out (by decide) 0 _) (blk_put HR3.out 0 _ rfl) (by decide) 1 _) (blk_put (blk_put HR3.out 0 _ rfl) 1 _ rfl) (by decide) 2 _) (fun _ _=>trivial)
       ·exact Kd.R_mono (Kd.R_set (Kd.R_set (Kd.R_set (Kd.R_lower (Kd.R_below (Kd.R_alloc HR2.out _) HB3'.out) (Nat.le_trans HB1.out.size (by simp))) HR3.out (by decide) 0 _) (blk_put HR3.out 0 _ rfl) (by decide) 1 _) (blk_put (blk_put HR3.out 0 _ rfl) 1 _ rfl) (by decide) 2 _) (fun _ _=>trivial)
      ·have d5 : (e != 0) = true:=bne_iff_ne.mpr he
       rw [if_neg he] at H
       obtain ⟨rfl,rfl,rfl,rfl⟩ : r1 = [] ∧ r2 = [] ∧ r3 = [] ∧ r4 = e:=by simpa [eq_comm] using H
       go_wp2
       refine bodyPost_ret (results_list rfl (by simp) (.cell w.heap.size 26 #[.slice none 0 0,.slice none 0 0,.slice none 0 0] (0,0) _ rfl (blk_put (blk_put (blk_put HR3.out 0 _ rfl) 1 _ rfl) 2 _ rfl) hu26 rfl (by kernel_rfl) (.tmp .nil))) rfl ⟨_,_,_,rfl,Kd.S_nil _ _ _ _ _,Kd.R_nil _ _ _ _ _,Kd.R_nil _ _ _ _ _,below_set (below_set (below_set HB3.out (Nat.le_refl _)) (Nat.le_refl _)) (Nat.le_refl _)⟩
     | cons a l4 =>
      have H:=HH.out
      rw [if_neg (by simp)] at H
      obtain ⟨rfl,rfl,rfl,rfl⟩ : r1 = [] ∧ r2 = [] ∧ r3 = [] ∧ r4 = 2:=by simpa [eq_comm] using H
      go_wp2
      refine bodyPost_ret (results_list rfl (by simp) (.cell w.heap.size 26 #[.slice none 0 0,.slice none 0 0,.slice none 0 0] (0,0) _ rfl (blk_put (blk_put (blk_put HRs.out 0 _ rfl) 1 _ rfl) 2 _ rfl) hu26 rfl (by kernel_rfl) (.tmp .nil))) rfl ⟨_,_,_,rfl,Kd.S_nil _ _ _ _ _,Kd.R_nil _ _ _ _ _,Kd.R_nil _ _ _ _ _,below_set (below_set (below_set HBA.out (Nat.le_refl _)) (Nat.le_refl _)) (Nat.le_refl _)⟩
   ·have d2 : (u3 != (l0.length : Int)) = true:=bne_iff_ne.mpr q2
    have H:=HH.out
    rw [if_neg (fun h=>q2 h.2.1)] at H
    obtain ⟨rfl,rfl,rfl,rfl⟩ : r1 = [] ∧ r2 = [] ∧ r3 = [] ∧ r4 = 2:=by simpa [eq_comm] using H
    go_wp2
    refine bodyPost_ret (results_list rfl (by simp) (.cell w.heap.size 26 #[.slice none 0 0,.slice none 0 0,.slice none 0 0] (0,0) _ rfl (blk_put (blk_put (blk_put HRs.out 0 _ rfl) 1 _ rfl) 2 _ rfl) hu26 rfl (by kernel_rfl) (.tmp .nil))) rfl ⟨_,_,_,rfl,Kd.S_nil _ _ _ _ _,Kd.R_nil _ _ _ _ _,Kd.R_nil _ _ _ _ _,below_set (below_set (below_set HBA.out (Nat.le_refl _)) (Nat.le_refl _)) (Nat.le_refl _)⟩
  ·have d1 : (u1 != 1) = true:=bne_iff_ne.mpr q1
   have H:=HH.out
   rw [if_neg (fun h=>q1 h.1)] at H
   obtain ⟨rfl,rfl,rfl,rfl⟩ : r1 = [] ∧ r2 = [] ∧ r3 = [] ∧ r4 = 2:=by simpa [eq_comm] using H
   go_wp2
   refine bodyPost_ret (results_list rfl (by simp) (.cell w.heap.size 26 #[.slice none 0 0,.slice none 0 0,.slice none 0 0] (0,0) _ rfl (blk_put (blk_put (blk_put HRs.out 0 _ rfl) 1 _ rfl) 2 _ rfl) hu26 rfl (by kernel_rfl) (.tmp .nil))) rfl ⟨_,_,_,rfl,Kd.S_nil _ _ _ _ _,Kd.R_nil _ _ _ _ _,Kd.R_nil _ _ _ _ _,below_set (below_set (below_set HBA.out (Nat.le_refl _)) (Nat.le_refl _)) (Nat.le_refl _)⟩
 ·have H2:=H
  rw [if_neg hu4] at H2
  have c4 : (u4 != 0) = true:=bne_iff_ne.mpr hu4
  obtain ⟨rfl,rfl,rfl,rfl⟩ : r1 = [] ∧ r2 = [] ∧ r3 = [] ∧ r4 = u4:=by simpa [eq_comm] using H2
  have hr0:=(blk_cell HBK.out 0).trans rfl
  have hr1:=(blk_cell HBK.out 1).trans rfl
  have hr2:=(blk_cell HBK.out 2).trans rfl
  have hf0:=blk_frozen HBK.out 0
  have hf1:=blk_frozen HBK.out 1
  have hf2:=blk_frozen HBK.out 2
  clear H H2
  go_wp2
  refine bodyPost_ret (results_list rfl (by simp) (.cell w.heap.size 26 #[.slice none 0 0,.slice none 0 0,.slice none 0 0] (0,0) _ rfl (blk_put (blk_put (blk_put HBK.out 0 _ rfl) 1 _ rfl) 2 _ rfl) hu26 rfl (by kernel_rfl) (.tmp .nil))) rfl ⟨_,_,_,rfl,Kd.S_nil _ _ _ _ _,Kd.R_nil _ _ _ _ _,Kd.R_nil _ _ _ _ _,below_set (below_set (below_set HB1.out (Nat.le_refl _)) (Nat.le_refl _)) (Nat.le_refl _)⟩
end Go.Proofs.Ytepnddmalheoiaa.Q
namespace Go.Proofs.Ytepnddmalheoiaa.Q
open Go.Proofs.Ytepnddmalheoiaa.H
open Go.RowKit Go.Proofs.YtepnddmalheoiaaW.PrintWords Go.Proofs.YtepnddmalheoiaaW.PrintLast Go.Proofs.YtepnddmalheoiaaW.PrintMore
attribute [local go_sem] str_leq str_geq str_gtr max2_int min2_int max_two min_two max_three min_three max_four min_four   -- for this text's walks alone
set_option linter.unusedVariables false
set_option linter.unusedSimpArgs false
def pairinglaw9_Light.l0 : Nat → Int → Int → List (S42) → List (S39) → List (S36) → Option (Bool)
 | 0,_,_,_,_,_=>none
 | k + 1,x3,x4,x248000,x248001,x248002=>if x4 < (x248000.length : Int) then (if x3 < 1000 then (if 0 ≤ x4 then (pairinglaw9_Light.l0 k (wrap64 (x3 + (((rd_T42 x248000 x4).f2).length : Int))) (wrap64 (x4 + 1)) x248000 x248001 x248002) else (none)) else (some (decide (x3 < 300)))) else (some (decide (x3 < 300)))
def pairinglaw9_Light.f (k : Nat) (l0_0 : List (S42)) (l0_1 : List (S39)) (l0_2 : List (S36)) : Option (Bool):=pairinglaw9_Light.l0 k (wrap64 ((wrap64 ((l0_0.length : Int) + (l0_1.length : Int))) + (l0_2.length : Int))) 0 l0_0 l0_1 l0_2
set_option maxHeartbeats 8000000 in
set_option maxRecDepth 100000 in
theorem pairinglaw9_Light.calls (k : Nat) (A0_0 : Option Addr) (c0_0 : Nat) (l0_0 : List (S42)) (A0_1 : Option Addr) (c0_1 : Nat) (l0_1 : List (S39)) (A0_2 : Option Addr) (c0_2 : Nat) (l0_2 : List (S36)) (r : Bool) (w : World) (hr0_0 : Kd.C k42 w A0_0 l0_0.length l0_0) (hc0_0 : l0_0.length ≤ c0_0) (hr0_1 : Kd.C k39 w A0_1 l0_1.length l0_1) (hc0_1 : l0_1.length ≤ c0_1) (hr0_2 : Kd.C k36 w A0_2 l0_2.length l0_2) (hc0_2 : l0_2.length ≤ c0_2) (h : pairinglaw9_Light.f k l0_0 l0_1 l0_2 = some r) :
  Calls Try.prog 9 #[.agg #[.slice A0_0 l0_0.length c0_0,.slice A0_1 l0_1.length c0_1,.slice A0_2 l0_2.length c0_2]] w fun e w'=>e = .returned (.bool r) ∧ Below w.heap.size w w':=by
 have hu26:=Try.underlying26
 have HR0_0:=Aside0.mk hr0_0
 have HC0_0:=Aside0.mk hc0_0
 clear hr0_0 hc0_0
 have HR0_1:=Aside0.mk hr0_1
 have HC0_1:=Aside0.mk hc0_1
 clear hr0_1 hc0_1
 have HR0_2:=Aside0.mk hr0_2
 have HC0_2:=Aside0.mk hc0_2
 clear hr0_2 hc0_2
 have HB:=Aside0.mk (Below.refl w.heap.size w)
 have H : (pairinglaw9_Light.l0 k (wrap64 ((wrap64 ((l0_0.length : Int) + (l0_1.length : Int))) + (l0_2.length : Int))) 0 l0_0 l0_1 l0_2) = some r:=h
 clear h
 have H':=Aside0.mk H
 clear H
 go_enter Try.func9,Try.ntmps9
 go_wp2_with (first|((with_reducible refine gate_dst (N:=1) rfl ?_);refine box_event ?hg (N:=1) ?hd (cs:=#[.slice A0_0 l0_0.length c0_0,.slice A0_1 l0_1.length c0_1,.slice A0_2 l0_2.length c0_2]) (t:=26) ?hr ?_;(case hd=>rfl);(case hg=>rfl);(case hr=>first|(go_simp;done)|(go_simp;rfl));intro gb247 hg w2 hbox hb;have n0_:=Aside0.mk (below_step (by repeat (first|(with_reducible first|exact HB.out|apply below_alloc|apply pw_below_drewN|apply below_drew1)|exact HB.out)) hb);have n1_:=Aside0.mk (hbox);have n2_:=Aside0.mk ((by rw [hg];exact (below_size (by repeat (first|(with_reducible first|exact HB.out|apply below_alloc|apply pw_below_drewN|apply below_drew1)|exact HB.out))) : w.heap.size ≤ gb247));have n3_:=Aside0.mk ((by rw [hg];exact (below_size (by repeat (first|(with_reducible first|exact HB.out|apply below_alloc|apply pw_below_drewN|apply below_drew1)|exact HB.out))) : w.heap.size ≤ gb247));clear HB;have HB:=n0_;have BK247:=n1_;have GW247:=n2_;have GE247:=n3_;clear n0_ n1_ n2_ n3_;clear hb hbox hg;have hcz3_0 : w2.cell? ⟨gb247,0,none⟩ = some (.slice A0_0 l0_0.length c0_0):=(blk_cell BK247.out 0).trans rfl;have hcz3_1 : w2.cell? ⟨gb247,1,none⟩ = some (.slice A0_1 l0_1.length c0_1):=(blk_cell BK247.out 1).trans rfl;have hcz3_2 : w2.cell? ⟨gb247,2,none⟩ = some (.slice A0_2 l0_2.length c0_2):=(blk_cell BK247.out 2).trans rfl;have hfz3_0:=blk_frozen BK247.out 0;have hfz3_1:=blk_frozen BK247.out 1;have hfz3_2:=blk_frozen BK247.out 2))
 go_loopg [3,4] k (fun kq v3 v4 w'=>∃ (x3_1 : Int) (x4_1 : Int),v3 = .int .i64 x3_1 ∧ v4 = .int .i64 x4_1 ∧ Aside0 (pairinglaw9_Light.l0 kq x3_1 x4_1 l0_0 l0_1 l0_2 = some r) ∧ Aside0 (kq ≤ k) ∧ Aside0 (w'.heap[gb247]? = some (.cells #[(.slice A0_0 l0_0.length c0_0),(.slice A0_1 l0_1.length c0_1),(.slice A0_2 l0_2.length c0_2)] 26 (0,0))) ∧ Aside0 (Below w.heap.size w w'))
 case atStart=>exact ⟨(wrap64 ((wrap64 ((l0_0.length : Int) + (l0_1.length : Int))) + (l0_2.length : Int))),(0),(by first|rfl|(simp;done)|(simp [*];done)),(by first|rfl|(simp;done)|(simp [*];done)),H',⟨Nat.le_refl _⟩,⟨by (with_reducible repeat (first|refine blk_drewN ?_ _|refine blk_drew ?_|refine blk_alloc ?_ _));exact BK247.out⟩,⟨by repeat (first|(with_reducible first|exact HB.out|apply below_alloc|apply pw_below_drewN|apply below_drew1|refine below_set ?_ GE247.out)|exact HB.out)⟩⟩
 case round =>
  clear H'
  try clear hcz3_0
  try clear hcz3_1
  try clear hcz3_2
  try clear hfz3_0
  try clear hfz3_1
  try clear hfz3_2
  obtain ⟨x3_1,x4_1,rfl,rfl,HA,HK1,BK247,HB⟩:=hrel
  cases gk with
  | zero=>exact absurd HA.out (by simp [pairinglaw9_Light.l0])
  | succ k1 =>
   have H:=HA.out
   clear HA
   simp only [pairinglaw9_Light.l0] at H
   by_cases c4 : x4_1 < (l0_0.length : Int)
   ·rw [if_pos c4] at H
    have c4b0 : decide (x4_1 < (l0_0.length : Int)) = true:=decide_eq_true c4
    clear c4
    by_cases c5 : x3_1 < 1000
    ·rw [if_pos c5] at H
     have c5b0 : decide (x3_1 < 1000) = true:=decide_eq_true c5
     clear c5
     by_cases c6 : 0 ≤ x4_1
     ·rw [if_pos c6] at H
      have c6b0 : decide (0 ≤ x4_1) = true:=decide_eq_true c6
      clear c6
      have H':=Aside0.mk H
      clear H
      have hcz7_0 : wr.cell? ⟨gb247,0,none⟩ = some (.slice A0_0 l0_0.length c0_0):=(blk_cell BK247.out 0).trans rfl
      have hcz7_1 : wr.cell? ⟨gb247,1,none⟩ = some (.slice A0_1 l0_1.length c0_1):=(blk_cell BK247.out 1).trans rfl
      have hcz7_2 : wr.cell? ⟨gb247,2,none⟩ = some (.slice A0_2 l0_2.length c0_2):=(blk_cell BK247.out 2).trans rfl
      have hfz7_0:=blk_frozen BK247.out 0
      have hfz7_1:=blk_frozen BK247.out 1
      have hfz7_2:=blk_frozen BK247.out 2
      have p248 : 0 ≤ (x4_1 : Int):=of_decide_eq_true (by first|(with_reducible assumption)|assumption)
      have q248 : x4_1 < (l0_0.length : Int):=of_decide_eq_true (by first|(with_reducible assumption)|assumption)
      obtain ⟨ad248,A248_2,c248_2,e248,hx248_0,hx248_1,hx248_2,hl248_2,hi248_2⟩:=at_T42 HR0_0.out x4_1 p248 q248
      cases e248
      replace hx248_0:=(HB.out.cell (World.block_lt_of_cell? w _ hx248_0)).trans hx248_0
      replace hx248_1:=(HB.out.cell (World.block_lt_of_cell? w _ hx248_1)).trans hx248_1
      replace hx248_2:=(HB.out.cell (World.block_lt_of_cell? w _ hx248_2)).trans hx248_2
      have HR248_2:=Aside0.mk hi248_2
      have HC248_2:=Aside0.mk hl248_2
      clear hi248_2 hl248_2
      replace p248:=eq_true p248
      replace q248:=eq_true q248
      go_wp2
      go_roundg k1
      case measure=>have:=HK1.out;omega
      case rel=>exact ⟨(wrap64 (x3_1 + (((rd_T42 l0_0 x4_1).f2).length : Int))),(wrap64 (x4_1 + 1)),(by first|rfl|(simp;done)|(simp [*];done)),(by first|rfl|(simp;done)|(simp [*];done)),H',⟨by have:=HK1.out;omega⟩,⟨by (with_reducible repeat (first|refine blk_drewN ?_ _|refine blk_drew ?_|refine blk_alloc ?_ _));exact BK247.out⟩,⟨by repeat (first|(with_reducible first|exact HB.out|apply below_alloc|apply pw_below_drewN|apply below_drew1|refine below_set ?_ GE247.out)|exact HB.out)⟩⟩
     ·rw [if_neg c6] at H
      exact absurd H (by simp)
    ·rw [if_neg c5] at H
     have c5b0 : decide (x3_1 < 1000) = false:=decide_eq_false c5
     clear c5
     obtain rfl:=Option.some.inj H
     have hcz8_0 : wr.cell? ⟨gb247,0,none⟩ = some (.slice A0_0 l0_0.length c0_0):=(blk_cell BK247.out 0).trans rfl
     have hcz8_1 : wr.cell? ⟨gb247,1,none⟩ = some (.slice A0_1 l0_1.length c0_1):=(blk_cell BK247.out 1).trans rfl
     have hcz8_2 : wr.cell? ⟨gb247,2,none⟩ = some (.slice A0_2 l0_2.length c0_2):=(blk_cell BK247.out 2).trans rfl
     have hfz8_0:=blk_frozen BK247.out 0
     have hfz8_1:=blk_frozen BK247.out 1
     have hfz8_2:=blk_frozen BK247.out 2
     go_wp2
     go_ret
     exact ⟨by first|rfl|(simp [errW_none,errW_some] <;> rfl)|(simp [*,errW_none,errW_some] <;> rfl),by repeat (first|(with_reducible first|exact HB.out|apply below_alloc|apply pw_below_drewN|apply below_drew1|refine below_set ?_ GE247.out)|exact HB.out)⟩
   ·rw [if_neg c4] at H
    have c4b0 : decide (x4_1 < (l0_0.length : Int)) = false:=decide_eq_false c4
    clear c4
    obtain rfl:=Option.some.inj H
    have hcz9_0 : wr.cell? ⟨gb247,0,none⟩ = some (.slice A0_0 l0_0.length c0_0):=(blk_cell BK247.out 0).trans rfl
    have hcz9_1 : wr.cell? ⟨gb247,1,none⟩ = some (.slice A0_1 l0_1.length c0_1):=(blk_cell BK247.out 1).trans rfl
    have hcz9_2 : wr.cell? ⟨gb247,2,none⟩ = some (.slice A0_2 l0_2.length c0_2):=(blk_cell BK247.out 2).trans rfl
    have hfz9_0:=blk_frozen BK247.out 0
    have hfz9_1:=blk_frozen BK247.out 1
    have hfz9_2:=blk_frozen BK247.out 2
    go_wp2
    go_ret
    exact ⟨by first|rfl|(simp [errW_none,errW_some] <;> rfl)|(simp [*,errW_none,errW_some] <;> rfl),by repeat (first|(with_reducible first|exact HB.out|apply below_alloc|apply pw_below_drewN|apply below_drew1|refine below_set ?_ GE247.out)|exact HB.out)⟩
def pairingbase_Zones.f  : Option ((List (S42))):=some (([(⟨(⟨#[117,116,99]⟩ : ByteArray),0,([] : List (S44))⟩ : S42),(⟨(⟨#[111,115,108,111]⟩ : ByteArray),60,(([(⟨1441500,120⟩ : S44),(⟨1444000,60⟩ : S44)] : List (S44)))⟩ : S42),(⟨(⟨#[121,111,114,107]⟩ : ByteArray),(-300),(([(⟨1442900,(-240)⟩ : S44)] : List (S44)))⟩ : S42)] : List (S42)))
set_option maxHeartbeats 8000000 in
set_option maxRecDepth 100000 in
theorem pairingbase_Zones.calls  (r : List (S42)) (w : World) (h : pairingbase_Zones.f  = some r) :
  Calls Try.prog 36 #[] w fun e w'=>∃ v0_ : Value,e = .returned (v0_) ∧ Kd.N k42 42 w' w.heap.size (fun k_=>(w.heap.size ≤ k_)) v0_ r ∧ Below w.heap.size w w':=by
 have hu42:=Try.underlying42
 have hu44:=Try.underlying44
 have HB:=Aside0.mk (Below.refl w.heap.size w)
 have H : (some (([(⟨(⟨#[117,116,99]⟩ : ByteArray),0,([] : List (S44))⟩ : S42),(⟨(⟨#[111,115,108,111]⟩ : ByteArray),60,(([(⟨1441500,120⟩ : S44),(⟨1444000,60⟩ : S44)] : List (S44)))⟩ : S42),(⟨(⟨#[121,111,114,107]⟩ : ByteArray),(-300),(([(⟨1442900,(-240)⟩ : S44)] : List (S44)))⟩ : S42)] : List (S42)))) = some r:=h
 clear h
 obtain ⟨y249,hy249⟩ : ∃ y_ : List (S44),y_ = (([(⟨1441500,120⟩ : S44),(⟨1444000,60⟩ : S44)] : List (S44))):=⟨_,rfl⟩
 replace H : (some (([(⟨(⟨#[117,116,99]⟩ : ByteArray),0,([] : List (S44))⟩ : S42),(⟨(⟨#[111,115,108,111]⟩ : ByteArray),60,y249⟩ : S42),(⟨(⟨#[121,111,114,107]⟩ : ByteArray),(-300),(([(⟨1442900,(-240)⟩ : S44)] : List (S44)))⟩ : S42)] : List (S42)))) = some r:=by first|(rw [hy249];with_reducible exact H)|(have H2_:=(Option.bind_some _ _).symm.trans H;rw [hy249];with_reducible exact H2_)|(have H2_:=(Option.bind_some _ _).symm.trans H;with_reducible exact H2_)|with_reducible exact H|(rw [hy249];exact H)|exact H
 have Ny249:=Aside0.mk hy249
 clear hy249
 obtain ⟨y252,hy252⟩ : ∃ y_ : List (S44),y_ = (([(⟨1442900,(-240)⟩ : S44)] : List (S44))):=⟨_,rfl⟩
 replace H : (some (([(⟨(⟨#[117,116,99]⟩ : ByteArray),0,([] : List (S44))⟩ : S42),(⟨(⟨#[111,115,108,111]⟩ : ByteArray),60,y249⟩ : S42),(⟨(⟨#[121,111,114,107]⟩ : ByteArray),(-300),y252⟩ : S42)] : List (S42)))) = some r:=by first|(rw [hy252];with_reducible exact H)|(have H2_:=(Option.bind_some _ _).symm.trans H;rw [hy252];with_reducible exact H2_)|(have H2_:=(Option.bind_some _ _).symm.trans H;with_reducible exact H2_)|with_reducible exact H|(rw [hy252];exact H)|exact H
 have Ny252:=Aside0.mk hy252
 clear hy252
 obtain ⟨y255,hy255⟩ : ∃ y_ : List (S42),y_ = (([(⟨(⟨#[117,116,99]⟩ : ByteArray),0,([] : List (S44))⟩ : S42),(⟨(⟨#[111,115,108,111]⟩ : ByteArray),60,y249⟩ : S42),(⟨(⟨#[121,111,114,107]⟩ : ByteArray),(-300),y252⟩ : S42)] : List (S42))):=⟨_,rfl⟩
 replace H : (some y255) = some r:=by first|(rw [hy255];with_reducible exact H)|(have H2_:=(Option.bind_some _ _).symm.trans H;rw [hy255];with_reducible exact H2_)|(have H2_:=(Option.bind_some _ _).symm.trans H;with_reducible exact H2_)|with_reducible exact H|(rw [hy255];exact H)|exact H
 have Ny255:=Aside0.mk hy255
 clear hy255
 obtain rfl:=Option.some.inj H
 go_enter Try.func36,Try.ntmps36
 go_wp2_with (first|((with_reducible refine gate_dst (N:=4) rfl ?_);refine Kd.R_lit k44 _ 44 ?hg (N:=4) ?hd (xs:=([(⟨1441500,120⟩ : S44),(⟨1444000,60⟩ : S44)] : List (S44))) (inner:=[.int .i64 1441500,.int .i64 120,.int .i64 1444000,.int .i64 60]) (ok:=fun _=>True) (okp:=fun _=>True) ?hr ?hp (fun _ hk=>hk) trivial (Below.refl _ _) (Nat.le_refl _) (by simp) ?_;(case hd=>rfl);(case hg=>rfl);(case hr=>first|(go_simp;done)|(go_simp;rfl));(case hp=>exact (Reps.c2 (show Kd.M k44 _ _ _ (⟨1441500,120⟩ : S44) [.int .i64 1441500,.int .i64 120] from (k44_mkM _ _ _ (⟨1441500,120⟩ : S44) )) (Reps.c2 (show Kd.M k44 _ _ _ (⟨1444000,60⟩ : S44) [.int .i64 1444000,.int .i64 60] from (k44_mkM _ _ _ (⟨1444000,60⟩ : S44) )) (Reps.none _ _))));intro v250 w1 ho2 hb hg_ hnew_;clear hg_ hnew_;(first|rw [← Ny249.out] at ho2|(simp only [Int.reduceToNat] at ho2;rw [← Ny249.out] at ho2));have n0_:=Aside0.mk (Kd.R_lower (Kd.R_newM (M:=fun k_=>(w.heap.size ≤ k_)) ho2 (below_size (by repeat (first|(with_reducible first|exact HB.out|apply below_alloc|apply pw_below_drewN|apply below_drew1)|exact HB.out))) (fun k_ h_=>h_)) (below_size (by repeat (first|(with_reducible first|exact HB.out|apply below_alloc|apply pw_below_drewN|apply below_drew1)|exact HB.out))));have n1_:=Aside0.mk (below_step (by repeat (first|(with_reducible first|exact HB.out|apply below_alloc|apply pw_below_drewN|apply below_drew1)|exact HB.out)) hb);clear HB;have HO251:=n0_;have HB:=n1_;clear n0_ n1_;clear hb ho2;obtain ⟨Ao3,co3,eo3⟩:=Kd.R_slice HO251.out;subst eo3)|((with_reducible refine gate_dst (N:=7) rfl ?_);refine Kd.R_lit k44 _ 44 ?hg (N:=7) ?hd (xs:=([(⟨1442900,(-240)⟩ : S44)] : List (S44))) (inner:=[.int .i64 1442900,.int .i64 (-240)]) (ok:=fun _=>True) (okp:=fun _=>True) ?hr ?hp (fun _ hk=>hk) trivial (Below.refl _ _) (Nat.le_refl _) (by simp) ?_;(case hd=>rfl);(case hg=>rfl);(case hr=>first|(go_simp;done)|(go_simp;rfl));(case hp=>exact (Reps.c2 (show Kd.M k44 _ _ _ (⟨1442900,(-240)⟩ : S44) [.int .i64 1442900,.int .i64 (-240)] from (k44_mkM _ _ _ (⟨1442900,(-240)⟩ : S44) )) (Reps.none _ _)));intro v253 w4 ho5 hb hg_ hnew_;clear hg_ hnew_;(first|rw [← Ny252.out] at ho5|(simp only [Int.reduceToNat] at ho5;rw [← Ny252.out] at ho5));have n0_:=Aside0.mk (Kd.R_elder' (by (with_reducible repeat (first|apply Kd.R_alloc|apply Kd.R_drewN|apply Kd.R_drew));exact HO251.out) (Kd.R_base ho5) hb);have n1_:=Aside0.mk (Kd.R_lower (Kd.R_new' (Kd.R_newM (M:=fun k_=>(w.heap.size ≤ k_)) ho5 (below_size (by repeat (first|(with_reducible first|exact HB.out|apply below_alloc|apply pw_below_drewN|apply below_drew1)|exact HB.out))) (fun k_ h_=>h_)) (Kd.R_lt (by (with_reducible repeat (first|apply Kd.R_alloc|apply Kd.R_drewN|apply Kd.R_drew));exact HO251.out))) (below_size (by repeat (first|(with_reducible first|exact HB.out|apply below_alloc|apply pw_below_drewN|apply below_drew1)|exact HB.out))));have n2_:=Aside0.mk (below_step (by repeat (first|(with_reducible first|exact HB.out|apply below_alloc|apply pw_below_drewN|apply below_drew1)|exact HB.out)) hb);clear HO251;clear HB;have HO251:=n0_;have HO254:=n1_;have HB:=n2_;clear n0_ n1_ n2_;clear hb ho5;obtain ⟨Ao6,co6,eo6⟩:=Kd.R_slice HO254.out;subst eo6)|((with_reducible refine gate_dst (N:=9) rfl ?_);refine Kd.N_lit k42 _ 42 ?hg (N':=9) ?hd (xs:=([(⟨(⟨#[117,116,99]⟩ : ByteArray),0,([] : List (S44))⟩ : S42),(⟨(⟨#[111,115,108,111]⟩ : ByteArray),60,y249⟩ : S42),(⟨(⟨#[121,111,114,107]⟩ : ByteArray),(-300),y252⟩ : S42)] : List (S42))) (inner:=[.string (⟨#[117,116,99]⟩ : ByteArray),.int .i64 0,.slice none 0 0,.string (⟨#[111,115,108,111]⟩ : ByteArray),.int .i64 60,.slice Ao3 y249.length co3,.string (⟨#[121,111,114,107]⟩ : ByteArray),.int .i64 (-300),.slice Ao6 y252.length co6]) (ok:=(fun k_=>(w.heap.size ≤ k_))) (okp:=(fun k_=>(w.heap.size ≤ k_))) ?hr ?hp (fun _ hk=>hk) ((show ∀ k_,w4.heap.size ≤ k_ → (fun k_=>(w.heap.size ≤ k_)) k_ from fun k_ hk=>(Nat.le_trans (below_size (by repeat (first|(with_reducible first|exact HB.out|apply below_alloc|apply pw_below_drewN|apply below_drew1)|exact HB.out))) hk)) _ (Nat.le_refl _)) (Below.refl _ _) (Nat.le_refl _) (by simp) ?_;(case hd=>rfl);(case hg=>rfl);(case hr=>first|(go_simp;done)|(go_simp;rfl));(case hp=>exact (Reps.c3 (show Kd.FK k42 _ _ (⟨(⟨#[117,116,99]⟩ : ByteArray),0,([] : List (S44))⟩ : S42) [.string (⟨#[117,116,99]⟩ : ByteArray),.int .i64 0,.slice none 0 0] from (k42_mkF _ _ (⟨(⟨#[117,116,99]⟩ : ByteArray),0,([] : List (S44))⟩ : S42) (Nat.le_refl _) (Kd.F_nil _ _ _))) (Reps.c3 (show Kd.FK k42 _ _ (⟨(⟨#[111,115,108,111]⟩ : ByteArray),60,y249⟩ : S42) [.string (⟨#[111,115,108,111]⟩ : ByteArray),.int .i64 60,.slice Ao3 y249.length co3] from (k42_mkF _ _ (⟨(⟨#[111,115,108,111]⟩ : ByteArray),60,y249⟩ : S42) (Kd.R_reads' (Kd.R_mono (ok':=(fun k_=>(w.heap.size ≤ k_))) (HO251.out) (fun k_ hk=>hk.1.1))).2.1 (Kd.R_F (Kd.R_mono (ok':=(fun k_=>(w.heap.size ≤ k_))) (HO251.out) (fun k_ hk=>hk.1.1))))) (Reps.c3 (show Kd.FK k42 _ _ (⟨(⟨#[121,111,114,107]⟩ : ByteArray),(-300),y252⟩ : S42) [.string (⟨#[121,111,114,107]⟩ : ByteArray),.int .i64 (-300),.slice Ao6 y252.length co6] from (k42_mkF _ _ (⟨(⟨#[121,111,114,107]⟩ : ByteArray),(-300),y252⟩ : S42) (Kd.R_reads' (Kd.R_mono (ok':=(fun k_=>(w.heap.size ≤ k_))) (HO254.out) (fun k_ hk=>hk.1.1))).2.1 (Kd.R_F (Kd.R_mono (ok':=(fun k_=>(w.heap.size ≤ k_))) (HO254.out) (fun k_ hk=>hk.1.1))))) (Reps.none _ _)))));intro v256 w7 ho8 hb hg_ hnew_;clear hg_ hnew_;(first|rw [← Ny255.out] at ho8|(simp only [Int.reduceToNat] at ho8;rw [← Ny255.out] at ho8));have n0_:=Aside0.mk (Kd.N_lower ho8 (below_size (by repeat (first|(with_reducible first|exact HB.out|apply below_alloc|apply pw_below_drewN|apply below_drew1)|exact HB.out))));have n1_:=Aside0.mk (below_step (by repeat (first|(with_reducible first|exact HB.out|apply below_alloc|apply pw_below_drewN|apply below_drew1)|exact HB.out)) hb);clear HB;clear HO251;clear HO254;have HO257:=n0_;have HB:=n1_;clear n0_ n1_;clear hb ho8))
 go_ret
 exact ⟨_,by first|rfl|(simp [errW_none,errW_some] <;> rfl)|(simp [*,errW_none,errW_some] <;> rfl),by (with_reducible repeat (first|apply Kd.N_alloc|apply Kd.N_drewN|apply Kd.N_drew));exact HO257.out,by repeat (first|(with_reducible first|exact HB.out|apply below_alloc|apply pw_below_drewN|apply below_drew1)|exact HB.out)⟩
def pairingbase_Airports.f  : Option ((List (S39))):=some (([(⟨(⟨#[65,65,65]⟩ : ByteArray),(⟨#[117,116,99]⟩ : ByteArray)⟩ : S39),(⟨(⟨#[66,66,66]⟩ : ByteArray),(⟨#[111,115,108,111]⟩ : ByteArray)⟩ : S39),(⟨(⟨#[67,67,67]⟩ : ByteArray),(⟨#[121,111,114,107]⟩ : ByteArray)⟩ : S39)] : List (S39)))
set_option maxHeartbeats 8000000 in
set_option maxRecDepth 100000 in
theorem pairingbase_Airports.calls  (r : List (S39)) (w : World) (h : pairingbase_Airports.f  = some r) :
  Calls Try.prog 37 #[] w fun e w'=>∃ v0_ : Value,e = .returned (v0_) ∧ Kd.R k39 39 w' w.heap.size (fun _=>True) v0_ r ∧ Below w.heap.size w w':=by
 have hu39:=Try.underlying39
 have HB:=Aside0.mk (Below.refl w.heap.size w)
 have H : (some (([(⟨(⟨#[65,65,65]⟩ : ByteArray),(⟨#[117,116,99]⟩ : ByteArray)⟩ : S39),(⟨(⟨#[66,66,66]⟩ : ByteArray),(⟨#[111,115,108,111]⟩ : ByteArray)⟩ : S39),(⟨(⟨#[67,67,67]⟩ : ByteArray),(⟨#[121,111,114,107]⟩ : ByteArray)⟩ : S39)] : List (S39)))) = some r:=h
 clear h
 obtain ⟨y258,hy258⟩ : ∃ y_ : List (S39),y_ = (([(⟨(⟨#[65,65,65]⟩ : ByteArray),(⟨#[117,116,99]⟩ : ByteArray)⟩ : S39),(⟨(⟨#[66,66,66]⟩ : ByteArray),(⟨#[111,115,108,111]⟩ : ByteArray)⟩ : S39),(⟨(⟨#[67,67,67]⟩ : ByteArray),(⟨#[121,111,114,107]⟩ : ByteArray)⟩ : S39)] : List (S39))):=⟨_,rfl⟩
 replace H : (some y258) = some r:=by first|(rw [hy258];with_reducible exact H)|(have H2_:=(Option.bind_some _ _).symm.trans H;rw [hy258];with_reducible exact H2_)|(have H2_:=(Option.bind_some _ _).symm.trans H;with_reducible exact H2_)|with_reducible exact H|(rw [hy258];exact H)|exact H
 have Ny258:=Aside0.mk hy258
 clear hy258
 obtain rfl:=Option.some.inj H
 go_enter Try.func37,Try.ntmps37
 go_wp2_with (first|((with_reducible refine gate_dst (N:=4) rfl ?_);refine Kd.R_lit k39 _ 39 ?hg (N:=4) ?hd (xs:=([(⟨(⟨#[65,65,65]⟩ : ByteArray),(⟨#[117,116,99]⟩ : ByteArray)⟩ : S39),(⟨(⟨#[66,66,66]⟩ : ByteArray),(⟨#[111,115,108,111]⟩ : ByteArray)⟩ : S39),(⟨(⟨#[67,67,67]⟩ : ByteArray),(⟨#[121,111,114,107]⟩ : ByteArray)⟩ : S39)] : List (S39))) (inner:=[.string (⟨#[65,65,65]⟩ : ByteArray),.string (⟨#[117,116,99]⟩ : ByteArray),.string (⟨#[66,66,66]⟩ : ByteArray),.string (⟨#[111,115,108,111]⟩ : ByteArray),.string (⟨#[67,67,67]⟩ : ByteArray),.string (⟨#[121,111,114,107]⟩ : ByteArray)]) (ok:=fun _=>True) (okp:=fun _=>True) ?hr ?hp (fun _ hk=>hk) trivial (Below.refl _ _) (Nat.le_refl _) (by simp) ?_;(case hd=>rfl);(case hg=>rfl);(case hr=>first|(go_simp;done)|(go_simp;rfl));(case hp=>exact (Reps.c2 (show Kd.M k39 _ _ _ (⟨(⟨#[65,65,65]⟩ : ByteArray),(⟨#[117,116,99]⟩ : ByteArray)⟩ : S39) [.string (⟨#[65,65,65]⟩ : ByteArray),.string (⟨#[117,116,99]⟩ : ByteArray)] from (k39_mkM _ _ _ (⟨(⟨#[65,65,65]⟩ : ByteArray),(⟨#[117,116,99]⟩ : ByteArray)⟩ : S39) )) (Reps.c2 (show Kd.M k39 _ _ _ (⟨(⟨#[66,66,66]⟩ : ByteArray),(⟨#[111,115,108,111]⟩ : ByteArray)⟩ : S39) [.string (⟨#[66,66,66]⟩ : ByteArray),.string (⟨#[111,115,108,111]⟩ : ByteArray)] from (k39_mkM _ _ _ (⟨(⟨#[66,66,66]⟩ : ByteArray),(⟨#[111,115,108,111]⟩ : ByteArray)⟩ : S39) )) (Reps.c2 (show Kd.M k39 _ _ _ (⟨(⟨#[67,67,67]⟩ : ByteArray),(⟨#[121,111,114,107]⟩ : ByteArray)⟩ : S39) [.string (⟨#[67,67,67]⟩ : ByteArray),.string (⟨#[121,111,114,107]⟩ : ByteArray)] from (k39_mkM _ _ _ (⟨(⟨#[67,67,67]⟩ : ByteArray),(⟨#[121,111,114,107]⟩ : ByteArray)⟩ : S39) )) (Reps.none _ _)))));intro v259 w1 ho2 hb hg_ hnew_;clear hg_ hnew_;(first|rw [← Ny258.out] at ho2|(simp only [Int.reduceToNat] at ho2;rw [← Ny258.out] at ho2));have n0_:=Aside0.mk (Kd.R_lower ho2 (below_size (by repeat (first|(with_reducible first|exact HB.out|apply below_alloc|apply pw_below_drewN|apply below_drew1)|exact HB.out))));have n1_:=Aside0.mk (below_step (by repeat (first|(with_reducible first|exact HB.out|apply below_alloc|apply pw_below_drewN|apply below_drew1)|exact HB.out)) hb);clear HB;have HO260:=n0_;have HB:=n1_;clear n0_ n1_;clear hb ho2))
 go_ret
 exact ⟨_,by first|rfl|(simp [errW_none,errW_some] <;> rfl)|(simp [*,errW_none,errW_some] <;> rfl),by (with_reducible repeat (first|apply Kd.R_alloc|apply Kd.R_drewN|apply Kd.R_drew));exact HO260.out,by repeat (first|(with_reducible first|exact HB.out|apply below_alloc|apply pw_below_drewN|apply below_drew1)|exact HB.out)⟩
def pairinglaw9_example.f  : Option ((List (S42)) × (List (S39)) × (List (S36))):=(pairingbase_Zones.f).bind fun t263=>((pairingbase_Airports.f).bind fun t266=>(some (t263,t266,(([(⟨(⟨#[83,75,49]⟩ : ByteArray),(⟨#[65,65,65]⟩ : ByteArray),(⟨#[66,66,66]⟩ : ByteArray),3000,3060,(⟨#[98,55,51,55]⟩ : ByteArray),(⟨1,1,2⟩ : S34)⟩ : S36)] : List (S36))))))
def pairinglaw9_example.T2 : Bool × List (List Nat × List Nat):=(true,[([],[]),([0],[]),([],[]),([2],[2]),([0,1,3],[0,1,3]),([4,1,0,1,2,3,4],[4])])
def pairinglaw9_example.B2 : List Nat:=[0,1,0,4,15,31]
theorem pairinglaw9_example.tab2 : rtab .any (opsOf Try.f25 2) = pairinglaw9_example.T2:=by kernel_rfl
theorem pairinglaw9_example.bits2 : waitsOk pairinglaw9_example.T2.2 pairinglaw9_example.B2 = true:=by kernel_rfl
set_option maxHeartbeats 8000000 in
set_option maxRecDepth 100000 in
theorem pairinglaw9_example.calls  (r1 : List (S42)) (r2 : List (S39)) (r3 : List (S36)) (w : World) (h : pairinglaw9_example.f  = some (r1,r2,r3)) :
  Calls Try.prog 25 #[] w fun e w'=>∃ v0_ v1_ v2_ : Value,e = .returned (.agg #[v0_,v1_,v2_]) ∧ Kd.N k42 42 w' w.heap.size (fun k_=>(w.heap.size ≤ k_)) v0_ r1 ∧ Kd.R k39 39 w' w.heap.size (fun k_=>(w.heap.size ≤ k_)) v1_ r2 ∧ Kd.R k36 36 w' w.heap.size (fun k_=>(w.heap.size ≤ k_)) v2_ r3 ∧ Below w.heap.size w w':=by
 have hu26:=Try.underlying26
 have hu34:=Try.underlying34
 have hu36:=Try.underlying36
 have HB:=Aside0.mk (Below.refl w.heap.size w)
 have H : ((pairingbase_Zones.f).bind fun t263=>((pairingbase_Airports.f).bind fun t266=>(some (t263,t266,(([(⟨(⟨#[83,75,49]⟩ : ByteArray),(⟨#[65,65,65]⟩ : ByteArray),(⟨#[66,66,66]⟩ : ByteArray),3000,3060,(⟨#[98,55,51,55]⟩ : ByteArray),(⟨1,1,2⟩ : S34)⟩ : S36)] : List (S36))))))) = some (r1,r2,r3):=h
 clear h
 replace H:=Option.bind_eq_some_iff.mp H
 obtain ⟨t263,A10,H⟩:=H
 replace H : ((pairingbase_Airports.f).bind fun t266=>(some (t263,t266,(([(⟨(⟨#[83,75,49]⟩ : ByteArray),(⟨#[65,65,65]⟩ : ByteArray),(⟨#[66,66,66]⟩ : ByteArray),3000,3060,(⟨#[98,55,51,55]⟩ : ByteArray),(⟨1,1,2⟩ : S34)⟩ : S36)] : List (S36)))))) = some (r1,r2,r3):=H
 have A1:=Aside0.mk A10
 clear A10
 replace H:=Option.bind_eq_some_iff.mp H
 obtain ⟨t266,A20,H⟩:=H
 replace H : (some (t263,t266,(([(⟨(⟨#[83,75,49]⟩ : ByteArray),(⟨#[65,65,65]⟩ : ByteArray),(⟨#[66,66,66]⟩ : ByteArray),3000,3060,(⟨#[98,55,51,55]⟩ : ByteArray),(⟨1,1,2⟩ : S34)⟩ : S36)] : List (S36))))) = some (r1,r2,r3):=H
 have A2:=Aside0.mk A20
 clear A20
 obtain ⟨y269,hy269⟩ : ∃ y_ : List (S36),y_ = (([(⟨(⟨#[83,75,49]⟩ : ByteArray),(⟨#[65,65,65]⟩ : ByteArray),(⟨#[66,66,66]⟩ : ByteArray),3000,3060,(⟨#[98,55,51,55]⟩ : ByteArray),(⟨1,1,2⟩ : S34)⟩ : S36)] : List (S36))):=⟨_,rfl⟩
 replace H : (some (t263,t266,y269)) = some (r1,r2,r3):=by first|(rw [hy269];with_reducible exact H)|(have H2_:=(Option.bind_some _ _).symm.trans H;rw [hy269];with_reducible exact H2_)|(have H2_:=(Option.bind_some _ _).symm.trans H;with_reducible exact H2_)|with_reducible exact H|(rw [hy269];exact H)|exact H
 have Ny269:=Aside0.mk hy269
 clear hy269
 simp only [Option.some.injEq,Prod.mk.injEq] at H
 obtain ⟨rfl,rfl,rfl⟩:=H
 go_enter Try.func25,Try.ntmps25
 try go_wp2_with (first|((with_reducible refine gate_dst (N:=0) rfl ?_);refine box_event ?hg (N:=0) ?hd (cs:=#[.slice none 0 0,.slice none 0 0,.slice none 0 0]) (t:=26) ?hr ?_;(case hd=>rfl);(case hg=>rfl);(case hr=>first|(go_simp;done)|(go_simp;rfl));intro gb261 hg w3 hbox hb;have n0_:=Aside0.mk (below_step (by repeat (first|(with_reducible first|exact HB.out|apply below_alloc|apply pw_below_drewN|apply below_drew1)|exact HB.out)) hb);have n1_:=Aside0.mk (hbox);have n2_:=Aside0.mk ((by rw [hg];exact (below_size (by repeat (first|(with_reducible first|exact HB.out|apply below_alloc|apply pw_below_drewN|apply below_drew1)|exact HB.out))) : w.heap.size ≤ gb261));have n3_:=Aside0.mk ((by rw [hg];exact (below_size (by repeat (first|(with_reducible first|exact HB.out|apply below_alloc|apply pw_below_drewN|apply below_drew1)|exact HB.out))) : w.heap.size ≤ gb261));clear HB;have HB:=n0_;have BK261:=n1_;have GW261:=n2_;have GE261:=n3_;clear n0_ n1_ n2_ n3_;clear hb hbox hg)|((with_reducible refine gate_dst (N:=1) rfl ?_);refine box_event ?hg (N:=1) ?hd (cs:=#[.string (⟨#[]⟩ : ByteArray),.string (⟨#[]⟩ : ByteArray),.string (⟨#[]⟩ : ByteArray),.int .i64 0,.int .i64 0,.string (⟨#[]⟩ : ByteArray),.int .i64 0,.int .i64 0,.int .i64 0]) (t:=36) ?hr ?_;(case hd=>rfl);(case hg=>rfl);(case hr=>first|(go_simp;done)|(go_simp;rfl));intro gb262 hg w4 hbox hb;have n0_:=Aside0.mk (blk_below (g:=gb261) (o:=.cells #[.slice none 0 0,.slice none 0 0,.slice none 0 0] 26 (0,0)) (by (with_reducible repeat (first|refine blk_drewN ?_ _|refine blk_drew ?_|refine blk_alloc ?_ _));exact BK261.out) hb);have n1_:=Aside0.mk (below_step (by repeat (first|(with_reducible first|exact HB.out|apply below_alloc|apply pw_below_drewN|apply below_drew1|refine below_set ?_ GE261.out)|exact HB.out)) hb);have n2_:=Aside0.mk (hbox);have n3_:=Aside0.mk ((by rw [hg];exact (below_size (by repeat (first|(with_reducible first|exact HB.out|apply below_alloc|apply pw_below_drewN|apply below_drew1|refine below_set ?_ GE261.out)|exact HB.out))) : w.heap.size ≤ gb262));have n4_:=Aside0.mk ((by rw [hg];exact (below_size (by repeat (first|(with_reducible first|exact HB.out|apply below_alloc|apply pw_below_drewN|apply below_drew1|refine below_set ?_ GE261.out)|exact HB.out))) : w.heap.size ≤ gb262));have n5_:=Aside0.mk ((by rw [hg];exact Nat.ne_of_lt (blk_lt (g:=gb261) (o:=.cells #[.slice none 0 0,.slice none 0 0,.slice none 0 0] 26 (0,0)) (by (with_reducible repeat (first|refine blk_drewN ?_ _|refine blk_drew ?_|refine blk_alloc ?_ _));exact BK261.out)) : gb261 ≠ gb262));have n6_:=Aside0.mk ((by rw [hg];exact Nat.ne_of_gt (blk_lt (g:=gb261) (o:=.cells #[.slice none 0 0,.slice none 0 0,.slice none 0 0] 26 (0,0)) (by (with_reducible repeat (first|refine blk_drewN ?_ _|refine blk_drew ?_|refine blk_alloc ?_ _));exact BK261.out)) : gb262 ≠ gb261));clear BK261;clear HB;have BK261:=n0_;have HB:=n1_;have BK262:=n2_;have GW262:=n3_;have GE262:=n4_;have NB261_262:=n5_;have NB262_261:=n6_;clear n0_ n1_ n2_ n3_ n4_ n5_ n6_;clear hb hbox hg;have hnb5:=NB262_261.out;have hnc5:=NB261_262.out;have hcz6_0 : w4.cell? ⟨gb262,0,none⟩ = some (.string (⟨#[]⟩ : ByteArray)):=(blk_cell BK262.out 0).trans rfl;have hcz6_1 : w4.cell? ⟨gb262,1,none⟩ = some (.string (⟨#[]⟩ : ByteArray)):=(blk_cell BK262.out 1).trans rfl;have hcz6_2 : w4.cell? ⟨gb262,2,none⟩ = some (.string (⟨#[]⟩ : ByteArray)):=(blk_cell BK262.out 2).trans rfl;have hcz6_3 : w4.cell? ⟨gb262,3,none⟩ = some (.int .i64 0):=(blk_cell BK262.out 3).trans rfl;have hcz6_4 : w4.cell? ⟨gb262,4,none⟩ = some (.int .i64 0):=(blk_cell BK262.out 4).trans rfl;have hcz6_5 : w4.cell? ⟨gb262,5,none⟩ = some (.string (⟨#[]⟩ : ByteArray)):=(blk_cell BK262.out 5).trans rfl;have hcz6_6 : w4.cell? ⟨gb262,6,none⟩ = some (.int .i64 0):=(blk_cell BK262.out 6).trans rfl;have hcz6_7 : w4.cell? ⟨gb262,7,none⟩ = some (.int .i64 0):=(blk_cell BK262.out 7).trans rfl;have hcz6_8 : w4.cell? ⟨gb262,8,none⟩ = some (.int .i64 0):=(blk_cell BK262.out 8).trans rfl;have hfz6_0:=blk_frozen BK262.out 0;have hfz6_1:=blk_frozen BK262.out 1;have hfz6_2:=blk_frozen BK262.out 2;have hfz6_3:=blk_frozen BK262.out 3;have hfz6_4:=blk_frozen BK262.out 4;have hfz6_5:=blk_frozen BK262.out 5;have hfz6_6:=blk_frozen BK262.out 6;have hfz6_7:=blk_frozen BK262.out 7;have hfz6_8:=blk_frozen BK262.out 8))
 have n0_ : Aside0 ((((((((((w4.setCell ⟨gb262,0,none⟩ (.string (⟨#[83,75,49]⟩ : ByteArray))).setCell ⟨gb262,1,none⟩ (.string (⟨#[65,65,65]⟩ : ByteArray))).setCell ⟨gb262,2,none⟩ (.string (⟨#[66,66,66]⟩ : ByteArray))).setCell ⟨gb262,3,none⟩ (.int .i64 3000)).setCell ⟨gb262,4,none⟩ (.int .i64 3060)).setCell ⟨gb262,5,none⟩ (.string (⟨#[98,55,51,55]⟩ : ByteArray))).setCell ⟨gb262,6,none⟩ (.int .i64 1)).setCell ⟨gb262,7,none⟩ (.int .i64 1)).setCell ⟨gb262,8,none⟩ (.int .i64 2)).heap[gb261]? = some (.cells #[.slice none 0 0,.slice none 0 0,.slice none 0 0] 26 (0,0))):=⟨by (with_reducible repeat (first|refine blk_drewN ?_ _|refine blk_drew ?_|refine blk_alloc ?_ _));refine blk_far ?_ NB261_262.out _;(with_reducible repeat (first|refine blk_drewN ?_ _|refine blk_drew ?_|refine blk_alloc ?_ _));refine blk_far ?_ NB261_262.out _;(with_reducible repeat (first|refine blk_drewN ?_ _|refine blk_drew ?_|refine blk_alloc ?_ _));refine blk_far ?_ NB261_262.out _;(with_reducible repeat (first|refine blk_drewN ?_ _|refine blk_drew ?_|refine blk_alloc ?_ _));refine blk_far ?_ NB261_262.out _;(with_reducible repeat (first|refine blk_drewN ?_ _|refine blk_drew ?_|refine blk_alloc ?_ _));refine blk_far ?_ NB261_262.out _;(with_reducible repeat (first|refine blk_drewN ?_ _|refine blk_drew ?_|refine blk_alloc ?_ _));refine blk_far ?_ NB261_262.out _;(with_reducible repeat (first|refine blk_drewN ?_ _|refine blk_drew ?_|refine blk_alloc ?_ _));refine blk_far ?_ NB261_262.out _;(with_reducible repeat (first|refine blk_drewN ?_ _|refine blk_drew ?_|refine blk_alloc ?_ _));refine blk_far ?_ NB261_262.out _;(with_reducible repeat (first|refine blk_drewN ?_ _|refine blk_drew ?_|refine blk_alloc ?_ _));refine blk_far ?_ NB261_262.out _;(with_reducible repeat (first|refine blk_drewN ?_ _|refine blk_drew ?_|refine blk_alloc ?_ _));exact BK261.out⟩
 have n1_ : Aside0 ((((((((((w4.setCell ⟨gb262,0,none⟩ (.string (⟨#[83,75,49]⟩ : ByteArray))).setCell ⟨gb262,1,none⟩ (.string (⟨#[65,65,65]⟩ : ByteArray))).setCell ⟨gb262,2,none⟩ (.string (⟨#[66,66,66]⟩ : ByteArray))).setCell ⟨gb262,3,none⟩ (.int .i64 3000)).setCell ⟨gb262,4,none⟩ (.int .i64 3060)).setCell ⟨gb262,5,none⟩ (.string (⟨#[98,55,51,55]⟩ : ByteArray))).setCell ⟨gb262,6,none⟩ (.int .i64 1)).setCell ⟨gb262,7,none⟩ (.int .i64 1)).setCell ⟨gb262,8,none⟩ (.int .i64 2)).heap[gb262]? = some (.cells #[.string (⟨#[83,75,49]⟩ : ByteArray),.string (⟨#[65,65,65]⟩ : ByteArray),.string (⟨#[66,66,66]⟩ : ByteArray),.int .i64 3000,.int .i64 3060,.string (⟨#[98,55,51,55]⟩ : ByteArray),.int .i64 1,.int .i64 1,.int .i64 2] 36 (0,0))):=⟨by (with_reducible repeat (first|refine blk_drewN ?_ _|refine blk_drew ?_|refine blk_alloc ?_ _));refine blk_put (cs:=#[.string (⟨#[83,75,49]⟩ : ByteArray),.string (⟨#[65,65,65]⟩ : ByteArray),.string (⟨#[66,66,66]⟩ : ByteArray),.int .i64 3000,.int .i64 3060,.string (⟨#[98,55,51,55]⟩ : ByteArray),.int .i64 1,.int .i64 1,.int .i64 0]) ?_ 8 _ rfl;(with_reducible repeat (first|refine blk_drewN ?_ _|refine blk_drew ?_|refine blk_alloc ?_ _));refine blk_put (cs:=#[.string (⟨#[83,75,49]⟩ : ByteArray),.string (⟨#[65,65,65]⟩ : ByteArray),.string (⟨#[66,66,66]⟩ : ByteArray),.int .i64 3000,.int .i64 3060,.string (⟨#[98,55,51,55]⟩ : ByteArray),.int .i64 1,.int .i64 0,.int .i64 0]) ?_ 7 _ rfl;(with_reducible repeat (first|refine blk_drewN ?_ _|refine blk_drew ?_|refine blk_alloc ?_ _));refine blk_put (cs:=#[.string (⟨#[83,75,49]⟩ : ByteArray),.string (⟨#[65,65,65]⟩ : ByteArray),.string (⟨#[66,66,66]⟩ : ByteArray),.int .i64 3000,.int .i64 3060,.string (⟨#[98,55,51,55]⟩ : ByteArray),.int .i64 0,.int .i64 0,.int .i64 0]) ?_ 6 _ rfl;(with_reducible repeat (first|refine blk_drewN ?_ _|refine blk_drew ?_|refine blk_alloc ?_ _));refine blk_put (cs:=#[.string (⟨#[83,75,49]⟩ : ByteArray),.string (⟨#[65,65,65]⟩ : ByteArray),.string (⟨#[66,66,66]⟩ : ByteArray),.int .i64 3000,.int .i64 3060,.string (⟨#[]⟩ : ByteArray),.int .i64 0,.int .i64 0,.int .i64 0]) ?_ 5 _ rfl;(with_reducible repeat (first|refine blk_drewN ?_ _|refine blk_drew ?_|refine blk_alloc ?_ _));refine blk_put (cs:=#[.string (⟨#[83,75,49]⟩ : ByteArray),.string (⟨#[65,65,65]⟩ : ByteArray),.string (⟨#[66,66,66]⟩ : ByteArray),.int .i64 3000,.int .i64 0,.string (⟨#[]⟩ : ByteArray),.int .i64 0,.int .i64 0,.int .i64 0]) ?_ 4 _ rfl;(with_reducible repeat (first|refine blk_drewN ?_ _|refine blk_drew ?_|refine blk_alloc ?_ _));refine blk_put (cs:=#[.string (⟨#[83,75,49]⟩ : ByteArray),.string (⟨#[65,65,65]⟩ : ByteArray),.string (⟨#[66,66,66]⟩ : ByteArray),.int .i64 0,.int .i64 0,.string (⟨#[]⟩ : ByteArray),.int .i64 0,.int .i64 0,.int .i64 0]) ?_ 3 _ rfl;(with_reducible repeat (first|refine blk_drewN ?_ _|refine blk_drew ?_|refine blk_alloc ?_ _));refine blk_put (cs:=#[.string (⟨#[83,75,49]⟩ : ByteArray),.string (⟨#[65,65,65]⟩ : ByteArray),.string (⟨#[]⟩ : ByteArray),.int .i64 0,.int .i64 0,.string (⟨#[]⟩ : ByteArray),.int .i64 0,.int .i64 0,.int .i64 0]) ?_ 2 _ rfl;(with_reducible repeat (first|refine blk_drewN ?_ _|refine blk_drew ?_|refine blk_alloc ?_ _));refine blk_put (cs:=#[.string (⟨#[83,75,49]⟩ : ByteArray),.string (⟨#[]⟩ : ByteArray),.string (⟨#[]⟩ : ByteArray),.int .i64 0,.int .i64 0,.string (⟨#[]⟩ : ByteArray),.int .i64 0,.int .i64 0,.int .i64 0]) ?_ 1 _ rfl;(with_reducible repeat (first|refine blk_drewN ?_ _|refine blk_drew ?_|refine blk_alloc ?_ _));refine blk_put (cs:=#[.string (⟨#[]⟩ : ByteArray),.string (⟨#[]⟩ : ByteArray),.string (⟨#[]⟩ : ByteArray),.int .i64 0,.int .i64 0,.string (⟨#[]⟩ : ByteArray),.int .i64 0,.int .i64 0,.int .i64 0]) ?_ 0 _ rfl;(with_reducible repeat (first|refine blk_drewN ?_ _|refine blk_drew ?_|refine blk_alloc ?_ _));exact BK262.out⟩
 have n2_ : Aside0 (Below w.heap.size w (((((((((w4.setCell ⟨gb262,0,none⟩ (.string (⟨#[83,75,49]⟩ : ByteArray))).setCell ⟨gb262,1,none⟩ (.string (⟨#[65,65,65]⟩ : ByteArray))).setCell ⟨gb262,2,none⟩ (.string (⟨#[66,66,66]⟩ : ByteArray))).setCell ⟨gb262,3,none⟩ (.int .i64 3000)).setCell ⟨gb262,4,none⟩ (.int .i64 3060)).setCell ⟨gb262,5,none⟩ (.string (⟨#[98,55,51,55]⟩ : ByteArray))).setCell ⟨gb262,6,none⟩ (.int .i64 1)).setCell ⟨gb262,7,none⟩ (.int .i64 1)).setCell ⟨gb262,8,none⟩ (.int .i64 2))):=⟨by repeat (first|(with_reducible first|exact HB.out|apply below_alloc|apply pw_below_drewN|apply below_drew1|refine below_set ?_ GE261.out|refine below_set ?_ GE262.out)|exact HB.out)⟩
 (try clear BK261)
 (try clear BK262)
 (try clear HB)
 generalize (((((((((w4.setCell ⟨gb262,0,none⟩ (.string (⟨#[83,75,49]⟩ : ByteArray))).setCell ⟨gb262,1,none⟩ (.string (⟨#[65,65,65]⟩ : ByteArray))).setCell ⟨gb262,2,none⟩ (.string (⟨#[66,66,66]⟩ : ByteArray))).setCell ⟨gb262,3,none⟩ (.int .i64 3000)).setCell ⟨gb262,4,none⟩ (.int .i64 3060)).setCell ⟨gb262,5,none⟩ (.string (⟨#[98,55,51,55]⟩ : ByteArray))).setCell ⟨gb262,6,none⟩ (.int .i64 1)).setCell ⟨gb262,7,none⟩ (.int .i64 1)).setCell ⟨gb262,8,none⟩ (.int .i64 2)) = w7 at n0_ n1_ n2_ ⊢
 have BK261:=n0_
 have BK262:=n1_
 have HB:=n2_
 clear n0_ n1_ n2_
 have n0_:=Aside0.mk (blk_drew BK261.out)
 have n1_:=Aside0.mk (blk_drew BK262.out)
 have n2_:=Aside0.mk (below_drew1 HB.out)
 clear BK261
 clear BK262
 clear HB
 have BK261:=n0_
 have BK262:=n1_
 have HB:=n2_
 clear n0_ n1_ n2_
 refine start_ (n:=6) (S:=fun w'=>True) (ds:=[]) #[false,false,false,false,false,false] (by kernel_rfl) rfl rfl trivial (fun hHeld=>?_);refine with_tabW pairinglaw9_example.tab2 pairinglaw9_example.bits2 (fun HT_ HW_=>?_)
 generalize w7.drew = w8 at BK261 BK262 HB hHeld ⊢
 refine inv_at [0,1,2,3,4,5] (fun a0_ b a w'=>∃ (v264 : Value) (v267 : Value) (v270 : Value) (m4_ : Value),a = putSel a0_ b [(0,4,v264),(1,5,v267),(2,6,.agg #[.string (⟨#[83,75,49]⟩ : ByteArray),.string (⟨#[65,65,65]⟩ : ByteArray),.string (⟨#[66,66,66]⟩ : ByteArray),.int .i64 3000,.int .i64 3060,.string (⟨#[98,55,51,55]⟩ : ByteArray),.int .i64 1,.int .i64 1,.int .i64 2]),(3,7,v270),(4,8,m4_)] ∧ (b 5 = false → w'.heap[gb261]? = some (.cells #[.slice none 0 0,.slice none 0 0,.slice none 0 0] 26 (0,0))) ∧ (w'.heap[gb262]? = some (.cells #[.string (⟨#[83,75,49]⟩ : ByteArray),.string (⟨#[65,65,65]⟩ : ByteArray),.string (⟨#[66,66,66]⟩ : ByteArray),.int .i64 3000,.int .i64 3060,.string (⟨#[98,55,51,55]⟩ : ByteArray),.int .i64 1,.int .i64 1,.int .i64 2] 36 (0,0))) ∧ (Below w.heap.size w w') ∧ (b 0 = true → Kd.N k42 42 w' w.heap.size (fun k_=>(w.heap.size ≤ k_) ∧ k_ ≠ gb261 ∧ k_ ≠ gb262) v264 t263) ∧ (b 1 = true → Kd.R k39 39 w' w.heap.size (fun k_=>(w.heap.size ≤ k_)) v267 t266) ∧ (b 3 = true → Kd.R k36 36 w' w.heap.size (fun k_=>(w.heap.size ≤ k_) ∧ k_ ≠ gb262) v270 y269) ∧ (b 5 = true → w'.heap[gb261]? = some (.cells #[v264,v267,v270] 26 (0,0))) ∧ (b 4 = true → (m4_ : Value) = .agg #[v264,v267,v270])) HT_.out HW_.out (by kernel_rfl) (by kernel_rfl) ?_ ?_ ?_
 ·exact ⟨.bool false,.bool false,.bool false,.bool false,by simp only [putSel,Bool.false_eq_true,if_false],fun _=>BK261.out,BK262.out,HB.out,fun h_=>absurd h_ (by decide),fun h_=>absurd h_ (by decide),fun h_=>absurd h_ (by decide),fun h_=>absurd h_ (by decide),fun h_=>absurd h_ (by decide)⟩
 ·skip
  clear BK261 BK262 HB
  refine steps_cons ?_ ?_
  ·rintro b a w' ⟨v264,v267,v270,m4_,ha,Q_BK261,Q_BK262,Q_HB,Q_HO265,Q_HO268,Q_HO271,Q_BK261_e5,Q_X4_⟩ hb_ hon hoff
   refine ⟨_,rfl,fun K hK=>?_⟩
   replace ha:=Aside0.mk ha
   have BK261:=Aside0.mk (Q_BK261 (hoff 5 (by kernel_rfl)))
   have BK262:=Aside0.mk Q_BK262
   have HB:=Aside0.mk Q_HB
   refine goes_ Try.func36 (by kernel_rfl) rfl #[] (by rfl) rfl rfl (by first|(simp only [List.map_toArray,List.map_cons,List.map_nil,Act.eval,Array.getD_eq_getD_getElem?,Option.getD_some];done)|(simp only [List.map_toArray,List.map_cons,List.map_nil,Act.eval,Array.getD_eq_getD_getElem?,Option.getD_some];rfl)) ?_
   with_reducible refine (pairingbase_Zones.calls  t263 _ A1.out).mono ?_
   rintro e w9 ⟨v264,rfl,ho0,hb⟩
   refine ⟨_,rfl,?_⟩
   have n0_:=Aside0.mk (Kd.N_lower (Kd.N_mono (ok':=fun k_=>(w.heap.size ≤ k_) ∧ k_ ≠ gb261 ∧ k_ ≠ gb262) ho0 (fun k_ hk_=>⟨(Nat.le_trans (below_size (by repeat (first|(with_reducible first|exact HB.out|apply below_alloc|apply pw_below_drewN|apply below_drew1|refine below_set ?_ GE261.out|refine below_set ?_ GE262.out)|exact HB.out))) hk_),(Kd.freshB (g:=gb261) (o:=.cells #[.slice none 0 0,.slice none 0 0,.slice none 0 0] 26 (0,0)) (by (with_reducible repeat (first|refine blk_drewN ?_ _|refine blk_drew ?_|refine blk_alloc ?_ _));exact BK261.out) k_ hk_),(Kd.freshB (g:=gb262) (o:=.cells #[.string (⟨#[83,75,49]⟩ : ByteArray),.string (⟨#[65,65,65]⟩ : ByteArray),.string (⟨#[66,66,66]⟩ : ByteArray),.int .i64 3000,.int .i64 3060,.string (⟨#[98,55,51,55]⟩ : ByteArray),.int .i64 1,.int .i64 1,.int .i64 2] 36 (0,0)) (by (with_reducible repeat (first|refine blk_drewN ?_ _|refine blk_drew ?_|refine blk_alloc ?_ _));exact BK262.out) k_ hk_)⟩)) (below_size (by repeat (first|(with_reducible first|exact HB.out|apply below_alloc|apply pw_below_drewN|apply below_drew1|refine below_set ?_ GE261.out|refine below_set ?_ GE262.out)|exact HB.out))))
   have n1_:=Aside0.mk (blk_below (g:=gb261) (o:=.cells #[.slice none 0 0,.slice none 0 0,.slice none 0 0] 26 (0,0)) (by (with_reducible repeat (first|refine blk_drewN ?_ _|refine blk_drew ?_|refine blk_alloc ?_ _));exact BK261.out) hb)
   have n2_:=Aside0.mk (blk_below (g:=gb262) (o:=.cells #[.string (⟨#[83,75,49]⟩ : ByteArray),.string (⟨#[65,65,65]⟩ : ByteArray),.string (⟨#[66,66,66]⟩ : ByteArray),.int .i64 3000,.int .i64 3060,.string (⟨#[98,55,51,55]⟩ : ByteArray),.int .i64 1,.int .i64 1,.int .i64 2] 36 (0,0)) (by (with_reducible repeat (first|refine blk_drewN ?_ _|refine blk_drew ?_|refine blk_alloc ?_ _));exact BK262.out) hb)
   have n3_:=Aside0.mk (below_step (by repeat (first|(with_reducible first|exact HB.out|apply below_alloc|apply pw_below_drewN|apply below_drew1|refine below_set ?_ GE261.out|refine below_set ?_ GE262.out)|exact HB.out)) hb)
   have z_HO271:=fun (h0_ : b 3 = true)=>(show Kd.R k36 36 w9 w.heap.size (fun k_=>(w.heap.size ≤ k_) ∧ k_ ≠ gb262) v270 y269 from by first|exact (Kd.R_below (by (with_reducible repeat (first|apply Kd.R_alloc|apply Kd.R_drewN|apply Kd.R_drew));exact (Q_HO271 h0_)) hb)|exact Kd.R_mono (Kd.R_below (by (with_reducible repeat (first|apply Kd.R_alloc|apply Kd.R_drewN|apply Kd.R_drew));exact (Q_HO271 h0_)) hb) (fun _ h_=>by first|trivial|exact h_|exact h_.1))
   clear BK261
   clear BK262
   clear HB
   have HO265:=n0_
   have BK261:=n1_
   have BK262:=n2_
   have HB:=n3_
   clear n0_ n1_ n2_ n3_
   (try clear hb)
   (try clear hb2)
   (try clear hk)
   (try clear hi)
   (try clear ho0)
   refine hK.out _ _ ⟨v264,v267,v270,m4_,(by rw [ha.out];exact putSel_upk 0 hb_ rfl rfl rfl),fun _=>(by (with_reducible repeat (first|refine blk_drewN ?_ _|refine blk_drew ?_|refine blk_alloc ?_ _));exact BK261.out),(by (with_reducible repeat (first|refine blk_drewN ?_ _|refine blk_drew ?_|refine blk_alloc ?_ _));exact BK262.out),(by repeat (first|(with_reducible first|exact HB.out|apply below_alloc|apply pw_below_drewN|apply below_drew1|refine below_set ?_ GE261.out|refine below_set ?_ GE262.out)|exact HB.out)),fun _=>(by (with_reducible repeat (first|apply Kd.N_alloc|apply Kd.N_drewN|apply Kd.N_drew));exact HO265.out),fun h0_=>absurd ((hoff 1 (by kernel_rfl)).symm.trans h0_) (by decide),z_HO271,fun h0_=>absurd ((hoff 5 (by kernel_rfl)).symm.trans h0_) (by decide),fun h0_=>absurd ((hoff 4 (by kernel_rfl)).symm.trans h0_) (by decide)⟩
  refine steps_cons ?_ ?_
  ·rintro b a w' ⟨v264,v267,v270,m4_,ha,Q_BK261,Q_BK262,Q_HB,Q_HO265,Q_HO268,Q_HO271,Q_BK261_e5,Q_X4_⟩ hb_ hon hoff
   refine ⟨_,rfl,fun K hK=>?_⟩
   replace ha:=Aside0.mk ha
   have BK261:=Aside0.mk (Q_BK261 (hoff 5 (by kernel_rfl)))
   have BK262:=Aside0.mk Q_BK262
   have HB:=Aside0.mk Q_HB
   have HO265:=Aside0.mk (Q_HO265 (hon 0 (by kernel_rfl)))
   refine goes_ Try.func37 (by kernel_rfl) rfl #[] (by rfl) rfl rfl (by first|(simp only [List.map_toArray,List.map_cons,List.map_nil,Act.eval,Array.getD_eq_getD_getElem?,Option.getD_some];done)|(simp only [List.map_toArray,List.map_cons,List.map_nil,Act.eval,Array.getD_eq_getD_getElem?,Option.getD_some];rfl)) ?_
   with_reducible refine (pairingbase_Airports.calls  t266 _ A2.out).mono ?_
   rintro e w11 ⟨v267,rfl,ho0,hb⟩
   refine ⟨_,rfl,?_⟩
   have n0_:=Aside0.mk (Kd.N_elder' (by (with_reducible repeat (first|apply Kd.N_alloc|apply Kd.N_drewN|apply Kd.N_drew));exact HO265.out) (Kd.R_base ho0) hb)
   have n1_:=Aside0.mk (Kd.R_lower (Kd.R_newM (M:=fun k_=>(w.heap.size ≤ k_)) ho0 (below_size (by repeat (first|(with_reducible first|exact HB.out|apply below_alloc|apply pw_below_drewN|apply below_drew1|refine below_set ?_ GE261.out|refine below_set ?_ GE262.out)|exact HB.out))) (fun k_ h_=>h_)) (below_size (by repeat (first|(with_reducible first|exact HB.out|apply below_alloc|apply pw_below_drewN|apply below_drew1|refine below_set ?_ GE261.out|refine below_set ?_ GE262.out)|exact HB.out))))
   have n2_:=Aside0.mk (blk_below (g:=gb261) (o:=.cells #[.slice none 0 0,.slice none 0 0,.slice none 0 0] 26 (0,0)) (by (with_reducible repeat (first|refine blk_drewN ?_ _|refine blk_drew ?_|refine blk_alloc ?_ _));exact BK261.out) hb)
   have n3_:=Aside0.mk (blk_below (g:=gb262) (o:=.cells #[.string (⟨#[83,75,49]⟩ : ByteArray),.string (⟨#[65,65,65]⟩ : ByteArray),.string (⟨#[66,66,66]⟩ : ByteArray),.int .i64 3000,.int .i64 3060,.string (⟨#[98,55,51,55]⟩ : ByteArray),.int .i64 1,.int .i64 1,.int .i64 2] 36 (0,0)) (by (with_reducible repeat (first|refine blk_drewN ?_ _|refine blk_drew ?_|refine blk_alloc ?_ _));exact BK262.out) hb)
   have n4_:=Aside0.mk (below_step (by repeat (first|(with_reducible first|exact HB.out|apply below_alloc|apply pw_below_drewN|apply below_drew1|refine below_set ?_ GE261.out|refine below_set ?_ GE262.out)|exact HB.out)) hb)
   have z_HO271:=fun (h0_ : b 3 = true)=>(show Kd.R k36 36 w11 w.heap.size (fun k_=>(w.heap.size ≤ k_) ∧ k_ ≠ gb262) v270 y269 from by first|exact (Kd.R_below (by (with_reducible repeat (first|apply Kd.R_alloc|apply Kd.R_drewN|apply Kd.R_drew));exact (Q_HO271 h0_)) hb)|exact Kd.R_mono (Kd.R_below (by (with_reducible repeat (first|apply Kd.R_alloc|apply Kd.R_drewN|apply Kd.R_drew));exact (Q_HO271 h0_)) hb) (fun _ h_=>by first|trivial|exact h_|exact h_.1))
   clear HO265
   clear BK261
   clear BK262
   clear HB
   have HO265:=n0_
   have HO268:=n1_
   have BK261:=n2_
   have BK262:=n3_
   have HB:=n4_
   clear n0_ n1_ n2_ n3_ n4_
   (try clear hb)
   (try clear hb2)
   (try clear hk)
   (try clear hi)
   (try clear ho0)
   refine hK.out _ _ ⟨v264,v267,v270,m4_,(by rw [ha.out];exact putSel_upk 1 hb_ rfl rfl rfl),fun _=>(by (with_reducible repeat (first|refine blk_drewN ?_ _|refine blk_drew ?_|refine blk_alloc ?_ _));exact BK261.out),(by (with_reducible repeat (first|refine blk_drewN ?_ _|refine blk_drew ?_|refine blk_alloc ?_ _));exact BK262.out),(by repeat (first|(with_reducible first|exact HB.out|apply below_alloc|apply pw_below_drewN|apply below_drew1|refine below_set ?_ GE261.out|refine below_set ?_ GE262.out)|exact HB.out)),fun _=>(by (with_reducible repeat (first|apply Kd.N_alloc|apply Kd.N_drewN|apply Kd.N_drew));exact Kd.N_mono HO265.out (fun _ hk=>by first|exact ⟨hk.1.1,⟨hk.2,⟨hk.1.2.1,hk.1.2.2⟩⟩⟩|(simp only [ne_eq] at hk ⊢;revert hk;simp only [and_imp];intros;(repeat' apply And.intro) <;> assumption))),fun _=>(by (with_reducible repeat (first|apply Kd.R_alloc|apply Kd.R_drewN|apply Kd.R_drew));exact Kd.R_mono HO268.out (fun _ hk=>hk.1)),z_HO271,fun h0_=>absurd ((hoff 5 (by kernel_rfl)).symm.trans h0_) (by decide),fun h0_=>absurd ((hoff 4 (by kernel_rfl)).symm.trans h0_) (by decide)⟩
  refine steps_cons ?_ ?_
  ·rintro b a w' ⟨v264,v267,v270,m4_,ha,Q_BK261,Q_BK262,Q_HB,Q_HO265,Q_HO268,Q_HO271,Q_BK261_e5,Q_X4_⟩ hb_ hon hoff
   refine ⟨_,rfl,fun K hK=>?_⟩
   have e1 : a.tmps[1]? = some (.pointer (some ⟨gb262,0,none⟩)):=by rw [ha];exact (putSel_off rfl).trans rfl
   replace ha:=Aside0.mk ha
   have BK261:=Aside0.mk (Q_BK261 (hoff 5 (by kernel_rfl)))
   have BK262:=Aside0.mk Q_BK262
   have HB:=Aside0.mk Q_HB
   have hc0_ : w'.cell? ⟨gb262,0,none⟩ = some (.string (⟨#[83,75,49]⟩ : ByteArray)):=(blk_cell BK262.out 0).trans rfl
   have hc1_ : w'.cell? ⟨gb262,1,none⟩ = some (.string (⟨#[65,65,65]⟩ : ByteArray)):=(blk_cell BK262.out 1).trans rfl
   have hc2_ : w'.cell? ⟨gb262,2,none⟩ = some (.string (⟨#[66,66,66]⟩ : ByteArray)):=(blk_cell BK262.out 2).trans rfl
   have hc3_ : w'.cell? ⟨gb262,3,none⟩ = some (.int .i64 3000):=(blk_cell BK262.out 3).trans rfl
   have hc4_ : w'.cell? ⟨gb262,4,none⟩ = some (.int .i64 3060):=(blk_cell BK262.out 4).trans rfl
   have hc5_ : w'.cell? ⟨gb262,5,none⟩ = some (.string (⟨#[98,55,51,55]⟩ : ByteArray)):=(blk_cell BK262.out 5).trans rfl
   have hc6_ : w'.cell? ⟨gb262,6,none⟩ = some (.int .i64 1):=(blk_cell BK262.out 6).trans rfl
   have hc7_ : w'.cell? ⟨gb262,7,none⟩ = some (.int .i64 1):=(blk_cell BK262.out 7).trans rfl
   have hc8_ : w'.cell? ⟨gb262,8,none⟩ = some (.int .i64 2):=(blk_cell BK262.out 8).trans rfl
   refine value_ (w1:=w') (v:=.agg #[.string (⟨#[83,75,49]⟩ : ByteArray),.string (⟨#[65,65,65]⟩ : ByteArray),.string (⟨#[66,66,66]⟩ : ByteArray),.int .i64 3000,.int .i64 3060,.string (⟨#[98,55,51,55]⟩ : ByteArray),.int .i64 1,.int .i64 1,.int .i64 2]) (by rfl) rfl ?_ ?_
   ·go_simp
    (try simp only [i64_w])
    try rfl
   refine hK.out _ _ ⟨v264,v267,v270,m4_,(by rw [ha.out];exact putSel_upk 2 hb_ rfl rfl rfl),Q_BK261,Q_BK262,Q_HB,Q_HO265,Q_HO268,fun h0_=>absurd ((hoff 3 (by kernel_rfl)).symm.trans h0_) (by decide),fun h0_=>absurd ((hoff 5 (by kernel_rfl)).symm.trans h0_) (by decide),fun h0_=>absurd ((hoff 4 (by kernel_rfl)).symm.trans h0_) (by decide)⟩
  refine steps_cons ?_ ?_
  ·rintro b a w' ⟨v264,v267,v270,m4_,ha,Q_BK261,Q_BK262,Q_HB,Q_HO265,Q_HO268,Q_HO271,Q_BK261_e5,Q_X4_⟩ hb_ hon hoff
   refine ⟨_,rfl,fun K hK=>?_⟩
   have e6 : a.tmps[6]? = some (.agg #[.string (⟨#[83,75,49]⟩ : ByteArray),.string (⟨#[65,65,65]⟩ : ByteArray),.string (⟨#[66,66,66]⟩ : ByteArray),.int .i64 3000,.int .i64 3060,.string (⟨#[98,55,51,55]⟩ : ByteArray),.int .i64 1,.int .i64 1,.int .i64 2]):=by rw [ha];exact putSel_on (e:=(2,6,.agg #[.string (⟨#[83,75,49]⟩ : ByteArray),.string (⟨#[65,65,65]⟩ : ByteArray),.string (⟨#[66,66,66]⟩ : ByteArray),.int .i64 3000,.int .i64 3060,.string (⟨#[98,55,51,55]⟩ : ByteArray),.int .i64 1,.int .i64 1,.int .i64 2])) 2 rfl rfl (hon 2 (by kernel_rfl)) rfl
   replace ha:=Aside0.mk ha
   have BK261:=Aside0.mk (Q_BK261 (hoff 5 (by kernel_rfl)))
   have BK262:=Aside0.mk Q_BK262
   have HB:=Aside0.mk Q_HB
   refine Kd.R_lit_step k36 _ 36 ?hg (N:=7) ?hd (xs:=([(⟨(⟨#[83,75,49]⟩ : ByteArray),(⟨#[65,65,65]⟩ : ByteArray),(⟨#[66,66,66]⟩ : ByteArray),3000,3060,(⟨#[98,55,51,55]⟩ : ByteArray),(⟨1,1,2⟩ : S34)⟩ : S36)] : List (S36))) (inner:=[.string (⟨#[83,75,49]⟩ : ByteArray),.string (⟨#[65,65,65]⟩ : ByteArray),.string (⟨#[66,66,66]⟩ : ByteArray),.int .i64 3000,.int .i64 3060,.string (⟨#[98,55,51,55]⟩ : ByteArray),.int .i64 1,.int .i64 1,.int .i64 2]) (ok:=fun _=>True) (okp:=fun _=>True) ?hr ?hp (fun _ hk=>hk) trivial (Below.refl _ _) (Nat.le_refl _) (by simp) ?_;(case hd=>rfl);(case hg=>rfl);(case hr=>first|(go_simp;done)|(go_simp;rfl));(case hp=>exact (Reps.c9 (show Kd.M k36 _ _ _ (⟨(⟨#[83,75,49]⟩ : ByteArray),(⟨#[65,65,65]⟩ : ByteArray),(⟨#[66,66,66]⟩ : ByteArray),3000,3060,(⟨#[98,55,51,55]⟩ : ByteArray),(⟨1,1,2⟩ : S34)⟩ : S36) [.string (⟨#[83,75,49]⟩ : ByteArray),.string (⟨#[65,65,65]⟩ : ByteArray),.string (⟨#[66,66,66]⟩ : ByteArray),.int .i64 3000,.int .i64 3060,.string (⟨#[98,55,51,55]⟩ : ByteArray),.int .i64 1,.int .i64 1,.int .i64 2] from (k36_mkM _ _ _ (⟨(⟨#[83,75,49]⟩ : ByteArray),(⟨#[65,65,65]⟩ : ByteArray),(⟨#[66,66,66]⟩ : ByteArray),3000,3060,(⟨#[98,55,51,55]⟩ : ByteArray),(⟨1,1,2⟩ : S34)⟩ : S36) )) (Reps.none _ _)))
   intro v270 w9 ho10 hb hg_ hnew_
   clear hg_ hnew_
   (first|rw [← Ny269.out] at ho10|(simp only [Int.reduceToNat] at ho10;rw [← Ny269.out] at ho10))
   have n0_:=Aside0.mk (Kd.R_lower (Kd.R_newB (Kd.R_newM (M:=fun k_=>(w.heap.size ≤ k_)) ho10 (below_size (by repeat (first|(with_reducible first|exact HB.out|apply below_alloc|apply pw_below_drewN|apply below_drew1|refine below_set ?_ GE261.out|refine below_set ?_ GE262.out)|exact HB.out))) (fun k_ h_=>h_)) (g:=gb262) (o:=.cells #[.string (⟨#[83,75,49]⟩ : ByteArray),.string (⟨#[65,65,65]⟩ : ByteArray),.string (⟨#[66,66,66]⟩ : ByteArray),.int .i64 3000,.int .i64 3060,.string (⟨#[98,55,51,55]⟩ : ByteArray),.int .i64 1,.int .i64 1,.int .i64 2] 36 (0,0)) (by (with_reducible repeat (first|refine blk_drewN ?_ _|refine blk_drew ?_|refine blk_alloc ?_ _));exact BK262.out)) (below_size (by repeat (first|(with_reducible first|exact HB.out|apply below_alloc|apply pw_below_drewN|apply below_drew1|refine below_set ?_ GE261.out|refine below_set ?_ GE262.out)|exact HB.out))))
   have n1_:=Aside0.mk (blk_below (g:=gb261) (o:=.cells #[.slice none 0 0,.slice none 0 0,.slice none 0 0] 26 (0,0)) (by (with_reducible repeat (first|refine blk_drewN ?_ _|refine blk_drew ?_|refine blk_alloc ?_ _));exact BK261.out) hb)
   have n2_:=Aside0.mk (blk_below (g:=gb262) (o:=.cells #[.string (⟨#[83,75,49]⟩ : ByteArray),.string (⟨#[65,65,65]⟩ : ByteArray),.string (⟨#[66,66,66]⟩ : ByteArray),.int .i64 3000,.int .i64 3060,.string (⟨#[98,55,51,55]⟩ : ByteArray),.int .i64 1,.int .i64 1,.int .i64 2] 36 (0,0)) (by (with_reducible repeat (first|refine blk_drewN ?_ _|refine blk_drew ?_|refine blk_alloc ?_ _));exact BK262.out) hb)
   have n3_:=Aside0.mk (below_step (by repeat (first|(with_reducible first|exact HB.out|apply below_alloc|apply pw_below_drewN|apply below_drew1|refine below_set ?_ GE261.out|refine below_set ?_ GE262.out)|exact HB.out)) hb)
   have z_HO265:=fun (h0_ : b 0 = true)=>(show Kd.N k42 42 w9 w.heap.size (fun k_=>(w.heap.size ≤ k_) ∧ k_ ≠ gb261 ∧ k_ ≠ gb262) v264 t263 from by first|exact (Kd.N_elder' (by (with_reducible repeat (first|apply Kd.N_alloc|apply Kd.N_drewN|apply Kd.N_drew));exact (Q_HO265 h0_)) (Kd.R_base ho10) hb)|exact Kd.N_mono (Kd.N_elder' (by (with_reducible repeat (first|apply Kd.N_alloc|apply Kd.N_drewN|apply Kd.N_drew));exact (Q_HO265 h0_)) (Kd.R_base ho10) hb) (fun _ h_=>by first|trivial|exact h_|exact h_.1))
   have z_HO268:=fun (h0_ : b 1 = true)=>(show Kd.R k39 39 w9 w.heap.size (fun k_=>(w.heap.size ≤ k_)) v267 t266 from by first|exact (Kd.R_below (by (with_reducible repeat (first|apply Kd.R_alloc|apply Kd.R_drewN|apply Kd.R_drew));exact (Q_HO268 h0_)) hb)|exact Kd.R_mono (Kd.R_below (by (with_reducible repeat (first|apply Kd.R_alloc|apply Kd.R_drewN|apply Kd.R_drew));exact (Q_HO268 h0_)) hb) (fun _ h_=>by first|trivial|exact h_|exact h_.1))
   clear BK261
   clear BK262
   clear HB
   have HO271:=n0_
   have BK261:=n1_
   have BK262:=n2_
   have HB:=n3_
   clear n0_ n1_ n2_ n3_
   clear hb ho10
   refine hK.out _ _ ⟨v264,v267,v270,m4_,(by rw [ha.out];exact putSel_upk 3 hb_ rfl rfl rfl),fun _=>(by (with_reducible repeat (first|refine blk_drewN ?_ _|refine blk_drew ?_|refine blk_alloc ?_ _));exact BK261.out),(by (with_reducible repeat (first|refine blk_drewN ?_ _|refine blk_drew ?_|refine blk_alloc ?_ _));exact BK262.out),(by repeat (first|(with_reducible first|exact HB.out|apply below_alloc|apply pw_below_drewN|apply below_drew1|refine below_set ?_ GE261.out|refine below_set ?_ GE262.out)|exact HB.out)),z_HO265,z_HO268,fun _=>(by (with_reducible repeat (first|apply Kd.R_alloc|apply Kd.R_drewN|apply Kd.R_drew));exact Kd.R_mono HO271.out (fun _ hk=>by first|exact ⟨hk.1.1,hk.2⟩|(simp only [ne_eq] at hk ⊢;revert hk;simp only [and_imp];intros;(repeat' apply And.intro) <;> assumption))),fun h0_=>absurd ((hoff 5 (by kernel_rfl)).symm.trans h0_) (by decide),fun h0_=>absurd ((hoff 4 (by kernel_rfl)).symm.trans h0_) (by decide)⟩
  refine steps_cons ?_ ?_
  ·rintro b a w' ⟨v264,v267,v270,m4_,ha,Q_BK261,Q_BK262,Q_HB,Q_HO265,Q_HO268,Q_HO271,Q_BK261_e5,Q_X4_⟩ hb_ hon hoff
   refine ⟨_,rfl,fun K hK=>?_⟩
   have e4 : a.tmps[4]? = some (v264):=by rw [ha];exact putSel_on (e:=(0,4,v264)) 0 rfl rfl (hon 0 (by kernel_rfl)) rfl
   have e5 : a.tmps[5]? = some (v267):=by rw [ha];exact putSel_on (e:=(1,5,v267)) 1 rfl rfl (hon 1 (by kernel_rfl)) rfl
   have e7 : a.tmps[7]? = some (v270):=by rw [ha];exact putSel_on (e:=(3,7,v270)) 3 rfl rfl (hon 3 (by kernel_rfl)) rfl
   replace ha:=Aside0.mk ha
   have BK261:=Aside0.mk (Q_BK261 (hoff 5 (by kernel_rfl)))
   have BK262:=Aside0.mk Q_BK262
   have HB:=Aside0.mk Q_HB
   have HO265:=Aside0.mk (Q_HO265 (hon 0 (by kernel_rfl)))
   have HO268:=Aside0.mk (Q_HO268 (hon 1 (by kernel_rfl)))
   have HO271:=Aside0.mk (Q_HO271 (hon 3 (by kernel_rfl)))
   obtain ⟨Ao4_0,co4_0,eo_⟩:=Kd.N_slice HO265.out
   subst eo_
   obtain ⟨Ao4_1,co4_1,eo_⟩:=Kd.R_slice HO268.out
   subst eo_
   obtain ⟨Ao4_2,co4_2,eo_⟩:=Kd.R_slice HO271.out
   subst eo_
   refine value_ (w1:=w') (v:=.agg #[.slice Ao4_0 t263.length co4_0,.slice Ao4_1 t266.length co4_1,.slice Ao4_2 y269.length co4_2]) (by rfl) rfl ?_ ?_
   ·go_simp
    (try simp only [i64_w])
    try rfl
   refine hK.out _ _ ⟨.slice Ao4_0 t263.length co4_0,.slice Ao4_1 t266.length co4_1,.slice Ao4_2 y269.length co4_2,(.agg #[.slice Ao4_0 t263.length co4_0,.slice Ao4_1 t266.length co4_1,.slice Ao4_2 y269.length co4_2]),(by rw [ha.out];exact putSel_upk 4 hb_ rfl rfl rfl),Q_BK261,Q_BK262,Q_HB,Q_HO265,Q_HO268,Q_HO271,fun h0_=>absurd ((hoff 5 (by kernel_rfl)).symm.trans h0_) (by decide),fun _=>rfl⟩
  refine steps_cons ?_ ?_
  ·rintro b a w' ⟨v264,v267,v270,m4_,ha,Q_BK261,Q_BK262,Q_HB,Q_HO265,Q_HO268,Q_HO271,Q_BK261_e5,Q_X4_⟩ hb_ hon hoff
   refine ⟨_,rfl,fun K hK=>?_⟩
   have e0 : a.tmps[0]? = some (.pointer (some ⟨gb261,0,none⟩)):=by rw [ha];exact (putSel_off rfl).trans rfl
   have e8 : a.tmps[8]? = some (m4_):=by rw [ha];exact putSel_on (e:=(4,8,m4_)) 4 rfl rfl (hon 4 (by kernel_rfl)) rfl
   rw [Q_X4_ (hon 4 (by kernel_rfl))] at e8
   replace ha:=Aside0.mk ha
   have BK261:=Aside0.mk (Q_BK261 hb_)
   have BK262:=Aside0.mk Q_BK262
   have HB:=Aside0.mk Q_HB
   have HO265:=Aside0.mk (Q_HO265 (hon 0 (by kernel_rfl)))
   have HO268:=Aside0.mk (Q_HO268 (hon 1 (by kernel_rfl)))
   have HO271:=Aside0.mk (Q_HO271 (hon 3 (by kernel_rfl)))
   obtain ⟨Ao17,co17,eo17⟩:=Kd.R_slice HO271.out
   (first|subst eo17|(injection eo17 with f1_ f2_ f3_;have f4_:=f1_.symm;have f5_:=f3_.symm;clear f1_ f2_ f3_;subst f4_;subst f5_))
   obtain ⟨Ao18,co18,eo18⟩:=Kd.R_slice HO268.out
   (first|subst eo18|(injection eo18 with f1_ f2_ f3_;have f4_:=f1_.symm;have f5_:=f3_.symm;clear f1_ f2_ f3_;subst f4_;subst f5_))
   obtain ⟨Ao19,co19,eo19⟩:=Kd.N_slice HO265.out
   (first|subst eo19|(injection eo19 with f1_ f2_ f3_;have f4_:=f1_.symm;have f5_:=f3_.symm;clear f1_ f2_ f3_;subst f4_;subst f5_))
   have hs20 : w'.cell? ⟨gb261,0,none⟩ = some (.slice none 0 0):=(blk_cell BK261.out 0).trans rfl
   have hfs20:=blk_frozen BK261.out 0
   have hns20_1:=NB262_261.out
   have hms20_1:=NB261_262.out
   have hs21 : w'.cell? ⟨gb261,1,none⟩ = some (.slice none 0 0):=(blk_cell BK261.out 1).trans rfl
   have hfs21:=blk_frozen BK261.out 1
   have hns21_1:=NB262_261.out
   have hms21_1:=NB261_262.out
   have hs22 : w'.cell? ⟨gb261,2,none⟩ = some (.slice none 0 0):=(blk_cell BK261.out 2).trans rfl
   have hfs22:=blk_frozen BK261.out 2
   have hns22_1:=NB262_261.out
   have hms22_1:=NB261_262.out
   refine skip_ (w1:=?_) (by rfl) rfl ?_ ?_
   rotate_left
   ·go_simp
    rfl
   refine hK.out _ _ ⟨.slice Ao19 t263.length co19,.slice Ao18 t266.length co18,.slice Ao17 y269.length co17,m4_,(by rw [ha.out];exact putSel_none (v:=undef) rfl),fun h0_=>absurd ((up_self b 5).symm.trans h0_) (by decide),(by (with_reducible repeat (first|refine blk_drewN ?_ _|refine blk_drew ?_|refine blk_alloc ?_ _));refine blk_far ?_ NB262_261.out _;(with_reducible repeat (first|refine blk_drewN ?_ _|refine blk_drew ?_|refine blk_alloc ?_ _));refine blk_far ?_ NB262_261.out _;(with_reducible repeat (first|refine blk_drewN ?_ _|refine blk_drew ?_|refine blk_alloc ?_ _));refine blk_far ?_ NB262_261.out _;(with_reducible repeat (first|refine blk_drewN ?_ _|refine blk_drew ?_|refine blk_alloc ?_ _));exact BK262.out),(by repeat (first|(with_reducible first|exact HB.out|apply below_alloc|apply pw_below_drewN|apply below_drew1|refine below_set ?_ GE261.out|refine below_set ?_ GE262.out)|exact HB.out)),fun _=>(by (with_reducible repeat (first|apply Kd.N_alloc|apply Kd.N_drewN|apply Kd.N_drew));exact Kd.N_mono (Kd.N_far (p:=⟨gb261,2,none⟩) (Kd.N_far (p:=⟨gb261,1,none⟩) (Kd.N_far (p:=⟨gb261,0,none⟩) (Kd.N_mono HO265.out (fun k_ hk=>(⟨hk,by simp only [ne_eq] at hk ⊢;revert hk;simp only [and_imp];intros;assumption⟩ : _ ∧ k_ ≠ gb261))) (fun _ hk=>hk.2) (.slice Ao19 t263.length co19)) (fun _ hk=>hk.2) (.slice Ao18 t266.length co18)) (fun _ hk=>hk.2) (.slice Ao17 y269.length co17)) (fun _ hk=>by first|exact ⟨hk.1.1,⟨hk.1.2.1,⟨hk.1.2.2.1,⟨hk.1.2.2.2.1,hk.1.2.2.2.2⟩⟩⟩⟩|(simp only [ne_eq] at hk ⊢;revert hk;simp only [and_imp];intros;(repeat' apply And.intro) <;> assumption))),fun _=>(by (with_reducible repeat (first|apply Kd.R_alloc|apply Kd.R_drewN|apply Kd.R_drew));exact Kd.R_mono (Kd.R_far (p:=⟨gb261,2,none⟩) (Kd.R_far (p:=⟨gb261,1,none⟩) (Kd.R_far (p:=⟨gb261,0,none⟩) (Kd.R_types HO268.out BK261.out (by decide)) (fun _ hk=>hk.2) (.slice Ao19 t263.length co19)) (fun _ hk=>hk.2) (.slice Ao18 t266.length co18)) (fun _ hk=>hk.2) (.slice Ao17 y269.length co17)) (fun _ hk=>hk.1)),fun _=>(by (with_reducible repeat (first|apply Kd.R_alloc|apply Kd.R_drewN|apply Kd.R_drew));exact Kd.R_mono (Kd.R_far (p:=⟨gb261,2,none⟩) (Kd.R_far (p:=⟨gb261,1,none⟩) (Kd.R_far (p:=⟨gb261,0,none⟩) (Kd.R_types HO271.out BK261.out (by decide)) (fun _ hk=>hk.2) (.slice Ao19 t263.length co19)) (fun _ hk=>hk.2) (.slice Ao18 t266.length co18)) (fun _ hk=>hk.2) (.slice Ao17 y269.length co17)) (fun _ hk=>by first|exact ⟨hk.1.1,hk.1.2⟩|(simp only [ne_eq] at hk ⊢;revert hk;simp only [and_imp];intros;(repeat' apply And.intro) <;> assumption))),fun _=>(by (with_reducible repeat (first|refine blk_drewN ?_ _|refine blk_drew ?_|refine blk_alloc ?_ _));refine blk_put (cs:=#[.slice Ao19 t263.length co19,.slice Ao18 t266.length co18,.slice none 0 0]) ?_ 2 _ rfl;(with_reducible repeat (first|refine blk_drewN ?_ _|refine blk_drew ?_|refine blk_alloc ?_ _));refine blk_put (cs:=#[.slice Ao19 t263.length co19,.slice none 0 0,.slice none 0 0]) ?_ 1 _ rfl;(with_reducible repeat (first|refine blk_drewN ?_ _|refine blk_drew ?_|refine blk_alloc ?_ _));refine blk_put (cs:=#[.slice none 0 0,.slice none 0 0,.slice none 0 0]) ?_ 0 _ rfl;(with_reducible repeat (first|refine blk_drewN ?_ _|refine blk_drew ?_|refine blk_alloc ?_ _));exact BK261.out),Q_X4_⟩
  exact steps_nil
 rintro b a w19 hall ⟨v264,v267,v270,m4_,ha,Q_BK261,Q_BK262,Q_HB,Q_HO265,Q_HO268,Q_HO271,Q_BK261_e5,Q_X4_⟩
 clear BK261 BK262 HB
 have hb0_:=hall 0 (by kernel_rfl)
 have hb1_:=hall 1 (by kernel_rfl)
 have hb2_:=hall 2 (by kernel_rfl)
 have hb3_:=hall 3 (by kernel_rfl)
 have hb4_:=hall 4 (by kernel_rfl)
 have hb5_:=hall 5 (by kernel_rfl)
 subst ha
 obtain rfl:=Q_X4_ hb4_
 simp only [putSel,hb0_,hb1_,hb2_,hb3_,hb4_,hb5_,if_true,Act.put,List.setIfInBounds_toArray,List.set_cons_zero,List.set_cons_succ]
 clear Q_BK261
 have BK262:=Aside0.mk Q_BK262
 clear Q_BK262
 have HB:=Aside0.mk Q_HB
 clear Q_HB
 have HO265:=Aside0.mk (Q_HO265 hb0_)
 clear Q_HO265
 have HO268:=Aside0.mk (Q_HO268 hb1_)
 clear Q_HO268
 have HO271:=Aside0.mk (Q_HO271 hb3_)
 clear Q_HO271
 have BK261:=Aside0.mk (Q_BK261_e5 hb5_)
 clear Q_BK261_e5
 clear hall hb0_ hb1_ hb2_ hb3_ hb4_ hb5_
 obtain ⟨Ao20,co20,eo20⟩:=Kd.R_slice HO271.out
 (first|subst eo20|(injection eo20 with f1_ f2_ f3_;have f4_:=f1_.symm;have f5_:=f3_.symm;clear f1_ f2_ f3_;subst f4_;subst f5_))
 obtain ⟨Ao21,co21,eo21⟩:=Kd.R_slice HO268.out
 (first|subst eo21|(injection eo21 with f1_ f2_ f3_;have f4_:=f1_.symm;have f5_:=f3_.symm;clear f1_ f2_ f3_;subst f4_;subst f5_))
 obtain ⟨Ao22,co22,eo22⟩:=Kd.N_slice HO265.out
 (first|subst eo22|(injection eo22 with f1_ f2_ f3_;have f4_:=f1_.symm;have f5_:=f3_.symm;clear f1_ f2_ f3_;subst f4_;subst f5_))
 try go_wp2
 refine bodyPost_ret (results_cell_row rfl _ _ gb261 26 #[.slice Ao22 t263.length co22,.slice Ao21 t266.length co21,.slice Ao20 y269.length co20] (0,0) _ rfl (by (with_reducible repeat (first|refine blk_drewN ?_ _|refine blk_drew ?_|refine blk_alloc ?_ _));exact BK261.out) Try.underlying26 rfl (by kernel_rfl)) rfl ?_
 exact ⟨_,_,_,by first|rfl|(simp [errW_none,errW_some] <;> rfl)|(simp [*,errW_none,errW_some] <;> rfl),by (with_reducible repeat (first|apply Kd.N_alloc|apply Kd.N_drewN|apply Kd.N_drew));exact Kd.N_mono HO265.out (fun _ hk=>hk.1),by (with_reducible repeat (first|apply Kd.R_alloc|apply Kd.R_drewN|apply Kd.R_drew));exact HO268.out,by (with_reducible repeat (first|apply Kd.R_alloc|apply Kd.R_drewN|apply Kd.R_drew));exact Kd.R_mono HO271.out (fun _ hk=>hk.1),by repeat (first|(with_reducible first|exact HB.out|apply below_alloc|apply pw_below_drewN|apply below_drew1|refine below_set ?_ GE261.out|refine below_set ?_ GE262.out)|exact HB.out)⟩
end Go.Proofs.Ytepnddmalheoiaa.Q
namespace Go.Proofs.Ytepnddmalheoiaa.Q
open Go.Proofs.Ytepnddmalheoiaa.H
open Go.RowKit Go.Proofs.YtepnddmalheoiaaW.PrintWords Go.Proofs.YtepnddmalheoiaaW.PrintLast Go.Proofs.YtepnddmalheoiaaW.PrintMore
set_option linter.unusedVariables false
set_option linter.unusedSimpArgs false
def exZ : List S42:=((pairinglaw9_example.f).getD ([],[],[])).1
def exP : List S39:=((pairinglaw9_example.f).getD ([],[],[])).2.1
def exF : List S36:=((pairinglaw9_example.f).getD ([],[],[])).2.2
theorem ex_f : pairinglaw9_example.f = some (exZ,exP,exF):=rfl
def exFr : List Int:=((timetable_Encode.f 60 exZ exP exF).getD ([],1)).1
theorem ex_enc : timetable_Encode.f 60 exZ exP exF = some (exFr,0):=by decide +kernel
def exD : List S42 × List S39 × List S36 × Int:=(timetable_Decode.f 60 exFr).getD ([],[],[],1)
theorem opt_getD {α : Type} {o : Option α} {d : α} (h : o.isSome = true) : o = some (o.getD d):=by
 cases o with
 | none=>cases h
 | some a=>rfl
theorem ex_dec : timetable_Decode.f 60 exFr = some exD:=opt_getD (by decide +kernel)
theorem ex_ok : exD.2.2.2 = 0:=by decide +kernel
theorem ex_len : exD.2.2.1.length = 1:=by decide +kernel
theorem ex_num : (rd_T36 exD.2.2.1 0).f0.toList = [83,75,49]:=by decide +kernel
theorem ex_no : timetable_Validate.f 60 [z42] [] [] = some 1:=by decide +kernel
def pairinglaw9_awake.f (k : Nat) : Option Bool:=if 100 ≤ k then some true else none
set_option maxHeartbeats 8000000 in
set_option maxRecDepth 100000 in
theorem awake_calls (w : World) : Calls Try.prog 10 #[] w fun e w'=>e = .returned (.bool true) ∧ Below w.heap.size w w':=by
 have hB:=Below.refl w.heap.size w
 have HB:=Aside0.mk hB
 clear hB
 go_enter Try.func10,Try.ntmps10
 go_wp2_with fail
 refine (pairinglaw9_example.calls exZ exP exF _ ex_f).mono ?_
 rintro e_ w1 ⟨v0,v1,v2,rfl,hN,hP,hF,hb1⟩
 obtain ⟨A0,c0,rfl,hl0,hC0⟩:=Kd.N_reads hN
 obtain ⟨A1,c1,rfl,hl1,hC1⟩:=Kd.R_reads hP
 obtain ⟨A2,c2,rfl,hl2,hC2⟩:=Kd.R_reads hF
 have H0:=Aside0.mk hC0
 have H1:=Aside0.mk hC1
 have H2:=Aside0.mk hC2
 have L0:=Aside0.mk hl0
 have L1:=Aside0.mk hl1
 have L2:=Aside0.mk hl2
 have HB1:=Aside0.mk (below_step HB.out hb1)
 clear hN hP hF hb1 hC0 hC1 hC2 hl0 hl1 hl2
 go_wp2_with fail
 refine (timetable_Encode.calls 60 _ _ exZ _ _ exP _ _ exF exFr 0 _ H0.out L0.out H1.out L1.out H2.out L2.out ex_enc).mono ?_
 rintro e_ w2 ⟨v,rfl,hR,hb2⟩
 obtain ⟨A3,c3,rfl,hl3,hC3⟩:=Kd.R_reads hR
 have H3:=Aside0.mk hC3
 have L3:=Aside0.mk hl3
 have HB2:=Aside0.mk (below_step HB1.out hb2)
 clear hR hb2 hC3 hl3
 go_wp2_with fail
 refine (timetable_Decode.calls 60 _ _ exFr exD.1 exD.2.1 exD.2.2.1 exD.2.2.2 _ H3.out L3.out ex_dec).mono ?_
 rintro e_ w3 ⟨u0,u1,u2,rfl,hS,hP,hF,hb3⟩
 rw [ex_ok]
 obtain ⟨A4,c4,rfl,hl4,hC4⟩:=Kd.S_reads hS
 obtain ⟨A5,c5,rfl,hl5,hC5⟩:=Kd.R_reads hP
 obtain ⟨A6,c6,rfl,hl6,hC6⟩:=Kd.R_reads hF
 obtain ⟨ad,e0,hx0,_⟩:=at_T36 hC6 0 (by omega) (by rw [ex_len];decide)
 cases e0
 have HB3:=Aside0.mk (below_step HB2.out hb3)
 clear hS hP hF hb3 hC4 hC5 hl4 hl5 hl6
 have hen:=ex_num
 have hex:=ex_len
 generalize rd_T36 exD.2.2.1 0 = f at *
 rw [hex] at hC6 ⊢
 have ha0 : ad.add (Int.toNat 0 * 9) = ad:=by simp [Addr.add]
 rw [ha0] at hx0
 have hxx:=fun (o : Obj)=>(below_alloc (Below.refl w3.heap.size w3) o).cell (World.block_lt_of_cell? w3 _ hx0)
 have hxy:=fun (o : Obj)=>(hxx o).trans hx0
 have HX:=Aside0.mk hxy
 clear hxx hx0
 have HX1:=HX.out (.cells #[.slice A4 exD.1.length c4,.slice A5 exD.2.1.length c5,.slice (some ad) 1 c6] 26 (0,0))
 have d1 : (f.f0.toList == [83,75,49]) = true:=by rw [hen];rfl
 clear hen hex
 clear hxy ha0
 go_wp2_with fail
 have hz : ∀ (W : World),Kd.C k42 (W.alloc (.cells #[.string ⟨#[]⟩,.int .i64 0,.slice none 0 0] 42 (0,0))) (some ⟨W.heap.size,0,none⟩) [z42].length [z42]:=by
  intro W
  refine ⟨rfl,by decide,fun _=>⟨_,rfl,fun j p hj=>?_⟩⟩
  have hj0 : j = 0:=by
   have:=(List.getElem?_eq_some_iff.1 hj).1
   simpa using this
  subst hj0
  obtain rfl : z42 = p:=by simpa using hj
  refine ⟨[.string ⟨#[]⟩,.int .i64 0,.slice none 0 0],rfl,k42_mk _ z42 (A2:=none) (c2:=0) (Nat.le_refl _) ⟨rfl,by decide,fun h=>absurd h (by decide)⟩,fun i u hu=>?_⟩
  have hb:=heap_alloc_new W (.cells #[.string ⟨#[]⟩,.int .i64 0,.slice none 0 0] 42 (0,0))
  have hi : i < 3:=(List.getElem?_eq_some_iff.1 hu).1
  have h3:=blk_cell hb (0 * 3 + i)
  have hs : k42.sz = 3:=rfl
  rw [hs,add_plain]
  refine h3.trans ?_
  match i,hi with
  | 0,_=>exact hu
  | 1,_=>exact hu
  | 2,_=>exact hu
 have hN : ∀ (W : World),Kd.C k39 W none ([] : List S39).length []:=fun W=>⟨rfl,by decide,fun h=>absurd h (by decide)⟩
 have hM : ∀ (W : World),Kd.C k36 W none ([] : List S36).length []:=fun W=>⟨rfl,by decide,fun h=>absurd h (by decide)⟩
 have HZ:=hz (w3.alloc (.cells #[.slice A4 exD.1.length c4,.slice A5 exD.2.1.length c5,.slice (some ad) 1 c6] 26 (0,0)))
 have hsz : (w3.alloc (.cells #[.slice A4 exD.1.length c4,.slice A5 exD.2.1.length c5,.slice (some ad) 1 c6] 26 (0,0))).heap.size = w3.heap.size + 1:=by simp
 rw [hsz] at HZ
 refine (timetable_Validate.calls 60 _ _ [z42] _ _ [] _ _ [] 1 _ HZ (Nat.le_refl _) (hN _) (Nat.le_refl _) (hM _) (Nat.le_refl _) ex_no).mono ?_
 rintro e_ w4 ⟨rfl,hb4⟩
 have HB4:=Aside0.mk (below_step (below_alloc (below_alloc HB3.out _) _) hb4)
 clear hb4 hz hN hM HZ hsz
 go_wp2
 go_ret
 exact ⟨rfl,HB4.out⟩
theorem pairinglaw9_awake.calls (k : Nat) (r : Bool) (w : World) (h : pairinglaw9_awake.f k = some r) : Calls Try.prog 10 #[] w fun e w'=>e = .returned (.bool r) ∧ Below w.heap.size w w':=by
 unfold pairinglaw9_awake.f at h
 split at h
 ·obtain rfl:=Option.some.inj h
  exact awake_calls w
 ·cases h
end Go.Proofs.Ytepnddmalheoiaa.Q
namespace Go.Proofs.Ytepnddmalheoiaa.Q
open Go.Proofs.Ytepnddmalheoiaa.H
open Go.RowKit Go.Proofs.YtepnddmalheoiaaW.PrintWords Go.Proofs.YtepnddmalheoiaaW.PrintLast Go.Proofs.YtepnddmalheoiaaW.PrintMore
attribute [local go_sem] str_leq str_geq str_gtr max2_int min2_int max_two min_two max_three min_three max_four min_four   -- for this text's walks alone
set_option linter.unusedVariables false
set_option linter.unusedSimpArgs false
def pairinglaw9_TimetableValid.f (k : Nat) (l0_0 : List (S42)) (l0_1 : List (S39)) (l0_2 : List (S36)) : Option (Bool):=(pairinglaw9_Light.f k l0_0 l0_1 l0_2).bind fun t327=>(if t327 = true then ((timetable_Validate.f k l0_0 l0_1 l0_2).bind fun t328=>((pairingref9_Validate.f k l0_0 l0_1 l0_2).bind fun t329=>(if t328 = t329 then ((pairinglaw9_awake.f k).bind fun t330=>(some t330)) else (some false)))) else ((pairinglaw9_awake.f k).bind fun t331=>(some t331)))
def pairinglaw9_TimetableValid.T3 : Bool × List (List Nat × List Nat):=(true,[([],[]),([0],[0]),([],[]),([2,1],[2]),([1,3],[1,3]),([4,3],[4]),([5,5],[5]),([5,6],[5,6]),([7,6,0,1,2,3,4,5,6,7],[7])])
def pairinglaw9_TimetableValid.B3 : List Nat:=[0,1,0,7,15,31,63,127,255]
theorem pairinglaw9_TimetableValid.tab3 : rtab .any (opsOf Try.f3 3) = pairinglaw9_TimetableValid.T3:=by kernel_rfl
theorem pairinglaw9_TimetableValid.bits3 : waitsOk pairinglaw9_TimetableValid.T3.2 pairinglaw9_TimetableValid.B3 = true:=by kernel_rfl
set_option maxHeartbeats 8000000 in
set_option maxRecDepth 100000 in
theorem pairinglaw9_TimetableValid.calls (k : Nat) (A0_0 : Option Addr) (c0_0 : Nat) (l0_0 : List (S42)) (A0_1 : Option Addr) (c0_1 : Nat) (l0_1 : List (S39)) (A0_2 : Option Addr) (c0_2 : Nat) (l0_2 : List (S36)) (r : Bool) (w : World) (hr0_0 : Kd.C k42 w A0_0 l0_0.length l0_0) (hc0_0 : l0_0.length ≤ c0_0) (hr0_1 : Kd.C k39 w A0_1 l0_1.length l0_1) (hc0_1 : l0_1.length ≤ c0_1) (hr0_2 : Kd.C k36 w A0_2 l0_2.length l0_2) (hc0_2 : l0_2.length ≤ c0_2) (h : pairinglaw9_TimetableValid.f k l0_0 l0_1 l0_2 = some r) :
  Calls Try.prog 3 #[.agg #[.slice A0_0 l0_0.length c0_0,.slice A0_1 l0_1.length c0_1,.slice A0_2 l0_2.length c0_2]] w fun e w'=>e = .returned (.bool r) ∧ Below w.heap.size w w':=by
 have hu26:=Try.underlying26
 have HR0_0:=Aside0.mk hr0_0
 have HC0_0:=Aside0.mk hc0_0
 clear hr0_0 hc0_0
 have HR0_1:=Aside0.mk hr0_1
 have HC0_1:=Aside0.mk hc0_1
 clear hr0_1 hc0_1
 have HR0_2:=Aside0.mk hr0_2
 have HC0_2:=Aside0.mk hc0_2
 clear hr0_2 hc0_2
 have HB:=Aside0.mk (Below.refl w.heap.size w)
 have H : ((pairinglaw9_Light.f k l0_0 l0_1 l0_2).bind fun t327=>(if t327 = true then ((timetable_Validate.f k l0_0 l0_1 l0_2).bind fun t328=>((pairingref9_Validate.f k l0_0 l0_1 l0_2).bind fun t329=>(if t328 = t329 then ((pairinglaw9_awake.f k).bind fun t330=>(some t330)) else (some false)))) else ((pairinglaw9_awake.f k).bind fun t331=>(some t331)))) = some r:=h
 clear h
 replace H:=Option.bind_eq_some_iff.mp H
 obtain ⟨t327,A20,H⟩:=H
 replace H : (if t327 = true then ((timetable_Validate.f k l0_0 l0_1 l0_2).bind fun t328=>((pairingref9_Validate.f k l0_0 l0_1 l0_2).bind fun t329=>(if t328 = t329 then ((pairinglaw9_awake.f k).bind fun t330=>(some t330)) else (some false)))) else ((pairinglaw9_awake.f k).bind fun t331=>(some t331))) = some r:=H
 have A2:=Aside0.mk A20
 clear A20
 by_cases c3 : t327 = true
 ·subst c3
  have H1 : ((timetable_Validate.f k l0_0 l0_1 l0_2).bind fun t328=>((pairingref9_Validate.f k l0_0 l0_1 l0_2).bind fun t329=>(if t328 = t329 then ((pairinglaw9_awake.f k).bind fun t330=>(some t330)) else (some false)))) = some r:=by rw [if_pos rfl] at H;exact H
  clear H
  have H:=H1
  clear H1
  replace H:=Option.bind_eq_some_iff.mp H
  obtain ⟨t328,A40,H⟩:=H
  replace H : ((pairingref9_Validate.f k l0_0 l0_1 l0_2).bind fun t329=>(if t328 = t329 then ((pairinglaw9_awake.f k).bind fun t330=>(some t330)) else (some false))) = some r:=H
  have A4:=Aside0.mk A40
  clear A40
  replace H:=Option.bind_eq_some_iff.mp H
  obtain ⟨t329,A50,H⟩:=H
  replace H : (if t328 = t329 then ((pairinglaw9_awake.f k).bind fun t330=>(some t330)) else (some false)) = some r:=H
  have A5:=Aside0.mk A50
  clear A50
  by_cases c6 : t328 = t329
  ·rw [if_pos c6] at H
   have c6b0 : (t328 == t329) = true:=beq_iff_eq.mpr c6
   have c6b1 : (t328 != t329) = false:=bne_eq_false_iff_eq.mpr c6
   clear c6
   replace H:=Option.bind_eq_some_iff.mp H
   obtain ⟨t330,A70,H⟩:=H
   replace H : (some t330) = some r:=H
   have A7:=Aside0.mk A70
   clear A70
   obtain rfl:=Option.some.inj H
   go_enter Try.func3,Try.ntmps3
   try go_wp2_with (first|((with_reducible refine gate_dst (N:=1) rfl ?_);refine box_event ?hg (N:=1) ?hd (cs:=#[.slice A0_0 l0_0.length c0_0,.slice A0_1 l0_1.length c0_1,.slice A0_2 l0_2.length c0_2]) (t:=26) ?hr ?_;(case hd=>rfl);(case hg=>rfl);(case hr=>first|(go_simp;done)|(go_simp;rfl));intro gb326 hg w8 hbox hb;have n0_:=Aside0.mk (below_step (by repeat (first|(with_reducible first|exact HB.out|apply below_alloc|apply pw_below_drewN|apply below_drew1)|exact HB.out)) hb);have n1_:=Aside0.mk (hbox);have n2_:=Aside0.mk ((by rw [hg];exact (below_size (by repeat (first|(with_reducible first|exact HB.out|apply below_alloc|apply pw_below_drewN|apply below_drew1)|exact HB.out))) : w.heap.size ≤ gb326));have n3_:=Aside0.mk ((by rw [hg];exact (below_size (by repeat (first|(with_reducible first|exact HB.out|apply below_alloc|apply pw_below_drewN|apply below_drew1)|exact HB.out))) : w.heap.size ≤ gb326));clear HB;have HB:=n0_;have BK326:=n1_;have GW326:=n2_;have GE326:=n3_;clear n0_ n1_ n2_ n3_;clear hb hbox hg;have hcz9_0 : w8.cell? ⟨gb326,0,none⟩ = some (.slice A0_0 l0_0.length c0_0):=(blk_cell BK326.out 0).trans rfl;have hcz9_1 : w8.cell? ⟨gb326,1,none⟩ = some (.slice A0_1 l0_1.length c0_1):=(blk_cell BK326.out 1).trans rfl;have hcz9_2 : w8.cell? ⟨gb326,2,none⟩ = some (.slice A0_2 l0_2.length c0_2):=(blk_cell BK326.out 2).trans rfl;have hfz9_0:=blk_frozen BK326.out 0;have hfz9_1:=blk_frozen BK326.out 1;have hfz9_2:=blk_frozen BK326.out 2)|((with_reducible refine gate_callee (f:=9) rfl ?_);refine goesL_ (some 4) rfl rfl Try.func9 (by kernel_rfl) rfl #[.agg #[.slice A0_0 l0_0.length c0_0,.slice A0_1 l0_1.length c0_1,.slice A0_2 l0_2.length c0_2]] rfl (by (try simp only [List.map_toArray,List.map_cons,List.map_nil]);first|done|rfl|(simp only [List.length_drop,List.length_take];rfl)) ?_;(with_reducible refine (pairinglaw9_Light.calls k _ _ l0_0 _ _ l0_1 _ _ l0_2 true _ ?side1 ?side2 ?side3 ?side4 ?side5 ?side6 A2.out).mono ?_);(case side1=>repeat (first|exact (Kd.C_below HR0_0.out HB.out)|(with_reducible refine Kd.C_alloc ?_ _)|(with_reducible refine Kd.C_drewN ?_ _)|(with_reducible refine Kd.C_drew ?_)));(case side2=>exact HC0_0.out);(case side3=>repeat (first|exact (Kd.C_below HR0_1.out HB.out)|(with_reducible refine Kd.C_alloc ?_ _)|(with_reducible refine Kd.C_drewN ?_ _)|(with_reducible refine Kd.C_drew ?_)));(case side4=>exact HC0_1.out);(case side5=>repeat (first|exact (Kd.C_below HR0_2.out HB.out)|(with_reducible refine Kd.C_alloc ?_ _)|(with_reducible refine Kd.C_drewN ?_ _)|(with_reducible refine Kd.C_drew ?_)));(case side6=>exact HC0_2.out);rintro e w10 ⟨rfl,hb⟩;refine ⟨_,rfl,?_⟩;have n0_:=Aside0.mk (blk_below (g:=gb326) (o:=.cells #[.slice A0_0 l0_0.length c0_0,.slice A0_1 l0_1.length c0_1,.slice A0_2 l0_2.length c0_2] 26 (0,0)) (by (with_reducible repeat (first|refine blk_drewN ?_ _|refine blk_drew ?_|refine blk_alloc ?_ _));exact BK326.out) hb);have n1_:=Aside0.mk (below_step (by repeat (first|(with_reducible first|exact HB.out|apply below_alloc|apply pw_below_drewN|apply below_drew1|refine below_set ?_ GE326.out)|exact HB.out)) hb);clear BK326;clear HB;have BK326:=n0_;have HB:=n1_;clear n0_ n1_;(try clear hb);(try clear hb2);(try clear hk);(try clear hi)))
   have n0_:=Aside0.mk (blk_drew BK326.out)
   have n1_:=Aside0.mk (below_drew1 HB.out)
   clear BK326
   clear HB
   have BK326:=n0_
   have HB:=n1_
   clear n0_ n1_
   refine start_ (n:=9) (S:=fun w'=>w'.cell? ⟨gb326,0,none⟩ = some (.slice A0_0 l0_0.length c0_0) ∧ w'.cell? ⟨gb326,1,none⟩ = some (.slice A0_1 l0_1.length c0_1) ∧ w'.cell? ⟨gb326,2,none⟩ = some (.slice A0_2 l0_2.length c0_2)) (ds:=[]) #[false,false,false,false,false,false,false,false,false] (by kernel_rfl) rfl rfl ⟨(blk_cell BK326.out 0).trans rfl,(blk_cell BK326.out 1).trans rfl,(blk_cell BK326.out 2).trans rfl⟩ (fun hHeld=>?_);refine with_tabW pairinglaw9_TimetableValid.tab3 pairinglaw9_TimetableValid.bits3 (fun HT_ HW_=>?_)
   generalize w10.drew = w11 at BK326 HB hHeld ⊢
   refine take_ (i:=0) (N:=some 7) (v:=?_) (a':=?_) #[true,false,false,false,false,false,false,false,false] rfl rfl (take_ofW HT_.out HW_.out (by kernel_rfl)) (fun _ _ _ h=>h) (Or.inl ⟨by rfl,?_⟩) hHeld ?_ ?_
   rotate_left
   ·rintro w' ⟨s0,s1,s2⟩
    go_simp
    with_reducible rfl
   rotate_left
   ·simp only [Act.put,List.setIfInBounds_toArray,List.set_cons_zero,List.set_cons_succ,i64_w,i32_w]
    rfl
   refine take_ (i:=2) (N:=some 9) (v:=?_) (a':=?_) #[true,false,true,false,false,false,false,false,false] rfl rfl (take_ofW HT_.out HW_.out (by kernel_rfl)) (fun _ _ _ h=>h) (Or.inl ⟨by rfl,?_⟩) hHeld ?_ ?_
   rotate_left
   ·rintro w' ⟨s0,s1,s2⟩
    go_simp
    with_reducible rfl
   rotate_left
   ·simp only [Act.put,List.setIfInBounds_toArray,List.set_cons_zero,List.set_cons_succ,i64_w,i32_w]
    rfl
   refine one_ (i:=1) (N:=some 8) #[true,true,true,false,false,false,false,false,false] rfl rfl (one_of HT_.out (by kernel_rfl)) (by decide) (fun K hK=>?_)
   refine goes_ Try.func11 (by kernel_rfl) rfl #[.agg #[.slice A0_0 l0_0.length c0_0,.slice A0_1 l0_1.length c0_1,.slice A0_2 l0_2.length c0_2]] (by rfl) rfl rfl (by (try simp only [List.map_toArray,List.map_cons,List.map_nil]);first|done|rfl|(simp only [List.length_drop,List.length_take];rfl)) ?_
   with_reducible refine (timetable_Validate.calls k _ _ l0_0 _ _ l0_1 _ _ l0_2 t328 _ ?side1 ?side2 ?side3 ?side4 ?side5 ?side6 A4.out).mono ?_
   (case side1=>repeat (first|exact (Kd.C_below HR0_0.out HB.out)|(with_reducible refine Kd.C_alloc ?_ _)|(with_reducible refine Kd.C_drewN ?_ _)|(with_reducible refine Kd.C_drew ?_)))
   (case side2=>exact HC0_0.out)
   (case side3=>repeat (first|exact (Kd.C_below HR0_1.out HB.out)|(with_reducible refine Kd.C_alloc ?_ _)|(with_reducible refine Kd.C_drewN ?_ _)|(with_reducible refine Kd.C_drew ?_)))
   (case side4=>exact HC0_1.out)
   (case side5=>repeat (first|exact (Kd.C_below HR0_2.out HB.out)|(with_reducible refine Kd.C_alloc ?_ _)|(with_reducible refine Kd.C_drewN ?_ _)|(with_reducible refine Kd.C_drew ?_)))
   (case side6=>exact HC0_2.out)
   rintro e w12 ⟨rfl,hb⟩
   refine ⟨_,rfl,?_⟩
   have n0_:=Aside0.mk (blk_below (g:=gb326) (o:=.cells #[.slice A0_0 l0_0.length c0_0,.slice A0_1 l0_1.length c0_1,.slice A0_2 l0_2.length c0_2] 26 (0,0)) (by (with_reducible repeat (first|refine blk_drewN ?_ _|refine blk_drew ?_|refine blk_alloc ?_ _));exact BK326.out) hb)
   have n1_:=Aside0.mk (below_step (by repeat (first|(with_reducible first|exact HB.out|apply below_alloc|apply pw_below_drewN|apply below_drew1|refine below_set ?_ GE326.out)|exact HB.out)) hb)
   clear BK326
   clear HB
   have BK326:=n0_
   have HB:=n1_
   clear n0_ n1_
   (try clear hb)
   (try clear hb2)
   (try clear hk)
   (try clear hi)
   refine hK.out _ _ ⟨(blk_cell BK326.out 0).trans rfl,(blk_cell BK326.out 1).trans rfl,(blk_cell BK326.out 2).trans rfl⟩ (fun hHeld=>?_)
   clear hK K
   refine norm_ (a':=?_) ?_ ?_
   rotate_left
   ·show Act.put _ (some 8) _ = _
    simp only [Act.put,List.setIfInBounds_toArray,List.set_cons_zero,List.set_cons_succ,i64_w,i32_w]
    rfl
   refine one_ (i:=3) (N:=some 10) #[true,true,true,true,false,false,false,false,false] rfl rfl (one_of HT_.out (by kernel_rfl)) (by decide) (fun K hK=>?_)
   refine goes_ Try.func12 (by kernel_rfl) rfl #[.agg #[.slice A0_0 l0_0.length c0_0,.slice A0_1 l0_1.length c0_1,.slice A0_2 l0_2.length c0_2]] (by rfl) rfl rfl (by (try simp only [List.map_toArray,List.map_cons,List.map_nil]);first|done|rfl|(simp only [List.length_drop,List.length_take];rfl)) ?_
   with_reducible refine (pairingref9_Validate.calls k _ _ l0_0 _ _ l0_1 _ _ l0_2 t329 _ ?side1 ?side2 ?side3 ?side4 ?side5 ?side6 A5.out).mono ?_
   (case side1=>repeat (first|exact (Kd.C_below HR0_0.out HB.out)|(with_reducible refine Kd.C_alloc ?_ _)|(with_reducible refine Kd.C_drewN ?_ _)|(with_reducible refine Kd.C_drew ?_)))
   (case side2=>exact HC0_0.out)
   (case side3=>repeat (first|exact (Kd.C_below HR0_1.out HB.out)|(with_reducible refine Kd.C_alloc ?_ _)|(with_reducible refine Kd.C_drewN ?_ _)|(with_reducible refine Kd.C_drew ?_)))
   (case side4=>exact HC0_1.out)
   (case side5=>repeat (first|exact (Kd.C_below HR0_2.out HB.out)|(with_reducible refine Kd.C_alloc ?_ _)|(with_reducible refine Kd.C_drewN ?_ _)|(with_reducible refine Kd.C_drew ?_)))
   (case side6=>exact HC0_2.out)
   rintro e w13 ⟨rfl,hb⟩
   refine ⟨_,rfl,?_⟩
   have n0_:=Aside0.mk (blk_below (g:=gb326) (o:=.cells #[.slice A0_0 l0_0.length c0_0,.slice A0_1 l0_1.length c0_1,.slice A0_2 l0_2.length c0_2] 26 (0,0)) (by (with_reducible repeat (first|refine blk_drewN ?_ _|refine blk_drew ?_|refine blk_alloc ?_ _));exact BK326.out) hb)
   have n1_:=Aside0.mk (below_step (by repeat (first|(with_reducible first|exact HB.out|apply below_alloc|apply pw_below_drewN|apply below_drew1|refine below_set ?_ GE326.out)|exact HB.out)) hb)
   clear BK326
   clear HB
   have BK326:=n0_
   have HB:=n1_
   clear n0_ n1_
   (try clear hb)
   (try clear hb2)
   (try clear hk)
   (try clear hi)
   refine hK.out _ _ ⟨(blk_cell BK326.out 0).trans rfl,(blk_cell BK326.out 1).trans rfl,(blk_cell BK326.out 2).trans rfl⟩ (fun hHeld=>?_)
   clear hK K
   refine norm_ (a':=?_) ?_ ?_
   rotate_left
   ·show Act.put _ (some 10) _ = _
    simp only [Act.put,List.setIfInBounds_toArray,List.set_cons_zero,List.set_cons_succ,i64_w,i32_w]
    rfl
   refine pure_ (i:=4) (N:=some 11) (v:=?_) (a':=?_) #[true,true,true,true,true,false,false,false,false] rfl rfl (any_of HT_.out (by kernel_rfl)) (fun _ _ _ h=>h) (Or.inl ⟨by rfl,?_⟩) ?_ ?_
   rotate_left
   ·intro w'
    go_simp
    with_reducible rfl
   rotate_left
   ·simp only [Act.put,List.setIfInBounds_toArray,List.set_cons_zero,List.set_cons_succ,i64_w,i32_w]
    rfl
   refine pure_ (i:=5) (N:=some 12) (v:=?_) (a':=?_) #[true,true,true,true,true,true,false,false,false] rfl rfl (any_of HT_.out (by kernel_rfl)) (fun _ _ _ h=>h) (Or.inl ⟨by rfl,?_⟩) ?_ ?_
   rotate_left
   ·intro w'
    go_simp
    with_reducible rfl
   rotate_left
   ·simp only [Act.put,List.setIfInBounds_toArray,List.set_cons_zero,List.set_cons_succ,i64_w,i32_w]
    rfl
   refine one_ (i:=6) (N:=some 13) #[true,true,true,true,true,true,true,false,false] rfl rfl (one_of HT_.out (by kernel_rfl)) (by decide) (fun K hK=>?_)
   refine goes_ Try.func10 (by kernel_rfl) rfl #[] (by rfl) rfl rfl (by (try simp only [List.map_toArray,List.map_cons,List.map_nil]);first|done|rfl|(simp only [List.length_drop,List.length_take];rfl)) ?_
   with_reducible refine (pairinglaw9_awake.calls k  t330 _ A7.out).mono ?_
   rintro e w14 ⟨rfl,hb⟩
   refine ⟨_,rfl,?_⟩
   have n0_:=Aside0.mk (blk_below (g:=gb326) (o:=.cells #[.slice A0_0 l0_0.length c0_0,.slice A0_1 l0_1.length c0_1,.slice A0_2 l0_2.length c0_2] 26 (0,0)) (by (with_reducible repeat (first|refine blk_drewN ?_ _|refine blk_drew ?_|refine blk_alloc ?_ _));exact BK326.out) hb)
   have n1_:=Aside0.mk (below_step (by repeat (first|(with_reducible first|exact HB.out|apply below_alloc|apply pw_below_drewN|apply below_drew1|refine below_set ?_ GE326.out)|exact HB.out)) hb)
   clear BK326
   clear HB
   have BK326:=n0_
   have HB:=n1_
   clear n0_ n1_
   (try clear hb)
   (try clear hb2)
   (try clear hk)
   (try clear hi)
   refine hK.out _ _ ⟨(blk_cell BK326.out 0).trans rfl,(blk_cell BK326.out 1).trans rfl,(blk_cell BK326.out 2).trans rfl⟩ (fun hHeld=>?_)
   clear hK K
   refine norm_ (a':=?_) ?_ ?_
   rotate_left
   ·show Act.put _ (some 13) _ = _
    simp only [Act.put,List.setIfInBounds_toArray,List.set_cons_zero,List.set_cons_succ,i64_w,i32_w]
    rfl
   refine pure_ (i:=7) (N:=some 14) (v:=?_) (a':=?_) #[true,true,true,true,true,true,true,true,false] rfl rfl (any_of HT_.out (by kernel_rfl)) (fun _ _ _ h=>h) (Or.inl ⟨by rfl,?_⟩) ?_ ?_
   rotate_left
   ·intro w'
    go_simp
    with_reducible rfl
   rotate_left
   ·simp only [Act.put,List.setIfInBounds_toArray,List.set_cons_zero,List.set_cons_succ,i64_w,i32_w]
    rfl
   refine pure_ (i:=8) (N:=some 2) (v:=?_) (a':=?_) #[true,true,true,true,true,true,true,true,true] rfl rfl (any_of HT_.out (by kernel_rfl)) (fun _ _ _ h=>h) (Or.inl ⟨by rfl,?_⟩) ?_ ?_
   rotate_left
   ·intro w'
    go_simp
    with_reducible rfl
   rotate_left
   ·simp only [Act.put,List.setIfInBounds_toArray,List.set_cons_zero,List.set_cons_succ,i64_w,i32_w]
    rfl
   refine done_ (done_of HT_.out (by kernel_rfl)) ?_
   try go_wp2
   go_ret
   exact ⟨by first|rfl|(simp [errW_none,errW_some] <;> rfl)|(simp [*,errW_none,errW_some] <;> rfl),by repeat (first|(with_reducible first|exact HB.out|apply below_alloc|apply pw_below_drewN|apply below_drew1|refine below_set ?_ GE326.out)|exact HB.out)⟩
  ·rw [if_neg c6] at H
   have c6b0 : (t328 == t329) = false:=beq_eq_false_iff_ne.mpr c6
   have c6b1 : (t328 != t329) = true:=bne_iff_ne.mpr c6
   obtain rfl:=Option.some.inj H
   go_enter Try.func3,Try.ntmps3
   try go_wp2_with (first|((with_reducible refine gate_dst (N:=1) rfl ?_);refine box_event ?hg (N:=1) ?hd (cs:=#[.slice A0_0 l0_0.length c0_0,.slice A0_1 l0_1.length c0_1,.slice A0_2 l0_2.length c0_2]) (t:=26) ?hr ?_;(case hd=>rfl);(case hg=>rfl);(case hr=>first|(go_simp;done)|(go_simp;rfl));intro gb326 hg w15 hbox hb;have n0_:=Aside0.mk (below_step (by repeat (first|(with_reducible first|exact HB.out|apply below_alloc|apply pw_below_drewN|apply below_drew1)|exact HB.out)) hb);have n1_:=Aside0.mk (hbox);have n2_:=Aside0.mk ((by rw [hg];exact (below_size (by repeat (first|(with_reducible first|exact HB.out|apply below_alloc|apply pw_below_drewN|apply below_drew1)|exact HB.out))) : w.heap.size ≤ gb326));have n3_:=Aside0.mk ((by rw [hg];exact (below_size (by repeat (first|(with_reducible first|exact HB.out|apply below_alloc|apply pw_below_drewN|apply below_drew1)|exact HB.out))) : w.heap.size ≤ gb326));clear HB;have HB:=n0_;have BK326:=n1_;have GW326:=n2_;have GE326:=n3_;clear n0_ n1_ n2_ n3_;clear hb hbox hg;have hcz16_0 : w15.cell? ⟨gb326,0,none⟩ = some (.slice A0_0 l0_0.length c0_0):=(blk_cell BK326.out 0).trans rfl;have hcz16_1 : w15.cell? ⟨gb326,1,none⟩ = some (.slice A0_1 l0_1.length c0_1):=(blk_cell BK326.out 1).trans rfl;have hcz16_2 : w15.cell? ⟨gb326,2,none⟩ = some (.slice A0_2 l0_2.length c0_2):=(blk_cell BK326.out 2).trans rfl;have hfz16_0:=blk_frozen BK326.out 0;have hfz16_1:=blk_frozen BK326.out 1;have hfz16_2:=blk_frozen BK326.out 2)|((with_reducible refine gate_callee (f:=9) rfl ?_);refine goesL_ (some 4) rfl rfl Try.func9 (by kernel_rfl) rfl #[.agg #[.slice A0_0 l0_0.length c0_0,.slice A0_1 l0_1.length c0_1,.slice A0_2 l0_2.length c0_2]] rfl (by (try simp only [List.map_toArray,List.map_cons,List.map_nil]);first|done|rfl|(simp only [List.length_drop,List.length_take];rfl)) ?_;(with_reducible refine (pairinglaw9_Light.calls k _ _ l0_0 _ _ l0_1 _ _ l0_2 true _ ?side1 ?side2 ?side3 ?side4 ?side5 ?side6 A2.out).mono ?_);(case side1=>repeat (first|exact (Kd.C_below HR0_0.out HB.out)|(with_reducible refine Kd.C_alloc ?_ _)|(with_reducible refine Kd.C_drewN ?_ _)|(with_reducible refine Kd.C_drew ?_)));(case side2=>exact HC0_0.out);(case side3=>repeat (first|exact (Kd.C_below HR0_1.out HB.out)|(with_reducible refine Kd.C_alloc ?_ _)|(with_reducible refine Kd.C_drewN ?_ _)|(with_reducible refine Kd.C_drew ?_)));(case side4=>exact HC0_1.out);(case side5=>repeat (first|exact (Kd.C_below HR0_2.out HB.out)|(with_reducible refine Kd.C_alloc ?_ _)|(with_reducible refine Kd.C_drewN ?_ _)|(with_reducible refine Kd.C_drew ?_)));(case side6=>exact HC0_2.out);rintro e w17 ⟨rfl,hb⟩;refine ⟨_,rfl,?_⟩;have n0_:=Aside0.mk (blk_below (g:=gb326) (o:=.cells #[.slice A0_0 l0_0.length c0_0,.slice A0_1 l0_1.length c0_1,.slice A0_2 l0_2.length c0_2] 26 (0,0)) (by (with_reducible repeat (first|refine blk_drewN ?_ _|refine blk_drew ?_|refine blk_alloc ?_ _));exact BK326.out) hb);have n1_:=Aside0.mk (below_step (by repeat (first|(with_reducible first|exact HB.out|apply below_alloc|apply pw_below_drewN|apply below_drew1|refine below_set ?_ GE326.out)|exact HB.out)) hb);clear BK326;clear HB;have BK326:=n0_;have HB:=n1_;clear n0_ n1_;(try clear hb);(try clear hb2);(try clear hk);(try clear hi)))
   have n0_:=Aside0.mk (blk_drew BK326.out)
   have n1_:=Aside0.mk (below_drew1 HB.out)
   clear BK326
   clear HB
   have BK326:=n0_
   have HB:=n1_
   clear n0_ n1_
   refine start_ (n:=9) (S:=fun w'=>w'.cell? ⟨gb326,0,none⟩ = some (.slice A0_0 l0_0.length c0_0) ∧ w'.cell? ⟨gb326,1,none⟩ = some (.slice A0_1 l0_1.length c0_1) ∧ w'.cell? ⟨gb326,2,none⟩ = some (.slice A0_2 l0_2.length c0_2)) (ds:=[]) #[false,false,false,false,false,false,false,false,false] (by kernel_rfl) rfl rfl ⟨(blk_cell BK326.out 0).trans rfl,(blk_cell BK326.out 1).trans rfl,(blk_cell BK326.out 2).trans rfl⟩ (fun hHeld=>?_);refine with_tabW pairinglaw9_TimetableValid.tab3 pairinglaw9_TimetableValid.bits3 (fun HT_ HW_=>?_)
   generalize w17.drew = w18 at BK326 HB hHeld ⊢
   refine take_ (i:=0) (N:=some 7) (v:=?_) (a':=?_) #[true,false,false,false,false,false,false,false,false] rfl rfl (take_ofW HT_.out HW_.out (by kernel_rfl)) (fun _ _ _ h=>h) (Or.inl ⟨by rfl,?_⟩) hHeld ?_ ?_
   rotate_left
   ·rintro w' ⟨s0,s1,s2⟩
    go_simp
    with_reducible rfl
   rotate_left
   ·simp only [Act.put,List.setIfInBounds_toArray,List.set_cons_zero,List.set_cons_succ,i64_w,i32_w]
    rfl
   refine take_ (i:=2) (N:=some 9) (v:=?_) (a':=?_) #[true,false,true,false,false,false,false,false,false] rfl rfl (take_ofW HT_.out HW_.out (by kernel_rfl)) (fun _ _ _ h=>h) (Or.inl ⟨by rfl,?_⟩) hHeld ?_ ?_
   rotate_left
   ·rintro w' ⟨s0,s1,s2⟩
    go_simp
    with_reducible rfl
   rotate_left
   ·simp only [Act.put,List.setIfInBounds_toArray,List.set_cons_zero,List.set_cons_succ,i64_w,i32_w]
    rfl
   refine one_ (i:=1) (N:=some 8) #[true,true,true,false,false,false,false,false,false] rfl rfl (one_of HT_.out (by kernel_rfl)) (by decide) (fun K hK=>?_)
   refine goes_ Try.func11 (by kernel_rfl) rfl #[.agg #[.slice A0_0 l0_0.length c0_0,.slice A0_1 l0_1.length c0_1,.slice A0_2 l0_2.length c0_2]] (by rfl) rfl rfl (by (try simp only [List.map_toArray,List.map_cons,List.map_nil]);first|done|rfl|(simp only [List.length_drop,List.length_take];rfl)) ?_
   with_reducible refine (timetable_Validate.calls k _ _ l0_0 _ _ l0_1 _ _ l0_2 t328 _ ?side1 ?side2 ?side3 ?side4 ?side5 ?side6 A4.out).mono ?_
   (case side1=>repeat (first|exact (Kd.C_below HR0_0.out HB.out)|(with_reducible refine Kd.C_alloc ?_ _)|(with_reducible refine Kd.C_drewN ?_ _)|(with_reducible refine Kd.C_drew ?_)))
   (case side2=>exact HC0_0.out)
   (case side3=>repeat (first|exact (Kd.C_below HR0_1.out HB.out)|(with_reducible refine Kd.C_alloc ?_ _)|(with_reducible refine Kd.C_drewN ?_ _)|(with_reducible refine Kd.C_drew ?_)))
   (case side4=>exact HC0_1.out)
   (case side5=>repeat (first|exact (Kd.C_below HR0_2.out HB.out)|(with_reducible refine Kd.C_alloc ?_ _)|(with_reducible refine Kd.C_drewN ?_ _)|(with_reducible refine Kd.C_drew ?_)))
   (case side6=>exact HC0_2.out)
   rintro e w19 ⟨rfl,hb⟩
   refine ⟨_,rfl,?_⟩
   have n0_:=Aside0.mk (blk_below (g:=gb326) (o:=.cells #[.slice A0_0 l0_0.length c0_0,.slice A0_1 l0_1.length c0_1,.slice A0_2 l0_2.length c0_2] 26 (0,0)) (by (with_reducible repeat (first|refine blk_drewN ?_ _|refine blk_drew ?_|refine blk_alloc ?_ _));exact BK326.out) hb)
   have n1_:=Aside0.mk (below_step (by repeat (first|(with_reducible first|exact HB.out|apply below_alloc|apply pw_below_drewN|apply below_drew1|refine below_set ?_ GE326.out)|exact HB.out)) hb)
   clear BK326
   clear HB
   have BK326:=n0_
   have HB:=n1_
   clear n0_ n1_
   (try clear hb)
   (try clear hb2)
   (try clear hk)
   (try clear hi)
   refine hK.out _ _ ⟨(blk_cell BK326.out 0).trans rfl,(blk_cell BK326.out 1).trans rfl,(blk_cell BK326.out 2).trans rfl⟩ (fun hHeld=>?_)
   clear hK K
   refine norm_ (a':=?_) ?_ ?_
   rotate_left
   ·show Act.put _ (some 8) _ = _
    simp only [Act.put,List.setIfInBounds_toArray,List.set_cons_zero,List.set_cons_succ,i64_w,i32_w]
    rfl
   refine one_ (i:=3) (N:=some 10) #[true,true,true,true,false,false,false,false,false] rfl rfl (one_of HT_.out (by kernel_rfl)) (by decide) (fun K hK=>?_)
   refine goes_ Try.func12 (by kernel_rfl) rfl #[.agg #[.slice A0_0 l0_0.length c0_0,.slice A0_1 l0_1.length c0_1,.slice A0_2 l0_2.length c0_2]] (by rfl) rfl rfl (by (try simp only [List.map_toArray,List.map_cons,List.map_nil]);first|done|rfl|(simp only [List.length_drop,List.length_take];rfl)) ?_
   with_reducible refine (pairingref9_Validate.calls k _ _ l0_0 _ _ l0_1 _ _ l0_2 t329 _ ?side1 ?side2 ?side3 ?side4 ?side5 ?side6 A5.out).mono ?_
   (case side1=>repeat (first|exact (Kd.C_below HR0_0.out HB.out)|(with_reducible refine Kd.C_alloc ?_ _)|(with_reducible refine Kd.C_drewN ?_ _)|(with_reducible refine Kd.C_drew ?_)))
   (case side2=>exact HC0_0.out)
   (case side3=>repeat (first|exact (Kd.C_below HR0_1.out HB.out)|(with_reducible refine Kd.C_alloc ?_ _)|(with_reducible refine Kd.C_drewN ?_ _)|(with_reducible refine Kd.C_drew ?_)))
   (case side4=>exact HC0_1.out)
   (case side5=>repeat (first|exact (Kd.C_below HR0_2.out HB.out)|(with_reducible refine Kd.C_alloc ?_ _)|(with_reducible refine Kd.C_drewN ?_ _)|(with_reducible refine Kd.C_drew ?_)))
   (case side6=>exact HC0_2.out)
   rintro e w20 ⟨rfl,hb⟩
   refine ⟨_,rfl,?_⟩
   have n0_:=Aside0.mk (blk_below (g:=gb326) (o:=.cells #[.slice A0_0 l0_0.length c0_0,.slice A0_1 l0_1.length c0_1,.slice A0_2 l0_2.length c0_2] 26 (0,0)) (by (with_reducible repeat (first|refine blk_drewN ?_ _|refine blk_drew ?_|refine blk_alloc ?_ _));exact BK326.out) hb)
   have n1_:=Aside0.mk (below_step (by repeat (first|(with_reducible first|exact HB.out|apply below_alloc|apply pw_below_drewN|apply below_drew1|refine below_set ?_ GE326.out)|exact HB.out)) hb)
   clear BK326
   clear HB
   have BK326:=n0_
   have HB:=n1_
   clear n0_ n1_
   (try clear hb)
   (try clear hb2)
   (try clear hk)
   (try clear hi)
   refine hK.out _ _ ⟨(blk_cell BK326.out 0).trans rfl,(blk_cell BK326.out 1).trans rfl,(blk_cell BK326.out 2).trans rfl⟩ (fun hHeld=>?_)
   clear hK K
   refine norm_ (a':=?_) ?_ ?_
   rotate_left
   ·show Act.put _ (some 10) _ = _
    simp only [Act.put,List.setIfInBounds_toArray,List.set_cons_zero,List.set_cons_succ,i64_w,i32_w]
    rfl
   refine pure_ (i:=4) (N:=some 11) (v:=?_) (a':=?_) #[true,true,true,true,true,false,false,false,false] rfl rfl (any_of HT_.out (by kernel_rfl)) (fun _ _ _ h=>h) (Or.inl ⟨by rfl,?_⟩) ?_ ?_
   rotate_left
   ·intro w'
    go_simp
    with_reducible rfl
   rotate_left
   ·simp only [Act.put,List.setIfInBounds_toArray,List.set_cons_zero,List.set_cons_succ,i64_w,i32_w]
    rfl
   refine pure_ (i:=5) (N:=some 12) (v:=?_) (a':=?_) #[true,true,true,true,true,true,false,false,false] rfl rfl (any_of HT_.out (by kernel_rfl)) (fun _ _ _ h=>h) (Or.inl ⟨by rfl,?_⟩) ?_ ?_
   rotate_left
   ·intro w'
    go_simp
    with_reducible rfl
   rotate_left
   ·simp only [Act.put,List.setIfInBounds_toArray,List.set_cons_zero,List.set_cons_succ,i64_w,i32_w]
    rfl
   refine pure_ (i:=6) (N:=some 13) (v:=undef) (a':=?_) #[true,true,true,true,true,true,true,false,false] rfl rfl (any_of HT_.out (by kernel_rfl)) (fun _ _ _ h=>h) (Or.inr ⟨by rfl,rfl⟩) ?_ ?_
   rotate_left
   ·simp only [Act.put,List.setIfInBounds_toArray,List.set_cons_zero,List.set_cons_succ,i64_w,i32_w]
    rfl
   refine pure_ (i:=7) (N:=some 14) (v:=?_) (a':=?_) #[true,true,true,true,true,true,true,true,false] rfl rfl (any_of HT_.out (by kernel_rfl)) (fun _ _ _ h=>h) (Or.inl ⟨by rfl,?_⟩) ?_ ?_
   rotate_left
   ·intro w'
    go_simp
    with_reducible rfl
   rotate_left
   ·simp only [Act.put,List.setIfInBounds_toArray,List.set_cons_zero,List.set_cons_succ,i64_w,i32_w]
    rfl
   refine pure_ (i:=8) (N:=some 2) (v:=?_) (a':=?_) #[true,true,true,true,true,true,true,true,true] rfl rfl (any_of HT_.out (by kernel_rfl)) (fun _ _ _ h=>h) (Or.inl ⟨by rfl,?_⟩) ?_ ?_
   rotate_left
   ·intro w'
    go_simp
    with_reducible rfl
   rotate_left
   ·simp only [Act.put,List.setIfInBounds_toArray,List.set_cons_zero,List.set_cons_succ,i64_w,i32_w]
    rfl
   refine done_ (done_of HT_.out (by kernel_rfl)) ?_
   try go_wp2
   go_ret
   exact ⟨by first|rfl|(simp [errW_none,errW_some] <;> rfl)|(simp [*,errW_none,errW_some] <;> rfl),by repeat (first|(with_reducible first|exact HB.out|apply below_alloc|apply pw_below_drewN|apply below_drew1|refine below_set ?_ GE326.out)|exact HB.out)⟩
 ·replace c3:=Bool.eq_false_iff.mpr c3
  subst c3
  have H1 : ((pairinglaw9_awake.f k).bind fun t331=>(some t331)) = some r:=by rw [if_neg (show ¬ (false = true) by decide)] at H;exact H
  clear H
  have H:=H1
  clear H1
  replace H:=Option.bind_eq_some_iff.mp H
  obtain ⟨t331,A210,H⟩:=H
  replace H : (some t331) = some r:=H
  have A21:=Aside0.mk A210
  clear A210
  obtain rfl:=Option.some.inj H
  go_enter Try.func3,Try.ntmps3
  go_wp2_with (first|((with_reducible refine gate_dst (N:=1) rfl ?_);refine box_event ?hg (N:=1) ?hd (cs:=#[.slice A0_0 l0_0.length c0_0,.slice A0_1 l0_1.length c0_1,.slice A0_2 l0_2.length c0_2]) (t:=26) ?hr ?_;(case hd=>rfl);(case hg=>rfl);(case hr=>first|(go_simp;done)|(go_simp;rfl));intro gb326 hg w22 hbox hb;have n0_:=Aside0.mk (below_step (by repeat (first|(with_reducible first|exact HB.out|apply below_alloc|apply pw_below_drewN|apply below_drew1)|exact HB.out)) hb);have n1_:=Aside0.mk (hbox);have n2_:=Aside0.mk ((by rw [hg];exact (below_size (by repeat (first|(with_reducible first|exact HB.out|apply below_alloc|apply pw_below_drewN|apply below_drew1)|exact HB.out))) : w.heap.size ≤ gb326));have n3_:=Aside0.mk ((by rw [hg];exact (below_size (by repeat (first|(with_reducible first|exact HB.out|apply below_alloc|apply pw_below_drewN|apply below_drew1)|exact HB.out))) : w.heap.size ≤ gb326));clear HB;have HB:=n0_;have BK326:=n1_;have GW326:=n2_;have GE326:=n3_;clear n0_ n1_ n2_ n3_;clear hb hbox hg;have hcz23_0 : w22.cell? ⟨gb326,0,none⟩ = some (.slice A0_0 l0_0.length c0_0):=(blk_cell BK326.out 0).trans rfl;have hcz23_1 : w22.cell? ⟨gb326,1,none⟩ = some (.slice A0_1 l0_1.length c0_1):=(blk_cell BK326.out 1).trans rfl;have hcz23_2 : w22.cell? ⟨gb326,2,none⟩ = some (.slice A0_2 l0_2.length c0_2):=(blk_cell BK326.out 2).trans rfl;have hfz23_0:=blk_frozen BK326.out 0;have hfz23_1:=blk_frozen BK326.out 1;have hfz23_2:=blk_frozen BK326.out 2)|((with_reducible refine gate_callee (f:=9) rfl ?_);refine goesL_ (some 4) rfl rfl Try.func9 (by kernel_rfl) rfl #[.agg #[.slice A0_0 l0_0.length c0_0,.slice A0_1 l0_1.length c0_1,.slice A0_2 l0_2.length c0_2]] rfl (by (try simp only [List.map_toArray,List.map_cons,List.map_nil]);first|done|rfl|(simp only [List.length_drop,List.length_take];rfl)) ?_;(with_reducible refine (pairinglaw9_Light.calls k _ _ l0_0 _ _ l0_1 _ _ l0_2 false _ ?side1 ?side2 ?side3 ?side4 ?side5 ?side6 A2.out).mono ?_);(case side1=>repeat (first|exact (Kd.C_below HR0_0.out HB.out)|(with_reducible refine Kd.C_alloc ?_ _)|(with_reducible refine Kd.C_drewN ?_ _)|(with_reducible refine Kd.C_drew ?_)));(case side2=>exact HC0_0.out);(case side3=>repeat (first|exact (Kd.C_below HR0_1.out HB.out)|(with_reducible refine Kd.C_alloc ?_ _)|(with_reducible refine Kd.C_drewN ?_ _)|(with_reducible refine Kd.C_drew ?_)));(case side4=>exact HC0_1.out);(case side5=>repeat (first|exact (Kd.C_below HR0_2.out HB.out)|(with_reducible refine Kd.C_alloc ?_ _)|(with_reducible refine Kd.C_drewN ?_ _)|(with_reducible refine Kd.C_drew ?_)));(case side6=>exact HC0_2.out);rintro e w24 ⟨rfl,hb⟩;refine ⟨_,rfl,?_⟩;have n0_:=Aside0.mk (blk_below (g:=gb326) (o:=.cells #[.slice A0_0 l0_0.length c0_0,.slice A0_1 l0_1.length c0_1,.slice A0_2 l0_2.length c0_2] 26 (0,0)) (by (with_reducible repeat (first|refine blk_drewN ?_ _|refine blk_drew ?_|refine blk_alloc ?_ _));exact BK326.out) hb);have n1_:=Aside0.mk (below_step (by repeat (first|(with_reducible first|exact HB.out|apply below_alloc|apply pw_below_drewN|apply below_drew1|refine below_set ?_ GE326.out)|exact HB.out)) hb);clear BK326;clear HB;have BK326:=n0_;have HB:=n1_;clear n0_ n1_;(try clear hb);(try clear hb2);(try clear hk);(try clear hi))|((with_reducible refine gate_callee (f:=10) rfl ?_);refine goesL_ (some 6) rfl rfl Try.func10 (by kernel_rfl) rfl #[] rfl (by (try simp only [List.map_toArray,List.map_cons,List.map_nil]);first|done|rfl|(simp only [List.length_drop,List.length_take];rfl)) ?_;(with_reducible refine (pairinglaw9_awake.calls k  t331 _ A21.out).mono ?_);rintro e w25 ⟨rfl,hb⟩;refine ⟨_,rfl,?_⟩;have n0_:=Aside0.mk (blk_below (g:=gb326) (o:=.cells #[.slice A0_0 l0_0.length c0_0,.slice A0_1 l0_1.length c0_1,.slice A0_2 l0_2.length c0_2] 26 (0,0)) (by (with_reducible repeat (first|refine blk_drewN ?_ _|refine blk_drew ?_|refine blk_alloc ?_ _));exact BK326.out) hb);have n1_:=Aside0.mk (below_step (by repeat (first|(with_reducible first|exact HB.out|apply below_alloc|apply pw_below_drewN|apply below_drew1|refine below_set ?_ GE326.out)|exact HB.out)) hb);clear BK326;clear HB;have BK326:=n0_;have HB:=n1_;clear n0_ n1_;(try clear hb);(try clear hb2);(try clear hk);(try clear hi)))
  go_ret
  exact ⟨by first|rfl|(simp [errW_none,errW_some] <;> rfl)|(simp [*,errW_none,errW_some] <;> rfl),by repeat (first|(with_reducible first|exact HB.out|apply below_alloc|apply pw_below_drewN|apply below_drew1|refine below_set ?_ GE326.out)|exact HB.out)⟩
end Go.Proofs.Ytepnddmalheoiaa.Q
namespace Go.Proofs.Ytepnddmalheoiaa.Q
open Go.Proofs.Ytepnddmalheoiaa.H Go.Proofs.Ytepnddmalheoiaa.TtA Go.Proofs.Ytepnddmalheoiaa.TtB Go.Proofs.Ytepnddmalheoiaa.TtC
open Go.RowKit Go.Proofs.YtepnddmalheoiaaW.PrintWords Go.Proofs.YtepnddmalheoiaaW.PrintLast Go.Proofs.YtepnddmalheoiaaW.PrintMore
set_option linter.unusedVariables false
set_option linter.unusedSimpArgs false
theorem light_some (zs : List S42) (ps : List S39) (fs : List S36) (hl : zs.length < 4611686018427387904) (n : Nat) : ∀ (k i : Nat) (x : Int),n < k → i + n = zs.length → ∃ b,pairinglaw9_Light.l0 k x (i : Int) zs ps fs = some b:=by
 induction n with
 | zero =>
  intro k i x hk hi
  obtain ⟨k,rfl⟩ : ∃ m,k = m + 1:=⟨k - 1,by omega⟩
  unfold pairinglaw9_Light.l0
  rw [if_neg (by omega)]
  exact ⟨_,rfl⟩
 | succ n ih =>
  intro k i x hk hi
  obtain ⟨k,rfl⟩ : ∃ m,k = m + 1:=⟨k - 1,by omega⟩
  unfold pairinglaw9_Light.l0
  rw [if_pos (by omega)]
  by_cases hx : x < 1000
  ·rw [if_pos hx,if_pos (by omega),w1 i (by omega)]
   exact ih k (i + 1) _ (by omega) (by omega)
  ·rw [if_neg hx]
   exact ⟨_,rfl⟩
theorem TimetableValid_pure (zs : List S42) (ps : List S39) (fs : List S36) (hg : gTT zs ps fs) : ∃ k,pairinglaw9_TimetableValid.f k zs ps fs = some true:=by
 obtain ⟨⟨hz,hzl⟩,_,hf,_⟩:=hg
 have hs : ∀ f ∈ fs,f.f0.size ≤ 140737488351232:=fun f h=>(hf f h).1
 obtain ⟨K,hK⟩ : ∃ K,K = 140737488351232 + 2000 + zs.length:=⟨_,rfl⟩
 refine ⟨K,?_⟩
 unfold pairinglaw9_TimetableValid.f pairinglaw9_Light.f
 obtain ⟨b,hb⟩:=light_some zs ps fs (by omega) zs.length K 0 _ (by omega) (by omega)
 have ha : pairinglaw9_awake.f K = some true:=by unfold pairinglaw9_awake.f;rw [if_pos (by omega)]
 rw [show ((0 : Nat) : Int) = 0 from rfl] at hb
 rw [hb,Option.bind_some,ha,pvalid zs ps fs K (by omega) (by omega),rvalid zs ps fs 140737488351232 hs K (by omega) (by omega)]
 cases b <;> simp
theorem TimetableValid_walk (W : World) (cs : Array Value) (y : List S42 × List S39 × List S36) (hK : kO26.K W y cs.toList) (hG : gO26 y) :
  Calls Try.prog 3 #[.agg cs] W fun e W'=>e = .returned (.bool true) ∧ Below W.heap.size W W':=by
 obtain ⟨A0,c0,A1,c1,A2,c2,rfl,h0,l0,h1,l1,h2,l2⟩:=tt_cells hK
 obtain ⟨k,hk⟩:=TimetableValid_pure _ _ _ hG
 exact pairinglaw9_TimetableValid.calls k _ _ _ _ _ _ _ _ _ _ W h0 l0 h1 l1 h2 l2 hk
end Go.Proofs.Ytepnddmalheoiaa.Q
namespace Go.Proofs.Ytepnddmalheoiaa.timetableValid
open Go.ChangeShapes Go.WideShapes Go.ChangeAt Go.RowKit
open Go.ChangeMaps (open_string shut_string)
open Go.Proofs.YtepnddmalheoiaaW
set_option linter.unusedVariables false
theorem own : ownKnob Try.prog.godebug = none:=by kernel_rfl
theorem laidOut : laidOutB Try.prog = true:=by kernel_rfl
set_option maxRecDepth 100000 in
theorem lifted (os : Os) (started : os.Started) (H : Type) (enc : TypeId × Value → H) :
  ReturnsInHanded {} Try.checked os 3 .any (Rows.timetableValidSpec.pre6 enc Try.prog Try.f3 Rows.timetableValidRow.domain false) (Rows.timetableValidSpec.post enc Try.prog Try.f3 false true false false):=by
 refine returnsInHanded_of_change_sized (C:=Try.checked) own started (by kernel_rfl) Try.func3
  (ChangeSpec.witness6 (enc:=enc) (C:=Try.checked) false ⟨#[],#[.agg #[.slice none 0 0,.slice none 0 0,.slice none 0 0]],[]⟩ 8 (by kernel_rfl) (by kernel_rfl) (by kernel_rfl) (by kernel_rfl)) ?_
 intro W base args ds gs before hval0 hW hcnd hsz0 _
 have hsz : (DataW.weightsEach Try.prog (Try.f3.params.toList ++ Rows.timetableValidSpec.plain.varTypes Try.prog) (ds ++ gs)).all (· ≤ reachBytes) = true:=hsz0
 have hval : ∀ (j : Nat) t v,Try.f3.params[j]? = some t → args[j]? = some v → Value.okWide Try.prog W .any base t v:=hval0
 have hW':=hW
 obtain ⟨p,q,hA0,hV,rfl,hfz,hnd⟩:=hW
 have hA : DataW.TrodAll enc Try.prog W 0 (fun _=>true) true Try.f3.params.toList args.toList ds p:=hA0
 rw [Try.params3] at hA hval hsz
 obtain ⟨v0,vs0,d0,ds0,p0,q0,hargs,rfl,rfl,h0,r0⟩:=trodAll_cons hA
 obtain ⟨rfl,rfl,rfl⟩:=trodAll_nil r0
 obtain rfl : args = #[v0]:=by cases args;simp_all
 obtain ⟨rfl,rfl⟩:=trodVars_none hV
 have k0:=h0
 have lt0 : ∀ x ∈ p0,x.block < W.heap.size:=by obtain ⟨m,hm⟩:=k0;exact DataW.trod_lt m _ _ _ hm
 obtain ⟨cs0,rfl,hcs0⟩:=okWide_struct Try.underlying26 (hval 0 26 v0 rfl rfl)
 obtain ⟨y0,hy0,hg0⟩ : ∃ y,(Q.kO26).K W y cs0.toList ∧ Q.gO26 y:=by obtain ⟨fuel,hf⟩:=h0;exact Q.oO26 H enc W 0 _ _ fuel _ _ hf (fun n hn=>by have:=List.all_eq_true.1 hsz n (DataW.weights_mem_each (j:=0) (t:=26) rfl rfl n hn);simpa using this)
 clear hA0 hval0 hsz0 hsz
 refine (Q.TimetableValid_walk W cs0 y0 hy0 hg0).mono fun e W' ⟨he,bel⟩=>?_
 subst he
 exact ⟨_,rfl,_,_,_,[],_,[],hW',trodAll_mk1 (shut_bool Try.underlying4 _),(trodAll_cons_mk (Below.trod laidOut (by kernel_rfl) (of_decide_eq_true (by kernel_rfl)) k0 bel lt0) trodAll_mk0),rfl,bel.frame _,fun h=>by cases h⟩
theorem over : Rows.timetableValidRow.holds Try.pinned (OpenSpec.ofChange Rows.timetableValidSpec) :=
 OpenClaim.holds_of_wide 3 Try.f3 rfl rfl rfl rfl rfl rfl rfl ⟨rfl,rfl,rfl,rfl,rfl⟩ rfl rfl rfl rfl rfl (by kernel_rfl) Try.func3 (by kernel_rfl)
  (of_decide_eq_true (by kernel_rfl)) (by unfold Func.isWrapper;first|(rw [if_pos (by decide +kernel)];kernel_rfl)|(rw [if_neg (by decide +kernel)];exact ⟨rfl,rfl⟩))
  (fun os started H enc _=>lifted os started H enc)
theorem proved : Rows.TimetableValidSaid:=over
end Go.Proofs.Ytepnddmalheoiaa.timetableValid
namespace Go.Proofs.Ytepnddmalheoiaa
theorem timetableValid_holds : Rows.TimetableValidSaid:=timetableValid.proved
end Go.Proofs.Ytepnddmalheoiaa
