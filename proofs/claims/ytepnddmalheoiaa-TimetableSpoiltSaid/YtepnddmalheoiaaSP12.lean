/- The law timetableSpoilt, proved: for every input the call answers true. -/
import Derived.Test.YtepnddmalheoiaaProg
import Derived.Below
import Derived.Deep.Draws
import Derived.Deep.AppendLies
import Derived.Maps.AppendAt
import Derived.OwnWalk
import Derived.Laws.BytesArg
import Derived.Laws.MakeOwn
import Derived.Laws.OwnMore
import Derived.Deep.OwnRows
import Derived.Tactics
import Derived.Lib.ConvBytes
import Derived.Laws.Slices
import Derived.WalkKit
import Derived.KernelRfl
import Derived.RowKit3
import Derived.Deep.LoopGhost
import Derived.Deep.QuietTactic
import Derived.BigQuiet
import Derived.WideLaws
import Derived.Deep.DeepCutAuto
import Derived.Deep.CutBlock
import Derived.Deep.RegionHeld3
import Derived.Laws.Rows
import Derived.Lib.AppendStr
import Derived.ArgAppend
import Derived.Laws.IdiomCopy
import Derived.OrdersHeld
import Derived.Laws.BitsLemmas
import Derived.RowKit
import Derived.Deep.WholeRow
import Derived.Laws.ResultCell
import Derived.Lib.SlBytesConst
import Derived.Outline
import Derived.Laws.StructEq
import Derived.OpenShut
import Derived.ProofKit
import Derived.SizedLaws
import Derived.ChangeArms
import Derived.WideShapes
import Derived.IntWalk
import Derived.Test.YtepnddmalheoiaaRows
import Derived.ShutString
import Derived.ChangeOld
import Derived.ChangeSlices
import Derived.Test.YtepnddmalheoiaaSP0
import Derived.Test.YtepnddmalheoiaaSP1
import Derived.Test.YtepnddmalheoiaaSP2
import Derived.Test.YtepnddmalheoiaaSP3
import Derived.Test.YtepnddmalheoiaaSP4
import Derived.Test.YtepnddmalheoiaaSP5
import Derived.Test.YtepnddmalheoiaaSP6
import Derived.Test.YtepnddmalheoiaaSP7
import Derived.Test.YtepnddmalheoiaaSP8
import Derived.Test.YtepnddmalheoiaaSP9
import Derived.Test.YtepnddmalheoiaaSP10
import Derived.Test.YtepnddmalheoiaaSP11
set_option linter.unusedVariables false
set_option linter.unusedSimpArgs false
namespace Go.Proofs.Ytepnddmalheoiaa.Q
open Go.Proofs.Ytepnddmalheoiaa.H
open Go.RowKit Go.Proofs.YtepnddmalheoiaaW.PrintWords Go.Proofs.YtepnddmalheoiaaW.PrintLast Go.Proofs.YtepnddmalheoiaaW.PrintMore
def timetable_Decode.f (k : Nat) (l0 : List Int) : Option (List S42 × List S39 × List S36 × Int) :=
 (wire_Unframe.f l0).bind fun u=>if u.2.2.2 = 0 then (zal.f k (u.2.1,false)).bind fun t=>if u.1 = 1 ∧ u.2.2.1 = (l0.length : Int) ∧ t.2.2.2 = ([],false) then (zan.f k t.1 t.2.1 t.2.2.1).bind fun e=>if e = 0 then some (t.1,t.2.1,t.2.2.1,0) else some ([],[],[],e) else some ([],[],[],2) else some ([],[],[],u.2.2.2)
theorem unf_body (l : List Int) (h : ∀ x ∈ l,0 ≤ x ∧ x ≤ 255) : ∀ x ∈ (unf l).2.1,0 ≤ x ∧ x ≤ 255:=by
 unfold unf
 repeat' split
 all_goals first
  | exact fun x hx=>h x (List.mem_of_mem_take (List.mem_of_mem_drop hx))
  | exact fun x hx=>absurd hx (by simp)
set_option maxHeartbeats 8000000 in
set_option maxRecDepth 100000 in
theorem timetable_Decode.calls (k : Nat) (A0 : Option Addr) (c0 : Nat) (l0 : List Int) (r1 : List S42) (r2 : List S39) (r3 : List S36) (r4 : Int) (w : World) (hr0 : Kd.C (Kd.int .u8) w A0 l0.length l0) (hc0 : l0.length ≤ c0) (h : timetable_Decode.f k l0 = some (r1,r2,r3,r4)) :
  Calls Try.prog 16 #[.slice A0 l0.length c0] w fun e w'=>∃ v0_ v1_ v2_ : Value,e = .returned (.tuple #[.agg #[v0_,v1_,v2_],.int .i64 r4]) ∧ Kd.S k42 42 w' w.heap.size (fun _=>True) v0_ r1 ∧ Kd.R k39 39 w' w.heap.size (fun _=>True) v1_ r2 ∧ Kd.R k36 36 w' w.heap.size (fun _=>True) v2_ r3 ∧ Below w.heap.size w w':=by
 have hu26:=Try.underlying26
 have HR0:=zac.mk hr0
 have HC0:=zac.mk hc0
 clear hr0 hc0
 unfold timetable_Decode.f at h
 obtain ⟨⟨u1,u2,u3,u4⟩,hu,h⟩:=Option.bind_eq_some_iff.1 h
 simp only at h
 have HBy : zac (∀ x ∈ u2,0 ≤ x ∧ x ≤ 255):=by
  unfold wire_Unframe.f at hu
  split at hu
  ·rename_i hb
   have hq:=unf_body l0 hb.1
   rw [Option.some.inj hu] at hq
   exact ⟨hq⟩
  ·cases hu
 have HU:=zac.mk hu
 have HH:=zac.mk h
 clear hu h
 have hb0:=Below.refl w.heap.size w
 have HB0:=zac.mk hb0
 clear hb0
 go_enter Try.func16,Try.ntmps16
 go_wp2_with fail
 refine (wire_Unframe.calls _ _ l0 u1 u2 u3 u4 _ (Kd.C_alloc HR0.out _) HC0.out HU.out).mono ?_
 rintro e_ w1 ⟨v,rfl,hR,hb1⟩
 obtain ⟨A1,c1,rfl,hl1,hC1⟩:=Kd.R_reads hR
 have HC1:=zac.mk hC1
 have HL1:=zac.mk hl1
 have HB1:=zac.mk (zao (zae HB0.out (.cells #[.slice none 0 0,.slice none 0 0,.slice none 0 0] 26 (0,0))) hb1)
 have HBK:=zac.mk (zat (g:=w.heap.size) (heap_alloc_new w (.cells #[.slice none 0 0,.slice none 0 0,.slice none 0 0] 26 (0,0))) hb1)
 have H:=HH.out
 clear hR hb1 hC1 hl1 HH
 by_cases hu4 : u4 = 0
 ·rw [if_pos hu4] at H
  obtain ⟨⟨t1,t2,t3,t4⟩,ht,H⟩:=Option.bind_eq_some_iff.1 H
  simp only at H
  have HH:=zac.mk H
  have HT:=zac.mk ht
  have c4 : (u4 != 0) = false:=bne_eq_false_iff_eq.mpr hu4
  clear H ht hu4
  go_wp2_with fail
  have hI : IsS88 w1 (w1.alloc (.cells #[.slice A1 u2.length c1,.bool false] 88 (0,0))) w1.heap.size (u2,false):=⟨A1,c1,heap_alloc_new _ _,Nat.le_refl _,HC1.out,HL1.out,HBy.out⟩
  refine (zal.calls k w1.heap.size (u2,false) t1 t2 t3 t4 w1 _ hI (zae (Below.refl _ _) _) HT.out).mono ?_
  rintro e_ w2 ⟨v0,v1,v2,rfl,hS,hR1,hR2,hI2,hb2,hk2⟩
  obtain ⟨l4,b4⟩:=t4
  obtain ⟨Az,cz,rfl,hlz,hCz⟩:=Kd.S_reads hS
  obtain ⟨Ap,cp,rfl,hlp,hCp⟩:=Kd.R_reads hR1
  obtain ⟨Af,cf,rfl,hlf,hCf⟩:=Kd.R_reads hR2
  have HZ:=zac.mk hCz
  have HP:=zac.mk hCp
  have HF:=zac.mk hCf
  have HlZ:=zac.mk hlz
  have HlP:=zac.mk hlp
  have HlF:=zac.mk hlf
  clear hCz hCp hCf hlz hlp hlf
  have HI2:=zac.mk hI2
  clear hI
  obtain ⟨A2,c2,hb,hg,hr,hc,hx⟩:=hI2
  have hc0 : w2.cell? ⟨w1.heap.size,0,none⟩ = some (.slice A2 l4.length c2):=(zad hb 0).trans rfl
  have hc1 : w2.cell? ⟨w1.heap.size,1,none⟩ = some (.bool b4):=(zad hb 1).trans rfl
  have HBk:=zac.mk hb
  have HX:=zac.mk hx
  have HR:=zac.mk hr
  have HB2:=zac.mk (zao HB1.out hb2)
  have HBK2:=zac.mk (zat HBK.out hb2)
  have HS:=zac.mk hS
  have HR1:=zac.mk hR1
  have HR2:=zac.mk hR2
  have HK:=zac.mk hk2
  clear hS hR1 hR2 hb2 hk2 hb hx hr
  obtain ⟨T,hT⟩ : ∃ T,T = Obj.cells #[.slice Az t1.length cz,.slice Ap t2.length cp,.slice Af t3.length cf] 26 (0,0):=⟨_,rfl⟩
  have HA:=zac.mk (zag HBk.out T)
  have HRs:=zac.mk (zag HBK2.out T)
  have HN:=zac.mk (heap_alloc_new w2 T)
  have HBA:=zac.mk (zae HB2.out T)
  subst hT
  have ha0:=(zad HA.out 0).trans rfl
  have ha1:=(zad HA.out 1).trans rfl
  have hr0:=(zad HRs.out 0).trans rfl
  have hr1:=(zad HRs.out 1).trans rfl
  have hr2:=(zad HRs.out 2).trans rfl
  have hf0:=zaa HRs.out 0
  have hf1:=zaa HRs.out 1
  have hf2:=zaa HRs.out 2
  by_cases q1 : u1 = 1
  ·have d1 : (u1 != 1) = false:=bne_eq_false_iff_eq.mpr q1
   by_cases q2 : u3 = (l0.length : Int)
   ·have d2 : (u3 != (l0.length : Int)) = false:=bne_eq_false_iff_eq.mpr q2
    have Q12:=zac.mk (And.intro q1 q2)
    clear q1 q2
    cases b4 with
    | true =>
     have H:=HH.out
     rw [if_neg (by simp)] at H
     obtain ⟨rfl,rfl,rfl,rfl⟩ : r1 = [] ∧ r2 = [] ∧ r3 = [] ∧ r4 = 2:=by simpa [eq_comm] using H
     go_wp2
     refine bodyPost_ret (results_list rfl (by simp) (.cell w.heap.size 26 #[.slice none 0 0,.slice none 0 0,.slice none 0 0] (0,0) _ rfl (zaw (zaw (zaw HRs.out 0 _ rfl) 1 _ rfl) 2 _ rfl) hu26 rfl (by kernel_rfl) (.tmp .nil))) rfl ⟨_,_,_,rfl,Kd.S_nil _ _ _ _ _,Kd.R_nil _ _ _ _ _,Kd.R_nil _ _ _ _ _,zai (zai (zai HBA.out (Nat.le_refl _)) (Nat.le_refl _)) (Nat.le_refl _)⟩
    | false =>
     cases l4 with
     | nil =>
      go_wp2_with fail
      have H:=HH.out
      rw [if_pos (by simpa using Q12.out)] at H
      obtain ⟨e,hV,H⟩:=Option.bind_eq_some_iff.1 H
      refine (zan.calls k _ _ t1 _ _ t2 _ _ t3 e _ (Kd.C_alloc HZ.out _) HlZ.out (Kd.C_alloc HP.out _) HlP.out (Kd.C_alloc HF.out _) HlF.out hV).mono ?_
      rintro e_ w3 ⟨rfl,hb3⟩
      have HB3:=zac.mk (zao HBA.out hb3)
      have HR3:=zac.mk (zat HRs.out hb3)
      have HN3:=zac.mk (zat HN.out hb3)
      have HB3':=zac.mk hb3
      have hr0:=(zad HR3.out 0).trans rfl
      have hr1:=(zad HR3.out 1).trans rfl
      have hr2:=(zad HR3.out 2).trans rfl
      have hf0:=zaa HR3.out 0
      have hf1:=zaa HR3.out 1
      have hf2:=zaa HR3.out 2
      have hn0:=(zad HN3.out 0).trans rfl
      have hn1:=(zad HN3.out 1).trans rfl
      have hn2:=(zad HN3.out 2).trans rfl
      clear hb3
      by_cases he : e = 0
      ·have d5 : (e != 0) = false:=bne_eq_false_iff_eq.mpr he
       rw [if_pos he] at H
       obtain ⟨rfl,rfl,rfl,rfl⟩ : t1 = r1 ∧ t2 = r2 ∧ t3 = r3 ∧ 0 = r4:=by simpa using H
       go_wp2
       refine bodyPost_ret (results_list rfl (by simp) (.cell w.heap.size 26 #[.slice Az t1.length cz,.slice Ap t2.length cp,.slice Af t3.length cf] (0,0) _ rfl (zaw (zaw (zaw HR3.out 0 _ rfl) 1 _ rfl) 2 _ rfl) hu26 rfl (by kernel_rfl) (.tmp .nil))) rfl ⟨_,_,_,rfl,?_,?_,?_,zai (zai (zai HB3.out (Nat.le_refl _)) (Nat.le_refl _)) (Nat.le_refl _)⟩
       ·exact Kd.S_mono (Kd.S_set (Kd.S_set (Kd.S_set (Kd.S_lower (Kd.S_below (Kd.S_alloc HS.out _) HB3'.out) (Nat.le_trans HB1.out.size (by simp))) HR3.out (by decide) 0 _) (zaw HR3.out 0 _ rfl) (by decide) 1 _) (zaw (zaw HR3.out 0 _ rfl) 1 _ rfl) (by decide) 2 _) (fun _ _=>trivial)
       ·exact Kd.R_mono (Kd.R_set (Kd.R_set (Kd.R_set (Kd.R_lower (Kd.R_below (Kd.R_alloc HR1.out _) HB3'.out) (Nat.le_trans HB1.out.size (by simp))) HR3.out (by decide) 0 _) (zaw HR3.out 0 _ rfl) (by decide) 1 _) (zaw (zaw HR3.out 0 _ rfl) 1 _ rfl) (by decide) 2 _) (fun _ _=>trivial)
       ·exact Kd.R_mono (Kd.R_set (Kd.R_set (Kd.R_set (Kd.R_lower (Kd.R_below (Kd.R_alloc HR2.out _) HB3'.out) (Nat.le_trans HB1.out.size (by simp))) HR3.out (by decide) 0 _) (zaw HR3.out 0 _ rfl) (by decide) 1 _) (zaw (zaw HR3.out 0 _ rfl) 1 _ rfl) (by decide) 2 _) (fun _ _=>trivial)
      ·have d5 : (e != 0) = true:=bne_iff_ne.mpr he
       rw [if_neg he] at H
       obtain ⟨rfl,rfl,rfl,rfl⟩ : r1 = [] ∧ r2 = [] ∧ r3 = [] ∧ r4 = e:=by simpa [eq_comm] using H
       go_wp2
       refine bodyPost_ret (results_list rfl (by simp) (.cell w.heap.size 26 #[.slice none 0 0,.slice none 0 0,.slice none 0 0] (0,0) _ rfl (zaw (zaw (zaw HR3.out 0 _ rfl) 1 _ rfl) 2 _ rfl) hu26 rfl (by kernel_rfl) (.tmp .nil))) rfl ⟨_,_,_,rfl,Kd.S_nil _ _ _ _ _,Kd.R_nil _ _ _ _ _,Kd.R_nil _ _ _ _ _,zai (zai (zai HB3.out (Nat.le_refl _)) (Nat.le_refl _)) (Nat.le_refl _)⟩
     | cons a l4 =>
      have H:=HH.out
      rw [if_neg (by simp)] at H
      obtain ⟨rfl,rfl,rfl,rfl⟩ : r1 = [] ∧ r2 = [] ∧ r3 = [] ∧ r4 = 2:=by simpa [eq_comm] using H
      go_wp2
      refine bodyPost_ret (results_list rfl (by simp) (.cell w.heap.size 26 #[.slice none 0 0,.slice none 0 0,.slice none 0 0] (0,0) _ rfl (zaw (zaw (zaw HRs.out 0 _ rfl) 1 _ rfl) 2 _ rfl) hu26 rfl (by kernel_rfl) (.tmp .nil))) rfl ⟨_,_,_,rfl,Kd.S_nil _ _ _ _ _,Kd.R_nil _ _ _ _ _,Kd.R_nil _ _ _ _ _,zai (zai (zai HBA.out (Nat.le_refl _)) (Nat.le_refl _)) (Nat.le_refl _)⟩
   ·have d2 : (u3 != (l0.length : Int)) = true:=bne_iff_ne.mpr q2
    have H:=HH.out
    rw [if_neg (fun h=>q2 h.2.1)] at H
    obtain ⟨rfl,rfl,rfl,rfl⟩ : r1 = [] ∧ r2 = [] ∧ r3 = [] ∧ r4 = 2:=by simpa [eq_comm] using H
    go_wp2
    refine bodyPost_ret (results_list rfl (by simp) (.cell w.heap.size 26 #[.slice none 0 0,.slice none 0 0,.slice none 0 0] (0,0) _ rfl (zaw (zaw (zaw HRs.out 0 _ rfl) 1 _ rfl) 2 _ rfl) hu26 rfl (by kernel_rfl) (.tmp .nil))) rfl ⟨_,_,_,rfl,Kd.S_nil _ _ _ _ _,Kd.R_nil _ _ _ _ _,Kd.R_nil _ _ _ _ _,zai (zai (zai HBA.out (Nat.le_refl _)) (Nat.le_refl _)) (Nat.le_refl _)⟩
  ·have d1 : (u1 != 1) = true:=bne_iff_ne.mpr q1
   have H:=HH.out
   rw [if_neg (fun h=>q1 h.1)] at H
   obtain ⟨rfl,rfl,rfl,rfl⟩ : r1 = [] ∧ r2 = [] ∧ r3 = [] ∧ r4 = 2:=by simpa [eq_comm] using H
   go_wp2
   refine bodyPost_ret (results_list rfl (by simp) (.cell w.heap.size 26 #[.slice none 0 0,.slice none 0 0,.slice none 0 0] (0,0) _ rfl (zaw (zaw (zaw HRs.out 0 _ rfl) 1 _ rfl) 2 _ rfl) hu26 rfl (by kernel_rfl) (.tmp .nil))) rfl ⟨_,_,_,rfl,Kd.S_nil _ _ _ _ _,Kd.R_nil _ _ _ _ _,Kd.R_nil _ _ _ _ _,zai (zai (zai HBA.out (Nat.le_refl _)) (Nat.le_refl _)) (Nat.le_refl _)⟩
 ·have H2:=H
  rw [if_neg hu4] at H2
  have c4 : (u4 != 0) = true:=bne_iff_ne.mpr hu4
  obtain ⟨rfl,rfl,rfl,rfl⟩ : r1 = [] ∧ r2 = [] ∧ r3 = [] ∧ r4 = u4:=by simpa [eq_comm] using H2
  have hr0:=(zad HBK.out 0).trans rfl
  have hr1:=(zad HBK.out 1).trans rfl
  have hr2:=(zad HBK.out 2).trans rfl
  have hf0:=zaa HBK.out 0
  have hf1:=zaa HBK.out 1
  have hf2:=zaa HBK.out 2
  clear H H2
  go_wp2
  refine bodyPost_ret (results_list rfl (by simp) (.cell w.heap.size 26 #[.slice none 0 0,.slice none 0 0,.slice none 0 0] (0,0) _ rfl (zaw (zaw (zaw HBK.out 0 _ rfl) 1 _ rfl) 2 _ rfl) hu26 rfl (by kernel_rfl) (.tmp .nil))) rfl ⟨_,_,_,rfl,Kd.S_nil _ _ _ _ _,Kd.R_nil _ _ _ _ _,Kd.R_nil _ _ _ _ _,zai (zai (zai HB1.out (Nat.le_refl _)) (Nat.le_refl _)) (Nat.le_refl _)⟩
end Go.Proofs.Ytepnddmalheoiaa.Q
namespace Go.Proofs.Ytepnddmalheoiaa.Q
open Go.Proofs.Ytepnddmalheoiaa.H
open Go.RowKit Go.Proofs.YtepnddmalheoiaaW.PrintWords Go.Proofs.YtepnddmalheoiaaW.PrintLast Go.Proofs.YtepnddmalheoiaaW.PrintMore
def U62 (x : Int) : Prop:=0 ≤ x ∧ x ≤ 4611686018427387904
end Go.Proofs.Ytepnddmalheoiaa.Q
namespace Go.Proofs.Ytepnddmalheoiaa.Q
open Go.Proofs.Ytepnddmalheoiaa.H
open Go.RowKit Go.Proofs.YtepnddmalheoiaaW.PrintWords Go.Proofs.YtepnddmalheoiaaW.PrintLast Go.Proofs.YtepnddmalheoiaaW.PrintMore
def InI (x : Int) : Prop:=-9223372036854775808 ≤ x ∧ x ≤ 9223372036854775807
theorem inI_of {x : Int} (h : (Lit.int .i64 x).wf = true) : InI x:=bounds_i64 h
theorem o_int : Opens Try.prog 3 (Kd.int .i64) InI:=opens_mono (opens_int Try.underlying3) fun _ h=>inI_of h
theorem c_int : Try.prog.cellsOf 3 = 1:=by kernel_rfl
end Go.Proofs.Ytepnddmalheoiaa.Q
namespace Go.Proofs.Ytepnddmalheoiaa.Q
open Go.Proofs.Ytepnddmalheoiaa.H
open Go.RowKit Go.Proofs.YtepnddmalheoiaaW.PrintWords Go.Proofs.YtepnddmalheoiaaW.PrintLast Go.Proofs.YtepnddmalheoiaaW.PrintMore
attribute [local go_sem] str_leq str_geq str_gtr max2_int min2_int max_two min_two max_three min_three max_four min_four   -- for this text's walks alone
def pairingbase_Zones.f  : Option ((List (S42))):=some (([(⟨(⟨#[117,116,99]⟩ : ByteArray),0,([] : List (S44))⟩ : S42),(⟨(⟨#[111,115,108,111]⟩ : ByteArray),60,(([(⟨1441500,120⟩ : S44),(⟨1444000,60⟩ : S44)] : List (S44)))⟩ : S42),(⟨(⟨#[121,111,114,107]⟩ : ByteArray),(-300),(([(⟨1442900,(-240)⟩ : S44)] : List (S44)))⟩ : S42)] : List (S42)))
set_option maxHeartbeats 8000000 in
set_option maxRecDepth 100000 in
theorem pairingbase_Zones.calls  (r : List (S42)) (w : World) (h : pairingbase_Zones.f  = some r) :
  Calls Try.prog 36 #[] w fun e w'=>∃ v0_ : Value,e = .returned (v0_) ∧ Kd.N k42 42 w' w.heap.size (fun k_=>(w.heap.size ≤ k_)) v0_ r ∧ Below w.heap.size w w':=by
 have hu42:=Try.underlying42
 have hu44:=Try.underlying44
 have HB:=zac.mk (Below.refl w.heap.size w)
 have H : (some (([(⟨(⟨#[117,116,99]⟩ : ByteArray),0,([] : List (S44))⟩ : S42),(⟨(⟨#[111,115,108,111]⟩ : ByteArray),60,(([(⟨1441500,120⟩ : S44),(⟨1444000,60⟩ : S44)] : List (S44)))⟩ : S42),(⟨(⟨#[121,111,114,107]⟩ : ByteArray),(-300),(([(⟨1442900,(-240)⟩ : S44)] : List (S44)))⟩ : S42)] : List (S42)))) = some r:=h
 clear h
 obtain ⟨y249,hy249⟩ : ∃ y_ : List (S44),y_ = (([(⟨1441500,120⟩ : S44),(⟨1444000,60⟩ : S44)] : List (S44))):=⟨_,rfl⟩
 replace H : (some (([(⟨(⟨#[117,116,99]⟩ : ByteArray),0,([] : List (S44))⟩ : S42),(⟨(⟨#[111,115,108,111]⟩ : ByteArray),60,y249⟩ : S42),(⟨(⟨#[121,111,114,107]⟩ : ByteArray),(-300),(([(⟨1442900,(-240)⟩ : S44)] : List (S44)))⟩ : S42)] : List (S42)))) = some r:=by first|(rw [hy249];with_reducible exact H)|(have H2_:=(Option.bind_some _ _).symm.trans H;rw [hy249];with_reducible exact H2_)|(have H2_:=(Option.bind_some _ _).symm.trans H;with_reducible exact H2_)|with_reducible exact H|(rw [hy249];exact H)|exact H
 have Ny249:=zac.mk hy249
 clear hy249
 obtain ⟨y252,hy252⟩ : ∃ y_ : List (S44),y_ = (([(⟨1442900,(-240)⟩ : S44)] : List (S44))):=⟨_,rfl⟩
 replace H : (some (([(⟨(⟨#[117,116,99]⟩ : ByteArray),0,([] : List (S44))⟩ : S42),(⟨(⟨#[111,115,108,111]⟩ : ByteArray),60,y249⟩ : S42),(⟨(⟨#[121,111,114,107]⟩ : ByteArray),(-300),y252⟩ : S42)] : List (S42)))) = some r:=by first|(rw [hy252];with_reducible exact H)|(have H2_:=(Option.bind_some _ _).symm.trans H;rw [hy252];with_reducible exact H2_)|(have H2_:=(Option.bind_some _ _).symm.trans H;with_reducible exact H2_)|with_reducible exact H|(rw [hy252];exact H)|exact H
 have Ny252:=zac.mk hy252
 clear hy252
 obtain ⟨y255,hy255⟩ : ∃ y_ : List (S42),y_ = (([(⟨(⟨#[117,116,99]⟩ : ByteArray),0,([] : List (S44))⟩ : S42),(⟨(⟨#[111,115,108,111]⟩ : ByteArray),60,y249⟩ : S42),(⟨(⟨#[121,111,114,107]⟩ : ByteArray),(-300),y252⟩ : S42)] : List (S42))):=⟨_,rfl⟩
 replace H : (some y255) = some r:=by first|(rw [hy255];with_reducible exact H)|(have H2_:=(Option.bind_some _ _).symm.trans H;rw [hy255];with_reducible exact H2_)|(have H2_:=(Option.bind_some _ _).symm.trans H;with_reducible exact H2_)|with_reducible exact H|(rw [hy255];exact H)|exact H
 have Ny255:=zac.mk hy255
 clear hy255
 obtain rfl:=Option.some.inj H
 go_enter Try.func36,Try.ntmps36
 go_wp2_with (first|((with_reducible refine zbh (N:=4) rfl ?_);refine Kd.R_lit k44 _ 44 ?hg (N:=4) ?hd (xs:=([(⟨1441500,120⟩ : S44),(⟨1444000,60⟩ : S44)] : List (S44))) (inner:=[.int .i64 1441500,.int .i64 120,.int .i64 1444000,.int .i64 60]) (ok:=fun _=>True) (okp:=fun _=>True) ?hr ?hp (fun _ hk=>hk) trivial (Below.refl _ _) (Nat.le_refl _) (by simp) ?_;(case hd=>rfl);(case hg=>rfl);(case hr=>first|(go_simp;done)|(go_simp;rfl));(case hp=>exact (Reps.c2 (show Kd.M k44 _ _ _ (⟨1441500,120⟩ : S44) [.int .i64 1441500,.int .i64 120] from (k44_mkM _ _ _ (⟨1441500,120⟩ : S44) )) (Reps.c2 (show Kd.M k44 _ _ _ (⟨1444000,60⟩ : S44) [.int .i64 1444000,.int .i64 60] from (k44_mkM _ _ _ (⟨1444000,60⟩ : S44) )) (Reps.none _ _))));intro v250 w1 ho2 hb hg_ hnew_;clear hg_ hnew_;(first|rw [← Ny249.out] at ho2|(simp only [Int.reduceToNat] at ho2;rw [← Ny249.out] at ho2));have n0_:=zac.mk (Kd.R_lower (Kd.R_newM (M:=fun k_=>(w.heap.size ≤ k_)) ho2 (zam (by repeat (first|(with_reducible first|exact HB.out|apply zae|apply zab|apply zaf)|exact HB.out))) (fun k_ h_=>h_)) (zam (by repeat (first|(with_reducible first|exact HB.out|apply zae|apply zab|apply zaf)|exact HB.out))));have n1_:=zac.mk (zao (by repeat (first|(with_reducible first|exact HB.out|apply zae|apply zab|apply zaf)|exact HB.out)) hb);clear HB;have HO251:=n0_;have HB:=n1_;clear n0_ n1_;clear hb ho2;obtain ⟨Ao3,co3,eo3⟩:=Kd.R_slice HO251.out;subst eo3)|((with_reducible refine zbh (N:=7) rfl ?_);refine Kd.R_lit k44 _ 44 ?hg (N:=7) ?hd (xs:=([(⟨1442900,(-240)⟩ : S44)] : List (S44))) (inner:=[.int .i64 1442900,.int .i64 (-240)]) (ok:=fun _=>True) (okp:=fun _=>True) ?hr ?hp (fun _ hk=>hk) trivial (Below.refl _ _) (Nat.le_refl _) (by simp) ?_;(case hd=>rfl);(case hg=>rfl);(case hr=>first|(go_simp;done)|(go_simp;rfl));(case hp=>exact (Reps.c2 (show Kd.M k44 _ _ _ (⟨1442900,(-240)⟩ : S44) [.int .i64 1442900,.int .i64 (-240)] from (k44_mkM _ _ _ (⟨1442900,(-240)⟩ : S44) )) (Reps.none _ _)));intro v253 w4 ho5 hb hg_ hnew_;clear hg_ hnew_;(first|rw [← Ny252.out] at ho5|(simp only [Int.reduceToNat] at ho5;rw [← Ny252.out] at ho5));have n0_:=zac.mk (Kd.R_elder' (by (with_reducible repeat (first|apply Kd.R_alloc|apply Kd.R_drewN|apply Kd.R_drew));exact HO251.out) (Kd.R_base ho5) hb);have n1_:=zac.mk (Kd.R_lower (Kd.R_new' (Kd.R_newM (M:=fun k_=>(w.heap.size ≤ k_)) ho5 (zam (by repeat (first|(with_reducible first|exact HB.out|apply zae|apply zab|apply zaf)|exact HB.out))) (fun k_ h_=>h_)) (Kd.R_lt (by (with_reducible repeat (first|apply Kd.R_alloc|apply Kd.R_drewN|apply Kd.R_drew));exact HO251.out))) (zam (by repeat (first|(with_reducible first|exact HB.out|apply zae|apply zab|apply zaf)|exact HB.out))));have n2_:=zac.mk (zao (by repeat (first|(with_reducible first|exact HB.out|apply zae|apply zab|apply zaf)|exact HB.out)) hb);clear HO251;clear HB;have HO251:=n0_;have HO254:=n1_;have HB:=n2_;clear n0_ n1_ n2_;clear hb ho5;obtain ⟨Ao6,co6,eo6⟩:=Kd.R_slice HO254.out;subst eo6)|((with_reducible refine zbh (N:=9) rfl ?_);refine Kd.N_lit k42 _ 42 ?hg (N':=9) ?hd (xs:=([(⟨(⟨#[117,116,99]⟩ : ByteArray),0,([] : List (S44))⟩ : S42),(⟨(⟨#[111,115,108,111]⟩ : ByteArray),60,y249⟩ : S42),(⟨(⟨#[121,111,114,107]⟩ : ByteArray),(-300),y252⟩ : S42)] : List (S42))) (inner:=[.string (⟨#[117,116,99]⟩ : ByteArray),.int .i64 0,.slice none 0 0,.string (⟨#[111,115,108,111]⟩ : ByteArray),.int .i64 60,.slice Ao3 y249.length co3,.string (⟨#[121,111,114,107]⟩ : ByteArray),.int .i64 (-300),.slice Ao6 y252.length co6]) (ok:=(fun k_=>(w.heap.size ≤ k_))) (okp:=(fun k_=>(w.heap.size ≤ k_))) ?hr ?hp (fun _ hk=>hk) ((show ∀ k_,w4.heap.size ≤ k_ → (fun k_=>(w.heap.size ≤ k_)) k_ from fun k_ hk=>(Nat.le_trans (zam (by repeat (first|(with_reducible first|exact HB.out|apply zae|apply zab|apply zaf)|exact HB.out))) hk)) _ (Nat.le_refl _)) (Below.refl _ _) (Nat.le_refl _) (by simp) ?_;(case hd=>rfl);(case hg=>rfl);(case hr=>first|(go_simp;done)|(go_simp;rfl));(case hp=>exact (Reps.c3 (show Kd.FK k42 _ _ (⟨(⟨#[117,116,99]⟩ : ByteArray),0,([] : List (S44))⟩ : S42) [.string (⟨#[117,116,99]⟩ : ByteArray),.int .i64 0,.slice none 0 0] from (k42_mkF _ _ (⟨(⟨#[117,116,99]⟩ : ByteArray),0,([] : List (S44))⟩ : S42) (Nat.le_refl _) (Kd.F_nil _ _ _))) (Reps.c3 (show Kd.FK k42 _ _ (⟨(⟨#[111,115,108,111]⟩ : ByteArray),60,y249⟩ : S42) [.string (⟨#[111,115,108,111]⟩ : ByteArray),.int .i64 60,.slice Ao3 y249.length co3] from (k42_mkF _ _ (⟨(⟨#[111,115,108,111]⟩ : ByteArray),60,y249⟩ : S42) (Kd.R_reads' (Kd.R_mono (ok':=(fun k_=>(w.heap.size ≤ k_))) (HO251.out) (fun k_ hk=>hk.1.1))).2.1 (Kd.R_F (Kd.R_mono (ok':=(fun k_=>(w.heap.size ≤ k_))) (HO251.out) (fun k_ hk=>hk.1.1))))) (Reps.c3 (show Kd.FK k42 _ _ (⟨(⟨#[121,111,114,107]⟩ : ByteArray),(-300),y252⟩ : S42) [.string (⟨#[121,111,114,107]⟩ : ByteArray),.int .i64 (-300),.slice Ao6 y252.length co6] from (k42_mkF _ _ (⟨(⟨#[121,111,114,107]⟩ : ByteArray),(-300),y252⟩ : S42) (Kd.R_reads' (Kd.R_mono (ok':=(fun k_=>(w.heap.size ≤ k_))) (HO254.out) (fun k_ hk=>hk.1.1))).2.1 (Kd.R_F (Kd.R_mono (ok':=(fun k_=>(w.heap.size ≤ k_))) (HO254.out) (fun k_ hk=>hk.1.1))))) (Reps.none _ _)))));intro v256 w7 ho8 hb hg_ hnew_;clear hg_ hnew_;(first|rw [← Ny255.out] at ho8|(simp only [Int.reduceToNat] at ho8;rw [← Ny255.out] at ho8));have n0_:=zac.mk (Kd.N_lower ho8 (zam (by repeat (first|(with_reducible first|exact HB.out|apply zae|apply zab|apply zaf)|exact HB.out))));have n1_:=zac.mk (zao (by repeat (first|(with_reducible first|exact HB.out|apply zae|apply zab|apply zaf)|exact HB.out)) hb);clear HB;clear HO251;clear HO254;have HO257:=n0_;have HB:=n1_;clear n0_ n1_;clear hb ho8))
 go_ret
 exact ⟨_,by first|rfl|(simp [errW_none,errW_some] <;> rfl)|(simp [*,errW_none,errW_some] <;> rfl),by (with_reducible repeat (first|apply Kd.N_alloc|apply Kd.N_drewN|apply Kd.N_drew));exact HO257.out,by repeat (first|(with_reducible first|exact HB.out|apply zae|apply zab|apply zaf)|exact HB.out)⟩
def pairingbase_Airports.f  : Option ((List (S39))):=some (([(⟨(⟨#[65,65,65]⟩ : ByteArray),(⟨#[117,116,99]⟩ : ByteArray)⟩ : S39),(⟨(⟨#[66,66,66]⟩ : ByteArray),(⟨#[111,115,108,111]⟩ : ByteArray)⟩ : S39),(⟨(⟨#[67,67,67]⟩ : ByteArray),(⟨#[121,111,114,107]⟩ : ByteArray)⟩ : S39)] : List (S39)))
set_option maxHeartbeats 8000000 in
set_option maxRecDepth 100000 in
theorem pairingbase_Airports.calls  (r : List (S39)) (w : World) (h : pairingbase_Airports.f  = some r) :
  Calls Try.prog 37 #[] w fun e w'=>∃ v0_ : Value,e = .returned (v0_) ∧ Kd.R k39 39 w' w.heap.size (fun _=>True) v0_ r ∧ Below w.heap.size w w':=by
 have hu39:=Try.underlying39
 have HB:=zac.mk (Below.refl w.heap.size w)
 have H : (some (([(⟨(⟨#[65,65,65]⟩ : ByteArray),(⟨#[117,116,99]⟩ : ByteArray)⟩ : S39),(⟨(⟨#[66,66,66]⟩ : ByteArray),(⟨#[111,115,108,111]⟩ : ByteArray)⟩ : S39),(⟨(⟨#[67,67,67]⟩ : ByteArray),(⟨#[121,111,114,107]⟩ : ByteArray)⟩ : S39)] : List (S39)))) = some r:=h
 clear h
 obtain ⟨y258,hy258⟩ : ∃ y_ : List (S39),y_ = (([(⟨(⟨#[65,65,65]⟩ : ByteArray),(⟨#[117,116,99]⟩ : ByteArray)⟩ : S39),(⟨(⟨#[66,66,66]⟩ : ByteArray),(⟨#[111,115,108,111]⟩ : ByteArray)⟩ : S39),(⟨(⟨#[67,67,67]⟩ : ByteArray),(⟨#[121,111,114,107]⟩ : ByteArray)⟩ : S39)] : List (S39))):=⟨_,rfl⟩
 replace H : (some y258) = some r:=by first|(rw [hy258];with_reducible exact H)|(have H2_:=(Option.bind_some _ _).symm.trans H;rw [hy258];with_reducible exact H2_)|(have H2_:=(Option.bind_some _ _).symm.trans H;with_reducible exact H2_)|with_reducible exact H|(rw [hy258];exact H)|exact H
 have Ny258:=zac.mk hy258
 clear hy258
 obtain rfl:=Option.some.inj H
 go_enter Try.func37,Try.ntmps37
 go_wp2_with (first|((with_reducible refine zbh (N:=4) rfl ?_);refine Kd.R_lit k39 _ 39 ?hg (N:=4) ?hd (xs:=([(⟨(⟨#[65,65,65]⟩ : ByteArray),(⟨#[117,116,99]⟩ : ByteArray)⟩ : S39),(⟨(⟨#[66,66,66]⟩ : ByteArray),(⟨#[111,115,108,111]⟩ : ByteArray)⟩ : S39),(⟨(⟨#[67,67,67]⟩ : ByteArray),(⟨#[121,111,114,107]⟩ : ByteArray)⟩ : S39)] : List (S39))) (inner:=[.string (⟨#[65,65,65]⟩ : ByteArray),.string (⟨#[117,116,99]⟩ : ByteArray),.string (⟨#[66,66,66]⟩ : ByteArray),.string (⟨#[111,115,108,111]⟩ : ByteArray),.string (⟨#[67,67,67]⟩ : ByteArray),.string (⟨#[121,111,114,107]⟩ : ByteArray)]) (ok:=fun _=>True) (okp:=fun _=>True) ?hr ?hp (fun _ hk=>hk) trivial (Below.refl _ _) (Nat.le_refl _) (by simp) ?_;(case hd=>rfl);(case hg=>rfl);(case hr=>first|(go_simp;done)|(go_simp;rfl));(case hp=>exact (Reps.c2 (show Kd.M k39 _ _ _ (⟨(⟨#[65,65,65]⟩ : ByteArray),(⟨#[117,116,99]⟩ : ByteArray)⟩ : S39) [.string (⟨#[65,65,65]⟩ : ByteArray),.string (⟨#[117,116,99]⟩ : ByteArray)] from (k39_mkM _ _ _ (⟨(⟨#[65,65,65]⟩ : ByteArray),(⟨#[117,116,99]⟩ : ByteArray)⟩ : S39) )) (Reps.c2 (show Kd.M k39 _ _ _ (⟨(⟨#[66,66,66]⟩ : ByteArray),(⟨#[111,115,108,111]⟩ : ByteArray)⟩ : S39) [.string (⟨#[66,66,66]⟩ : ByteArray),.string (⟨#[111,115,108,111]⟩ : ByteArray)] from (k39_mkM _ _ _ (⟨(⟨#[66,66,66]⟩ : ByteArray),(⟨#[111,115,108,111]⟩ : ByteArray)⟩ : S39) )) (Reps.c2 (show Kd.M k39 _ _ _ (⟨(⟨#[67,67,67]⟩ : ByteArray),(⟨#[121,111,114,107]⟩ : ByteArray)⟩ : S39) [.string (⟨#[67,67,67]⟩ : ByteArray),.string (⟨#[121,111,114,107]⟩ : ByteArray)] from (k39_mkM _ _ _ (⟨(⟨#[67,67,67]⟩ : ByteArray),(⟨#[121,111,114,107]⟩ : ByteArray)⟩ : S39) )) (Reps.none _ _)))));intro v259 w1 ho2 hb hg_ hnew_;clear hg_ hnew_;(first|rw [← Ny258.out] at ho2|(simp only [Int.reduceToNat] at ho2;rw [← Ny258.out] at ho2));have n0_:=zac.mk (Kd.R_lower ho2 (zam (by repeat (first|(with_reducible first|exact HB.out|apply zae|apply zab|apply zaf)|exact HB.out))));have n1_:=zac.mk (zao (by repeat (first|(with_reducible first|exact HB.out|apply zae|apply zab|apply zaf)|exact HB.out)) hb);clear HB;have HO260:=n0_;have HB:=n1_;clear n0_ n1_;clear hb ho2))
 go_ret
 exact ⟨_,by first|rfl|(simp [errW_none,errW_some] <;> rfl)|(simp [*,errW_none,errW_some] <;> rfl),by (with_reducible repeat (first|apply Kd.R_alloc|apply Kd.R_drewN|apply Kd.R_drew));exact HO260.out,by repeat (first|(with_reducible first|exact HB.out|apply zae|apply zab|apply zaf)|exact HB.out)⟩
def zbv.f  : Option ((List (S42)) × (List (S39)) × (List (S36))):=(pairingbase_Zones.f).bind fun t263=>((pairingbase_Airports.f).bind fun t266=>(some (t263,t266,(([(⟨(⟨#[83,75,49]⟩ : ByteArray),(⟨#[65,65,65]⟩ : ByteArray),(⟨#[66,66,66]⟩ : ByteArray),3000,3060,(⟨#[98,55,51,55]⟩ : ByteArray),(⟨1,1,2⟩ : S34)⟩ : S36)] : List (S36))))))
def zbv.T2 : Bool × List (List Nat × List Nat):=(true,[([],[]),([0],[]),([],[]),([2],[2]),([0,1,3],[0,1,3]),([4,1,0,1,2,3,4],[4])])
def zbv.B2 : List Nat:=[0,1,0,4,15,31]
theorem zbv.tab2 : rtab .any (opsOf Try.f25 2) = zbv.T2:=by kernel_rfl
theorem zbv.bits2 : waitsOk zbv.T2.2 zbv.B2 = true:=by kernel_rfl
set_option maxHeartbeats 8000000 in
set_option maxRecDepth 100000 in
theorem zbv.calls  (r1 : List (S42)) (r2 : List (S39)) (r3 : List (S36)) (w : World) (h : zbv.f  = some (r1,r2,r3)) :
  Calls Try.prog 25 #[] w fun e w'=>∃ v0_ v1_ v2_ : Value,e = .returned (.agg #[v0_,v1_,v2_]) ∧ Kd.N k42 42 w' w.heap.size (fun k_=>(w.heap.size ≤ k_)) v0_ r1 ∧ Kd.R k39 39 w' w.heap.size (fun k_=>(w.heap.size ≤ k_)) v1_ r2 ∧ Kd.R k36 36 w' w.heap.size (fun k_=>(w.heap.size ≤ k_)) v2_ r3 ∧ Below w.heap.size w w':=by
 have hu26:=Try.underlying26
 have hu34:=Try.underlying34
 have hu36:=Try.underlying36
 have HB:=zac.mk (Below.refl w.heap.size w)
 have H : ((pairingbase_Zones.f).bind fun t263=>((pairingbase_Airports.f).bind fun t266=>(some (t263,t266,(([(⟨(⟨#[83,75,49]⟩ : ByteArray),(⟨#[65,65,65]⟩ : ByteArray),(⟨#[66,66,66]⟩ : ByteArray),3000,3060,(⟨#[98,55,51,55]⟩ : ByteArray),(⟨1,1,2⟩ : S34)⟩ : S36)] : List (S36))))))) = some (r1,r2,r3):=h
 clear h
 replace H:=Option.bind_eq_some_iff.mp H
 obtain ⟨t263,A10,H⟩:=H
 replace H : ((pairingbase_Airports.f).bind fun t266=>(some (t263,t266,(([(⟨(⟨#[83,75,49]⟩ : ByteArray),(⟨#[65,65,65]⟩ : ByteArray),(⟨#[66,66,66]⟩ : ByteArray),3000,3060,(⟨#[98,55,51,55]⟩ : ByteArray),(⟨1,1,2⟩ : S34)⟩ : S36)] : List (S36)))))) = some (r1,r2,r3):=H
 have A1:=zac.mk A10
 clear A10
 replace H:=Option.bind_eq_some_iff.mp H
 obtain ⟨t266,A20,H⟩:=H
 replace H : (some (t263,t266,(([(⟨(⟨#[83,75,49]⟩ : ByteArray),(⟨#[65,65,65]⟩ : ByteArray),(⟨#[66,66,66]⟩ : ByteArray),3000,3060,(⟨#[98,55,51,55]⟩ : ByteArray),(⟨1,1,2⟩ : S34)⟩ : S36)] : List (S36))))) = some (r1,r2,r3):=H
 have A2:=zac.mk A20
 clear A20
 obtain ⟨y269,hy269⟩ : ∃ y_ : List (S36),y_ = (([(⟨(⟨#[83,75,49]⟩ : ByteArray),(⟨#[65,65,65]⟩ : ByteArray),(⟨#[66,66,66]⟩ : ByteArray),3000,3060,(⟨#[98,55,51,55]⟩ : ByteArray),(⟨1,1,2⟩ : S34)⟩ : S36)] : List (S36))):=⟨_,rfl⟩
 replace H : (some (t263,t266,y269)) = some (r1,r2,r3):=by first|(rw [hy269];with_reducible exact H)|(have H2_:=(Option.bind_some _ _).symm.trans H;rw [hy269];with_reducible exact H2_)|(have H2_:=(Option.bind_some _ _).symm.trans H;with_reducible exact H2_)|with_reducible exact H|(rw [hy269];exact H)|exact H
 have Ny269:=zac.mk hy269
 clear hy269
 simp only [Option.some.injEq,Prod.mk.injEq] at H
 obtain ⟨rfl,rfl,rfl⟩:=H
 go_enter Try.func25,Try.ntmps25
 try go_wp2_with (first|((with_reducible refine zbh (N:=0) rfl ?_);refine zbf ?hg (N:=0) ?hd (cs:=#[.slice none 0 0,.slice none 0 0,.slice none 0 0]) (t:=26) ?hr ?_;(case hd=>rfl);(case hg=>rfl);(case hr=>first|(go_simp;done)|(go_simp;rfl));intro gb261 hg w3 hbox hb;have n0_:=zac.mk (zao (by repeat (first|(with_reducible first|exact HB.out|apply zae|apply zab|apply zaf)|exact HB.out)) hb);have n1_:=zac.mk (hbox);have n2_:=zac.mk ((by rw [hg];exact (zam (by repeat (first|(with_reducible first|exact HB.out|apply zae|apply zab|apply zaf)|exact HB.out))) : w.heap.size ≤ gb261));have n3_:=zac.mk ((by rw [hg];exact (zam (by repeat (first|(with_reducible first|exact HB.out|apply zae|apply zab|apply zaf)|exact HB.out))) : w.heap.size ≤ gb261));clear HB;have HB:=n0_;have BK261:=n1_;have GW261:=n2_;have GE261:=n3_;clear n0_ n1_ n2_ n3_;clear hb hbox hg)|((with_reducible refine zbh (N:=1) rfl ?_);refine zbf ?hg (N:=1) ?hd (cs:=#[.string (⟨#[]⟩ : ByteArray),.string (⟨#[]⟩ : ByteArray),.string (⟨#[]⟩ : ByteArray),.int .i64 0,.int .i64 0,.string (⟨#[]⟩ : ByteArray),.int .i64 0,.int .i64 0,.int .i64 0]) (t:=36) ?hr ?_;(case hd=>rfl);(case hg=>rfl);(case hr=>first|(go_simp;done)|(go_simp;rfl));intro gb262 hg w4 hbox hb;have n0_:=zac.mk (zat (g:=gb261) (o:=.cells #[.slice none 0 0,.slice none 0 0,.slice none 0 0] 26 (0,0)) (by (with_reducible repeat (first|refine zah ?_ _|refine zak ?_|refine zag ?_ _));exact BK261.out) hb);have n1_:=zac.mk (zao (by repeat (first|(with_reducible first|exact HB.out|apply zae|apply zab|apply zaf|refine zai ?_ GE261.out)|exact HB.out)) hb);have n2_:=zac.mk (hbox);have n3_:=zac.mk ((by rw [hg];exact (zam (by repeat (first|(with_reducible first|exact HB.out|apply zae|apply zab|apply zaf|refine zai ?_ GE261.out)|exact HB.out))) : w.heap.size ≤ gb262));have n4_:=zac.mk ((by rw [hg];exact (zam (by repeat (first|(with_reducible first|exact HB.out|apply zae|apply zab|apply zaf|refine zai ?_ GE261.out)|exact HB.out))) : w.heap.size ≤ gb262));have n5_:=zac.mk ((by rw [hg];exact Nat.ne_of_lt (zbq (g:=gb261) (o:=.cells #[.slice none 0 0,.slice none 0 0,.slice none 0 0] 26 (0,0)) (by (with_reducible repeat (first|refine zah ?_ _|refine zak ?_|refine zag ?_ _));exact BK261.out)) : gb261 ≠ gb262));have n6_:=zac.mk ((by rw [hg];exact Nat.ne_of_gt (zbq (g:=gb261) (o:=.cells #[.slice none 0 0,.slice none 0 0,.slice none 0 0] 26 (0,0)) (by (with_reducible repeat (first|refine zah ?_ _|refine zak ?_|refine zag ?_ _));exact BK261.out)) : gb262 ≠ gb261));clear BK261;clear HB;have BK261:=n0_;have HB:=n1_;have BK262:=n2_;have GW262:=n3_;have GE262:=n4_;have NB261_262:=n5_;have NB262_261:=n6_;clear n0_ n1_ n2_ n3_ n4_ n5_ n6_;clear hb hbox hg;have hnb5:=NB262_261.out;have hnc5:=NB261_262.out;have hcz6_0 : w4.cell? ⟨gb262,0,none⟩ = some (.string (⟨#[]⟩ : ByteArray)):=(zad BK262.out 0).trans rfl;have hcz6_1 : w4.cell? ⟨gb262,1,none⟩ = some (.string (⟨#[]⟩ : ByteArray)):=(zad BK262.out 1).trans rfl;have hcz6_2 : w4.cell? ⟨gb262,2,none⟩ = some (.string (⟨#[]⟩ : ByteArray)):=(zad BK262.out 2).trans rfl;have hcz6_3 : w4.cell? ⟨gb262,3,none⟩ = some (.int .i64 0):=(zad BK262.out 3).trans rfl;have hcz6_4 : w4.cell? ⟨gb262,4,none⟩ = some (.int .i64 0):=(zad BK262.out 4).trans rfl;have hcz6_5 : w4.cell? ⟨gb262,5,none⟩ = some (.string (⟨#[]⟩ : ByteArray)):=(zad BK262.out 5).trans rfl;have hcz6_6 : w4.cell? ⟨gb262,6,none⟩ = some (.int .i64 0):=(zad BK262.out 6).trans rfl;have hcz6_7 : w4.cell? ⟨gb262,7,none⟩ = some (.int .i64 0):=(zad BK262.out 7).trans rfl;have hcz6_8 : w4.cell? ⟨gb262,8,none⟩ = some (.int .i64 0):=(zad BK262.out 8).trans rfl;have hfz6_0:=zaa BK262.out 0;have hfz6_1:=zaa BK262.out 1;have hfz6_2:=zaa BK262.out 2;have hfz6_3:=zaa BK262.out 3;have hfz6_4:=zaa BK262.out 4;have hfz6_5:=zaa BK262.out 5;have hfz6_6:=zaa BK262.out 6;have hfz6_7:=zaa BK262.out 7;have hfz6_8:=zaa BK262.out 8))
 have n0_ : zac ((((((((((w4.setCell ⟨gb262,0,none⟩ (.string (⟨#[83,75,49]⟩ : ByteArray))).setCell ⟨gb262,1,none⟩ (.string (⟨#[65,65,65]⟩ : ByteArray))).setCell ⟨gb262,2,none⟩ (.string (⟨#[66,66,66]⟩ : ByteArray))).setCell ⟨gb262,3,none⟩ (.int .i64 3000)).setCell ⟨gb262,4,none⟩ (.int .i64 3060)).setCell ⟨gb262,5,none⟩ (.string (⟨#[98,55,51,55]⟩ : ByteArray))).setCell ⟨gb262,6,none⟩ (.int .i64 1)).setCell ⟨gb262,7,none⟩ (.int .i64 1)).setCell ⟨gb262,8,none⟩ (.int .i64 2)).heap[gb261]? = some (.cells #[.slice none 0 0,.slice none 0 0,.slice none 0 0] 26 (0,0))):=⟨by (with_reducible repeat (first|refine zah ?_ _|refine zak ?_|refine zag ?_ _));refine zaz ?_ NB261_262.out _;(with_reducible repeat (first|refine zah ?_ _|refine zak ?_|refine zag ?_ _));refine zaz ?_ NB261_262.out _;(with_reducible repeat (first|refine zah ?_ _|refine zak ?_|refine zag ?_ _));refine zaz ?_ NB261_262.out _;(with_reducible repeat (first|refine zah ?_ _|refine zak ?_|refine zag ?_ _));refine zaz ?_ NB261_262.out _;(with_reducible repeat (first|refine zah ?_ _|refine zak ?_|refine zag ?_ _));refine zaz ?_ NB261_262.out _;(with_reducible repeat (first|refine zah ?_ _|refine zak ?_|refine zag ?_ _));refine zaz ?_ NB261_262.out _;(with_reducible repeat (first|refine zah ?_ _|refine zak ?_|refine zag ?_ _));refine zaz ?_ NB261_262.out _;(with_reducible repeat (first|refine zah ?_ _|refine zak ?_|refine zag ?_ _));refine zaz ?_ NB261_262.out _;(with_reducible repeat (first|refine zah ?_ _|refine zak ?_|refine zag ?_ _));refine zaz ?_ NB261_262.out _;(with_reducible repeat (first|refine zah ?_ _|refine zak ?_|refine zag ?_ _));exact BK261.out⟩
 have n1_ : zac ((((((((((w4.setCell ⟨gb262,0,none⟩ (.string (⟨#[83,75,49]⟩ : ByteArray))).setCell ⟨gb262,1,none⟩ (.string (⟨#[65,65,65]⟩ : ByteArray))).setCell ⟨gb262,2,none⟩ (.string (⟨#[66,66,66]⟩ : ByteArray))).setCell ⟨gb262,3,none⟩ (.int .i64 3000)).setCell ⟨gb262,4,none⟩ (.int .i64 3060)).setCell ⟨gb262,5,none⟩ (.string (⟨#[98,55,51,55]⟩ : ByteArray))).setCell ⟨gb262,6,none⟩ (.int .i64 1)).setCell ⟨gb262,7,none⟩ (.int .i64 1)).setCell ⟨gb262,8,none⟩ (.int .i64 2)).heap[gb262]? = some (.cells #[.string (⟨#[83,75,49]⟩ : ByteArray),.string (⟨#[65,65,65]⟩ : ByteArray),.string (⟨#[66,66,66]⟩ : ByteArray),.int .i64 3000,.int .i64 3060,.string (⟨#[98,55,51,55]⟩ : ByteArray),.int .i64 1,.int .i64 1,.int .i64 2] 36 (0,0))):=⟨by (with_reducible repeat (first|refine zah ?_ _|refine zak ?_|refine zag ?_ _));refine zaw (cs:=#[.string (⟨#[83,75,49]⟩ : ByteArray),.string (⟨#[65,65,65]⟩ : ByteArray),.string (⟨#[66,66,66]⟩ : ByteArray),.int .i64 3000,.int .i64 3060,.string (⟨#[98,55,51,55]⟩ : ByteArray),.int .i64 1,.int .i64 1,.int .i64 0]) ?_ 8 _ rfl;(with_reducible repeat (first|refine zah ?_ _|refine zak ?_|refine zag ?_ _));refine zaw (cs:=#[.string (⟨#[83,75,49]⟩ : ByteArray),.string (⟨#[65,65,65]⟩ : ByteArray),.string (⟨#[66,66,66]⟩ : ByteArray),.int .i64 3000,.int .i64 3060,.string (⟨#[98,55,51,55]⟩ : ByteArray),.int .i64 1,.int .i64 0,.int .i64 0]) ?_ 7 _ rfl;(with_reducible repeat (first|refine zah ?_ _|refine zak ?_|refine zag ?_ _));refine zaw (cs:=#[.string (⟨#[83,75,49]⟩ : ByteArray),.string (⟨#[65,65,65]⟩ : ByteArray),.string (⟨#[66,66,66]⟩ : ByteArray),.int .i64 3000,.int .i64 3060,.string (⟨#[98,55,51,55]⟩ : ByteArray),.int .i64 0,.int .i64 0,.int .i64 0]) ?_ 6 _ rfl;(with_reducible repeat (first|refine zah ?_ _|refine zak ?_|refine zag ?_ _));refine zaw (cs:=#[.string (⟨#[83,75,49]⟩ : ByteArray),.string (⟨#[65,65,65]⟩ : ByteArray),.string (⟨#[66,66,66]⟩ : ByteArray),.int .i64 3000,.int .i64 3060,.string (⟨#[]⟩ : ByteArray),.int .i64 0,.int .i64 0,.int .i64 0]) ?_ 5 _ rfl;(with_reducible repeat (first|refine zah ?_ _|refine zak ?_|refine zag ?_ _));refine zaw (cs:=#[.string (⟨#[83,75,49]⟩ : ByteArray),.string (⟨#[65,65,65]⟩ : ByteArray),.string (⟨#[66,66,66]⟩ : ByteArray),.int .i64 3000,.int .i64 0,.string (⟨#[]⟩ : ByteArray),.int .i64 0,.int .i64 0,.int .i64 0]) ?_ 4 _ rfl;(with_reducible repeat (first|refine zah ?_ _|refine zak ?_|refine zag ?_ _));refine zaw (cs:=#[.string (⟨#[83,75,49]⟩ : ByteArray),.string (⟨#[65,65,65]⟩ : ByteArray),.string (⟨#[66,66,66]⟩ : ByteArray),.int .i64 0,.int .i64 0,.string (⟨#[]⟩ : ByteArray),.int .i64 0,.int .i64 0,.int .i64 0]) ?_ 3 _ rfl;(with_reducible repeat (first|refine zah ?_ _|refine zak ?_|refine zag ?_ _));refine zaw (cs:=#[.string (⟨#[83,75,49]⟩ : ByteArray),.string (⟨#[65,65,65]⟩ : ByteArray),.string (⟨#[]⟩ : ByteArray),.int .i64 0,.int .i64 0,.string (⟨#[]⟩ : ByteArray),.int .i64 0,.int .i64 0,.int .i64 0]) ?_ 2 _ rfl;(with_reducible repeat (first|refine zah ?_ _|refine zak ?_|refine zag ?_ _));refine zaw (cs:=#[.string (⟨#[83,75,49]⟩ : ByteArray),.string (⟨#[]⟩ : ByteArray),.string (⟨#[]⟩ : ByteArray),.int .i64 0,.int .i64 0,.string (⟨#[]⟩ : ByteArray),.int .i64 0,.int .i64 0,.int .i64 0]) ?_ 1 _ rfl;(with_reducible repeat (first|refine zah ?_ _|refine zak ?_|refine zag ?_ _));refine zaw (cs:=#[.string (⟨#[]⟩ : ByteArray),.string (⟨#[]⟩ : ByteArray),.string (⟨#[]⟩ : ByteArray),.int .i64 0,.int .i64 0,.string (⟨#[]⟩ : ByteArray),.int .i64 0,.int .i64 0,.int .i64 0]) ?_ 0 _ rfl;(with_reducible repeat (first|refine zah ?_ _|refine zak ?_|refine zag ?_ _));exact BK262.out⟩
 have n2_ : zac (Below w.heap.size w (((((((((w4.setCell ⟨gb262,0,none⟩ (.string (⟨#[83,75,49]⟩ : ByteArray))).setCell ⟨gb262,1,none⟩ (.string (⟨#[65,65,65]⟩ : ByteArray))).setCell ⟨gb262,2,none⟩ (.string (⟨#[66,66,66]⟩ : ByteArray))).setCell ⟨gb262,3,none⟩ (.int .i64 3000)).setCell ⟨gb262,4,none⟩ (.int .i64 3060)).setCell ⟨gb262,5,none⟩ (.string (⟨#[98,55,51,55]⟩ : ByteArray))).setCell ⟨gb262,6,none⟩ (.int .i64 1)).setCell ⟨gb262,7,none⟩ (.int .i64 1)).setCell ⟨gb262,8,none⟩ (.int .i64 2))):=⟨by repeat (first|(with_reducible first|exact HB.out|apply zae|apply zab|apply zaf|refine zai ?_ GE261.out|refine zai ?_ GE262.out)|exact HB.out)⟩
 (try clear BK261)
 (try clear BK262)
 (try clear HB)
 generalize (((((((((w4.setCell ⟨gb262,0,none⟩ (.string (⟨#[83,75,49]⟩ : ByteArray))).setCell ⟨gb262,1,none⟩ (.string (⟨#[65,65,65]⟩ : ByteArray))).setCell ⟨gb262,2,none⟩ (.string (⟨#[66,66,66]⟩ : ByteArray))).setCell ⟨gb262,3,none⟩ (.int .i64 3000)).setCell ⟨gb262,4,none⟩ (.int .i64 3060)).setCell ⟨gb262,5,none⟩ (.string (⟨#[98,55,51,55]⟩ : ByteArray))).setCell ⟨gb262,6,none⟩ (.int .i64 1)).setCell ⟨gb262,7,none⟩ (.int .i64 1)).setCell ⟨gb262,8,none⟩ (.int .i64 2)) = w7 at n0_ n1_ n2_ ⊢
 have BK261:=n0_
 have BK262:=n1_
 have HB:=n2_
 clear n0_ n1_ n2_
 have n0_:=zac.mk (zak BK261.out)
 have n1_:=zac.mk (zak BK262.out)
 have n2_:=zac.mk (zaf HB.out)
 clear BK261
 clear BK262
 clear HB
 have BK261:=n0_
 have BK262:=n1_
 have HB:=n2_
 clear n0_ n1_ n2_
 refine start_ (n:=6) (S:=fun w'=>True) (ds:=[]) #[false,false,false,false,false,false] (by kernel_rfl) rfl rfl trivial (fun hHeld=>?_);refine with_tabW zbv.tab2 zbv.bits2 (fun HT_ HW_=>?_)
 generalize w7.drew = w8 at BK261 BK262 HB hHeld ⊢
 refine inv_at [0,1,2,3,4,5] (fun a0_ b a w'=>∃ (v264 : Value) (v267 : Value) (v270 : Value) (m4_ : Value),a = putSel a0_ b [(0,4,v264),(1,5,v267),(2,6,.agg #[.string (⟨#[83,75,49]⟩ : ByteArray),.string (⟨#[65,65,65]⟩ : ByteArray),.string (⟨#[66,66,66]⟩ : ByteArray),.int .i64 3000,.int .i64 3060,.string (⟨#[98,55,51,55]⟩ : ByteArray),.int .i64 1,.int .i64 1,.int .i64 2]),(3,7,v270),(4,8,m4_)] ∧ (b 5 = false → w'.heap[gb261]? = some (.cells #[.slice none 0 0,.slice none 0 0,.slice none 0 0] 26 (0,0))) ∧ (w'.heap[gb262]? = some (.cells #[.string (⟨#[83,75,49]⟩ : ByteArray),.string (⟨#[65,65,65]⟩ : ByteArray),.string (⟨#[66,66,66]⟩ : ByteArray),.int .i64 3000,.int .i64 3060,.string (⟨#[98,55,51,55]⟩ : ByteArray),.int .i64 1,.int .i64 1,.int .i64 2] 36 (0,0))) ∧ (Below w.heap.size w w') ∧ (b 0 = true → Kd.N k42 42 w' w.heap.size (fun k_=>(w.heap.size ≤ k_) ∧ k_ ≠ gb261 ∧ k_ ≠ gb262) v264 t263) ∧ (b 1 = true → Kd.R k39 39 w' w.heap.size (fun k_=>(w.heap.size ≤ k_)) v267 t266) ∧ (b 3 = true → Kd.R k36 36 w' w.heap.size (fun k_=>(w.heap.size ≤ k_) ∧ k_ ≠ gb262) v270 y269) ∧ (b 5 = true → w'.heap[gb261]? = some (.cells #[v264,v267,v270] 26 (0,0))) ∧ (b 4 = true → (m4_ : Value) = .agg #[v264,v267,v270])) HT_.out HW_.out (by kernel_rfl) (by kernel_rfl) ?_ ?_ ?_
 ·exact ⟨.bool false,.bool false,.bool false,.bool false,by simp only [putSel,Bool.false_eq_true,if_false],fun _=>BK261.out,BK262.out,HB.out,fun h_=>absurd h_ (by decide),fun h_=>absurd h_ (by decide),fun h_=>absurd h_ (by decide),fun h_=>absurd h_ (by decide),fun h_=>absurd h_ (by decide)⟩
 ·skip
  clear BK261 BK262 HB
  refine steps_cons ?_ ?_
  ·rintro b a w' ⟨v264,v267,v270,m4_,ha,Q_BK261,Q_BK262,Q_HB,Q_HO265,Q_HO268,Q_HO271,Q_BK261_e5,Q_X4_⟩ hb_ hon hoff
   refine ⟨_,rfl,fun K hK=>?_⟩
   replace ha:=zac.mk ha
   have BK261:=zac.mk (Q_BK261 (hoff 5 (by kernel_rfl)))
   have BK262:=zac.mk Q_BK262
   have HB:=zac.mk Q_HB
   refine goes_ Try.func36 (by kernel_rfl) rfl #[] (by rfl) rfl rfl (by first|(simp only [List.map_toArray,List.map_cons,List.map_nil,Act.eval,Array.getD_eq_getD_getElem?,Option.getD_some];done)|(simp only [List.map_toArray,List.map_cons,List.map_nil,Act.eval,Array.getD_eq_getD_getElem?,Option.getD_some];rfl)) ?_
   with_reducible refine (pairingbase_Zones.calls  t263 _ A1.out).mono ?_
   rintro e w9 ⟨v264,rfl,ho0,hb⟩
   refine ⟨_,rfl,?_⟩
   have n0_:=zac.mk (Kd.N_lower (Kd.N_mono (ok':=fun k_=>(w.heap.size ≤ k_) ∧ k_ ≠ gb261 ∧ k_ ≠ gb262) ho0 (fun k_ hk_=>⟨(Nat.le_trans (zam (by repeat (first|(with_reducible first|exact HB.out|apply zae|apply zab|apply zaf|refine zai ?_ GE261.out|refine zai ?_ GE262.out)|exact HB.out))) hk_),(Kd.freshB (g:=gb261) (o:=.cells #[.slice none 0 0,.slice none 0 0,.slice none 0 0] 26 (0,0)) (by (with_reducible repeat (first|refine zah ?_ _|refine zak ?_|refine zag ?_ _));exact BK261.out) k_ hk_),(Kd.freshB (g:=gb262) (o:=.cells #[.string (⟨#[83,75,49]⟩ : ByteArray),.string (⟨#[65,65,65]⟩ : ByteArray),.string (⟨#[66,66,66]⟩ : ByteArray),.int .i64 3000,.int .i64 3060,.string (⟨#[98,55,51,55]⟩ : ByteArray),.int .i64 1,.int .i64 1,.int .i64 2] 36 (0,0)) (by (with_reducible repeat (first|refine zah ?_ _|refine zak ?_|refine zag ?_ _));exact BK262.out) k_ hk_)⟩)) (zam (by repeat (first|(with_reducible first|exact HB.out|apply zae|apply zab|apply zaf|refine zai ?_ GE261.out|refine zai ?_ GE262.out)|exact HB.out))))
   have n1_:=zac.mk (zat (g:=gb261) (o:=.cells #[.slice none 0 0,.slice none 0 0,.slice none 0 0] 26 (0,0)) (by (with_reducible repeat (first|refine zah ?_ _|refine zak ?_|refine zag ?_ _));exact BK261.out) hb)
   have n2_:=zac.mk (zat (g:=gb262) (o:=.cells #[.string (⟨#[83,75,49]⟩ : ByteArray),.string (⟨#[65,65,65]⟩ : ByteArray),.string (⟨#[66,66,66]⟩ : ByteArray),.int .i64 3000,.int .i64 3060,.string (⟨#[98,55,51,55]⟩ : ByteArray),.int .i64 1,.int .i64 1,.int .i64 2] 36 (0,0)) (by (with_reducible repeat (first|refine zah ?_ _|refine zak ?_|refine zag ?_ _));exact BK262.out) hb)
   have n3_:=zac.mk (zao (by repeat (first|(with_reducible first|exact HB.out|apply zae|apply zab|apply zaf|refine zai ?_ GE261.out|refine zai ?_ GE262.out)|exact HB.out)) hb)
   have z_HO271:=fun (h0_ : b 3 = true)=>(show Kd.R k36 36 w9 w.heap.size (fun k_=>(w.heap.size ≤ k_) ∧ k_ ≠ gb262) v270 y269 from by first|exact (Kd.R_below (by (with_reducible repeat (first|apply Kd.R_alloc|apply Kd.R_drewN|apply Kd.R_drew));exact (Q_HO271 h0_)) hb)|exact Kd.R_mono (Kd.R_below (by (with_reducible repeat (first|apply Kd.R_alloc|apply Kd.R_drewN|apply Kd.R_drew));exact (Q_HO271 h0_)) hb) (fun _ h_=>by first|trivial|exact h_|exact h_.1))
   clear BK261
   clear BK262
   clear HB
   have HO265:=n0_
   have BK261:=n1_
   have BK262:=n2_
   have HB:=n3_
   clear n0_ n1_ n2_ n3_
   (try clear hb)
   (try clear hb2)
   (try clear hk)
   (try clear hi)
   (try clear ho0)
   refine hK.out _ _ ⟨v264,v267,v270,m4_,(by rw [ha.out];exact putSel_upk 0 hb_ rfl rfl rfl),fun _=>(by (with_reducible repeat (first|refine zah ?_ _|refine zak ?_|refine zag ?_ _));exact BK261.out),(by (with_reducible repeat (first|refine zah ?_ _|refine zak ?_|refine zag ?_ _));exact BK262.out),(by repeat (first|(with_reducible first|exact HB.out|apply zae|apply zab|apply zaf|refine zai ?_ GE261.out|refine zai ?_ GE262.out)|exact HB.out)),fun _=>(by (with_reducible repeat (first|apply Kd.N_alloc|apply Kd.N_drewN|apply Kd.N_drew));exact HO265.out),fun h0_=>absurd ((hoff 1 (by kernel_rfl)).symm.trans h0_) (by decide),z_HO271,fun h0_=>absurd ((hoff 5 (by kernel_rfl)).symm.trans h0_) (by decide),fun h0_=>absurd ((hoff 4 (by kernel_rfl)).symm.trans h0_) (by decide)⟩
  refine steps_cons ?_ ?_
  ·rintro b a w' ⟨v264,v267,v270,m4_,ha,Q_BK261,Q_BK262,Q_HB,Q_HO265,Q_HO268,Q_HO271,Q_BK261_e5,Q_X4_⟩ hb_ hon hoff
   refine ⟨_,rfl,fun K hK=>?_⟩
   replace ha:=zac.mk ha
   have BK261:=zac.mk (Q_BK261 (hoff 5 (by kernel_rfl)))
   have BK262:=zac.mk Q_BK262
   have HB:=zac.mk Q_HB
   have HO265:=zac.mk (Q_HO265 (hon 0 (by kernel_rfl)))
   refine goes_ Try.func37 (by kernel_rfl) rfl #[] (by rfl) rfl rfl (by first|(simp only [List.map_toArray,List.map_cons,List.map_nil,Act.eval,Array.getD_eq_getD_getElem?,Option.getD_some];done)|(simp only [List.map_toArray,List.map_cons,List.map_nil,Act.eval,Array.getD_eq_getD_getElem?,Option.getD_some];rfl)) ?_
   with_reducible refine (pairingbase_Airports.calls  t266 _ A2.out).mono ?_
   rintro e w11 ⟨v267,rfl,ho0,hb⟩
   refine ⟨_,rfl,?_⟩
   have n0_:=zac.mk (Kd.N_elder' (by (with_reducible repeat (first|apply Kd.N_alloc|apply Kd.N_drewN|apply Kd.N_drew));exact HO265.out) (Kd.R_base ho0) hb)
   have n1_:=zac.mk (Kd.R_lower (Kd.R_newM (M:=fun k_=>(w.heap.size ≤ k_)) ho0 (zam (by repeat (first|(with_reducible first|exact HB.out|apply zae|apply zab|apply zaf|refine zai ?_ GE261.out|refine zai ?_ GE262.out)|exact HB.out))) (fun k_ h_=>h_)) (zam (by repeat (first|(with_reducible first|exact HB.out|apply zae|apply zab|apply zaf|refine zai ?_ GE261.out|refine zai ?_ GE262.out)|exact HB.out))))
   have n2_:=zac.mk (zat (g:=gb261) (o:=.cells #[.slice none 0 0,.slice none 0 0,.slice none 0 0] 26 (0,0)) (by (with_reducible repeat (first|refine zah ?_ _|refine zak ?_|refine zag ?_ _));exact BK261.out) hb)
   have n3_:=zac.mk (zat (g:=gb262) (o:=.cells #[.string (⟨#[83,75,49]⟩ : ByteArray),.string (⟨#[65,65,65]⟩ : ByteArray),.string (⟨#[66,66,66]⟩ : ByteArray),.int .i64 3000,.int .i64 3060,.string (⟨#[98,55,51,55]⟩ : ByteArray),.int .i64 1,.int .i64 1,.int .i64 2] 36 (0,0)) (by (with_reducible repeat (first|refine zah ?_ _|refine zak ?_|refine zag ?_ _));exact BK262.out) hb)
   have n4_:=zac.mk (zao (by repeat (first|(with_reducible first|exact HB.out|apply zae|apply zab|apply zaf|refine zai ?_ GE261.out|refine zai ?_ GE262.out)|exact HB.out)) hb)
   have z_HO271:=fun (h0_ : b 3 = true)=>(show Kd.R k36 36 w11 w.heap.size (fun k_=>(w.heap.size ≤ k_) ∧ k_ ≠ gb262) v270 y269 from by first|exact (Kd.R_below (by (with_reducible repeat (first|apply Kd.R_alloc|apply Kd.R_drewN|apply Kd.R_drew));exact (Q_HO271 h0_)) hb)|exact Kd.R_mono (Kd.R_below (by (with_reducible repeat (first|apply Kd.R_alloc|apply Kd.R_drewN|apply Kd.R_drew));exact (Q_HO271 h0_)) hb) (fun _ h_=>by first|trivial|exact h_|exact h_.1))
   clear HO265
   clear BK261
   clear BK262
   clear HB
   have HO265:=n0_
   have HO268:=n1_
   have BK261:=n2_
   have BK262:=n3_
   have HB:=n4_
   clear n0_ n1_ n2_ n3_ n4_
   (try clear hb)
   (try clear hb2)
   (try clear hk)
   (try clear hi)
   (try clear ho0)
   refine hK.out _ _ ⟨v264,v267,v270,m4_,(by rw [ha.out];exact putSel_upk 1 hb_ rfl rfl rfl),fun _=>(by (with_reducible repeat (first|refine zah ?_ _|refine zak ?_|refine zag ?_ _));exact BK261.out),(by (with_reducible repeat (first|refine zah ?_ _|refine zak ?_|refine zag ?_ _));exact BK262.out),(by repeat (first|(with_reducible first|exact HB.out|apply zae|apply zab|apply zaf|refine zai ?_ GE261.out|refine zai ?_ GE262.out)|exact HB.out)),fun _=>(by (with_reducible repeat (first|apply Kd.N_alloc|apply Kd.N_drewN|apply Kd.N_drew));exact Kd.N_mono HO265.out (fun _ hk=>by first|exact ⟨hk.1.1,⟨hk.2,⟨hk.1.2.1,hk.1.2.2⟩⟩⟩|(simp only [ne_eq] at hk ⊢;revert hk;simp only [and_imp];intros;(repeat' apply And.intro) <;> assumption))),fun _=>(by (with_reducible repeat (first|apply Kd.R_alloc|apply Kd.R_drewN|apply Kd.R_drew));exact Kd.R_mono HO268.out (fun _ hk=>hk.1)),z_HO271,fun h0_=>absurd ((hoff 5 (by kernel_rfl)).symm.trans h0_) (by decide),fun h0_=>absurd ((hoff 4 (by kernel_rfl)).symm.trans h0_) (by decide)⟩
  refine steps_cons ?_ ?_
  ·rintro b a w' ⟨v264,v267,v270,m4_,ha,Q_BK261,Q_BK262,Q_HB,Q_HO265,Q_HO268,Q_HO271,Q_BK261_e5,Q_X4_⟩ hb_ hon hoff
   refine ⟨_,rfl,fun K hK=>?_⟩
   have e1 : a.tmps[1]? = some (.pointer (some ⟨gb262,0,none⟩)):=by rw [ha];exact (putSel_off rfl).trans rfl
   replace ha:=zac.mk ha
   have BK261:=zac.mk (Q_BK261 (hoff 5 (by kernel_rfl)))
   have BK262:=zac.mk Q_BK262
   have HB:=zac.mk Q_HB
   have hc0_ : w'.cell? ⟨gb262,0,none⟩ = some (.string (⟨#[83,75,49]⟩ : ByteArray)):=(zad BK262.out 0).trans rfl
   have hc1_ : w'.cell? ⟨gb262,1,none⟩ = some (.string (⟨#[65,65,65]⟩ : ByteArray)):=(zad BK262.out 1).trans rfl
   have hc2_ : w'.cell? ⟨gb262,2,none⟩ = some (.string (⟨#[66,66,66]⟩ : ByteArray)):=(zad BK262.out 2).trans rfl
   have hc3_ : w'.cell? ⟨gb262,3,none⟩ = some (.int .i64 3000):=(zad BK262.out 3).trans rfl
   have hc4_ : w'.cell? ⟨gb262,4,none⟩ = some (.int .i64 3060):=(zad BK262.out 4).trans rfl
   have hc5_ : w'.cell? ⟨gb262,5,none⟩ = some (.string (⟨#[98,55,51,55]⟩ : ByteArray)):=(zad BK262.out 5).trans rfl
   have hc6_ : w'.cell? ⟨gb262,6,none⟩ = some (.int .i64 1):=(zad BK262.out 6).trans rfl
   have hc7_ : w'.cell? ⟨gb262,7,none⟩ = some (.int .i64 1):=(zad BK262.out 7).trans rfl
   have hc8_ : w'.cell? ⟨gb262,8,none⟩ = some (.int .i64 2):=(zad BK262.out 8).trans rfl
   refine value_ (w1:=w') (v:=.agg #[.string (⟨#[83,75,49]⟩ : ByteArray),.string (⟨#[65,65,65]⟩ : ByteArray),.string (⟨#[66,66,66]⟩ : ByteArray),.int .i64 3000,.int .i64 3060,.string (⟨#[98,55,51,55]⟩ : ByteArray),.int .i64 1,.int .i64 1,.int .i64 2]) (by rfl) rfl ?_ ?_
   ·go_simp
    (try simp only [i64_w])
    try rfl
   refine hK.out _ _ ⟨v264,v267,v270,m4_,(by rw [ha.out];exact putSel_upk 2 hb_ rfl rfl rfl),Q_BK261,Q_BK262,Q_HB,Q_HO265,Q_HO268,fun h0_=>absurd ((hoff 3 (by kernel_rfl)).symm.trans h0_) (by decide),fun h0_=>absurd ((hoff 5 (by kernel_rfl)).symm.trans h0_) (by decide),fun h0_=>absurd ((hoff 4 (by kernel_rfl)).symm.trans h0_) (by decide)⟩
  refine steps_cons ?_ ?_
  ·rintro b a w' ⟨v264,v267,v270,m4_,ha,Q_BK261,Q_BK262,Q_HB,Q_HO265,Q_HO268,Q_HO271,Q_BK261_e5,Q_X4_⟩ hb_ hon hoff
   refine ⟨_,rfl,fun K hK=>?_⟩
   have e6 : a.tmps[6]? = some (.agg #[.string (⟨#[83,75,49]⟩ : ByteArray),.string (⟨#[65,65,65]⟩ : ByteArray),.string (⟨#[66,66,66]⟩ : ByteArray),.int .i64 3000,.int .i64 3060,.string (⟨#[98,55,51,55]⟩ : ByteArray),.int .i64 1,.int .i64 1,.int .i64 2]):=by rw [ha];exact putSel_on (e:=(2,6,.agg #[.string (⟨#[83,75,49]⟩ : ByteArray),.string (⟨#[65,65,65]⟩ : ByteArray),.string (⟨#[66,66,66]⟩ : ByteArray),.int .i64 3000,.int .i64 3060,.string (⟨#[98,55,51,55]⟩ : ByteArray),.int .i64 1,.int .i64 1,.int .i64 2])) 2 rfl rfl (hon 2 (by kernel_rfl)) rfl
   replace ha:=zac.mk ha
   have BK261:=zac.mk (Q_BK261 (hoff 5 (by kernel_rfl)))
   have BK262:=zac.mk Q_BK262
   have HB:=zac.mk Q_HB
   refine Kd.R_lit_step k36 _ 36 ?hg (N:=7) ?hd (xs:=([(⟨(⟨#[83,75,49]⟩ : ByteArray),(⟨#[65,65,65]⟩ : ByteArray),(⟨#[66,66,66]⟩ : ByteArray),3000,3060,(⟨#[98,55,51,55]⟩ : ByteArray),(⟨1,1,2⟩ : S34)⟩ : S36)] : List (S36))) (inner:=[.string (⟨#[83,75,49]⟩ : ByteArray),.string (⟨#[65,65,65]⟩ : ByteArray),.string (⟨#[66,66,66]⟩ : ByteArray),.int .i64 3000,.int .i64 3060,.string (⟨#[98,55,51,55]⟩ : ByteArray),.int .i64 1,.int .i64 1,.int .i64 2]) (ok:=fun _=>True) (okp:=fun _=>True) ?hr ?hp (fun _ hk=>hk) trivial (Below.refl _ _) (Nat.le_refl _) (by simp) ?_;(case hd=>rfl);(case hg=>rfl);(case hr=>first|(go_simp;done)|(go_simp;rfl));(case hp=>exact (Reps.c9 (show Kd.M k36 _ _ _ (⟨(⟨#[83,75,49]⟩ : ByteArray),(⟨#[65,65,65]⟩ : ByteArray),(⟨#[66,66,66]⟩ : ByteArray),3000,3060,(⟨#[98,55,51,55]⟩ : ByteArray),(⟨1,1,2⟩ : S34)⟩ : S36) [.string (⟨#[83,75,49]⟩ : ByteArray),.string (⟨#[65,65,65]⟩ : ByteArray),.string (⟨#[66,66,66]⟩ : ByteArray),.int .i64 3000,.int .i64 3060,.string (⟨#[98,55,51,55]⟩ : ByteArray),.int .i64 1,.int .i64 1,.int .i64 2] from (k36_mkM _ _ _ (⟨(⟨#[83,75,49]⟩ : ByteArray),(⟨#[65,65,65]⟩ : ByteArray),(⟨#[66,66,66]⟩ : ByteArray),3000,3060,(⟨#[98,55,51,55]⟩ : ByteArray),(⟨1,1,2⟩ : S34)⟩ : S36) )) (Reps.none _ _)))
   intro v270 w9 ho10 hb hg_ hnew_
   clear hg_ hnew_
   (first|rw [← Ny269.out] at ho10|(simp only [Int.reduceToNat] at ho10;rw [← Ny269.out] at ho10))
   have n0_:=zac.mk (Kd.R_lower (Kd.R_newB (Kd.R_newM (M:=fun k_=>(w.heap.size ≤ k_)) ho10 (zam (by repeat (first|(with_reducible first|exact HB.out|apply zae|apply zab|apply zaf|refine zai ?_ GE261.out|refine zai ?_ GE262.out)|exact HB.out))) (fun k_ h_=>h_)) (g:=gb262) (o:=.cells #[.string (⟨#[83,75,49]⟩ : ByteArray),.string (⟨#[65,65,65]⟩ : ByteArray),.string (⟨#[66,66,66]⟩ : ByteArray),.int .i64 3000,.int .i64 3060,.string (⟨#[98,55,51,55]⟩ : ByteArray),.int .i64 1,.int .i64 1,.int .i64 2] 36 (0,0)) (by (with_reducible repeat (first|refine zah ?_ _|refine zak ?_|refine zag ?_ _));exact BK262.out)) (zam (by repeat (first|(with_reducible first|exact HB.out|apply zae|apply zab|apply zaf|refine zai ?_ GE261.out|refine zai ?_ GE262.out)|exact HB.out))))
   have n1_:=zac.mk (zat (g:=gb261) (o:=.cells #[.slice none 0 0,.slice none 0 0,.slice none 0 0] 26 (0,0)) (by (with_reducible repeat (first|refine zah ?_ _|refine zak ?_|refine zag ?_ _));exact BK261.out) hb)
   have n2_:=zac.mk (zat (g:=gb262) (o:=.cells #[.string (⟨#[83,75,49]⟩ : ByteArray),.string (⟨#[65,65,65]⟩ : ByteArray),.string (⟨#[66,66,66]⟩ : ByteArray),.int .i64 3000,.int .i64 3060,.string (⟨#[98,55,51,55]⟩ : ByteArray),.int .i64 1,.int .i64 1,.int .i64 2] 36 (0,0)) (by (with_reducible repeat (first|refine zah ?_ _|refine zak ?_|refine zag ?_ _));exact BK262.out) hb)
   have n3_:=zac.mk (zao (by repeat (first|(with_reducible first|exact HB.out|apply zae|apply zab|apply zaf|refine zai ?_ GE261.out|refine zai ?_ GE262.out)|exact HB.out)) hb)
   have z_HO265:=fun (h0_ : b 0 = true)=>(show Kd.N k42 42 w9 w.heap.size (fun k_=>(w.heap.size ≤ k_) ∧ k_ ≠ gb261 ∧ k_ ≠ gb262) v264 t263 from by first|exact (Kd.N_elder' (by (with_reducible repeat (first|apply Kd.N_alloc|apply Kd.N_drewN|apply Kd.N_drew));exact (Q_HO265 h0_)) (Kd.R_base ho10) hb)|exact Kd.N_mono (Kd.N_elder' (by (with_reducible repeat (first|apply Kd.N_alloc|apply Kd.N_drewN|apply Kd.N_drew));exact (Q_HO265 h0_)) (Kd.R_base ho10) hb) (fun _ h_=>by first|trivial|exact h_|exact h_.1))
   have z_HO268:=fun (h0_ : b 1 = true)=>(show Kd.R k39 39 w9 w.heap.size (fun k_=>(w.heap.size ≤ k_)) v267 t266 from by first|exact (Kd.R_below (by (with_reducible repeat (first|apply Kd.R_alloc|apply Kd.R_drewN|apply Kd.R_drew));exact (Q_HO268 h0_)) hb)|exact Kd.R_mono (Kd.R_below (by (with_reducible repeat (first|apply Kd.R_alloc|apply Kd.R_drewN|apply Kd.R_drew));exact (Q_HO268 h0_)) hb) (fun _ h_=>by first|trivial|exact h_|exact h_.1))
   clear BK261
   clear BK262
   clear HB
   have HO271:=n0_
   have BK261:=n1_
   have BK262:=n2_
   have HB:=n3_
   clear n0_ n1_ n2_ n3_
   clear hb ho10
   refine hK.out _ _ ⟨v264,v267,v270,m4_,(by rw [ha.out];exact putSel_upk 3 hb_ rfl rfl rfl),fun _=>(by (with_reducible repeat (first|refine zah ?_ _|refine zak ?_|refine zag ?_ _));exact BK261.out),(by (with_reducible repeat (first|refine zah ?_ _|refine zak ?_|refine zag ?_ _));exact BK262.out),(by repeat (first|(with_reducible first|exact HB.out|apply zae|apply zab|apply zaf|refine zai ?_ GE261.out|refine zai ?_ GE262.out)|exact HB.out)),z_HO265,z_HO268,fun _=>(by (with_reducible repeat (first|apply Kd.R_alloc|apply Kd.R_drewN|apply Kd.R_drew));exact Kd.R_mono HO271.out (fun _ hk=>by first|exact ⟨hk.1.1,hk.2⟩|(simp only [ne_eq] at hk ⊢;revert hk;simp only [and_imp];intros;(repeat' apply And.intro) <;> assumption))),fun h0_=>absurd ((hoff 5 (by kernel_rfl)).symm.trans h0_) (by decide),fun h0_=>absurd ((hoff 4 (by kernel_rfl)).symm.trans h0_) (by decide)⟩
  refine steps_cons ?_ ?_
  ·rintro b a w' ⟨v264,v267,v270,m4_,ha,Q_BK261,Q_BK262,Q_HB,Q_HO265,Q_HO268,Q_HO271,Q_BK261_e5,Q_X4_⟩ hb_ hon hoff
   refine ⟨_,rfl,fun K hK=>?_⟩
   have e4 : a.tmps[4]? = some (v264):=by rw [ha];exact putSel_on (e:=(0,4,v264)) 0 rfl rfl (hon 0 (by kernel_rfl)) rfl
   have e5 : a.tmps[5]? = some (v267):=by rw [ha];exact putSel_on (e:=(1,5,v267)) 1 rfl rfl (hon 1 (by kernel_rfl)) rfl
   have e7 : a.tmps[7]? = some (v270):=by rw [ha];exact putSel_on (e:=(3,7,v270)) 3 rfl rfl (hon 3 (by kernel_rfl)) rfl
   replace ha:=zac.mk ha
   have BK261:=zac.mk (Q_BK261 (hoff 5 (by kernel_rfl)))
   have BK262:=zac.mk Q_BK262
   have HB:=zac.mk Q_HB
   have HO265:=zac.mk (Q_HO265 (hon 0 (by kernel_rfl)))
   have HO268:=zac.mk (Q_HO268 (hon 1 (by kernel_rfl)))
   have HO271:=zac.mk (Q_HO271 (hon 3 (by kernel_rfl)))
   obtain ⟨Ao4_0,co4_0,eo_⟩:=Kd.N_slice HO265.out
   subst eo_
   obtain ⟨Ao4_1,co4_1,eo_⟩:=Kd.R_slice HO268.out
   subst eo_
   obtain ⟨Ao4_2,co4_2,eo_⟩:=Kd.R_slice HO271.out
   subst eo_
   refine value_ (w1:=w') (v:=.agg #[.slice Ao4_0 t263.length co4_0,.slice Ao4_1 t266.length co4_1,.slice Ao4_2 y269.length co4_2]) (by rfl) rfl ?_ ?_
   ·go_simp
    (try simp only [i64_w])
    try rfl
   refine hK.out _ _ ⟨.slice Ao4_0 t263.length co4_0,.slice Ao4_1 t266.length co4_1,.slice Ao4_2 y269.length co4_2,(.agg #[.slice Ao4_0 t263.length co4_0,.slice Ao4_1 t266.length co4_1,.slice Ao4_2 y269.length co4_2]),(by rw [ha.out];exact putSel_upk 4 hb_ rfl rfl rfl),Q_BK261,Q_BK262,Q_HB,Q_HO265,Q_HO268,Q_HO271,fun h0_=>absurd ((hoff 5 (by kernel_rfl)).symm.trans h0_) (by decide),fun _=>rfl⟩
  refine steps_cons ?_ ?_
  ·rintro b a w' ⟨v264,v267,v270,m4_,ha,Q_BK261,Q_BK262,Q_HB,Q_HO265,Q_HO268,Q_HO271,Q_BK261_e5,Q_X4_⟩ hb_ hon hoff
   refine ⟨_,rfl,fun K hK=>?_⟩
   have e0 : a.tmps[0]? = some (.pointer (some ⟨gb261,0,none⟩)):=by rw [ha];exact (putSel_off rfl).trans rfl
   have e8 : a.tmps[8]? = some (m4_):=by rw [ha];exact putSel_on (e:=(4,8,m4_)) 4 rfl rfl (hon 4 (by kernel_rfl)) rfl
   rw [Q_X4_ (hon 4 (by kernel_rfl))] at e8
   replace ha:=zac.mk ha
   have BK261:=zac.mk (Q_BK261 hb_)
   have BK262:=zac.mk Q_BK262
   have HB:=zac.mk Q_HB
   have HO265:=zac.mk (Q_HO265 (hon 0 (by kernel_rfl)))
   have HO268:=zac.mk (Q_HO268 (hon 1 (by kernel_rfl)))
   have HO271:=zac.mk (Q_HO271 (hon 3 (by kernel_rfl)))
   obtain ⟨Ao17,co17,eo17⟩:=Kd.R_slice HO271.out
   (first|subst eo17|(injection eo17 with f1_ f2_ f3_;have f4_:=f1_.symm;have f5_:=f3_.symm;clear f1_ f2_ f3_;subst f4_;subst f5_))
   obtain ⟨Ao18,co18,eo18⟩:=Kd.R_slice HO268.out
   (first|subst eo18|(injection eo18 with f1_ f2_ f3_;have f4_:=f1_.symm;have f5_:=f3_.symm;clear f1_ f2_ f3_;subst f4_;subst f5_))
   obtain ⟨Ao19,co19,eo19⟩:=Kd.N_slice HO265.out
   (first|subst eo19|(injection eo19 with f1_ f2_ f3_;have f4_:=f1_.symm;have f5_:=f3_.symm;clear f1_ f2_ f3_;subst f4_;subst f5_))
   have hs20 : w'.cell? ⟨gb261,0,none⟩ = some (.slice none 0 0):=(zad BK261.out 0).trans rfl
   have hfs20:=zaa BK261.out 0
   have hns20_1:=NB262_261.out
   have hms20_1:=NB261_262.out
   have hs21 : w'.cell? ⟨gb261,1,none⟩ = some (.slice none 0 0):=(zad BK261.out 1).trans rfl
   have hfs21:=zaa BK261.out 1
   have hns21_1:=NB262_261.out
   have hms21_1:=NB261_262.out
   have hs22 : w'.cell? ⟨gb261,2,none⟩ = some (.slice none 0 0):=(zad BK261.out 2).trans rfl
   have hfs22:=zaa BK261.out 2
   have hns22_1:=NB262_261.out
   have hms22_1:=NB261_262.out
   refine skip_ (w1:=?_) (by rfl) rfl ?_ ?_
   rotate_left
   ·go_simp
    rfl
   refine hK.out _ _ ⟨.slice Ao19 t263.length co19,.slice Ao18 t266.length co18,.slice Ao17 y269.length co17,m4_,(by rw [ha.out];exact putSel_none (v:=undef) rfl),fun h0_=>absurd ((up_self b 5).symm.trans h0_) (by decide),(by (with_reducible repeat (first|refine zah ?_ _|refine zak ?_|refine zag ?_ _));refine zaz ?_ NB262_261.out _;(with_reducible repeat (first|refine zah ?_ _|refine zak ?_|refine zag ?_ _));refine zaz ?_ NB262_261.out _;(with_reducible repeat (first|refine zah ?_ _|refine zak ?_|refine zag ?_ _));refine zaz ?_ NB262_261.out _;(with_reducible repeat (first|refine zah ?_ _|refine zak ?_|refine zag ?_ _));exact BK262.out),(by repeat (first|(with_reducible first|exact HB.out|apply zae|apply zab|apply zaf|refine zai ?_ GE261.out|refine zai ?_ GE262.out)|exact HB.out)),fun _=>(by (with_reducible repeat (first|apply Kd.N_alloc|apply Kd.N_drewN|apply Kd.N_drew));exact Kd.N_mono (Kd.N_far (p:=⟨gb261,2,none⟩) (Kd.N_far (p:=⟨gb261,1,none⟩) (Kd.N_far (p:=⟨gb261,0,none⟩) (Kd.N_mono HO265.out (fun k_ hk=>(⟨hk,by simp only [ne_eq] at hk ⊢;revert hk;simp only [and_imp];intros;assumption⟩ : _ ∧ k_ ≠ gb261))) (fun _ hk=>hk.2) (.slice Ao19 t263.length co19)) (fun _ hk=>hk.2) (.slice Ao18 t266.length co18)) (fun _ hk=>hk.2) (.slice Ao17 y269.length co17)) (fun _ hk=>by first|exact ⟨hk.1.1,⟨hk.1.2.1,⟨hk.1.2.2.1,⟨hk.1.2.2.2.1,hk.1.2.2.2.2⟩⟩⟩⟩|(simp only [ne_eq] at hk ⊢;revert hk;simp only [and_imp];intros;(repeat' apply And.intro) <;> assumption))),fun _=>(by (with_reducible repeat (first|apply Kd.R_alloc|apply Kd.R_drewN|apply Kd.R_drew));exact Kd.R_mono (Kd.R_far (p:=⟨gb261,2,none⟩) (Kd.R_far (p:=⟨gb261,1,none⟩) (Kd.R_far (p:=⟨gb261,0,none⟩) (Kd.R_types HO268.out BK261.out (by decide)) (fun _ hk=>hk.2) (.slice Ao19 t263.length co19)) (fun _ hk=>hk.2) (.slice Ao18 t266.length co18)) (fun _ hk=>hk.2) (.slice Ao17 y269.length co17)) (fun _ hk=>hk.1)),fun _=>(by (with_reducible repeat (first|apply Kd.R_alloc|apply Kd.R_drewN|apply Kd.R_drew));exact Kd.R_mono (Kd.R_far (p:=⟨gb261,2,none⟩) (Kd.R_far (p:=⟨gb261,1,none⟩) (Kd.R_far (p:=⟨gb261,0,none⟩) (Kd.R_types HO271.out BK261.out (by decide)) (fun _ hk=>hk.2) (.slice Ao19 t263.length co19)) (fun _ hk=>hk.2) (.slice Ao18 t266.length co18)) (fun _ hk=>hk.2) (.slice Ao17 y269.length co17)) (fun _ hk=>by first|exact ⟨hk.1.1,hk.1.2⟩|(simp only [ne_eq] at hk ⊢;revert hk;simp only [and_imp];intros;(repeat' apply And.intro) <;> assumption))),fun _=>(by (with_reducible repeat (first|refine zah ?_ _|refine zak ?_|refine zag ?_ _));refine zaw (cs:=#[.slice Ao19 t263.length co19,.slice Ao18 t266.length co18,.slice none 0 0]) ?_ 2 _ rfl;(with_reducible repeat (first|refine zah ?_ _|refine zak ?_|refine zag ?_ _));refine zaw (cs:=#[.slice Ao19 t263.length co19,.slice none 0 0,.slice none 0 0]) ?_ 1 _ rfl;(with_reducible repeat (first|refine zah ?_ _|refine zak ?_|refine zag ?_ _));refine zaw (cs:=#[.slice none 0 0,.slice none 0 0,.slice none 0 0]) ?_ 0 _ rfl;(with_reducible repeat (first|refine zah ?_ _|refine zak ?_|refine zag ?_ _));exact BK261.out),Q_X4_⟩
  exact steps_nil
 rintro b a w19 hall ⟨v264,v267,v270,m4_,ha,Q_BK261,Q_BK262,Q_HB,Q_HO265,Q_HO268,Q_HO271,Q_BK261_e5,Q_X4_⟩
 clear BK261 BK262 HB
 have hb0_:=hall 0 (by kernel_rfl)
 have hb1_:=hall 1 (by kernel_rfl)
 have hb2_:=hall 2 (by kernel_rfl)
 have hb3_:=hall 3 (by kernel_rfl)
 have hb4_:=hall 4 (by kernel_rfl)
 have hb5_:=hall 5 (by kernel_rfl)
 subst ha
 obtain rfl:=Q_X4_ hb4_
 simp only [putSel,hb0_,hb1_,hb2_,hb3_,hb4_,hb5_,if_true,Act.put,List.setIfInBounds_toArray,List.set_cons_zero,List.set_cons_succ]
 clear Q_BK261
 have BK262:=zac.mk Q_BK262
 clear Q_BK262
 have HB:=zac.mk Q_HB
 clear Q_HB
 have HO265:=zac.mk (Q_HO265 hb0_)
 clear Q_HO265
 have HO268:=zac.mk (Q_HO268 hb1_)
 clear Q_HO268
 have HO271:=zac.mk (Q_HO271 hb3_)
 clear Q_HO271
 have BK261:=zac.mk (Q_BK261_e5 hb5_)
 clear Q_BK261_e5
 clear hall hb0_ hb1_ hb2_ hb3_ hb4_ hb5_
 obtain ⟨Ao20,co20,eo20⟩:=Kd.R_slice HO271.out
 (first|subst eo20|(injection eo20 with f1_ f2_ f3_;have f4_:=f1_.symm;have f5_:=f3_.symm;clear f1_ f2_ f3_;subst f4_;subst f5_))
 obtain ⟨Ao21,co21,eo21⟩:=Kd.R_slice HO268.out
 (first|subst eo21|(injection eo21 with f1_ f2_ f3_;have f4_:=f1_.symm;have f5_:=f3_.symm;clear f1_ f2_ f3_;subst f4_;subst f5_))
 obtain ⟨Ao22,co22,eo22⟩:=Kd.N_slice HO265.out
 (first|subst eo22|(injection eo22 with f1_ f2_ f3_;have f4_:=f1_.symm;have f5_:=f3_.symm;clear f1_ f2_ f3_;subst f4_;subst f5_))
 try go_wp2
 refine bodyPost_ret (results_cell_row rfl _ _ gb261 26 #[.slice Ao22 t263.length co22,.slice Ao21 t266.length co21,.slice Ao20 y269.length co20] (0,0) _ rfl (by (with_reducible repeat (first|refine zah ?_ _|refine zak ?_|refine zag ?_ _));exact BK261.out) Try.underlying26 rfl (by kernel_rfl)) rfl ?_
 exact ⟨_,_,_,by first|rfl|(simp [errW_none,errW_some] <;> rfl)|(simp [*,errW_none,errW_some] <;> rfl),by (with_reducible repeat (first|apply Kd.N_alloc|apply Kd.N_drewN|apply Kd.N_drew));exact Kd.N_mono HO265.out (fun _ hk=>hk.1),by (with_reducible repeat (first|apply Kd.R_alloc|apply Kd.R_drewN|apply Kd.R_drew));exact HO268.out,by (with_reducible repeat (first|apply Kd.R_alloc|apply Kd.R_drewN|apply Kd.R_drew));exact Kd.R_mono HO271.out (fun _ hk=>hk.1),by repeat (first|(with_reducible first|exact HB.out|apply zae|apply zab|apply zaf|refine zai ?_ GE261.out|refine zai ?_ GE262.out)|exact HB.out)⟩
end Go.Proofs.Ytepnddmalheoiaa.Q
namespace Go.Proofs.Ytepnddmalheoiaa.Q
open Go.Proofs.Ytepnddmalheoiaa.H
open Go.RowKit Go.Proofs.YtepnddmalheoiaaW.PrintWords Go.Proofs.YtepnddmalheoiaaW.PrintLast Go.Proofs.YtepnddmalheoiaaW.PrintMore
def exZ : List S42:=((zbv.f).getD ([],[],[])).1
def exP : List S39:=((zbv.f).getD ([],[],[])).2.1
def exF : List S36:=((zbv.f).getD ([],[],[])).2.2
theorem ex_f : zbv.f = some (exZ,exP,exF):=rfl
def exFr : List Int:=((timetable_Encode.f 60 exZ exP exF).getD ([],1)).1
theorem ex_enc : timetable_Encode.f 60 exZ exP exF = some (exFr,0):=by decide +kernel
def exD : List S42 × List S39 × List S36 × Int:=(timetable_Decode.f 60 exFr).getD ([],[],[],1)
theorem opt_getD {α : Type} {o : Option α} {d : α} (h : o.isSome = true) : o = some (o.getD d):=by
 cases o with
 | none=>cases h
 | some a=>rfl
theorem ex_dec : timetable_Decode.f 60 exFr = some exD:=opt_getD (by decide +kernel)
theorem ex_ok : exD.2.2.2 = 0:=by decide +kernel
theorem ex_len : exD.2.2.1.length = 1:=by decide +kernel
theorem ex_num : (zaj exD.2.2.1 0).f0.toList = [83,75,49]:=by decide +kernel
theorem ex_no : zan.f 60 [z42] [] [] = some 1:=by decide +kernel
set_option maxHeartbeats 8000000 in
set_option maxRecDepth 100000 in
theorem awake_calls (w : World) : Calls Try.prog 10 #[] w fun e w'=>e = .returned (.bool true) ∧ Below w.heap.size w w':=by
 have hB:=Below.refl w.heap.size w
 have HB:=zac.mk hB
 clear hB
 go_enter Try.func10,Try.ntmps10
 go_wp2_with fail
 refine (zbv.calls exZ exP exF _ ex_f).mono ?_
 rintro e_ w1 ⟨v0,v1,v2,rfl,hN,hP,hF,hb1⟩
 obtain ⟨A0,c0,rfl,hl0,hC0⟩:=Kd.N_reads hN
 obtain ⟨A1,c1,rfl,hl1,hC1⟩:=Kd.R_reads hP
 obtain ⟨A2,c2,rfl,hl2,hC2⟩:=Kd.R_reads hF
 have H0:=zac.mk hC0
 have H1:=zac.mk hC1
 have H2:=zac.mk hC2
 have L0:=zac.mk hl0
 have L1:=zac.mk hl1
 have L2:=zac.mk hl2
 have HB1:=zac.mk (zao HB.out hb1)
 clear hN hP hF hb1 hC0 hC1 hC2 hl0 hl1 hl2
 go_wp2_with fail
 refine (timetable_Encode.calls 60 _ _ exZ _ _ exP _ _ exF exFr 0 _ H0.out L0.out H1.out L1.out H2.out L2.out ex_enc).mono ?_
 rintro e_ w2 ⟨v,rfl,hR,hb2⟩
 obtain ⟨A3,c3,rfl,hl3,hC3⟩:=Kd.R_reads hR
 have H3:=zac.mk hC3
 have L3:=zac.mk hl3
 have HB2:=zac.mk (zao HB1.out hb2)
 clear hR hb2 hC3 hl3
 go_wp2_with fail
 refine (timetable_Decode.calls 60 _ _ exFr exD.1 exD.2.1 exD.2.2.1 exD.2.2.2 _ H3.out L3.out ex_dec).mono ?_
 rintro e_ w3 ⟨u0,u1,u2,rfl,hS,hP,hF,hb3⟩
 rw [ex_ok]
 obtain ⟨A4,c4,rfl,hl4,hC4⟩:=Kd.S_reads hS
 obtain ⟨A5,c5,rfl,hl5,hC5⟩:=Kd.R_reads hP
 obtain ⟨A6,c6,rfl,hl6,hC6⟩:=Kd.R_reads hF
 obtain ⟨ad,e0,hx0,_⟩:=at_T36 hC6 0 (by omega) (by rw [ex_len];decide)
 cases e0
 have HB3:=zac.mk (zao HB2.out hb3)
 clear hS hP hF hb3 hC4 hC5 hl4 hl5 hl6
 have hen:=ex_num
 have hex:=ex_len
 generalize zaj exD.2.2.1 0 = f at *
 rw [hex] at hC6 ⊢
 have ha0 : ad.add (Int.toNat 0 * 9) = ad:=by simp [Addr.add]
 rw [ha0] at hx0
 have hxx:=fun (o : Obj)=>(zae (Below.refl w3.heap.size w3) o).cell (World.block_lt_of_cell? w3 _ hx0)
 have hxy:=fun (o : Obj)=>(hxx o).trans hx0
 have HX:=zac.mk hxy
 clear hxx hx0
 have HX1:=HX.out (.cells #[.slice A4 exD.1.length c4,.slice A5 exD.2.1.length c5,.slice (some ad) 1 c6] 26 (0,0))
 have d1 : (f.f0.toList == [83,75,49]) = true:=by rw [hen];rfl
 clear hen hex
 clear hxy ha0
 go_wp2_with fail
 have hz : ∀ (W : World),Kd.C k42 (W.alloc (.cells #[.string ⟨#[]⟩,.int .i64 0,.slice none 0 0] 42 (0,0))) (some ⟨W.heap.size,0,none⟩) [z42].length [z42]:=by
  intro W
  refine ⟨rfl,by decide,fun _=>⟨_,rfl,fun j p hj=>?_⟩⟩
  have hj0 : j = 0:=by
   have:=(List.getElem?_eq_some_iff.1 hj).1
   simpa using this
  subst hj0
  obtain rfl : z42 = p:=by simpa using hj
  refine ⟨[.string ⟨#[]⟩,.int .i64 0,.slice none 0 0],rfl,k42_mk _ z42 (A2:=none) (c2:=0) (Nat.le_refl _) ⟨rfl,by decide,fun h=>absurd h (by decide)⟩,fun i u hu=>?_⟩
  have hb:=heap_alloc_new W (.cells #[.string ⟨#[]⟩,.int .i64 0,.slice none 0 0] 42 (0,0))
  have hi : i < 3:=(List.getElem?_eq_some_iff.1 hu).1
  have h3:=zad hb (0 * 3 + i)
  have hs : k42.sz = 3:=rfl
  rw [hs,add_plain]
  refine h3.trans ?_
  match i,hi with
  | 0,_=>exact hu
  | 1,_=>exact hu
  | 2,_=>exact hu
 have hN : ∀ (W : World),Kd.C k39 W none ([] : List S39).length []:=fun W=>⟨rfl,by decide,fun h=>absurd h (by decide)⟩
 have hM : ∀ (W : World),Kd.C k36 W none ([] : List S36).length []:=fun W=>⟨rfl,by decide,fun h=>absurd h (by decide)⟩
 have HZ:=hz (w3.alloc (.cells #[.slice A4 exD.1.length c4,.slice A5 exD.2.1.length c5,.slice (some ad) 1 c6] 26 (0,0)))
 have hsz : (w3.alloc (.cells #[.slice A4 exD.1.length c4,.slice A5 exD.2.1.length c5,.slice (some ad) 1 c6] 26 (0,0))).heap.size = w3.heap.size + 1:=by simp
 rw [hsz] at HZ
 refine (zan.calls 60 _ _ [z42] _ _ [] _ _ [] 1 _ HZ (Nat.le_refl _) (hN _) (Nat.le_refl _) (hM _) (Nat.le_refl _) ex_no).mono ?_
 rintro e_ w4 ⟨rfl,hb4⟩
 have HB4:=zac.mk (zao (zae (zae HB3.out _) _) hb4)
 clear hb4 hz hN hM HZ hsz
 go_wp2
 go_ret
 exact ⟨rfl,HB4.out⟩
end Go.Proofs.Ytepnddmalheoiaa.Q
namespace Go.Proofs.Ytepnddmalheoiaa.Q
open Go.Proofs.Ytepnddmalheoiaa.H Go.Proofs.Ytepnddmalheoiaa.TtA Go.Proofs.Ytepnddmalheoiaa.TtB Go.Proofs.Ytepnddmalheoiaa.TtC
open Go.RowKit Go.Proofs.YtepnddmalheoiaaW.PrintWords Go.Proofs.YtepnddmalheoiaaW.PrintLast Go.Proofs.YtepnddmalheoiaaW.PrintMore
theorem num_sz (i : Int) (h0 : 0 ≤ i) (h1 : i ≤ 6) : (numF i).size ≤ 4:=by
 obtain rfl|rfl|rfl|rfl|rfl|rfl|rfl : i = 0 ∨ i = 1 ∨ i = 2 ∨ i = 3 ∨ i = 4 ∨ i = 5 ∨ i = 6:=by omega
 all_goals decide +kernel
theorem cod_sz (i : Int) (h0 : 0 ≤ i) (h1 : i ≤ 2) : (codeF i).size ≤ 4 ∧ (typeF i).size ≤ 4:=by
 obtain rfl|rfl|rfl : i = 0 ∨ i = 1 ∨ i = 2:=by omega
 all_goals decide +kernel
theorem good_mem {fs : List S36} (h : GoodL fs) (f : S36) (hf : f ∈ fs) : f.f0.size ≤ 4 ∧ f.f1.size ≤ 4 ∧ f.f2.size ≤ 4 ∧ U62 f.f3 ∧ U62 f.f4 ∧ f.f5.size ≤ 4 ∧ f.f6 = ⟨1,1,2⟩:=by
 have hl:=h.len
 obtain ⟨j,hj,rfl⟩:=List.getElem_of_mem hf
 have e : zaj fs (j : Int) = fs[j]:=by rw [rd_nat,List.getD_eq_getElem?_getD,List.getElem?_eq_getElem hj];rfl
 obtain ⟨_,h0,h1,h2,h3,h4,a,t,q,a0,a1,t0,t1,_,q0,q1,e1,e2,e5,e6⟩:=h.at_ j hj
 rw [e] at h0 h1 h2 h3 h4 e1 e2 e5 e6
 rw [h0,e1,e2,e5,e6]
 exact ⟨num_sz _ (by omega) (by omega),(cod_sz a a0 a1).1,(cod_sz t t0 t1).1,⟨by omega,by omega⟩,⟨by omega,by omega⟩,(cod_sz q q0 q1).2,rfl⟩
abbrev kO31 : Kd (List Int):=Kd.slice 3 (Kd.int .i64)
def gO31 (xs : List Int) : Prop:=(∀ x ∈ xs,InI x) ∧ xs.length * 8 ≤ 140737488351232
theorem oO31 : Opens Try.prog 31 kO31 gO31:=opens_slice Try.underlying31 o_int c_int (by kernel_rfl)
theorem ints_at {W : World} {l : List Int} {a : Option Addr} {len cap : Nat} (h : kO31.K W l [Value.slice a len cap]) : len = l.length ∧ Kd.C (Kd.int .i64) W a l.length l ∧ l.length ≤ cap:=by
 obtain ⟨A0,c0,he,l0,h0⟩:=h
 simp only [List.cons.injEq,Value.slice.injEq,and_true] at he
 obtain ⟨rfl,rfl,rfl⟩:=he
 exact ⟨rfl,h0,l0⟩
end Go.Proofs.Ytepnddmalheoiaa.Q
namespace Go.Proofs.Ytepnddmalheoiaa.Q
open Go.Proofs.Ytepnddmalheoiaa.H Go.Proofs.Ytepnddmalheoiaa.TtC
open Go.RowKit Go.Proofs.YtepnddmalheoiaaW.PrintWords Go.Proofs.YtepnddmalheoiaaW.PrintLast Go.Proofs.YtepnddmalheoiaaW.PrintMore
inductive Pat
 | s
 | i
 | v (u : Value)
def Pat.ok : Pat → Value → Prop
 | .s,u=>∃ b : ByteArray,b.size ≤ 140737488351232 ∧ u = .string b
 | .i,u=>∃ x : Int,u = .int .i64 x
 | .v u0,u=>u = u0
def Shp (W : World) (g t N : Nat) (pat : Nat → Pat) : Prop:=∃ cs : Array Value,W.heap[g]? = some (.cells cs t (0,0)) ∧ ∀ j,j < N → ∃ u,cs[j]? = some u ∧ (pat j).ok u
section
variable {W W1 : World} {g t N : Nat} {pat : Nat → Pat}
theorem Shp.set (h : Shp W g t N pat) (j : Nat) (u : Value) (hu : j < N → (pat j).ok u) : Shp (W.setCell ⟨g,j,none⟩ u) g t N pat:=by
 obtain ⟨cs,hb,hc⟩:=h
 refine ⟨_,blk_set hb j u,fun i hi=>?_⟩
 obtain ⟨x,hx,ho⟩:=hc i hi
 by_cases e : i = j
 ·subst e
  exact ⟨u,by rw [Array.getElem?_setIfInBounds_self,if_pos (Array.getElem?_eq_some_iff.1 hx).1],hu hi⟩
 ·exact ⟨x,by rw [Array.getElem?_setIfInBounds_ne (Ne.symm e)];exact hx,ho⟩
theorem Shp.far (h : Shp W g t N pat) {p : Addr} (hp : g ≠ p.block) (u : Value) : Shp (W.setCell p u) g t N pat:=by
 obtain ⟨cs,hb,hc⟩:=h
 exact ⟨cs,zaz hb hp u,hc⟩
theorem Shp.below (h : Shp W g t N pat) (hb : Below W.heap.size W W1) : Shp W1 g t N pat:=by
 obtain ⟨cs,h1,hc⟩:=h
 exact ⟨cs,zat h1 hb,hc⟩
theorem Shp.cell (h : Shp W g t N pat) (j : Nat) (hj : j < N) : ∃ u,W.cell? ⟨g,j,none⟩ = some u ∧ (pat j).ok u:=by
 obtain ⟨cs,h1,hc⟩:=h
 obtain ⟨u,hu,ho⟩:=hc j hj
 exact ⟨u,(zad h1 j).trans hu,ho⟩
theorem Shp.cold (h : Shp W g t N pat) (j : Nat) : W.frozen? ⟨g,j,none⟩ = false:=by
 obtain ⟨cs,h1,hc⟩:=h
 exact zaa h1 j
end
def patF (j : Nat) : Pat:=if j % 9 = 0 ∨ j % 9 = 1 ∨ j % 9 = 2 ∨ j % 9 = 5 then .s else .i
def patZ (s : Nat) (j : Nat) : Pat:=if j % 3 = 0 then .s else if j % 3 = 1 then .i else .v (if j = 2 then .slice none 0 0 else if j = 5 then .slice (some ⟨s,0,none⟩) 2 2 else .slice (some ⟨s + 1,0,none⟩) 1 1)
structure Spl (w W : World) (b g n c : Nat) : Prop where
 be : Below w.heap.size w W
 s1 : Shp W (w.heap.size + 1) 44 4 (fun _=>.i)
 s2 : Shp W (w.heap.size + 2) 44 2 (fun _=>.i)
 z : Shp W (w.heap.size + 3) 42 9 (patZ (w.heap.size + 1))
 a : Shp W (w.heap.size + 4) 39 6 (fun _=>.s)
 f : Shp W g 36 (n * 9) patF
 t : W.heap[b]? = some (.cells #[.slice (some ⟨w.heap.size + 3,0,none⟩) 3 3,.slice (some ⟨w.heap.size + 4,0,none⟩) 3 3,.slice (some ⟨g,0,none⟩) n c] 26 (0,0))
 gl : w.heap.size + 8 ≤ g
 bl : g < b
 nc : n ≤ c
section
variable {w W W1 : World} {b g n c : Nat}
theorem Spl.set_f (h : Spl w W b g n c) (j : Nat) (u : Value) (hu : j < n * 9 → (patF j).ok u) : Spl w (W.setCell ⟨g,j,none⟩ u) b g n c:=by
 have h1:=h.gl;have h2:=h.bl
 exact ⟨zai h.be (by omega),h.s1.far (by show _ ≠ g;omega) u,h.s2.far (by show _ ≠ g;omega) u,h.z.far (by show _ ≠ g;omega) u,h.a.far (by show _ ≠ g;omega) u,h.f.set j u hu,zaz h.t (by show _ ≠ g;omega) u,h1,h2,h.nc⟩
theorem Spl.set_a (h : Spl w W b g n c) (j : Nat) (u : Value) (hu : j < 6 → Pat.ok .s u) : Spl w (W.setCell ⟨w.heap.size + 4,j,none⟩ u) b g n c:=by
 have h1:=h.gl;have h2:=h.bl
 exact ⟨zai h.be (by omega),h.s1.far (by show _ ≠ w.heap.size + 4;omega) u,h.s2.far (by show _ ≠ w.heap.size + 4;omega) u,h.z.far (by show _ ≠ w.heap.size + 4;omega) u,h.a.set j u hu,h.f.far (by show _ ≠ w.heap.size + 4;omega) u,zaz h.t (by show _ ≠ w.heap.size + 4;omega) u,h1,h2,h.nc⟩
theorem Spl.set_z (h : Spl w W b g n c) (j : Nat) (u : Value) (hu : j < 9 → (patZ (w.heap.size + 1) j).ok u) : Spl w (W.setCell ⟨w.heap.size + 3,j,none⟩ u) b g n c:=by
 have h1:=h.gl;have h2:=h.bl
 exact ⟨zai h.be (by omega),h.s1.far (by show _ ≠ w.heap.size + 3;omega) u,h.s2.far (by show _ ≠ w.heap.size + 3;omega) u,h.z.set j u hu,h.a.far (by show _ ≠ w.heap.size + 3;omega) u,h.f.far (by show _ ≠ w.heap.size + 3;omega) u,zaz h.t (by show _ ≠ w.heap.size + 3;omega) u,h1,h2,h.nc⟩
theorem Spl.set_s (h : Spl w W b g n c) (j : Nat) (u : Value) (hu : j < 4 → Pat.ok .i u) : Spl w (W.setCell ⟨w.heap.size + 1,j,none⟩ u) b g n c:=by
 have h1:=h.gl;have h2:=h.bl
 exact ⟨zai h.be (by omega),h.s1.set j u hu,h.s2.far (by show _ ≠ w.heap.size + 1;omega) u,h.z.far (by show _ ≠ w.heap.size + 1;omega) u,h.a.far (by show _ ≠ w.heap.size + 1;omega) u,h.f.far (by show _ ≠ w.heap.size + 1;omega) u,zaz h.t (by show _ ≠ w.heap.size + 1;omega) u,h1,h2,h.nc⟩
theorem Spl.below (h : Spl w W b g n c) (hb : Below W.heap.size W W1) : Spl w W1 b g n c :=
 ⟨zao h.be hb,h.s1.below hb,h.s2.below hb,h.z.below hb,h.a.below hb,h.f.below hb,zat h.t hb,h.gl,h.bl,h.nc⟩
end
theorem flights_of {W : World} {g n : Nat} (h : Shp W g 36 (n * 9) patF) (hn : n ≤ 9223372036854775807) : ∃ fs : List S36,fs.length = n ∧ Kd.C k36 W (some ⟨g,0,none⟩) n fs ∧ ∀ f ∈ fs,f.f0.size ≤ 140737488351232:=by
 have key : ∀ j,j < n → ∃ f : S36,f.f0.size ≤ 140737488351232 ∧ ∀ i u,([.string f.f0,.string f.f1,.string f.f2,.int .i64 f.f3,.int .i64 f.f4,.string f.f5,.int .i64 f.f6.f0,.int .i64 f.f6.f1,.int .i64 f.f6.f2] : List Value)[i]? = some u → W.cell? ⟨g,j * 9 + i,none⟩ = some u:=by
  intro j hj
  have hS : ∀ i,i < 9 → (i = 0 ∨ i = 1 ∨ i = 2 ∨ i = 5) → ∃ b : ByteArray,b.size ≤ 140737488351232 ∧ W.cell? ⟨g,j * 9 + i,none⟩ = some (.string b):=by
   intro i hi h9
   obtain ⟨u,hu,ho⟩:=h.cell (j * 9 + i) (by omega)
   unfold patF at ho
   rw [if_pos (by omega)] at ho
   obtain ⟨b,hb,rfl⟩:=ho
   exact ⟨b,hb,hu⟩
  have hI : ∀ i,i < 9 → ¬(i = 0 ∨ i = 1 ∨ i = 2 ∨ i = 5) → ∃ x : Int,W.cell? ⟨g,j * 9 + i,none⟩ = some (.int .i64 x):=by
   intro i hi h9
   obtain ⟨u,hu,ho⟩:=h.cell (j * 9 + i) (by omega)
   unfold patF at ho
   rw [if_neg (by omega)] at ho
   obtain ⟨b,rfl⟩:=ho
   exact ⟨b,hu⟩
  obtain ⟨a0,z0,c0⟩:=hS 0 (by omega) (by omega)
  obtain ⟨a1,z1,c1⟩:=hS 1 (by omega) (by omega)
  obtain ⟨a2,z2,c2⟩:=hS 2 (by omega) (by omega)
  obtain ⟨a3,c3⟩:=hI 3 (by omega) (by omega)
  obtain ⟨a4,c4⟩:=hI 4 (by omega) (by omega)
  obtain ⟨a5,z5,c5⟩:=hS 5 (by omega) (by omega)
  obtain ⟨a6,c6⟩:=hI 6 (by omega) (by omega)
  obtain ⟨a7,c7⟩:=hI 7 (by omega) (by omega)
  obtain ⟨a8,c8⟩:=hI 8 (by omega) (by omega)
  refine ⟨⟨a0,a1,a2,a3,a4,a5,⟨a6,a7,a8⟩⟩,z0,fun i u hu=>?_⟩
  match i,hu with
  | 0,hu=>rw [c0];exact hu
  | 1,hu=>rw [c1];exact hu
  | 2,hu=>rw [c2];exact hu
  | 3,hu=>rw [c3];exact hu
  | 4,hu=>rw [c4];exact hu
  | 5,hu=>rw [c5];exact hu
  | 6,hu=>rw [c6];exact hu
  | 7,hu=>rw [c7];exact hu
  | 8,hu=>rw [c8];exact hu
  | i + 9,hu=>exact absurd (List.getElem?_eq_some_iff.1 hu).1 (by simp)
 obtain ⟨fs,hl,hf⟩:=list_of n (fun j (f : S36)=>f.f0.size ≤ 140737488351232 ∧ ∀ i u,([.string f.f0,.string f.f1,.string f.f2,.int .i64 f.f3,.int .i64 f.f4,.string f.f5,.int .i64 f.f6.f0,.int .i64 f.f6.f1,.int .i64 f.f6.f2] : List Value)[i]? = some u → W.cell? ⟨g,j * 9 + i,none⟩ = some u) key
 refine ⟨fs,hl,⟨hl,hn,fun _=>⟨_,rfl,fun j p hp=>⟨_,rfl,k36_mk W p,fun i u hu=>?_⟩⟩⟩,fun f hf'=>?_⟩
 ·rw [add_plain];exact (hf j p hp).2 i u hu
 ·obtain ⟨j,hj,rfl⟩:=List.getElem_of_mem hf'
  exact (hf j _ (List.getElem?_eq_getElem hj)).1
theorem ports_of {W : World} {g : Nat} (h : Shp W g 39 6 (fun _=>.s)) : ∃ ps : List S39,ps.length = 3 ∧ Kd.C k39 W (some ⟨g,0,none⟩) 3 ps:=by
 have hS : ∀ i,i < 6 → ∃ b : ByteArray,W.cell? ⟨g,i,none⟩ = some (.string b):=by
  intro i hi
  obtain ⟨u,hu,b,hb,rfl⟩:=h.cell i hi
  exact ⟨b,hu⟩
 obtain ⟨a0,c0⟩:=hS 0 (by omega)
 obtain ⟨a1,c1⟩:=hS 1 (by omega)
 obtain ⟨a2,c2⟩:=hS 2 (by omega)
 obtain ⟨a3,c3⟩:=hS 3 (by omega)
 obtain ⟨a4,c4⟩:=hS 4 (by omega)
 obtain ⟨a5,c5⟩:=hS 5 (by omega)
 refine ⟨[⟨a0,a1⟩,⟨a2,a3⟩,⟨a4,a5⟩],rfl,rfl,by decide,fun _=>⟨_,rfl,fun j p hp=>⟨_,rfl,k39_mk W p,fun i u hu=>?_⟩⟩⟩
 rw [add_plain]
 match j,hp,i,hu with
 | 0,hp,0,hu=>obtain rfl:=Option.some.inj hp;exact c0.trans hu
 | 0,hp,1,hu=>obtain rfl:=Option.some.inj hp;exact c1.trans hu
 | 1,hp,0,hu=>obtain rfl:=Option.some.inj hp;exact c2.trans hu
 | 1,hp,1,hu=>obtain rfl:=Option.some.inj hp;exact c3.trans hu
 | 2,hp,0,hu=>obtain rfl:=Option.some.inj hp;exact c4.trans hu
 | 2,hp,1,hu=>obtain rfl:=Option.some.inj hp;exact c5.trans hu
 | _,_,i + 2,hu=>exact absurd (List.getElem?_eq_some_iff.1 hu).1 (by simp)
 | j + 3,hp,_,_=>exact absurd (List.getElem?_eq_some_iff.1 hp).1 (by simp)
theorem shifts_of {W : World} {g n N : Nat} (h : Shp W g 44 N (fun _=>.i)) (hN : N = n * 2) (hn : n ≤ 9223372036854775807) : ∃ ss : List S44,ss.length = n ∧ Kd.C k44 W (some ⟨g,0,none⟩) n ss:=by
 have key : ∀ j,j < n → ∃ s : S44,∀ i u,([.int .i64 s.f0,.int .i64 s.f1] : List Value)[i]? = some u → W.cell? ⟨g,j * 2 + i,none⟩ = some u:=by
  intro j hj
  obtain ⟨u0,c0,a0,rfl⟩:=h.cell (j * 2 + 0) (by omega)
  obtain ⟨u1,c1,a1,rfl⟩:=h.cell (j * 2 + 1) (by omega)
  refine ⟨⟨a0,a1⟩,fun i u hu=>?_⟩
  match i,hu with
  | 0,hu=>rw [c0];exact hu
  | 1,hu=>rw [c1];exact hu
  | i + 2,hu=>exact absurd (List.getElem?_eq_some_iff.1 hu).1 (by simp)
 obtain ⟨ss,hl,hf⟩:=list_of n (fun j (s : S44)=>∀ i u,([.int .i64 s.f0,.int .i64 s.f1] : List Value)[i]? = some u → W.cell? ⟨g,j * 2 + i,none⟩ = some u) key
 refine ⟨ss,hl,hl,hn,fun _=>⟨_,rfl,fun j p hp=>⟨_,rfl,k44_mk W p,fun i u hu=>?_⟩⟩⟩
 rw [add_plain];exact (hf j p hp) i u hu
theorem zones_of {W : World} {g s : Nat} (h : Shp W g 42 9 (patZ s)) (h1 : Shp W s 44 4 (fun _=>.i)) (h2 : Shp W (s + 1) 44 2 (fun _=>.i)) : ∃ zs : List S42,zs.length = 3 ∧ Kd.C k42 W (some ⟨g,0,none⟩) 3 zs:=by
 obtain ⟨s1,l1,g1⟩:=shifts_of (n:=2) h1 rfl (by decide)
 obtain ⟨s2,l2,g2⟩:=shifts_of (n:=1) h2 rfl (by decide)
 obtain ⟨u0,c0,a0,_,rfl⟩:=h.cell 0 (by omega)
 obtain ⟨u1,c1,a1,rfl⟩:=h.cell 1 (by omega)
 obtain ⟨u2,c2,rfl⟩:=h.cell 2 (by omega)
 obtain ⟨u3,c3,a3,_,rfl⟩:=h.cell 3 (by omega)
 obtain ⟨u4,c4,a4,rfl⟩:=h.cell 4 (by omega)
 obtain ⟨u5,c5,rfl⟩:=h.cell 5 (by omega)
 obtain ⟨u6,c6,a6,_,rfl⟩:=h.cell 6 (by omega)
 obtain ⟨u7,c7,a7,rfl⟩:=h.cell 7 (by omega)
 obtain ⟨u8,c8,rfl⟩:=h.cell 8 (by omega)
 refine ⟨[⟨a0,a1,[]⟩,⟨a3,a4,s1⟩,⟨a6,a7,s2⟩],rfl,rfl,by decide,fun _=>⟨_,rfl,fun j p hp=>?_⟩⟩
 match j,hp with
 | 0,hp =>
  obtain rfl:=Option.some.inj hp
  refine ⟨_,rfl,k42_mk W _ (A2:=none) (c2:=0) (Nat.le_refl _) ⟨rfl,by simp,fun h=>absurd h (by simp)⟩,fun i u hu=>?_⟩
  rw [add_plain]
  match i,hu with
  | 0,hu=>exact c0.trans hu
  | 1,hu=>exact c1.trans hu
  | 2,hu=>exact c2.trans hu
  | i + 3,hu=>exact absurd (List.getElem?_eq_some_iff.1 hu).1 (by simp)
 | 1,hp =>
  obtain rfl:=Option.some.inj hp
  refine ⟨_,rfl,k42_mk W _ (A2:=some ⟨s,0,none⟩) (c2:=2) (Nat.le_of_eq l1) (by rw [show (⟨a3,a4,s1⟩ : S42).f2.length = 2 from l1];exact g1),fun i u hu=>?_⟩
  rw [show (⟨a3,a4,s1⟩ : S42).f2.length = 2 from l1] at hu
  rw [add_plain]
  match i,hu with
  | 0,hu=>exact c3.trans hu
  | 1,hu=>exact c4.trans hu
  | 2,hu=>exact c5.trans hu
  | i + 3,hu=>exact absurd (List.getElem?_eq_some_iff.1 hu).1 (by simp)
 | 2,hp =>
  obtain rfl:=Option.some.inj hp
  refine ⟨_,rfl,k42_mk W _ (A2:=some ⟨s + 1,0,none⟩) (c2:=1) (Nat.le_of_eq l2) (by rw [show (⟨a6,a7,s2⟩ : S42).f2.length = 1 from l2];exact g2),fun i u hu=>?_⟩
  rw [show (⟨a6,a7,s2⟩ : S42).f2.length = 1 from l2] at hu
  rw [add_plain]
  match i,hu with
  | 0,hu=>exact c6.trans hu
  | 1,hu=>exact c7.trans hu
  | 2,hu=>exact c8.trans hu
  | i + 3,hu=>exact absurd (List.getElem?_eq_some_iff.1 hu).1 (by simp)
 | j + 3,hp=>exact absurd (List.getElem?_eq_some_iff.1 hp).1 (by simp)
theorem spl_begin {w W : World} {v : Value} {fs : List S36} (h : BOut w W v fs) (hp : 0 < fs.length) (hs : ∀ f ∈ fs,f.f0.size ≤ 4 ∧ f.f1.size ≤ 4 ∧ f.f2.size ≤ 4 ∧ f.f5.size ≤ 4) : ∃ g c,v = .slice (some ⟨g,0,none⟩) fs.length c ∧ Spl w (W.alloc (.cells #[.slice (some ⟨w.heap.size + 3,0,none⟩) 3 3,.slice (some ⟨w.heap.size + 4,0,none⟩) 3 3,v] 26 (0,0))) W.heap.size g fs.length c:=by
 obtain ⟨inner,h1,h2⟩:=Kd.R_own h.f
 obtain ⟨A,c,rfl,hc,hC⟩:=Kd.R_reads h.f
 rcases h2 with ⟨e,_⟩|⟨g,cap,cur,e,hg,hb,hle,_,hsz,ht⟩
 ·injection e with _ e _;omega
 injection e with eA _ eC
 subst eA;subst eC
 have hok:=h.f.1 g (by simp [Value.ownBlock])
 have hgl:=zbq hb
 have hF : Shp W g 36 (fs.length * 9) patF:=by
  refine ⟨cur,hb,fun j hj=>?_⟩
  have hi : j / 9 < fs.length:=by omega
  obtain ⟨ad,e,c0,c1,c2,c3,c4,c5,c6,c7,c8⟩:=at_T36 hC ((j / 9 : Nat) : Int) (by omega) (by omega)
  obtain rfl:=Option.some.inj e
  have er : zaj fs ((j / 9 : Nat) : Int) = fs[j / 9]:=by
   show fs.getD _ _ = _
   rw [Int.toNat_natCast,List.getD_eq_getElem?_getD,List.getElem?_eq_getElem hi];rfl
  obtain ⟨z0,z1,z2,z5⟩:=hs fs[j / 9] (List.getElem_mem hi)
  rw [er] at c0 c1 c2 c3 c4 c5 c6 c7 c8
  simp only [add_plain,Int.toNat_natCast,Nat.zero_add] at c0 c1 c2 c3 c4 c5 c6 c7 c8
  rw [zad hb] at c0 c1 c2 c3 c4 c5 c6 c7 c8
  have hr : j % 9 = 0 ∨ j % 9 = 1 ∨ j % 9 = 2 ∨ j % 9 = 3 ∨ j % 9 = 4 ∨ j % 9 = 5 ∨ j % 9 = 6 ∨ j % 9 = 7 ∨ j % 9 = 8:=by omega
  unfold patF
  rcases hr with r|r|r|r|r|r|r|r|r
  ·refine ⟨_,by rw [show j = j / 9 * 9 by omega];exact c0,?_⟩;rw [if_pos (by omega)];exact ⟨_,by omega,rfl⟩
  ·refine ⟨_,by rw [show j = j / 9 * 9 + 1 by omega];exact c1,?_⟩;rw [if_pos (by omega)];exact ⟨_,by omega,rfl⟩
  ·refine ⟨_,by rw [show j = j / 9 * 9 + 2 by omega];exact c2,?_⟩;rw [if_pos (by omega)];exact ⟨_,by omega,rfl⟩
  ·refine ⟨_,by rw [show j = j / 9 * 9 + 3 by omega];exact c3,?_⟩;rw [if_neg (by omega)];exact ⟨_,rfl⟩
  ·refine ⟨_,by rw [show j = j / 9 * 9 + 4 by omega];exact c4,?_⟩;rw [if_neg (by omega)];exact ⟨_,rfl⟩
  ·refine ⟨_,by rw [show j = j / 9 * 9 + 5 by omega];exact c5,?_⟩;rw [if_pos (by omega)];exact ⟨_,by omega,rfl⟩
  ·refine ⟨_,by rw [show j = j / 9 * 9 + 6 by omega];exact c6,?_⟩;rw [if_neg (by omega)];exact ⟨_,rfl⟩
  ·refine ⟨_,by rw [show j = j / 9 * 9 + 7 by omega];exact c7,?_⟩;rw [if_neg (by omega)];exact ⟨_,rfl⟩
  ·refine ⟨_,by rw [show j = j / 9 * 9 + 8 by omega];exact c8,?_⟩;rw [if_neg (by omega)];exact ⟨_,rfl⟩
 have four : ∀ j,j < 4 → j = 0 ∨ j = 1 ∨ j = 2 ∨ j = 3:=by omega
 have hS1 : Shp W (w.heap.size + 1) 44 4 (fun _=>.i):=⟨_,h.s1,fun j hj=>by rcases four j hj with rfl|rfl|rfl|rfl <;> exact ⟨_,rfl,_,rfl⟩⟩
 have hS2 : Shp W (w.heap.size + 2) 44 2 (fun _=>.i):=⟨_,h.s2,fun j hj=>by
  obtain rfl|rfl : j = 0 ∨ j = 1:=by omega
  all_goals exact ⟨_,rfl,_,rfl⟩⟩
 have hA : Shp W (w.heap.size + 4) 39 6 (fun _=>.s):=⟨_,h.a,fun j hj=>by
  obtain rfl|rfl|rfl|rfl|rfl|rfl : j = 0 ∨ j = 1 ∨ j = 2 ∨ j = 3 ∨ j = 4 ∨ j = 5:=by omega
  all_goals exact ⟨_,rfl,_,by decide,rfl⟩⟩
 have hZ : Shp W (w.heap.size + 3) 42 9 (patZ (w.heap.size + 1)):=⟨_,h.z,fun j hj=>by
  obtain rfl|rfl|rfl|rfl|rfl|rfl|rfl|rfl|rfl : j = 0 ∨ j = 1 ∨ j = 2 ∨ j = 3 ∨ j = 4 ∨ j = 5 ∨ j = 6 ∨ j = 7 ∨ j = 8:=by omega
  ·exact ⟨_,rfl,_,by decide,rfl⟩
  ·exact ⟨_,rfl,_,rfl⟩
  ·exact ⟨_,rfl,rfl⟩
  ·exact ⟨_,rfl,_,by decide,rfl⟩
  ·exact ⟨_,rfl,_,rfl⟩
  ·exact ⟨_,rfl,rfl⟩
  ·exact ⟨_,rfl,_,by decide,rfl⟩
  ·exact ⟨_,rfl,_,rfl⟩
  ·exact ⟨_,rfl,rfl⟩⟩
 have hB:=zae (Below.refl W.heap.size W) (.cells #[.slice (some ⟨w.heap.size + 3,0,none⟩) 3 3,.slice (some ⟨w.heap.size + 4,0,none⟩) 3 3,.slice (some ⟨g,0,none⟩) fs.length c] 26 (0,0))
 exact ⟨g,c,rfl,zae h.be _,hS1.below hB,hS2.below hB,hZ.below hB,hA.below hB,hF.below hB,heap_alloc_new _ _,hok,hgl,hle⟩
end Go.Proofs.Ytepnddmalheoiaa.Q
namespace Go.Proofs.Ytepnddmalheoiaa.Q
open Go.Proofs.Ytepnddmalheoiaa.H Go.Proofs.Ytepnddmalheoiaa.TtC
open Go.RowKit Go.Proofs.YtepnddmalheoiaaW.PrintWords Go.Proofs.YtepnddmalheoiaaW.PrintLast Go.Proofs.YtepnddmalheoiaaW.PrintMore
theorem Spl.drawn {w W : World} {b g n c : Nat} (h : Spl w W b g n c) : Spl w W.drew b g n c:=h.below (below_drew (Below.refl _ _))
theorem zbr {W : World} {g a b : Nat} {u v : Value} (h : W.cell? ⟨g,b,none⟩ = some v) (hne : a ≠ b) : (W.setCell ⟨g,a,none⟩ u).cell? ⟨g,b,none⟩ = some v:=by
 have:=World.cell?_setCells_out g [u] a W ⟨g,b,none⟩ (fun _ _=>by simp;omega)
 exact this.trans h
theorem zcd {W : World} {g a b : Nat} {u : Value} (h : W.frozen? ⟨g,b,none⟩ = false) : (W.setCell ⟨g,a,none⟩ u).frozen? ⟨g,b,none⟩ = false :=
 (World.frozen?_setCells g [u] a W ⟨g,b,none⟩).trans h
def splT : Bool × List (List Nat × List Nat):=(true,[([],[]),([0],[0]),([],[]),([2,1],[2]),([1,3],[1,3]),([4,3],[4]),([5,5],[5]),([5,6],[5,6]),([7,6,0,1,2,3,4,5,6,7],[7])])
def splB : List Nat:=[0,1,0,7,15,31,63,127,255]
theorem splTab : rtab .any (opsOf Try.f4 32) = splT:=by kernel_rfl
theorem splBits : waitsOk splT.2 splB = true:=by kernel_rfl
set_option maxHeartbeats 8000000 in
set_option maxRecDepth 100000 in
theorem spoilt_calls (A0 : Option Addr) (c0 : Nat) (l : List Int) (wh0 at0 nn : Int) (st : ByteArray) (k i : Int) (w : World) (hr0 : Kd.C (Kd.int .i64) w A0 l.length l) (hc0 : l.length ≤ c0)
  (hat : AtOk l) (hlen : 0 < (bAll l).length ∧ (bAll l).length ≤ 7) (hs : ∀ f ∈ bAll l,f.f0.size ≤ 4 ∧ f.f1.size ≤ 4 ∧ f.f2.size ≤ 4 ∧ f.f5.size ≤ 4) (hst : st.size ≤ 140737488351232)
  (hk : Int.tmod (Go.bits .and .i64 wh0 65535) 14 = k) (hk0 : 0 ≤ k) (hk1 : k < 14) (hi : Int.tmod (Go.bits .and .i64 at0 65535) ((bAll l).length : Int) = i) (hi0 : 0 ≤ i) (hi1 : i < (bAll l).length) :
  Calls Try.prog 4 #[.slice A0 l.length c0,.int .i64 wh0,.int .i64 at0,.int .i64 nn,.string st] w fun e w'=>e = .returned (.bool true) ∧ Below w.heap.size w w':=by
 have HR:=zac.mk hr0
 have HC:=zac.mk hc0
 have HAt:=zac.mk hat
 have HS:=zac.mk hs
 have HK:=zac.mk hk
 have HI:=zac.mk hi
 clear hr0 hc0 hat hs hk hi
 go_enter Try.func4,Try.ntmps4
 go_wp2_with fail
 refine (base_calls _ _ l _ HR.out HC.out HAt.out).mono ?_
 rintro e_ w1 ⟨v,rfl,hO⟩
 obtain ⟨g,c,rfl,hS0⟩:=spl_begin hO hlen.1 HS.out
 have HS0:=zac.mk hS0
 clear hO hS0
 go_upto_region 2 with (fail)
 have hsp:=HS0.out
 clear HS0
 generalize w1.alloc _ = W2 at hsp ⊢
 generalize w1.heap.size = b at hsp ⊢
 generalize (bAll l).length = n at *
 have HSp:=zac.mk hsp
 have hb0:=zad hsp.t 0
 have hb1:=zad hsp.t 1
 have hb2:=zad hsp.t 2
 clear hsp
 have hti:=HI.out
 have htk:=HK.out
 have hp:=eq_true hi0
 have hq:=eq_true hi1
 have hne : ((n : Int) == 0) = false:=beq_eq_false_iff_ne.mpr (by omega)
 have hnz : (n == 0) = false:=beq_eq_false_iff_ne.mpr (by omega)
 have hzd : ((n : Int) = 0) = False:=eq_false (by omega)
 have hzd2 : (n = 0) = False:=eq_false (by omega)
 go_upto_region 4 with (fail)
 go_upto_block 0 with fail
 go_cut [] (fun wc=>Spl w wc b g n c)
 case first =>
  have hF : ∀ j,j < 9 → ∃ u,W2.cell? ⟨g,i.toNat * 9 + j,none⟩ = some u ∧ (patF (i.toNat * 9 + j)).ok u:=fun j hj=>HSp.out.f.cell _ (by omega)
  have hFc : ∀ j,W2.frozen? ⟨g,j,none⟩ = false:=fun j=>HSp.out.f.cold j
  have HF:=zac.mk hF
  have HFc:=zac.mk hFc
  clear hF hFc
  have hcase : k = 0 ∨ k = 1 ∨ k = 2 ∨ k = 3 ∨ k = 4 ∨ k = 5 ∨ k = 6 ∨ k = 7 ∨ k = 8 ∨ k = 9 ∨ k = 10 ∨ k = 11 ∨ k = 12 ∨ k = 13:=by omega
  clear hti htk
  rcases hcase with rfl|rfl|rfl|rfl|rfl|rfl|rfl|rfl|rfl|rfl|rfl|rfl|rfl|rfl
  ·obtain ⟨u,hx0,hu⟩:=HF.out 0 (by omega)
   have hx1:=HFc.out (i.toNat * 9)
   rw [Nat.add_zero] at hx0
   go_wp2_with fail
   go_meet
   case rel=>exact HSp.out.set_f _ _ fun _=>by unfold patF;rw [if_pos (by omega)];exact ⟨_,hst,rfl⟩
  ·obtain ⟨u,hx0,hu⟩:=HF.out 1 (by omega)
   have hx1:=HFc.out (i.toNat * 9 + 1)
   go_wp2_with fail
   go_meet
   case rel=>exact HSp.out.set_f _ _ fun _=>by unfold patF;rw [if_pos (by omega)];exact ⟨_,hst,rfl⟩
  ·obtain ⟨u,hx0,hu⟩:=HF.out 1 (by omega)
   unfold patF at hu
   rw [if_pos (by omega)] at hu
   obtain ⟨sb,hsb,rfl⟩:=hu
   obtain ⟨u,hx2,hu⟩:=HF.out 2 (by omega)
   have hx1:=HFc.out (i.toNat * 9 + 2)
   clear hu
   go_wp2_with fail
   go_meet
   case rel=>exact HSp.out.set_f _ _ fun _=>by unfold patF;rw [if_pos (by omega)];exact ⟨_,hsb,rfl⟩
  ·obtain ⟨u,hx0,hu⟩:=HF.out 3 (by omega)
   have hx1:=HFc.out (i.toNat * 9 + 3)
   go_wp2_with fail
   go_meet
   case rel=>exact HSp.out.set_f _ _ fun _=>by unfold patF;rw [if_neg (by omega)];exact ⟨_,rfl⟩
  ·obtain ⟨u,hx0,hu⟩:=HF.out 3 (by omega)
   unfold patF at hu
   rw [if_neg (by omega)] at hu
   obtain ⟨x,rfl⟩:=hu
   obtain ⟨u,hx2,hu⟩:=HF.out 4 (by omega)
   have hx1:=HFc.out (i.toNat * 9 + 4)
   clear hu
   go_wp2_with fail
   go_meet
   case rel=>exact HSp.out.set_f _ _ fun _=>by unfold patF;rw [if_neg (by omega)];exact ⟨_,rfl⟩
  ·obtain ⟨u,hx0,hu⟩:=HF.out 5 (by omega)
   have hx1:=HFc.out (i.toNat * 9 + 5)
   go_wp2_with fail
   go_meet
   case rel=>exact HSp.out.set_f _ _ fun _=>by unfold patF;rw [if_pos (by omega)];exact ⟨_,hst,rfl⟩
  ·obtain ⟨q,hq3⟩ : ∃ q,q = Int.tmod (Go.bits .and .i64 nn 65535) 3:=⟨_,rfl⟩
   have hqr : q = 0 ∨ q = 1 ∨ q = 2:=by
    have h0:=(low16 nn).1
    rw [Int.tmod_eq_emod_of_nonneg h0] at hq3
    omega
   have hq4:=hq3.symm
   clear hq3
   rcases hqr with rfl|rfl|rfl
   ·obtain ⟨u,hx0,hu⟩:=HF.out 6 (by omega)
    have hx1:=HFc.out (i.toNat * 9 + 6)
    clear hu
    go_wp2_with fail
    go_meet
    case rel=>exact HSp.out.set_f _ _ fun _=>by unfold patF;rw [if_neg (by omega)];exact ⟨_,rfl⟩
   ·obtain ⟨u,hx0,hu⟩:=HF.out 7 (by omega)
    have hx1:=HFc.out (i.toNat * 9 + 7)
    clear hu
    go_wp2_with fail
    go_meet
    case rel=>exact HSp.out.set_f _ _ fun _=>by unfold patF;rw [if_neg (by omega)];exact ⟨_,rfl⟩
   ·obtain ⟨u,hx0,hu⟩:=HF.out 8 (by omega)
    have hx1:=HFc.out (i.toNat * 9 + 8)
    clear hu
    go_wp2_with fail
    go_meet
    case rel=>exact HSp.out.set_f _ _ fun _=>by unfold patF;rw [if_neg (by omega)];exact ⟨_,rfl⟩
  ·have cz0 : Int.toNat 0 * 9 = 0:=rfl
   obtain ⟨u0,a0,ha0⟩:=HSp.out.f.cell 0 (by omega)
   obtain ⟨s0,hs0,rfl⟩ : Pat.ok .s u0:=ha0
   obtain ⟨u1,a1,ha1⟩:=HSp.out.f.cell 1 (by omega)
   obtain ⟨s1,hs1,rfl⟩ : Pat.ok .s u1:=ha1
   obtain ⟨u2,a2,ha2⟩:=HSp.out.f.cell 2 (by omega)
   obtain ⟨s2,hs2,rfl⟩ : Pat.ok .s u2:=ha2
   obtain ⟨u3,a3,ha3⟩:=HSp.out.f.cell 3 (by omega)
   obtain ⟨x3,rfl⟩ : Pat.ok .i u3:=ha3
   obtain ⟨u4,a4,ha4⟩:=HSp.out.f.cell 4 (by omega)
   obtain ⟨x4,rfl⟩ : Pat.ok .i u4:=ha4
   obtain ⟨u5,a5,ha5⟩:=HSp.out.f.cell 5 (by omega)
   obtain ⟨s5,hs5,rfl⟩ : Pat.ok .s u5:=ha5
   obtain ⟨u6,a6,ha6⟩:=HSp.out.f.cell 6 (by omega)
   obtain ⟨x6,rfl⟩ : Pat.ok .i u6:=ha6
   obtain ⟨u7,a7,ha7⟩:=HSp.out.f.cell 7 (by omega)
   obtain ⟨x7,rfl⟩ : Pat.ok .i u7:=ha7
   obtain ⟨u8,a8,ha8⟩:=HSp.out.f.cell 8 (by omega)
   obtain ⟨x8,rfl⟩ : Pat.ok .i u8:=ha8
   obtain ⟨_,d0,_⟩:=HF.out 0 (by omega)
   obtain ⟨_,d1,_⟩:=HF.out 1 (by omega)
   obtain ⟨_,d2,_⟩:=HF.out 2 (by omega)
   obtain ⟨_,d3,_⟩:=HF.out 3 (by omega)
   obtain ⟨_,d4,_⟩:=HF.out 4 (by omega)
   obtain ⟨_,d5,_⟩:=HF.out 5 (by omega)
   obtain ⟨_,d6,_⟩:=HF.out 6 (by omega)
   obtain ⟨_,d7,_⟩:=HF.out 7 (by omega)
   obtain ⟨_,d8,_⟩:=HF.out 8 (by omega)
   rw [Nat.add_zero] at d0
   have f0:=HFc.out (i.toNat * 9)
   have f1:=HFc.out (i.toNat * 9 + 1)
   have f2:=HFc.out (i.toNat * 9 + 2)
   have f3:=HFc.out (i.toNat * 9 + 3)
   have f4:=HFc.out (i.toNat * 9 + 4)
   have f5:=HFc.out (i.toNat * 9 + 5)
   have f6:=HFc.out (i.toNat * 9 + 6)
   have f7:=HFc.out (i.toNat * 9 + 7)
   have f8:=HFc.out (i.toNat * 9 + 8)
   have dd0:=(show W2.drew.cell? _ = _ from d0)
   have ff0:=(show W2.drew.frozen? _ = _ from f0)
   have dd1:=(zbr (u:=.string s0) (a:=i.toNat * 9) (show W2.drew.cell? _ = _ from d1) (by omega))
   have ff1:=(zcd (u:=.string s0) (a:=i.toNat * 9) (show W2.drew.frozen? _ = _ from f1))
   have dd2:=(zbr (u:=.string s1) (a:=i.toNat * 9 + 1) (zbr (u:=.string s0) (a:=i.toNat * 9) (show W2.drew.cell? _ = _ from d2) (by omega)) (by omega))
   have ff2:=(zcd (u:=.string s1) (a:=i.toNat * 9 + 1) (zcd (u:=.string s0) (a:=i.toNat * 9) (show W2.drew.frozen? _ = _ from f2)))
   have dd3:=(zbr (u:=.string s2) (a:=i.toNat * 9 + 2) (zbr (u:=.string s1) (a:=i.toNat * 9 + 1) (zbr (u:=.string s0) (a:=i.toNat * 9) (show W2.drew.cell? _ = _ from d3) (by omega)) (by omega)) (by omega))
   have ff3:=(zcd (u:=.string s2) (a:=i.toNat * 9 + 2) (zcd (u:=.string s1) (a:=i.toNat * 9 + 1) (zcd (u:=.string s0) (a:=i.toNat * 9) (show W2.drew.frozen? _ = _ from f3))))
   have dd4:=(zbr (u:=.int .i64 x3) (a:=i.toNat * 9 + 3) (zbr (u:=.string s2) (a:=i.toNat * 9 + 2) (zbr (u:=.string s1) (a:=i.toNat * 9 + 1) (zbr (u:=.string s0) (a:=i.toNat * 9) (show W2.drew.cell? _ = _ from d4) (by omega)) (by omega)) (by omega)) (by omega))
   have ff4:=(zcd (u:=.int .i64 x3) (a:=i.toNat * 9 + 3) (zcd (u:=.string s2) (a:=i.toNat * 9 + 2) (zcd (u:=.string s1) (a:=i.toNat * 9 + 1) (zcd (u:=.string s0) (a:=i.toNat * 9) (show W2.drew.frozen? _ = _ from f4)))))
   have dd5:=(zbr (u:=.int .i64 x4) (a:=i.toNat * 9 + 4) (zbr (u:=.int .i64 x3) (a:=i.toNat * 9 + 3) (zbr (u:=.string s2) (a:=i.toNat * 9 + 2) (zbr (u:=.string s1) (a:=i.toNat * 9 + 1) (zbr (u:=.string s0) (a:=i.toNat * 9) (show W2.drew.cell? _ = _ from d5) (by omega)) (by omega)) (by omega)) (by omega)) (by omega))
   have ff5:=(zcd (u:=.int .i64 x4) (a:=i.toNat * 9 + 4) (zcd (u:=.int .i64 x3) (a:=i.toNat * 9 + 3) (zcd (u:=.string s2) (a:=i.toNat * 9 + 2) (zcd (u:=.string s1) (a:=i.toNat * 9 + 1) (zcd (u:=.string s0) (a:=i.toNat * 9) (show W2.drew.frozen? _ = _ from f5))))))
   have dd6:=(zbr (u:=.string s5) (a:=i.toNat * 9 + 5) (zbr (u:=.int .i64 x4) (a:=i.toNat * 9 + 4) (zbr (u:=.int .i64 x3) (a:=i.toNat * 9 + 3) (zbr (u:=.string s2) (a:=i.toNat * 9 + 2) (zbr (u:=.string s1) (a:=i.toNat * 9 + 1) (zbr (u:=.string s0) (a:=i.toNat * 9) (show W2.drew.cell? _ = _ from d6) (by omega)) (by omega)) (by omega)) (by omega)) (by omega)) (by omega))
   have ff6:=(zcd (u:=.string s5) (a:=i.toNat * 9 + 5) (zcd (u:=.int .i64 x4) (a:=i.toNat * 9 + 4) (zcd (u:=.int .i64 x3) (a:=i.toNat * 9 + 3) (zcd (u:=.string s2) (a:=i.toNat * 9 + 2) (zcd (u:=.string s1) (a:=i.toNat * 9 + 1) (zcd (u:=.string s0) (a:=i.toNat * 9) (show W2.drew.frozen? _ = _ from f6)))))))
   have dd7:=(zbr (u:=.int .i64 x6) (a:=i.toNat * 9 + 6) (zbr (u:=.string s5) (a:=i.toNat * 9 + 5) (zbr (u:=.int .i64 x4) (a:=i.toNat * 9 + 4) (zbr (u:=.int .i64 x3) (a:=i.toNat * 9 + 3) (zbr (u:=.string s2) (a:=i.toNat * 9 + 2) (zbr (u:=.string s1) (a:=i.toNat * 9 + 1) (zbr (u:=.string s0) (a:=i.toNat * 9) (show W2.drew.cell? _ = _ from d7) (by omega)) (by omega)) (by omega)) (by omega)) (by omega)) (by omega)) (by omega))
   have ff7:=(zcd (u:=.int .i64 x6) (a:=i.toNat * 9 + 6) (zcd (u:=.string s5) (a:=i.toNat * 9 + 5) (zcd (u:=.int .i64 x4) (a:=i.toNat * 9 + 4) (zcd (u:=.int .i64 x3) (a:=i.toNat * 9 + 3) (zcd (u:=.string s2) (a:=i.toNat * 9 + 2) (zcd (u:=.string s1) (a:=i.toNat * 9 + 1) (zcd (u:=.string s0) (a:=i.toNat * 9) (show W2.drew.frozen? _ = _ from f7))))))))
   have dd8:=(zbr (u:=.int .i64 x7) (a:=i.toNat * 9 + 7) (zbr (u:=.int .i64 x6) (a:=i.toNat * 9 + 6) (zbr (u:=.string s5) (a:=i.toNat * 9 + 5) (zbr (u:=.int .i64 x4) (a:=i.toNat * 9 + 4) (zbr (u:=.int .i64 x3) (a:=i.toNat * 9 + 3) (zbr (u:=.string s2) (a:=i.toNat * 9 + 2) (zbr (u:=.string s1) (a:=i.toNat * 9 + 1) (zbr (u:=.string s0) (a:=i.toNat * 9) (show W2.drew.cell? _ = _ from d8) (by omega)) (by omega)) (by omega)) (by omega)) (by omega)) (by omega)) (by omega)) (by omega))
   have ff8:=(zcd (u:=.int .i64 x7) (a:=i.toNat * 9 + 7) (zcd (u:=.int .i64 x6) (a:=i.toNat * 9 + 6) (zcd (u:=.string s5) (a:=i.toNat * 9 + 5) (zcd (u:=.int .i64 x4) (a:=i.toNat * 9 + 4) (zcd (u:=.int .i64 x3) (a:=i.toNat * 9 + 3) (zcd (u:=.string s2) (a:=i.toNat * 9 + 2) (zcd (u:=.string s1) (a:=i.toNat * 9 + 1) (zcd (u:=.string s0) (a:=i.toNat * 9) (show W2.drew.frozen? _ = _ from f8)))))))))
   have hn0:=eq_true (show (0 : Int) < n by omega)
   go_upto_region 21 with (fail)
   go_region
   clear a0 d0 f0 dd0 ff0 a1 d1 f1 dd1 ff1 a2 d2 f2 dd2 ff2 a3 d3 f3 dd3 ff3 a4 d4 f4 dd4 ff4 a5 d5 f5 dd5 ff5 a6 d6 f6 dd6 ff6 a7 d7 f7 dd7 ff7 a8 d8 f8 dd8 ff8
   go_wp2_with fail
   go_meet
   case rel =>
    with_reducible refine Spl.drawn ?_
    iterate 9 (with_reducible refine Spl.set_f ?_ _ _ ?_)
    ·exact HSp.out
    all_goals (intro _;unfold patF;first|(rw [if_pos (by omega)];exact ⟨_,by assumption,rfl⟩)|(rw [if_neg (by omega)];exact ⟨_,rfl⟩))
  ·obtain ⟨q,hq3⟩ : ∃ q,q = Int.tmod i 3:=⟨_,rfl⟩
   have hqr : q = 0 ∨ q = 1 ∨ q = 2:=by
    rw [Int.tmod_eq_emod_of_nonneg hi0] at hq3
    omega
   have hq4:=hq3.symm
   clear hq3
   rcases hqr with rfl|rfl|rfl
   ·obtain ⟨u,hx0,hu⟩:=HSp.out.a.cell 0 (by omega)
    have hx1:=HSp.out.a.cold 0
    clear hu
    go_wp2_with fail
    go_meet
    case rel=>exact HSp.out.set_a _ _ fun _=>⟨_,hst,rfl⟩
   ·obtain ⟨u,hx0,hu⟩:=HSp.out.a.cell 2 (by omega)
    have hx1:=HSp.out.a.cold 2
    clear hu
    go_wp2_with fail
    go_meet
    case rel=>exact HSp.out.set_a _ _ fun _=>⟨_,hst,rfl⟩
   ·obtain ⟨u,hx0,hu⟩:=HSp.out.a.cell 4 (by omega)
    have hx1:=HSp.out.a.cold 4
    clear hu
    go_wp2_with fail
    go_meet
    case rel=>exact HSp.out.set_a _ _ fun _=>⟨_,hst,rfl⟩
  ·obtain ⟨q,hq3⟩ : ∃ q,q = Int.tmod i 3:=⟨_,rfl⟩
   have hqr : q = 0 ∨ q = 1 ∨ q = 2:=by
    rw [Int.tmod_eq_emod_of_nonneg hi0] at hq3
    omega
   have hq4:=hq3.symm
   clear hq3
   rcases hqr with rfl|rfl|rfl
   ·obtain ⟨u,hx0,hu⟩:=HSp.out.a.cell 1 (by omega)
    have hx1:=HSp.out.a.cold 1
    clear hu
    go_wp2_with fail
    go_meet
    case rel=>exact HSp.out.set_a _ _ fun _=>⟨_,hst,rfl⟩
   ·obtain ⟨u,hx0,hu⟩:=HSp.out.a.cell 3 (by omega)
    have hx1:=HSp.out.a.cold 3
    clear hu
    go_wp2_with fail
    go_meet
    case rel=>exact HSp.out.set_a _ _ fun _=>⟨_,hst,rfl⟩
   ·obtain ⟨u,hx0,hu⟩:=HSp.out.a.cell 5 (by omega)
    have hx1:=HSp.out.a.cold 5
    clear hu
    go_wp2_with fail
    go_meet
    case rel=>exact HSp.out.set_a _ _ fun _=>⟨_,hst,rfl⟩
  ·obtain ⟨q,hq3⟩ : ∃ q,q = Int.tmod i 3:=⟨_,rfl⟩
   have hqr : q = 0 ∨ q = 1 ∨ q = 2:=by
    rw [Int.tmod_eq_emod_of_nonneg hi0] at hq3
    omega
   have hq4:=hq3.symm
   clear hq3
   rcases hqr with rfl|rfl|rfl
   ·obtain ⟨u,hx0,hu⟩:=HSp.out.z.cell 0 (by omega)
    have hx1:=HSp.out.z.cold 0
    clear hu
    go_wp2_with fail
    go_meet
    case rel=>exact HSp.out.set_z _ _ fun _=>⟨_,hst,rfl⟩
   ·obtain ⟨u,hx0,hu⟩:=HSp.out.z.cell 3 (by omega)
    have hx1:=HSp.out.z.cold 3
    clear hu
    go_wp2_with fail
    go_meet
    case rel=>exact HSp.out.set_z _ _ fun _=>⟨_,hst,rfl⟩
   ·obtain ⟨u,hx0,hu⟩:=HSp.out.z.cell 6 (by omega)
    have hx1:=HSp.out.z.cold 6
    clear hu
    go_wp2_with fail
    go_meet
    case rel=>exact HSp.out.set_z _ _ fun _=>⟨_,hst,rfl⟩
  ·obtain ⟨q,hq3⟩ : ∃ q,q = Int.tmod i 3:=⟨_,rfl⟩
   have hqr : q = 0 ∨ q = 1 ∨ q = 2:=by
    rw [Int.tmod_eq_emod_of_nonneg hi0] at hq3
    omega
   have hq4:=hq3.symm
   clear hq3
   rcases hqr with rfl|rfl|rfl
   ·obtain ⟨u,hx0,hu⟩:=HSp.out.z.cell 1 (by omega)
    have hx1:=HSp.out.z.cold 1
    clear hu
    go_wp2_with fail
    go_meet
    case rel=>exact HSp.out.set_z _ _ fun _=>⟨_,rfl⟩
   ·obtain ⟨u,hx0,hu⟩:=HSp.out.z.cell 4 (by omega)
    have hx1:=HSp.out.z.cold 4
    clear hu
    go_wp2_with fail
    go_meet
    case rel=>exact HSp.out.set_z _ _ fun _=>⟨_,rfl⟩
   ·obtain ⟨u,hx0,hu⟩:=HSp.out.z.cell 7 (by omega)
    have hx1:=HSp.out.z.cold 7
    clear hu
    go_wp2_with fail
    go_meet
    case rel=>exact HSp.out.set_z _ _ fun _=>⟨_,rfl⟩
  ·obtain ⟨q,hq3⟩ : ∃ q,q = Int.tmod i 2:=⟨_,rfl⟩
   have hqr : q = 0 ∨ q = 1:=by
    rw [Int.tmod_eq_emod_of_nonneg hi0] at hq3
    omega
   have hq4:=hq3.symm
   clear hq3
   obtain ⟨u,hx5,hu⟩:=HSp.out.z.cell 5 (by omega)
   obtain rfl : u = .slice (some ⟨w.heap.size + 1,0,none⟩) 2 2:=hu
   rcases hqr with rfl|rfl
   ·obtain ⟨u,hx0,hu⟩:=HSp.out.s1.cell 0 (by omega)
    have hx1:=HSp.out.s1.cold 0
    clear hu
    go_wp2_with fail
    go_meet
    case rel=>exact HSp.out.set_s _ _ fun _=>⟨_,rfl⟩
   ·obtain ⟨u,hx0,hu⟩:=HSp.out.s1.cell 2 (by omega)
    have hx1:=HSp.out.s1.cold 2
    clear hu
    go_wp2_with fail
    go_meet
    case rel=>exact HSp.out.set_s _ _ fun _=>⟨_,rfl⟩
  ·obtain ⟨q,hq3⟩ : ∃ q,q = Int.tmod i 3:=⟨_,rfl⟩
   have hqr : q = 0 ∨ q = 1 ∨ q = 2:=by
    rw [Int.tmod_eq_emod_of_nonneg hi0] at hq3
    omega
   have hq4:=hq3.symm
   clear hq3
   obtain ⟨u0,a0,ha0⟩:=HSp.out.a.cell 0 (by omega)
   obtain ⟨s0,hs0,rfl⟩ : Pat.ok .s u0:=ha0
   obtain ⟨u1,a1,ha1⟩:=HSp.out.a.cell 1 (by omega)
   obtain ⟨s1,hs1,rfl⟩ : Pat.ok .s u1:=ha1
   rcases hqr with rfl|rfl|rfl
   ·have d0:=a0
    have d1:=a1
    have f0:=HSp.out.a.cold 0
    have f1:=HSp.out.a.cold 1
    have dd0:=(show W2.drew.cell? _ = _ from d0)
    have ff0:=(show W2.drew.frozen? _ = _ from f0)
    have dd1:=(zbr (u:=.string s0) (a:=0) (show W2.drew.cell? _ = _ from d1) (by omega))
    have ff1:=(zcd (u:=.string s0) (a:=0) (show W2.drew.frozen? _ = _ from f1))
    go_upto_region 5 with (fail)
    go_region
    clear a0 a1 d0 d1 f0 f1 dd0 ff0 dd1 ff1
    go_wp2_with fail
    go_meet
    case rel =>
     with_reducible refine Spl.drawn ?_
     iterate 2 (with_reducible refine Spl.set_a ?_ _ _ ?_)
     ·exact HSp.out
     all_goals exact fun _=>⟨_,by assumption,rfl⟩
   ·obtain ⟨_,d0,_⟩:=HSp.out.a.cell 2 (by omega)
    obtain ⟨_,d1,_⟩:=HSp.out.a.cell 3 (by omega)
    have f0:=HSp.out.a.cold 2
    have f1:=HSp.out.a.cold 3
    have dd0:=(show W2.drew.cell? _ = _ from d0)
    have ff0:=(show W2.drew.frozen? _ = _ from f0)
    have dd1:=(zbr (u:=.string s0) (a:=2) (show W2.drew.cell? _ = _ from d1) (by omega))
    have ff1:=(zcd (u:=.string s0) (a:=2) (show W2.drew.frozen? _ = _ from f1))
    go_upto_region 5 with (fail)
    go_region
    clear a0 a1 d0 d1 f0 f1 dd0 ff0 dd1 ff1
    go_wp2_with fail
    go_meet
    case rel =>
     with_reducible refine Spl.drawn ?_
     iterate 2 (with_reducible refine Spl.set_a ?_ _ _ ?_)
     ·exact HSp.out
     all_goals exact fun _=>⟨_,by assumption,rfl⟩
   ·obtain ⟨_,d0,_⟩:=HSp.out.a.cell 4 (by omega)
    obtain ⟨_,d1,_⟩:=HSp.out.a.cell 5 (by omega)
    have f0:=HSp.out.a.cold 4
    have f1:=HSp.out.a.cold 5
    have dd0:=(show W2.drew.cell? _ = _ from d0)
    have ff0:=(show W2.drew.frozen? _ = _ from f0)
    have dd1:=(zbr (u:=.string s0) (a:=4) (show W2.drew.cell? _ = _ from d1) (by omega))
    have ff1:=(zcd (u:=.string s0) (a:=4) (show W2.drew.frozen? _ = _ from f1))
    go_upto_region 5 with (fail)
    go_region
    clear a0 a1 d0 d1 f0 f1 dd0 ff0 dd1 ff1
    go_wp2_with fail
    go_meet
    case rel =>
     with_reducible refine Spl.drawn ?_
     iterate 2 (with_reducible refine Spl.set_a ?_ _ _ ?_)
     ·exact HSp.out
     all_goals exact fun _=>⟨_,by assumption,rfl⟩
 case rest =>
  obtain ⟨zs,lz,hz⟩:=zones_of hcut.z hcut.s1 hcut.s2
  obtain ⟨ps,lp,hp_⟩:=ports_of hcut.a
  obtain ⟨fs,lf,hf,hsz⟩:=flights_of hcut.f (by omega)
  have BK:=zac.mk hcut.t
  have HBe:=zac.mk hcut.be
  have hnc:=hcut.nc
  subst lf
  obtain ⟨e,he⟩ : ∃ e,e = validS zs ps fs:=⟨_,rfl⟩
  have A4:=zac.mk (pvalid zs ps fs 140737488361232 (by omega) (by omega))
  have A5:=zac.mk (rvalid zs ps fs 140737488351232 hsz 140737488361232 (by omega) (by omega))
  rw [← he] at A4 A5
  have hz' : Kd.C k42 wc (some ⟨w.heap.size + 3,0,none⟩) zs.length zs:=by rw [lz];exact hz
  have hp' : Kd.C k39 wc (some ⟨w.heap.size + 4,0,none⟩) ps.length ps:=by rw [lp];exact hp_
  have HR0:=zac.mk hz'
  have HR1:=zac.mk hp'
  have HR2:=zac.mk hf
  have L0 : zs.length ≤ 3:=Nat.le_of_eq lz
  have L1 : ps.length ≤ 3:=Nat.le_of_eq lp
  clear hz hp_ hz' hp' hf hcut he hsz
  go_upto_region 32 with (fail)
  have c6b0 : (e == e) = true:=beq_self_eq_true e
  have HB:=zac.mk (zaf (Below.refl wc.heap.size wc))
  have n0_:=zac.mk (zak BK.out)
  clear BK
  have BK:=n0_
  clear n0_
  refine start_ (n:=9) (S:=fun w'=>w'.cell? ⟨b,0,none⟩ = some (.slice (some ⟨w.heap.size + 3,0,none⟩) 3 3) ∧ w'.cell? ⟨b,1,none⟩ = some (.slice (some ⟨w.heap.size + 4,0,none⟩) 3 3) ∧ w'.cell? ⟨b,2,none⟩ = some (.slice (some ⟨g,0,none⟩) fs.length c)) (ds:=[]) #[false,false,false,false,false,false,false,false,false] (by kernel_rfl) rfl rfl ⟨(zad BK.out 0).trans rfl,(zad BK.out 1).trans rfl,(zad BK.out 2).trans rfl⟩ (fun hHeld=>?_);refine with_tabW splTab splBits (fun HT_ HW_=>?_)
  generalize wc.drew = w11 at BK HB hHeld ⊢
  refine take_ (i:=0) (N:=some 152) (v:=?_) (a':=?_) #[true,false,false,false,false,false,false,false,false] rfl rfl (take_ofW HT_.out HW_.out (by kernel_rfl)) (fun _ _ _ h=>h) (Or.inl ⟨by rfl,?_⟩) hHeld ?_ ?_
  rotate_left
  ·rintro w' ⟨s0,s1,s2⟩
   go_simp
   with_reducible rfl
  rotate_left
  ·simp only [Act.put,List.setIfInBounds_toArray,List.set_cons_zero,List.set_cons_succ,i64_w,i32_w]
   rfl
  refine take_ (i:=2) (N:=some 154) (v:=?_) (a':=?_) #[true,false,true,false,false,false,false,false,false] rfl rfl (take_ofW HT_.out HW_.out (by kernel_rfl)) (fun _ _ _ h=>h) (Or.inl ⟨by rfl,?_⟩) hHeld ?_ ?_
  rotate_left
  ·rintro w' ⟨s0,s1,s2⟩
   go_simp
   with_reducible rfl
  rotate_left
  ·simp only [Act.put,List.setIfInBounds_toArray,List.set_cons_zero,List.set_cons_succ,i64_w,i32_w]
   rfl
  refine one_ (i:=1) (N:=some 153) #[true,true,true,false,false,false,false,false,false] rfl rfl (one_of HT_.out (by kernel_rfl)) (by decide) (fun K hK=>?_)
  refine goes_ Try.func11 (by kernel_rfl) rfl #[.agg #[.slice (some ⟨w.heap.size + 3,0,none⟩) 3 3,.slice (some ⟨w.heap.size + 4,0,none⟩) 3 3,.slice (some ⟨g,0,none⟩) fs.length c]] (by rfl) rfl rfl (by (try simp only [List.map_toArray,List.map_cons,List.map_nil]);first|done|rfl) ?_
  have hv:=zan.calls 140737488361232 (some ⟨w.heap.size + 3,0,none⟩) 3 zs (some ⟨w.heap.size + 4,0,none⟩) 3 ps (some ⟨g,0,none⟩) c fs e _ (Kd.C_below HR0.out HB.out) L0 (Kd.C_below HR1.out HB.out) L1 (Kd.C_below HR2.out HB.out) hnc A4.out
  rw [lz,lp] at hv
  refine hv.mono ?_
  rintro e_ w12 ⟨rfl,hb⟩
  refine ⟨_,rfl,?_⟩
  have n0_:=zac.mk (zat (g:=b) BK.out hb)
  have n1_:=zac.mk (zao HB.out hb)
  clear BK HB
  have BK:=n0_
  have HB:=n1_
  clear n0_ n1_ hb
  refine hK.out _ _ ⟨(zad BK.out 0).trans rfl,(zad BK.out 1).trans rfl,(zad BK.out 2).trans rfl⟩ (fun hHeld=>?_)
  clear hK K
  refine norm_ (a':=?_) ?_ ?_
  rotate_left
  ·show Act.put _ (some 153) _ = _
   simp only [Act.put,List.setIfInBounds_toArray,List.set_cons_zero,List.set_cons_succ,i64_w,i32_w]
   rfl
  refine one_ (i:=3) (N:=some 155) #[true,true,true,true,false,false,false,false,false] rfl rfl (one_of HT_.out (by kernel_rfl)) (by decide) (fun K hK=>?_)
  refine goes_ Try.func12 (by kernel_rfl) rfl #[.agg #[.slice (some ⟨w.heap.size + 3,0,none⟩) 3 3,.slice (some ⟨w.heap.size + 4,0,none⟩) 3 3,.slice (some ⟨g,0,none⟩) fs.length c]] (by rfl) rfl rfl (by (try simp only [List.map_toArray,List.map_cons,List.map_nil]);first|done|rfl) ?_
  have hv:=zar.calls 140737488361232 (some ⟨w.heap.size + 3,0,none⟩) 3 zs (some ⟨w.heap.size + 4,0,none⟩) 3 ps (some ⟨g,0,none⟩) c fs e _ (Kd.C_below HR0.out HB.out) L0 (Kd.C_below HR1.out HB.out) L1 (Kd.C_below HR2.out HB.out) hnc A5.out
  rw [lz,lp] at hv
  refine hv.mono ?_
  rintro e_ w13 ⟨rfl,hb⟩
  refine ⟨_,rfl,?_⟩
  have n0_:=zac.mk (zat (g:=b) BK.out hb)
  have n1_:=zac.mk (zao HB.out hb)
  clear BK HB
  have BK:=n0_
  have HB:=n1_
  clear n0_ n1_ hb
  refine hK.out _ _ ⟨(zad BK.out 0).trans rfl,(zad BK.out 1).trans rfl,(zad BK.out 2).trans rfl⟩ (fun hHeld=>?_)
  clear hK K
  refine norm_ (a':=?_) ?_ ?_
  rotate_left
  ·show Act.put _ (some 155) _ = _
   simp only [Act.put,List.setIfInBounds_toArray,List.set_cons_zero,List.set_cons_succ,i64_w,i32_w]
   rfl
  refine pure_ (i:=4) (N:=some 156) (v:=?_) (a':=?_) #[true,true,true,true,true,false,false,false,false] rfl rfl (zbx HT_.out (by kernel_rfl)) (fun _ _ _ h=>h) (Or.inl ⟨by rfl,?_⟩) ?_ ?_
  rotate_left
  ·intro w'
   go_simp
   with_reducible rfl
  rotate_left
  ·simp only [Act.put,List.setIfInBounds_toArray,List.set_cons_zero,List.set_cons_succ,i64_w,i32_w]
   rfl
  refine pure_ (i:=5) (N:=some 157) (v:=?_) (a':=?_) #[true,true,true,true,true,true,false,false,false] rfl rfl (zbx HT_.out (by kernel_rfl)) (fun _ _ _ h=>h) (Or.inl ⟨by rfl,?_⟩) ?_ ?_
  rotate_left
  ·intro w'
   go_simp
   with_reducible rfl
  rotate_left
  ·simp only [Act.put,List.setIfInBounds_toArray,List.set_cons_zero,List.set_cons_succ,i64_w,i32_w]
   rfl
  refine one_ (i:=6) (N:=some 158) #[true,true,true,true,true,true,true,false,false] rfl rfl (one_of HT_.out (by kernel_rfl)) (by decide) (fun K hK=>?_)
  refine goes_ Try.func10 (by kernel_rfl) rfl #[] (by rfl) rfl rfl (by (try simp only [List.map_toArray,List.map_cons,List.map_nil]);first|done|rfl) ?_
  refine (awake_calls _).mono ?_
  rintro e_ w14 ⟨rfl,hb⟩
  refine ⟨_,rfl,?_⟩
  have n0_:=zac.mk (zat (g:=b) BK.out hb)
  have n1_:=zac.mk (zao HB.out hb)
  clear BK HB
  have BK:=n0_
  have HB:=n1_
  clear n0_ n1_ hb
  refine hK.out _ _ ⟨(zad BK.out 0).trans rfl,(zad BK.out 1).trans rfl,(zad BK.out 2).trans rfl⟩ (fun hHeld=>?_)
  clear hK K
  refine norm_ (a':=?_) ?_ ?_
  rotate_left
  ·show Act.put _ (some 158) _ = _
   simp only [Act.put,List.setIfInBounds_toArray,List.set_cons_zero,List.set_cons_succ,i64_w,i32_w]
   rfl
  refine pure_ (i:=7) (N:=some 159) (v:=?_) (a':=?_) #[true,true,true,true,true,true,true,true,false] rfl rfl (zbx HT_.out (by kernel_rfl)) (fun _ _ _ h=>h) (Or.inl ⟨by rfl,?_⟩) ?_ ?_
  rotate_left
  ·intro w'
   go_simp
   with_reducible rfl
  rotate_left
  ·simp only [Act.put,List.setIfInBounds_toArray,List.set_cons_zero,List.set_cons_succ,i64_w,i32_w]
   rfl
  refine pure_ (i:=8) (N:=some 10) (v:=?_) (a':=?_) #[true,true,true,true,true,true,true,true,true] rfl rfl (zbx HT_.out (by kernel_rfl)) (fun _ _ _ h=>h) (Or.inl ⟨by rfl,?_⟩) ?_ ?_
  rotate_left
  ·intro w'
   go_simp
   with_reducible rfl
  rotate_left
  ·simp only [Act.put,List.setIfInBounds_toArray,List.set_cons_zero,List.set_cons_succ,i64_w,i32_w]
   rfl
  refine done_ (done_of HT_.out (by kernel_rfl)) ?_
  try go_wp2
  go_ret
  exact ⟨by first|rfl|(simp [c6b0] <;> rfl),zao HBe.out HB.out⟩
end Go.Proofs.Ytepnddmalheoiaa.Q
namespace Go.Proofs.Ytepnddmalheoiaa.Q
open Go.Proofs.Ytepnddmalheoiaa.H
open Go.RowKit Go.Proofs.YtepnddmalheoiaaW.PrintWords Go.Proofs.YtepnddmalheoiaaW.PrintLast Go.Proofs.YtepnddmalheoiaaW.PrintMore
theorem TimetableSpoilt_walk (W : World) (a : Option Addr) (len cap : Nat) (l : List Int) (hK : kO31.K W l [Value.slice a len cap]) (hG : gO31 l) (wh0 : Int) (w1_ : (Lit.int .i64 wh0).wf = true) (at0 : Int) (w2_ : (Lit.int .i64 at0).wf = true) (nn : Int) (w3_ : (Lit.int .i64 nn).wf = true) (st : ByteArray) (w4_ : st.size ≤ 140737488351232) :
  Calls Try.prog 4 #[.slice a len cap,.int .i64 wh0,.int .i64 at0,.int .i64 nn,.string st] W fun e W'=>e = .returned (.bool true) ∧ Below W.heap.size W W':=by
 obtain ⟨rfl,hC,hcap⟩:=ints_at hK
 have hat:=atOk_of (at_ok l hG.2)
 obtain ⟨hg,h2⟩:=bAll_good l hat
 have h7:=hg.len
 obtain ⟨a0,a1⟩:=low16 at0
 obtain ⟨k0,k1⟩:=low16 wh0
 have ri : 0 ≤ Int.tmod (Go.bits .and .i64 at0 65535) ((bAll l).length : Int) ∧ Int.tmod (Go.bits .and .i64 at0 65535) ((bAll l).length : Int) < ((bAll l).length : Int):=by
  rw [Int.tmod_eq_emod_of_nonneg a0];exact ⟨Int.emod_nonneg _ (by omega),Int.emod_lt_of_pos _ (by omega)⟩
 have rk : 0 ≤ Int.tmod (Go.bits .and .i64 wh0 65535) 14 ∧ Int.tmod (Go.bits .and .i64 wh0 65535) 14 < 14:=by
  rw [Int.tmod_eq_emod_of_nonneg k0];omega
 exact spoilt_calls a cap l wh0 at0 nn st _ _ W hC hcap hat ⟨by omega,h7⟩ (fun f hf=>by obtain ⟨x0,x1,x2,_,_,x5,_⟩:=good_mem hg f hf;exact ⟨x0,x1,x2,x5⟩) w4_ rfl rk.1 rk.2 rfl ri.1 ri.2
end Go.Proofs.Ytepnddmalheoiaa.Q
namespace Go.Proofs.Ytepnddmalheoiaa.timetableSpoilt
open Go.ChangeShapes Go.WideShapes Go.ChangeAt Go.RowKit
open Go.ChangeMaps (open_string shut_string)
open Go.Proofs.YtepnddmalheoiaaW
theorem own : ownKnob Try.prog.godebug = none:=by kernel_rfl
theorem laidOut : laidOutB Try.prog = true:=by kernel_rfl
set_option maxRecDepth 100000 in
theorem lifted (os : Os) (started : os.Started) (H : Type) (enc : TypeId × Value → H) :
  ReturnsInHanded {} Try.checked os 4 .any (Rows.timetableSpoiltSpec.pre6 enc Try.prog Try.f4 Rows.timetableSpoiltRow.domain false) (Rows.timetableSpoiltSpec.post enc Try.prog Try.f4 false true false false):=by
 refine returnsInHanded_of_change_sized (C:=Try.checked) own started (by kernel_rfl) Try.func4
  (ChangeSpec.witness6 (enc:=enc) (C:=Try.checked) false ⟨#[],#[.slice none 0 0,.int .i64 0,.int .i64 0,.int .i64 0,.string ByteArray.empty],[]⟩ 8 (by kernel_rfl) (by kernel_rfl) (by kernel_rfl) (by kernel_rfl)) ?_
 intro W base args ds gs before hval0 hW hcnd hsz0 _
 have hsz : (DataW.weightsEach Try.prog (Try.f4.params.toList ++ Rows.timetableSpoiltSpec.plain.varTypes Try.prog) (ds ++ gs)).all (· ≤ reachBytes) = true:=hsz0
 have hval : ∀ (j : Nat) t v,Try.f4.params[j]? = some t → args[j]? = some v → Value.okWide Try.prog W .any base t v:=hval0
 have hW':=hW
 obtain ⟨p,q,hA0,hV,rfl,hfz,hnd⟩:=hW
 have hA : DataW.TrodAll enc Try.prog W 0 (fun _=>true) true Try.f4.params.toList args.toList ds p:=hA0
 rw [Try.params4] at hA hval hsz
 obtain ⟨v0,vs0,d0,ds0,p0,q0,hargs,rfl,rfl,h0,r0⟩:=trodAll_cons hA
 obtain ⟨v1,vs1,d1,ds1,p1,q1,rfl,rfl,rfl,h1,r1⟩:=trodAll_cons r0
 obtain ⟨v2,vs2,d2,ds2,p2,q2,rfl,rfl,rfl,h2,r2⟩:=trodAll_cons r1
 obtain ⟨v3,vs3,d3,ds3,p3,q3,rfl,rfl,rfl,h3,r3⟩:=trodAll_cons r2
 obtain ⟨v4,vs4,d4,ds4,p4,q4,rfl,rfl,rfl,h4,r4⟩:=trodAll_cons r3
 obtain ⟨rfl,rfl,rfl⟩:=trodAll_nil r4
 obtain rfl : args = #[v0,v1,v2,v3,v4]:=by cases args;simp_all
 obtain ⟨rfl,rfl⟩:=trodVars_none hV
 have k0:=h0
 have lt0 : ∀ x ∈ p0,x.block < W.heap.size:=by obtain ⟨m,hm⟩:=k0;exact DataW.trod_lt m _ _ _ hm
 obtain ⟨a0,len0,cap0,rfl⟩:=okWide_slice Try.underlying31 (hval 0 31 v0 rfl rfl)
 obtain ⟨y0,hy0,hg0⟩ : ∃ y,(Q.kO31).K W y [Value.slice a0 len0 cap0] ∧ Q.gO31 y:=by obtain ⟨fuel,hf⟩:=h0;exact Q.oO31 H enc W 0 _ _ fuel _ _ hf (fun n hn=>by have:=List.all_eq_true.1 hsz n (DataW.weights_mem_each (j:=0) (t:=31) rfl rfl n hn);simpa using this)
 obtain ⟨a1,rfl,rfl,rfl,w1⟩:=open_int Try.underlying3 (hval 1 3 v1 rfl rfl) h1
 obtain ⟨a2,rfl,rfl,rfl,w2⟩:=open_int Try.underlying3 (hval 2 3 v2 rfl rfl) h2
 obtain ⟨a3,rfl,rfl,rfl,w3⟩:=open_int Try.underlying3 (hval 3 3 v3 rfl rfl) h3
 obtain ⟨a4,rfl,rfl,rfl,y4⟩:=open_string Try.underlying9 (hval 4 9 v4 rfl rfl) h4
 have w4 : a4.size ≤ 140737488351232:=by
  have z:=sized_string hsz (j:=4) (t:=9) rfl rfl
  rw [Array.length_toList] at z
  exact z
 clear hA0 hval0 hsz0 hsz
 refine (Q.TimetableSpoilt_walk W a0 len0 cap0 y0 hy0 hg0 a1 w1 a2 w2 a3 w3 a4 w4).mono fun e W' ⟨he,bel⟩=>?_
 subst he
 exact ⟨_,rfl,_,_,_,[],_,[],hW',trodAll_mk1 (shut_bool Try.underlying4 _),(trodAll_cons_mk (Below.trod laidOut (by kernel_rfl) (of_decide_eq_true (by kernel_rfl)) k0 bel lt0) (trodAll_cons_mk (shut_int Try.underlying3 w1) (trodAll_cons_mk (shut_int Try.underlying3 w2) (trodAll_cons_mk (shut_int Try.underlying3 w3) (trodAll_cons_mk (shut_string Try.underlying9 y4) trodAll_mk0))))),rfl,bel.frame _,fun h=>by cases h⟩
theorem over : Rows.timetableSpoiltRow.holds Try.pinned (OpenSpec.ofChange Rows.timetableSpoiltSpec) :=
 OpenClaim.holds_of_wide 4 Try.f4 rfl rfl rfl rfl rfl rfl rfl ⟨rfl,rfl,rfl,rfl,rfl⟩ rfl rfl rfl rfl rfl (by kernel_rfl) Try.func4 (by kernel_rfl)
  (of_decide_eq_true (by kernel_rfl)) (by unfold Func.isWrapper;first|(rw [if_pos (by decide +kernel)];kernel_rfl)|(rw [if_neg (by decide +kernel)];exact ⟨rfl,rfl⟩))
  (fun os started H enc _=>lifted os started H enc)
theorem proved : Rows.TimetableSpoiltSaid:=over
end Go.Proofs.Ytepnddmalheoiaa.timetableSpoilt
namespace Go.Proofs.Ytepnddmalheoiaa
theorem timetableSpoilt_holds : Rows.TimetableSpoiltSaid:=timetableSpoilt.proved
end Go.Proofs.Ytepnddmalheoiaa
