/- The law timetableTorn, proved: for every input the call answers true. -/
import Derived.Test.YtepnddmalheoiaaProg
import Derived.Below
import Derived.Deep.Draws
import Derived.Deep.AppendLies
import Derived.Maps.AppendAt
import Derived.OwnWalk
import Derived.Laws.BytesArg
import Derived.Laws.MakeOwn
import Derived.Laws.OwnMore
import Derived.Deep.OwnRows
import Derived.Tactics
import Derived.Lib.ConvBytes
import Derived.Laws.Slices
import Derived.WalkKit
import Derived.KernelRfl
import Derived.RowKit3
import Derived.Deep.LoopGhost
import Derived.Deep.QuietTactic
import Derived.BigQuiet
import Derived.WideLaws
import Derived.Deep.DeepCutAuto
import Derived.Deep.CutBlock
import Derived.Deep.RegionHeld3
import Derived.Laws.Rows
import Derived.Lib.AppendStr
import Derived.ArgAppend
import Derived.Laws.IdiomCopy
import Derived.OrdersHeld
import Derived.Laws.BitsLemmas
import Derived.RowKit
import Derived.Deep.WholeRow
import Derived.Laws.ResultCell
import Derived.Lib.SlBytesConst
import Derived.Outline
import Derived.Laws.StructEq
import Derived.OpenShut
import Derived.ProofKit
import Derived.SizedLaws
import Derived.ChangeArms
import Derived.WideShapes
import Derived.IntWalk
import Derived.Test.YtepnddmalheoiaaRows
import Derived.ShutString
import Derived.ChangeOld
import Derived.ChangeSlices
import Derived.Test.YtepnddmalheoiaaST0
import Derived.Test.YtepnddmalheoiaaST1
import Derived.Test.YtepnddmalheoiaaST2
import Derived.Test.YtepnddmalheoiaaST3
import Derived.Test.YtepnddmalheoiaaST4
import Derived.Test.YtepnddmalheoiaaST5
import Derived.Test.YtepnddmalheoiaaST6
import Derived.Test.YtepnddmalheoiaaST7
import Derived.Test.YtepnddmalheoiaaST8
import Derived.Test.YtepnddmalheoiaaST9
import Derived.Test.YtepnddmalheoiaaST10
namespace Go.Proofs.Ytepnddmalheoiaa.Q
open Go.Proofs.Ytepnddmalheoiaa.H
open Go.RowKit Go.Proofs.YtepnddmalheoiaaW.PrintWords Go.Proofs.YtepnddmalheoiaaW.PrintLast Go.Proofs.YtepnddmalheoiaaW.PrintMore
set_option linter.unusedVariables false
set_option linter.unusedSimpArgs false
def timetable_Decode.f (k : Nat) (l0 : List Int) : Option (List S42 × List S39 × List S36 × Int) :=
 (wire_Unframe.f l0).bind fun u=>if u.2.2.2 = 0 then (timetable_reader_timetable.f k (u.2.1,false)).bind fun t=>if u.1 = 1 ∧ u.2.2.1 = (l0.length : Int) ∧ t.2.2.2 = ([],false) then (timetable_Validate.f k t.1 t.2.1 t.2.2.1).bind fun e=>if e = 0 then some (t.1,t.2.1,t.2.2.1,0) else some ([],[],[],e) else some ([],[],[],2) else some ([],[],[],u.2.2.2)
theorem unf_body (l : List Int) (h : ∀ x ∈ l,0 ≤ x ∧ x ≤ 255) : ∀ x ∈ (unf l).2.1,0 ≤ x ∧ x ≤ 255:=by
 unfold unf
 repeat' split
 all_goals first
  | exact fun x hx=>h x (List.mem_of_mem_take (List.mem_of_mem_drop hx))
  | exact fun x hx=>absurd hx (by simp)
set_option maxHeartbeats 8000000 in
set_option maxRecDepth 100000 in
theorem timetable_Decode.calls (k : Nat) (A0 : Option Addr) (c0 : Nat) (l0 : List Int) (r1 : List S42) (r2 : List S39) (r3 : List S36) (r4 : Int) (w : World) (hr0 : Kd.C (Kd.int .u8) w A0 l0.length l0) (hc0 : l0.length ≤ c0) (h : timetable_Decode.f k l0 = some (r1,r2,r3,r4)) :
  Calls Try.prog 16 #[.slice A0 l0.length c0] w fun e w'=>∃ v0_ v1_ v2_ : Value,e = .returned (.tuple #[.agg #[v0_,v1_,v2_],.int .i64 r4]) ∧ Kd.S k42 42 w' w.heap.size (fun _=>True) v0_ r1 ∧ Kd.R k39 39 w' w.heap.size (fun _=>True) v1_ r2 ∧ Kd.R k36 36 w' w.heap.size (fun _=>True) v2_ r3 ∧ Below w.heap.size w w':=by
 have hu26:=Try.underlying26
 have HR0:=Aside0.mk hr0
 have HC0:=Aside0.mk hc0
 clear hr0 hc0
 unfold timetable_Decode.f at h
 obtain ⟨⟨u1,u2,u3,u4⟩,hu,h⟩:=Option.bind_eq_some_iff.1 h
 simp only at h
 have HBy : Aside0 (∀ x ∈ u2,0 ≤ x ∧ x ≤ 255):=by
  unfold wire_Unframe.f at hu
  split at hu
  ·rename_i hb
   have hq:=unf_body l0 hb.1
   rw [Option.some.inj hu] at hq
   exact ⟨hq⟩
  ·cases hu
 have HU:=Aside0.mk hu
 have HH:=Aside0.mk h
 clear hu h
 have hb0:=Below.refl w.heap.size w
 have HB0:=Aside0.mk hb0
 clear hb0
 go_enter Try.func16,Try.ntmps16
 go_wp2_with fail
 refine (wire_Unframe.calls _ _ l0 u1 u2 u3 u4 _ (Kd.C_alloc HR0.out _) HC0.out HU.out).mono ?_
 rintro e_ w1 ⟨v,rfl,hR,hb1⟩
 obtain ⟨A1,c1,rfl,hl1,hC1⟩:=Kd.R_reads hR
 have HC1:=Aside0.mk hC1
 have HL1:=Aside0.mk hl1
 have HB1:=Aside0.mk (below_step (below_alloc HB0.out (.cells #[.slice none 0 0,.slice none 0 0,.slice none 0 0] 26 (0,0))) hb1)
 have HBK:=Aside0.mk (blk_below (g:=w.heap.size) (heap_alloc_new w (.cells #[.slice none 0 0,.slice none 0 0,.slice none 0 0] 26 (0,0))) hb1)
 have H:=HH.out
 clear hR hb1 hC1 hl1 HH
 by_cases hu4 : u4 = 0
 ·rw [if_pos hu4] at H
  obtain ⟨⟨t1,t2,t3,t4⟩,ht,H⟩:=Option.bind_eq_some_iff.1 H
  simp only at H
  have HH:=Aside0.mk H
  have HT:=Aside0.mk ht
  have c4 : (u4 != 0) = false:=bne_eq_false_iff_eq.mpr hu4
  clear H ht hu4
  go_wp2_with fail
  have hI : IsS88 w1 (w1.alloc (.cells #[.slice A1 u2.length c1,.bool false] 88 (0,0))) w1.heap.size (u2,false):=⟨A1,c1,heap_alloc_new _ _,Nat.le_refl _,HC1.out,HL1.out,HBy.out⟩
  refine (timetable_reader_timetable.calls k w1.heap.size (u2,false) t1 t2 t3 t4 w1 _ hI (below_alloc (Below.refl _ _) _) HT.out).mono ?_
  rintro e_ w2 ⟨v0,v1,v2,rfl,hS,hR1,hR2,hI2,hb2,hk2⟩
  obtain ⟨l4,b4⟩:=t4
  obtain ⟨Az,cz,rfl,hlz,hCz⟩:=Kd.S_reads hS
  obtain ⟨Ap,cp,rfl,hlp,hCp⟩:=Kd.R_reads hR1
  obtain ⟨Af,cf,rfl,hlf,hCf⟩:=Kd.R_reads hR2
  have HZ:=Aside0.mk hCz
  have HP:=Aside0.mk hCp
  have HF:=Aside0.mk hCf
  have HlZ:=Aside0.mk hlz
  have HlP:=Aside0.mk hlp
  have HlF:=Aside0.mk hlf
  clear hCz hCp hCf hlz hlp hlf
  have HI2:=Aside0.mk hI2
  clear hI
  obtain ⟨A2,c2,hb,hg,hr,hc,hx⟩:=hI2
  have hc0 : w2.cell? ⟨w1.heap.size,0,none⟩ = some (.slice A2 l4.length c2):=(blk_cell hb 0).trans rfl
  have hc1 : w2.cell? ⟨w1.heap.size,1,none⟩ = some (.bool b4):=(blk_cell hb 1).trans rfl
  have HBk:=Aside0.mk hb
  have HX:=Aside0.mk hx
  have HR:=Aside0.mk hr
  have HB2:=Aside0.mk (below_step HB1.out hb2)
  have HBK2:=Aside0.mk (blk_below HBK.out hb2)
  have HS:=Aside0.mk hS
  have HR1:=Aside0.mk hR1
  have HR2:=Aside0.mk hR2
  have HK:=Aside0.mk hk2
  clear hS hR1 hR2 hb2 hk2 hb hx hr
  obtain ⟨T,hT⟩ : ∃ T,T = Obj.cells #[.slice Az t1.length cz,.slice Ap t2.length cp,.slice Af t3.length cf] 26 (0,0):=⟨_,rfl⟩
  have HA:=Aside0.mk (blk_alloc HBk.out T)
  have HRs:=Aside0.mk (blk_alloc HBK2.out T)
  have HN:=Aside0.mk (heap_alloc_new w2 T)
  have HBA:=Aside0.mk (below_alloc HB2.out T)
  subst hT
  have ha0:=(blk_cell HA.out 0).trans rfl
  have ha1:=(blk_cell HA.out 1).trans rfl
  have hr0:=(blk_cell HRs.out 0).trans rfl
  have hr1:=(blk_cell HRs.out 1).trans rfl
  have hr2:=(blk_cell HRs.out 2).trans rfl
  have hf0:=blk_frozen HRs.out 0
  have hf1:=blk_frozen HRs.out 1
  have hf2:=blk_frozen HRs.out 2
  by_cases q1 : u1 = 1
  ·have d1 : (u1 != 1) = false:=bne_eq_false_iff_eq.mpr q1
   by_cases q2 : u3 = (l0.length : Int)
   ·have d2 : (u3 != (l0.length : Int)) = false:=bne_eq_false_iff_eq.mpr q2
    have Q12:=Aside0.mk (And.intro q1 q2)
    clear q1 q2
    cases b4 with
    | true =>
     have H:=HH.out
     rw [if_neg (by simp)] at H
     obtain ⟨rfl,rfl,rfl,rfl⟩ : r1 = [] ∧ r2 = [] ∧ r3 = [] ∧ r4 = 2:=by simpa [eq_comm] using H
     go_wp2
     refine bodyPost_ret (results_list rfl (by simp) (.cell w.heap.size 26 #[.slice none 0 0,.slice none 0 0,.slice none 0 0] (0,0) _ rfl (blk_put (blk_put (blk_put HRs.out 0 _ rfl) 1 _ rfl) 2 _ rfl) hu26 rfl (by kernel_rfl) (.tmp .nil))) rfl ⟨_,_,_,rfl,Kd.S_nil _ _ _ _ _,Kd.R_nil _ _ _ _ _,Kd.R_nil _ _ _ _ _,below_set (below_set (below_set HBA.out (Nat.le_refl _)) (Nat.le_refl _)) (Nat.le_refl _)⟩
    | false =>
     cases l4 with
     | nil =>
      go_wp2_with fail
      have H:=HH.out
      rw [if_pos (by simpa using Q12.out)] at H
      obtain ⟨e,hV,H⟩:=Option.bind_eq_some_iff.1 H
      refine (timetable_Validate.calls k _ _ t1 _ _ t2 _ _ t3 e _ (Kd.C_alloc HZ.out _) HlZ.out (Kd.C_alloc HP.out _) HlP.out (Kd.C_alloc HF.out _) HlF.out hV).mono ?_
      rintro e_ w3 ⟨rfl,hb3⟩
      have HB3:=Aside0.mk (below_step HBA.out hb3)
      have HR3:=Aside0.mk (blk_below HRs.out hb3)
      have HN3:=Aside0.mk (blk_below HN.out hb3)
      have HB3':=Aside0.mk hb3
      have hr0:=(blk_cell HR3.out 0).trans rfl
      have hr1:=(blk_cell HR3.out 1).trans rfl
      have hr2:=(blk_cell HR3.out 2).trans rfl
      have hf0:=blk_frozen HR3.out 0
      have hf1:=blk_frozen HR3.out 1
      have hf2:=blk_frozen HR3.out 2
      have hn0:=(blk_cell HN3.out 0).trans rfl
      have hn1:=(blk_cell HN3.out 1).trans rfl
      have hn2:=(blk_cell HN3.out 2).trans rfl
      clear hb3
      by_cases he : e = 0
      ·have d5 : (e != 0) = false:=bne_eq_false_iff_eq.mpr he
       rw [if_pos he] at H
       obtain ⟨rfl,rfl,rfl,rfl⟩ : t1 = r1 ∧ t2 = r2 ∧ t3 = r3 ∧ 0 = r4:=by simpa using H
       go_wp2
       refine bodyPost_ret (results_list rfl (by simp) (.cell w.heap.size 26 #[.slice Az t1.length cz,.slice Ap t2.length cp,.slice Af t3.length cf] (0,0) _ rfl (blk_put (blk_put (blk_put HR3.out 0 _ rfl) 1 _ rfl) 2 _ rfl) hu26 rfl (by kernel_rfl) (.tmp .nil))) rfl ⟨_,_,_,rfl,?_,?_,?_,below_set (below_set (below_set HB3.out (Nat.le_refl _)) (Nat.le_refl _)) (Nat.le_refl _)⟩
       ·exact Kd.S_mono (Kd.S_set (Kd.S_set (Kd.S_set (Kd.S_lower (Kd.S_below (Kd.S_alloc HS.out _) HB3'.out) (Nat.le_trans HB1.out.size (by simp))) HR3.out (by decide) 0 _) (blk_put HR3.out 0 _ rfl) (by decide) 1 _) (blk_put (blk_put HR3.out 0 _ rfl) 1 _ rfl) (by decide) 2 _) (fun _ _=>trivial)
       ·exact Kd.R_mono (Kd.R_set (Kd.R_set (Kd.R_set (Kd.R_lower (Kd.R_below (Kd.R_alloc HR1.out _) HB3'.out) (Nat.le_trans HB1.out.size (by simp))) HR3.out (by decide) 0 _) (blk_put HR3.out 0 _ rfl) (by decide) 1 _) (blk_put (blk_put HR3.out 0 _ rfl) 1 _ rfl) (by decide) 2 _) (fun _ _=>trivial)
       ·exact Kd.R_mono (Kd.R_set (Kd.R_set (Kd.R_set (Kd.R_lower (Kd.R_below (Kd.R_alloc HR2.out _) HB3'.out) (Nat.le_trans HB1.out.size (by simp))) HR3.out (by decide) 0 _) (blk_put HR3.out 0 _ rfl) (by decide) 1 _) (blk_put (blk_put HR3.out 0 _ rfl) 1 _ rfl) (by decide) 2 _) (fun _ _=>trivial)
      ·have d5 : (e != 0) = true:=bne_iff_ne.mpr he
       rw [if_neg he] at H
       obtain ⟨rfl,rfl,rfl,rfl⟩ : r1 = [] ∧ r2 = [] ∧ r3 = [] ∧ r4 = e:=by simpa [eq_comm] using H
       go_wp2
       refine bodyPost_ret (results_list rfl (by simp) (.cell w.heap.size 26 #[.slice none 0 0,.slice none 0 0,.slice none 0 0] (0,0) _ rfl (blk_put (blk_put (blk_put HR3.out 0 _ rfl) 1 _ rfl) 2 _ rfl) hu26 rfl (by kernel_rfl) (.tmp .nil))) rfl ⟨_,_,_,rfl,Kd.S_nil _ _ _ _ _,Kd.R_nil _ _ _ _ _,Kd.R_nil _ _ _ _ _,below_set (below_set (below_set HB3.out (Nat.le_refl _)) (Nat.le_refl _)) (Nat.le_refl _)⟩
     | cons a l4 =>
      have H:=HH.out
      rw [if_neg (by simp)] at H
      obtain ⟨rfl,rfl,rfl,rfl⟩ : r1 = [] ∧ r2 = [] ∧ r3 = [] ∧ r4 = 2:=by simpa [eq_comm] using H
      go_wp2
      refine bodyPost_ret (results_list rfl (by simp) (.cell w.heap.size 26 #[.slice none 0 0,.slice none 0 0,.slice none 0 0] (0,0) _ rfl (blk_put (blk_put (blk_put HRs.out 0 _ rfl) 1 _ rfl) 2 _ rfl) hu26 rfl (by kernel_rfl) (.tmp .nil))) rfl ⟨_,_,_,rfl,Kd.S_nil _ _ _ _ _,Kd.R_nil _ _ _ _ _,Kd.R_nil _ _ _ _ _,below_set (below_set (below_set HBA.out (Nat.le_refl _)) (Nat.le_refl _)) (Nat.le_refl _)⟩
   ·have d2 : (u3 != (l0.length : Int)) = true:=bne_iff_ne.mpr q2
    have H:=HH.out
    rw [if_neg (fun h=>q2 h.2.1)] at H
    obtain ⟨rfl,rfl,rfl,rfl⟩ : r1 = [] ∧ r2 = [] ∧ r3 = [] ∧ r4 = 2:=by simpa [eq_comm] using H
    go_wp2
    refine bodyPost_ret (results_list rfl (by simp) (.cell w.heap.size 26 #[.slice none 0 0,.slice none 0 0,.slice none 0 0] (0,0) _ rfl (blk_put (blk_put (blk_put HRs.out 0 _ rfl) 1 _ rfl) 2 _ rfl) hu26 rfl (by kernel_rfl) (.tmp .nil))) rfl ⟨_,_,_,rfl,Kd.S_nil _ _ _ _ _,Kd.R_nil _ _ _ _ _,Kd.R_nil _ _ _ _ _,below_set (below_set (below_set HBA.out (Nat.le_refl _)) (Nat.le_refl _)) (Nat.le_refl _)⟩
  ·have d1 : (u1 != 1) = true:=bne_iff_ne.mpr q1
   have H:=HH.out
   rw [if_neg (fun h=>q1 h.1)] at H
   obtain ⟨rfl,rfl,rfl,rfl⟩ : r1 = [] ∧ r2 = [] ∧ r3 = [] ∧ r4 = 2:=by simpa [eq_comm] using H
   go_wp2
   refine bodyPost_ret (results_list rfl (by simp) (.cell w.heap.size 26 #[.slice none 0 0,.slice none 0 0,.slice none 0 0] (0,0) _ rfl (blk_put (blk_put (blk_put HRs.out 0 _ rfl) 1 _ rfl) 2 _ rfl) hu26 rfl (by kernel_rfl) (.tmp .nil))) rfl ⟨_,_,_,rfl,Kd.S_nil _ _ _ _ _,Kd.R_nil _ _ _ _ _,Kd.R_nil _ _ _ _ _,below_set (below_set (below_set HBA.out (Nat.le_refl _)) (Nat.le_refl _)) (Nat.le_refl _)⟩
 ·have H2:=H
  rw [if_neg hu4] at H2
  have c4 : (u4 != 0) = true:=bne_iff_ne.mpr hu4
  obtain ⟨rfl,rfl,rfl,rfl⟩ : r1 = [] ∧ r2 = [] ∧ r3 = [] ∧ r4 = u4:=by simpa [eq_comm] using H2
  have hr0:=(blk_cell HBK.out 0).trans rfl
  have hr1:=(blk_cell HBK.out 1).trans rfl
  have hr2:=(blk_cell HBK.out 2).trans rfl
  have hf0:=blk_frozen HBK.out 0
  have hf1:=blk_frozen HBK.out 1
  have hf2:=blk_frozen HBK.out 2
  clear H H2
  go_wp2
  refine bodyPost_ret (results_list rfl (by simp) (.cell w.heap.size 26 #[.slice none 0 0,.slice none 0 0,.slice none 0 0] (0,0) _ rfl (blk_put (blk_put (blk_put HBK.out 0 _ rfl) 1 _ rfl) 2 _ rfl) hu26 rfl (by kernel_rfl) (.tmp .nil))) rfl ⟨_,_,_,rfl,Kd.S_nil _ _ _ _ _,Kd.R_nil _ _ _ _ _,Kd.R_nil _ _ _ _ _,below_set (below_set (below_set HB1.out (Nat.le_refl _)) (Nat.le_refl _)) (Nat.le_refl _)⟩
end Go.Proofs.Ytepnddmalheoiaa.Q
namespace Go.Proofs.Ytepnddmalheoiaa.Q
open Go.Proofs.Ytepnddmalheoiaa.H Go.Proofs.Ytepnddmalheoiaa.WireA Go.Proofs.Ytepnddmalheoiaa.WireC Go.Proofs.Ytepnddmalheoiaa.Cod
open Go.RowKit Go.Proofs.YtepnddmalheoiaaW.PrintWords Go.Proofs.YtepnddmalheoiaaW.PrintLast Go.Proofs.YtepnddmalheoiaaW.PrintMore
set_option linter.unusedVariables false
set_option linter.unusedSimpArgs false
def U62 (x : Int) : Prop:=0 ≤ x ∧ x ≤ 4611686018427387904
def I61 (x : Int) : Prop:=-2305843009213693952 ≤ x ∧ x ≤ 2305843009213693952
def T20 (s : ByteArray) : Prop:=s.size ≤ 20000
def shiftL (s : S44) : List Int:=enc s.f0 ++ enc (zig s.f1)
def shiftsL : List S44 → List Int
 | []=>[]
 | s :: t=>shiftL s ++ shiftsL t
def zoneL (z : S42) : List Int:=textF z.f0 ++ (enc (zig z.f1) ++ (enc (z.f2.length : Int) ++ shiftsL z.f2))
def zonesL : List S42 → List Int
 | []=>[]
 | z :: t=>zoneL z ++ zonesL t
def portsL : List S39 → List Int
 | []=>[]
 | p :: t=>textF p.f0 ++ (textF p.f1 ++ portsL t)
def flightL (f : S36) : List Int:=textF f.f0 ++ (textF f.f1 ++ (textF f.f2 ++ (enc f.f3 ++ (enc f.f4 ++ (textF f.f5 ++ (enc f.f6.f0 ++ (enc f.f6.f1 ++ enc f.f6.f2)))))))
def flightsL : List S36 → List Int
 | []=>[]
 | f :: t=>flightL f ++ flightsL t
def bodyL (zs : List S42) (ps : List S39) (fs : List S36) : List Int:=enc (zs.length : Int) ++ (zonesL zs ++ (enc (ps.length : Int) ++ (portsL ps ++ (enc (fs.length : Int) ++ flightsL fs))))
def OkShift (s : S44) : Prop:=U62 s.f0 ∧ I61 s.f1
def OkZone (z : S42) : Prop:=T20 z.f0 ∧ I61 z.f1 ∧ z.f2.length ≤ 16 ∧ ∀ s ∈ z.f2,OkShift s
def OkPort (p : S39) : Prop:=T20 p.f0 ∧ T20 p.f1
def OkFlight (f : S36) : Prop:=T20 f.f0 ∧ T20 f.f1 ∧ T20 f.f2 ∧ U62 f.f3 ∧ U62 f.f4 ∧ T20 f.f5 ∧ U62 f.f6.f0 ∧ U62 f.f6.f1 ∧ U62 f.f6.f2
structure OkT (zs : List S42) (ps : List S39) (fs : List S36) : Prop where
 zl : zs.length ≤ 16
 pl : ps.length ≤ 64
 fl : fs.length ≤ 200
 z : ∀ z ∈ zs,OkZone z
 p : ∀ p ∈ ps,OkPort p
 f : ∀ f ∈ fs,OkFlight f
theorem texts1 (k : Nat) (hk : 13 ≤ k) (a : ByteArray) (ha : T20 a) : textsF k [a] = some (textF a):=by
 simp only [textsF];rw [text_enc k (by omega) a ha];simp
theorem texts2 (k : Nat) (hk : 13 ≤ k) (a b : ByteArray) (ha : T20 a) (hb : T20 b) : textsF k [a,b] = some (textF a ++ textF b):=by
 simp only [textsF];rw [text_enc k (by omega) a ha,text_enc k (by omega) b hb];simp
theorem texts3 (k : Nat) (hk : 13 ≤ k) (a b c : ByteArray) (ha : T20 a) (hb : T20 b) (hc : T20 c) : textsF k [a,b,c] = some (textF a ++ (textF b ++ textF c)):=by
 simp only [textsF];rw [text_enc k (by omega) a ha,text_enc k (by omega) b hb,text_enc k (by omega) c hc];simp
theorem shifts_w (k : Nat) (hk : 13 ≤ k) (l : List S44) : (∀ s ∈ l,OkShift s) → shiftsF k l = some (shiftsL l):=by
 induction l with
 | nil=>intro _;rfl
 | cons s t ih =>
  intro h
  obtain ⟨h1,h2⟩:=h s List.mem_cons_self
  simp only [shiftsF]
  rw [enc_wire k (by omega) _ h1.1 h1.2,int_enc k hk _ h2,ih (fun x hx=>h x (List.mem_cons_of_mem _ hx))]
  simp [shiftsL,shiftL]
theorem zones_w (k : Nat) (hk : 13 ≤ k) (l : List S42) : (∀ z ∈ l,OkZone z) → zonesF k l = some (zonesL l):=by
 induction l with
 | nil=>intro _;rfl
 | cons z t ih =>
  intro h
  obtain ⟨h1,h2,h3,h4⟩:=h z List.mem_cons_self
  simp only [zonesF]
  rw [texts1 k hk _ h1,int_enc k hk _ h2,enc_wire k (by omega) _ (by omega) (by omega),shifts_w k hk _ h4,ih (fun x hx=>h x (List.mem_cons_of_mem _ hx))]
  simp [zonesL,zoneL]
theorem ports_w (k : Nat) (hk : 13 ≤ k) (l : List S39) : (∀ p ∈ l,OkPort p) → portsF k l = some (portsL l):=by
 induction l with
 | nil=>intro _;rfl
 | cons p t ih =>
  intro h
  obtain ⟨h1,h2⟩:=h p List.mem_cons_self
  simp only [portsF]
  rw [texts2 k hk _ _ h1 h2,ih (fun x hx=>h x (List.mem_cons_of_mem _ hx))]
  simp [portsL]
theorem flights_w (k : Nat) (hk : 13 ≤ k) (l : List S36) : (∀ f ∈ l,OkFlight f) → flightsF k l = some (flightsL l):=by
 induction l with
 | nil=>intro _;rfl
 | cons f t ih =>
  intro h
  obtain ⟨h1,h2,h3,h4,h5,h6,h7,h8,h9⟩:=h f List.mem_cons_self
  simp only [flightsF,uintsF]
  rw [texts3 k hk _ _ _ h1 h2 h3,enc_wire k (by omega) _ h4.1 h4.2,enc_wire k (by omega) _ h5.1 h5.2,texts1 k hk _ h6,enc_wire k (by omega) _ h7.1 h7.2,enc_wire k (by omega) _ h8.1 h8.2,enc_wire k (by omega) _ h9.1 h9.2,ih (fun x hx=>h x (List.mem_cons_of_mem _ hx))]
  simp [flightsL,flightL]
theorem body_w (k : Nat) (hk : 13 ≤ k) (zs : List S42) (ps : List S39) (fs : List S36) (h : OkT zs ps fs) : bodyF k zs ps fs = some (bodyL zs ps fs):=by
 have a:=h.zl;have b:=h.pl;have c:=h.fl
 unfold bodyF
 rw [enc_wire k (by omega) _ (by omega) (by omega),zones_w k hk _ h.z,enc_wire k (by omega) _ (by omega) (by omega),ports_w k hk _ h.p,enc_wire k (by omega) _ (by omega) (by omega),flights_w k hk _ h.f]
 simp [bodyL]
def BL (l : List Int) : Prop:=(∀ c ∈ l,0 ≤ c ∧ c ≤ 255) ∧ l.length ≤ 1099511627776
theorem BL.right {a b : List Int} (h : BL (a ++ b)) : BL b:=⟨fun c hc=>h.1 c (List.mem_append_right _ hc),by have:=h.2;rw [List.length_append] at this;omega⟩
theorem rd_text (s : ByteArray) (m : List Int) (hs : T20 s) (hm : BL m) : timetable_reader_text.f (textF s ++ m,false) = some (s,(m,false)):=by
 unfold timetable_reader_text.f
 rw [text_dec s m hs hm.1 hm.2]
 simp [takeF]
theorem rd_int (x : Int) (m : List Int) (hx : I61 x) (hm : BL m) : timetable_reader_int.f (enc (zig x) ++ m,false) = some (x,(m,false)):=by
 unfold timetable_reader_int.f
 rw [int_dec x m hx hm.1]
 simp [takeF]
theorem rd_uint (x : Int) (m : List Int) (hx : U62 x) : timetable_reader_uint.f (enc x ++ m,false) = some (x,(m,false)):=by
 unfold timetable_reader_uint.f
 rw [decL_enc x m hx.1 hx.2]
 simp [takeF]
theorem rd_count (x a : Int) (m : List Int) (hx : U62 x) (ha : x ≤ a) : timetable_reader_count.f (enc x ++ m,false) a = some (x,(m,false)):=by
 unfold timetable_reader_count.f
 rw [rd_uint x m hx,Option.bind_some]
 simp only [Bool.false_eq_true,if_false]
 rw [if_neg (by omega)]
theorem wn (x : Int) (h0 : 0 ≤ x) (h1 : x < 1000) : wrap64 (x + 1) = x + 1:=by unfold wrap64;omega
theorem r_l1 (sh : List S44) : ∀ (k : Nat) (x8 x9 x17 x18 : Int) (m : List Int) (zs : List S42) (a : ByteArray) (b : Int) (acc : List S44),0 ≤ x18 → x18 + sh.length = x17 → x17 ≤ 16 → 0 ≤ x9 → x9 < 100 → zs.length < 100 → acc.length ≤ 16 → BL (shiftsL sh ++ m) → (∀ s ∈ sh,OkShift s) → (acc.length : Int) = x18 →
  timetable_reader_timetable.l1 (sh.length + 1 + k) x8 x9 x17 x18 (shiftsL sh ++ m,false) zs a b acc = timetable_reader_timetable.l0 k x8 (x9 + 1) (m,false) (zs ++ [⟨a,b,acc ++ sh⟩]):=by
 induction sh with
 | nil =>
  intro k x8 x9 x17 x18 m zs a b acc h0 h1 h2 h3 h4 h5 h6 hm hok ha
  rw [show ([] : List S44).length + 1 + k = k + 1 by simp;omega]
  conv=>lhs;unfold timetable_reader_timetable.l1
  simp only [List.length_nil] at h1
  rw [if_neg (by omega),if_pos (by omega),wn x9 h3 (by omega)]
  simp [shiftsL]
 | cons s t ih =>
  intro k x8 x9 x17 x18 m zs a b acc h0 h1 h2 h3 h4 h5 h6 hm hok ha
  obtain ⟨h7,h8⟩:=hok s List.mem_cons_self
  simp only [List.length_cons] at h1
  rw [show (s :: t).length + 1 + k = (t.length + 1 + k) + 1 by simp;omega]
  conv=>lhs;unfold timetable_reader_timetable.l1
  have e : shiftsL (s :: t) ++ m = enc s.f0 ++ (enc (zig s.f1) ++ (shiftsL t ++ m)):=by simp [shiftsL,shiftL]
  rw [e] at hm ⊢
  rw [if_pos (by omega),rd_uint _ _ h7,Option.bind_some]
  simp only
  rw [rd_int _ _ h8 hm.right.right,Option.bind_some]
  simp only
  rw [if_pos (by omega),wn x18 h0 (by omega),ih k x8 x9 x17 (x18 + 1) m zs a b _ (by omega) (by omega) h2 h3 h4 h5 (by simp;omega) hm.right.right (fun x hx=>hok x (List.mem_cons_of_mem _ hx)) (by simp;omega)]
  simp
def costZ : List S42 → Nat
 | []=>0
 | z :: t=>(z.f2.length + 2) + costZ t
theorem r_l0 (zs : List S42) : ∀ (k : Nat) (x8 x9 np : Int) (m : List Int) (acc : List S42),0 ≤ x9 → x9 + zs.length = x8 → x8 ≤ 16 → acc.length ≤ 16 → (acc.length : Int) = x9 → U62 np → np ≤ 64 → BL (zonesL zs ++ (enc np ++ m)) → (∀ z ∈ zs,OkZone z) →
  timetable_reader_timetable.l0 (costZ zs + 1 + k) x8 x9 (zonesL zs ++ (enc np ++ m),false) acc = timetable_reader_timetable.l2 k np 0 (m,false) (acc ++ zs) []:=by
 induction zs with
 | nil =>
  intro k x8 x9 np m acc h0 h1 h2 h3 ha hn hn2 hm hok
  rw [show costZ [] + 1 + k = k + 1 by simp [costZ];omega]
  conv=>lhs;unfold timetable_reader_timetable.l0
  simp only [List.length_nil] at h1
  rw [if_neg (by omega)]
  simp only [zonesL,List.nil_append]
  rw [rd_count _ _ _ hn hn2,Option.bind_some]
  simp
 | cons z t ih =>
  intro k x8 x9 np m acc h0 h1 h2 h3 ha hn hn2 hm hok
  obtain ⟨h4,h5,h6,h7⟩:=hok z List.mem_cons_self
  simp only [List.length_cons] at h1
  rw [show costZ (z :: t) + 1 + k = (z.f2.length + 1 + (costZ t + 1 + k)) + 1 by simp only [costZ];omega]
  conv=>lhs;unfold timetable_reader_timetable.l0
  have e : zonesL (z :: t) ++ (enc np ++ m) = textF z.f0 ++ (enc (zig z.f1) ++ (enc (z.f2.length : Int) ++ (shiftsL z.f2 ++ (zonesL t ++ (enc np ++ m))))):=by simp [zonesL,zoneL]
  rw [e] at hm ⊢
  rw [if_pos (by omega),rd_text _ _ h4 hm.right,Option.bind_some]
  simp only
  rw [rd_int _ _ h5 hm.right.right,Option.bind_some]
  simp only
  rw [rd_count _ 16 _ ⟨by omega,by omega⟩ (by omega),Option.bind_some]
  simp only
  rw [r_l1 z.f2 _ x8 x9 _ 0 _ acc _ _ [] (by omega) (by omega) (by omega) h0 (by omega) (by omega) (by simp) hm.right.right.right h7 rfl]
  simp only [List.nil_append]
  rw [ih k x8 (x9 + 1) np m _ (by omega) (by omega) h2 (by simp;omega) (by simp;omega) hn hn2 hm.right.right.right.right (fun x hx=>hok x (List.mem_cons_of_mem _ hx))]
  simp
theorem r_l2 (ps : List S39) : ∀ (k : Nat) (x39 x40 nf : Int) (m : List Int) (zs : List S42) (acc : List S39),0 ≤ x40 → x40 + ps.length = x39 → x39 ≤ 64 → (acc.length : Int) = x40 → U62 nf → nf ≤ 200 → BL (portsL ps ++ (enc nf ++ m)) → (∀ p ∈ ps,OkPort p) →
  timetable_reader_timetable.l2 (ps.length + 1 + k) x39 x40 (portsL ps ++ (enc nf ++ m),false) zs acc = timetable_reader_timetable.l3 k nf 0 (m,false) zs (acc ++ ps) []:=by
 induction ps with
 | nil =>
  intro k x39 x40 nf m zs acc h0 h1 h2 ha hn hn2 hm hok
  rw [show ([] : List S39).length + 1 + k = k + 1 by simp;omega]
  conv=>lhs;unfold timetable_reader_timetable.l2
  simp only [List.length_nil] at h1
  rw [if_neg (by omega)]
  simp only [portsL,List.nil_append]
  rw [rd_count _ _ _ hn hn2,Option.bind_some]
  simp
 | cons p t ih =>
  intro k x39 x40 nf m zs acc h0 h1 h2 ha hn hn2 hm hok
  obtain ⟨h4,h5⟩:=hok p List.mem_cons_self
  simp only [List.length_cons] at h1
  rw [show (p :: t).length + 1 + k = (t.length + 1 + k) + 1 by simp;omega]
  conv=>lhs;unfold timetable_reader_timetable.l2
  have e : portsL (p :: t) ++ (enc nf ++ m) = textF p.f0 ++ (textF p.f1 ++ (portsL t ++ (enc nf ++ m))):=by simp [portsL]
  rw [e] at hm ⊢
  rw [if_pos (by omega),rd_text _ _ h4 hm.right,Option.bind_some]
  simp only
  rw [rd_text _ _ h5 hm.right.right,Option.bind_some]
  simp only
  rw [if_pos (by omega),wn x40 h0 (by omega),ih k x39 (x40 + 1) nf m zs _ (by omega) (by omega) h2 (by simp;omega) hn hn2 hm.right.right (fun x hx=>hok x (List.mem_cons_of_mem _ hx))]
  simp
theorem r_l4 (k : Nat) (x54 x55 : Int) (m : List Int) (zs : List S42) (ps : List S39) (acc : List S36) (a b c : ByteArray) (d e : Int) (g : ByteArray) (n0 n1 n2 : Int) (h0 : U62 n0) (h1 : U62 n1) (h2 : U62 n2) (h3 : 0 ≤ x55) (h4 : x55 < 300) (h5 : acc.length < 300) :
  timetable_reader_timetable.l4 (k + 4) x54 x55 0 (enc n0 ++ (enc n1 ++ (enc n2 ++ m)),false) zs ps acc a b c d e g 0 0 0 = timetable_reader_timetable.l3 k x54 (x55 + 1) (m,false) zs ps (acc ++ [⟨a,b,c,d,e,g,⟨n0,n1,n2⟩⟩]):=by
 have w01 : wrap64 (0 + 1) = 1:=by unfold wrap64;omega
 have w12 : wrap64 (1 + 1) = 2:=by unfold wrap64;omega
 have w23 : wrap64 (2 + 1) = 3:=by unfold wrap64;omega
 conv=>lhs;unfold timetable_reader_timetable.l4
 rw [if_pos (by omega),rd_uint _ _ h0,Option.bind_some,if_pos (by omega),if_pos rfl,w01]
 conv=>lhs;unfold timetable_reader_timetable.l4
 simp only
 rw [if_pos (by omega),rd_uint _ _ h1,Option.bind_some,if_pos (by omega),if_neg (by omega),if_pos trivial,w12]
 conv=>lhs;unfold timetable_reader_timetable.l4
 simp only
 rw [if_pos (by omega),rd_uint _ _ h2,Option.bind_some,if_pos (by omega),if_neg (by omega),if_neg (by omega),if_pos trivial,w23]
 conv=>lhs;unfold timetable_reader_timetable.l4
 rw [if_neg (by omega),if_pos (by omega),wn x55 h3 (by omega)]
theorem r_l3 (fs : List S36) : ∀ (k : Nat) (x54 x55 : Int) (m : List Int) (zs : List S42) (ps : List S39) (acc : List S36),0 ≤ x55 → x55 + fs.length = x54 → x54 ≤ 200 → (acc.length : Int) = x55 → BL (flightsL fs ++ m) → (∀ f ∈ fs,OkFlight f) →
  timetable_reader_timetable.l3 (5 * fs.length + 1 + k) x54 x55 (flightsL fs ++ m,false) zs ps acc = some (zs,ps,acc ++ fs,(m,false)):=by
 induction fs with
 | nil =>
  intro k x54 x55 m zs ps acc h0 h1 h2 ha hm hok
  rw [show 5 * ([] : List S36).length + 1 + k = k + 1 by simp;omega]
  conv=>lhs;unfold timetable_reader_timetable.l3
  simp only [List.length_nil] at h1
  rw [if_neg (by omega)]
  simp [flightsL]
 | cons f t ih =>
  intro k x54 x55 m zs ps acc h0 h1 h2 ha hm hok
  obtain ⟨h3,h4,h5,h6,h7,h8,h9,h10,h11⟩:=hok f List.mem_cons_self
  simp only [List.length_cons] at h1
  rw [show 5 * (f :: t).length + 1 + k = ((5 * t.length + 1 + k) + 4) + 1 by simp;omega]
  conv=>lhs;unfold timetable_reader_timetable.l3
  have e : flightsL (f :: t) ++ m = textF f.f0 ++ (textF f.f1 ++ (textF f.f2 ++ (enc f.f3 ++ (enc f.f4 ++ (textF f.f5 ++ (enc f.f6.f0 ++ (enc f.f6.f1 ++ (enc f.f6.f2 ++ (flightsL t ++ m))))))))):=by simp [flightsL,flightL]
  rw [e] at hm ⊢
  rw [if_pos (by omega),rd_text _ _ h3 hm.right,Option.bind_some]
  simp only
  rw [rd_text _ _ h4 hm.right.right,Option.bind_some]
  simp only
  rw [rd_text _ _ h5 hm.right.right.right,Option.bind_some]
  simp only
  rw [rd_uint _ _ h6,Option.bind_some]
  simp only
  rw [rd_uint _ _ h7,Option.bind_some]
  simp only
  rw [rd_text _ _ h8 hm.right.right.right.right.right.right,Option.bind_some]
  simp only
  rw [r_l4 _ x54 x55 _ zs ps acc _ _ _ _ _ _ _ _ _ h9 h10 h11 h0 (by omega) (by omega),ih k x54 (x55 + 1) m zs ps _ (by omega) (by omega) h2 (by simp;omega) hm.right.right.right.right.right.right.right.right.right (fun x hx=>hok x (List.mem_cons_of_mem _ hx))]
  simp
theorem costZ_le (zs : List S42) (h : ∀ z ∈ zs,OkZone z) : costZ zs ≤ 18 * zs.length:=by
 induction zs with
 | nil=>simp [costZ]
 | cons z t ih =>
  have:=(h z List.mem_cons_self).2.2.1
  have:=ih (fun x hx=>h x (List.mem_cons_of_mem _ hx))
  simp only [costZ,List.length_cons];omega
theorem read_back (k : Nat) (hk : 1500 ≤ k) (zs : List S42) (ps : List S39) (fs : List S36) (h : OkT zs ps fs) (hb : BL (bodyL zs ps fs)) : timetable_reader_timetable.f k (bodyL zs ps fs,false) = some (zs,ps,fs,([],false)):=by
 have a:=h.zl;have b:=h.pl;have c:=h.fl
 have hc:=costZ_le zs h.z
 unfold timetable_reader_timetable.f
 unfold bodyL at hb ⊢
 rw [rd_count _ 16 _ ⟨by omega,by omega⟩ (by omega),Option.bind_some]
 simp only
 obtain ⟨j,rfl⟩ : ∃ j,k = costZ zs + 1 + (ps.length + 1 + (5 * fs.length + 1 + j)):=⟨k - (costZ zs + 1 + (ps.length + 1 + (5 * fs.length + 1))),by omega⟩
 have hb1:=hb.right
 rw [r_l0 zs _ _ 0 _ _ [] (by omega) (by omega) (by omega) (by simp) rfl ⟨by omega,by omega⟩ (by omega) hb1 h.z]
 simp only [List.nil_append]
 rw [r_l2 ps _ _ 0 _ _ zs [] (by omega) (by omega) (by omega) rfl ⟨by omega,by omega⟩ (by omega) hb1.right.right h.p]
 have hb2 : BL (flightsL fs ++ []):=by rw [List.append_nil];exact hb1.right.right.right.right
 have:=r_l3 fs j (fs.length : Int) 0 [] zs ([] ++ ps) [] (by omega) (by omega) (by omega) rfl hb2 h.f
 rw [List.append_nil] at this
 rw [this]
 simp
end Go.Proofs.Ytepnddmalheoiaa.Q
namespace Go.Proofs.Ytepnddmalheoiaa.Q
open Go.Proofs.Ytepnddmalheoiaa.H Go.Proofs.Ytepnddmalheoiaa.WireA Go.Proofs.Ytepnddmalheoiaa.WireC Go.Proofs.Ytepnddmalheoiaa.Cod
open Go.RowKit Go.Proofs.YtepnddmalheoiaaW.PrintWords Go.Proofs.YtepnddmalheoiaaW.PrintLast Go.Proofs.YtepnddmalheoiaaW.PrintMore
set_option linter.unusedVariables false
set_option linter.unusedSimpArgs false
def By (l : List Int) : Prop:=∀ c ∈ l,0 ≤ c ∧ c ≤ 255
theorem By.app {a b : List Int} (h : By a) (g : By b) : By (a ++ b):=fun c hc=>(List.mem_append.1 hc).elim (h c) (g c)
theorem By.nil : By []:=fun c hc=>by cases hc
theorem by_u {x : Int} (h : U62 x) : By (enc x):=enc_bytes x h.1 h.2
theorem by_i {x : Int} (h : I61 x) : By (enc (zig x)):=by obtain ⟨a,b⟩:=zig_range x h;exact enc_bytes _ a b
theorem by_t {s : ByteArray} (h : T20 s) : By (textF s):=text_bytes s h
theorem by_shifts (l : List S44) : (∀ s ∈ l,OkShift s) → By (shiftsL l):=by
 induction l with
 | nil=>intro _;exact By.nil
 | cons s t ih =>
  intro h
  obtain ⟨a,b⟩:=h s List.mem_cons_self
  exact ((by_u a).app (by_i b)).app (ih fun x hx=>h x (List.mem_cons_of_mem _ hx))
theorem by_zones (l : List S42) : (∀ s ∈ l,OkZone s) → By (zonesL l):=by
 induction l with
 | nil=>intro _;exact By.nil
 | cons s t ih =>
  intro h
  obtain ⟨a,b,c,d⟩:=h s List.mem_cons_self
  exact ((by_t a).app ((by_i b).app ((by_u ⟨by omega,by omega⟩).app (by_shifts _ d)))).app (ih fun x hx=>h x (List.mem_cons_of_mem _ hx))
theorem by_ports (l : List S39) : (∀ s ∈ l,OkPort s) → By (portsL l):=by
 induction l with
 | nil=>intro _;exact By.nil
 | cons s t ih =>
  intro h
  obtain ⟨a,b⟩:=h s List.mem_cons_self
  exact (by_t a).app ((by_t b).app (ih fun x hx=>h x (List.mem_cons_of_mem _ hx)))
theorem by_flights (l : List S36) : (∀ s ∈ l,OkFlight s) → By (flightsL l):=by
 induction l with
 | nil=>intro _;exact By.nil
 | cons s t ih =>
  intro h
  obtain ⟨a,b,c,d,e,f,g,i,j⟩:=h s List.mem_cons_self
  exact By.app ((by_t a).app ((by_t b).app ((by_t c).app ((by_u d).app ((by_u e).app ((by_t f).app ((by_u g).app ((by_u i).app (by_u j))))))))) (ih fun x hx=>h x (List.mem_cons_of_mem _ hx))
theorem by_body {zs : List S42} {ps : List S39} {fs : List S36} (h : OkT zs ps fs) : By (bodyL zs ps fs):=by
 have a:=h.zl;have b:=h.pl;have c:=h.fl
 exact (by_u ⟨by omega,by omega⟩).app ((by_zones _ h.z).app ((by_u ⟨by omega,by omega⟩).app ((by_ports _ h.p).app ((by_u ⟨by omega,by omega⟩).app (by_flights _ h.f)))))
theorem decode_err (k : Nat) (l : List Int) (e : Int) (hb : By l) (hl : l.length < 140737488355328) (he : (unf l).2.2.2 = e) (h0 : e ≠ 0) : timetable_Decode.f k l = some ([],[],[],e):=by
 unfold timetable_Decode.f
 rw [unf_yes l hb hl,Option.bind_some,he,if_neg h0]
theorem kind_set (t : Int) (l : List Int) (c : Int) (hl : l.length ≤ 1048576) (ht : 0 ≤ t ∧ t ≤ 255) (hb : By l) (hc : 0 ≤ c ∧ c ≤ 255) (hne : c ≠ t) : (unf ((frameF t l).set 0 c)).2.2.2 = 4:=by
 have hh:=head_bytes t l ht hb hl
 have hS:=sum_range _ hh
 have hset : (frameF t l).set 0 c = c :: (enc (l.length : Int) ++ (l ++ sum4 (crcSum (headF t l)))):=rfl
 rw [hset,unf_of c l.length _ hl (by simp [sum4]),List.drop_left,List.take_left]
 rw [show (sum4 (crcSum (headF t l))).take 4 = sum4 (crcSum (headF t l)) from rfl,be_sum4 _ hS]
 have hx:=sum_set (headF t l) 0 c (by simp [headF]) hc hh (by simpa [headF] using hne)
 rw [if_pos (show crcSum (headF t l) ≠ crcSum (c :: (enc (l.length : Int) ++ l)) from fun e=>hx e.symm)]
theorem enc_short (x : Int) (h : x < 16384) : (enc x).length ≤ 2:=by
 unfold enc encF
 split
 ·unfold encF
  rw [if_neg (by omega)];simp
 ·simp
theorem encode_yes (k : Nat) (hk : 1100 ≤ k) (hk2 : k ≤ 4611686018427387904) (zs : List S42) (ps : List S39) (fs : List S36) (h : OkT zs ps fs) (hv : timetable_Validate.f k zs ps fs = some 0) (hl : (bodyL zs ps fs).length ≤ 1048576) : timetable_Encode.f k zs ps fs = some (frameF 1 (bodyL zs ps fs),0):=by
 unfold timetable_Encode.f
 rw [hv,body_w k (by omega) zs ps fs h]
 simp [frame_yes k (by omega) 1 (bodyL zs ps fs) (by omega) (by_body h) hl]
 omega
theorem decode_long (k : Nat) (hk : 1500 ≤ k) (zs : List S42) (ps : List S39) (fs : List S36) (h : OkT zs ps fs) (hl : (bodyL zs ps fs).length ≤ 1048576) (c : Int) (hc : 0 ≤ c ∧ c ≤ 255) : timetable_Decode.f k (frameF 1 (bodyL zs ps fs) ++ [c]) = some ([],[],[],2):=by
 have hb:=by_body h
 have hn:=frame_len 1 (bodyL zs ps fs)
 have he:=enc_len ((bodyL zs ps fs).length : Int)
 unfold timetable_Decode.f
 rw [unf_yes _ (By.app (frame_bytes 1 _ (by omega) hb hl) (fun x hx=>by rw [List.mem_singleton.1 hx];exact hc)) (by rw [List.length_append,List.length_singleton];omega),unframe_frame 1 _ [c] hl (by omega) hb,Option.bind_some]
 simp only
 rw [if_pos trivial,read_back k hk zs ps fs h ⟨hb,by omega⟩,Option.bind_some]
 simp only
 rw [if_neg (by rw [List.length_append,List.length_singleton];omega)]
end Go.Proofs.Ytepnddmalheoiaa.Q
namespace Go.Proofs.Ytepnddmalheoiaa.Q
open Go.Proofs.Ytepnddmalheoiaa.H
open Go.RowKit Go.Proofs.YtepnddmalheoiaaW.PrintWords Go.Proofs.YtepnddmalheoiaaW.PrintLast Go.Proofs.YtepnddmalheoiaaW.PrintMore
set_option linter.unusedVariables false
set_option linter.unusedSimpArgs false
def InI (x : Int) : Prop:=-9223372036854775808 ≤ x ∧ x ≤ 9223372036854775807
theorem inI_of {x : Int} (h : (Lit.int .i64 x).wf = true) : InI x:=bounds_i64 h
theorem o_int : Opens Try.prog 3 (Kd.int .i64) InI:=opens_mono (opens_int Try.underlying3) fun _ h=>inI_of h
theorem c_int : Try.prog.cellsOf 3 = 1:=by kernel_rfl
end Go.Proofs.Ytepnddmalheoiaa.Q
namespace Go.Proofs.Ytepnddmalheoiaa.Q
open Go.Proofs.Ytepnddmalheoiaa.H
open Go.RowKit Go.Proofs.YtepnddmalheoiaaW.PrintWords Go.Proofs.YtepnddmalheoiaaW.PrintLast Go.Proofs.YtepnddmalheoiaaW.PrintMore
attribute [local go_sem] str_leq str_geq str_gtr max2_int min2_int max_two min_two max_three min_three max_four min_four   -- for this text's walks alone
set_option linter.unusedVariables false
set_option linter.unusedSimpArgs false
def pairingbase_Zones.f  : Option ((List (S42))):=some (([(⟨(⟨#[117,116,99]⟩ : ByteArray),0,([] : List (S44))⟩ : S42),(⟨(⟨#[111,115,108,111]⟩ : ByteArray),60,(([(⟨1441500,120⟩ : S44),(⟨1444000,60⟩ : S44)] : List (S44)))⟩ : S42),(⟨(⟨#[121,111,114,107]⟩ : ByteArray),(-300),(([(⟨1442900,(-240)⟩ : S44)] : List (S44)))⟩ : S42)] : List (S42)))
set_option maxHeartbeats 8000000 in
set_option maxRecDepth 100000 in
theorem pairingbase_Zones.calls  (r : List (S42)) (w : World) (h : pairingbase_Zones.f  = some r) :
  Calls Try.prog 36 #[] w fun e w'=>∃ v0_ : Value,e = .returned (v0_) ∧ Kd.N k42 42 w' w.heap.size (fun k_=>(w.heap.size ≤ k_)) v0_ r ∧ Below w.heap.size w w':=by
 have hu42:=Try.underlying42
 have hu44:=Try.underlying44
 have HB:=Aside0.mk (Below.refl w.heap.size w)
 have H : (some (([(⟨(⟨#[117,116,99]⟩ : ByteArray),0,([] : List (S44))⟩ : S42),(⟨(⟨#[111,115,108,111]⟩ : ByteArray),60,(([(⟨1441500,120⟩ : S44),(⟨1444000,60⟩ : S44)] : List (S44)))⟩ : S42),(⟨(⟨#[121,111,114,107]⟩ : ByteArray),(-300),(([(⟨1442900,(-240)⟩ : S44)] : List (S44)))⟩ : S42)] : List (S42)))) = some r:=h
 clear h
 obtain ⟨y249,hy249⟩ : ∃ y_ : List (S44),y_ = (([(⟨1441500,120⟩ : S44),(⟨1444000,60⟩ : S44)] : List (S44))):=⟨_,rfl⟩
 replace H : (some (([(⟨(⟨#[117,116,99]⟩ : ByteArray),0,([] : List (S44))⟩ : S42),(⟨(⟨#[111,115,108,111]⟩ : ByteArray),60,y249⟩ : S42),(⟨(⟨#[121,111,114,107]⟩ : ByteArray),(-300),(([(⟨1442900,(-240)⟩ : S44)] : List (S44)))⟩ : S42)] : List (S42)))) = some r:=by first|(rw [hy249];with_reducible exact H)|(have H2_:=(Option.bind_some _ _).symm.trans H;rw [hy249];with_reducible exact H2_)|(have H2_:=(Option.bind_some _ _).symm.trans H;with_reducible exact H2_)|with_reducible exact H|(rw [hy249];exact H)|exact H
 have Ny249:=Aside0.mk hy249
 clear hy249
 obtain ⟨y252,hy252⟩ : ∃ y_ : List (S44),y_ = (([(⟨1442900,(-240)⟩ : S44)] : List (S44))):=⟨_,rfl⟩
 replace H : (some (([(⟨(⟨#[117,116,99]⟩ : ByteArray),0,([] : List (S44))⟩ : S42),(⟨(⟨#[111,115,108,111]⟩ : ByteArray),60,y249⟩ : S42),(⟨(⟨#[121,111,114,107]⟩ : ByteArray),(-300),y252⟩ : S42)] : List (S42)))) = some r:=by first|(rw [hy252];with_reducible exact H)|(have H2_:=(Option.bind_some _ _).symm.trans H;rw [hy252];with_reducible exact H2_)|(have H2_:=(Option.bind_some _ _).symm.trans H;with_reducible exact H2_)|with_reducible exact H|(rw [hy252];exact H)|exact H
 have Ny252:=Aside0.mk hy252
 clear hy252
 obtain ⟨y255,hy255⟩ : ∃ y_ : List (S42),y_ = (([(⟨(⟨#[117,116,99]⟩ : ByteArray),0,([] : List (S44))⟩ : S42),(⟨(⟨#[111,115,108,111]⟩ : ByteArray),60,y249⟩ : S42),(⟨(⟨#[121,111,114,107]⟩ : ByteArray),(-300),y252⟩ : S42)] : List (S42))):=⟨_,rfl⟩
 replace H : (some y255) = some r:=by first|(rw [hy255];with_reducible exact H)|(have H2_:=(Option.bind_some _ _).symm.trans H;rw [hy255];with_reducible exact H2_)|(have H2_:=(Option.bind_some _ _).symm.trans H;with_reducible exact H2_)|with_reducible exact H|(rw [hy255];exact H)|exact H
 have Ny255:=Aside0.mk hy255
 clear hy255
 obtain rfl:=Option.some.inj H
 go_enter Try.func36,Try.ntmps36
 go_wp2_with (first|((with_reducible refine gate_dst (N:=4) rfl ?_);refine Kd.R_lit k44 _ 44 ?hg (N:=4) ?hd (xs:=([(⟨1441500,120⟩ : S44),(⟨1444000,60⟩ : S44)] : List (S44))) (inner:=[.int .i64 1441500,.int .i64 120,.int .i64 1444000,.int .i64 60]) (ok:=fun _=>True) (okp:=fun _=>True) ?hr ?hp (fun _ hk=>hk) trivial (Below.refl _ _) (Nat.le_refl _) (by simp) ?_;(case hd=>rfl);(case hg=>rfl);(case hr=>first|(go_simp;done)|(go_simp;rfl));(case hp=>exact (Reps.c2 (show Kd.M k44 _ _ _ (⟨1441500,120⟩ : S44) [.int .i64 1441500,.int .i64 120] from (k44_mkM _ _ _ (⟨1441500,120⟩ : S44) )) (Reps.c2 (show Kd.M k44 _ _ _ (⟨1444000,60⟩ : S44) [.int .i64 1444000,.int .i64 60] from (k44_mkM _ _ _ (⟨1444000,60⟩ : S44) )) (Reps.none _ _))));intro v250 w1 ho2 hb hg_ hnew_;clear hg_ hnew_;(first|rw [← Ny249.out] at ho2|(simp only [Int.reduceToNat] at ho2;rw [← Ny249.out] at ho2));have n0_:=Aside0.mk (Kd.R_lower (Kd.R_newM (M:=fun k_=>(w.heap.size ≤ k_)) ho2 (below_size (by repeat (first|(with_reducible first|exact HB.out|apply below_alloc|apply pw_below_drewN|apply below_drew1)|exact HB.out))) (fun k_ h_=>h_)) (below_size (by repeat (first|(with_reducible first|exact HB.out|apply below_alloc|apply pw_below_drewN|apply below_drew1)|exact HB.out))));have n1_:=Aside0.mk (below_step (by repeat (first|(with_reducible first|exact HB.out|apply below_alloc|apply pw_below_drewN|apply below_drew1)|exact HB.out)) hb);clear HB;have HO251:=n0_;have HB:=n1_;clear n0_ n1_;clear hb ho2;obtain ⟨Ao3,co3,eo3⟩:=Kd.R_slice HO251.out;subst eo3)|((with_reducible refine gate_dst (N:=7) rfl ?_);refine Kd.R_lit k44 _ 44 ?hg (N:=7) ?hd (xs:=([(⟨1442900,(-240)⟩ : S44)] : List (S44))) (inner:=[.int .i64 1442900,.int .i64 (-240)]) (ok:=fun _=>True) (okp:=fun _=>True) ?hr ?hp (fun _ hk=>hk) trivial (Below.refl _ _) (Nat.le_refl _) (by simp) ?_;(case hd=>rfl);(case hg=>rfl);(case hr=>first|(go_simp;done)|(go_simp;rfl));(case hp=>exact (Reps.c2 (show Kd.M k44 _ _ _ (⟨1442900,(-240)⟩ : S44) [.int .i64 1442900,.int .i64 (-240)] from (k44_mkM _ _ _ (⟨1442900,(-240)⟩ : S44) )) (Reps.none _ _)));intro v253 w4 ho5 hb hg_ hnew_;clear hg_ hnew_;(first|rw [← Ny252.out] at ho5|(simp only [Int.reduceToNat] at ho5;rw [← Ny252.out] at ho5));have n0_:=Aside0.mk (Kd.R_elder' (by (with_reducible repeat (first|apply Kd.R_alloc|apply Kd.R_drewN|apply Kd.R_drew));exact HO251.out) (Kd.R_base ho5) hb);have n1_:=Aside0.mk (Kd.R_lower (Kd.R_new' (Kd.R_newM (M:=fun k_=>(w.heap.size ≤ k_)) ho5 (below_size (by repeat (first|(with_reducible first|exact HB.out|apply below_alloc|apply pw_below_drewN|apply below_drew1)|exact HB.out))) (fun k_ h_=>h_)) (Kd.R_lt (by (with_reducible repeat (first|apply Kd.R_alloc|apply Kd.R_drewN|apply Kd.R_drew));exact HO251.out))) (below_size (by repeat (first|(with_reducible first|exact HB.out|apply below_alloc|apply pw_below_drewN|apply below_drew1)|exact HB.out))));have n2_:=Aside0.mk (below_step (by repeat (first|(with_reducible first|exact HB.out|apply below_alloc|apply pw_below_drewN|apply below_drew1)|exact HB.out)) hb);clear HO251;clear HB;have HO251:=n0_;have HO254:=n1_;have HB:=n2_;clear n0_ n1_ n2_;clear hb ho5;obtain ⟨Ao6,co6,eo6⟩:=Kd.R_slice HO254.out;subst eo6)|((with_reducible refine gate_dst (N:=9) rfl ?_);refine Kd.N_lit k42 _ 42 ?hg (N':=9) ?hd (xs:=([(⟨(⟨#[117,116,99]⟩ : ByteArray),0,([] : List (S44))⟩ : S42),(⟨(⟨#[111,115,108,111]⟩ : ByteArray),60,y249⟩ : S42),(⟨(⟨#[121,111,114,107]⟩ : ByteArray),(-300),y252⟩ : S42)] : List (S42))) (inner:=[.string (⟨#[117,116,99]⟩ : ByteArray),.int .i64 0,.slice none 0 0,.string (⟨#[111,115,108,111]⟩ : ByteArray),.int .i64 60,.slice Ao3 y249.length co3,.string (⟨#[121,111,114,107]⟩ : ByteArray),.int .i64 (-300),.slice Ao6 y252.length co6]) (ok:=(fun k_=>(w.heap.size ≤ k_))) (okp:=(fun k_=>(w.heap.size ≤ k_))) ?hr ?hp (fun _ hk=>hk) ((show ∀ k_,w4.heap.size ≤ k_ → (fun k_=>(w.heap.size ≤ k_)) k_ from fun k_ hk=>(Nat.le_trans (below_size (by repeat (first|(with_reducible first|exact HB.out|apply below_alloc|apply pw_below_drewN|apply below_drew1)|exact HB.out))) hk)) _ (Nat.le_refl _)) (Below.refl _ _) (Nat.le_refl _) (by simp) ?_;(case hd=>rfl);(case hg=>rfl);(case hr=>first|(go_simp;done)|(go_simp;rfl));(case hp=>exact (Reps.c3 (show Kd.FK k42 _ _ (⟨(⟨#[117,116,99]⟩ : ByteArray),0,([] : List (S44))⟩ : S42) [.string (⟨#[117,116,99]⟩ : ByteArray),.int .i64 0,.slice none 0 0] from (k42_mkF _ _ (⟨(⟨#[117,116,99]⟩ : ByteArray),0,([] : List (S44))⟩ : S42) (Nat.le_refl _) (Kd.F_nil _ _ _))) (Reps.c3 (show Kd.FK k42 _ _ (⟨(⟨#[111,115,108,111]⟩ : ByteArray),60,y249⟩ : S42) [.string (⟨#[111,115,108,111]⟩ : ByteArray),.int .i64 60,.slice Ao3 y249.length co3] from (k42_mkF _ _ (⟨(⟨#[111,115,108,111]⟩ : ByteArray),60,y249⟩ : S42) (Kd.R_reads' (Kd.R_mono (ok':=(fun k_=>(w.heap.size ≤ k_))) (HO251.out) (fun k_ hk=>hk.1.1))).2.1 (Kd.R_F (Kd.R_mono (ok':=(fun k_=>(w.heap.size ≤ k_))) (HO251.out) (fun k_ hk=>hk.1.1))))) (Reps.c3 (show Kd.FK k42 _ _ (⟨(⟨#[121,111,114,107]⟩ : ByteArray),(-300),y252⟩ : S42) [.string (⟨#[121,111,114,107]⟩ : ByteArray),.int .i64 (-300),.slice Ao6 y252.length co6] from (k42_mkF _ _ (⟨(⟨#[121,111,114,107]⟩ : ByteArray),(-300),y252⟩ : S42) (Kd.R_reads' (Kd.R_mono (ok':=(fun k_=>(w.heap.size ≤ k_))) (HO254.out) (fun k_ hk=>hk.1.1))).2.1 (Kd.R_F (Kd.R_mono (ok':=(fun k_=>(w.heap.size ≤ k_))) (HO254.out) (fun k_ hk=>hk.1.1))))) (Reps.none _ _)))));intro v256 w7 ho8 hb hg_ hnew_;clear hg_ hnew_;(first|rw [← Ny255.out] at ho8|(simp only [Int.reduceToNat] at ho8;rw [← Ny255.out] at ho8));have n0_:=Aside0.mk (Kd.N_lower ho8 (below_size (by repeat (first|(with_reducible first|exact HB.out|apply below_alloc|apply pw_below_drewN|apply below_drew1)|exact HB.out))));have n1_:=Aside0.mk (below_step (by repeat (first|(with_reducible first|exact HB.out|apply below_alloc|apply pw_below_drewN|apply below_drew1)|exact HB.out)) hb);clear HB;clear HO251;clear HO254;have HO257:=n0_;have HB:=n1_;clear n0_ n1_;clear hb ho8))
 go_ret
 exact ⟨_,by first|rfl|(simp [errW_none,errW_some] <;> rfl)|(simp [*,errW_none,errW_some] <;> rfl),by (with_reducible repeat (first|apply Kd.N_alloc|apply Kd.N_drewN|apply Kd.N_drew));exact HO257.out,by repeat (first|(with_reducible first|exact HB.out|apply below_alloc|apply pw_below_drewN|apply below_drew1)|exact HB.out)⟩
def pairingbase_Airports.f  : Option ((List (S39))):=some (([(⟨(⟨#[65,65,65]⟩ : ByteArray),(⟨#[117,116,99]⟩ : ByteArray)⟩ : S39),(⟨(⟨#[66,66,66]⟩ : ByteArray),(⟨#[111,115,108,111]⟩ : ByteArray)⟩ : S39),(⟨(⟨#[67,67,67]⟩ : ByteArray),(⟨#[121,111,114,107]⟩ : ByteArray)⟩ : S39)] : List (S39)))
set_option maxHeartbeats 8000000 in
set_option maxRecDepth 100000 in
theorem pairingbase_Airports.calls  (r : List (S39)) (w : World) (h : pairingbase_Airports.f  = some r) :
  Calls Try.prog 37 #[] w fun e w'=>∃ v0_ : Value,e = .returned (v0_) ∧ Kd.R k39 39 w' w.heap.size (fun _=>True) v0_ r ∧ Below w.heap.size w w':=by
 have hu39:=Try.underlying39
 have HB:=Aside0.mk (Below.refl w.heap.size w)
 have H : (some (([(⟨(⟨#[65,65,65]⟩ : ByteArray),(⟨#[117,116,99]⟩ : ByteArray)⟩ : S39),(⟨(⟨#[66,66,66]⟩ : ByteArray),(⟨#[111,115,108,111]⟩ : ByteArray)⟩ : S39),(⟨(⟨#[67,67,67]⟩ : ByteArray),(⟨#[121,111,114,107]⟩ : ByteArray)⟩ : S39)] : List (S39)))) = some r:=h
 clear h
 obtain ⟨y258,hy258⟩ : ∃ y_ : List (S39),y_ = (([(⟨(⟨#[65,65,65]⟩ : ByteArray),(⟨#[117,116,99]⟩ : ByteArray)⟩ : S39),(⟨(⟨#[66,66,66]⟩ : ByteArray),(⟨#[111,115,108,111]⟩ : ByteArray)⟩ : S39),(⟨(⟨#[67,67,67]⟩ : ByteArray),(⟨#[121,111,114,107]⟩ : ByteArray)⟩ : S39)] : List (S39))):=⟨_,rfl⟩
 replace H : (some y258) = some r:=by first|(rw [hy258];with_reducible exact H)|(have H2_:=(Option.bind_some _ _).symm.trans H;rw [hy258];with_reducible exact H2_)|(have H2_:=(Option.bind_some _ _).symm.trans H;with_reducible exact H2_)|with_reducible exact H|(rw [hy258];exact H)|exact H
 have Ny258:=Aside0.mk hy258
 clear hy258
 obtain rfl:=Option.some.inj H
 go_enter Try.func37,Try.ntmps37
 go_wp2_with (first|((with_reducible refine gate_dst (N:=4) rfl ?_);refine Kd.R_lit k39 _ 39 ?hg (N:=4) ?hd (xs:=([(⟨(⟨#[65,65,65]⟩ : ByteArray),(⟨#[117,116,99]⟩ : ByteArray)⟩ : S39),(⟨(⟨#[66,66,66]⟩ : ByteArray),(⟨#[111,115,108,111]⟩ : ByteArray)⟩ : S39),(⟨(⟨#[67,67,67]⟩ : ByteArray),(⟨#[121,111,114,107]⟩ : ByteArray)⟩ : S39)] : List (S39))) (inner:=[.string (⟨#[65,65,65]⟩ : ByteArray),.string (⟨#[117,116,99]⟩ : ByteArray),.string (⟨#[66,66,66]⟩ : ByteArray),.string (⟨#[111,115,108,111]⟩ : ByteArray),.string (⟨#[67,67,67]⟩ : ByteArray),.string (⟨#[121,111,114,107]⟩ : ByteArray)]) (ok:=fun _=>True) (okp:=fun _=>True) ?hr ?hp (fun _ hk=>hk) trivial (Below.refl _ _) (Nat.le_refl _) (by simp) ?_;(case hd=>rfl);(case hg=>rfl);(case hr=>first|(go_simp;done)|(go_simp;rfl));(case hp=>exact (Reps.c2 (show Kd.M k39 _ _ _ (⟨(⟨#[65,65,65]⟩ : ByteArray),(⟨#[117,116,99]⟩ : ByteArray)⟩ : S39) [.string (⟨#[65,65,65]⟩ : ByteArray),.string (⟨#[117,116,99]⟩ : ByteArray)] from (k39_mkM _ _ _ (⟨(⟨#[65,65,65]⟩ : ByteArray),(⟨#[117,116,99]⟩ : ByteArray)⟩ : S39) )) (Reps.c2 (show Kd.M k39 _ _ _ (⟨(⟨#[66,66,66]⟩ : ByteArray),(⟨#[111,115,108,111]⟩ : ByteArray)⟩ : S39) [.string (⟨#[66,66,66]⟩ : ByteArray),.string (⟨#[111,115,108,111]⟩ : ByteArray)] from (k39_mkM _ _ _ (⟨(⟨#[66,66,66]⟩ : ByteArray),(⟨#[111,115,108,111]⟩ : ByteArray)⟩ : S39) )) (Reps.c2 (show Kd.M k39 _ _ _ (⟨(⟨#[67,67,67]⟩ : ByteArray),(⟨#[121,111,114,107]⟩ : ByteArray)⟩ : S39) [.string (⟨#[67,67,67]⟩ : ByteArray),.string (⟨#[121,111,114,107]⟩ : ByteArray)] from (k39_mkM _ _ _ (⟨(⟨#[67,67,67]⟩ : ByteArray),(⟨#[121,111,114,107]⟩ : ByteArray)⟩ : S39) )) (Reps.none _ _)))));intro v259 w1 ho2 hb hg_ hnew_;clear hg_ hnew_;(first|rw [← Ny258.out] at ho2|(simp only [Int.reduceToNat] at ho2;rw [← Ny258.out] at ho2));have n0_:=Aside0.mk (Kd.R_lower ho2 (below_size (by repeat (first|(with_reducible first|exact HB.out|apply below_alloc|apply pw_below_drewN|apply below_drew1)|exact HB.out))));have n1_:=Aside0.mk (below_step (by repeat (first|(with_reducible first|exact HB.out|apply below_alloc|apply pw_below_drewN|apply below_drew1)|exact HB.out)) hb);clear HB;have HO260:=n0_;have HB:=n1_;clear n0_ n1_;clear hb ho2))
 go_ret
 exact ⟨_,by first|rfl|(simp [errW_none,errW_some] <;> rfl)|(simp [*,errW_none,errW_some] <;> rfl),by (with_reducible repeat (first|apply Kd.R_alloc|apply Kd.R_drewN|apply Kd.R_drew));exact HO260.out,by repeat (first|(with_reducible first|exact HB.out|apply below_alloc|apply pw_below_drewN|apply below_drew1)|exact HB.out)⟩
def pairinglaw9_example.f  : Option ((List (S42)) × (List (S39)) × (List (S36))):=(pairingbase_Zones.f).bind fun t263=>((pairingbase_Airports.f).bind fun t266=>(some (t263,t266,(([(⟨(⟨#[83,75,49]⟩ : ByteArray),(⟨#[65,65,65]⟩ : ByteArray),(⟨#[66,66,66]⟩ : ByteArray),3000,3060,(⟨#[98,55,51,55]⟩ : ByteArray),(⟨1,1,2⟩ : S34)⟩ : S36)] : List (S36))))))
def pairinglaw9_example.T2 : Bool × List (List Nat × List Nat):=(true,[([],[]),([0],[]),([],[]),([2],[2]),([0,1,3],[0,1,3]),([4,1,0,1,2,3,4],[4])])
def pairinglaw9_example.B2 : List Nat:=[0,1,0,4,15,31]
theorem pairinglaw9_example.tab2 : rtab .any (opsOf Try.f25 2) = pairinglaw9_example.T2:=by kernel_rfl
theorem pairinglaw9_example.bits2 : waitsOk pairinglaw9_example.T2.2 pairinglaw9_example.B2 = true:=by kernel_rfl
set_option maxHeartbeats 8000000 in
set_option maxRecDepth 100000 in
theorem pairinglaw9_example.calls  (r1 : List (S42)) (r2 : List (S39)) (r3 : List (S36)) (w : World) (h : pairinglaw9_example.f  = some (r1,r2,r3)) :
  Calls Try.prog 25 #[] w fun e w'=>∃ v0_ v1_ v2_ : Value,e = .returned (.agg #[v0_,v1_,v2_]) ∧ Kd.N k42 42 w' w.heap.size (fun k_=>(w.heap.size ≤ k_)) v0_ r1 ∧ Kd.R k39 39 w' w.heap.size (fun k_=>(w.heap.size ≤ k_)) v1_ r2 ∧ Kd.R k36 36 w' w.heap.size (fun k_=>(w.heap.size ≤ k_)) v2_ r3 ∧ Below w.heap.size w w':=by
 have hu26:=Try.underlying26
 have hu34:=Try.underlying34
 have hu36:=Try.underlying36
 have HB:=Aside0.mk (Below.refl w.heap.size w)
 have H : ((pairingbase_Zones.f).bind fun t263=>((pairingbase_Airports.f).bind fun t266=>(some (t263,t266,(([(⟨(⟨#[83,75,49]⟩ : ByteArray),(⟨#[65,65,65]⟩ : ByteArray),(⟨#[66,66,66]⟩ : ByteArray),3000,3060,(⟨#[98,55,51,55]⟩ : ByteArray),(⟨1,1,2⟩ : S34)⟩ : S36)] : List (S36))))))) = some (r1,r2,r3):=h
 clear h
 replace H:=Option.bind_eq_some_iff.mp H
 obtain ⟨t263,A10,H⟩:=H
 replace H : ((pairingbase_Airports.f).bind fun t266=>(some (t263,t266,(([(⟨(⟨#[83,75,49]⟩ : ByteArray),(⟨#[65,65,65]⟩ : ByteArray),(⟨#[66,66,66]⟩ : ByteArray),3000,3060,(⟨#[98,55,51,55]⟩ : ByteArray),(⟨1,1,2⟩ : S34)⟩ : S36)] : List (S36)))))) = some (r1,r2,r3):=H
 have A1:=Aside0.mk A10
 clear A10
 replace H:=Option.bind_eq_some_iff.mp H
 obtain ⟨t266,A20,H⟩:=H
 replace H : (some (t263,t266,(([(⟨(⟨#[83,75,49]⟩ : ByteArray),(⟨#[65,65,65]⟩ : ByteArray),(⟨#[66,66,66]⟩ : ByteArray),3000,3060,(⟨#[98,55,51,55]⟩ : ByteArray),(⟨1,1,2⟩ : S34)⟩ : S36)] : List (S36))))) = some (r1,r2,r3):=H
 have A2:=Aside0.mk A20
 clear A20
 obtain ⟨y269,hy269⟩ : ∃ y_ : List (S36),y_ = (([(⟨(⟨#[83,75,49]⟩ : ByteArray),(⟨#[65,65,65]⟩ : ByteArray),(⟨#[66,66,66]⟩ : ByteArray),3000,3060,(⟨#[98,55,51,55]⟩ : ByteArray),(⟨1,1,2⟩ : S34)⟩ : S36)] : List (S36))):=⟨_,rfl⟩
 replace H : (some (t263,t266,y269)) = some (r1,r2,r3):=by first|(rw [hy269];with_reducible exact H)|(have H2_:=(Option.bind_some _ _).symm.trans H;rw [hy269];with_reducible exact H2_)|(have H2_:=(Option.bind_some _ _).symm.trans H;with_reducible exact H2_)|with_reducible exact H|(rw [hy269];exact H)|exact H
 have Ny269:=Aside0.mk hy269
 clear hy269
 simp only [Option.some.injEq,Prod.mk.injEq] at H
 obtain ⟨rfl,rfl,rfl⟩:=H
 go_enter Try.func25,Try.ntmps25
 try go_wp2_with (first|((with_reducible refine gate_dst (N:=0) rfl ?_);refine box_event ?hg (N:=0) ?hd (cs:=#[.slice none 0 0,.slice none 0 0,.slice none 0 0]) (t:=26) ?hr ?_;(case hd=>rfl);(case hg=>rfl);(case hr=>first|(go_simp;done)|(go_simp;rfl));intro gb261 hg w3 hbox hb;have n0_:=Aside0.mk (below_step (by repeat (first|(with_reducible first|exact HB.out|apply below_alloc|apply pw_below_drewN|apply below_drew1)|exact HB.out)) hb);have n1_:=Aside0.mk (hbox);have n2_:=Aside0.mk ((by rw [hg];exact (below_size (by repeat (first|(with_reducible first|exact HB.out|apply below_alloc|apply pw_below_drewN|apply below_drew1)|exact HB.out))) : w.heap.size ≤ gb261));have n3_:=Aside0.mk ((by rw [hg];exact (below_size (by repeat (first|(with_reducible first|exact HB.out|apply below_alloc|apply pw_below_drewN|apply below_drew1)|exact HB.out))) : w.heap.size ≤ gb261));clear HB;have HB:=n0_;have BK261:=n1_;have GW261:=n2_;have GE261:=n3_;clear n0_ n1_ n2_ n3_;clear hb hbox hg)|((with_reducible refine gate_dst (N:=1) rfl ?_);refine box_event ?hg (N:=1) ?hd (cs:=#[.string (⟨#[]⟩ : ByteArray),.string (⟨#[]⟩ : ByteArray),.string (⟨#[]⟩ : ByteArray),.int .i64 0,.int .i64 0,.string (⟨#[]⟩ : ByteArray),.int .i64 0,.int .i64 0,.int .i64 0]) (t:=36) ?hr ?_;(case hd=>rfl);(case hg=>rfl);(case hr=>first|(go_simp;done)|(go_simp;rfl));intro gb262 hg w4 hbox hb;have n0_:=Aside0.mk (blk_below (g:=gb261) (o:=.cells #[.slice none 0 0,.slice none 0 0,.slice none 0 0] 26 (0,0)) (by (with_reducible repeat (first|refine blk_drewN ?_ _|refine blk_drew ?_|refine blk_alloc ?_ _));exact BK261.out) hb);have n1_:=Aside0.mk (below_step (by repeat (first|(with_reducible first|exact HB.out|apply below_alloc|apply pw_below_drewN|apply below_drew1|refine below_set ?_ GE261.out)|exact HB.out)) hb);have n2_:=Aside0.mk (hbox);have n3_:=Aside0.mk ((by rw [hg];exact (below_size (by repeat (first|(with_reducible first|exact HB.out|apply below_alloc|apply pw_below_drewN|apply below_drew1|refine below_set ?_ GE261.out)|exact HB.out))) : w.heap.size ≤ gb262));have n4_:=Aside0.mk ((by rw [hg];exact (below_size (by repeat (first|(with_reducible first|exact HB.out|apply below_alloc|apply pw_below_drewN|apply below_drew1|refine below_set ?_ GE261.out)|exact HB.out))) : w.heap.size ≤ gb262));have n5_:=Aside0.mk ((by rw [hg];exact Nat.ne_of_lt (blk_lt (g:=gb261) (o:=.cells #[.slice none 0 0,.slice none 0 0,.slice none 0 0] 26 (0,0)) (by (with_reducible repeat (first|refine blk_drewN ?_ _|refine blk_drew ?_|refine blk_alloc ?_ _));exact BK261.out)) : gb261 ≠ gb262));have n6_:=Aside0.mk ((by rw [hg];exact Nat.ne_of_gt (blk_lt (g:=gb261) (o:=.cells #[.slice none 0 0,.slice none 0 0,.slice none 0 0] 26 (0,0)) (by (with_reducible repeat (first|refine blk_drewN ?_ _|refine blk_drew ?_|refine blk_alloc ?_ _));exact BK261.out)) : gb262 ≠ gb261));clear BK261;clear HB;have BK261:=n0_;have HB:=n1_;have BK262:=n2_;have GW262:=n3_;have GE262:=n4_;have NB261_262:=n5_;have NB262_261:=n6_;clear n0_ n1_ n2_ n3_ n4_ n5_ n6_;clear hb hbox hg;have hnb5:=NB262_261.out;have hnc5:=NB261_262.out;have hcz6_0 : w4.cell? ⟨gb262,0,none⟩ = some (.string (⟨#[]⟩ : ByteArray)):=(blk_cell BK262.out 0).trans rfl;have hcz6_1 : w4.cell? ⟨gb262,1,none⟩ = some (.string (⟨#[]⟩ : ByteArray)):=(blk_cell BK262.out 1).trans rfl;have hcz6_2 : w4.cell? ⟨gb262,2,none⟩ = some (.string (⟨#[]⟩ : ByteArray)):=(blk_cell BK262.out 2).trans rfl;have hcz6_3 : w4.cell? ⟨gb262,3,none⟩ = some (.int .i64 0):=(blk_cell BK262.out 3).trans rfl;have hcz6_4 : w4.cell? ⟨gb262,4,none⟩ = some (.int .i64 0):=(blk_cell BK262.out 4).trans rfl;have hcz6_5 : w4.cell? ⟨gb262,5,none⟩ = some (.string (⟨#[]⟩ : ByteArray)):=(blk_cell BK262.out 5).trans rfl;have hcz6_6 : w4.cell? ⟨gb262,6,none⟩ = some (.int .i64 0):=(blk_cell BK262.out 6).trans rfl;have hcz6_7 : w4.cell? ⟨gb262,7,none⟩ = some (.int .i64 0):=(blk_cell BK262.out 7).trans rfl;have hcz6_8 : w4.cell? ⟨gb262,8,none⟩ = some (.int .i64 0):=(blk_cell BK262.out 8).trans rfl;have hfz6_0:=blk_frozen BK262.out 0;have hfz6_1:=blk_frozen BK262.out 1;have hfz6_2:=blk_frozen BK262.out 2;have hfz6_3:=blk_frozen BK262.out 3;have hfz6_4:=blk_frozen BK262.out 4;have hfz6_5:=blk_frozen BK262.out 5;have hfz6_6:=blk_frozen BK262.out 6;have hfz6_7:=blk_frozen BK262.out 7;have hfz6_8:=blk_frozen BK262.out 8))
 have n0_ : Aside0 ((((((((((w4.setCell ⟨gb262,0,none⟩ (.string (⟨#[83,75,49]⟩ : ByteArray))).setCell ⟨gb262,1,none⟩ (.string (⟨#[65,65,65]⟩ : ByteArray))).setCell ⟨gb262,2,none⟩ (.string (⟨#[66,66,66]⟩ : ByteArray))).setCell ⟨gb262,3,none⟩ (.int .i64 3000)).setCell ⟨gb262,4,none⟩ (.int .i64 3060)).setCell ⟨gb262,5,none⟩ (.string (⟨#[98,55,51,55]⟩ : ByteArray))).setCell ⟨gb262,6,none⟩ (.int .i64 1)).setCell ⟨gb262,7,none⟩ (.int .i64 1)).setCell ⟨gb262,8,none⟩ (.int .i64 2)).heap[gb261]? = some (.cells #[.slice none 0 0,.slice none 0 0,.slice none 0 0] 26 (0,0))):=⟨by (with_reducible repeat (first|refine blk_drewN ?_ _|refine blk_drew ?_|refine blk_alloc ?_ _));refine blk_far ?_ NB261_262.out _;(with_reducible repeat (first|refine blk_drewN ?_ _|refine blk_drew ?_|refine blk_alloc ?_ _));refine blk_far ?_ NB261_262.out _;(with_reducible repeat (first|refine blk_drewN ?_ _|refine blk_drew ?_|refine blk_alloc ?_ _));refine blk_far ?_ NB261_262.out _;(with_reducible repeat (first|refine blk_drewN ?_ _|refine blk_drew ?_|refine blk_alloc ?_ _));refine blk_far ?_ NB261_262.out _;(with_reducible repeat (first|refine blk_drewN ?_ _|refine blk_drew ?_|refine blk_alloc ?_ _));refine blk_far ?_ NB261_262.out _;(with_reducible repeat (first|refine blk_drewN ?_ _|refine blk_drew ?_|refine blk_alloc ?_ _));refine blk_far ?_ NB261_262.out _;(with_reducible repeat (first|refine blk_drewN ?_ _|refine blk_drew ?_|refine blk_alloc ?_ _));refine blk_far ?_ NB261_262.out _;(with_reducible repeat (first|refine blk_drewN ?_ _|refine blk_drew ?_|refine blk_alloc ?_ _));refine blk_far ?_ NB261_262.out _;(with_reducible repeat (first|refine blk_drewN ?_ _|refine blk_drew ?_|refine blk_alloc ?_ _));refine blk_far ?_ NB261_262.out _;(with_reducible repeat (first|refine blk_drewN ?_ _|refine blk_drew ?_|refine blk_alloc ?_ _));exact BK261.out⟩
 have n1_ : Aside0 ((((((((((w4.setCell ⟨gb262,0,none⟩ (.string (⟨#[83,75,49]⟩ : ByteArray))).setCell ⟨gb262,1,none⟩ (.string (⟨#[65,65,65]⟩ : ByteArray))).setCell ⟨gb262,2,none⟩ (.string (⟨#[66,66,66]⟩ : ByteArray))).setCell ⟨gb262,3,none⟩ (.int .i64 3000)).setCell ⟨gb262,4,none⟩ (.int .i64 3060)).setCell ⟨gb262,5,none⟩ (.string (⟨#[98,55,51,55]⟩ : ByteArray))).setCell ⟨gb262,6,none⟩ (.int .i64 1)).setCell ⟨gb262,7,none⟩ (.int .i64 1)).setCell ⟨gb262,8,none⟩ (.int .i64 2)).heap[gb262]? = some (.cells #[.string (⟨#[83,75,49]⟩ : ByteArray),.string (⟨#[65,65,65]⟩ : ByteArray),.string (⟨#[66,66,66]⟩ : ByteArray),.int .i64 3000,.int .i64 3060,.string (⟨#[98,55,51,55]⟩ : ByteArray),.int .i64 1,.int .i64 1,.int .i64 2] 36 (0,0))):=⟨by (with_reducible repeat (first|refine blk_drewN ?_ _|refine blk_drew ?_|refine blk_alloc ?_ _));refine blk_put (cs:=#[.string (⟨#[83,75,49]⟩ : ByteArray),.string (⟨#[65,65,65]⟩ : ByteArray),.string (⟨#[66,66,66]⟩ : ByteArray),.int .i64 3000,.int .i64 3060,.string (⟨#[98,55,51,55]⟩ : ByteArray),.int .i64 1,.int .i64 1,.int .i64 0]) ?_ 8 _ rfl;(with_reducible repeat (first|refine blk_drewN ?_ _|refine blk_drew ?_|refine blk_alloc ?_ _));refine blk_put (cs:=#[.string (⟨#[83,75,49]⟩ : ByteArray),.string (⟨#[65,65,65]⟩ : ByteArray),.string (⟨#[66,66,66]⟩ : ByteArray),.int .i64 3000,.int .i64 3060,.string (⟨#[98,55,51,55]⟩ : ByteArray),.int .i64 1,.int .i64 0,.int .i64 0]) ?_ 7 _ rfl;(with_reducible repeat (first|refine blk_drewN ?_ _|refine blk_drew ?_|refine blk_alloc ?_ _));refine blk_put (cs:=#[.string (⟨#[83,75,49]⟩ : ByteArray),.string (⟨#[65,65,65]⟩ : ByteArray),.string (⟨#[66,66,66]⟩ : ByteArray),.int .i64 3000,.int .i64 3060,.string (⟨#[98,55,51,55]⟩ : ByteArray),.int .i64 0,.int .i64 0,.int .i64 0]) ?_ 6 _ rfl;(with_reducible repeat (first|refine blk_drewN ?_ _|refine blk_drew ?_|refine blk_alloc ?_ _));refine blk_put (cs:=#[.string (⟨#[83,75,49]⟩ : ByteArray),.string (⟨#[65,65,65]⟩ : ByteArray),.string (⟨#[66,66,66]⟩ : ByteArray),.int .i64 3000,.int .i64 3060,.string (⟨#[]⟩ : ByteArray),.int .i64 0,.int .i64 0,.int .i64 0]) ?_ 5 _ rfl;(with_reducible repeat (first|refine blk_drewN ?_ _|refine blk_drew ?_|refine blk_alloc ?_ _));refine blk_put (cs:=#[.string (⟨#[83,75,49]⟩ : ByteArray),.string (⟨#[65,65,65]⟩ : ByteArray),.string (⟨#[66,66,66]⟩ : ByteArray),.int .i64 3000,.int .i64 0,.string (⟨#[]⟩ : ByteArray),.int .i64 0,.int .i64 0,.int .i64 0]) ?_ 4 _ rfl;(with_reducible repeat (first|refine blk_drewN ?_ _|refine blk_drew ?_|refine blk_alloc ?_ _));refine blk_put (cs:=#[.string (⟨#[83,75,49]⟩ : ByteArray),.string (⟨#[65,65,65]⟩ : ByteArray),.string (⟨#[66,66,66]⟩ : ByteArray),.int .i64 0,.int .i64 0,.string (⟨#[]⟩ : ByteArray),.int .i64 0,.int .i64 0,.int .i64 0]) ?_ 3 _ rfl;(with_reducible repeat (first|refine blk_drewN ?_ _|refine blk_drew ?_|refine blk_alloc ?_ _));refine blk_put (cs:=#[.string (⟨#[83,75,49]⟩ : ByteArray),.string (⟨#[65,65,65]⟩ : ByteArray),.string (⟨#[]⟩ : ByteArray),.int .i64 0,.int .i64 0,.string (⟨#[]⟩ : ByteArray),.int .i64 0,.int .i64 0,.int .i64 0]) ?_ 2 _ rfl;(with_reducible repeat (first|refine blk_drewN ?_ _|refine blk_drew ?_|refine blk_alloc ?_ _));refine blk_put (cs:=#[.string (⟨#[83,75,49]⟩ : ByteArray),.string (⟨#[]⟩ : ByteArray),.string (⟨#[]⟩ : ByteArray),.int .i64 0,.int .i64 0,.string (⟨#[]⟩ : ByteArray),.int .i64 0,.int .i64 0,.int .i64 0]) ?_ 1 _ rfl;(with_reducible repeat (first|refine blk_drewN ?_ _|refine blk_drew ?_|refine blk_alloc ?_ _));refine blk_put (cs:=#[.string (⟨#[]⟩ : ByteArray),.string (⟨#[]⟩ : ByteArray),.string (⟨#[]⟩ : ByteArray),.int .i64 0,.int .i64 0,.string (⟨#[]⟩ : ByteArray),.int .i64 0,.int .i64 0,.int .i64 0]) ?_ 0 _ rfl;(with_reducible repeat (first|refine blk_drewN ?_ _|refine blk_drew ?_|refine blk_alloc ?_ _));exact BK262.out⟩
 have n2_ : Aside0 (Below w.heap.size w (((((((((w4.setCell ⟨gb262,0,none⟩ (.string (⟨#[83,75,49]⟩ : ByteArray))).setCell ⟨gb262,1,none⟩ (.string (⟨#[65,65,65]⟩ : ByteArray))).setCell ⟨gb262,2,none⟩ (.string (⟨#[66,66,66]⟩ : ByteArray))).setCell ⟨gb262,3,none⟩ (.int .i64 3000)).setCell ⟨gb262,4,none⟩ (.int .i64 3060)).setCell ⟨gb262,5,none⟩ (.string (⟨#[98,55,51,55]⟩ : ByteArray))).setCell ⟨gb262,6,none⟩ (.int .i64 1)).setCell ⟨gb262,7,none⟩ (.int .i64 1)).setCell ⟨gb262,8,none⟩ (.int .i64 2))):=⟨by repeat (first|(with_reducible first|exact HB.out|apply below_alloc|apply pw_below_drewN|apply below_drew1|refine below_set ?_ GE261.out|refine below_set ?_ GE262.out)|exact HB.out)⟩
 (try clear BK261)
 (try clear BK262)
 (try clear HB)
 generalize (((((((((w4.setCell ⟨gb262,0,none⟩ (.string (⟨#[83,75,49]⟩ : ByteArray))).setCell ⟨gb262,1,none⟩ (.string (⟨#[65,65,65]⟩ : ByteArray))).setCell ⟨gb262,2,none⟩ (.string (⟨#[66,66,66]⟩ : ByteArray))).setCell ⟨gb262,3,none⟩ (.int .i64 3000)).setCell ⟨gb262,4,none⟩ (.int .i64 3060)).setCell ⟨gb262,5,none⟩ (.string (⟨#[98,55,51,55]⟩ : ByteArray))).setCell ⟨gb262,6,none⟩ (.int .i64 1)).setCell ⟨gb262,7,none⟩ (.int .i64 1)).setCell ⟨gb262,8,none⟩ (.int .i64 2)) = w7 at n0_ n1_ n2_ ⊢
 have BK261:=n0_
 have BK262:=n1_
 have HB:=n2_
 clear n0_ n1_ n2_
 have n0_:=Aside0.mk (blk_drew BK261.out)
 have n1_:=Aside0.mk (blk_drew BK262.out)
 have n2_:=Aside0.mk (below_drew1 HB.out)
 clear BK261
 clear BK262
 clear HB
 have BK261:=n0_
 have BK262:=n1_
 have HB:=n2_
 clear n0_ n1_ n2_
 refine start_ (n:=6) (S:=fun w'=>True) (ds:=[]) #[false,false,false,false,false,false] (by kernel_rfl) rfl rfl trivial (fun hHeld=>?_);refine with_tabW pairinglaw9_example.tab2 pairinglaw9_example.bits2 (fun HT_ HW_=>?_)
 generalize w7.drew = w8 at BK261 BK262 HB hHeld ⊢
 refine inv_at [0,1,2,3,4,5] (fun a0_ b a w'=>∃ (v264 : Value) (v267 : Value) (v270 : Value) (m4_ : Value),a = putSel a0_ b [(0,4,v264),(1,5,v267),(2,6,.agg #[.string (⟨#[83,75,49]⟩ : ByteArray),.string (⟨#[65,65,65]⟩ : ByteArray),.string (⟨#[66,66,66]⟩ : ByteArray),.int .i64 3000,.int .i64 3060,.string (⟨#[98,55,51,55]⟩ : ByteArray),.int .i64 1,.int .i64 1,.int .i64 2]),(3,7,v270),(4,8,m4_)] ∧ (b 5 = false → w'.heap[gb261]? = some (.cells #[.slice none 0 0,.slice none 0 0,.slice none 0 0] 26 (0,0))) ∧ (w'.heap[gb262]? = some (.cells #[.string (⟨#[83,75,49]⟩ : ByteArray),.string (⟨#[65,65,65]⟩ : ByteArray),.string (⟨#[66,66,66]⟩ : ByteArray),.int .i64 3000,.int .i64 3060,.string (⟨#[98,55,51,55]⟩ : ByteArray),.int .i64 1,.int .i64 1,.int .i64 2] 36 (0,0))) ∧ (Below w.heap.size w w') ∧ (b 0 = true → Kd.N k42 42 w' w.heap.size (fun k_=>(w.heap.size ≤ k_) ∧ k_ ≠ gb261 ∧ k_ ≠ gb262) v264 t263) ∧ (b 1 = true → Kd.R k39 39 w' w.heap.size (fun k_=>(w.heap.size ≤ k_)) v267 t266) ∧ (b 3 = true → Kd.R k36 36 w' w.heap.size (fun k_=>(w.heap.size ≤ k_) ∧ k_ ≠ gb262) v270 y269) ∧ (b 5 = true → w'.heap[gb261]? = some (.cells #[v264,v267,v270] 26 (0,0))) ∧ (b 4 = true → (m4_ : Value) = .agg #[v264,v267,v270])) HT_.out HW_.out (by kernel_rfl) (by kernel_rfl) ?_ ?_ ?_
 ·exact ⟨.bool false,.bool false,.bool false,.bool false,by simp only [putSel,Bool.false_eq_true,if_false],fun _=>BK261.out,BK262.out,HB.out,fun h_=>absurd h_ (by decide),fun h_=>absurd h_ (by decide),fun h_=>absurd h_ (by decide),fun h_=>absurd h_ (by decide),fun h_=>absurd h_ (by decide)⟩
 ·skip
  clear BK261 BK262 HB
  refine steps_cons ?_ ?_
  ·rintro b a w' ⟨v264,v267,v270,m4_,ha,Q_BK261,Q_BK262,Q_HB,Q_HO265,Q_HO268,Q_HO271,Q_BK261_e5,Q_X4_⟩ hb_ hon hoff
   refine ⟨_,rfl,fun K hK=>?_⟩
   replace ha:=Aside0.mk ha
   have BK261:=Aside0.mk (Q_BK261 (hoff 5 (by kernel_rfl)))
   have BK262:=Aside0.mk Q_BK262
   have HB:=Aside0.mk Q_HB
   refine goes_ Try.func36 (by kernel_rfl) rfl #[] (by rfl) rfl rfl (by first|(simp only [List.map_toArray,List.map_cons,List.map_nil,Act.eval,Array.getD_eq_getD_getElem?,Option.getD_some];done)|(simp only [List.map_toArray,List.map_cons,List.map_nil,Act.eval,Array.getD_eq_getD_getElem?,Option.getD_some];rfl)) ?_
   with_reducible refine (pairingbase_Zones.calls  t263 _ A1.out).mono ?_
   rintro e w9 ⟨v264,rfl,ho0,hb⟩
   refine ⟨_,rfl,?_⟩
   have n0_:=Aside0.mk (Kd.N_lower (Kd.N_mono (ok':=fun k_=>(w.heap.size ≤ k_) ∧ k_ ≠ gb261 ∧ k_ ≠ gb262) ho0 (fun k_ hk_=>⟨(Nat.le_trans (below_size (by repeat (first|(with_reducible first|exact HB.out|apply below_alloc|apply pw_below_drewN|apply below_drew1|refine below_set ?_ GE261.out|refine below_set ?_ GE262.out)|exact HB.out))) hk_),(Kd.freshB (g:=gb261) (o:=.cells #[.slice none 0 0,.slice none 0 0,.slice none 0 0] 26 (0,0)) (by (with_reducible repeat (first|refine blk_drewN ?_ _|refine blk_drew ?_|refine blk_alloc ?_ _));exact BK261.out) k_ hk_),(Kd.freshB (g:=gb262) (o:=.cells #[.string (⟨#[83,75,49]⟩ : ByteArray),.string (⟨#[65,65,65]⟩ : ByteArray),.string (⟨#[66,66,66]⟩ : ByteArray),.int .i64 3000,.int .i64 3060,.string (⟨#[98,55,51,55]⟩ : ByteArray),.int .i64 1,.int .i64 1,.int .i64 2] 36 (0,0)) (by (with_reducible repeat (first|refine blk_drewN ?_ _|refine blk_drew ?_|refine blk_alloc ?_ _));exact BK262.out) k_ hk_)⟩)) (below_size (by repeat (first|(with_reducible first|exact HB.out|apply below_alloc|apply pw_below_drewN|apply below_drew1|refine below_set ?_ GE261.out|refine below_set ?_ GE262.out)|exact HB.out))))
   have n1_:=Aside0.mk (blk_below (g:=gb261) (o:=.cells #[.slice none 0 0,.slice none 0 0,.slice none 0 0] 26 (0,0)) (by (with_reducible repeat (first|refine blk_drewN ?_ _|refine blk_drew ?_|refine blk_alloc ?_ _));exact BK261.out) hb)
   have n2_:=Aside0.mk (blk_below (g:=gb262) (o:=.cells #[.string (⟨#[83,75,49]⟩ : ByteArray),.string (⟨#[65,65,65]⟩ : ByteArray),.string (⟨#[66,66,66]⟩ : ByteArray),.int .i64 3000,.int .i64 3060,.string (⟨#[98,55,51,55]⟩ : ByteArray),.int .i64 1,.int .i64 1,.int .i64 2] 36 (0,0)) (by (with_reducible repeat (first|refine blk_drewN ?_ _|refine blk_drew ?_|refine blk_alloc ?_ _));exact BK262.out) hb)
   have n3_:=Aside0.mk (below_step (by repeat (first|(with_reducible first|exact HB.out|apply below_alloc|apply pw_below_drewN|apply below_drew1|refine below_set ?_ GE261.out|refine below_set ?_ GE262.out)|exact HB.out)) hb)
   have z_HO271:=fun (h0_ : b 3 = true)=>(show Kd.R k36 36 w9 w.heap.size (fun k_=>(w.heap.size ≤ k_) ∧ k_ ≠ gb262) v270 y269 from by first|exact (Kd.R_below (by (with_reducible repeat (first|apply Kd.R_alloc|apply Kd.R_drewN|apply Kd.R_drew));exact (Q_HO271 h0_)) hb)|exact Kd.R_mono (Kd.R_below (by (with_reducible repeat (first|apply Kd.R_alloc|apply Kd.R_drewN|apply Kd.R_drew));exact (Q_HO271 h0_)) hb) (fun _ h_=>by first|trivial|exact h_|exact h_.1))
   clear BK261
   clear BK262
   clear HB
   have HO265:=n0_
   have BK261:=n1_
   have BK262:=n2_
   have HB:=n3_
   clear n0_ n1_ n2_ n3_
   (try clear hb)
   (try clear hb2)
   (try clear hk)
   (try clear hi)
   (try clear ho0)
   refine hK.out _ _ ⟨v264,v267,v270,m4_,(by rw [ha.out];exact putSel_upk 0 hb_ rfl rfl rfl),fun _=>(by (with_reducible repeat (first|refine blk_drewN ?_ _|refine blk_drew ?_|refine blk_alloc ?_ _));exact BK261.out),(by (with_reducible repeat (first|refine blk_drewN ?_ _|refine blk_drew ?_|refine blk_alloc ?_ _));exact BK262.out),(by repeat (first|(with_reducible first|exact HB.out|apply below_alloc|apply pw_below_drewN|apply below_drew1|refine below_set ?_ GE261.out|refine below_set ?_ GE262.out)|exact HB.out)),fun _=>(by (with_reducible repeat (first|apply Kd.N_alloc|apply Kd.N_drewN|apply Kd.N_drew));exact HO265.out),fun h0_=>absurd ((hoff 1 (by kernel_rfl)).symm.trans h0_) (by decide),z_HO271,fun h0_=>absurd ((hoff 5 (by kernel_rfl)).symm.trans h0_) (by decide),fun h0_=>absurd ((hoff 4 (by kernel_rfl)).symm.trans h0_) (by decide)⟩
  refine steps_cons ?_ ?_
  ·rintro b a w' ⟨v264,v267,v270,m4_,ha,Q_BK261,Q_BK262,Q_HB,Q_HO265,Q_HO268,Q_HO271,Q_BK261_e5,Q_X4_⟩ hb_ hon hoff
   refine ⟨_,rfl,fun K hK=>?_⟩
   replace ha:=Aside0.mk ha
   have BK261:=Aside0.mk (Q_BK261 (hoff 5 (by kernel_rfl)))
   have BK262:=Aside0.mk Q_BK262
   have HB:=Aside0.mk Q_HB
   have HO265:=Aside0.mk (Q_HO265 (hon 0 (by kernel_rfl)))
   refine goes_ Try.func37 (by kernel_rfl) rfl #[] (by rfl) rfl rfl (by first|(simp only [List.map_toArray,List.map_cons,List.map_nil,Act.eval,Array.getD_eq_getD_getElem?,Option.getD_some];done)|(simp only [List.map_toArray,List.map_cons,List.map_nil,Act.eval,Array.getD_eq_getD_getElem?,Option.getD_some];rfl)) ?_
   with_reducible refine (pairingbase_Airports.calls  t266 _ A2.out).mono ?_
   rintro e w11 ⟨v267,rfl,ho0,hb⟩
   refine ⟨_,rfl,?_⟩
   have n0_:=Aside0.mk (Kd.N_elder' (by (with_reducible repeat (first|apply Kd.N_alloc|apply Kd.N_drewN|apply Kd.N_drew));exact HO265.out) (Kd.R_base ho0) hb)
   have n1_:=Aside0.mk (Kd.R_lower (Kd.R_newM (M:=fun k_=>(w.heap.size ≤ k_)) ho0 (below_size (by repeat (first|(with_reducible first|exact HB.out|apply below_alloc|apply pw_below_drewN|apply below_drew1|refine below_set ?_ GE261.out|refine below_set ?_ GE262.out)|exact HB.out))) (fun k_ h_=>h_)) (below_size (by repeat (first|(with_reducible first|exact HB.out|apply below_alloc|apply pw_below_drewN|apply below_drew1|refine below_set ?_ GE261.out|refine below_set ?_ GE262.out)|exact HB.out))))
   have n2_:=Aside0.mk (blk_below (g:=gb261) (o:=.cells #[.slice none 0 0,.slice none 0 0,.slice none 0 0] 26 (0,0)) (by (with_reducible repeat (first|refine blk_drewN ?_ _|refine blk_drew ?_|refine blk_alloc ?_ _));exact BK261.out) hb)
   have n3_:=Aside0.mk (blk_below (g:=gb262) (o:=.cells #[.string (⟨#[83,75,49]⟩ : ByteArray),.string (⟨#[65,65,65]⟩ : ByteArray),.string (⟨#[66,66,66]⟩ : ByteArray),.int .i64 3000,.int .i64 3060,.string (⟨#[98,55,51,55]⟩ : ByteArray),.int .i64 1,.int .i64 1,.int .i64 2] 36 (0,0)) (by (with_reducible repeat (first|refine blk_drewN ?_ _|refine blk_drew ?_|refine blk_alloc ?_ _));exact BK262.out) hb)
   have n4_:=Aside0.mk (below_step (by repeat (first|(with_reducible first|exact HB.out|apply below_alloc|apply pw_below_drewN|apply below_drew1|refine below_set ?_ GE261.out|refine below_set ?_ GE262.out)|exact HB.out)) hb)
   have z_HO271:=fun (h0_ : b 3 = true)=>(show Kd.R k36 36 w11 w.heap.size (fun k_=>(w.heap.size ≤ k_) ∧ k_ ≠ gb262) v270 y269 from by first|exact (Kd.R_below (by (with_reducible repeat (first|apply Kd.R_alloc|apply Kd.R_drewN|apply Kd.R_drew));exact (Q_HO271 h0_)) hb)|exact Kd.R_mono (Kd.R_below (by (with_reducible repeat (first|apply Kd.R_alloc|apply Kd.R_drewN|apply Kd.R_drew));exact (Q_HO271 h0_)) hb) (fun _ h_=>by first|trivial|exact h_|exact h_.1))
   clear HO265
   clear BK261
   clear BK262
   clear HB
   have HO265:=n0_
   have HO268:=n1_
   have BK261:=n2_
   have BK262:=n3_
   have HB:=n4_
   clear n0_ n1_ n2_ n3_ n4_
   (try clear hb)
   (try clear hb2)
   (try clear hk)
   (try clear hi)
   (try clear ho0)
   refine hK.out _ _ ⟨v264,v267,v270,m4_,(by rw [ha.out];exact putSel_upk 1 hb_ rfl rfl rfl),fun _=>(by (with_reducible repeat (first|refine blk_drewN ?_ _|refine blk_drew ?_|refine blk_alloc ?_ _));exact BK261.out),(by (with_reducible repeat (first|refine blk_drewN ?_ _|refine blk_drew ?_|refine blk_alloc ?_ _));exact BK262.out),(by repeat (first|(with_reducible first|exact HB.out|apply below_alloc|apply pw_below_drewN|apply below_drew1|refine below_set ?_ GE261.out|refine below_set ?_ GE262.out)|exact HB.out)),fun _=>(by (with_reducible repeat (first|apply Kd.N_alloc|apply Kd.N_drewN|apply Kd.N_drew));exact Kd.N_mono HO265.out (fun _ hk=>by first|exact ⟨hk.1.1,⟨hk.2,⟨hk.1.2.1,hk.1.2.2⟩⟩⟩|(simp only [ne_eq] at hk ⊢;revert hk;simp only [and_imp];intros;(repeat' apply And.intro) <;> assumption))),fun _=>(by (with_reducible repeat (first|apply Kd.R_alloc|apply Kd.R_drewN|apply Kd.R_drew));exact Kd.R_mono HO268.out (fun _ hk=>hk.1)),z_HO271,fun h0_=>absurd ((hoff 5 (by kernel_rfl)).symm.trans h0_) (by decide),fun h0_=>absurd ((hoff 4 (by kernel_rfl)).symm.trans h0_) (by decide)⟩
  refine steps_cons ?_ ?_
  ·rintro b a w' ⟨v264,v267,v270,m4_,ha,Q_BK261,Q_BK262,Q_HB,Q_HO265,Q_HO268,Q_HO271,Q_BK261_e5,Q_X4_⟩ hb_ hon hoff
   refine ⟨_,rfl,fun K hK=>?_⟩
   have e1 : a.tmps[1]? = some (.pointer (some ⟨gb262,0,none⟩)):=by rw [ha];exact (putSel_off rfl).trans rfl
   replace ha:=Aside0.mk ha
   have BK261:=Aside0.mk (Q_BK261 (hoff 5 (by kernel_rfl)))
   have BK262:=Aside0.mk Q_BK262
   have HB:=Aside0.mk Q_HB
   have hc0_ : w'.cell? ⟨gb262,0,none⟩ = some (.string (⟨#[83,75,49]⟩ : ByteArray)):=(blk_cell BK262.out 0).trans rfl
   have hc1_ : w'.cell? ⟨gb262,1,none⟩ = some (.string (⟨#[65,65,65]⟩ : ByteArray)):=(blk_cell BK262.out 1).trans rfl
   have hc2_ : w'.cell? ⟨gb262,2,none⟩ = some (.string (⟨#[66,66,66]⟩ : ByteArray)):=(blk_cell BK262.out 2).trans rfl
   have hc3_ : w'.cell? ⟨gb262,3,none⟩ = some (.int .i64 3000):=(blk_cell BK262.out 3).trans rfl
   have hc4_ : w'.cell? ⟨gb262,4,none⟩ = some (.int .i64 3060):=(blk_cell BK262.out 4).trans rfl
   have hc5_ : w'.cell? ⟨gb262,5,none⟩ = some (.string (⟨#[98,55,51,55]⟩ : ByteArray)):=(blk_cell BK262.out 5).trans rfl
   have hc6_ : w'.cell? ⟨gb262,6,none⟩ = some (.int .i64 1):=(blk_cell BK262.out 6).trans rfl
   have hc7_ : w'.cell? ⟨gb262,7,none⟩ = some (.int .i64 1):=(blk_cell BK262.out 7).trans rfl
   have hc8_ : w'.cell? ⟨gb262,8,none⟩ = some (.int .i64 2):=(blk_cell BK262.out 8).trans rfl
   refine value_ (w1:=w') (v:=.agg #[.string (⟨#[83,75,49]⟩ : ByteArray),.string (⟨#[65,65,65]⟩ : ByteArray),.string (⟨#[66,66,66]⟩ : ByteArray),.int .i64 3000,.int .i64 3060,.string (⟨#[98,55,51,55]⟩ : ByteArray),.int .i64 1,.int .i64 1,.int .i64 2]) (by rfl) rfl ?_ ?_
   ·go_simp
    (try simp only [i64_w])
    try rfl
   refine hK.out _ _ ⟨v264,v267,v270,m4_,(by rw [ha.out];exact putSel_upk 2 hb_ rfl rfl rfl),Q_BK261,Q_BK262,Q_HB,Q_HO265,Q_HO268,fun h0_=>absurd ((hoff 3 (by kernel_rfl)).symm.trans h0_) (by decide),fun h0_=>absurd ((hoff 5 (by kernel_rfl)).symm.trans h0_) (by decide),fun h0_=>absurd ((hoff 4 (by kernel_rfl)).symm.trans h0_) (by decide)⟩
  refine steps_cons ?_ ?_
  ·rintro b a w' ⟨v264,v267,v270,m4_,ha,Q_BK261,Q_BK262,Q_HB,Q_HO265,Q_HO268,Q_HO271,Q_BK261_e5,Q_X4_⟩ hb_ hon hoff
   refine ⟨_,rfl,fun K hK=>?_⟩
   have e6 : a.tmps[6]? = some (.agg #[.string (⟨#[83,75,49]⟩ : ByteArray),.string (⟨#[65,65,65]⟩ : ByteArray),.string (⟨#[66,66,66]⟩ : ByteArray),.int .i64 3000,.int .i64 3060,.string (⟨#[98,55,51,55]⟩ : ByteArray),.int .i64 1,.int .i64 1,.int .i64 2]):=by rw [ha];exact putSel_on (e:=(2,6,.agg #[.string (⟨#[83,75,49]⟩ : ByteArray),.string (⟨#[65,65,65]⟩ : ByteArray),.string (⟨#[66,66,66]⟩ : ByteArray),.int .i64 3000,.int .i64 3060,.string (⟨#[98,55,51,55]⟩ : ByteArray),.int .i64 1,.int .i64 1,.int .i64 2])) 2 rfl rfl (hon 2 (by kernel_rfl)) rfl
   replace ha:=Aside0.mk ha
   have BK261:=Aside0.mk (Q_BK261 (hoff 5 (by kernel_rfl)))
   have BK262:=Aside0.mk Q_BK262
   have HB:=Aside0.mk Q_HB
   refine Kd.R_lit_step k36 _ 36 ?hg (N:=7) ?hd (xs:=([(⟨(⟨#[83,75,49]⟩ : ByteArray),(⟨#[65,65,65]⟩ : ByteArray),(⟨#[66,66,66]⟩ : ByteArray),3000,3060,(⟨#[98,55,51,55]⟩ : ByteArray),(⟨1,1,2⟩ : S34)⟩ : S36)] : List (S36))) (inner:=[.string (⟨#[83,75,49]⟩ : ByteArray),.string (⟨#[65,65,65]⟩ : ByteArray),.string (⟨#[66,66,66]⟩ : ByteArray),.int .i64 3000,.int .i64 3060,.string (⟨#[98,55,51,55]⟩ : ByteArray),.int .i64 1,.int .i64 1,.int .i64 2]) (ok:=fun _=>True) (okp:=fun _=>True) ?hr ?hp (fun _ hk=>hk) trivial (Below.refl _ _) (Nat.le_refl _) (by simp) ?_;(case hd=>rfl);(case hg=>rfl);(case hr=>first|(go_simp;done)|(go_simp;rfl));(case hp=>exact (Reps.c9 (show Kd.M k36 _ _ _ (⟨(⟨#[83,75,49]⟩ : ByteArray),(⟨#[65,65,65]⟩ : ByteArray),(⟨#[66,66,66]⟩ : ByteArray),3000,3060,(⟨#[98,55,51,55]⟩ : ByteArray),(⟨1,1,2⟩ : S34)⟩ : S36) [.string (⟨#[83,75,49]⟩ : ByteArray),.string (⟨#[65,65,65]⟩ : ByteArray),.string (⟨#[66,66,66]⟩ : ByteArray),.int .i64 3000,.int .i64 3060,.string (⟨#[98,55,51,55]⟩ : ByteArray),.int .i64 1,.int .i64 1,.int .i64 2] from (k36_mkM _ _ _ (⟨(⟨#[83,75,49]⟩ : ByteArray),(⟨#[65,65,65]⟩ : ByteArray),(⟨#[66,66,66]⟩ : ByteArray),3000,3060,(⟨#[98,55,51,55]⟩ : ByteArray),(⟨1,1,2⟩ : S34)⟩ : S36) )) (Reps.none _ _)))
   intro v270 w9 ho10 hb hg_ hnew_
   clear hg_ hnew_
   (first|rw [← Ny269.out] at ho10|(simp only [Int.reduceToNat] at ho10;rw [← Ny269.out] at ho10))
   have n0_:=Aside0.mk (Kd.R_lower (Kd.R_newB (Kd.R_newM (M:=fun k_=>(w.heap.size ≤ k_)) ho10 (below_size (by repeat (first|(with_reducible first|exact HB.out|apply below_alloc|apply pw_below_drewN|apply below_drew1|refine below_set ?_ GE261.out|refine below_set ?_ GE262.out)|exact HB.out))) (fun k_ h_=>h_)) (g:=gb262) (o:=.cells #[.string (⟨#[83,75,49]⟩ : ByteArray),.string (⟨#[65,65,65]⟩ : ByteArray),.string (⟨#[66,66,66]⟩ : ByteArray),.int .i64 3000,.int .i64 3060,.string (⟨#[98,55,51,55]⟩ : ByteArray),.int .i64 1,.int .i64 1,.int .i64 2] 36 (0,0)) (by (with_reducible repeat (first|refine blk_drewN ?_ _|refine blk_drew ?_|refine blk_alloc ?_ _));exact BK262.out)) (below_size (by repeat (first|(with_reducible first|exact HB.out|apply below_alloc|apply pw_below_drewN|apply below_drew1|refine below_set ?_ GE261.out|refine below_set ?_ GE262.out)|exact HB.out))))
   have n1_:=Aside0.mk (blk_below (g:=gb261) (o:=.cells #[.slice none 0 0,.slice none 0 0,.slice none 0 0] 26 (0,0)) (by (with_reducible repeat (first|refine blk_drewN ?_ _|refine blk_drew ?_|refine blk_alloc ?_ _));exact BK261.out) hb)
   have n2_:=Aside0.mk (blk_below (g:=gb262) (o:=.cells #[.string (⟨#[83,75,49]⟩ : ByteArray),.string (⟨#[65,65,65]⟩ : ByteArray),.string (⟨#[66,66,66]⟩ : ByteArray),.int .i64 3000,.int .i64 3060,.string (⟨#[98,55,51,55]⟩ : ByteArray),.int .i64 1,.int .i64 1,.int .i64 2] 36 (0,0)) (by (with_reducible repeat (first|refine blk_drewN ?_ _|refine blk_drew ?_|refine blk_alloc ?_ _));exact BK262.out) hb)
   have n3_:=Aside0.mk (below_step (by repeat (first|(with_reducible first|exact HB.out|apply below_alloc|apply pw_below_drewN|apply below_drew1|refine below_set ?_ GE261.out|refine below_set ?_ GE262.out)|exact HB.out)) hb)
   have z_HO265:=fun (h0_ : b 0 = true)=>(show Kd.N k42 42 w9 w.heap.size (fun k_=>(w.heap.size ≤ k_) ∧ k_ ≠ gb261 ∧ k_ ≠ gb262) v264 t263 from by first|exact (Kd.N_elder' (by (with_reducible repeat (first|apply Kd.N_alloc|apply Kd.N_drewN|apply Kd.N_drew));exact (Q_HO265 h0_)) (Kd.R_base ho10) hb)|exact Kd.N_mono (Kd.N_elder' (by (with_reducible repeat (first|apply Kd.N_alloc|apply Kd.N_drewN|apply Kd.N_drew));exact (Q_HO265 h0_)) (Kd.R_base ho10) hb) (fun _ h_=>by first|trivial|exact h_|exact h_.1))
   have z_HO268:=fun (h0_ : b 1 = true)=>(show Kd.R k39 39 w9 w.heap.size (fun k_=>(w.heap.size ≤ k_)) v267 t266 from by first|exact (Kd.R_below (by (with_reducible repeat (first|apply Kd.R_alloc|apply Kd.R_drewN|apply Kd.R_drew));exact (Q_HO268 h0_)) hb)|exact Kd.R_mono (Kd.R_below (by (with_reducible repeat (first|apply Kd.R_alloc|apply Kd.R_drewN|apply Kd.R_drew));exact (Q_HO268 h0_)) hb) (fun _ h_=>by first|trivial|exact h_|exact h_.1))
   clear BK261
   clear BK262
   clear HB
   have HO271:=n0_
   have BK261:=n1_
   have BK262:=n2_
   have HB:=n3_
   clear n0_ n1_ n2_ n3_
   clear hb ho10
   refine hK.out _ _ ⟨v264,v267,v270,m4_,(by rw [ha.out];exact putSel_upk 3 hb_ rfl rfl rfl),fun _=>(by (with_reducible repeat (first|refine blk_drewN ?_ _|refine blk_drew ?_|refine blk_alloc ?_ _));exact BK261.out),(by (with_reducible repeat (first|refine blk_drewN ?_ _|refine blk_drew ?_|refine blk_alloc ?_ _));exact BK262.out),(by repeat (first|(with_reducible first|exact HB.out|apply below_alloc|apply pw_below_drewN|apply below_drew1|refine below_set ?_ GE261.out|refine below_set ?_ GE262.out)|exact HB.out)),z_HO265,z_HO268,fun _=>(by (with_reducible repeat (first|apply Kd.R_alloc|apply Kd.R_drewN|apply Kd.R_drew));exact Kd.R_mono HO271.out (fun _ hk=>by first|exact ⟨hk.1.1,hk.2⟩|(simp only [ne_eq] at hk ⊢;revert hk;simp only [and_imp];intros;(repeat' apply And.intro) <;> assumption))),fun h0_=>absurd ((hoff 5 (by kernel_rfl)).symm.trans h0_) (by decide),fun h0_=>absurd ((hoff 4 (by kernel_rfl)).symm.trans h0_) (by decide)⟩
  refine steps_cons ?_ ?_
  ·rintro b a w' ⟨v264,v267,v270,m4_,ha,Q_BK261,Q_BK262,Q_HB,Q_HO265,Q_HO268,Q_HO271,Q_BK261_e5,Q_X4_⟩ hb_ hon hoff
   refine ⟨_,rfl,fun K hK=>?_⟩
   have e4 : a.tmps[4]? = some (v264):=by rw [ha];exact putSel_on (e:=(0,4,v264)) 0 rfl rfl (hon 0 (by kernel_rfl)) rfl
   have e5 : a.tmps[5]? = some (v267):=by rw [ha];exact putSel_on (e:=(1,5,v267)) 1 rfl rfl (hon 1 (by kernel_rfl)) rfl
   have e7 : a.tmps[7]? = some (v270):=by rw [ha];exact putSel_on (e:=(3,7,v270)) 3 rfl rfl (hon 3 (by kernel_rfl)) rfl
   replace ha:=Aside0.mk ha
   have BK261:=Aside0.mk (Q_BK261 (hoff 5 (by kernel_rfl)))
   have BK262:=Aside0.mk Q_BK262
   have HB:=Aside0.mk Q_HB
   have HO265:=Aside0.mk (Q_HO265 (hon 0 (by kernel_rfl)))
   have HO268:=Aside0.mk (Q_HO268 (hon 1 (by kernel_rfl)))
   have HO271:=Aside0.mk (Q_HO271 (hon 3 (by kernel_rfl)))
   obtain ⟨Ao4_0,co4_0,eo_⟩:=Kd.N_slice HO265.out
   subst eo_
   obtain ⟨Ao4_1,co4_1,eo_⟩:=Kd.R_slice HO268.out
   subst eo_
   obtain ⟨Ao4_2,co4_2,eo_⟩:=Kd.R_slice HO271.out
   subst eo_
   refine value_ (w1:=w') (v:=.agg #[.slice Ao4_0 t263.length co4_0,.slice Ao4_1 t266.length co4_1,.slice Ao4_2 y269.length co4_2]) (by rfl) rfl ?_ ?_
   ·go_simp
    (try simp only [i64_w])
    try rfl
   refine hK.out _ _ ⟨.slice Ao4_0 t263.length co4_0,.slice Ao4_1 t266.length co4_1,.slice Ao4_2 y269.length co4_2,(.agg #[.slice Ao4_0 t263.length co4_0,.slice Ao4_1 t266.length co4_1,.slice Ao4_2 y269.length co4_2]),(by rw [ha.out];exact putSel_upk 4 hb_ rfl rfl rfl),Q_BK261,Q_BK262,Q_HB,Q_HO265,Q_HO268,Q_HO271,fun h0_=>absurd ((hoff 5 (by kernel_rfl)).symm.trans h0_) (by decide),fun _=>rfl⟩
  refine steps_cons ?_ ?_
  ·rintro b a w' ⟨v264,v267,v270,m4_,ha,Q_BK261,Q_BK262,Q_HB,Q_HO265,Q_HO268,Q_HO271,Q_BK261_e5,Q_X4_⟩ hb_ hon hoff
   refine ⟨_,rfl,fun K hK=>?_⟩
   have e0 : a.tmps[0]? = some (.pointer (some ⟨gb261,0,none⟩)):=by rw [ha];exact (putSel_off rfl).trans rfl
   have e8 : a.tmps[8]? = some (m4_):=by rw [ha];exact putSel_on (e:=(4,8,m4_)) 4 rfl rfl (hon 4 (by kernel_rfl)) rfl
   rw [Q_X4_ (hon 4 (by kernel_rfl))] at e8
   replace ha:=Aside0.mk ha
   have BK261:=Aside0.mk (Q_BK261 hb_)
   have BK262:=Aside0.mk Q_BK262
   have HB:=Aside0.mk Q_HB
   have HO265:=Aside0.mk (Q_HO265 (hon 0 (by kernel_rfl)))
   have HO268:=Aside0.mk (Q_HO268 (hon 1 (by kernel_rfl)))
   have HO271:=Aside0.mk (Q_HO271 (hon 3 (by kernel_rfl)))
   obtain ⟨Ao17,co17,eo17⟩:=Kd.R_slice HO271.out
   (first|subst eo17|(injection eo17 with f1_ f2_ f3_;have f4_:=f1_.symm;have f5_:=f3_.symm;clear f1_ f2_ f3_;subst f4_;subst f5_))
   obtain ⟨Ao18,co18,eo18⟩:=Kd.R_slice HO268.out
   (first|subst eo18|(injection eo18 with f1_ f2_ f3_;have f4_:=f1_.symm;have f5_:=f3_.symm;clear f1_ f2_ f3_;subst f4_;subst f5_))
   obtain ⟨Ao19,co19,eo19⟩:=Kd.N_slice HO265.out
   (first|subst eo19|(injection eo19 with f1_ f2_ f3_;have f4_:=f1_.symm;have f5_:=f3_.symm;clear f1_ f2_ f3_;subst f4_;subst f5_))
   have hs20 : w'.cell? ⟨gb261,0,none⟩ = some (.slice none 0 0):=(blk_cell BK261.out 0).trans rfl
   have hfs20:=blk_frozen BK261.out 0
   have hns20_1:=NB262_261.out
   have hms20_1:=NB261_262.out
   have hs21 : w'.cell? ⟨gb261,1,none⟩ = some (.slice none 0 0):=(blk_cell BK261.out 1).trans rfl
   have hfs21:=blk_frozen BK261.out 1
   have hns21_1:=NB262_261.out
   have hms21_1:=NB261_262.out
   have hs22 : w'.cell? ⟨gb261,2,none⟩ = some (.slice none 0 0):=(blk_cell BK261.out 2).trans rfl
   have hfs22:=blk_frozen BK261.out 2
   have hns22_1:=NB262_261.out
   have hms22_1:=NB261_262.out
   refine skip_ (w1:=?_) (by rfl) rfl ?_ ?_
   rotate_left
   ·go_simp
    rfl
   refine hK.out _ _ ⟨.slice Ao19 t263.length co19,.slice Ao18 t266.length co18,.slice Ao17 y269.length co17,m4_,(by rw [ha.out];exact putSel_none (v:=undef) rfl),fun h0_=>absurd ((up_self b 5).symm.trans h0_) (by decide),(by (with_reducible repeat (first|refine blk_drewN ?_ _|refine blk_drew ?_|refine blk_alloc ?_ _));refine blk_far ?_ NB262_261.out _;(with_reducible repeat (first|refine blk_drewN ?_ _|refine blk_drew ?_|refine blk_alloc ?_ _));refine blk_far ?_ NB262_261.out _;(with_reducible repeat (first|refine blk_drewN ?_ _|refine blk_drew ?_|refine blk_alloc ?_ _));refine blk_far ?_ NB262_261.out _;(with_reducible repeat (first|refine blk_drewN ?_ _|refine blk_drew ?_|refine blk_alloc ?_ _));exact BK262.out),(by repeat (first|(with_reducible first|exact HB.out|apply below_alloc|apply pw_below_drewN|apply below_drew1|refine below_set ?_ GE261.out|refine below_set ?_ GE262.out)|exact HB.out)),fun _=>(by (with_reducible repeat (first|apply Kd.N_alloc|apply Kd.N_drewN|apply Kd.N_drew));exact Kd.N_mono (Kd.N_far (p:=⟨gb261,2,none⟩) (Kd.N_far (p:=⟨gb261,1,none⟩) (Kd.N_far (p:=⟨gb261,0,none⟩) (Kd.N_mono HO265.out (fun k_ hk=>(⟨hk,by simp only [ne_eq] at hk ⊢;revert hk;simp only [and_imp];intros;assumption⟩ : _ ∧ k_ ≠ gb261))) (fun _ hk=>hk.2) (.slice Ao19 t263.length co19)) (fun _ hk=>hk.2) (.slice Ao18 t266.length co18)) (fun _ hk=>hk.2) (.slice Ao17 y269.length co17)) (fun _ hk=>by first|exact ⟨hk.1.1,⟨hk.1.2.1,⟨hk.1.2.2.1,⟨hk.1.2.2.2.1,hk.1.2.2.2.2⟩⟩⟩⟩|(simp only [ne_eq] at hk ⊢;revert hk;simp only [and_imp];intros;(repeat' apply And.intro) <;> assumption))),fun _=>(by (with_reducible repeat (first|apply Kd.R_alloc|apply Kd.R_drewN|apply Kd.R_drew));exact Kd.R_mono (Kd.R_far (p:=⟨gb261,2,none⟩) (Kd.R_far (p:=⟨gb261,1,none⟩) (Kd.R_far (p:=⟨gb261,0,none⟩) (Kd.R_types HO268.out BK261.out (by decide)) (fun _ hk=>hk.2) (.slice Ao19 t263.length co19)) (fun _ hk=>hk.2) (.slice Ao18 t266.length co18)) (fun _ hk=>hk.2) (.slice Ao17 y269.length co17)) (fun _ hk=>hk.1)),fun _=>(by (with_reducible repeat (first|apply Kd.R_alloc|apply Kd.R_drewN|apply Kd.R_drew));exact Kd.R_mono (Kd.R_far (p:=⟨gb261,2,none⟩) (Kd.R_far (p:=⟨gb261,1,none⟩) (Kd.R_far (p:=⟨gb261,0,none⟩) (Kd.R_types HO271.out BK261.out (by decide)) (fun _ hk=>hk.2) (.slice Ao19 t263.length co19)) (fun _ hk=>hk.2) (.slice Ao18 t266.length co18)) (fun _ hk=>hk.2) (.slice Ao17 y269.length co17)) (fun _ hk=>by first|exact ⟨hk.1.1,hk.1.2⟩|(simp only [ne_eq] at hk ⊢;revert hk;simp only [and_imp];intros;(repeat' apply And.intro) <;> assumption))),fun _=>(by (with_reducible repeat (first|refine blk_drewN ?_ _|refine blk_drew ?_|refine blk_alloc ?_ _));refine blk_put (cs:=#[.slice Ao19 t263.length co19,.slice Ao18 t266.length co18,.slice none 0 0]) ?_ 2 _ rfl;(with_reducible repeat (first|refine blk_drewN ?_ _|refine blk_drew ?_|refine blk_alloc ?_ _));refine blk_put (cs:=#[.slice Ao19 t263.length co19,.slice none 0 0,.slice none 0 0]) ?_ 1 _ rfl;(with_reducible repeat (first|refine blk_drewN ?_ _|refine blk_drew ?_|refine blk_alloc ?_ _));refine blk_put (cs:=#[.slice none 0 0,.slice none 0 0,.slice none 0 0]) ?_ 0 _ rfl;(with_reducible repeat (first|refine blk_drewN ?_ _|refine blk_drew ?_|refine blk_alloc ?_ _));exact BK261.out),Q_X4_⟩
  exact steps_nil
 rintro b a w19 hall ⟨v264,v267,v270,m4_,ha,Q_BK261,Q_BK262,Q_HB,Q_HO265,Q_HO268,Q_HO271,Q_BK261_e5,Q_X4_⟩
 clear BK261 BK262 HB
 have hb0_:=hall 0 (by kernel_rfl)
 have hb1_:=hall 1 (by kernel_rfl)
 have hb2_:=hall 2 (by kernel_rfl)
 have hb3_:=hall 3 (by kernel_rfl)
 have hb4_:=hall 4 (by kernel_rfl)
 have hb5_:=hall 5 (by kernel_rfl)
 subst ha
 obtain rfl:=Q_X4_ hb4_
 simp only [putSel,hb0_,hb1_,hb2_,hb3_,hb4_,hb5_,if_true,Act.put,List.setIfInBounds_toArray,List.set_cons_zero,List.set_cons_succ]
 clear Q_BK261
 have BK262:=Aside0.mk Q_BK262
 clear Q_BK262
 have HB:=Aside0.mk Q_HB
 clear Q_HB
 have HO265:=Aside0.mk (Q_HO265 hb0_)
 clear Q_HO265
 have HO268:=Aside0.mk (Q_HO268 hb1_)
 clear Q_HO268
 have HO271:=Aside0.mk (Q_HO271 hb3_)
 clear Q_HO271
 have BK261:=Aside0.mk (Q_BK261_e5 hb5_)
 clear Q_BK261_e5
 clear hall hb0_ hb1_ hb2_ hb3_ hb4_ hb5_
 obtain ⟨Ao20,co20,eo20⟩:=Kd.R_slice HO271.out
 (first|subst eo20|(injection eo20 with f1_ f2_ f3_;have f4_:=f1_.symm;have f5_:=f3_.symm;clear f1_ f2_ f3_;subst f4_;subst f5_))
 obtain ⟨Ao21,co21,eo21⟩:=Kd.R_slice HO268.out
 (first|subst eo21|(injection eo21 with f1_ f2_ f3_;have f4_:=f1_.symm;have f5_:=f3_.symm;clear f1_ f2_ f3_;subst f4_;subst f5_))
 obtain ⟨Ao22,co22,eo22⟩:=Kd.N_slice HO265.out
 (first|subst eo22|(injection eo22 with f1_ f2_ f3_;have f4_:=f1_.symm;have f5_:=f3_.symm;clear f1_ f2_ f3_;subst f4_;subst f5_))
 try go_wp2
 refine bodyPost_ret (results_cell_row rfl _ _ gb261 26 #[.slice Ao22 t263.length co22,.slice Ao21 t266.length co21,.slice Ao20 y269.length co20] (0,0) _ rfl (by (with_reducible repeat (first|refine blk_drewN ?_ _|refine blk_drew ?_|refine blk_alloc ?_ _));exact BK261.out) Try.underlying26 rfl (by kernel_rfl)) rfl ?_
 exact ⟨_,_,_,by first|rfl|(simp [errW_none,errW_some] <;> rfl)|(simp [*,errW_none,errW_some] <;> rfl),by (with_reducible repeat (first|apply Kd.N_alloc|apply Kd.N_drewN|apply Kd.N_drew));exact Kd.N_mono HO265.out (fun _ hk=>hk.1),by (with_reducible repeat (first|apply Kd.R_alloc|apply Kd.R_drewN|apply Kd.R_drew));exact HO268.out,by (with_reducible repeat (first|apply Kd.R_alloc|apply Kd.R_drewN|apply Kd.R_drew));exact Kd.R_mono HO271.out (fun _ hk=>hk.1),by repeat (first|(with_reducible first|exact HB.out|apply below_alloc|apply pw_below_drewN|apply below_drew1|refine below_set ?_ GE261.out|refine below_set ?_ GE262.out)|exact HB.out)⟩
end Go.Proofs.Ytepnddmalheoiaa.Q
namespace Go.Proofs.Ytepnddmalheoiaa.Q
open Go.Proofs.Ytepnddmalheoiaa.H
open Go.RowKit Go.Proofs.YtepnddmalheoiaaW.PrintWords Go.Proofs.YtepnddmalheoiaaW.PrintLast Go.Proofs.YtepnddmalheoiaaW.PrintMore
set_option linter.unusedVariables false
set_option linter.unusedSimpArgs false
def exZ : List S42:=((pairinglaw9_example.f).getD ([],[],[])).1
def exP : List S39:=((pairinglaw9_example.f).getD ([],[],[])).2.1
def exF : List S36:=((pairinglaw9_example.f).getD ([],[],[])).2.2
theorem ex_f : pairinglaw9_example.f = some (exZ,exP,exF):=rfl
def exFr : List Int:=((timetable_Encode.f 60 exZ exP exF).getD ([],1)).1
theorem ex_enc : timetable_Encode.f 60 exZ exP exF = some (exFr,0):=by decide +kernel
def exD : List S42 × List S39 × List S36 × Int:=(timetable_Decode.f 60 exFr).getD ([],[],[],1)
theorem opt_getD {α : Type} {o : Option α} {d : α} (h : o.isSome = true) : o = some (o.getD d):=by
 cases o with
 | none=>cases h
 | some a=>rfl
theorem ex_dec : timetable_Decode.f 60 exFr = some exD:=opt_getD (by decide +kernel)
theorem ex_ok : exD.2.2.2 = 0:=by decide +kernel
theorem ex_len : exD.2.2.1.length = 1:=by decide +kernel
theorem ex_num : (rd_T36 exD.2.2.1 0).f0.toList = [83,75,49]:=by decide +kernel
theorem ex_no : timetable_Validate.f 60 [z42] [] [] = some 1:=by decide +kernel
set_option maxHeartbeats 8000000 in
set_option maxRecDepth 100000 in
theorem awake_calls (w : World) : Calls Try.prog 10 #[] w fun e w'=>e = .returned (.bool true) ∧ Below w.heap.size w w':=by
 have hB:=Below.refl w.heap.size w
 have HB:=Aside0.mk hB
 clear hB
 go_enter Try.func10,Try.ntmps10
 go_wp2_with fail
 refine (pairinglaw9_example.calls exZ exP exF _ ex_f).mono ?_
 rintro e_ w1 ⟨v0,v1,v2,rfl,hN,hP,hF,hb1⟩
 obtain ⟨A0,c0,rfl,hl0,hC0⟩:=Kd.N_reads hN
 obtain ⟨A1,c1,rfl,hl1,hC1⟩:=Kd.R_reads hP
 obtain ⟨A2,c2,rfl,hl2,hC2⟩:=Kd.R_reads hF
 have H0:=Aside0.mk hC0
 have H1:=Aside0.mk hC1
 have H2:=Aside0.mk hC2
 have L0:=Aside0.mk hl0
 have L1:=Aside0.mk hl1
 have L2:=Aside0.mk hl2
 have HB1:=Aside0.mk (below_step HB.out hb1)
 clear hN hP hF hb1 hC0 hC1 hC2 hl0 hl1 hl2
 go_wp2_with fail
 refine (timetable_Encode.calls 60 _ _ exZ _ _ exP _ _ exF exFr 0 _ H0.out L0.out H1.out L1.out H2.out L2.out ex_enc).mono ?_
 rintro e_ w2 ⟨v,rfl,hR,hb2⟩
 obtain ⟨A3,c3,rfl,hl3,hC3⟩:=Kd.R_reads hR
 have H3:=Aside0.mk hC3
 have L3:=Aside0.mk hl3
 have HB2:=Aside0.mk (below_step HB1.out hb2)
 clear hR hb2 hC3 hl3
 go_wp2_with fail
 refine (timetable_Decode.calls 60 _ _ exFr exD.1 exD.2.1 exD.2.2.1 exD.2.2.2 _ H3.out L3.out ex_dec).mono ?_
 rintro e_ w3 ⟨u0,u1,u2,rfl,hS,hP,hF,hb3⟩
 rw [ex_ok]
 obtain ⟨A4,c4,rfl,hl4,hC4⟩:=Kd.S_reads hS
 obtain ⟨A5,c5,rfl,hl5,hC5⟩:=Kd.R_reads hP
 obtain ⟨A6,c6,rfl,hl6,hC6⟩:=Kd.R_reads hF
 obtain ⟨ad,e0,hx0,_⟩:=at_T36 hC6 0 (by omega) (by rw [ex_len];decide)
 cases e0
 have HB3:=Aside0.mk (below_step HB2.out hb3)
 clear hS hP hF hb3 hC4 hC5 hl4 hl5 hl6
 have hen:=ex_num
 have hex:=ex_len
 generalize rd_T36 exD.2.2.1 0 = f at *
 rw [hex] at hC6 ⊢
 have ha0 : ad.add (Int.toNat 0 * 9) = ad:=by simp [Addr.add]
 rw [ha0] at hx0
 have hxx:=fun (o : Obj)=>(below_alloc (Below.refl w3.heap.size w3) o).cell (World.block_lt_of_cell? w3 _ hx0)
 have hxy:=fun (o : Obj)=>(hxx o).trans hx0
 have HX:=Aside0.mk hxy
 clear hxx hx0
 have HX1:=HX.out (.cells #[.slice A4 exD.1.length c4,.slice A5 exD.2.1.length c5,.slice (some ad) 1 c6] 26 (0,0))
 have d1 : (f.f0.toList == [83,75,49]) = true:=by rw [hen];rfl
 clear hen hex
 clear hxy ha0
 go_wp2_with fail
 have hz : ∀ (W : World),Kd.C k42 (W.alloc (.cells #[.string ⟨#[]⟩,.int .i64 0,.slice none 0 0] 42 (0,0))) (some ⟨W.heap.size,0,none⟩) [z42].length [z42]:=by
  intro W
  refine ⟨rfl,by decide,fun _=>⟨_,rfl,fun j p hj=>?_⟩⟩
  have hj0 : j = 0:=by
   have:=(List.getElem?_eq_some_iff.1 hj).1
   simpa using this
  subst hj0
  obtain rfl : z42 = p:=by simpa using hj
  refine ⟨[.string ⟨#[]⟩,.int .i64 0,.slice none 0 0],rfl,k42_mk _ z42 (A2:=none) (c2:=0) (Nat.le_refl _) ⟨rfl,by decide,fun h=>absurd h (by decide)⟩,fun i u hu=>?_⟩
  have hb:=heap_alloc_new W (.cells #[.string ⟨#[]⟩,.int .i64 0,.slice none 0 0] 42 (0,0))
  have hi : i < 3:=(List.getElem?_eq_some_iff.1 hu).1
  have h3:=blk_cell hb (0 * 3 + i)
  have hs : k42.sz = 3:=rfl
  rw [hs,add_plain]
  refine h3.trans ?_
  match i,hi with
  | 0,_=>exact hu
  | 1,_=>exact hu
  | 2,_=>exact hu
 have hN : ∀ (W : World),Kd.C k39 W none ([] : List S39).length []:=fun W=>⟨rfl,by decide,fun h=>absurd h (by decide)⟩
 have hM : ∀ (W : World),Kd.C k36 W none ([] : List S36).length []:=fun W=>⟨rfl,by decide,fun h=>absurd h (by decide)⟩
 have HZ:=hz (w3.alloc (.cells #[.slice A4 exD.1.length c4,.slice A5 exD.2.1.length c5,.slice (some ad) 1 c6] 26 (0,0)))
 have hsz : (w3.alloc (.cells #[.slice A4 exD.1.length c4,.slice A5 exD.2.1.length c5,.slice (some ad) 1 c6] 26 (0,0))).heap.size = w3.heap.size + 1:=by simp
 rw [hsz] at HZ
 refine (timetable_Validate.calls 60 _ _ [z42] _ _ [] _ _ [] 1 _ HZ (Nat.le_refl _) (hN _) (Nat.le_refl _) (hM _) (Nat.le_refl _) ex_no).mono ?_
 rintro e_ w4 ⟨rfl,hb4⟩
 have HB4:=Aside0.mk (below_step (below_alloc (below_alloc HB3.out _) _) hb4)
 clear hb4 hz hN hM HZ hsz
 go_wp2
 go_ret
 exact ⟨rfl,HB4.out⟩
end Go.Proofs.Ytepnddmalheoiaa.Q
namespace Go.Proofs.Ytepnddmalheoiaa.Q
open Go.Proofs.Ytepnddmalheoiaa.H
open Go.RowKit Go.Proofs.YtepnddmalheoiaaW.PrintWords Go.Proofs.YtepnddmalheoiaaW.PrintLast Go.Proofs.YtepnddmalheoiaaW.PrintMore
set_option linter.unusedVariables false
set_option linter.unusedSimpArgs false
theorem own_at {W : World} {base : Nat} {v : Value} {xs : List Int} (h : W.ownsRow base 5 1 v xs.length (nums .u8 xs)) (hp : 0 < xs.length) : ∃ g c,v = .slice (some ⟨g,0,none⟩) xs.length c ∧ base ≤ g ∧ xs.length ≤ c ∧ (∀ j : Int,0 ≤ j → j < xs.length → W.cell? ⟨g,j.toNat,none⟩ = some (.int .u8 (rd xs j))) ∧ (∀ j,W.frozen? ⟨g,j,none⟩ = false):=by
 rcases h.2 with ⟨_,h0⟩|⟨g,cap,cur,rfl,hg,hb,hc,_,_,ht⟩
 ·omega
 ·refine ⟨g,cap,rfl,hg,hc,fun j h0 h1=>?_,fun j=>blk_frozen hb j⟩
  rw [blk_cell hb]
  have hj : j.toNat < xs.length:=by omega
  have e : cur.toList[j.toNat]? = (nums .u8 xs)[j.toNat]?:=by
   rw [← ht,Nat.mul_one,List.getElem?_take,if_pos hj]
  rw [Array.getElem?_toList] at e
  rw [e]
  simp [nums,rd,List.getD_eq_getElem?_getD,hj]
set_option maxHeartbeats 8000000 in
set_option maxRecDepth 100000 in
theorem torn_calls (k : Nat) (A0 : Option Addr) (c0 : Nat) (l : List Int) (at0 by0 : Int) (zs : List S42) (ps : List S39) (fs : List S36) (b : List Int) (i i2 c g : Int) (z1 z2 z3 : List S42) (p1 p2 p3 : List S39) (f1 f2 f3 : List S36) (w : World) (hr0 : Kd.C (Kd.int .i64) w A0 l.length l) (hc0 : l.length ≤ c0)
  (hB : pairingbase_Timetable.f l = some (zs,ps,fs)) (hE : timetable_Encode.f k zs ps fs = some (b,0)) (hl0 : 0 < b.length) (hl1 : b.length ≤ 1099511627776) (hi : Int.tmod (Go.bits .and .i64 at0 65535) (b.length : Int) = i) (hi0 : 0 ≤ i) (hi1 : i < b.length)
  (hD1 : timetable_Decode.f k (b.take i.toNat) = some (z1,p1,f1,3)) (hi2 : i2 = if i = 1 ∨ i = 2 then 0 else i) (hc : Go.bits .xor .u8 (rd b i2) (Go.bits .or .u8 by0 1) = c) (hD2 : timetable_Decode.f k (b.set i2.toNat c) = some (z2,p2,f2,g)) (hg : g ≠ 0) (hD3 : timetable_Decode.f k (b ++ [by0]) = some (z3,p3,f3,2)) :
  Calls Try.prog 6 #[.slice A0 l.length c0,.int .i64 at0,.int .u8 by0] w fun e w'=>e = .returned (.bool true) ∧ Below w.heap.size w w':=by
 have HR:=Aside0.mk hr0
 have HC:=Aside0.mk hc0
 have HBa:=Aside0.mk hB
 have HE:=Aside0.mk hE
 have HD1:=Aside0.mk hD1
 have HD2:=Aside0.mk hD2
 have HD3:=Aside0.mk hD3
 have HI2:=Aside0.mk hi2
 have Hc:=Aside0.mk hc
 have Hi:=Aside0.mk hi
 have hB0:=Below.refl w.heap.size w
 have HB:=Aside0.mk hB0
 clear hr0 hc0 hB hE hD1 hD2 hD3 hi2 hc hi hB0
 go_enter Try.func6,Try.ntmps6
 go_wp2_with fail
 refine (pairingbase_Timetable.calls _ _ l zs ps fs _ HR.out HC.out HBa.out).mono ?_
 rintro e_ w1 ⟨v0,v1,v2,rfl,hS,hR1,hR2,hb1⟩
 obtain ⟨Az,cz,rfl,hlz,hCz⟩:=Kd.S_reads hS
 obtain ⟨Ap,cp,rfl,hlp,hCp⟩:=Kd.R_reads hR1
 obtain ⟨Af,cf,rfl,hlf,hCf⟩:=Kd.R_reads hR2
 have HZ:=Aside0.mk hCz
 have HP:=Aside0.mk hCp
 have HF:=Aside0.mk hCf
 have LZ:=Aside0.mk hlz
 have LP:=Aside0.mk hlp
 have LF:=Aside0.mk hlf
 have HB1:=Aside0.mk hb1
 clear hS hR1 hR2 hb1 hCz hCp hCf hlz hlp hlf
 go_wp2_with fail
 refine (timetable_Encode.calls k _ _ zs _ _ ps _ _ fs b 0 _ HZ.out LZ.out HP.out LP.out HF.out LF.out HE.out).mono ?_
 rintro e_ w2 ⟨v,rfl,hR,hb2⟩
 obtain ⟨Ab,cb,rfl,hlb,hCb⟩:=Kd.R_reads hR
 have Hb:=Aside0.mk hCb
 have Lb:=Aside0.mk hlb
 have HB2:=Aside0.mk (below_step HB1.out hb2)
 clear hR hb2 hCb hlb
 have hne : ((b.length : Int) == 0) = false:=beq_eq_false_iff_ne.mpr (by omega)
 have hnz : (b.length == 0) = false:=beq_eq_false_iff_ne.mpr (by omega)
 have hzd : ((b.length : Int) = 0) = False:=eq_false (by omega)
 have hzd2 : (b.length = 0) = False:=eq_false (by omega)
 have hti:=Hi.out
 obtain ⟨i0,hinf,_,hsz,_⟩:=info_parts infoB
 have hcut:=cut_to (P:=Try.prog) 46 5 .i64 Try.underlying46 hinf Ab b.length cb i hi0 (by omega) Lb.out
 have hlt : (b.take i.toNat).length = i.toNat:=by rw [List.length_take];omega
 have HTk:=Aside0.mk (Kd.C_take (m:=i.toNat) Hb.out (by omega))
 obtain ⟨y,hy⟩ : ∃ y,y = b.take i.toNat:=⟨_,rfl⟩
 rw [← hy] at hlt HTk
 rw [← hlt] at hcut
 have HD1':=HD1.out
 rw [← hy] at HD1'
 have HD:=Aside0.mk HD1'
 have Hl:=Aside0.mk (show y.length ≤ cb from by rw [hlt];have:=Lb.out;omega)
 clear HD1' HD1 hy hlt hinf hsz
 go_wp2_with fail
 refine (timetable_Decode.calls k _ _ y z1 p1 f1 3 _ HTk.out Hl.out HD.out).mono ?_
 rintro e_ w3 ⟨u0,u1,u2,rfl,hS,hR1,hR2,hb3⟩
 obtain ⟨A1,c1,rfl⟩:=Kd.S_slice hS
 obtain ⟨A2,c2,rfl⟩:=Kd.R_slice hR1
 obtain ⟨A3,c3,rfl⟩:=Kd.R_slice hR2
 have HB3:=Aside0.mk hb3
 clear hS hR1 hR2 hb3 hcut HTk HD Hl
 obtain ⟨T,hT⟩ : ∃ T,T = Obj.cells #[.slice A1 z1.length c1,.slice A2 p1.length c2,.slice A3 f1.length c3] 26 (0,0):=⟨_,rfl⟩
 have HB4:=Aside0.mk (below_alloc HB3.out T)
 have Hb4:=Aside0.mk (Kd.C_below Hb.out (below_alloc HB3.out T))
 subst hT
 go_upto_region 7 with (at_builtin;refine print_append_row (w0:=w2) w2.heap.size rfl (.const (.slice none 0 0)) (.tmp 42) 46 5 .u8 1 rfl Try.underlying46 infoB (by decide) (.slice none 0 0) [] b Ab b.length cb rfl rfl (own_nil _ _ _ _) (Kd.reads_of_C (enc:=Value.int .u8) (d:=(0 : Int)) (h1:=fun _=>rfl) Hb4.out) HB4.out HB4.out.size (by simp;omega) ?_;intro v1 w5 ho hb5 hg5 hat5;rw [List.nil_append] at ho;obtain ⟨gx,cx,rfl,hgx⟩:=own_at ho hl0;have hti:=True.intro;have HO5:=Aside0.mk ho;have HB5:=Aside0.mk hb5;have HGx:=Aside0.mk hgx;clear ho hb5 hg5 hat5 hgx)
 have hi2r : 0 ≤ i2 ∧ i2 < b.length:=by rw [HI2.out];split <;> omega
 go_cut [49] (fun v49 wc=>v49 = .bool (decide (i = 1 ∨ i = 2)) ∧ wc = w5)
 case first =>
  by_cases h1 : i = 1
  ·have d1 : (i == 1) = true:=beq_iff_eq.mpr h1
   have e:=Aside0.mk (show decide (i = 1 ∨ i = 2) = true from decide_eq_true (.inl h1))
   go_wp2
   go_meet
   case rel=>exact ⟨by rw [e.out],rfl⟩
  ·have d1 : (i == 1) = false:=beq_eq_false_iff_ne.mpr h1
   by_cases h2 : i = 2
   ·have d2 : (i == 2) = true:=beq_iff_eq.mpr h2
    have e:=Aside0.mk (show decide (i = 1 ∨ i = 2) = true from decide_eq_true (.inr h2))
    go_wp2
    go_meet
    case rel=>exact ⟨by rw [e.out],rfl⟩
   ·have d2 : (i == 2) = false:=beq_eq_false_iff_ne.mpr h2
    have e:=Aside0.mk (show decide (i = 1 ∨ i = 2) = false from decide_eq_false (by omega))
    go_wp2
    go_meet
    case rel=>exact ⟨by rw [e.out],rfl⟩
 case rest =>
 obtain ⟨rfl,rfl⟩:=hcut
 go_upto_if 49 with (fail)
 go_cut [9] (fun v9 wc'=>v9 = .int .i64 i2 ∧ wc' = wc)
 case first =>
  by_cases h1 : i = 1 ∨ i = 2
  ·have e:=Aside0.mk (show i2 = 0 from by rw [HI2.out,if_pos h1])
   have d1 : decide (i = 1 ∨ i = 2) = true:=decide_eq_true h1
   go_wp2
   go_meet
   case rel=>exact ⟨by rw [e.out],rfl⟩
  ·have e:=Aside0.mk (show i2 = i from by rw [HI2.out,if_neg h1])
   have d1 : decide (i = 1 ∨ i = 2) = false:=decide_eq_false h1
   go_wp2
   go_meet
   case rel=>exact ⟨by rw [e.out],rfl⟩
 case rest =>
  obtain ⟨rfl,rfl⟩:=hcut
  obtain ⟨W5,rfl⟩ : ∃ W5 : World,W5 = wc:=⟨_,rfl⟩
  have hx0:=HGx.out.2.2.1 i2 hi2r.1 hi2r.2
  have hx1:=HGx.out.2.2.2 i2.toNat
  have hp:=eq_true hi2r.1
  have hq:=eq_true hi2r.2
  have hc:=Hc.out
  have HRx:=Aside0.mk (Kd.R_put (Kd.R_of_own (ok:=fun _=>True) (h1:=fun _=>rfl) HO5.out (fun _ _=>trivial)) i2 c)
  have HB6:=Aside0.mk (below_set (j:=i2.toNat) (v:=.int .u8 c) HB5.out HGx.out.1)
  obtain ⟨hn6,hm6,hC6⟩:=Kd.R_reads' HRx.out.1
  have HCx:=timetable_Decode.calls k (some ⟨gx,0,none⟩) cx _ z2 p2 f2 g _ hC6 (by rw [← hn6];exact hm6) HD2.out
  rw [← hn6] at HCx
  have HCx':=Aside0.mk HCx
  clear hn6 hm6 hC6 HCx
  go_wp2_with fail
  refine HCx'.out.mono ?_
  rintro e_ w7 ⟨u0,u1,u2,rfl,hS,hR1,hR2,hb7⟩
  obtain ⟨A4,c4,rfl⟩:=Kd.S_slice hS
  obtain ⟨A5,c5,rfl⟩:=Kd.R_slice hR1
  obtain ⟨A6,c6,rfl⟩:=Kd.R_slice hR2
  have HB7:=Aside0.mk (below_step HB6.out hb7)
  clear hS hR1 hR2 hb7 hx0 hx1 hp hq hc HRx HCx' HO5 HGx
  obtain ⟨T,hT⟩ : ∃ T,T = Obj.cells #[.slice A4 z2.length c4,.slice A5 p2.length c5,.slice A6 f2.length c6] 26 (0,0):=⟨_,rfl⟩
  have HB8:=Aside0.mk (below_alloc HB7.out T)
  have Hb8:=Aside0.mk (Kd.C_below Hb.out HB8.out)
  subst hT
  go_wp2_with (first|(at_builtin;refine print_append_row (w0:=w2) w2.heap.size rfl (.const (.slice none 0 0)) (.tmp 66) 46 5 .u8 1 rfl Try.underlying46 infoB (by decide) (.slice none 0 0) [] b Ab b.length cb rfl rfl (own_nil _ _ _ _) (Kd.reads_of_C (enc:=Value.int .u8) (d:=(0 : Int)) (h1:=fun _=>rfl) Hb8.out) HB8.out HB8.out.size (by simp;omega) ?_;intro v1 w9 ho hb9 hg9 hat9;rw [List.nil_append] at ho;obtain ⟨gy,cy,rfl,hgy⟩:=own_at ho hl0;have HO9:=Aside0.mk ho;have HB9:=Aside0.mk hb9;have HO10:=Aside0.mk (own_alloc ho (.cells #[.int .u8 by0] 5 (0,0)));have HB10:=Aside0.mk (below_alloc hb9 (.cells #[.int .u8 by0] 5 (0,0)));have HL10:=Aside0.mk (lit_reads w9 .u8 5 (0,0) [by0] (by simp));clear ho hb9 hg9 hat9 hgy)|(at_builtin;refine print_append_row (w0:=w2) w2.heap.size rfl (.tmp 67) (.tmp 69) 46 5 .u8 1 rfl Try.underlying46 infoB (by decide) _ b [by0] (some ⟨w9.heap.size,0,none⟩) 1 1 rfl rfl HO10.out (Kd.reads_of_C (enc:=Value.int .u8) (d:=(0 : Int)) (h1:=fun _=>rfl) HL10.out) HB10.out HB10.out.size (by omega) ?_;intro v1 w11 ho hb11 hg11 hat11;have HR11:=Aside0.mk (Kd.R_of_own (ok:=fun _=>True) (h1:=fun _=>rfl) ho (fun _ _=>trivial));have HB11:=Aside0.mk hb11;clear ho hb11 hg11 hat11))
  obtain ⟨Ad,cd,rfl,hld,hCd⟩:=Kd.R_reads HR11.out
  refine (timetable_Decode.calls k Ad cd (b ++ [by0]) z3 p3 f3 2 _ hCd hld HD3.out).mono ?_
  rintro e_ w12 ⟨u0,u1,u2,rfl,hS,hR1,hR2,hb12⟩
  obtain ⟨A7,c7,rfl⟩:=Kd.S_slice hS
  obtain ⟨A8,c8,rfl⟩:=Kd.R_slice hR1
  obtain ⟨A9,c9,rfl⟩:=Kd.R_slice hR2
  have HB12:=Aside0.mk (below_step HB11.out hb12)
  clear hS hR1 hR2 hb12 hld hCd HR11
  have hg1 : (g == 0) = false:=beq_eq_false_iff_ne.mpr hg
  go_wp2_with fail
  refine (awake_calls _).mono ?_
  rintro e_ w13 ⟨rfl,hb13⟩
  have HB13:=Aside0.mk (below_step (below_alloc HB12.out _) hb13)
  clear hb13
  have hg2 : (g != 0) = true:=bne_iff_ne.mpr hg
  go_wp2_with fail
  go_ret
  exact ⟨by first|rfl|simp [hg2]|(rw [hg2];rfl),below_step HB2.out HB13.out⟩
end Go.Proofs.Ytepnddmalheoiaa.Q
namespace Go.Proofs.Ytepnddmalheoiaa.Q
open Go.Proofs.Ytepnddmalheoiaa.H Go.Proofs.Ytepnddmalheoiaa.TtA Go.Proofs.Ytepnddmalheoiaa.TtB Go.Proofs.Ytepnddmalheoiaa.TtC Go.Proofs.Ytepnddmalheoiaa.WireA Go.Proofs.Ytepnddmalheoiaa.WireC Go.Proofs.Ytepnddmalheoiaa.Cod
open Go.RowKit Go.Proofs.YtepnddmalheoiaaW.PrintWords Go.Proofs.YtepnddmalheoiaaW.PrintLast Go.Proofs.YtepnddmalheoiaaW.PrintMore
set_option linter.unusedVariables false
set_option linter.unusedSimpArgs false
theorem num_sz (i : Int) (h0 : 0 ≤ i) (h1 : i ≤ 6) : (numF i).size ≤ 4:=by
 obtain rfl|rfl|rfl|rfl|rfl|rfl|rfl : i = 0 ∨ i = 1 ∨ i = 2 ∨ i = 3 ∨ i = 4 ∨ i = 5 ∨ i = 6:=by omega
 all_goals decide +kernel
theorem cod_sz (i : Int) (h0 : 0 ≤ i) (h1 : i ≤ 2) : (codeF i).size ≤ 4 ∧ (typeF i).size ≤ 4:=by
 obtain rfl|rfl|rfl : i = 0 ∨ i = 1 ∨ i = 2:=by omega
 all_goals decide +kernel
theorem good_mem {fs : List S36} (h : GoodL fs) (f : S36) (hf : f ∈ fs) : f.f0.size ≤ 4 ∧ f.f1.size ≤ 4 ∧ f.f2.size ≤ 4 ∧ U62 f.f3 ∧ U62 f.f4 ∧ f.f5.size ≤ 4 ∧ f.f6 = ⟨1,1,2⟩:=by
 have hl:=h.len
 obtain ⟨j,hj,rfl⟩:=List.getElem_of_mem hf
 have e : rd_T36 fs (j : Int) = fs[j]:=by rw [rd_nat,List.getD_eq_getElem?_getD,List.getElem?_eq_getElem hj];rfl
 obtain ⟨_,h0,h1,h2,h3,h4,a,t,q,a0,a1,t0,t1,_,q0,q1,e1,e2,e5,e6⟩:=h.at_ j hj
 rw [e] at h0 h1 h2 h3 h4 e1 e2 e5 e6
 rw [h0,e1,e2,e5,e6]
 exact ⟨num_sz _ (by omega) (by omega),(cod_sz a a0 a1).1,(cod_sz t t0 t1).1,⟨by omega,by omega⟩,⟨by omega,by omega⟩,(cod_sz q q0 q1).2,rfl⟩
theorem okB : (∀ z ∈ zonesB,OkZone z) ∧ (∀ p ∈ portsB,OkPort p):=by
 simp only [OkZone,OkPort,OkShift,T20,I61,U62]
 decide +kernel
theorem good_ok {fs : List S36} (h : GoodL fs) : OkT zonesB portsB fs where
 zl:=by decide
 pl:=by decide
 fl:=by have:=h.len;omega
 z:=okB.1
 p:=okB.2
 f:=fun f hf=>by
  obtain ⟨a,b,c,d,e,g,i⟩:=good_mem h f hf
  rw [OkFlight,i]
  unfold T20 U62
  exact ⟨by omega,by omega,by omega,d,e,by omega,by decide,by decide,by decide⟩
theorem t_len {s : ByteArray} (h : s.size ≤ 4) : (textF s).length ≤ 13:=by
 have:=text_len s;have:=enc_len (s.size : Int);omega
theorem fl_len (fs : List S36) : (∀ f ∈ fs,f.f0.size ≤ 4 ∧ f.f1.size ≤ 4 ∧ f.f2.size ≤ 4 ∧ f.f5.size ≤ 4) → (flightsL fs).length ≤ 97 * fs.length:=by
 induction fs with
 | nil=>intro _;exact Nat.le_refl _
 | cons f t ih =>
  intro h
  have:=ih fun x hx=>h x (List.mem_cons_of_mem _ hx)
  obtain ⟨a,b,c,d⟩:=h f List.mem_cons_self
  have:=t_len a;have:=t_len b;have:=t_len c;have:=t_len d
  have:=enc_len f.f3;have:=enc_len f.f4;have:=enc_len f.f6.f0;have:=enc_len f.f6.f1;have:=enc_len f.f6.f2
  simp only [flightsL,flightL,List.length_append,List.length_cons]
  omega
theorem fixB : (enc (zonesB.length : Int)).length + (zonesL zonesB).length + (enc (portsB.length : Int)).length + (portsL portsB).length ≤ 1000:=by decide +kernel
theorem good_len {fs : List S36} (h : GoodL fs) : (bodyL zonesB portsB fs).length ≤ 2000:=by
 have hl:=h.len
 have h1:=fl_len fs fun f hf=>by obtain ⟨a,b,c,d,e,g,i⟩:=good_mem h f hf;exact ⟨a,b,c,g⟩
 have h2:=fixB
 have h3:=enc_len (fs.length : Int)
 simp only [bodyL,List.length_append]
 omega
theorem or_one (y : Int) (h0 : 0 ≤ y) (h1 : y ≤ 255) : 1 ≤ Go.bits .or .u8 y 1 ∧ Go.bits .or .u8 y 1 ≤ 255:=by
 obtain ⟨n,rfl⟩ : ∃ n : Nat,y = n:=⟨y.toNat,by omega⟩
 have key : ∀ m : Fin 256,1 ≤ Go.bits .or .u8 ((m : Nat) : Int) 1 ∧ Go.bits .or .u8 ((m : Nat) : Int) 1 ≤ 255:=by decide +kernel
 exact key ⟨n,by omega⟩
theorem flip_nat (v c : Nat) (hv : v < 256) (hc : c < 256) (h0 : 0 < c) : (0 ≤ Go.bits .xor .u8 (v : Int) (c : Int) ∧ Go.bits .xor .u8 (v : Int) (c : Int) ≤ 255) ∧ Go.bits .xor .u8 (v : Int) (c : Int) ≠ v:=by
 rw [bits_xor8 v c hv hc]
 have h1 : v ^^^ c < 256:=Nat.xor_lt_two_pow (n:=8) hv hc
 refine ⟨by omega,fun h=>?_⟩
 have h2 : v ^^^ c = v:=by omega
 have h3:=congrArg (fun z=>v ^^^ z) h2
 simp only [← Nat.xor_assoc,Nat.xor_self,Nat.zero_xor] at h3
 omega
theorem flip1 (v y : Int) (hv : 0 ≤ v ∧ v ≤ 255) (h0 : 0 ≤ y) (h1 : y ≤ 255) : (0 ≤ Go.bits .xor .u8 v (Go.bits .or .u8 y 1) ∧ Go.bits .xor .u8 v (Go.bits .or .u8 y 1) ≤ 255) ∧ Go.bits .xor .u8 v (Go.bits .or .u8 y 1) ≠ v:=by
 obtain ⟨a,b⟩:=or_one y h0 h1
 generalize Go.bits .or .u8 y 1 = c at *
 obtain ⟨n,rfl⟩ : ∃ n : Nat,v = n:=⟨v.toNat,by omega⟩
 obtain ⟨m,rfl⟩ : ∃ m : Nat,c = m:=⟨c.toNat,by omega⟩
 exact flip_nat n m (by omega) (by omega) (by omega)
abbrev kO31 : Kd (List Int):=Kd.slice 3 (Kd.int .i64)
def gO31 (xs : List Int) : Prop:=(∀ x ∈ xs,InI x) ∧ xs.length * 8 ≤ 140737488351232
theorem oO31 : Opens Try.prog 31 kO31 gO31:=opens_slice Try.underlying31 o_int c_int (by kernel_rfl)
theorem ints_at {W : World} {l : List Int} {a : Option Addr} {len cap : Nat} (h : kO31.K W l [Value.slice a len cap]) : len = l.length ∧ Kd.C (Kd.int .i64) W a l.length l ∧ l.length ≤ cap:=by
 obtain ⟨A0,c0,he,l0,h0⟩:=h
 simp only [List.cons.injEq,Value.slice.injEq,and_true] at he
 obtain ⟨rfl,rfl,rfl⟩:=he
 exact ⟨rfl,h0,l0⟩
theorem TimetableTorn_walk (W : World) (a : Option Addr) (len cap : Nat) (l : List Int) (hK : kO31.K W l [Value.slice a len cap]) (hG : gO31 l) (at0 : Int) (w1_ : (Lit.int .i64 at0).wf = true) (y : Int) (w2_ : (Lit.int .u8 y).wf = true) :
  Calls Try.prog 6 #[.slice a len cap,.int .i64 at0,.int .u8 y] W fun e W'=>e = .returned (.bool true) ∧ Below W.heap.size W W':=by
 obtain ⟨rfl,hC,hcap⟩:=ints_at hK
 obtain ⟨y0,y1⟩:=bounds_u8 w2_
 have hat:=at_ok l hG.2
 have hB : pairingbase_Timetable.f l = some (zonesB,portsB,bAll l):=by unfold pairingbase_Timetable.f;rw [if_pos hat]
 obtain ⟨hg,_⟩:=bAll_good l (atOk_of hat)
 generalize bAll l = fs at *
 have hok:=good_ok hg
 have hv : timetable_Validate.f 2000 zonesB portsB fs = some 0:=by rw [pvalid _ _ _ 2000 (by omega) (by omega),good_valid hg]
 have hlen:=good_len hg
 have hE:=encode_yes 2000 (by omega) (by omega) zonesB portsB fs hok hv (by omega)
 have hby:=by_body hok
 have hlong:=decode_long 2000 (by omega) zonesB portsB fs hok (by omega) y ⟨y0,y1⟩
 generalize bodyL zonesB portsB fs = body at *
 have hn:=frame_len 1 body
 have he:=enc_len (body.length : Int)
 have he2:=enc_short (body.length : Int) (by omega)
 have hfb : By (frameF 1 body):=frame_bytes 1 body (by omega) hby (by omega)
 obtain ⟨l0,l1⟩:=low16 at0
 have i0 : 0 ≤ Int.tmod (Go.bits .and .i64 at0 65535) ((frameF 1 body).length : Int) ∧ Int.tmod (Go.bits .and .i64 at0 65535) ((frameF 1 body).length : Int) < ((frameF 1 body).length : Int):=by
  rw [Int.tmod_eq_emod_of_nonneg l0];exact ⟨Int.emod_nonneg _ (by omega),Int.emod_lt_of_pos _ (by omega)⟩
 obtain ⟨i,hi⟩ : ∃ i,i = Int.tmod (Go.bits .and .i64 at0 65535) ((frameF 1 body).length : Int):=⟨_,rfl⟩
 rw [← hi] at i0
 obtain ⟨i2,hi2⟩ : ∃ i2,i2 = if i = 1 ∨ i = 2 then 0 else i:=⟨_,rfl⟩
 have r2 : (i2 = 0 ∨ 3 ≤ i2) ∧ 0 ≤ i2 ∧ i2 < ((frameF 1 body).length : Int):=by rw [hi2];split <;> omega
 obtain ⟨p,rfl⟩ : ∃ p : Nat,i2 = p:=⟨i2.toNat,by omega⟩
 have hmem:=hfb _ (rd_mem (frameF 1 body) (p : Int) (by omega) (by omega))
 have hr : rd (frameF 1 body) (p : Int) = (frameF 1 body).getD p 0:=by simp [rd]
 obtain ⟨c1,c2⟩:=flip1 (rd (frameF 1 body) (p : Int)) y hmem y0 y1
 obtain ⟨c,hc⟩ : ∃ c,c = Go.bits .xor .u8 (rd (frameF 1 body) (p : Int)) (Go.bits .or .u8 y 1):=⟨_,rfl⟩
 rw [← hc,hr] at c2
 rw [← hc] at c1
 have hset : By ((frameF 1 body).set p c):=fun x hx=>(List.mem_or_eq_of_mem_set hx).elim (hfb x) fun h=>by rw [h];exact c1
 have hu : (unf ((frameF 1 body).set p c)).2.2.2 = 4:=by
  rcases r2.1 with h|h
  ·obtain rfl : p = 0:=by omega
   exact kind_set 1 body c (by omega) (by omega) hby c1 (by simpa [frameF] using c2)
  ·exact unframe_set 1 body p c (by omega) (by omega) hby c1 (by omega) (by omega) c2
 have hD1:=decode_err 2000 ((frameF 1 body).take i.toNat) 3 (fun x hx=>hfb x (List.mem_of_mem_take hx)) (by rw [List.length_take];omega) (unframe_prefix 1 body i.toNat (by omega) (by omega)) (by omega)
 have hD2:=decode_err 2000 ((frameF 1 body).set p c) 4 hset (by rw [List.length_set];omega) hu (by omega)
 exact torn_calls 2000 a cap l at0 y zonesB portsB fs (frameF 1 body) i p c 4 [] [] [] [] [] [] [] [] [] W hC hcap hB hE (by omega) (by omega) hi.symm i0.1 i0.2 hD1 hi2 hc.symm hD2 (by omega) hlong
end Go.Proofs.Ytepnddmalheoiaa.Q
namespace Go.Proofs.Ytepnddmalheoiaa.timetableTorn
open Go.ChangeShapes Go.WideShapes Go.ChangeAt Go.RowKit
open Go.ChangeMaps (open_string shut_string)
open Go.Proofs.YtepnddmalheoiaaW
set_option linter.unusedVariables false
theorem own : ownKnob Try.prog.godebug = none:=by kernel_rfl
theorem laidOut : laidOutB Try.prog = true:=by kernel_rfl
set_option maxRecDepth 100000 in
theorem lifted (os : Os) (started : os.Started) (H : Type) (enc : TypeId × Value → H) :
  ReturnsInHanded {} Try.checked os 6 .any (Rows.timetableTornSpec.pre6 enc Try.prog Try.f6 Rows.timetableTornRow.domain false) (Rows.timetableTornSpec.post enc Try.prog Try.f6 false true false false):=by
 refine returnsInHanded_of_change_sized (C:=Try.checked) own started (by kernel_rfl) Try.func6
  (ChangeSpec.witness6 (enc:=enc) (C:=Try.checked) false ⟨#[],#[.slice none 0 0,.int .i64 0,.int .u8 0],[]⟩ 8 (by kernel_rfl) (by kernel_rfl) (by kernel_rfl) (by kernel_rfl)) ?_
 intro W base args ds gs before hval0 hW hcnd hsz0 _
 have hsz : (DataW.weightsEach Try.prog (Try.f6.params.toList ++ Rows.timetableTornSpec.plain.varTypes Try.prog) (ds ++ gs)).all (· ≤ reachBytes) = true:=hsz0
 have hval : ∀ (j : Nat) t v,Try.f6.params[j]? = some t → args[j]? = some v → Value.okWide Try.prog W .any base t v:=hval0
 have hW':=hW
 obtain ⟨p,q,hA0,hV,rfl,hfz,hnd⟩:=hW
 have hA : DataW.TrodAll enc Try.prog W 0 (fun _=>true) true Try.f6.params.toList args.toList ds p:=hA0
 rw [Try.params6] at hA hval hsz
 obtain ⟨v0,vs0,d0,ds0,p0,q0,hargs,rfl,rfl,h0,r0⟩:=trodAll_cons hA
 obtain ⟨v1,vs1,d1,ds1,p1,q1,rfl,rfl,rfl,h1,r1⟩:=trodAll_cons r0
 obtain ⟨v2,vs2,d2,ds2,p2,q2,rfl,rfl,rfl,h2,r2⟩:=trodAll_cons r1
 obtain ⟨rfl,rfl,rfl⟩:=trodAll_nil r2
 obtain rfl : args = #[v0,v1,v2]:=by cases args;simp_all
 obtain ⟨rfl,rfl⟩:=trodVars_none hV
 have k0:=h0
 have lt0 : ∀ x ∈ p0,x.block < W.heap.size:=by obtain ⟨m,hm⟩:=k0;exact DataW.trod_lt m _ _ _ hm
 obtain ⟨a0,len0,cap0,rfl⟩:=okWide_slice Try.underlying31 (hval 0 31 v0 rfl rfl)
 obtain ⟨y0,hy0,hg0⟩ : ∃ y,(Q.kO31).K W y [Value.slice a0 len0 cap0] ∧ Q.gO31 y:=by obtain ⟨fuel,hf⟩:=h0;exact Q.oO31 H enc W 0 _ _ fuel _ _ hf (fun n hn=>by have:=List.all_eq_true.1 hsz n (DataW.weights_mem_each (j:=0) (t:=31) rfl rfl n hn);simpa using this)
 obtain ⟨a1,rfl,rfl,rfl,w1⟩:=open_int Try.underlying3 (hval 1 3 v1 rfl rfl) h1
 obtain ⟨a2,rfl,rfl,rfl,w2⟩:=open_int Try.underlying5 (hval 2 5 v2 rfl rfl) h2
 clear hA0 hval0 hsz0 hsz
 refine (Q.TimetableTorn_walk W a0 len0 cap0 y0 hy0 hg0 a1 w1 a2 w2).mono fun e W' ⟨he,bel⟩=>?_
 subst he
 exact ⟨_,rfl,_,_,_,[],_,[],hW',trodAll_mk1 (shut_bool Try.underlying4 _),(trodAll_cons_mk (Below.trod laidOut (by kernel_rfl) (of_decide_eq_true (by kernel_rfl)) k0 bel lt0) (trodAll_cons_mk (shut_int Try.underlying3 w1) (trodAll_cons_mk (shut_int Try.underlying5 w2) trodAll_mk0))),rfl,bel.frame _,fun h=>by cases h⟩
theorem over : Rows.timetableTornRow.holds Try.pinned (OpenSpec.ofChange Rows.timetableTornSpec) :=
 OpenClaim.holds_of_wide 6 Try.f6 rfl rfl rfl rfl rfl rfl rfl ⟨rfl,rfl,rfl,rfl,rfl⟩ rfl rfl rfl rfl rfl (by kernel_rfl) Try.func6 (by kernel_rfl)
  (of_decide_eq_true (by kernel_rfl)) (by unfold Func.isWrapper;first|(rw [if_pos (by decide +kernel)];kernel_rfl)|(rw [if_neg (by decide +kernel)];exact ⟨rfl,rfl⟩))
  (fun os started H enc _=>lifted os started H enc)
theorem proved : Rows.TimetableTornSaid:=over
end Go.Proofs.Ytepnddmalheoiaa.timetableTorn
namespace Go.Proofs.Ytepnddmalheoiaa
theorem timetableTorn_holds : Rows.TimetableTornSaid:=timetableTorn.proved
end Go.Proofs.Ytepnddmalheoiaa
