/- The law timetableFinds, proved: for every input the call answers true. -/
import Derived.Test.YtepnddmalheoiaaProg
import Derived.Below
import Derived.Deep.Draws
import Derived.Deep.AppendLies
import Derived.Maps.AppendAt
import Derived.OwnWalk
import Derived.Laws.BytesArg
import Derived.Laws.MakeOwn
import Derived.Laws.OwnMore
import Derived.Deep.OwnRows
import Derived.Tactics
import Derived.Lib.ConvBytes
import Derived.Laws.Slices
import Derived.WalkKit
import Derived.KernelRfl
import Derived.RowKit3
import Derived.Deep.LoopGhost
import Derived.Deep.QuietTactic
import Derived.BigQuiet
import Derived.WideLaws
import Derived.Deep.DeepCutAuto
import Derived.Deep.CutBlock
import Derived.Deep.RegionHeld3
import Derived.Laws.Rows
import Derived.Lib.AppendStr
import Derived.ArgAppend
import Derived.Laws.IdiomCopy
import Derived.OrdersHeld
import Derived.Laws.BitsLemmas
import Derived.RowKit
import Derived.Deep.WholeRow
import Derived.Laws.ResultCell
import Derived.Lib.SlBytesConst
import Derived.Outline
import Derived.IntWalk
import Derived.Laws.StructEq
import Derived.Test.YtepnddmalheoiaaRows
import Derived.ProofKit
import Derived.OpenShut
import Derived.ShutString
import Derived.ChangeOld
import Derived.SizedLaws
import Derived.ChangeSlices
import Derived.Test.YtepnddmalheoiaaSF0
import Derived.Test.YtepnddmalheoiaaSF1
import Derived.Test.YtepnddmalheoiaaSF2
import Derived.Test.YtepnddmalheoiaaSF3
import Derived.Test.YtepnddmalheoiaaSF4
import Derived.Test.YtepnddmalheoiaaSF5
import Derived.Test.YtepnddmalheoiaaSF6
import Derived.Test.YtepnddmalheoiaaSF7
import Derived.Test.YtepnddmalheoiaaSF8
import Derived.Test.YtepnddmalheoiaaSF9
import Derived.Test.YtepnddmalheoiaaSF10
import Derived.Test.YtepnddmalheoiaaSF11
namespace Go.Proofs.Ytepnddmalheoiaa.Q
open Go.Proofs.Ytepnddmalheoiaa.H
open Go.RowKit Go.Proofs.YtepnddmalheoiaaW.PrintWords Go.Proofs.YtepnddmalheoiaaW.PrintLast Go.Proofs.YtepnddmalheoiaaW.PrintMore
attribute [local go_sem] str_leq str_geq str_gtr max2_int min2_int max_two min_two max_three min_three max_four min_four   -- for this text's walks alone
set_option linter.unusedVariables false
set_option linter.unusedSimpArgs false
mutual
def pairinglaw9_TimetableFinds.l0 : Nat → Int → List (S42) → List (S39) → List (S36) → Option (Bool)
 | 0,_,_,_,_=>none
 | k + 1,x4,x304000,x304001,x304002=>if x4 < (x304002.length : Int) then (if 0 ≤ x4 then ((timetable_FindFlight.f k x304000 x304001 x304002 ((rd_T36 x304002 x4).f0) ((rd_T36 x304002 x4).f3)).bind fun bt307=>((timetable_Departures.f k x304000 x304001 x304002 ((rd_T36 x304002 x4).f1) ((rd_T36 x304002 x4).f3) (wrap64 (((rd_T36 x304002 x4).f3) + 1))).bind fun bt309=>(if bt307.2 = 0 then (if bt307.1 = x4 then (pairinglaw9_TimetableFinds.j1 k x4 bt309.1 (bt309.2 != 0) x304000 x304001 x304002) else (pairinglaw9_TimetableFinds.j1 k x4 bt309.1 true x304000 x304001 x304002)) else (pairinglaw9_TimetableFinds.j1 k x4 bt309.1 true x304000 x304001 x304002)))) else (none)) else ((pairinglaw9_awake.f k).bind fun t304=>(some t304))
def pairinglaw9_TimetableFinds.j1 : Nat → Int → List Int → Bool → List (S42) → List (S39) → List (S36) → Option (Bool)
 | 0,_,_,_,_,_,_=>none
 | k + 1,x4,x8,x58,x304000,x304001,x304002=>if x58 = true then (some false) else (pairinglaw9_TimetableFinds.l1 k x4 x8 false 0 x304000 x304001 x304002)
def pairinglaw9_TimetableFinds.l1 : Nat → Int → List Int → Bool → Int → List (S42) → List (S39) → List (S36) → Option (Bool)
 | 0,_,_,_,_,_,_,_=>none
 | k + 1,x4,x8,x10,x11,x304000,x304001,x304002=>if x11 < (x8.length : Int) then (if x10 = true then (pairinglaw9_TimetableFinds.l1 k x4 x8 true (wrap64 (x11 + 1)) x304000 x304001 x304002) else (if 0 ≤ x11 then (pairinglaw9_TimetableFinds.l1 k x4 x8 ((rd x8 x11) == x4) (wrap64 (x11 + 1)) x304000 x304001 x304002) else (none))) else (if x10 = true then (pairinglaw9_TimetableFinds.l0 k (wrap64 (x4 + 1)) x304000 x304001 x304002) else (some false))
end
def pairinglaw9_TimetableFinds.f (k : Nat) (l0 : List Int) : Option (Bool):=(pairingbase_Timetable.f l0).bind fun bt294=>(pairinglaw9_TimetableFinds.l0 k 0 bt294.1 bt294.2.1 bt294.2.2)
set_option maxHeartbeats 8000000 in
set_option maxRecDepth 100000 in
theorem pairinglaw9_TimetableFinds.calls (k : Nat) (A0 : Option Addr) (c0 : Nat) (l0 : List Int) (r : Bool) (w : World) (hr0 : Kd.C (Kd.int .i64) w A0 l0.length l0) (hc0 : l0.length ≤ c0) (h : pairinglaw9_TimetableFinds.f k l0 = some r) :
  Calls Try.prog 7 #[.slice A0 l0.length c0] w fun e w'=>e = .returned (.bool r) ∧ Below w.heap.size w w':=by
 have hu26:=Try.underlying26
 have hu36:=Try.underlying36
 have hu59:=Try.underlying59
 have HR0:=Aside0.mk hr0
 have HC0:=Aside0.mk hc0
 clear hr0 hc0
 have HB:=Aside0.mk (Below.refl w.heap.size w)
 have H : ((pairingbase_Timetable.f l0).bind fun bt294=>(pairinglaw9_TimetableFinds.l0 k 0 bt294.1 bt294.2.1 bt294.2.2)) = some r:=h
 clear h
 replace H:=Option.bind_eq_some_iff.mp H
 obtain ⟨⟨t294,t297,t300⟩,A20,H⟩:=H
 replace H : (pairinglaw9_TimetableFinds.l0 k 0 t294 t297 t300) = some r:=H
 have A2:=Aside0.mk A20
 clear A20
 have H':=Aside0.mk H
 clear H
 go_enter Try.func7,Try.ntmps7
 go_wp2_with (first|((with_reducible refine gate_callee (f:=13) rfl ?_);refine goesL_ (some 13) rfl rfl Try.func13 (by kernel_rfl) rfl #[.slice A0 l0.length c0] rfl (by (try simp only [List.map_toArray,List.map_cons,List.map_nil]);first|done|rfl|(simp only [List.length_drop,List.length_take];rfl)) ?_;(with_reducible refine (pairingbase_Timetable.calls _ _ l0 t294 t297 t300 _ ?side1 ?side2 A2.out).mono ?_);(case side1=>repeat (first|exact HR0.out|(with_reducible refine Kd.C_alloc ?_ _)|(with_reducible refine Kd.C_drewN ?_ _)|(with_reducible refine Kd.C_drew ?_)));(case side2=>exact HC0.out);rintro e w3 ⟨v295,v298,v301,rfl,ho0,ho1,ho2,hb⟩;refine ⟨_,rfl,?_⟩;have n0_:=Aside0.mk (Kd.S_lower ho0 (below_size (by repeat (first|(with_reducible first|exact HB.out|apply below_alloc|apply pw_below_drewN|apply below_drew1)|exact HB.out))));have n1_:=Aside0.mk (Kd.R_lower ho1 (below_size (by repeat (first|(with_reducible first|exact HB.out|apply below_alloc|apply pw_below_drewN|apply below_drew1)|exact HB.out))));have n2_:=Aside0.mk (Kd.R_lower ho2 (below_size (by repeat (first|(with_reducible first|exact HB.out|apply below_alloc|apply pw_below_drewN|apply below_drew1)|exact HB.out))));have n3_:=Aside0.mk (below_step (by repeat (first|(with_reducible first|exact HB.out|apply below_alloc|apply pw_below_drewN|apply below_drew1)|exact HB.out)) hb);clear HB;have HO296:=n0_;have HO299:=n1_;have HO302:=n2_;have HB:=n3_;clear n0_ n1_ n2_ n3_;(try clear hb);(try clear hb2);(try clear hk);(try clear hi);(try clear ho0);(try clear ho1);(try clear ho2))|((with_reducible refine gate_dst (N:=3) rfl ?_);refine box_event ?hg (N:=3) ?hd (cs:=#[.slice none 0 0,.slice none 0 0,.slice none 0 0]) (t:=26) ?hr ?_;(case hd=>rfl);(case hg=>rfl);(case hr=>first|(go_simp;done)|(go_simp;rfl));intro gb303 hg w4 hbox hb;have n0_:=Aside0.mk (Kd.S_below (by (with_reducible repeat (first|apply Kd.S_alloc|apply Kd.S_drewN|apply Kd.S_drew));exact HO296.out) hb);have n1_:=Aside0.mk (Kd.R_below (by (with_reducible repeat (first|apply Kd.R_alloc|apply Kd.R_drewN|apply Kd.R_drew));exact HO299.out) hb);have n2_:=Aside0.mk (Kd.R_below (by (with_reducible repeat (first|apply Kd.R_alloc|apply Kd.R_drewN|apply Kd.R_drew));exact HO302.out) hb);have n3_:=Aside0.mk (below_step (by repeat (first|(with_reducible first|exact HB.out|apply below_alloc|apply pw_below_drewN|apply below_drew1)|exact HB.out)) hb);have n4_:=Aside0.mk (hbox);have n5_:=Aside0.mk ((by rw [hg];exact (below_size (by repeat (first|(with_reducible first|exact HB.out|apply below_alloc|apply pw_below_drewN|apply below_drew1)|exact HB.out))) : w.heap.size ≤ gb303));have n6_:=Aside0.mk ((by rw [hg];exact (below_size (by repeat (first|(with_reducible first|exact HB.out|apply below_alloc|apply pw_below_drewN|apply below_drew1)|exact HB.out))) : w.heap.size ≤ gb303));clear HO296;clear HO299;clear HO302;clear HB;have HO296:=n0_;have HO299:=n1_;have HO302:=n2_;have HB:=n3_;have BK303:=n4_;have GW303:=n5_;have GE303:=n6_;clear n0_ n1_ n2_ n3_ n4_ n5_ n6_;clear hb hbox hg;obtain ⟨Ao5,co5,eo5⟩:=Kd.S_slice HO296.out;subst eo5;have hcz6_0 : w4.cell? ⟨gb303,0,none⟩ = some (.slice none 0 0):=(blk_cell BK303.out 0).trans rfl;have hcz6_1 : w4.cell? ⟨gb303,1,none⟩ = some (.slice none 0 0):=(blk_cell BK303.out 1).trans rfl;have hcz6_2 : w4.cell? ⟨gb303,2,none⟩ = some (.slice none 0 0):=(blk_cell BK303.out 2).trans rfl;have hfz6_0:=blk_frozen BK303.out 0;have hfz6_1:=blk_frozen BK303.out 1;have hfz6_2:=blk_frozen BK303.out 2;obtain ⟨Ao7,co7,eo7⟩:=Kd.R_slice HO299.out;subst eo7;obtain ⟨Ao8,co8,eo8⟩:=Kd.R_slice HO302.out;subst eo8))
 go_loopg [4] k (fun kq v4 w'=>∃ (x4_1 : Int),v4 = .int .i64 x4_1 ∧ Aside0 (pairinglaw9_TimetableFinds.l0 kq x4_1 t294 t297 t300 = some r) ∧ Aside0 (kq ≤ k) ∧ Aside0 (Kd.S k42 42 w' w.heap.size (fun _=>True) (.slice Ao5 t294.length co5) t294) ∧ Aside0 (Kd.R k39 39 w' w.heap.size (fun _=>True) (.slice Ao7 t297.length co7) t297) ∧ Aside0 (Kd.R k36 36 w' w.heap.size (fun _=>True) (.slice Ao8 t300.length co8) t300) ∧ Aside0 (w'.heap[gb303]? = some (.cells #[(.slice Ao5 t294.length co5),(.slice Ao7 t297.length co7),(.slice Ao8 t300.length co8)] 26 (0,0))) ∧ Aside0 (Below w.heap.size w w'))
 case atStart=>exact ⟨(0),(by first|rfl|(simp;done)|(simp [*];done)),H',⟨Nat.le_refl _⟩,⟨by (with_reducible repeat (first|apply Kd.S_alloc|apply Kd.S_drewN|apply Kd.S_drew));exact Kd.S_mono (Kd.S_far (p:=⟨gb303,2,none⟩) (Kd.S_far (p:=⟨gb303,1,none⟩) (Kd.S_far (p:=⟨gb303,0,none⟩) (Kd.S_types HO296.out BK303.out (by decide)) (fun _ hk=>hk.2) (.slice Ao5 t294.length co5)) (fun _ hk=>hk.2) (.slice Ao7 t297.length co7)) (fun _ hk=>hk.2) (.slice Ao8 t300.length co8)) (fun _ hk=>trivial)⟩,⟨by (with_reducible repeat (first|apply Kd.R_alloc|apply Kd.R_drewN|apply Kd.R_drew));exact Kd.R_mono (Kd.R_far (p:=⟨gb303,2,none⟩) (Kd.R_far (p:=⟨gb303,1,none⟩) (Kd.R_far (p:=⟨gb303,0,none⟩) (Kd.R_types HO299.out BK303.out (by decide)) (fun _ hk=>hk.2) (.slice Ao5 t294.length co5)) (fun _ hk=>hk.2) (.slice Ao7 t297.length co7)) (fun _ hk=>hk.2) (.slice Ao8 t300.length co8)) (fun _ hk=>trivial)⟩,⟨by (with_reducible repeat (first|apply Kd.R_alloc|apply Kd.R_drewN|apply Kd.R_drew));exact Kd.R_mono (Kd.R_far (p:=⟨gb303,2,none⟩) (Kd.R_far (p:=⟨gb303,1,none⟩) (Kd.R_far (p:=⟨gb303,0,none⟩) (Kd.R_types HO302.out BK303.out (by decide)) (fun _ hk=>hk.2) (.slice Ao5 t294.length co5)) (fun _ hk=>hk.2) (.slice Ao7 t297.length co7)) (fun _ hk=>hk.2) (.slice Ao8 t300.length co8)) (fun _ hk=>trivial)⟩,⟨by (with_reducible repeat (first|refine blk_drewN ?_ _|refine blk_drew ?_|refine blk_alloc ?_ _));refine blk_put (cs:=#[.slice Ao5 t294.length co5,.slice Ao7 t297.length co7,.slice none 0 0]) ?_ 2 _ rfl;(with_reducible repeat (first|refine blk_drewN ?_ _|refine blk_drew ?_|refine blk_alloc ?_ _));refine blk_put (cs:=#[.slice Ao5 t294.length co5,.slice none 0 0,.slice none 0 0]) ?_ 1 _ rfl;(with_reducible repeat (first|refine blk_drewN ?_ _|refine blk_drew ?_|refine blk_alloc ?_ _));refine blk_put (cs:=#[.slice none 0 0,.slice none 0 0,.slice none 0 0]) ?_ 0 _ rfl;(with_reducible repeat (first|refine blk_drewN ?_ _|refine blk_drew ?_|refine blk_alloc ?_ _));exact BK303.out⟩,⟨by repeat (first|(with_reducible first|exact HB.out|apply below_alloc|apply pw_below_drewN|apply below_drew1|refine below_set ?_ GE303.out)|exact HB.out)⟩⟩
 case round =>
  clear H'
  try clear hcz6_0
  try clear hcz6_1
  try clear hcz6_2
  try clear hfz6_0
  try clear hfz6_1
  try clear hfz6_2
  obtain ⟨x4_1,rfl,HA,HK1,HO_304000,HO_304001,HO_304002,BK303,HB⟩:=hrel
  cases gk with
  | zero=>exact absurd HA.out (by simp [pairinglaw9_TimetableFinds.l0])
  | succ k1 =>
   have H:=HA.out
   clear HA
   simp only [pairinglaw9_TimetableFinds.l0] at H
   by_cases c9 : x4_1 < (t300.length : Int)
   ·rw [if_pos c9] at H
    have c9b0 : decide (x4_1 < (t300.length : Int)) = true:=decide_eq_true c9
    clear c9
    by_cases c10 : 0 ≤ x4_1
    ·rw [if_pos c10] at H
     have c10b0 : decide (0 ≤ x4_1) = true:=decide_eq_true c10
     clear c10
     replace H:=Option.bind_eq_some_iff.mp H
     obtain ⟨⟨t307,t308⟩,A110,H⟩:=H
     replace H : ((timetable_Departures.f k1 t294 t297 t300 ((rd_T36 t300 x4_1).f1) ((rd_T36 t300 x4_1).f3) (wrap64 (((rd_T36 t300 x4_1).f3) + 1))).bind fun bt309=>(if t308 = 0 then (if t307 = x4_1 then (pairinglaw9_TimetableFinds.j1 k1 x4_1 bt309.1 (bt309.2 != 0) t294 t297 t300) else (pairinglaw9_TimetableFinds.j1 k1 x4_1 bt309.1 true t294 t297 t300)) else (pairinglaw9_TimetableFinds.j1 k1 x4_1 bt309.1 true t294 t297 t300))) = some r:=H
     have A11:=Aside0.mk A110
     clear A110
     replace H:=Option.bind_eq_some_iff.mp H
     obtain ⟨⟨t309,t312⟩,A120,H⟩:=H
     replace H : (if t308 = 0 then (if t307 = x4_1 then (pairinglaw9_TimetableFinds.j1 k1 x4_1 t309 (t312 != 0) t294 t297 t300) else (pairinglaw9_TimetableFinds.j1 k1 x4_1 t309 true t294 t297 t300)) else (pairinglaw9_TimetableFinds.j1 k1 x4_1 t309 true t294 t297 t300)) = some r:=H
     have A12:=Aside0.mk A120
     clear A120
     have HC13:=Aside0.mk H
     clear H
     have hcz14_0 : wr.cell? ⟨gb303,0,none⟩ = some (.slice Ao5 t294.length co5):=(blk_cell BK303.out 0).trans rfl
     have hcz14_1 : wr.cell? ⟨gb303,1,none⟩ = some (.slice Ao7 t297.length co7):=(blk_cell BK303.out 1).trans rfl
     have hcz14_2 : wr.cell? ⟨gb303,2,none⟩ = some (.slice Ao8 t300.length co8):=(blk_cell BK303.out 2).trans rfl
     have hfz14_0:=blk_frozen BK303.out 0
     have hfz14_1:=blk_frozen BK303.out 1
     have hfz14_2:=blk_frozen BK303.out 2
     have p305 : 0 ≤ (x4_1 : Int):=of_decide_eq_true (by first|(with_reducible assumption)|assumption)
     have q305 : x4_1 < (t300.length : Int):=of_decide_eq_true (by first|(with_reducible assumption)|assumption)
     obtain ⟨ad305,e305,hx305_0,hx305_1,hx305_2,hx305_3,hx305_4,hx305_5,hx305_6,hx305_7,hx305_8⟩:=at_T36 (Kd.R_reads' HO_304002.out).2.2 x4_1 p305 q305
     cases e305
     replace p305:=eq_true p305
     replace q305:=eq_true q305
     go_upto_region 8 with (first|((with_reducible refine gate_dst (N:=5) rfl ?_);refine box_event ?hg (N:=5) ?hd (cs:=#[.string (⟨#[]⟩ : ByteArray),.string (⟨#[]⟩ : ByteArray),.string (⟨#[]⟩ : ByteArray),.int .i64 0,.int .i64 0,.string (⟨#[]⟩ : ByteArray),.int .i64 0,.int .i64 0,.int .i64 0]) (t:=36) ?hr ?_;(case hd=>rfl);(case hg=>rfl);(case hr=>first|(go_simp;done)|(go_simp;rfl));intro gb306 hg w15 hbox hb;have n0_:=Aside0.mk (Kd.S_below (by (with_reducible repeat (first|apply Kd.S_alloc|apply Kd.S_drewN|apply Kd.S_drew));exact HO_304000.out) hb);have n1_:=Aside0.mk (Kd.R_below (by (with_reducible repeat (first|apply Kd.R_alloc|apply Kd.R_drewN|apply Kd.R_drew));exact HO_304001.out) hb);have n2_:=Aside0.mk (Kd.R_below (Kd.R_elderB (by (with_reducible repeat (first|apply Kd.R_alloc|apply Kd.R_drewN|apply Kd.R_drew));exact HO_304002.out) gb306 (Nat.le_of_eq hg.symm)) hb);have n3_:=Aside0.mk (blk_below (g:=gb303) (o:=.cells #[.slice Ao5 t294.length co5,.slice Ao7 t297.length co7,.slice (some ad305) t300.length co8] 26 (0,0)) (by (with_reducible repeat (first|refine blk_drewN ?_ _|refine blk_drew ?_|refine blk_alloc ?_ _));exact BK303.out) hb);have n4_:=Aside0.mk (below_step (by repeat (first|(with_reducible first|exact HB.out|apply below_alloc|apply pw_below_drewN|apply below_drew1|refine below_set ?_ GE303.out)|exact HB.out)) hb);have n5_:=Aside0.mk (hbox);have n6_:=Aside0.mk ((by rw [hg];exact (below_size (by repeat (first|(with_reducible first|exact HB.out|apply below_alloc|apply pw_below_drewN|apply below_drew1|refine below_set ?_ GE303.out)|exact HB.out))) : w.heap.size ≤ gb306));have n7_:=Aside0.mk ((by rw [hg];exact (below_size (by repeat (first|(with_reducible first|exact HB.out|apply below_alloc|apply pw_below_drewN|apply below_drew1|refine below_set ?_ GE303.out)|exact HB.out))) : w.heap.size ≤ gb306));have n8_:=Aside0.mk ((by rw [hg];exact Nat.ne_of_lt (blk_lt (g:=gb303) (o:=.cells #[.slice Ao5 t294.length co5,.slice Ao7 t297.length co7,.slice (some ad305) t300.length co8] 26 (0,0)) (by (with_reducible repeat (first|refine blk_drewN ?_ _|refine blk_drew ?_|refine blk_alloc ?_ _));exact BK303.out)) : gb303 ≠ gb306));have n9_:=Aside0.mk ((by rw [hg];exact Nat.ne_of_gt (blk_lt (g:=gb303) (o:=.cells #[.slice Ao5 t294.length co5,.slice Ao7 t297.length co7,.slice (some ad305) t300.length co8] 26 (0,0)) (by (with_reducible repeat (first|refine blk_drewN ?_ _|refine blk_drew ?_|refine blk_alloc ?_ _));exact BK303.out)) : gb306 ≠ gb303));clear HO_304000;clear HO_304001;clear HO_304002;clear BK303;clear HB;have HO_304000:=n0_;have HO_304001:=n1_;have HO_304002:=n2_;have BK303:=n3_;have HB:=n4_;have BK306:=n5_;have GW306:=n6_;have GE306:=n7_;have NB303_306:=n8_;have NB306_303:=n9_;clear n0_ n1_ n2_ n3_ n4_ n5_ n6_ n7_ n8_ n9_;clear hb hbox hg;have hnb16:=NB306_303.out;have hnc16:=NB303_306.out;have hcz17_0 : w15.cell? ⟨gb306,0,none⟩ = some (.string (⟨#[]⟩ : ByteArray)):=(blk_cell BK306.out 0).trans rfl;have hcz17_1 : w15.cell? ⟨gb306,1,none⟩ = some (.string (⟨#[]⟩ : ByteArray)):=(blk_cell BK306.out 1).trans rfl;have hcz17_2 : w15.cell? ⟨gb306,2,none⟩ = some (.string (⟨#[]⟩ : ByteArray)):=(blk_cell BK306.out 2).trans rfl;have hcz17_3 : w15.cell? ⟨gb306,3,none⟩ = some (.int .i64 0):=(blk_cell BK306.out 3).trans rfl;have hcz17_4 : w15.cell? ⟨gb306,4,none⟩ = some (.int .i64 0):=(blk_cell BK306.out 4).trans rfl;have hcz17_5 : w15.cell? ⟨gb306,5,none⟩ = some (.string (⟨#[]⟩ : ByteArray)):=(blk_cell BK306.out 5).trans rfl;have hcz17_6 : w15.cell? ⟨gb306,6,none⟩ = some (.int .i64 0):=(blk_cell BK306.out 6).trans rfl;have hcz17_7 : w15.cell? ⟨gb306,7,none⟩ = some (.int .i64 0):=(blk_cell BK306.out 7).trans rfl;have hcz17_8 : w15.cell? ⟨gb306,8,none⟩ = some (.int .i64 0):=(blk_cell BK306.out 8).trans rfl;have hfz17_0:=blk_frozen BK306.out 0;have hfz17_1:=blk_frozen BK306.out 1;have hfz17_2:=blk_frozen BK306.out 2;have hfz17_3:=blk_frozen BK306.out 3;have hfz17_4:=blk_frozen BK306.out 4;have hfz17_5:=blk_frozen BK306.out 5;have hfz17_6:=blk_frozen BK306.out 6;have hfz17_7:=blk_frozen BK306.out 7;have hfz17_8:=blk_frozen BK306.out 8;have hcz18_0 : w15.cell? ⟨gb303,0,none⟩ = some (.slice Ao5 t294.length co5):=(blk_cell BK303.out 0).trans rfl;have hcz18_1 : w15.cell? ⟨gb303,1,none⟩ = some (.slice Ao7 t297.length co7):=(blk_cell BK303.out 1).trans rfl;have hcz18_2 : w15.cell? ⟨gb303,2,none⟩ = some (.slice (some ad305) t300.length co8):=(blk_cell BK303.out 2).trans rfl;have hfz18_0:=blk_frozen BK303.out 0;have hfz18_1:=blk_frozen BK303.out 1;have hfz18_2:=blk_frozen BK303.out 2)|((with_reducible refine gate_callee (f:=19) rfl ?_);refine goesL_ (some 32) rfl rfl Try.func19 (by kernel_rfl) rfl #[.agg #[.slice Ao5 t294.length co5,.slice Ao7 t297.length co7,.slice (some ad305) t300.length co8],.string ((rd_T36 t300 x4_1).f0),.int .i64 ((rd_T36 t300 x4_1).f3)] rfl (by (try simp only [List.map_toArray,List.map_cons,List.map_nil]);first|done|rfl|(simp only [List.length_drop,List.length_take];rfl)) ?_;(with_reducible refine (timetable_FindFlight.calls k1 _ _ t294 _ _ t297 _ _ t300 ((rd_T36 t300 x4_1).f0) ((rd_T36 t300 x4_1).f3) t307 t308 _ ?side1 ?side2 ?side3 ?side4 ?side5 ?side6 A11.out).mono ?_);(case side1=>refine (Kd.S_reads' (e:=42) (base:=w.heap.size) (ok:=fun k_=>True) (n:=t294.length) (c:=co5) ?_).2.2;exact (by (with_reducible repeat (first|apply Kd.S_alloc|apply Kd.S_drewN|apply Kd.S_drew));exact (Kd.S_mono (Kd.S_far (p:=⟨gb306,8,none⟩) (Kd.S_far (p:=⟨gb306,7,none⟩) (Kd.S_far (p:=⟨gb306,6,none⟩) (Kd.S_far (p:=⟨gb306,5,none⟩) (Kd.S_far (p:=⟨gb306,4,none⟩) (Kd.S_far (p:=⟨gb306,3,none⟩) (Kd.S_far (p:=⟨gb306,2,none⟩) (Kd.S_far (p:=⟨gb306,1,none⟩) (Kd.S_far (p:=⟨gb306,0,none⟩) (Kd.S_types HO_304000.out BK306.out (by decide)) (fun _ hk=>hk.2) (.string ((rd_T36 t300 x4_1).f0))) (fun _ hk=>hk.2) (.string ((rd_T36 t300 x4_1).f1))) (fun _ hk=>hk.2) (.string ((rd_T36 t300 x4_1).f2))) (fun _ hk=>hk.2) (.int .i64 ((rd_T36 t300 x4_1).f3))) (fun _ hk=>hk.2) (.int .i64 ((rd_T36 t300 x4_1).f4))) (fun _ hk=>hk.2) (.string ((rd_T36 t300 x4_1).f5))) (fun _ hk=>hk.2) (.int .i64 ((rd_T36 t300 x4_1).f6.f0))) (fun _ hk=>hk.2) (.int .i64 ((rd_T36 t300 x4_1).f6.f1))) (fun _ hk=>hk.2) (.int .i64 ((rd_T36 t300 x4_1).f6.f2))) (fun _ h_=>h_.1))));(case side2=>exact (Kd.S_reads' HO_304000.out).2.1);(case side3=>refine (Kd.R_reads' (e:=39) (base:=w.heap.size) (ok:=fun k_=>True) (n:=t297.length) (c:=co7) ?_).2.2;exact (by (with_reducible repeat (first|apply Kd.R_alloc|apply Kd.R_drewN|apply Kd.R_drew));exact (Kd.R_mono (Kd.R_far (p:=⟨gb306,8,none⟩) (Kd.R_far (p:=⟨gb306,7,none⟩) (Kd.R_far (p:=⟨gb306,6,none⟩) (Kd.R_far (p:=⟨gb306,5,none⟩) (Kd.R_far (p:=⟨gb306,4,none⟩) (Kd.R_far (p:=⟨gb306,3,none⟩) (Kd.R_far (p:=⟨gb306,2,none⟩) (Kd.R_far (p:=⟨gb306,1,none⟩) (Kd.R_far (p:=⟨gb306,0,none⟩) (Kd.R_types HO_304001.out BK306.out (by decide)) (fun _ hk=>hk.2) (.string ((rd_T36 t300 x4_1).f0))) (fun _ hk=>hk.2) (.string ((rd_T36 t300 x4_1).f1))) (fun _ hk=>hk.2) (.string ((rd_T36 t300 x4_1).f2))) (fun _ hk=>hk.2) (.int .i64 ((rd_T36 t300 x4_1).f3))) (fun _ hk=>hk.2) (.int .i64 ((rd_T36 t300 x4_1).f4))) (fun _ hk=>hk.2) (.string ((rd_T36 t300 x4_1).f5))) (fun _ hk=>hk.2) (.int .i64 ((rd_T36 t300 x4_1).f6.f0))) (fun _ hk=>hk.2) (.int .i64 ((rd_T36 t300 x4_1).f6.f1))) (fun _ hk=>hk.2) (.int .i64 ((rd_T36 t300 x4_1).f6.f2))) (fun _ h_=>h_.1))));(case side4=>exact (Kd.R_reads' HO_304001.out).2.1);(case side5=>refine (Kd.R_reads' (e:=36) (base:=w.heap.size) (ok:=fun k_=>(True ∧ k_ ≠ gb306)) (n:=t300.length) (c:=co8) ?_).2.2;exact (by (with_reducible repeat (first|apply Kd.R_alloc|apply Kd.R_drewN|apply Kd.R_drew));exact (Kd.R_mono (Kd.R_far (p:=⟨gb306,8,none⟩) (Kd.R_far (p:=⟨gb306,7,none⟩) (Kd.R_far (p:=⟨gb306,6,none⟩) (Kd.R_far (p:=⟨gb306,5,none⟩) (Kd.R_far (p:=⟨gb306,4,none⟩) (Kd.R_far (p:=⟨gb306,3,none⟩) (Kd.R_far (p:=⟨gb306,2,none⟩) (Kd.R_far (p:=⟨gb306,1,none⟩) (Kd.R_far (p:=⟨gb306,0,none⟩) (Kd.R_mono HO_304002.out (fun k_ hk=>(⟨hk,hk.2⟩ : _ ∧ k_ ≠ gb306))) (fun _ hk=>hk.2) (.string ((rd_T36 t300 x4_1).f0))) (fun _ hk=>hk.2) (.string ((rd_T36 t300 x4_1).f1))) (fun _ hk=>hk.2) (.string ((rd_T36 t300 x4_1).f2))) (fun _ hk=>hk.2) (.int .i64 ((rd_T36 t300 x4_1).f3))) (fun _ hk=>hk.2) (.int .i64 ((rd_T36 t300 x4_1).f4))) (fun _ hk=>hk.2) (.string ((rd_T36 t300 x4_1).f5))) (fun _ hk=>hk.2) (.int .i64 ((rd_T36 t300 x4_1).f6.f0))) (fun _ hk=>hk.2) (.int .i64 ((rd_T36 t300 x4_1).f6.f1))) (fun _ hk=>hk.2) (.int .i64 ((rd_T36 t300 x4_1).f6.f2))) (fun _ h_=>h_.1))));(case side6=>exact (Kd.R_reads' HO_304002.out).2.1);rintro e w19 ⟨rfl,hb⟩;refine ⟨_,rfl,?_⟩;have n0_:=Aside0.mk (Kd.S_below (by (with_reducible repeat (first|apply Kd.S_alloc|apply Kd.S_drewN|apply Kd.S_drew));exact (Kd.S_mono (Kd.S_far (p:=⟨gb306,8,none⟩) (Kd.S_far (p:=⟨gb306,7,none⟩) (Kd.S_far (p:=⟨gb306,6,none⟩) (Kd.S_far (p:=⟨gb306,5,none⟩) (Kd.S_far (p:=⟨gb306,4,none⟩) (Kd.S_far (p:=⟨gb306,3,none⟩) (Kd.S_far (p:=⟨gb306,2,none⟩) (Kd.S_far (p:=⟨gb306,1,none⟩) (Kd.S_far (p:=⟨gb306,0,none⟩) (Kd.S_types HO_304000.out BK306.out (by decide)) (fun _ hk=>hk.2) (.string ((rd_T36 t300 x4_1).f0))) (fun _ hk=>hk.2) (.string ((rd_T36 t300 x4_1).f1))) (fun _ hk=>hk.2) (.string ((rd_T36 t300 x4_1).f2))) (fun _ hk=>hk.2) (.int .i64 ((rd_T36 t300 x4_1).f3))) (fun _ hk=>hk.2) (.int .i64 ((rd_T36 t300 x4_1).f4))) (fun _ hk=>hk.2) (.string ((rd_T36 t300 x4_1).f5))) (fun _ hk=>hk.2) (.int .i64 ((rd_T36 t300 x4_1).f6.f0))) (fun _ hk=>hk.2) (.int .i64 ((rd_T36 t300 x4_1).f6.f1))) (fun _ hk=>hk.2) (.int .i64 ((rd_T36 t300 x4_1).f6.f2))) (fun _ h_=>h_.1))) hb);have n1_:=Aside0.mk (Kd.R_below (by (with_reducible repeat (first|apply Kd.R_alloc|apply Kd.R_drewN|apply Kd.R_drew));exact (Kd.R_mono (Kd.R_far (p:=⟨gb306,8,none⟩) (Kd.R_far (p:=⟨gb306,7,none⟩) (Kd.R_far (p:=⟨gb306,6,none⟩) (Kd.R_far (p:=⟨gb306,5,none⟩) (Kd.R_far (p:=⟨gb306,4,none⟩) (Kd.R_far (p:=⟨gb306,3,none⟩) (Kd.R_far (p:=⟨gb306,2,none⟩) (Kd.R_far (p:=⟨gb306,1,none⟩) (Kd.R_far (p:=⟨gb306,0,none⟩) (Kd.R_types HO_304001.out BK306.out (by decide)) (fun _ hk=>hk.2) (.string ((rd_T36 t300 x4_1).f0))) (fun _ hk=>hk.2) (.string ((rd_T36 t300 x4_1).f1))) (fun _ hk=>hk.2) (.string ((rd_T36 t300 x4_1).f2))) (fun _ hk=>hk.2) (.int .i64 ((rd_T36 t300 x4_1).f3))) (fun _ hk=>hk.2) (.int .i64 ((rd_T36 t300 x4_1).f4))) (fun _ hk=>hk.2) (.string ((rd_T36 t300 x4_1).f5))) (fun _ hk=>hk.2) (.int .i64 ((rd_T36 t300 x4_1).f6.f0))) (fun _ hk=>hk.2) (.int .i64 ((rd_T36 t300 x4_1).f6.f1))) (fun _ hk=>hk.2) (.int .i64 ((rd_T36 t300 x4_1).f6.f2))) (fun _ h_=>h_.1))) hb);have n2_:=Aside0.mk (Kd.R_below (by (with_reducible repeat (first|apply Kd.R_alloc|apply Kd.R_drewN|apply Kd.R_drew));exact (Kd.R_mono (Kd.R_far (p:=⟨gb306,8,none⟩) (Kd.R_far (p:=⟨gb306,7,none⟩) (Kd.R_far (p:=⟨gb306,6,none⟩) (Kd.R_far (p:=⟨gb306,5,none⟩) (Kd.R_far (p:=⟨gb306,4,none⟩) (Kd.R_far (p:=⟨gb306,3,none⟩) (Kd.R_far (p:=⟨gb306,2,none⟩) (Kd.R_far (p:=⟨gb306,1,none⟩) (Kd.R_far (p:=⟨gb306,0,none⟩) (Kd.R_mono HO_304002.out (fun k_ hk=>(⟨hk,hk.2⟩ : _ ∧ k_ ≠ gb306))) (fun _ hk=>hk.2) (.string ((rd_T36 t300 x4_1).f0))) (fun _ hk=>hk.2) (.string ((rd_T36 t300 x4_1).f1))) (fun _ hk=>hk.2) (.string ((rd_T36 t300 x4_1).f2))) (fun _ hk=>hk.2) (.int .i64 ((rd_T36 t300 x4_1).f3))) (fun _ hk=>hk.2) (.int .i64 ((rd_T36 t300 x4_1).f4))) (fun _ hk=>hk.2) (.string ((rd_T36 t300 x4_1).f5))) (fun _ hk=>hk.2) (.int .i64 ((rd_T36 t300 x4_1).f6.f0))) (fun _ hk=>hk.2) (.int .i64 ((rd_T36 t300 x4_1).f6.f1))) (fun _ hk=>hk.2) (.int .i64 ((rd_T36 t300 x4_1).f6.f2))) (fun _ h_=>h_.1))) hb);have n3_:=Aside0.mk (blk_below (g:=gb303) (o:=.cells #[.slice Ao5 t294.length co5,.slice Ao7 t297.length co7,.slice (some ad305) t300.length co8] 26 (0,0)) (by (with_reducible repeat (first|refine blk_drewN ?_ _|refine blk_drew ?_|refine blk_alloc ?_ _));refine blk_far ?_ NB303_306.out _;(with_reducible repeat (first|refine blk_drewN ?_ _|refine blk_drew ?_|refine blk_alloc ?_ _));refine blk_far ?_ NB303_306.out _;(with_reducible repeat (first|refine blk_drewN ?_ _|refine blk_drew ?_|refine blk_alloc ?_ _));refine blk_far ?_ NB303_306.out _;(with_reducible repeat (first|refine blk_drewN ?_ _|refine blk_drew ?_|refine blk_alloc ?_ _));refine blk_far ?_ NB303_306.out _;(with_reducible repeat (first|refine blk_drewN ?_ _|refine blk_drew ?_|refine blk_alloc ?_ _));refine blk_far ?_ NB303_306.out _;(with_reducible repeat (first|refine blk_drewN ?_ _|refine blk_drew ?_|refine blk_alloc ?_ _));refine blk_far ?_ NB303_306.out _;(with_reducible repeat (first|refine blk_drewN ?_ _|refine blk_drew ?_|refine blk_alloc ?_ _));refine blk_far ?_ NB303_306.out _;(with_reducible repeat (first|refine blk_drewN ?_ _|refine blk_drew ?_|refine blk_alloc ?_ _));refine blk_far ?_ NB303_306.out _;(with_reducible repeat (first|refine blk_drewN ?_ _|refine blk_drew ?_|refine blk_alloc ?_ _));refine blk_far ?_ NB303_306.out _;(with_reducible repeat (first|refine blk_drewN ?_ _|refine blk_drew ?_|refine blk_alloc ?_ _));exact BK303.out) hb);have n4_:=Aside0.mk (blk_below (g:=gb306) (o:=.cells #[.string ((rd_T36 t300 x4_1).f0),.string ((rd_T36 t300 x4_1).f1),.string ((rd_T36 t300 x4_1).f2),.int .i64 ((rd_T36 t300 x4_1).f3),.int .i64 ((rd_T36 t300 x4_1).f4),.string ((rd_T36 t300 x4_1).f5),.int .i64 ((rd_T36 t300 x4_1).f6.f0),.int .i64 ((rd_T36 t300 x4_1).f6.f1),.int .i64 ((rd_T36 t300 x4_1).f6.f2)] 36 (0,0)) (by (with_reducible repeat (first|refine blk_drewN ?_ _|refine blk_drew ?_|refine blk_alloc ?_ _));refine blk_put (cs:=#[.string ((rd_T36 t300 x4_1).f0),.string ((rd_T36 t300 x4_1).f1),.string ((rd_T36 t300 x4_1).f2),.int .i64 ((rd_T36 t300 x4_1).f3),.int .i64 ((rd_T36 t300 x4_1).f4),.string ((rd_T36 t300 x4_1).f5),.int .i64 ((rd_T36 t300 x4_1).f6.f0),.int .i64 ((rd_T36 t300 x4_1).f6.f1),.int .i64 0]) ?_ 8 _ rfl;(with_reducible repeat (first|refine blk_drewN ?_ _|refine blk_drew ?_|refine blk_alloc ?_ _));refine blk_put (cs:=#[.string ((rd_T36 t300 x4_1).f0),.string ((rd_T36 t300 x4_1).f1),.string ((rd_T36 t300 x4_1).f2),.int .i64 ((rd_T36 t300 x4_1).f3),.int .i64 ((rd_T36 t300 x4_1).f4),.string ((rd_T36 t300 x4_1).f5),.int .i64 ((rd_T36 t300 x4_1).f6.f0),.int .i64 0,.int .i64 0]) ?_ 7 _ rfl;(with_reducible repeat (first|refine blk_drewN ?_ _|refine blk_drew ?_|refine blk_alloc ?_ _));refine blk_put (cs:=#[.string ((rd_T36 t300 x4_1).f0),.string ((rd_T36 t300 x4_1).f1),.string ((rd_T36 t300 x4_1).f2),.int .i64 ((rd_T36 t300 x4_1).f3),.int .i64 ((rd_T36 t300 x4_1).f4),.string ((rd_T36 t300 x4_1).f5),.int .i64 0,.int .i64 0,.int .i64 0]) ?_ 6 _ rfl;(with_reducible repeat (first|refine blk_drewN ?_ _|refine blk_drew ?_|refine blk_alloc ?_ _));refine blk_put (cs:=#[.string ((rd_T36 t300 x4_1).f0),.string ((rd_T36 t300 x4_1).f1),.string ((rd_T36 t300 x4_1).f2),.int .i64 ((rd_T36 t300 x4_1).f3),.int .i64 ((rd_T36 t300 x4_1).f4),.string (⟨#[]⟩ : ByteArray),.int .i64 0,.int .i64 0,.int .i64 0]) ?_ 5 _ rfl;(with_reducible repeat (first|refine blk_drewN ?_ _|refine blk_drew ?_|refine blk_alloc ?_ _));refine blk_put (cs:=#[.string ((rd_T36 t300 x4_1).f0),.string ((rd_T36 t300 x4_1).f1),.string ((rd_T36 t300 x4_1).f2),.int .i64 ((rd_T36 t300 x4_1).f3),.int .i64 0,.string (⟨#[]⟩ : ByteArray),.int .i64 0,.int .i64 0,.int .i64 0]) ?_ 4 _ rfl;(with_reducible repeat (first|refine blk_drewN ?_ _|refine blk_drew ?_|refine blk_alloc ?_ _));refine blk_put (cs:=#[.string ((rd_T36 t300 x4_1).f0),.string ((rd_T36 t300 x4_1).f1),.string ((rd_T36 t300 x4_1).f2),.int .i64 0,.int .i64 0,.string (⟨#[]⟩ : ByteArray),.int .i64 0,.int .i64 0,.int .i64 0]) ?_ 3 _ rfl;(with_reducible repeat (first|refine blk_drewN ?_ _|refine blk_drew ?_|refine blk_alloc ?_ _));refine blk_put (cs:=#[.string ((rd_T36 t300 x4_1).f0),.string ((rd_T36 t300 x4_1).f1),.string (⟨#[]⟩ : ByteArray),.int .i64 0,.int .i64 0,.string (⟨#[]⟩ : ByteArray),.int .i64 0,.int .i64 0,.int .i64 0]) ?_ 2 _ rfl;(with_reducible repeat (first|refine blk_drewN ?_ _|refine blk_drew ?_|refine blk_alloc ?_ _));refine blk_put (cs:=#[.string ((rd_T36 t300 x4_1).f0),.string (⟨#[]⟩ : ByteArray),.string (⟨#[]⟩ : ByteArray),.int .i64 0,.int .i64 0,.string (⟨#[]⟩ : ByteArray),.int .i64 0,.int .i64 0,.int .i64 0]) ?_ 1 _ rfl;(with_reducible repeat (first|refine blk_drewN ?_ _|refine blk_drew ?_|refine blk_alloc ?_ _));refine blk_put (cs:=#[.string (⟨#[]⟩ : ByteArray),.string (⟨#[]⟩ : ByteArray),.string (⟨#[]⟩ : ByteArray),.int .i64 0,.int .i64 0,.string (⟨#[]⟩ : ByteArray),.int .i64 0,.int .i64 0,.int .i64 0]) ?_ 0 _ rfl;(with_reducible repeat (first|refine blk_drewN ?_ _|refine blk_drew ?_|refine blk_alloc ?_ _));exact BK306.out) hb);have n5_:=Aside0.mk (below_step (by repeat (first|(with_reducible first|exact HB.out|apply below_alloc|apply pw_below_drewN|apply below_drew1|refine below_set ?_ GE303.out|refine below_set ?_ GE306.out)|exact HB.out)) hb);clear HO_304000;clear HO_304001;clear HO_304002;clear BK303;clear BK306;clear HB;have HO_304000:=n0_;have HO_304001:=n1_;have HO_304002:=n2_;have BK303:=n3_;have BK306:=n4_;have HB:=n5_;clear n0_ n1_ n2_ n3_ n4_ n5_;(try clear hb);(try clear hb2);(try clear hk);(try clear hi);have hcz20_0 : w19.cell? ⟨gb303,0,none⟩ = some (.slice Ao5 t294.length co5):=(blk_cell BK303.out 0).trans rfl;have hcz20_1 : w19.cell? ⟨gb303,1,none⟩ = some (.slice Ao7 t297.length co7):=(blk_cell BK303.out 1).trans rfl;have hcz20_2 : w19.cell? ⟨gb303,2,none⟩ = some (.slice (some ad305) t300.length co8):=(blk_cell BK303.out 2).trans rfl;have hfz20_0:=blk_frozen BK303.out 0;have hfz20_1:=blk_frozen BK303.out 1;have hfz20_2:=blk_frozen BK303.out 2;have hcz21_0 : w19.cell? ⟨gb306,0,none⟩ = some (.string ((rd_T36 t300 x4_1).f0)):=(blk_cell BK306.out 0).trans rfl;have hcz21_1 : w19.cell? ⟨gb306,1,none⟩ = some (.string ((rd_T36 t300 x4_1).f1)):=(blk_cell BK306.out 1).trans rfl;have hcz21_2 : w19.cell? ⟨gb306,2,none⟩ = some (.string ((rd_T36 t300 x4_1).f2)):=(blk_cell BK306.out 2).trans rfl;have hcz21_3 : w19.cell? ⟨gb306,3,none⟩ = some (.int .i64 ((rd_T36 t300 x4_1).f3)):=(blk_cell BK306.out 3).trans rfl;have hcz21_4 : w19.cell? ⟨gb306,4,none⟩ = some (.int .i64 ((rd_T36 t300 x4_1).f4)):=(blk_cell BK306.out 4).trans rfl;have hcz21_5 : w19.cell? ⟨gb306,5,none⟩ = some (.string ((rd_T36 t300 x4_1).f5)):=(blk_cell BK306.out 5).trans rfl;have hcz21_6 : w19.cell? ⟨gb306,6,none⟩ = some (.int .i64 ((rd_T36 t300 x4_1).f6.f0)):=(blk_cell BK306.out 6).trans rfl;have hcz21_7 : w19.cell? ⟨gb306,7,none⟩ = some (.int .i64 ((rd_T36 t300 x4_1).f6.f1)):=(blk_cell BK306.out 7).trans rfl;have hcz21_8 : w19.cell? ⟨gb306,8,none⟩ = some (.int .i64 ((rd_T36 t300 x4_1).f6.f2)):=(blk_cell BK306.out 8).trans rfl;have hfz21_0:=blk_frozen BK306.out 0;have hfz21_1:=blk_frozen BK306.out 1;have hfz21_2:=blk_frozen BK306.out 2;have hfz21_3:=blk_frozen BK306.out 3;have hfz21_4:=blk_frozen BK306.out 4;have hfz21_5:=blk_frozen BK306.out 5;have hfz21_6:=blk_frozen BK306.out 6;have hfz21_7:=blk_frozen BK306.out 7;have hfz21_8:=blk_frozen BK306.out 8)|((with_reducible refine gate_callee (f:=20) rfl ?_);refine goesL_ (some 45) rfl rfl Try.func20 (by kernel_rfl) rfl #[.agg #[.slice Ao5 t294.length co5,.slice Ao7 t297.length co7,.slice (some ad305) t300.length co8],.string ((rd_T36 t300 x4_1).f1),.agg #[.int .i64 ((rd_T36 t300 x4_1).f3),.int .i64 (wrap64 (((rd_T36 t300 x4_1).f3) + 1))]] rfl (by (try simp only [List.map_toArray,List.map_cons,List.map_nil]);first|done|rfl|(simp only [List.length_drop,List.length_take];rfl)) ?_;(with_reducible refine (timetable_Departures.calls k1 _ _ t294 _ _ t297 _ _ t300 ((rd_T36 t300 x4_1).f1) ((rd_T36 t300 x4_1).f3) (wrap64 (((rd_T36 t300 x4_1).f3) + 1)) t309 t312 _ ?side1 ?side2 ?side3 ?side4 ?side5 ?side6 A12.out).mono ?_);(case side1=>repeat (first|exact (Kd.S_reads' HO_304000.out).2.2|(with_reducible refine Kd.C_alloc ?_ _)|(with_reducible refine Kd.C_drewN ?_ _)|(with_reducible refine Kd.C_drew ?_)));(case side2=>exact (Kd.S_reads' HO_304000.out).2.1);(case side3=>repeat (first|exact (Kd.R_reads' HO_304001.out).2.2|(with_reducible refine Kd.C_alloc ?_ _)|(with_reducible refine Kd.C_drewN ?_ _)|(with_reducible refine Kd.C_drew ?_)));(case side4=>exact (Kd.R_reads' HO_304001.out).2.1);(case side5=>repeat (first|exact (Kd.R_reads' HO_304002.out).2.2|(with_reducible refine Kd.C_alloc ?_ _)|(with_reducible refine Kd.C_drewN ?_ _)|(with_reducible refine Kd.C_drew ?_)));(case side6=>exact (Kd.R_reads' HO_304002.out).2.1);rintro e w22 ⟨v310,rfl,ho0,hb⟩;refine ⟨_,rfl,?_⟩;have n0_:=Aside0.mk (Kd.S_below (by (with_reducible repeat (first|apply Kd.S_alloc|apply Kd.S_drewN|apply Kd.S_drew));exact HO_304000.out) hb);have n1_:=Aside0.mk (Kd.R_below (by (with_reducible repeat (first|apply Kd.R_alloc|apply Kd.R_drewN|apply Kd.R_drew));exact HO_304001.out) hb);have n2_:=Aside0.mk (Kd.R_below (by (with_reducible repeat (first|apply Kd.R_alloc|apply Kd.R_drewN|apply Kd.R_drew));exact HO_304002.out) hb);have n3_:=Aside0.mk (Kd.R_lower ho0 (below_size (by repeat (first|(with_reducible first|exact HB.out|apply below_alloc|apply pw_below_drewN|apply below_drew1|refine below_set ?_ GE303.out|refine below_set ?_ GE306.out)|exact HB.out))));have n4_:=Aside0.mk (blk_below (g:=gb303) (o:=.cells #[.slice Ao5 t294.length co5,.slice Ao7 t297.length co7,.slice (some ad305) t300.length co8] 26 (0,0)) (by (with_reducible repeat (first|refine blk_drewN ?_ _|refine blk_drew ?_|refine blk_alloc ?_ _));exact BK303.out) hb);have n5_:=Aside0.mk (blk_below (g:=gb306) (o:=.cells #[.string ((rd_T36 t300 x4_1).f0),.string ((rd_T36 t300 x4_1).f1),.string ((rd_T36 t300 x4_1).f2),.int .i64 ((rd_T36 t300 x4_1).f3),.int .i64 ((rd_T36 t300 x4_1).f4),.string ((rd_T36 t300 x4_1).f5),.int .i64 ((rd_T36 t300 x4_1).f6.f0),.int .i64 ((rd_T36 t300 x4_1).f6.f1),.int .i64 ((rd_T36 t300 x4_1).f6.f2)] 36 (0,0)) (by (with_reducible repeat (first|refine blk_drewN ?_ _|refine blk_drew ?_|refine blk_alloc ?_ _));exact BK306.out) hb);have n6_:=Aside0.mk (below_step (by repeat (first|(with_reducible first|exact HB.out|apply below_alloc|apply pw_below_drewN|apply below_drew1|refine below_set ?_ GE303.out|refine below_set ?_ GE306.out)|exact HB.out)) hb);clear HO_304000;clear HO_304001;clear HO_304002;clear BK303;clear BK306;clear HB;have HO_304000:=n0_;have HO_304001:=n1_;have HO_304002:=n2_;have HO311:=n3_;have BK303:=n4_;have BK306:=n5_;have HB:=n6_;clear n0_ n1_ n2_ n3_ n4_ n5_ n6_;(try clear hb);(try clear hb2);(try clear hk);(try clear hi);(try clear ho0)))
     (try simp only [Act.put,List.setIfInBounds_toArray,List.set_cons_zero,List.set_cons_succ])
     go_cut [58] (fun v58 wc=>∃ (kq : Nat) (x58_12 : Bool),v58 = .bool x58_12 ∧ Aside0 (pairinglaw9_TimetableFinds.j1 kq x4_1 t309 x58_12 t294 t297 t300 = some r) ∧ Aside0 (kq ≤ k1) ∧ Aside0 (Kd.R (Kd.int .i64) 3 wc w.heap.size (fun _=>True) v310 t309) ∧ Aside0 (Kd.S k42 42 wc w.heap.size (fun _=>True) (.slice Ao5 t294.length co5) t294) ∧ Aside0 (Kd.R k39 39 wc w.heap.size (fun _=>True) (.slice Ao7 t297.length co7) t297) ∧ Aside0 (Kd.R k36 36 wc w.heap.size (fun k_=>k_ ≠ gb306) (.slice (some ad305) t300.length co8) t300) ∧ Aside0 (wc.heap[gb303]? = some (.cells #[(.slice Ao5 t294.length co5),(.slice Ao7 t297.length co7),(.slice (some ad305) t300.length co8)] 26 (0,0))) ∧ Aside0 (wc.heap[gb306]? = some (.cells #[.string ((rd_T36 t300 x4_1).f0),.string ((rd_T36 t300 x4_1).f1),.string ((rd_T36 t300 x4_1).f2),.int .i64 ((rd_T36 t300 x4_1).f3),.int .i64 ((rd_T36 t300 x4_1).f4),.string ((rd_T36 t300 x4_1).f5),.int .i64 ((rd_T36 t300 x4_1).f6.f0),.int .i64 ((rd_T36 t300 x4_1).f6.f1),.int .i64 ((rd_T36 t300 x4_1).f6.f2)] 36 (0,0))) ∧ Aside0 (Below w.heap.size w wc))
     case first =>
      have H:=HC13.out
      clear HC13
      by_cases c23 : t308 = 0
      ·rw [if_pos c23] at H
       have c23b0 : (t308 == 0) = true:=beq_iff_eq.mpr c23
       have c23b1 : (t308 != 0) = false:=bne_eq_false_iff_eq.mpr c23
       clear c23
       (first|rw [c23b0]|(simp only [i64_w,i32_w];rw [c23b0])|skip)
       by_cases c24 : t307 = x4_1
       ·rw [if_pos c24] at H
        have c24b0 : (t307 == x4_1) = true:=beq_iff_eq.mpr c24
        have c24b1 : (t307 != x4_1) = false:=bne_eq_false_iff_eq.mpr c24
        clear c24
        have H':=Aside0.mk H
        clear H
        go_wp2
        go_meet
        case rel=>exact ⟨_,((t312 != 0)),(by first|rfl|(simp;done)|(simp [*];done)),H',⟨by have:=HK1.out;first|omega|exact Nat.le_refl _⟩,⟨by (with_reducible repeat (first|apply Kd.R_alloc|apply Kd.R_drewN|apply Kd.R_drew));exact HO311.out⟩,⟨by (with_reducible repeat (first|apply Kd.S_alloc|apply Kd.S_drewN|apply Kd.S_drew));exact HO_304000.out⟩,⟨by (with_reducible repeat (first|apply Kd.R_alloc|apply Kd.R_drewN|apply Kd.R_drew));exact HO_304001.out⟩,⟨by (with_reducible repeat (first|apply Kd.R_alloc|apply Kd.R_drewN|apply Kd.R_drew));exact Kd.R_mono HO_304002.out (fun _ hk=>hk.2)⟩,⟨by (with_reducible repeat (first|refine blk_drewN ?_ _|refine blk_drew ?_|refine blk_alloc ?_ _));exact BK303.out⟩,⟨by (with_reducible repeat (first|refine blk_drewN ?_ _|refine blk_drew ?_|refine blk_alloc ?_ _));exact BK306.out⟩,⟨by repeat (first|(with_reducible first|exact HB.out|apply below_alloc|apply pw_below_drewN|apply below_drew1|refine below_set ?_ GE303.out|refine below_set ?_ GE306.out)|exact HB.out)⟩⟩
       ·rw [if_neg c24] at H
        have c24b0 : (t307 == x4_1) = false:=beq_eq_false_iff_ne.mpr c24
        have c24b1 : (t307 != x4_1) = true:=bne_iff_ne.mpr c24
        have H':=Aside0.mk H
        clear H
        go_wp2
        go_meet
        case rel=>exact ⟨_,(true),(by first|rfl|(simp;done)|(simp [*];done)),H',⟨by have:=HK1.out;first|omega|exact Nat.le_refl _⟩,⟨by (with_reducible repeat (first|apply Kd.R_alloc|apply Kd.R_drewN|apply Kd.R_drew));exact HO311.out⟩,⟨by (with_reducible repeat (first|apply Kd.S_alloc|apply Kd.S_drewN|apply Kd.S_drew));exact HO_304000.out⟩,⟨by (with_reducible repeat (first|apply Kd.R_alloc|apply Kd.R_drewN|apply Kd.R_drew));exact HO_304001.out⟩,⟨by (with_reducible repeat (first|apply Kd.R_alloc|apply Kd.R_drewN|apply Kd.R_drew));exact Kd.R_mono HO_304002.out (fun _ hk=>hk.2)⟩,⟨by (with_reducible repeat (first|refine blk_drewN ?_ _|refine blk_drew ?_|refine blk_alloc ?_ _));exact BK303.out⟩,⟨by (with_reducible repeat (first|refine blk_drewN ?_ _|refine blk_drew ?_|refine blk_alloc ?_ _));exact BK306.out⟩,⟨by repeat (first|(with_reducible first|exact HB.out|apply below_alloc|apply pw_below_drewN|apply below_drew1|refine below_set ?_ GE303.out|refine below_set ?_ GE306.out)|exact HB.out)⟩⟩
      ·rw [if_neg c23] at H
       have c23b0 : (t308 == 0) = false:=beq_eq_false_iff_ne.mpr c23
       have c23b1 : (t308 != 0) = true:=bne_iff_ne.mpr c23
       (first|rw [c23b0]|(simp only [i64_w,i32_w];rw [c23b0])|skip)
       have H':=Aside0.mk H
       clear H
       go_wp2
       go_meet
       case rel=>exact ⟨_,(true),(by first|rfl|(simp;done)|(simp [*];done)),H',⟨by have:=HK1.out;first|omega|exact Nat.le_refl _⟩,⟨by (with_reducible repeat (first|apply Kd.R_alloc|apply Kd.R_drewN|apply Kd.R_drew));exact HO311.out⟩,⟨by (with_reducible repeat (first|apply Kd.S_alloc|apply Kd.S_drewN|apply Kd.S_drew));exact HO_304000.out⟩,⟨by (with_reducible repeat (first|apply Kd.R_alloc|apply Kd.R_drewN|apply Kd.R_drew));exact HO_304001.out⟩,⟨by (with_reducible repeat (first|apply Kd.R_alloc|apply Kd.R_drewN|apply Kd.R_drew));exact Kd.R_mono HO_304002.out (fun _ hk=>hk.2)⟩,⟨by (with_reducible repeat (first|refine blk_drewN ?_ _|refine blk_drew ?_|refine blk_alloc ?_ _));exact BK303.out⟩,⟨by (with_reducible repeat (first|refine blk_drewN ?_ _|refine blk_drew ?_|refine blk_alloc ?_ _));exact BK306.out⟩,⟨by repeat (first|(with_reducible first|exact HB.out|apply below_alloc|apply pw_below_drewN|apply below_drew1|refine below_set ?_ GE303.out|refine below_set ?_ GE306.out)|exact HB.out)⟩⟩
     case rest =>
      clear HC13
      try clear c9
      try clear c9b0
      try clear c10
      try clear c10b0
      try clear hcz14_0
      try clear hcz14_1
      try clear hcz14_2
      try clear hcz17_0
      try clear hcz17_1
      try clear hcz17_2
      try clear hcz17_3
      try clear hcz17_4
      try clear hcz17_5
      try clear hcz17_6
      try clear hcz17_7
      try clear hcz17_8
      try clear hcz18_0
      try clear hcz18_1
      try clear hcz18_2
      try clear hcz20_0
      try clear hcz20_1
      try clear hcz20_2
      try clear hcz21_0
      try clear hcz21_1
      try clear hcz21_2
      try clear hcz21_3
      try clear hcz21_4
      try clear hcz21_5
      try clear hcz21_6
      try clear hcz21_7
      try clear hcz21_8
      try clear hcz6_0
      try clear hcz6_1
      try clear hcz6_2
      try clear hfz14_0
      try clear hfz14_1
      try clear hfz14_2
      try clear hfz17_0
      try clear hfz17_1
      try clear hfz17_2
      try clear hfz17_3
      try clear hfz17_4
      try clear hfz17_5
      try clear hfz17_6
      try clear hfz17_7
      try clear hfz17_8
      try clear hfz18_0
      try clear hfz18_1
      try clear hfz18_2
      try clear hfz20_0
      try clear hfz20_1
      try clear hfz20_2
      try clear hfz21_0
      try clear hfz21_1
      try clear hfz21_2
      try clear hfz21_3
      try clear hfz21_4
      try clear hfz21_5
      try clear hfz21_6
      try clear hfz21_7
      try clear hfz21_8
      try clear hfz6_0
      try clear hfz6_1
      try clear hfz6_2
      try clear hx305_0
      try clear hx305_1
      try clear hx305_2
      try clear hx305_3
      try clear hx305_4
      try clear hx305_5
      try clear hx305_6
      try clear hx305_7
      try clear hx305_8
      try clear p305
      try clear q305
      obtain ⟨kq,x58_12,rfl,HA,HJ12,HO_8,HO_304000,HO_304001,HO_304002,BK303,BK306,HB⟩:=hcut
      cases kq with
      | zero=>exact absurd HA.out (by simp [pairinglaw9_TimetableFinds.j1])
      | succ kj12 =>
       have H:=HA.out
       clear HA
       simp only [pairinglaw9_TimetableFinds.j1] at H
       by_cases c25 : x58_12 = true
       ·subst c25
        have H1 : (some false) = some r:=by rw [if_pos rfl] at H;exact H
        clear H
        have H:=H1
        clear H1
        obtain rfl:=Option.some.inj H
        go_wp2
        go_ret
        exact ⟨by first|rfl|(simp [errW_none,errW_some] <;> rfl)|(simp [*,errW_none,errW_some] <;> rfl),by repeat (first|(with_reducible first|exact HB.out|apply below_alloc|apply pw_below_drewN|apply below_drew1|refine below_set ?_ GE303.out|refine below_set ?_ GE306.out)|exact HB.out)⟩
       ·replace c25:=Bool.eq_false_iff.mpr c25
        subst c25
        have H1 : (pairinglaw9_TimetableFinds.l1 kj12 x4_1 t309 false 0 t294 t297 t300) = some r:=by rw [if_neg (show ¬ (false = true) by decide)] at H;exact H
        clear H
        have H:=H1
        clear H1
        have H':=Aside0.mk H
        clear H
        go_wp2
        go_loopg [10,11] kj12 (fun kq v10 v11 w'=>∃ (x10_3 : Bool) (x11_3 : Int),v10 = .bool x10_3 ∧ v11 = .int .i64 x11_3 ∧ Aside0 (pairinglaw9_TimetableFinds.l1 kq x4_1 t309 x10_3 x11_3 t294 t297 t300 = some r) ∧ Aside0 (kq ≤ kj12) ∧ Aside0 (Kd.R (Kd.int .i64) 3 w' w.heap.size (fun _=>True) v310 t309) ∧ Aside0 (Kd.S k42 42 w' w.heap.size (fun _=>True) (.slice Ao5 t294.length co5) t294) ∧ Aside0 (Kd.R k39 39 w' w.heap.size (fun _=>True) (.slice Ao7 t297.length co7) t297) ∧ Aside0 (Kd.R k36 36 w' w.heap.size (fun k_=>k_ ≠ gb306) (.slice (some ad305) t300.length co8) t300) ∧ Aside0 (w'.heap[gb303]? = some (.cells #[(.slice Ao5 t294.length co5),(.slice Ao7 t297.length co7),(.slice (some ad305) t300.length co8)] 26 (0,0))) ∧ Aside0 (w'.heap[gb306]? = some (.cells #[.string ((rd_T36 t300 x4_1).f0),.string ((rd_T36 t300 x4_1).f1),.string ((rd_T36 t300 x4_1).f2),.int .i64 ((rd_T36 t300 x4_1).f3),.int .i64 ((rd_T36 t300 x4_1).f4),.string ((rd_T36 t300 x4_1).f5),.int .i64 ((rd_T36 t300 x4_1).f6.f0),.int .i64 ((rd_T36 t300 x4_1).f6.f1),.int .i64 ((rd_T36 t300 x4_1).f6.f2)] 36 (0,0))) ∧ Aside0 (Below w.heap.size w w'))
        case atStart=>exact ⟨(false),(0),(by first|rfl|(simp;done)|(simp [*];done)),(by first|rfl|(simp;done)|(simp [*];done)),H',⟨Nat.le_refl _⟩,⟨by (with_reducible repeat (first|apply Kd.R_alloc|apply Kd.R_drewN|apply Kd.R_drew));exact HO_8.out⟩,⟨by (with_reducible repeat (first|apply Kd.S_alloc|apply Kd.S_drewN|apply Kd.S_drew));exact HO_304000.out⟩,⟨by (with_reducible repeat (first|apply Kd.R_alloc|apply Kd.R_drewN|apply Kd.R_drew));exact HO_304001.out⟩,⟨by (with_reducible repeat (first|apply Kd.R_alloc|apply Kd.R_drewN|apply Kd.R_drew));exact HO_304002.out⟩,⟨by (with_reducible repeat (first|refine blk_drewN ?_ _|refine blk_drew ?_|refine blk_alloc ?_ _));exact BK303.out⟩,⟨by (with_reducible repeat (first|refine blk_drewN ?_ _|refine blk_drew ?_|refine blk_alloc ?_ _));exact BK306.out⟩,⟨by repeat (first|(with_reducible first|exact HB.out|apply below_alloc|apply pw_below_drewN|apply below_drew1|refine below_set ?_ GE303.out|refine below_set ?_ GE306.out)|exact HB.out)⟩⟩
        case round =>
         clear H'
         try clear c9
         try clear c9b0
         try clear c10
         try clear c10b0
         try clear c25
         try clear hcz14_0
         try clear hcz14_1
         try clear hcz14_2
         try clear hcz17_0
         try clear hcz17_1
         try clear hcz17_2
         try clear hcz17_3
         try clear hcz17_4
         try clear hcz17_5
         try clear hcz17_6
         try clear hcz17_7
         try clear hcz17_8
         try clear hcz18_0
         try clear hcz18_1
         try clear hcz18_2
         try clear hcz20_0
         try clear hcz20_1
         try clear hcz20_2
         try clear hcz21_0
         try clear hcz21_1
         try clear hcz21_2
         try clear hcz21_3
         try clear hcz21_4
         try clear hcz21_5
         try clear hcz21_6
         try clear hcz21_7
         try clear hcz21_8
         try clear hcz6_0
         try clear hcz6_1
         try clear hcz6_2
         try clear hfz14_0
         try clear hfz14_1
         try clear hfz14_2
         try clear hfz17_0
         try clear hfz17_1
         try clear hfz17_2
         try clear hfz17_3
         try clear hfz17_4
         try clear hfz17_5
         try clear hfz17_6
         try clear hfz17_7
         try clear hfz17_8
         try clear hfz18_0
         try clear hfz18_1
         try clear hfz18_2
         try clear hfz20_0
         try clear hfz20_1
         try clear hfz20_2
         try clear hfz21_0
         try clear hfz21_1
         try clear hfz21_2
         try clear hfz21_3
         try clear hfz21_4
         try clear hfz21_5
         try clear hfz21_6
         try clear hfz21_7
         try clear hfz21_8
         try clear hfz6_0
         try clear hfz6_1
         try clear hfz6_2
         try clear hx305_0
         try clear hx305_1
         try clear hx305_2
         try clear hx305_3
         try clear hx305_4
         try clear hx305_5
         try clear hx305_6
         try clear hx305_7
         try clear hx305_8
         try clear p305
         try clear q305
         obtain ⟨x10_3,x11_3,rfl,rfl,HA,HK3,HO_8,HO_304000,HO_304001,HO_304002,BK303,BK306,HB⟩:=hrel
         cases gk with
         | zero=>exact absurd HA.out (by simp [pairinglaw9_TimetableFinds.l1])
         | succ k3 =>
          have H:=HA.out
          clear HA
          simp only [pairinglaw9_TimetableFinds.l1] at H
          by_cases c26 : x11_3 < (t309.length : Int)
          ·rw [if_pos c26] at H
           have c26b0 : decide (x11_3 < (t309.length : Int)) = true:=decide_eq_true c26
           clear c26
           by_cases c27 : x10_3 = true
           ·subst c27
            have H1 : (pairinglaw9_TimetableFinds.l1 k3 x4_1 t309 true (wrap64 (x11_3 + 1)) t294 t297 t300) = some r:=by rw [if_pos rfl] at H;exact H
            clear H
            have H:=H1
            clear H1
            have H':=Aside0.mk H
            clear H
            obtain ⟨Ao28,co28,eo28⟩:=Kd.R_slice HO_8.out
            subst eo28
            go_wp2
            go_roundg k3
            case measure=>have:=HK1.out;have:=HJ12.out;have:=HK3.out;omega
            case rel=>exact ⟨(true),(wrap64 (x11_3 + 1)),(by first|rfl|(simp;done)|(simp [*];done)),(by first|rfl|(simp;done)|(simp [*];done)),H',⟨by have:=HK1.out;have:=HJ12.out;have:=HK3.out;omega⟩,⟨by (with_reducible repeat (first|apply Kd.R_alloc|apply Kd.R_drewN|apply Kd.R_drew));exact HO_8.out⟩,⟨by (with_reducible repeat (first|apply Kd.S_alloc|apply Kd.S_drewN|apply Kd.S_drew));exact HO_304000.out⟩,⟨by (with_reducible repeat (first|apply Kd.R_alloc|apply Kd.R_drewN|apply Kd.R_drew));exact HO_304001.out⟩,⟨by (with_reducible repeat (first|apply Kd.R_alloc|apply Kd.R_drewN|apply Kd.R_drew));exact HO_304002.out⟩,⟨by (with_reducible repeat (first|refine blk_drewN ?_ _|refine blk_drew ?_|refine blk_alloc ?_ _));exact BK303.out⟩,⟨by (with_reducible repeat (first|refine blk_drewN ?_ _|refine blk_drew ?_|refine blk_alloc ?_ _));exact BK306.out⟩,⟨by repeat (first|(with_reducible first|exact HB.out|apply below_alloc|apply pw_below_drewN|apply below_drew1|refine below_set ?_ GE303.out|refine below_set ?_ GE306.out)|exact HB.out)⟩⟩
           ·replace c27:=Bool.eq_false_iff.mpr c27
            subst c27
            have H1 : (if 0 ≤ x11_3 then (pairinglaw9_TimetableFinds.l1 k3 x4_1 t309 ((rd t309 x11_3) == x4_1) (wrap64 (x11_3 + 1)) t294 t297 t300) else (none)) = some r:=by rw [if_neg (show ¬ (false = true) by decide)] at H;exact H
            clear H
            have H:=H1
            clear H1
            by_cases c29 : 0 ≤ x11_3
            ·rw [if_pos c29] at H
             have c29b0 : decide (0 ≤ x11_3) = true:=decide_eq_true c29
             clear c29
             have H':=Aside0.mk H
             clear H
             obtain ⟨Ao30,co30,eo30⟩:=Kd.R_slice HO_8.out
             subst eo30
             have p313 : 0 ≤ (x11_3 : Int):=of_decide_eq_true (by first|(with_reducible assumption)|assumption)
             have q313 : x11_3 < (t309.length : Int):=of_decide_eq_true (by first|(with_reducible assumption)|assumption)
             obtain ⟨ad313,e313,hx313_0⟩:=Kd.at_int (Kd.R_reads' HO_8.out).2.2 x11_3 p313 q313
             cases e313
             replace p313:=eq_true p313
             replace q313:=eq_true q313
             go_wp2
             go_roundg k3
             case measure=>have:=HK1.out;have:=HJ12.out;have:=HK3.out;omega
             case rel=>exact ⟨(((rd t309 x11_3) == x4_1)),(wrap64 (x11_3 + 1)),(by first|rfl|(simp;done)|(simp [*];done)),(by first|rfl|(simp;done)|(simp [*];done)),H',⟨by have:=HK1.out;have:=HJ12.out;have:=HK3.out;omega⟩,⟨by (with_reducible repeat (first|apply Kd.R_alloc|apply Kd.R_drewN|apply Kd.R_drew));exact HO_8.out⟩,⟨by (with_reducible repeat (first|apply Kd.S_alloc|apply Kd.S_drewN|apply Kd.S_drew));exact HO_304000.out⟩,⟨by (with_reducible repeat (first|apply Kd.R_alloc|apply Kd.R_drewN|apply Kd.R_drew));exact HO_304001.out⟩,⟨by (with_reducible repeat (first|apply Kd.R_alloc|apply Kd.R_drewN|apply Kd.R_drew));exact HO_304002.out⟩,⟨by (with_reducible repeat (first|refine blk_drewN ?_ _|refine blk_drew ?_|refine blk_alloc ?_ _));exact BK303.out⟩,⟨by (with_reducible repeat (first|refine blk_drewN ?_ _|refine blk_drew ?_|refine blk_alloc ?_ _));exact BK306.out⟩,⟨by repeat (first|(with_reducible first|exact HB.out|apply below_alloc|apply pw_below_drewN|apply below_drew1|refine below_set ?_ GE303.out|refine below_set ?_ GE306.out)|exact HB.out)⟩⟩
            ·rw [if_neg c29] at H
             exact absurd H (by simp)
          ·rw [if_neg c26] at H
           have c26b0 : decide (x11_3 < (t309.length : Int)) = false:=decide_eq_false c26
           clear c26
           by_cases c31 : x10_3 = true
           ·subst c31
            have H1 : (pairinglaw9_TimetableFinds.l0 k3 (wrap64 (x4_1 + 1)) t294 t297 t300) = some r:=by rw [if_pos rfl] at H;exact H
            clear H
            have H:=H1
            clear H1
            have H':=Aside0.mk H
            clear H
            obtain ⟨Ao32,co32,eo32⟩:=Kd.R_slice HO_8.out
            subst eo32
            go_wp2
            go_roundg k3
            case measure=>have:=HK1.out;have:=HJ12.out;have:=HK3.out;omega
            case rel=>exact ⟨(wrap64 (x4_1 + 1)),(by first|rfl|(simp;done)|(simp [*];done)),H',⟨by have:=HK1.out;have:=HJ12.out;have:=HK3.out;omega⟩,⟨by (with_reducible repeat (first|apply Kd.S_alloc|apply Kd.S_drewN|apply Kd.S_drew));exact HO_304000.out⟩,⟨by (with_reducible repeat (first|apply Kd.R_alloc|apply Kd.R_drewN|apply Kd.R_drew));exact HO_304001.out⟩,⟨by (with_reducible repeat (first|apply Kd.R_alloc|apply Kd.R_drewN|apply Kd.R_drew));exact Kd.R_mono HO_304002.out (fun _ hk=>trivial)⟩,⟨by (with_reducible repeat (first|refine blk_drewN ?_ _|refine blk_drew ?_|refine blk_alloc ?_ _));exact BK303.out⟩,⟨by repeat (first|(with_reducible first|exact HB.out|apply below_alloc|apply pw_below_drewN|apply below_drew1|refine below_set ?_ GE303.out|refine below_set ?_ GE306.out)|exact HB.out)⟩⟩
           ·replace c31:=Bool.eq_false_iff.mpr c31
            subst c31
            have H1 : (some false) = some r:=by rw [if_neg (show ¬ (false = true) by decide)] at H;exact H
            clear H
            have H:=H1
            clear H1
            obtain rfl:=Option.some.inj H
            obtain ⟨Ao33,co33,eo33⟩:=Kd.R_slice HO_8.out
            subst eo33
            go_wp2
            go_ret
            exact ⟨by first|rfl|(simp [errW_none,errW_some] <;> rfl)|(simp [*,errW_none,errW_some] <;> rfl),by repeat (first|(with_reducible first|exact HB.out|apply below_alloc|apply pw_below_drewN|apply below_drew1|refine below_set ?_ GE303.out|refine below_set ?_ GE306.out)|exact HB.out)⟩
    ·rw [if_neg c10] at H
     exact absurd H (by simp)
   ·rw [if_neg c9] at H
    have c9b0 : decide (x4_1 < (t300.length : Int)) = false:=decide_eq_false c9
    clear c9
    replace H:=Option.bind_eq_some_iff.mp H
    obtain ⟨t304,A340,H⟩:=H
    replace H : (some t304) = some r:=H
    have A34:=Aside0.mk A340
    clear A340
    obtain rfl:=Option.some.inj H
    have hcz35_0 : wr.cell? ⟨gb303,0,none⟩ = some (.slice Ao5 t294.length co5):=(blk_cell BK303.out 0).trans rfl
    have hcz35_1 : wr.cell? ⟨gb303,1,none⟩ = some (.slice Ao7 t297.length co7):=(blk_cell BK303.out 1).trans rfl
    have hcz35_2 : wr.cell? ⟨gb303,2,none⟩ = some (.slice Ao8 t300.length co8):=(blk_cell BK303.out 2).trans rfl
    have hfz35_0:=blk_frozen BK303.out 0
    have hfz35_1:=blk_frozen BK303.out 1
    have hfz35_2:=blk_frozen BK303.out 2
    go_wp2_with (first|((with_reducible refine gate_callee (f:=10) rfl ?_);refine goesL_ (some 76) rfl rfl Try.func10 (by kernel_rfl) rfl #[] rfl (by (try simp only [List.map_toArray,List.map_cons,List.map_nil]);first|done|rfl|(simp only [List.length_drop,List.length_take];rfl)) ?_;(with_reducible refine (pairinglaw9_awake.calls k1  t304 _ A34.out).mono ?_);rintro e w36 ⟨rfl,hb⟩;refine ⟨_,rfl,?_⟩;have n0_:=Aside0.mk (Kd.S_below (by (with_reducible repeat (first|apply Kd.S_alloc|apply Kd.S_drewN|apply Kd.S_drew));exact HO_304000.out) hb);have n1_:=Aside0.mk (Kd.R_below (by (with_reducible repeat (first|apply Kd.R_alloc|apply Kd.R_drewN|apply Kd.R_drew));exact HO_304001.out) hb);have n2_:=Aside0.mk (Kd.R_below (by (with_reducible repeat (first|apply Kd.R_alloc|apply Kd.R_drewN|apply Kd.R_drew));exact HO_304002.out) hb);have n3_:=Aside0.mk (blk_below (g:=gb303) (o:=.cells #[.slice Ao5 t294.length co5,.slice Ao7 t297.length co7,.slice Ao8 t300.length co8] 26 (0,0)) (by (with_reducible repeat (first|refine blk_drewN ?_ _|refine blk_drew ?_|refine blk_alloc ?_ _));exact BK303.out) hb);have n4_:=Aside0.mk (below_step (by repeat (first|(with_reducible first|exact HB.out|apply below_alloc|apply pw_below_drewN|apply below_drew1|refine below_set ?_ GE303.out)|exact HB.out)) hb);clear HO_304000;clear HO_304001;clear HO_304002;clear BK303;clear HB;have HO_304000:=n0_;have HO_304001:=n1_;have HO_304002:=n2_;have BK303:=n3_;have HB:=n4_;clear n0_ n1_ n2_ n3_ n4_;(try clear hb);(try clear hb2);(try clear hk);(try clear hi)))
    go_ret
    exact ⟨by first|rfl|(simp [errW_none,errW_some] <;> rfl)|(simp [*,errW_none,errW_some] <;> rfl),by repeat (first|(with_reducible first|exact HB.out|apply below_alloc|apply pw_below_drewN|apply below_drew1|refine below_set ?_ GE303.out)|exact HB.out)⟩
def pairinglaw9_TimetableFinds.Pure : Prop:=∀ (l0 : List Int),l0.length ≤ maxLen → l0.length * 8 ≤ 140737488351232 → (∀ x ∈ l0,(Lit.int .i64 x).wf = true) → ∃ k,pairinglaw9_TimetableFinds.f k l0 = some true
theorem pairinglaw9_TimetableFinds.walk (P : pairinglaw9_TimetableFinds.Pure) (a0 : Option Addr) (len0 cap0 : Nat) (z0 : List Int) (w : World) (w0 : (a0 = none ∧ len0 = 0 ∧ cap0 = 0 ∧ z0 = []) ∨ ∃ x,a0 = some x ∧ len0 ≤ cap0 ∧ cap0 ≤ maxLen ∧ z0.length = cap0 ∧ (∀ i,i < z0.length → w.cell? (x.add i) = some (.int .i64 (z0.getD i 0))) ∧ ∀ n ∈ z0,(Lit.int .i64 n).wf = true) (y0 : len0 * 8 ≤ 140737488351232) :
  Calls Try.prog 7 #[.slice a0 len0 cap0] w fun e w'=>e = .returned (.bool true) ∧ Below w.heap.size w w':=by
 obtain ⟨l0,rfl,hr0,hm0,hw0,hc0⟩:=ReadsInt.ofRowC w0
 obtain ⟨k,h⟩:=P l0 hm0 y0 hw0
 refine (pairinglaw9_TimetableFinds.calls k _ _ l0 true w (Kd.C_of_reads (d:=(0 : Int)) (h1:=fun _=>rfl) hr0) hc0 h).mono ?_
 rintro e w' ⟨rfl,hd⟩
 exact ⟨rfl,hd⟩
end Go.Proofs.Ytepnddmalheoiaa.Q
namespace Go.Proofs.Ytepnddmalheoiaa.Q
open Go.Proofs.Ytepnddmalheoiaa.H
open Go.RowKit Go.Proofs.YtepnddmalheoiaaW.PrintWords Go.Proofs.YtepnddmalheoiaaW.PrintLast Go.Proofs.YtepnddmalheoiaaW.PrintMore
attribute [local go_sem] str_leq str_geq str_gtr max2_int min2_int max_two min_two max_three min_three max_four min_four   -- for this text's walks alone
set_option linter.unusedVariables false
set_option linter.unusedSimpArgs false
def pairingref5_lower.f (a0 : Int) : Option (Bool):=if a0 ≥ 97 then (some (decide (a0 ≤ 122))) else (some false)
end Go.Proofs.Ytepnddmalheoiaa.Q
namespace Go.Proofs.Ytepnddmalheoiaa.TtA
open Go.RowKit Go.Proofs.Ytepnddmalheoiaa.H Go.Proofs.Ytepnddmalheoiaa.Q Go.Proofs.YtepnddmalheoiaaW.PrintWords
theorem w1 (i : Nat) (h : i < 4611686018427387904) : wrap64 ((i : Int) + 1) = ((i + 1 : Nat) : Int):=by unfold wrap64;omega
theorem w1' (i : Nat) (h : i < 4611686018427387904) (h0 : 0 < i) : wrap64 ((i : Int) - 1) = ((i - 1 : Nat) : Int):=by unfold wrap64;omega
theorem rlower (c : Int) : pairingref5_lower.f c = some (lowerP c):=by unfold pairingref5_lower.f lowerP;split <;> simp <;> omega
theorem plower (c : Int) : text_lower.f c = some (lowerP c):=by unfold text_lower.f lowerP;split <;> simp <;> omega
def allN (p : Int → Bool) (s : ByteArray) : Nat → Nat → Bool
 | 0,_=>true
 | n + 1,i=>p (bt s (i : Int)) && allN p s n (i + 1)
theorem allN_true (p : Int → Bool) (s : ByteArray) (n : Nat) : ∀ i,allN p s n i = true ↔ ∀ j,i ≤ j → j < i + n → p (bt s (j : Int)) = true:=by
 induction n with
 | zero=>intro i;simp [allN];intro j h1 h2;omega
 | succ n ih =>
  intro i
  simp only [allN,Bool.and_eq_true,ih]
  constructor
  ·rintro ⟨h1,h2⟩ j h3 h4
   by_cases hj : j = i
   ·rw [hj];exact h1
   ·exact h2 j (by omega) (by omega)
  ·intro h
   exact ⟨h i (by omega) (by omega),fun j h1 h2=>h j (by omega) (by omega)⟩
theorem all_allN (p : Int → Bool) (s : ByteArray) : (bytesOf s).all p = allN p s s.size 0:=by
 by_cases h : allN p s s.size 0 = true
 ·rw [h]
  exact all_bytes s p s.size rfl fun i hi=>(allN_true p s s.size 0).1 h i (by omega) (by omega)
 ·have h' : ¬ ∀ j,0 ≤ j → j < 0 + s.size → p (bt s (j : Int)) = true:=fun hh=>h ((allN_true p s s.size 0).2 hh)
  have h2 : ∃ j : Nat,j < s.size ∧ p (bt s (j : Int)) = false:=by
   apply Classical.byContradiction
   intro hn
   apply h'
   intro j _ hj
   by_cases hp : p (bt s (j : Int)) = true
   ·exact hp
   ·exact absurd ⟨j,by omega,by simpa using hp⟩ hn
  obtain ⟨j,hj,hp⟩:=h2
  rw [not_all_bytes s p j hj hp]
  simpa using h
def nameS (s : ByteArray) : Bool:=decide (1 ≤ s.size ∧ s.size ≤ 16) && lowerP (bt s 0) && allN nameP s s.size 0
def codeS (s : ByteArray) : Bool:=decide (1 ≤ s.size ∧ s.size ≤ 8) && allN codeP s s.size 0
def portS (s : ByteArray) : Bool:=decide (s.size = 3) && allN upperP s s.size 0
theorem pall_name (s : ByteArray) (h : s.size ≤ 9223372036854775807) : text_all_IsName_1.f s = some (allN nameP s s.size 0):=by unfold text_all_IsName_1.f;rw [if_pos h,all_allN]
theorem pall_code (s : ByteArray) (h : s.size ≤ 9223372036854775807) : text_all_IsCode_1.f s = some (allN codeP s s.size 0):=by unfold text_all_IsCode_1.f;rw [if_pos h,all_allN]
theorem pall_port (s : ByteArray) (h : s.size ≤ 9223372036854775807) : text_all_upper.f s = some (allN upperP s s.size 0):=by unfold text_all_upper.f;rw [if_pos h,all_allN]
theorem pname (s : ByteArray) : text_IsName.f s = some (nameS s):=by
 unfold text_IsName.f nameS
 by_cases h1 : (s.size : Int) ≥ 1
 ·rw [if_pos h1]
  by_cases h2 : (s.size : Int) ≤ 16
  ·rw [if_pos h2,if_pos (by omega),plower,Option.bind_some,decide_eq_true (by omega),pall_name s (by omega)]
   cases lowerP (bt s 0) <;> simp
  ·rw [if_neg h2,decide_eq_false (by omega)];rfl
 ·rw [if_neg h1,decide_eq_false (by omega)];rfl
theorem pcode (s : ByteArray) : text_IsCode.f s = some (codeS s):=by
 unfold text_IsCode.f codeS
 by_cases h1 : (s.size : Int) ≥ 1
 ·rw [if_pos h1]
  by_cases h2 : (s.size : Int) ≤ 8
  ·rw [if_pos h2,decide_eq_true (by omega),pall_code s (by omega)];simp
  ·rw [if_neg h2,decide_eq_false (by omega)];rfl
 ·rw [if_neg h1,decide_eq_false (by omega)];rfl
theorem pport (s : ByteArray) : text_IsAirport.f s = some (portS s):=by
 unfold text_IsAirport.f portS
 by_cases h : (s.size : Int) = 3
 ·rw [if_pos h,decide_eq_true (by omega),pall_port s (by omega)];simp
 ·rw [if_neg h,decide_eq_false (by omega)];rfl
end Go.Proofs.Ytepnddmalheoiaa.TtA
namespace Go.Proofs.Ytepnddmalheoiaa.TtB
open Go.RowKit Go.Proofs.Ytepnddmalheoiaa.H Go.Proofs.Ytepnddmalheoiaa.Q Go.Proofs.Ytepnddmalheoiaa.TtA Go.Proofs.YtepnddmalheoiaaW.PrintWords
def offS (c : Int) : Bool:=decide (-840 ≤ c ∧ c ≤ 840)
theorem poff (c : Int) : zone_offsetOK.f c = some (offS c):=by unfold zone_offsetOK.f offS;split <;> simp <;> omega
def atS (c : Int) : Bool:=decide (0 ≤ c ∧ c < 52596000)
def shS (sh : List S44) : Nat → Nat → Int
 | 0,_=>0
 | n + 1,i=>if (atS (rd_T44 sh (i : Int)).f0 && offS (rd_T44 sh (i : Int)).f1) = true then (if 0 < i ∧ (rd_T44 sh (i : Int)).f0 ≤ (rd_T44 sh ((i - 1 : Nat) : Int)).f0 then 8 else shS sh n (i + 1)) else 5
theorem pz_l0 (sh : List S44) (a : ByteArray) (b : Int) (hl : sh.length ≤ 16) (n : Nat) : ∀ k i : Nat,2 * n < k → i + n = sh.length → zone_Validate.l0 k sh (sh.length : Int) (i : Int) a b sh = some (shS sh n i):=by
 induction n with
 | zero =>
  intro k i hk hi
  obtain ⟨k,rfl⟩ : ∃ m,k = m + 1:=⟨k - 1,by omega⟩
  simp only [zone_Validate.l0,shS]
  rw [if_neg (by omega)]
 | succ n ih =>
  intro k i hk hi
  obtain ⟨k,rfl⟩ : ∃ m,k = m + 2:=⟨k - 2,by omega⟩
  have hjt : zone_Validate.j1 (k + 1) (i : Int) sh (sh.length : Int) (i : Int) true a b sh (rd_T44 sh (i : Int)).f0 (rd_T44 sh (i : Int)).f1 = some 5:=by simp only [zone_Validate.j1];rw [if_pos trivial]
  have hjf : zone_Validate.j1 (k + 1) (i : Int) sh (sh.length : Int) (i : Int) false a b sh (rd_T44 sh (i : Int)).f0 (rd_T44 sh (i : Int)).f1 = some (if 0 < i ∧ (rd_T44 sh (i : Int)).f0 ≤ (rd_T44 sh ((i - 1 : Nat) : Int)).f0 then 8 else shS sh n (i + 1)):=by
   simp only [zone_Validate.j1]
   rw [if_neg (show ¬ (false = true) by simp),w1 i (by omega),ih k (i + 1) (by omega) (by omega)]
   by_cases h0 : 0 < i
   ·rw [if_pos (show (i : Int) > 0 by omega),w1' i (by omega) h0,if_pos (show 0 ≤ ((i - 1 : Nat) : Int) by omega),if_pos (show ((i - 1 : Nat) : Int) < (sh.length : Int) by omega)]
    by_cases h1 : (rd_T44 sh (i : Int)).f0 ≤ (rd_T44 sh ((i - 1 : Nat) : Int)).f0
    ·rw [if_pos h1,if_pos ⟨h0,h1⟩]
    ·rw [if_neg h1,if_neg (fun h=>h1 h.2)]
   ·rw [if_neg (show ¬ (i : Int) > 0 by omega),if_neg (fun h=>h0 h.1)]
  simp only [zone_Validate.l0,shS]
  rw [if_pos (by omega),if_pos (by omega),if_pos (by omega),hjt,poff,Option.bind_some]
  unfold atS
  by_cases h1 : (rd_T44 sh (i : Int)).f0 < 0
  ·rw [if_pos h1,decide_eq_false (by omega)];simp
  ·rw [if_neg h1]
   by_cases h2 : (rd_T44 sh (i : Int)).f0 ≥ 52596000
   ·rw [if_pos h2,decide_eq_false (by omega)];simp
   ·rw [if_neg h2,decide_eq_true (by omega)]
    cases offS (rd_T44 sh (i : Int)).f1
    ·rw [Bool.not_false,hjt];simp
    ·rw [Bool.not_true,hjf];simp
def zoneS (a : ByteArray) (o : Int) (sh : List S44) : Int:=if nameS a = true then (if offS o = true then (if (sh.length : Int) > 16 then 10 else shS sh sh.length 0) else 5) else 1
theorem pzone (a : ByteArray) (o : Int) (sh : List S44) (k : Nat) (hk : 40 ≤ k) : zone_Validate.f k a o sh = some (zoneS a o sh):=by
 unfold zone_Validate.f zoneS
 rw [pname,Option.bind_some,poff,Option.bind_some]
 repeat' split
 all_goals first|rfl|skip
 exact pz_l0 sh a o (by omega) sh.length k 0 (by omega) (by omega)
def ix (q : Nat → Bool) : Nat → Nat → Int
 | 0,_=>-1
 | n + 1,i=>if q i = true then (i : Int) else ix q n (i + 1)
def zq (l : List S42) (a : ByteArray) (j : Nat) : Bool:=(rd_T42 l (j : Int)).f0.toList == a.toList
def aq (l : List S39) (a : ByteArray) (j : Nat) : Bool:=(rd_T39 l (j : Int)).f0.toList == a.toList
theorem pzi (l : List S42) (a : ByteArray) (hl : l.length < 4611686018427387904) (n : Nat) : ∀ k i : Nat,n < k → i + n = l.length → timetable_zoneIndex.l0 k a l (l.length : Int) (i : Int) = some (ix (zq l a) n i):=by
 induction n with
 | zero =>
  intro k i hk hi
  obtain ⟨k,rfl⟩ : ∃ m,k = m + 1:=⟨k - 1,by omega⟩
  simp only [timetable_zoneIndex.l0,ix]
  rw [if_neg (by omega)]
 | succ n ih =>
  intro k i hk hi
  obtain ⟨k,rfl⟩ : ∃ m,k = m + 1:=⟨k - 1,by omega⟩
  simp only [timetable_zoneIndex.l0,ix,zq,beq_iff_eq]
  rw [if_pos (by omega),if_pos (by omega),if_pos (by omega),w1 i (by omega),ih k (i + 1) (by omega) (by omega)]
  split <;> rfl
theorem pai (l : List S39) (a : ByteArray) (hl : l.length < 4611686018427387904) (n : Nat) : ∀ k i : Nat,n < k → i + n = l.length → timetable_airportIndex.l0 k a l (l.length : Int) (i : Int) = some (ix (aq l a) n i):=by
 induction n with
 | zero =>
  intro k i hk hi
  obtain ⟨k,rfl⟩ : ∃ m,k = m + 1:=⟨k - 1,by omega⟩
  simp only [timetable_airportIndex.l0,ix]
  rw [if_neg (by omega)]
 | succ n ih =>
  intro k i hk hi
  obtain ⟨k,rfl⟩ : ∃ m,k = m + 1:=⟨k - 1,by omega⟩
  simp only [timetable_airportIndex.l0,ix,aq,beq_iff_eq]
  rw [if_pos (by omega),if_pos (by omega),if_pos (by omega),w1 i (by omega),ih k (i + 1) (by omega) (by omega)]
  split <;> rfl
def zoneI (l : List S42) (a : ByteArray) : Int:=ix (zq l a) l.length 0
def portI (l : List S39) (a : ByteArray) : Int:=ix (aq l a) l.length 0
theorem pzoneI (l : List S42) (a : ByteArray) (k : Nat) (hl : l.length < k) (hk : k ≤ 4611686018427387904) : timetable_zoneIndex.f k l a = some (zoneI l a):=pzi l a (by omega) l.length k 0 hl (by omega)
theorem pportI (l : List S39) (a : ByteArray) (k : Nat) (hl : l.length < k) (hk : k ≤ 4611686018427387904) : timetable_airportIndex.f k l a = some (portI l a):=pai l a (by omega) l.length k 0 hl (by omega)
end Go.Proofs.Ytepnddmalheoiaa.TtB
namespace Go.Proofs.Ytepnddmalheoiaa.TtC
open Go.RowKit Go.Proofs.Ytepnddmalheoiaa.H Go.Proofs.Ytepnddmalheoiaa.Q Go.Proofs.Ytepnddmalheoiaa.TtA Go.Proofs.Ytepnddmalheoiaa.TtB Go.Proofs.YtepnddmalheoiaaW.PrintWords
def oneN (c : Int) : Bool:=decide (0 ≤ c ∧ c ≤ 8)
def needS (f : S36) : Bool:=oneN f.f6.f0 && (oneN f.f6.f1 && oneN f.f6.f2)
theorem one_false {c : Int} (h : c < 0 ∨ c > 8) : oneN c = false:=decide_eq_false (by omega)
theorem one_true {c : Int} (h : ¬ c < 0) (h' : ¬ c > 8) : oneN c = true:=decide_eq_true (by omega)
theorem s01 : wrap64 (0 + 1) = 1:=by unfold wrap64;omega
theorem s12 : wrap64 (1 + 1) = 2:=by unfold wrap64;omega
theorem s23 : wrap64 (2 + 1) = 3:=by unfold wrap64;omega
theorem rd0 (a b c : Int) : rd [a,b,c] 0 = a:=rfl
theorem rd1 (a b c : Int) : rd [a,b,c] 1 = b:=rfl
theorem rd2 (a b c : Int) : rd [a,b,c] 2 = c:=rfl
theorem pneed (k : Nat) (hk : 5 ≤ k) (f : S36) : timetable_needOK.f k f.f0 f.f1 f.f2 f.f3 f.f4 f.f5 f.f6.f0 f.f6.f1 f.f6.f2 = some (needS f):=by
 obtain ⟨k,rfl⟩ : ∃ m,k = m + 4:=⟨k - 4,by omega⟩
 unfold timetable_needOK.f needS
 simp only [timetable_needOK.l0,s01,s12,s23,rd0,rd1,rd2]
 rw [if_pos (show (0 : Int) < 3 by decide),if_pos (show (0 : Int) ≤ 0 by decide)]
 by_cases a0 : f.f6.f0 < 0
 ·rw [if_pos a0,one_false (.inl a0)];rfl
 rw [if_neg a0]
 by_cases b0 : f.f6.f0 > 8
 ·rw [if_pos b0,one_false (.inr b0)];rfl
 rw [if_neg b0,one_true a0 b0,if_pos (show (1 : Int) < 3 by decide),if_pos (show (0 : Int) ≤ 1 by decide)]
 by_cases a1 : f.f6.f1 < 0
 ·rw [if_pos a1,one_false (.inl a1)];rfl
 rw [if_neg a1]
 by_cases b1 : f.f6.f1 > 8
 ·rw [if_pos b1,one_false (.inr b1)];rfl
 rw [if_neg b1,one_true a1 b1,if_pos (show (2 : Int) < 3 by decide),if_pos (show (0 : Int) ≤ 2 by decide)]
 by_cases a2 : f.f6.f2 < 0
 ·rw [if_pos a2,one_false (.inl a2)];rfl
 rw [if_neg a2]
 by_cases b2 : f.f6.f2 > 8
 ·rw [if_pos b2,one_false (.inr b2)];rfl
 rw [if_neg b2,one_true a2 b2,if_neg (show ¬ (3 : Int) < 3 by decide)];rfl
def flightS (ps : List S39) (f : S36) : Int :=
 if (codeS f.f0 && nameS f.f5) = true then
  if portI ps f.f1 < 0 ∨ portI ps f.f2 < 0 then 6 else
  if f.f1.toList = f.f2.toList then 14 else
  if f.f3 < 2880 ∨ f.f4 > 52593120 ∨ f.f4 ≤ f.f3 ∨ wrap64 (f.f4 - f.f3) > 1440 ∨ needS f = false then 5 else 0
 else 1
theorem pj1 (k : Nat) (hk : 6 ≤ k) (f : S36) : timetable_checkFlight.j1 k false f.f0 f.f1 f.f2 f.f3 f.f4 f.f5 f.f6.f0 f.f6.f1 f.f6.f2 =
  some (if f.f1.toList = f.f2.toList then 14 else if f.f3 < 2880 ∨ f.f4 > 52593120 ∨ f.f4 ≤ f.f3 ∨ wrap64 (f.f4 - f.f3) > 1440 ∨ needS f = false then 5 else 0):=by
 obtain ⟨k,rfl⟩ : ∃ m,k = m + 1:=⟨k - 1,by omega⟩
 simp only [timetable_checkFlight.j1]
 rw [if_neg (show ¬ (false = true) by simp),pneed k (by omega)]
 by_cases h1 : f.f1.toList = f.f2.toList
 ·rw [if_pos h1,if_pos h1]
 rw [if_neg h1,if_neg h1]
 by_cases h2 : f.f3 < 2880
 ·rw [if_pos h2,if_pos (.inl h2)]
 rw [if_neg h2]
 by_cases h3 : f.f4 > 52593120
 ·rw [if_pos h3,if_pos (.inr (.inl h3))]
 rw [if_neg h3]
 by_cases h4 : f.f4 ≤ f.f3
 ·rw [if_pos h4,if_pos (.inr (.inr (.inl h4)))]
 rw [if_neg h4]
 by_cases h5 : wrap64 (f.f4 - f.f3) > 1440
 ·rw [if_pos h5,if_pos (.inr (.inr (.inr (.inl h5))))]
 rw [if_neg h5,Option.bind_some]
 by_cases h6 : needS f = true
 ·rw [if_pos h6,if_neg]
  rintro (h|h|h|h|h)
  ·exact h2 h
  ·exact h3 h
  ·exact h4 h
  ·exact h5 h
  ·rw [h6] at h;exact absurd h (by simp)
 ·rw [if_neg h6,if_pos (.inr (.inr (.inr (.inr (by simpa using h6)))))]
theorem pflight (zs : List S42) (ps : List S39) (fs : List S36) (f : S36) (k : Nat) (hk : ps.length + 10 ≤ k) (hk2 : k ≤ 4611686018427387904) :
  timetable_checkFlight.f k zs ps fs f.f0 f.f1 f.f2 f.f3 f.f4 f.f5 f.f6.f0 f.f6.f1 f.f6.f2 = some (flightS ps f):=by
 obtain ⟨k,rfl⟩ : ∃ m,k = m + 2:=⟨k - 2,by omega⟩
 unfold timetable_checkFlight.f flightS
 rw [pcode,Option.bind_some,pname,Option.bind_some]
 have hj : timetable_checkFlight.j0 (k + 2) true zs ps fs f.f0 f.f1 f.f2 f.f3 f.f4 f.f5 f.f6.f0 f.f6.f1 f.f6.f2 = some 1:=by simp only [timetable_checkFlight.j0];rw [if_pos trivial]
 cases codeS f.f0
 ·rw [if_neg (by simp),hj];simp
 rw [if_pos rfl]
 cases nameS f.f5
 ·rw [Bool.not_false,hj];simp
 rw [Bool.not_true,if_pos (by rfl)]
 simp only [timetable_checkFlight.j0]
 rw [if_neg (show ¬ (false = true) by simp),pportI ps _ (k + 1) (by omega) (by omega),Option.bind_some,pportI ps _ (k + 1) (by omega) (by omega),Option.bind_some]
 have ht : timetable_checkFlight.j1 (k + 1) true f.f0 f.f1 f.f2 f.f3 f.f4 f.f5 f.f6.f0 f.f6.f1 f.f6.f2 = some 6:=by simp only [timetable_checkFlight.j1];rw [if_pos trivial]
 by_cases h1 : portI ps f.f1 < 0
 ·rw [if_pos h1,ht,if_pos (.inl h1)]
 rw [if_neg h1]
 by_cases h2 : portI ps f.f2 < 0
 ·rw [decide_eq_true h2,ht,if_pos (.inr h2)]
 rw [decide_eq_false h2,pj1 (k + 1) (by omega),if_neg (show ¬ (portI ps f.f1 < 0 ∨ portI ps f.f2 < 0) from fun h=>h.elim h1 h2)]
def ordS (ps : List S39) (fs : List S36) (i : Nat) : Int :=
 if flightS ps (rd_T36 fs (i : Int)) = 0 then
  if 0 < i then
   (if (rd_T36 fs (i : Int)).f3 < (rd_T36 fs ((i - 1 : Nat) : Int)).f3 then 8 else if (rd_T36 fs (i : Int)).f3 = (rd_T36 fs ((i - 1 : Nat) : Int)).f3 then (if Op.bytesLess (rd_T36 fs ((i - 1 : Nat) : Int)).f0.toList (rd_T36 fs (i : Int)).f0.toList = true then 0 else 8) else 0)
  else 0
 else flightS ps (rd_T36 fs (i : Int))
theorem ord_ne {ps : List S39} {fs : List S36} {i : Nat} {e : Int} (h : flightS ps (rd_T36 fs (i : Int)) = e) (he : e ≠ 0) : ordS ps fs i = e:=by
 unfold ordS
 rw [if_neg (by rw [h];exact he),h]
theorem ord_ok {ps : List S39} {fs : List S36} {i : Nat} (h : flightS ps (rd_T36 fs (i : Int)) = 0) : ordS ps fs i =
  (if 0 < i then
   (if (rd_T36 fs (i : Int)).f3 < (rd_T36 fs ((i - 1 : Nat) : Int)).f3 then 8 else if (rd_T36 fs (i : Int)).f3 = (rd_T36 fs ((i - 1 : Nat) : Int)).f3 then (if Op.bytesLess (rd_T36 fs ((i - 1 : Nat) : Int)).f0.toList (rd_T36 fs (i : Int)).f0.toList = true then 0 else 8) else 0)
  else 0):=if_pos h
def flL (ps : List S39) (fs : List S36) : Nat → Nat → Int
 | 0,_=>0
 | n + 1,i=>if ordS ps fs i = 0 then flL ps fs n (i + 1) else ordS ps fs i
def portV (zs : List S42) (ps : List S39) (i : Nat) : Int :=
 if portS (rd_T39 ps (i : Int)).f0 = true then (if portI ps (rd_T39 ps (i : Int)).f0 < (i : Int) then 7 else if zoneI zs (rd_T39 ps (i : Int)).f1 < 0 then 6 else 0) else 1
def apL (zs : List S42) (ps : List S39) (fs : List S36) : Nat → Nat → Int
 | 0,_=>flL ps fs fs.length 0
 | n + 1,i=>if portV zs ps i = 0 then apL zs ps fs n (i + 1) else portV zs ps i
def zoneV (zs : List S42) (i : Nat) : Int :=
 if zoneS (rd_T42 zs (i : Int)).f0 (rd_T42 zs (i : Int)).f1 (rd_T42 zs (i : Int)).f2 = 0 then (if zoneI zs (rd_T42 zs (i : Int)).f0 < (i : Int) then 7 else 0) else zoneS (rd_T42 zs (i : Int)).f0 (rd_T42 zs (i : Int)).f1 (rd_T42 zs (i : Int)).f2
def zoL (zs : List S42) (ps : List S39) (fs : List S36) : Nat → Nat → Int
 | 0,_=>apL zs ps fs ps.length 0
 | n + 1,i=>if zoneV zs i = 0 then zoL zs ps fs n (i + 1) else zoneV zs i
def validS (zs : List S42) (ps : List S39) (fs : List S36) : Int:=if zs.length > 16 ∨ ps.length > 64 ∨ fs.length > 200 then 10 else zoL zs ps fs zs.length 0
theorem pV2 (zs : List S42) (ps : List S39) (fs : List S36) (hp : ps.length ≤ 64) (hf : fs.length ≤ 200) (n : Nat) : ∀ k i : Nat,n + 100 ≤ k → k ≤ 4611686018427387904 → i + n = fs.length → timetable_Validate.l2 k fs (fs.length : Int) (i : Int) zs ps fs = some (flL ps fs n i):=by
 induction n with
 | zero =>
  intro k i hk hk2 hi
  obtain ⟨k,rfl⟩ : ∃ m,k = m + 1:=⟨k - 1,by omega⟩
  simp only [timetable_Validate.l2,flL]
  rw [if_neg (by omega)]
 | succ n ih =>
  intro k i hk hk2 hi
  obtain ⟨k,rfl⟩ : ∃ m,k = m + 1:=⟨k - 1,by omega⟩
  simp only [timetable_Validate.l2,flL]
  rw [if_pos (by omega),if_pos (by omega),if_pos (by omega),pflight zs ps fs _ k (by omega) (by omega),Option.bind_some,w1 i (by omega),ih k (i + 1) (by omega) (by omega) (by omega)]
  by_cases h : flightS ps (rd_T36 fs (i : Int)) = 0
  ·rw [if_pos h,ord_ok h]
   by_cases h0 : 0 < i
   ·rw [if_pos (show (i : Int) > 0 by omega),w1' i (by omega) h0,if_pos (show 0 ≤ ((i - 1 : Nat) : Int) by omega),if_pos (show ((i - 1 : Nat) : Int) < (fs.length : Int) by omega),if_pos h0]
    unfold timetable_after.f
    generalize rd_T36 fs (i : Int) = f
    generalize rd_T36 fs ((i - 1 : Nat) : Int) = g
    by_cases h1 : f.f3 < g.f3
    ·rw [if_neg (by omega),if_neg (by omega),if_pos h1];rfl
    ·by_cases h2 : f.f3 = g.f3
     ·rw [if_neg (by omega),if_pos h2,if_neg h1,if_pos h2,Option.bind_some]
      cases Op.bytesLess g.f0.toList f.f0.toList <;> rfl
     ·rw [if_pos (by omega),if_neg h1,if_neg h2];rfl
   ·rw [if_neg (by omega),if_neg h0];rfl
  ·rw [if_neg h,ord_ne rfl h,if_neg h]
theorem pV1 (zs : List S42) (ps : List S39) (fs : List S36) (hz : zs.length ≤ 16) (hp : ps.length ≤ 64) (hf : fs.length ≤ 200) (n : Nat) : ∀ k i : Nat,n + 500 ≤ k → k ≤ 4611686018427387904 → i + n = ps.length → timetable_Validate.l1 k (ps.length : Int) (i : Int) zs ps fs = some (apL zs ps fs n i):=by
 induction n with
 | zero =>
  intro k i hk hk2 hi
  obtain ⟨k,rfl⟩ : ∃ m,k = m + 1:=⟨k - 1,by omega⟩
  simp only [timetable_Validate.l1,apL]
  rw [if_neg (by omega)]
  exact pV2 zs ps fs hp hf fs.length k 0 (by omega) (by omega) (by omega)
 | succ n ih =>
  intro k i hk hk2 hi
  obtain ⟨k,rfl⟩ : ∃ m,k = m + 1:=⟨k - 1,by omega⟩
  simp only [timetable_Validate.l1,apL]
  have hc : timetable_checkAirport.f k zs ps fs (i : Int) = some (portV zs ps i):=by
   unfold timetable_checkAirport.f portV
   rw [if_pos (by omega),if_pos (by omega),pport,Option.bind_some,pportI ps _ k (by omega) (by omega),Option.bind_some,pzoneI zs _ k (by omega) (by omega),Option.bind_some]
   repeat' split
   all_goals rfl
  rw [if_pos (by omega),hc,Option.bind_some,w1 i (by omega),ih k (i + 1) (by omega) (by omega) (by omega)]
  split <;> rfl
theorem pV0 (zs : List S42) (ps : List S39) (fs : List S36) (hz : zs.length ≤ 16) (hp : ps.length ≤ 64) (hf : fs.length ≤ 200) (n : Nat) : ∀ k i : Nat,n + 1000 ≤ k → k ≤ 4611686018427387904 → i + n = zs.length → timetable_Validate.l0 k zs (zs.length : Int) (i : Int) zs ps fs = some (zoL zs ps fs n i):=by
 induction n with
 | zero =>
  intro k i hk hk2 hi
  obtain ⟨k,rfl⟩ : ∃ m,k = m + 1:=⟨k - 1,by omega⟩
  simp only [timetable_Validate.l0,zoL]
  rw [if_neg (by omega)]
  exact pV1 zs ps fs hz hp hf ps.length k 0 (by omega) (by omega) (by omega)
 | succ n ih =>
  intro k i hk hk2 hi
  obtain ⟨k,rfl⟩ : ∃ m,k = m + 1:=⟨k - 1,by omega⟩
  simp only [timetable_Validate.l0,zoL]
  rw [if_pos (by omega),if_pos (by omega),if_pos (by omega),pzone _ _ _ k (by omega),Option.bind_some,pzoneI zs _ k (by omega) (by omega),Option.bind_some,w1 i (by omega),ih k (i + 1) (by omega) (by omega) (by omega)]
  by_cases h : zoneS (rd_T42 zs (i : Int)).f0 (rd_T42 zs (i : Int)).f1 (rd_T42 zs (i : Int)).f2 = 0
  ·rw [if_pos h]
   by_cases h1 : zoneI zs (rd_T42 zs (i : Int)).f0 < (i : Int)
   ·have hv : zoneV zs i = 7:=by unfold zoneV;rw [if_pos h,if_pos h1]
    rw [if_pos h1,hv];rfl
   ·have hv : zoneV zs i = 0:=by unfold zoneV;rw [if_pos h,if_neg h1]
    rw [if_neg h1,hv];rfl
  ·have hv : zoneV zs i = zoneS (rd_T42 zs (i : Int)).f0 (rd_T42 zs (i : Int)).f1 (rd_T42 zs (i : Int)).f2:=by unfold zoneV;rw [if_neg h]
   rw [if_neg h,if_neg (by rw [hv];exact h),hv]
theorem pvalid (zs : List S42) (ps : List S39) (fs : List S36) (k : Nat) (hk : 1100 ≤ k) (hk2 : k ≤ 4611686018427387904) : timetable_Validate.f k zs ps fs = some (validS zs ps fs):=by
 obtain ⟨k,rfl⟩ : ∃ m,k = m + 1:=⟨k - 1,by omega⟩
 have ht : timetable_Validate.j0 (k + 1) true zs ps fs = some 10:=by simp only [timetable_Validate.j0];rw [if_pos trivial]
 unfold timetable_Validate.f validS
 by_cases h1 : (zs.length : Int) > 16
 ·rw [if_pos h1,ht,if_pos (.inl (by omega))]
 rw [if_neg h1]
 by_cases h2 : (ps.length : Int) > 64
 ·rw [if_pos h2,ht,if_pos (.inr (.inl (by omega)))]
 rw [if_neg h2]
 by_cases h3 : (fs.length : Int) > 200
 ·rw [decide_eq_true h3,ht,if_pos (.inr (.inr (by omega)))]
 rw [decide_eq_false h3,if_neg (by omega)]
 simp only [timetable_Validate.j0]
 rw [if_neg (show ¬ (false = true) by simp)]
 exact pV0 zs ps fs (by omega) (by omega) (by omega) zs.length k 0 (by omega) (by omega) (by omega)
end Go.Proofs.Ytepnddmalheoiaa.TtC
namespace Go.Proofs.Ytepnddmalheoiaa.Q
open Go.Proofs.Ytepnddmalheoiaa.H Go.Proofs.Ytepnddmalheoiaa.TtA Go.Proofs.Ytepnddmalheoiaa.TtB Go.Proofs.Ytepnddmalheoiaa.TtC
open Go.RowKit Go.Proofs.YtepnddmalheoiaaW.PrintWords Go.Proofs.YtepnddmalheoiaaW.PrintLast Go.Proofs.YtepnddmalheoiaaW.PrintMore
set_option linter.unusedVariables false
set_option linter.unusedSimpArgs false
theorem num_code (i : Int) (h0 : 0 ≤ i) (h1 : i ≤ 6) : codeS (numF i) = true:=by
 obtain rfl|rfl|rfl|rfl|rfl|rfl|rfl : i = 0 ∨ i = 1 ∨ i = 2 ∨ i = 3 ∨ i = 4 ∨ i = 5 ∨ i = 6:=by omega
 all_goals decide +kernel
theorem typ_name (j : Int) (h0 : 0 ≤ j) (h1 : j ≤ 2) : nameS (typeF j) = true:=by
 obtain rfl|rfl|rfl : j = 0 ∨ j = 1 ∨ j = 2:=by omega
 all_goals decide +kernel
theorem code_port (j : Int) (h0 : 0 ≤ j) (h1 : j ≤ 2) : portI portsB (codeF j) = j:=by
 obtain rfl|rfl|rfl : j = 0 ∨ j = 1 ∨ j = 2:=by omega
 all_goals decide +kernel
theorem code_ne (a t : Int) (h0 : 0 ≤ a) (h1 : a ≤ 2) (h2 : 0 ≤ t) (h3 : t ≤ 2) (h : a ≠ t) : ¬ (codeF a).toList = (codeF t).toList:=by
 obtain rfl|rfl|rfl : a = 0 ∨ a = 1 ∨ a = 2:=by omega
 all_goals
  obtain rfl|rfl|rfl : t = 0 ∨ t = 1 ∨ t = 2:=by omega
  all_goals first|exact absurd rfl h|decide +kernel
theorem num_ne (i j : Int) (h0 : 0 ≤ i) (h1 : i < j) (h2 : j ≤ 6) : ¬ (numF i).toList = (numF j).toList:=by
 obtain rfl|rfl|rfl|rfl|rfl|rfl|rfl : i = 0 ∨ i = 1 ∨ i = 2 ∨ i = 3 ∨ i = 4 ∨ i = 5 ∨ i = 6:=by omega
 all_goals
  obtain rfl|rfl|rfl|rfl|rfl|rfl|rfl : j = 0 ∨ j = 1 ∨ j = 2 ∨ j = 3 ∨ j = 4 ∨ j = 5 ∨ j = 6:=by omega
  all_goals first|omega|decide +kernel
def GoodF (i : Int) (f : S36) : Prop:=flightS portsB f = 0 ∧ f.f0 = numF i ∧ 1440000 ≤ f.f3 ∧ f.f3 ≤ 1450000 ∧ f.f3 < f.f4 ∧ f.f4 ≤ 1460000 ∧ ∃ a t j : Int,0 ≤ a ∧ a ≤ 2 ∧ 0 ≤ t ∧ t ≤ 2 ∧ a ≠ t ∧ 0 ≤ j ∧ j ≤ 2 ∧ f.f1 = codeF a ∧ f.f2 = codeF t ∧ f.f5 = typeF j ∧ f.f6 = ⟨1,1,2⟩
def Chain : Int → Int → List S36 → Prop
 | _,_,[]=>True
 | i,lo,f :: t=>GoodF i f ∧ lo ≤ f.f3 ∧ Chain (i + 1) (f.f3 + 1) t
theorem chain_lower (t : List S36) (i lo lo' : Int) (h : lo' ≤ lo) (hc : Chain i lo t) : Chain i lo' t:=by
 cases t with
 | nil=>trivial
 | cons f t=>exact ⟨hc.1,Int.le_trans h hc.2.1,hc.2.2⟩
theorem chain_bFs (l : List Int) (hat : AtOk l) (g : Nat) : ∀ (i a clock : Int),0 ≤ i → i + g ≤ 7 → 0 ≤ a → a ≤ 2 → 1440000 ≤ clock → clock ≤ 1441425 + 1000 * i → Chain i clock (bFs l g i a clock):=by
 induction g with
 | zero=>intro i a clock _ _ _ _ _ _;trivial
 | succ g ih =>
  intro i a clock h0 h1 h2 h3 h4 h5
  obtain ⟨_,hn0,hn1⟩:=hat (2 + i) (by omega) (by omega)
  unfold bFs
  generalize atN l (2 + i) = n at *
  have ha : 0 ≤ bAt n a ∧ bAt n a ≤ 2:=by unfold bAt;split <;> omega
  generalize bAt n a = x at *
  have ht : 0 ≤ bTo n x ∧ bTo n x ≤ 2 ∧ x ≠ bTo n x:=by unfold bTo;repeat' split <;> omega
  have hg:=gap_range (n / 16 % 8) (by omega) (by omega)
  have hg2 : 30 ≤ rd gapL (n / 16 % 8):=by
   have hj0 : 0 ≤ n / 16 % 8:=by omega
   have hj1 : n / 16 % 8 < 8:=by omega
   generalize n / 16 % 8 = j at *
   obtain rfl|rfl|rfl|rfl|rfl|rfl|rfl|rfl : j = 0 ∨ j = 1 ∨ j = 2 ∨ j = 3 ∨ j = 4 ∨ j = 5 ∨ j = 6 ∨ j = 7:=by omega
   all_goals decide
  have hd : bDep n clock = clock + rd gapL (n / 16 % 8):=rfl
  have hdep : clock ≤ bDep n clock ∧ bDep n clock ≤ clock + 780:=by omega
  generalize bDep n clock = dep at *
  have harr : dep + 60 ≤ bArr n dep ∧ bArr n dep ≤ dep + 135:=by unfold bArr;omega
  have hcl : dep + 1 ≤ bClock n dep ∧ bClock n dep ≤ dep + 135:=by unfold bClock;split <;> omega
  refine ⟨⟨?_,rfl,by show 1440000 ≤ dep;omega,by show dep ≤ 1450000;omega,by show dep < bArr n dep;omega,by show bArr n dep ≤ 1460000;omega,x,bTo n x,n / 1024 % 3,ha.1,ha.2,ht.1,ht.2.1,ht.2.2,by omega,by omega,rfl,rfl,rfl,rfl⟩,by show clock ≤ dep;omega,chain_lower _ _ _ _ hcl.1 (ih (i + 1) (bTo n x) (bClock n dep) (by omega) (by omega) ht.1 ht.2.1 (by omega) (by omega))⟩
  unfold flightS bFlight
  simp only
  rw [num_code i h0 (by omega),typ_name _ (by omega) (by omega),code_port x ha.1 ha.2,code_port _ ht.1 ht.2.1]
  have hw : wrap64 (bArr n dep - dep) = bArr n dep - dep:=by unfold wrap64;omega
  rw [if_pos (show (true && true) = true from rfl),if_neg (by omega),if_neg (code_ne _ _ ha.1 ha.2 ht.1 ht.2.1 ht.2.2),if_neg (by rw [hw];rintro (h|h|h|h|h) <;> first|omega|(have h2 : true = false:=h;cases h2))]
structure GoodL (fs : List S36) : Prop where
 len : fs.length ≤ 7
 at_ : ∀ i : Nat,i < fs.length → GoodF (i : Int) (rd_T36 fs (i : Int))
 up : ∀ i : Nat,i + 1 < fs.length → (rd_T36 fs (i : Int)).f3 < (rd_T36 fs ((i + 1 : Nat) : Int)).f3
theorem chain_get (t : List S36) : ∀ (i lo : Int),Chain i lo t → (∀ j : Nat,j < t.length → GoodF (i + j) (t.getD j z36) ∧ lo ≤ (t.getD j z36).f3) ∧ ∀ j : Nat,j + 1 < t.length → (t.getD j z36).f3 < (t.getD (j + 1) z36).f3:=by
 induction t with
 | nil=>intro i lo _;exact ⟨fun j h=>absurd h (by simp),fun j h=>absurd h (by simp)⟩
 | cons f t ih =>
  rintro i lo ⟨h1,h2,h3⟩
  obtain ⟨a,b⟩:=ih _ _ h3
  refine ⟨fun j hj=>?_,fun j hj=>?_⟩
  ·cases j with
   | zero=>exact ⟨by simpa using h1,h2⟩
   | succ j =>
    obtain ⟨x,y⟩:=a j (by simpa using hj)
    have e : i + ((j + 1 : Nat) : Int) = i + 1 + (j : Int):=by omega
    rw [e]
    have e2 : ((f :: t).getD (j + 1) z36) = t.getD j z36:=rfl
    exact ⟨x,by rw [e2];omega⟩
  ·cases j with
   | zero =>
    have:=(a 0 (by simpa using hj)).2
    show f.f3 < (t.getD 0 z36).f3
    omega
   | succ j=>exact b j (by simpa using hj)
theorem bFs_length (l : List Int) (g : Nat) : ∀ i a clock,(bFs l g i a clock).length = g:=by
 induction g with
 | zero=>intro _ _ _;rfl
 | succ g ih=>intro i a clock;simp [bFs,ih]
theorem bAll_good (l : List Int) (hat : AtOk l) : GoodL (bAll l) ∧ 2 ≤ (bAll l).length:=by
 obtain ⟨_,h0,h1⟩:=hat 0 (by omega) (by omega)
 obtain ⟨_,g0,g1⟩:=hat 1 (by omega) (by omega)
 have hm : 2 ≤ bM l ∧ bM l ≤ 7:=by unfold bM;omega
 have hc:=chain_bFs l hat (bM l).toNat 0 0 (1440000 + 15 * (atN l 0 % 96)) (by omega) (by omega) (by omega) (by omega) (by omega) (by omega)
 have hl : (bAll l).length = (bM l).toNat:=bFs_length _ _ _ _ _
 obtain ⟨a,b⟩:=chain_get _ _ _ hc
 refine ⟨⟨by omega,fun i hi=>?_,fun i hi=>b i hi⟩,by omega⟩
 have:=(a i hi).1
 rwa [Int.zero_add] at this
theorem good_ord {fs : List S36} (h : GoodL fs) (i : Nat) (hi : i < fs.length) : ordS portsB fs i = 0:=by
 unfold ordS
 rw [if_pos (h.at_ i hi).1]
 by_cases h0 : 0 < i
 ·rw [if_pos h0]
  have:=h.up (i - 1) (by omega)
  rw [show i - 1 + 1 = i by omega] at this
  rw [if_neg (by omega),if_neg (by omega)]
 ·rw [if_neg h0]
theorem good_flL {fs : List S36} (h : GoodL fs) (n : Nat) : ∀ i,i + n = fs.length → flL portsB fs n i = 0:=by
 induction n with
 | zero=>intro i _;rfl
 | succ n ih=>intro i hi;unfold flL;rw [if_pos (good_ord h i (by omega))];exact ih (i + 1) (by omega)
theorem zonesB_ok : zoneV zonesB 0 = 0 ∧ zoneV zonesB 1 = 0 ∧ zoneV zonesB 2 = 0 ∧ portV zonesB portsB 0 = 0 ∧ portV zonesB portsB 1 = 0 ∧ portV zonesB portsB 2 = 0:=by decide +kernel
theorem good_valid {fs : List S36} (h : GoodL fs) : validS zonesB portsB fs = 0:=by
 unfold validS
 have hl:=h.len
 rw [if_neg (by rintro (h|h|h) <;> first|omega|exact absurd h (by decide))]
 show zoL zonesB portsB fs 3 0 = 0
 obtain ⟨z0,z1,z2,p0,p1,p2⟩:=zonesB_ok
 unfold zoL;rw [if_pos z0];show zoL zonesB portsB fs 2 1 = 0
 unfold zoL;rw [if_pos z1];show zoL zonesB portsB fs 1 2 = 0
 unfold zoL;rw [if_pos z2];show zoL zonesB portsB fs 0 3 = 0
 unfold zoL
 show apL zonesB portsB fs 3 0 = 0
 unfold apL;rw [if_pos p0];show apL zonesB portsB fs 2 1 = 0
 unfold apL;rw [if_pos p1];show apL zonesB portsB fs 1 2 = 0
 unfold apL;rw [if_pos p2];show apL zonesB portsB fs 0 3 = 0
 unfold apL
 exact good_flL h _ 0 (by omega)
end Go.Proofs.Ytepnddmalheoiaa.Q
namespace Go.Proofs.Ytepnddmalheoiaa.Pure
open Go.Proofs.Ytepnddmalheoiaa.H Go.Proofs.Ytepnddmalheoiaa.TtA Go.Proofs.Ytepnddmalheoiaa.TtB Go.Proofs.Ytepnddmalheoiaa.TtC
open Go.RowKit Go.Proofs.Ytepnddmalheoiaa.Q Go.Proofs.YtepnddmalheoiaaW.PrintWords Go.Proofs.YtepnddmalheoiaaW.PrintLast Go.Proofs.YtepnddmalheoiaaW.PrintMore
set_option linter.unusedVariables false
set_option linter.unusedSimpArgs false
theorem and_low (x y : Int) (m : Nat) (h0 : BitVec.ofInt 64 y = BitVec.ofNat 64 m) (hm : m < 9223372036854775808) : 0 ≤ Go.bits .and .i64 x y ∧ Go.bits .and .i64 x y ≤ m:=by
 have h1 : (BitVec.ofInt 64 x &&& BitVec.ofInt 64 y).toNat ≤ m:=by
  rw [BitVec.toNat_and,h0]
  exact Nat.le_trans Nat.and_le_right (by simp;omega)
 have h2 : Go.bits .and .i64 x y = IntKind.i64.wrap ((BitVec.ofInt 64 x &&& BitVec.ofInt 64 y).toNat : Int):=rfl
 rw [h2,wraps_i64 _ (by omega) (by omega)]
 omega
theorem low16 (x : Int) : 0 ≤ Go.bits .and .i64 x 65535 ∧ Go.bits .and .i64 x 65535 ≤ 65535:=and_low x 65535 65535 (by decide) (by decide)
theorem at_ok (l : List Int) (hl : l.length * 8 ≤ 140737488351232) : atOkB l = true:=by
 unfold atOkB
 refine List.all_eq_true.2 fun i hi=>?_
 have hi9 : i < 9:=List.mem_range.1 hi
 refine decide_eq_true ?_
 have key : ∃ v : Int,pairingbase_At.f l (i : Int) = some v ∧ 0 ≤ v ∧ v ≤ 70000:=by
  unfold pairingbase_At.f
  by_cases h0 : (l.length : Int) = 0
  ·rw [if_pos h0]
   obtain ⟨a,b⟩:=low16 (i : Int)
   exact ⟨_,rfl,a,by omega⟩
  ·rw [if_neg h0]
   have hm : Int.tmod (i : Int) (l.length : Int) = (i : Int) % (l.length : Int):=Int.tmod_eq_emod_of_nonneg (by omega)
   have hd : Int.tdiv (i : Int) (l.length : Int) = (i : Int) / (l.length : Int):=Int.tdiv_eq_ediv_of_nonneg (by omega)
   have hp : 0 < (l.length : Int):=by omega
   have e0:=Int.emod_nonneg (i : Int) h0
   have e1:=Int.emod_lt_of_pos (i : Int) hp
   have d0 : 0 ≤ (i : Int) / (l.length : Int):=Int.ediv_nonneg (by omega) (by omega)
   have d1 : (i : Int) / (l.length : Int) ≤ (i : Int):=Int.ediv_le_self _ (by omega)
   rw [hm,hd,if_pos e0,if_pos e1]
   obtain ⟨a,b⟩:=low16 (rd l ((i : Int) % (l.length : Int)))
   generalize Go.bits .and .i64 (rd l ((i : Int) % (l.length : Int))) 65535 = x at *
   generalize (i : Int) / (l.length : Int) = y at *
   refine ⟨_,rfl,?_,?_⟩ <;> (have w1 : wrap64 y = y:=by unfold wrap64;omega) <;> rw [w1] <;> unfold wrap64 <;> omega
 obtain ⟨v,h1,h2,h3⟩:=key
 have hv : atN l (i : Int) = v:=by unfold atN;rw [h1];rfl
 rw [hv]
 exact ⟨h1,h2,h3⟩
theorem ff_l0 (fs : List S36) (hg : GoodL fs) (i : Nat) (hi : i < fs.length) (n : Nat) : ∀ k j : Nat,n < k → j + n = i → timetable_FindFlight.l0 k (numF (i : Int)) ((rd_T36 fs (i : Int)).f3) fs (fs.length : Int) (j : Int) = some ((i : Int),0):=by
 have hl:=hg.len
 induction n with
 | zero =>
  intro k j hk hj
  obtain ⟨k,rfl⟩ : ∃ m,k = m + 1:=⟨k - 1,by omega⟩
  obtain rfl : j = i:=by omega
  unfold timetable_FindFlight.l0
  rw [if_pos (by omega),if_pos (by omega),if_pos (by omega),if_pos (by rw [(hg.at_ j hi).2.1]),if_pos rfl]
 | succ n ih =>
  intro k j hk hj
  obtain ⟨k,rfl⟩ : ∃ m,k = m + 1:=⟨k - 1,by omega⟩
  unfold timetable_FindFlight.l0
  rw [if_pos (by omega),if_pos (by omega),if_pos (by omega),if_neg (by rw [(hg.at_ j (by omega)).2.1];exact num_ne _ _ (by omega) (by omega) (by omega)),w1 j (by omega)]
  exact ih k (j + 1) (by omega) (by omega)
theorem dep_l0 (fs : List S36) (code : ByteArray) (lo hi : Int) (hl : fs.length ≤ 7) (n : Nat) : ∀ (k j : Nat) (acc : List Int),n < k → j + n = fs.length → acc.length ≤ j →
  ∃ out : List Int,timetable_Departures.l0 k code acc fs (fs.length : Int) (j : Int) lo hi = some (out,0) ∧ out.length ≤ fs.length ∧ (∀ x ∈ acc,x ∈ out) ∧ (∀ q : Nat,j ≤ q → q < fs.length → (rd_T36 fs (q : Int)).f1.toList = code.toList → lo ≤ (rd_T36 fs (q : Int)).f3 → (rd_T36 fs (q : Int)).f3 < hi → (q : Int) ∈ out):=by
 induction n with
 | zero =>
  intro k j acc hk hj ha
  obtain ⟨k,rfl⟩ : ∃ m,k = m + 1:=⟨k - 1,by omega⟩
  unfold timetable_Departures.l0
  rw [if_neg (by omega)]
  exact ⟨acc,rfl,by omega,fun x h=>h,fun q h1 h2=>by omega⟩
 | succ n ih =>
  intro k j acc hk hj ha
  obtain ⟨k,rfl⟩ : ∃ m,k = m + 1:=⟨k - 1,by omega⟩
  unfold timetable_Departures.l0
  rw [if_pos (by omega),if_pos (by omega),if_pos (by omega),w1 j (by omega)]
  have skip : ∀ (hno : ¬ ((rd_T36 fs (j : Int)).f1.toList = code.toList ∧ lo ≤ (rd_T36 fs (j : Int)).f3 ∧ (rd_T36 fs (j : Int)).f3 < hi)),∃ out : List Int,timetable_Departures.l0 k code acc fs (fs.length : Int) ((j + 1 : Nat) : Int) lo hi = some (out,0) ∧ out.length ≤ fs.length ∧ (∀ x ∈ acc,x ∈ out) ∧ (∀ q : Nat,j ≤ q → q < fs.length → (rd_T36 fs (q : Int)).f1.toList = code.toList → lo ≤ (rd_T36 fs (q : Int)).f3 → (rd_T36 fs (q : Int)).f3 < hi → (q : Int) ∈ out):=by
   intro hno
   obtain ⟨out,h1,h2,h3,h4⟩:=ih k (j + 1) acc (by omega) (by omega) (by omega)
   refine ⟨out,h1,h2,h3,fun q hq hq2 a b c=>?_⟩
   by_cases e : q = j
   ·subst e;exact absurd ⟨a,b,c⟩ hno
   ·exact h4 q (by omega) hq2 a b c
  by_cases c1 : (rd_T36 fs (j : Int)).f1.toList = code.toList
  ·rw [if_pos c1]
   by_cases c2 : (rd_T36 fs (j : Int)).f3 ≥ lo
   ·rw [if_pos c2]
    by_cases c3 : (rd_T36 fs (j : Int)).f3 < hi
    ·rw [if_pos c3,if_pos (by omega)]
     obtain ⟨out,h1,h2,h3,h4⟩:=ih k (j + 1) (acc ++ [(j : Int)]) (by omega) (by omega) (by simp;omega)
     refine ⟨out,h1,h2,fun x hx=>h3 x (List.mem_append_left _ hx),fun q hq hq2 a b c=>?_⟩
     by_cases e : q = j
     ·subst e;exact h3 _ (by simp)
     ·exact h4 q (by omega) hq2 a b c
    ·rw [if_neg c3];exact skip (fun h=>c3 h.2.2)
   ·rw [if_neg c2];exact skip (fun h=>c2 h.2.1)
  ·rw [if_neg c1];exact skip (fun h=>c1 h.1)
theorem found_l1 (zs : List S42) (ps : List S39) (fs : List S36) (d : List Int) (hd : d.length ≤ 7) (i : Nat) (hi : i < 100) (n : Nat) : ∀ (m j : Nat) (b : Bool),j + n = d.length → (b = true ∨ ∃ q : Nat,j ≤ q ∧ q < d.length ∧ rd d (q : Int) = (i : Int)) → pairinglaw9_TimetableFinds.l1 (n + 1 + m) (i : Int) d b (j : Int) zs ps fs = pairinglaw9_TimetableFinds.l0 m ((i + 1 : Nat) : Int) zs ps fs:=by
 induction n with
 | zero =>
  intro m j b hj h
  obtain rfl : b = true:=by
   rcases h with h|⟨q,h1,h2,_⟩
   ·exact h
   ·omega
  rw [show 0 + 1 + m = m + 1 by omega]
  conv=>lhs;unfold pairinglaw9_TimetableFinds.l1
  rw [if_neg (by omega),if_pos rfl,w1 i (by omega)]
 | succ n ih =>
  intro m j b hj h
  rw [show n + 1 + 1 + m = (n + 1 + m) + 1 by omega]
  conv=>lhs;unfold pairinglaw9_TimetableFinds.l1
  rw [if_pos (by omega),w1 j (by omega)]
  cases b with
  | true=>rw [if_pos rfl];exact ih m (j + 1) true (by omega) (.inl rfl)
  | false =>
   rw [if_neg (by simp),if_pos (by omega)]
   refine ih m (j + 1) _ (by omega) ?_
   rcases h with h|⟨q,h1,h2,h3⟩
   ·cases h
   ·by_cases e : q = j
    ·subst e;exact .inl (by rw [h3];simp)
    ·exact .inr ⟨q,by omega,h2,h3⟩
theorem finds_l0 (fs : List S36) (hg : GoodL fs) (n : Nat) : ∀ k i : Nat,2000 + 100 * n ≤ k → k ≤ 4611686018427387904 → i + n = fs.length → pairinglaw9_TimetableFinds.l0 k (i : Int) zonesB portsB fs = some true:=by
 have hl:=hg.len
 induction n with
 | zero =>
  intro k i hk hk2 hi
  obtain ⟨k,rfl⟩ : ∃ m,k = m + 1:=⟨k - 1,by omega⟩
  unfold pairinglaw9_TimetableFinds.l0
  rw [if_neg (by omega)]
  have ha : pairinglaw9_awake.f k = some true:=by unfold pairinglaw9_awake.f;rw [if_pos (by omega)]
  rw [ha];rfl
 | succ n ih =>
  intro k i hk hk2 hi
  obtain ⟨k,rfl⟩ : ∃ m,k = m + 1:=⟨k - 1,by omega⟩
  unfold pairinglaw9_TimetableFinds.l0
  obtain ⟨hf0,hf1,hf2,hf3,hf4,hf5,a,t,q,ha0,ha2,_,_,_,_,_,hfr,_⟩:=hg.at_ i (by omega)
  have hv : timetable_Validate.f k zonesB portsB fs = some 0:=by rw [pvalid _ _ _ k (by omega) (by omega),good_valid hg]
  have hF : timetable_FindFlight.f k zonesB portsB fs ((rd_T36 fs (i : Int)).f0) ((rd_T36 fs (i : Int)).f3) = some ((i : Int),0):=by
   unfold timetable_FindFlight.f
   rw [hv,Option.bind_some,if_pos rfl,hf1]
   exact ff_l0 fs hg i (by omega) i k 0 (by omega) (by omega)
  obtain ⟨out,ho1,ho2,ho3,ho4⟩:=dep_l0 fs ((rd_T36 fs (i : Int)).f1) ((rd_T36 fs (i : Int)).f3) (wrap64 ((rd_T36 fs (i : Int)).f3 + 1)) hl fs.length k 0 [] (by omega) (by omega) (by simp)
  have hD : timetable_Departures.f k zonesB portsB fs ((rd_T36 fs (i : Int)).f1) ((rd_T36 fs (i : Int)).f3) (wrap64 ((rd_T36 fs (i : Int)).f3 + 1)) = some (out,0):=by
   unfold timetable_Departures.f
   rw [hv,Option.bind_some,if_pos rfl,hfr,pportI portsB (codeF a) k (by show 3 < k;omega) (by omega),code_port a ha0 ha2,Option.bind_some,if_neg (by omega)]
   rw [hfr] at ho1
   exact ho1
  have hmem : (i : Int) ∈ out:=ho4 i (by omega) (by omega) rfl (Int.le_refl _) (by unfold wrap64;omega)
  rw [if_pos (by omega),if_pos (by omega),hF,Option.bind_some,hD,Option.bind_some,if_pos rfl,if_pos rfl]
  obtain ⟨k,rfl⟩ : ∃ m,k = m + 1:=⟨k - 1,by omega⟩
  show pairinglaw9_TimetableFinds.j1 (k + 1) (i : Int) out false zonesB portsB fs = some true
  unfold pairinglaw9_TimetableFinds.j1
  rw [if_neg (by simp)]
  obtain ⟨m,rfl⟩ : ∃ m,k = out.length + 1 + m:=⟨k - (out.length + 1),by omega⟩
  obtain ⟨q,hq⟩:=List.getElem?_of_mem hmem
  have hql : q < out.length:=(List.getElem?_eq_some_iff.1 hq).1
  have hrd : rd out (q : Int) = (i : Int):=by
   unfold rd
   rw [Int.toNat_natCast,List.getD_eq_getElem?_getD,hq];rfl
  have:=found_l1 zonesB portsB fs out (by omega) i (by omega) out.length m 0 false (by omega) (.inr ⟨q,by omega,hql,hrd⟩)
  rw [show ((0 : Nat) : Int) = 0 from rfl] at this
  rw [this]
  exact ih m (i + 1) (by omega) (by omega) (by omega)
theorem TimetableFinds : pairinglaw9_TimetableFinds.Pure:=by
 intro l _ hl _
 refine ⟨5000,?_⟩
 unfold pairinglaw9_TimetableFinds.f pairingbase_Timetable.f
 have ha:=at_ok l hl
 rw [if_pos ha,Option.bind_some]
 exact finds_l0 (bAll l) (bAll_good l (atOk_of ha)).1 (bAll l).length 5000 0 (by have:=(bAll_good l (atOk_of ha)).1.len;omega) (by omega) (by omega)
end Go.Proofs.Ytepnddmalheoiaa.Pure
namespace Go.Proofs.Ytepnddmalheoiaa.timetableFinds
open Go.ChangeShapes Go.WideShapes Go.ChangeAt Go.RowKit
open Go.ChangeMaps (open_string shut_string)
open Go.Proofs.YtepnddmalheoiaaW
set_option linter.unusedVariables false
theorem own : ownKnob Try.prog.godebug = none:=by kernel_rfl
theorem laidOut : laidOutB Try.prog = true:=by kernel_rfl
def IsRow (k : IntKind) (w : World) (a : Option Addr) (len cap : Nat) (zs : List Int) : Prop :=
 (a = none ∧ len = 0 ∧ cap = 0 ∧ zs = []) ∨
 ∃ x,a = some x ∧ len ≤ cap ∧ cap ≤ maxLen ∧ zs.length = cap ∧ (∀ i,i < zs.length → w.cell? (x.add i) = some (.int k (zs.getD i 0))) ∧ ∀ n ∈ zs,(Lit.int k n).wf = true
set_option maxRecDepth 100000 in
theorem lifted (os : Os) (started : os.Started) (H : Type) (enc : TypeId × Value → H) :
  ReturnsInHanded {} Try.checked os 7 .any (Rows.timetableFindsSpec.pre6 enc Try.prog Try.f7 Rows.timetableFindsRow.domain false) (Rows.timetableFindsSpec.post enc Try.prog Try.f7 false true false false):=by
 refine returnsInHanded_of_change_sized (C:=Try.checked) own started (by kernel_rfl) Try.func7
  (ChangeSpec.witness6 (enc:=enc) (C:=Try.checked) false ⟨#[],#[.slice none 0 0],[]⟩ 8 (by kernel_rfl) (by kernel_rfl) (by kernel_rfl) (by kernel_rfl)) ?_
 intro W base args ds gs before hval0 hW hcnd hsz0 _
 have hsz : (DataW.weightsEach Try.prog (Try.f7.params.toList ++ Rows.timetableFindsSpec.plain.varTypes Try.prog) (ds ++ gs)).all (· ≤ reachBytes) = true:=hsz0
 have hval : ∀ (j : Nat) t v,Try.f7.params[j]? = some t → args[j]? = some v → Value.okWide Try.prog W .any base t v:=hval0
 have hW':=hW
 obtain ⟨p,q,hA0,hV,rfl,hfz,hnd⟩:=hW
 have hA : DataW.TrodAll enc Try.prog W 0 (fun _=>true) true Try.f7.params.toList args.toList ds p:=hA0
 rw [Try.params7] at hA hval hsz
 obtain ⟨v0,vs0,d0,ds0,p0,q0,hargs,rfl,rfl,h0,r0⟩:=trodAll_cons hA
 obtain ⟨rfl,rfl,rfl⟩:=trodAll_nil r0
 obtain rfl : args = #[v0]:=by cases args;simp_all
 obtain ⟨rfl,rfl⟩:=trodVars_none hV
 obtain ⟨a0,len0,cap0,rfl⟩:=okWide_slice Try.underlying31 (hval 0 31 v0 rfl rfl)
 have k0:=h0
 have lt0 : ∀ x ∈ p0,x.block < W.heap.size:=by obtain ⟨m,hm⟩:=k0;exact DataW.trod_lt m _ _ _ hm
 obtain ⟨z0,w0⟩ : ∃ zs,IsRow .i64 W a0 len0 cap0 zs:=by
  obtain ⟨fuel,hf⟩:=h0
  rcases open_ints Try.underlying31 Try.underlying3 (by kernel_rfl) hf with ⟨hcs,_⟩|⟨x,l,c,zs,hcs,_,hl,hm,hz,_,hcell,hwz⟩
  ·simp [Value.cells] at hcs
   obtain ⟨rfl,rfl,rfl⟩:=hcs
   exact ⟨[],.inl ⟨rfl,rfl,rfl,rfl⟩⟩
  ·simp [Value.cells] at hcs
   obtain ⟨rfl,rfl,rfl⟩:=hcs
   exact ⟨zs,.inr ⟨_,rfl,hl,hm,by simpa using hz,hcell,hwz⟩⟩
 have y0 : len0 * 8 ≤ 140737488351232:=PrintWords.sized_ints hsz (j:=0) (t:=31) rfl rfl Try.underlying31 Try.underlying3 (by kernel_rfl) (by kernel_rfl) h0
 clear hA0 hval0 hsz0 hsz
 refine (Q.pairinglaw9_TimetableFinds.walk Pure.TimetableFinds a0 len0 cap0 z0 W w0 y0).mono fun e W' ⟨he,bel⟩=>?_
 subst he
 exact ⟨_,rfl,_,_,_,[],_,[],hW',trodAll_mk1 (shut_bool Try.underlying4 _),(trodAll_cons_mk (Below.trod laidOut (by kernel_rfl) (of_decide_eq_true (by kernel_rfl)) k0 bel lt0) trodAll_mk0),rfl,bel.frame _,fun h=>by cases h⟩
theorem over : Rows.timetableFindsRow.holds Try.pinned (OpenSpec.ofChange Rows.timetableFindsSpec) :=
 OpenClaim.holds_of_wide 7 Try.f7 rfl rfl rfl rfl rfl rfl rfl ⟨rfl,rfl,rfl,rfl,rfl⟩ rfl rfl rfl rfl rfl (by kernel_rfl) Try.func7 (by kernel_rfl)
  (of_decide_eq_true (by kernel_rfl)) (by unfold Func.isWrapper;first|(rw [if_pos (by decide +kernel)];kernel_rfl)|(rw [if_neg (by decide +kernel)];exact ⟨rfl,rfl⟩))
  (fun os started H enc _=>lifted os started H enc)
theorem proved : Rows.TimetableFindsSaid:=over
end Go.Proofs.Ytepnddmalheoiaa.timetableFinds
namespace Go.Proofs.Ytepnddmalheoiaa
theorem timetableFinds_holds : Rows.TimetableFindsSaid:=timetableFinds.proved
end Go.Proofs.Ytepnddmalheoiaa
