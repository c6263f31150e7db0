/- For timetableSpoilt_holds: texts of this session and words of the kit's print, those alone that the proof uses. -/
import Derived.Test.YtepnddmalheoiaaProg
import Derived.Below
import Derived.Deep.Draws
import Derived.Deep.AppendLies
import Derived.Maps.AppendAt
import Derived.OwnWalk
import Derived.Laws.BytesArg
import Derived.Laws.MakeOwn
import Derived.Laws.OwnMore
import Derived.Deep.OwnRows
import Derived.Tactics
import Derived.Lib.ConvBytes
import Derived.Laws.Slices
import Derived.WalkKit
import Derived.KernelRfl
import Derived.RowKit3
import Derived.Deep.LoopGhost
import Derived.Deep.QuietTactic
import Derived.BigQuiet
import Derived.WideLaws
import Derived.Deep.DeepCutAuto
import Derived.Deep.CutBlock
import Derived.Deep.RegionHeld3
import Derived.Laws.Rows
import Derived.Lib.AppendStr
import Derived.ArgAppend
import Derived.Laws.IdiomCopy
import Derived.OrdersHeld
import Derived.Laws.BitsLemmas
import Derived.RowKit
import Derived.Deep.WholeRow
import Derived.Laws.ResultCell
import Derived.Lib.SlBytesConst
import Derived.Outline
import Derived.Laws.StructEq
import Derived.Test.YtepnddmalheoiaaSP0
import Derived.Test.YtepnddmalheoiaaSP1
import Derived.Test.YtepnddmalheoiaaSP2
import Derived.Test.YtepnddmalheoiaaSP3
set_option linter.unusedVariables false
set_option linter.unusedSimpArgs false
namespace Go.Proofs.Ytepnddmalheoiaa.Q
open Go.Proofs.Ytepnddmalheoiaa.H
open Go.RowKit Go.Proofs.YtepnddmalheoiaaW.PrintWords Go.Proofs.YtepnddmalheoiaaW.PrintLast Go.Proofs.YtepnddmalheoiaaW.PrintMore
attribute [local go_sem] str_leq str_geq str_gtr max2_int min2_int max_two min_two max_three min_three max_four min_four   -- for this text's walks alone
mutual
def zal.l0 : Nat → Int → Int → (List Int × Bool) → List (S42) → Option ((List (S42)) × (List (S39)) × (List (S36)) × (List Int × Bool))
 | 0,_,_,_,_=>none
 | k + 1,x8,x9,x1000,x199000=>if x9 < x8 then ((zbg.f x1000).bind fun bt201=>((timetable_reader_int.f bt201.2).bind fun bt203=>((zbw.f bt203.2 16).bind fun bt206=>(zal.l1 k x8 x9 bt206.1 0 bt206.2 x199000 bt201.1 bt203.1 ([] : List (S44)))))) else ((zbw.f x1000 64).bind fun bt218=>(zal.l2 k bt218.1 0 bt218.2 x199000 ([] : List (S39))))
def zal.l1 : Nat → Int → Int → Int → Int → (List Int × Bool) → List (S42) → ByteArray → Int → List (S44) → Option ((List (S42)) × (List (S39)) × (List (S36)) × (List Int × Bool))
 | 0,_,_,_,_,_,_,_,_,_=>none
 | k + 1,x8,x9,x17,x18,x1000,x199000,x206000,x206001,x206002=>if x18 < x17 then ((zbl.f x1000).bind fun bt208=>((timetable_reader_int.f bt208.2).bind fun bt210=>(if x206002.length < 8796093022208 then (zal.l1 k x8 x9 x17 (wrap64 (x18 + 1)) bt210.2 x199000 x206000 x206001 (x206002 ++ [(⟨bt208.1,bt210.1⟩ : S44)])) else (none)))) else (if x199000.length < 2932031007402 then (zal.l0 k x8 (wrap64 (x9 + 1)) x1000 (x199000 ++ [(⟨x206000,x206001,x206002⟩ : S42)])) else (none))
def zal.l2 : Nat → Int → Int → (List Int × Bool) → List (S42) → List (S39) → Option ((List (S42)) × (List (S39)) × (List (S36)) × (List Int × Bool))
 | 0,_,_,_,_,_=>none
 | k + 1,x39,x40,x1000,x199000,x199001=>if x40 < x39 then ((zbg.f x1000).bind fun bt220=>((zbg.f bt220.2).bind fun bt222=>(if x199001.length < 4398046511104 then (zal.l2 k x39 (wrap64 (x40 + 1)) bt222.2 x199000 (x199001 ++ [(⟨bt220.1,bt222.1⟩ : S39)])) else (none)))) else ((zbw.f x1000 200).bind fun bt227=>(zal.l3 k bt227.1 0 bt227.2 x199000 x199001 ([] : List (S36))))
def zal.l3 : Nat → Int → Int → (List Int × Bool) → List (S42) → List (S39) → List (S36) → Option ((List (S42)) × (List (S39)) × (List (S36)) × (List Int × Bool))
 | 0,_,_,_,_,_,_=>none
 | k + 1,x54,x55,x1000,x199000,x199001,x199002=>if x55 < x54 then ((zbg.f x1000).bind fun bt229=>((zbg.f bt229.2).bind fun bt231=>((zbg.f bt231.2).bind fun bt233=>((zbl.f bt233.2).bind fun bt235=>((zbl.f bt235.2).bind fun bt237=>((zbg.f bt237.2).bind fun bt239=>(zal.l4 k x54 x55 0 bt239.2 x199000 x199001 x199002 bt229.1 bt231.1 bt233.1 bt235.1 bt237.1 bt239.1 0 0 0))))))) else (some (x199000,x199001,x199002,x1000))
def zal.l4 : Nat → Int → Int → Int → (List Int × Bool) → List (S42) → List (S39) → List (S36) → ByteArray → ByteArray → ByteArray → Int → Int → ByteArray → Int → Int → Int → Option ((List (S42)) × (List (S39)) × (List (S36)) × (List Int × Bool))
 | 0,_,_,_,_,_,_,_,_,_,_,_,_,_,_,_,_=>none
 | k + 1,x54,x55,x70,x1000,x199000,x199001,x199002,x242000,x242001,x242002,x242003,x242004,x242005,x242006,x242007,x242008=>if x70 < 3 then ((zbl.f x1000).bind fun bt242=>(if 0 ≤ x70 then (if x70 = 0 then (zal.l4 k x54 x55 (wrap64 (x70 + 1)) bt242.2 x199000 x199001 x199002 x242000 x242001 x242002 x242003 x242004 x242005 bt242.1 x242007 x242008) else (if x70 = 1 then (zal.l4 k x54 x55 (wrap64 (x70 + 1)) bt242.2 x199000 x199001 x199002 x242000 x242001 x242002 x242003 x242004 x242005 x242006 bt242.1 x242008) else (if x70 = 2 then (zal.l4 k x54 x55 (wrap64 (x70 + 1)) bt242.2 x199000 x199001 x199002 x242000 x242001 x242002 x242003 x242004 x242005 x242006 x242007 bt242.1) else (none)))) else (none))) else (if x199002.length < 1353245080339 then (zal.l3 k x54 (wrap64 (x55 + 1)) x1000 x199000 x199001 (x199002 ++ [(⟨x242000,x242001,x242002,x242003,x242004,x242005,(⟨x242006,x242007,x242008⟩ : S34)⟩ : S36)])) else (none))
end
def zal.f (k : Nat) (s0_0 : (List Int × Bool)) : Option ((List (S42)) × (List (S39)) × (List (S36)) × (List Int × Bool)):=(zbw.f s0_0 16).bind fun bt199=>(zal.l0 k bt199.1 0 bt199.2 ([] : List (S42)))
def zal.T7 : Bool × List (List Nat × List Nat):=(true,[([],[]),([0],[0]),([],[]),([2],[2]),([],[]),([4,3],[4]),([3,5],[3,5]),([6],[6]),([1,7,5],[1,7]),([0,1,2,3,4,5,6,7,8],[]),([9,8,8,0,1,2,3,4,5,6,7,8],[8,9])])
def zal.B7 : List Nat:=[0,1,0,4,0,28,60,124,255,511,1023]
theorem zal.tab7 : rtab .any (opsOf Try.f47 7) = zal.T7:=by kernel_rfl
theorem zal.bits7 : waitsOk zal.T7.2 zal.B7 = true:=by kernel_rfl
def zal.T13 : Bool × List (List Nat × List Nat):=(true,[([],[]),([0],[0]),([],[]),([2],[2]),([],[]),([4,3],[4]),([3,5],[3,5]),([6],[6]),([1,7,5],[1,7]),([0,1,2,3,4,5,6,7,8],[]),([9,8,8,0,1,2,3,4,5,6,7,8],[8,9])])
def zal.B13 : List Nat:=[0,1,0,4,0,28,60,124,255,511,1023]
theorem zal.tab13 : rtab .any (opsOf Try.f47 13) = zal.T13:=by kernel_rfl
theorem zal.bits13 : waitsOk zal.T13.2 zal.B13 = true:=by kernel_rfl
set_option maxHeartbeats 8000000 in
set_option maxRecDepth 100000 in
theorem zal.calls (k : Nat) (g : Nat) (s0_0 : (List Int × Bool)) (r1 : List (S42)) (r2 : List (S39)) (r3 : List (S36)) (r4 : (List Int × Bool)) (w0 w : World) (hI : IsS88 w0 w g s0_0) (hB : Below w0.heap.size w0 w) (h : zal.f k s0_0 = some (r1,r2,r3,r4)) :
  Calls Try.prog 47 #[.pointer (some ⟨g,0,none⟩)] w fun e w'=>∃ v0_ v1_ v2_ : Value,e = .returned (.agg #[v0_,v1_,v2_]) ∧ Kd.S k42 42 w' w.heap.size (fun _=>True) v0_ r1 ∧ Kd.R k39 39 w' w.heap.size (fun _=>True) v1_ r2 ∧ Kd.R k36 36 w' w.heap.size (fun _=>True) v2_ r3 ∧ IsS88 w0 w' g r4 ∧ Below w0.heap.size w0 w' ∧ zax w w' g none:=by
 have hu26:=Try.underlying26
 have hu42:=Try.underlying42
 have hu44:=Try.underlying44
 have hu39:=Try.underlying39
 have hu36:=Try.underlying36
 have HI0:=zac.mk hI
 have HK:=zac.mk (zax.refl w g none)
 have HL:=zac.mk hB.size
 clear hI
 have HW0:=zac.mk hB.size
 have HB:=zac.mk hB
 clear hB
 have H : ((zbw.f s0_0 16).bind fun bt199=>(zal.l0 k bt199.1 0 bt199.2 ([] : List (S42)))) = some (r1,r2,r3,r4):=h
 clear h
 replace H:=Option.bind_eq_some_iff.mp H
 obtain ⟨⟨t199,t200⟩,A20,H⟩:=H
 replace H : (zal.l0 k t199 0 t200 ([] : List (S42))) = some (r1,r2,r3,r4):=H
 have A2:=zac.mk A20
 clear A20
 have H':=zac.mk H
 clear H
 go_enter Try.func47,Try.ntmps47
 go_wp2_with (first|((with_reducible refine zbh (N:=2) rfl ?_);refine zbf ?hg (N:=2) ?hd (cs:=#[.slice none 0 0,.slice none 0 0,.slice none 0 0]) (t:=26) ?hr ?_;(case hd=>rfl);(case hg=>rfl);(case hr=>first|(go_simp;done)|(go_simp;rfl));intro gb197 hg w3 hbox hb;have n0_:=zac.mk (IsS88.below (by repeat (first|(with_reducible first|exact HI0.out|apply IsS88.alloc|apply IsS88.drewN|apply IsS88.drew|apply IsS88.set_0)|exact HI0.out)) hb);have n1_:=zac.mk (zax.trans (by repeat (first|(with_reducible first|exact HK.out|apply zax.set_|apply keep_drewN|apply zbp|apply keep_alloc)|exact HK.out)) (zax.of_below hb g none) (.inl rfl));have n2_:=zac.mk (zao (by repeat (first|(with_reducible first|exact HB.out|apply zae|apply zab|apply zaf|refine zai ?_ (IsS88.ge HI0.out))|exact HB.out)) hb);have n3_:=zac.mk (hbox);have n4_:=zac.mk ((by rw [hg];exact (keep_size (w:=w) (g:=g) (row:=none) (by repeat (first|(with_reducible first|exact HK.out|apply zax.set_|apply keep_drewN|apply zbp|apply keep_alloc)|exact HK.out))) : w.heap.size ≤ gb197));have n5_:=zac.mk ((Nat.le_trans HW0.out (by rw [hg];exact (keep_size (w:=w) (g:=g) (row:=none) (by repeat (first|(with_reducible first|exact HK.out|apply zax.set_|apply keep_drewN|apply zbp|apply keep_alloc)|exact HK.out))) : w.heap.size ≤ gb197) : w0.heap.size ≤ gb197));have n6_:=zac.mk ((by rw [hg];exact Nat.ne_of_lt (IsS88.lt (show IsS88 w0 _ g s0_0 from by repeat (first|(with_reducible first|exact HI0.out|apply IsS88.alloc|apply IsS88.drewN|apply IsS88.drew|apply IsS88.set_0)|exact HI0.out))) : g ≠ gb197));have n7_:=zac.mk ((by rw [hg];exact Nat.ne_of_gt (IsS88.lt (show IsS88 w0 _ g s0_0 from by repeat (first|(with_reducible first|exact HI0.out|apply IsS88.alloc|apply IsS88.drewN|apply IsS88.drew|apply IsS88.set_0)|exact HI0.out))) : gb197 ≠ g));clear HI0;clear HK;clear HB;have HI0:=n0_;have HK:=n1_;have HB:=n2_;have BK197:=n3_;have GW197:=n4_;have GE197:=n5_;have NB0_197:=n6_;have NB197_0:=n7_;clear n0_ n1_ n2_ n3_ n4_ n5_ n6_ n7_;clear hb hbox hg)|((with_reducible refine zbh (N:=3) rfl ?_);refine zbf ?hg (N:=3) ?hd (cs:=#[.slice none 0 0,.slice none 0 0,.slice none 0 0]) (t:=26) ?hr ?_;(case hd=>rfl);(case hg=>rfl);(case hr=>first|(go_simp;done)|(go_simp;rfl));intro gb198 hg w4 hbox hb;have n0_:=zac.mk (IsS88.below (by repeat (first|(with_reducible first|exact HI0.out|apply IsS88.alloc|apply IsS88.drewN|apply IsS88.drew|apply IsS88.set_0|refine IsS88.far ?_ NB0_197.out _)|exact HI0.out)) hb);have n1_:=zac.mk (zat (g:=gb197) (o:=.cells #[.slice none 0 0,.slice none 0 0,.slice none 0 0] 26 (0,0)) (by (with_reducible repeat (first|refine zah ?_ _|refine zak ?_|refine zag ?_ _));exact BK197.out) hb);have n2_:=zac.mk (zax.trans (by repeat (first|(with_reducible first|exact HK.out|apply zax.set_|apply keep_drewN|apply zbp|apply keep_alloc|refine zbb ?_ GW197.out _)|exact HK.out)) (zax.of_below hb g none) (.inl rfl));have n3_:=zac.mk (zao (by repeat (first|(with_reducible first|exact HB.out|apply zae|apply zab|apply zaf|refine zai ?_ (IsS88.ge HI0.out)|refine zai ?_ GE197.out)|exact HB.out)) hb);have n4_:=zac.mk (hbox);have n5_:=zac.mk ((by rw [hg];exact (keep_size (w:=w) (g:=g) (row:=none) (by repeat (first|(with_reducible first|exact HK.out|apply zax.set_|apply keep_drewN|apply zbp|apply keep_alloc|refine zbb ?_ GW197.out _)|exact HK.out))) : w.heap.size ≤ gb198));have n6_:=zac.mk ((Nat.le_trans HW0.out (by rw [hg];exact (keep_size (w:=w) (g:=g) (row:=none) (by repeat (first|(with_reducible first|exact HK.out|apply zax.set_|apply keep_drewN|apply zbp|apply keep_alloc|refine zbb ?_ GW197.out _)|exact HK.out))) : w.heap.size ≤ gb198) : w0.heap.size ≤ gb198));have n7_:=zac.mk ((by rw [hg];exact Nat.ne_of_lt (zbq (g:=gb197) (o:=.cells #[.slice none 0 0,.slice none 0 0,.slice none 0 0] 26 (0,0)) (by (with_reducible repeat (first|refine zah ?_ _|refine zak ?_|refine zag ?_ _));exact BK197.out)) : gb197 ≠ gb198));have n8_:=zac.mk ((by rw [hg];exact Nat.ne_of_gt (zbq (g:=gb197) (o:=.cells #[.slice none 0 0,.slice none 0 0,.slice none 0 0] 26 (0,0)) (by (with_reducible repeat (first|refine zah ?_ _|refine zak ?_|refine zag ?_ _));exact BK197.out)) : gb198 ≠ gb197));have n9_:=zac.mk ((by rw [hg];exact Nat.ne_of_lt (IsS88.lt (show IsS88 w0 _ g s0_0 from by repeat (first|(with_reducible first|exact HI0.out|apply IsS88.alloc|apply IsS88.drewN|apply IsS88.drew|apply IsS88.set_0|refine IsS88.far ?_ NB0_197.out _)|exact HI0.out))) : g ≠ gb198));have n10_:=zac.mk ((by rw [hg];exact Nat.ne_of_gt (IsS88.lt (show IsS88 w0 _ g s0_0 from by repeat (first|(with_reducible first|exact HI0.out|apply IsS88.alloc|apply IsS88.drewN|apply IsS88.drew|apply IsS88.set_0|refine IsS88.far ?_ NB0_197.out _)|exact HI0.out))) : gb198 ≠ g));clear HI0;clear BK197;clear HK;clear HB;have HI0:=n0_;have BK197:=n1_;have HK:=n2_;have HB:=n3_;have BK198:=n4_;have GW198:=n5_;have GE198:=n6_;have NB197_198:=n7_;have NB198_197:=n8_;have NB0_198:=n9_;have NB198_0:=n10_;clear n0_ n1_ n2_ n3_ n4_ n5_ n6_ n7_ n8_ n9_ n10_;clear hb hbox hg)|((with_reducible refine zbe (f:=74) rfl ?_);refine zce (some 8) rfl rfl Try.func74 (by kernel_rfl) rfl #[.pointer (some ⟨g,0,none⟩),.int .i64 16] rfl (by (try simp only [List.map_toArray,List.map_cons,List.map_nil]);first|done|rfl|(simp only [List.length_drop,List.length_take];rfl)) ?_;(with_reducible refine (zbw.calls g s0_0 16 t199 t200 w0 _ ?side1 ?side2 A2.out).mono ?_);(case side1=>repeat (first|(with_reducible first|exact HI0.out|apply IsS88.alloc|apply IsS88.drewN|apply IsS88.drew|apply IsS88.set_0|refine IsS88.far ?_ NB0_197.out _|refine IsS88.far ?_ NB0_198.out _)|exact HI0.out));(case side2=>repeat (first|(with_reducible first|exact HB.out|apply zae|apply zab|apply zaf|refine zai ?_ (IsS88.ge HI0.out)|refine zai ?_ GE197.out|refine zai ?_ GE198.out)|exact HB.out));rintro e w5 ⟨rfl,hi,hb,hk⟩;refine ⟨_,rfl,?_⟩;have n0_:=zac.mk (zax.blk hk (g':=gb197) (o:=.cells #[.slice none 0 0,.slice none 0 0,.slice none 0 0] 26 (0,0)) (by (with_reducible repeat (first|refine zah ?_ _|refine zak ?_|refine zag ?_ _));exact BK197.out) NB197_0.out (by simp));have n1_:=zac.mk (zax.blk hk (g':=gb198) (o:=.cells #[.slice none 0 0,.slice none 0 0,.slice none 0 0] 26 (0,0)) (by (with_reducible repeat (first|refine zah ?_ _|refine zak ?_|refine zag ?_ _));exact BK198.out) NB198_0.out (by simp));have n2_:=zac.mk (zax.trans (by repeat (first|(with_reducible first|exact HK.out|apply zax.set_|apply keep_drewN|apply zbp|apply keep_alloc|refine zbb ?_ GW197.out _|refine zbb ?_ GW198.out _)|exact HK.out)) hk (.inl rfl));have n3_:=zac.mk (hb);have n4_:=zac.mk (hi);clear BK197;clear BK198;clear HK;clear HB;clear HI0;have BK197:=n0_;have BK198:=n1_;have HK:=n2_;have HB:=n3_;have HI0:=n4_;clear n0_ n1_ n2_ n3_ n4_;(try clear hb);(try clear hb2);(try clear hk);(try clear hi)))
 go_loopg [9] k (fun kq v9 w'=>∃ (x9_1 : Int) (x1000_1 : (List Int × Bool)) (x199000_1 : List (S42)) (u199000 : Value),v9 = .int .i64 x9_1 ∧ zac (zal.l0 kq t199 x9_1 x1000_1 x199000_1 = some (r1,r2,r3,r4)) ∧ zac (kq ≤ k) ∧ zac (Kd.S k42 42 w' w.heap.size (fun _=>True) u199000 x199000_1) ∧ zac (w'.heap[gb197]? = some (.cells #[(.slice none 0 0),(.slice none 0 0),(.slice none 0 0)] 26 (0,0))) ∧ zac (w'.heap[gb198]? = some (.cells #[u199000,(.slice none 0 0),(.slice none 0 0)] 26 (0,0))) ∧ zac (IsS88 w0 w' g x1000_1) ∧ zac (zax w w' g none) ∧ zac (Below w0.heap.size w0 w'))
 case atStart=>exact ⟨(0),(t200),(([] : List (S42))),(.slice none 0 0),(by first|rfl|(simp;done)|(simp [*];done)),H',⟨Nat.le_refl _⟩,⟨by first|exact Kd.S_nil _ _ _ _ _|exact Kd.N_nil _ _ _ _ _|exact Kd.V_nil _ _ _ _ _|exact Kd.Q_nil _ _ _ _ _|exact Kd.R_nil _ _ _ _ _⟩,⟨by (with_reducible repeat (first|refine zah ?_ _|refine zak ?_|refine zag ?_ _));exact BK197.out⟩,⟨by (with_reducible repeat (first|refine zah ?_ _|refine zak ?_|refine zag ?_ _));exact BK198.out⟩,⟨by repeat (first|(with_reducible first|exact HI0.out|apply IsS88.alloc|apply IsS88.drewN|apply IsS88.drew|apply IsS88.set_0|refine IsS88.far ?_ NB0_197.out _|refine IsS88.far ?_ NB0_198.out _)|exact HI0.out)⟩,⟨by repeat (first|(with_reducible first|exact HK.out|apply zax.set_|apply keep_drewN|apply zbp|apply keep_alloc|refine zbb ?_ GW197.out _|refine zbb ?_ GW198.out _)|exact HK.out)⟩,⟨by repeat (first|(with_reducible first|exact HB.out|apply zae|apply zab|apply zaf|refine zai ?_ (IsS88.ge HI0.out)|refine zai ?_ GE197.out|refine zai ?_ GE198.out)|exact HB.out)⟩⟩
 case round =>
  clear H'
  obtain ⟨x9_1,x1000_1,x199000_1,u199000,rfl,HA,HK1,HO_199000,BK197,BK198,HI0,HK,HB⟩:=hrel
  cases gk with
  | zero=>exact absurd HA.out (by simp [zal.l0])
  | succ k1 =>
   have H:=HA.out
   clear HA
   simp only [zal.l0] at H
   by_cases c6 : x9_1 < t199
   ·rw [if_pos c6] at H
    have c6b0 : decide (x9_1 < t199) = true:=decide_eq_true c6
    clear c6
    replace H:=Option.bind_eq_some_iff.mp H
    obtain ⟨⟨t201,t202⟩,A70,H⟩:=H
    replace H : ((timetable_reader_int.f t202).bind fun bt203=>((zbw.f bt203.2 16).bind fun bt206=>(zal.l1 k1 t199 x9_1 bt206.1 0 bt206.2 x199000_1 t201 bt203.1 ([] : List (S44))))) = some (r1,r2,r3,r4):=H
    have A7:=zac.mk A70
    clear A70
    replace H:=Option.bind_eq_some_iff.mp H
    obtain ⟨⟨t203,t204⟩,A80,H⟩:=H
    replace H : ((zbw.f t204 16).bind fun bt206=>(zal.l1 k1 t199 x9_1 bt206.1 0 bt206.2 x199000_1 t201 t203 ([] : List (S44)))) = some (r1,r2,r3,r4):=H
    have A8:=zac.mk A80
    clear A80
    replace H:=Option.bind_eq_some_iff.mp H
    obtain ⟨⟨t206,t207⟩,A90,H⟩:=H
    replace H : (zal.l1 k1 t199 x9_1 t206 0 t207 x199000_1 t201 t203 ([] : List (S44))) = some (r1,r2,r3,r4):=H
    have A9:=zac.mk A90
    clear A90
    have H':=zac.mk H
    clear H
    go_wp2_with (first|((with_reducible refine zbe (f:=75) rfl ?_);refine zce (some 12) rfl rfl Try.func75 (by kernel_rfl) rfl #[.pointer (some ⟨g,0,none⟩)] rfl (by (try simp only [List.map_toArray,List.map_cons,List.map_nil]);first|done|rfl|(simp only [List.length_drop,List.length_take];rfl)) ?_;(with_reducible refine (zbg.calls g x1000_1 t201 t202 w0 _ ?side1 ?side2 A7.out).mono ?_);(case side1=>repeat (first|(with_reducible first|exact HI0.out|apply IsS88.alloc|apply IsS88.drewN|apply IsS88.drew|apply IsS88.set_0|refine IsS88.far ?_ NB0_197.out _|refine IsS88.far ?_ NB0_198.out _)|exact HI0.out));(case side2=>repeat (first|(with_reducible first|exact HB.out|apply zae|apply zab|apply zaf|refine zai ?_ (IsS88.ge HI0.out)|refine zai ?_ GE197.out|refine zai ?_ GE198.out)|exact HB.out));rintro e w10 ⟨rfl,hi,hb,hk⟩;refine ⟨_,rfl,?_⟩;have n0_:=zac.mk (Kd.S_mono (Kd.S_keep (IsS88.apartS (show IsS88 w0 _ g x1000_1 from by repeat (first|(with_reducible first|exact HI0.out|apply IsS88.alloc|apply IsS88.drewN|apply IsS88.drew|apply IsS88.set_0|refine IsS88.far ?_ NB0_197.out _|refine IsS88.far ?_ NB0_198.out _)|exact HI0.out)) (by (with_reducible repeat (first|apply Kd.S_alloc|apply Kd.S_drewN|apply Kd.S_drew));exact HO_199000.out) (by decide)) hk (fun _ h=>h.2)) (fun _ h=>h.1));have n1_:=zac.mk (zax.blk hk (g':=gb197) (o:=.cells #[.slice none 0 0,.slice none 0 0,.slice none 0 0] 26 (0,0)) (by (with_reducible repeat (first|refine zah ?_ _|refine zak ?_|refine zag ?_ _));exact BK197.out) NB197_0.out (by simp));have n2_:=zac.mk (zax.blk hk (g':=gb198) (o:=.cells #[u199000,.slice none 0 0,.slice none 0 0] 26 (0,0)) (by (with_reducible repeat (first|refine zah ?_ _|refine zak ?_|refine zag ?_ _));exact BK198.out) NB198_0.out (by simp));have n3_:=zac.mk (zax.trans (by repeat (first|(with_reducible first|exact HK.out|apply zax.set_|apply keep_drewN|apply zbp|apply keep_alloc|refine zbb ?_ GW197.out _|refine zbb ?_ GW198.out _)|exact HK.out)) hk (.inl rfl));have n4_:=zac.mk (hb);have n5_:=zac.mk (hi);clear HO_199000;clear BK197;clear BK198;clear HK;clear HB;clear HI0;have HO_199000:=n0_;have BK197:=n1_;have BK198:=n2_;have HK:=n3_;have HB:=n4_;have HI0:=n5_;clear n0_ n1_ n2_ n3_ n4_ n5_;(try clear hb);(try clear hb2);(try clear hk);(try clear hi))|((with_reducible refine zbe (f:=76) rfl ?_);refine zce (some 14) rfl rfl Try.func76 (by kernel_rfl) rfl #[.pointer (some ⟨g,0,none⟩)] rfl (by (try simp only [List.map_toArray,List.map_cons,List.map_nil]);first|done|rfl|(simp only [List.length_drop,List.length_take];rfl)) ?_;(with_reducible refine (timetable_reader_int.calls g t202 t203 t204 w0 _ ?side1 ?side2 A8.out).mono ?_);(case side1=>repeat (first|(with_reducible first|exact HI0.out|apply IsS88.alloc|apply IsS88.drewN|apply IsS88.drew|apply IsS88.set_0|refine IsS88.far ?_ NB0_197.out _|refine IsS88.far ?_ NB0_198.out _)|exact HI0.out));(case side2=>repeat (first|(with_reducible first|exact HB.out|apply zae|apply zab|apply zaf|refine zai ?_ (IsS88.ge HI0.out)|refine zai ?_ GE197.out|refine zai ?_ GE198.out)|exact HB.out));rintro e w11 ⟨rfl,hi,hb,hk⟩;refine ⟨_,rfl,?_⟩;have n0_:=zac.mk (Kd.S_mono (Kd.S_keep (IsS88.apartS (show IsS88 w0 _ g t202 from by repeat (first|(with_reducible first|exact HI0.out|apply IsS88.alloc|apply IsS88.drewN|apply IsS88.drew|apply IsS88.set_0|refine IsS88.far ?_ NB0_197.out _|refine IsS88.far ?_ NB0_198.out _)|exact HI0.out)) (by (with_reducible repeat (first|apply Kd.S_alloc|apply Kd.S_drewN|apply Kd.S_drew));exact HO_199000.out) (by decide)) hk (fun _ h=>h.2)) (fun _ h=>h.1));have n1_:=zac.mk (zax.blk hk (g':=gb197) (o:=.cells #[.slice none 0 0,.slice none 0 0,.slice none 0 0] 26 (0,0)) (by (with_reducible repeat (first|refine zah ?_ _|refine zak ?_|refine zag ?_ _));exact BK197.out) NB197_0.out (by simp));have n2_:=zac.mk (zax.blk hk (g':=gb198) (o:=.cells #[u199000,.slice none 0 0,.slice none 0 0] 26 (0,0)) (by (with_reducible repeat (first|refine zah ?_ _|refine zak ?_|refine zag ?_ _));exact BK198.out) NB198_0.out (by simp));have n3_:=zac.mk (zax.trans (by repeat (first|(with_reducible first|exact HK.out|apply zax.set_|apply keep_drewN|apply zbp|apply keep_alloc|refine zbb ?_ GW197.out _|refine zbb ?_ GW198.out _)|exact HK.out)) hk (.inl rfl));have n4_:=zac.mk (hb);have n5_:=zac.mk (hi);clear HO_199000;clear BK197;clear BK198;clear HK;clear HB;clear HI0;have HO_199000:=n0_;have BK197:=n1_;have BK198:=n2_;have HK:=n3_;have HB:=n4_;have HI0:=n5_;clear n0_ n1_ n2_ n3_ n4_ n5_;(try clear hb);(try clear hb2);(try clear hk);(try clear hi))|((with_reducible refine zbh (N:=4) rfl ?_);refine zbf ?hg (N:=4) ?hd (cs:=#[.string (⟨#[]⟩ : ByteArray),.int .i64 0,.slice none 0 0]) (t:=42) ?hr ?_;(case hd=>rfl);(case hg=>rfl);(case hr=>first|(go_simp;done)|(go_simp;rfl));intro gb205 hg w12 hbox hb;have n0_:=zac.mk (Kd.S_below (Kd.S_elderB (by (with_reducible repeat (first|apply Kd.S_alloc|apply Kd.S_drewN|apply Kd.S_drew));exact HO_199000.out) gb205 (Nat.le_of_eq hg.symm)) hb);have n1_:=zac.mk (zat (g:=gb197) (o:=.cells #[.slice none 0 0,.slice none 0 0,.slice none 0 0] 26 (0,0)) (by (with_reducible repeat (first|refine zah ?_ _|refine zak ?_|refine zag ?_ _));exact BK197.out) hb);have n2_:=zac.mk (zat (g:=gb198) (o:=.cells #[u199000,.slice none 0 0,.slice none 0 0] 26 (0,0)) (by (with_reducible repeat (first|refine zah ?_ _|refine zak ?_|refine zag ?_ _));exact BK198.out) hb);have n3_:=zac.mk (IsS88.below (by repeat (first|(with_reducible first|exact HI0.out|apply IsS88.alloc|apply IsS88.drewN|apply IsS88.drew|apply IsS88.set_0|refine IsS88.far ?_ NB0_197.out _|refine IsS88.far ?_ NB0_198.out _)|exact HI0.out)) hb);have n4_:=zac.mk (zax.trans (by repeat (first|(with_reducible first|exact HK.out|apply zax.set_|apply keep_drewN|apply zbp|apply keep_alloc|refine zbb ?_ GW197.out _|refine zbb ?_ GW198.out _)|exact HK.out)) (zax.of_below hb g none) (.inl rfl));have n5_:=zac.mk (zao (by repeat (first|(with_reducible first|exact HB.out|apply zae|apply zab|apply zaf|refine zai ?_ (IsS88.ge HI0.out)|refine zai ?_ GE197.out|refine zai ?_ GE198.out)|exact HB.out)) hb);have n6_:=zac.mk (hbox);have n7_:=zac.mk ((by rw [hg];exact (keep_size (w:=w) (g:=g) (row:=none) (by repeat (first|(with_reducible first|exact HK.out|apply zax.set_|apply keep_drewN|apply zbp|apply keep_alloc|refine zbb ?_ GW197.out _|refine zbb ?_ GW198.out _)|exact HK.out))) : w.heap.size ≤ gb205));have n8_:=zac.mk ((Nat.le_trans HW0.out (by rw [hg];exact (keep_size (w:=w) (g:=g) (row:=none) (by repeat (first|(with_reducible first|exact HK.out|apply zax.set_|apply keep_drewN|apply zbp|apply keep_alloc|refine zbb ?_ GW197.out _|refine zbb ?_ GW198.out _)|exact HK.out))) : w.heap.size ≤ gb205) : w0.heap.size ≤ gb205));have n9_:=zac.mk ((by rw [hg];exact Nat.ne_of_lt (zbq (g:=gb197) (o:=.cells #[.slice none 0 0,.slice none 0 0,.slice none 0 0] 26 (0,0)) (by (with_reducible repeat (first|refine zah ?_ _|refine zak ?_|refine zag ?_ _));exact BK197.out)) : gb197 ≠ gb205));have n10_:=zac.mk ((by rw [hg];exact Nat.ne_of_gt (zbq (g:=gb197) (o:=.cells #[.slice none 0 0,.slice none 0 0,.slice none 0 0] 26 (0,0)) (by (with_reducible repeat (first|refine zah ?_ _|refine zak ?_|refine zag ?_ _));exact BK197.out)) : gb205 ≠ gb197));have n11_:=zac.mk ((by rw [hg];exact Nat.ne_of_lt (zbq (g:=gb198) (o:=.cells #[u199000,.slice none 0 0,.slice none 0 0] 26 (0,0)) (by (with_reducible repeat (first|refine zah ?_ _|refine zak ?_|refine zag ?_ _));exact BK198.out)) : gb198 ≠ gb205));have n12_:=zac.mk ((by rw [hg];exact Nat.ne_of_gt (zbq (g:=gb198) (o:=.cells #[u199000,.slice none 0 0,.slice none 0 0] 26 (0,0)) (by (with_reducible repeat (first|refine zah ?_ _|refine zak ?_|refine zag ?_ _));exact BK198.out)) : gb205 ≠ gb198));have n13_:=zac.mk ((by rw [hg];exact Nat.ne_of_lt (IsS88.lt (show IsS88 w0 _ g t204 from by repeat (first|(with_reducible first|exact HI0.out|apply IsS88.alloc|apply IsS88.drewN|apply IsS88.drew|apply IsS88.set_0|refine IsS88.far ?_ NB0_197.out _|refine IsS88.far ?_ NB0_198.out _)|exact HI0.out))) : g ≠ gb205));have n14_:=zac.mk ((by rw [hg];exact Nat.ne_of_gt (IsS88.lt (show IsS88 w0 _ g t204 from by repeat (first|(with_reducible first|exact HI0.out|apply IsS88.alloc|apply IsS88.drewN|apply IsS88.drew|apply IsS88.set_0|refine IsS88.far ?_ NB0_197.out _|refine IsS88.far ?_ NB0_198.out _)|exact HI0.out))) : gb205 ≠ g));clear HO_199000;clear BK197;clear BK198;clear HI0;clear HK;clear HB;have HO_199000:=n0_;have BK197:=n1_;have BK198:=n2_;have HI0:=n3_;have HK:=n4_;have HB:=n5_;have BK205:=n6_;have GW205:=n7_;have GE205:=n8_;have NB197_205:=n9_;have NB205_197:=n10_;have NB198_205:=n11_;have NB205_198:=n12_;have NB0_205:=n13_;have NB205_0:=n14_;clear n0_ n1_ n2_ n3_ n4_ n5_ n6_ n7_ n8_ n9_ n10_ n11_ n12_ n13_ n14_;clear hb hbox hg;have hnb13:=NB205_197.out;have hnc13:=NB197_205.out;have hnb14:=NB205_198.out;have hnc14:=NB198_205.out;have hnb15:=NB205_0.out;have hnc15:=NB0_205.out;have hcz16_0 : w12.cell? ⟨gb205,0,none⟩ = some (.string (⟨#[]⟩ : ByteArray)):=(zad BK205.out 0).trans rfl;have hcz16_1 : w12.cell? ⟨gb205,1,none⟩ = some (.int .i64 0):=(zad BK205.out 1).trans rfl;have hcz16_2 : w12.cell? ⟨gb205,2,none⟩ = some (.slice none 0 0):=(zad BK205.out 2).trans rfl;have hfz16_0:=zaa BK205.out 0;have hfz16_1:=zaa BK205.out 1;have hfz16_2:=zaa BK205.out 2)|((with_reducible refine zbe (f:=74) rfl ?_);refine zce (some 17) rfl rfl Try.func74 (by kernel_rfl) rfl #[.pointer (some ⟨g,0,none⟩),.int .i64 16] rfl (by (try simp only [List.map_toArray,List.map_cons,List.map_nil]);first|done|rfl|(simp only [List.length_drop,List.length_take];rfl)) ?_;(with_reducible refine (zbw.calls g t204 16 t206 t207 w0 _ ?side1 ?side2 A9.out).mono ?_);(case side1=>repeat (first|(with_reducible first|exact HI0.out|apply IsS88.alloc|apply IsS88.drewN|apply IsS88.drew|apply IsS88.set_0|refine IsS88.far ?_ NB0_197.out _|refine IsS88.far ?_ NB0_198.out _|refine IsS88.far ?_ NB0_205.out _)|exact HI0.out));(case side2=>repeat (first|(with_reducible first|exact HB.out|apply zae|apply zab|apply zaf|refine zai ?_ (IsS88.ge HI0.out)|refine zai ?_ GE197.out|refine zai ?_ GE198.out|refine zai ?_ GE205.out)|exact HB.out));rintro e w17 ⟨rfl,hi,hb,hk⟩;refine ⟨_,rfl,?_⟩;have n0_:=zac.mk (Kd.S_mono (Kd.S_keep (IsS88.apartS (show IsS88 w0 _ g t204 from by repeat (first|(with_reducible first|exact HI0.out|apply IsS88.alloc|apply IsS88.drewN|apply IsS88.drew|apply IsS88.set_0|refine IsS88.far ?_ NB0_197.out _|refine IsS88.far ?_ NB0_198.out _|refine IsS88.far ?_ NB0_205.out _)|exact HI0.out)) (by (with_reducible repeat (first|apply Kd.S_alloc|apply Kd.S_drewN|apply Kd.S_drew));exact (Kd.S_mono (Kd.S_far (p:=⟨gb205,2,none⟩) (Kd.S_far (p:=⟨gb205,1,none⟩) (Kd.S_far (p:=⟨gb205,0,none⟩) (Kd.S_mono HO_199000.out (fun k_ hk=>(⟨hk,hk.2⟩ : _ ∧ k_ ≠ gb205))) (fun _ hk=>hk.2) (.string t201)) (fun _ hk=>hk.2) (.int .i64 t203)) (fun _ hk=>hk.2) (.slice none 0 0)) (fun _ h_=>h_.1))) (by decide)) hk (fun _ h=>h.2)) (fun _ h=>h.1));have n1_:=zac.mk (zax.blk hk (g':=gb197) (o:=.cells #[.slice none 0 0,.slice none 0 0,.slice none 0 0] 26 (0,0)) (by (with_reducible repeat (first|refine zah ?_ _|refine zak ?_|refine zag ?_ _));refine zaz ?_ NB197_205.out _;(with_reducible repeat (first|refine zah ?_ _|refine zak ?_|refine zag ?_ _));refine zaz ?_ NB197_205.out _;(with_reducible repeat (first|refine zah ?_ _|refine zak ?_|refine zag ?_ _));refine zaz ?_ NB197_205.out _;(with_reducible repeat (first|refine zah ?_ _|refine zak ?_|refine zag ?_ _));exact BK197.out) NB197_0.out (by simp));have n2_:=zac.mk (zax.blk hk (g':=gb198) (o:=.cells #[u199000,.slice none 0 0,.slice none 0 0] 26 (0,0)) (by (with_reducible repeat (first|refine zah ?_ _|refine zak ?_|refine zag ?_ _));refine zaz ?_ NB198_205.out _;(with_reducible repeat (first|refine zah ?_ _|refine zak ?_|refine zag ?_ _));refine zaz ?_ NB198_205.out _;(with_reducible repeat (first|refine zah ?_ _|refine zak ?_|refine zag ?_ _));refine zaz ?_ NB198_205.out _;(with_reducible repeat (first|refine zah ?_ _|refine zak ?_|refine zag ?_ _));exact BK198.out) NB198_0.out (by simp));have n3_:=zac.mk (zax.blk hk (g':=gb205) (o:=.cells #[.string t201,.int .i64 t203,.slice none 0 0] 42 (0,0)) (by (with_reducible repeat (first|refine zah ?_ _|refine zak ?_|refine zag ?_ _));refine zaw (cs:=#[.string t201,.int .i64 t203,.slice none 0 0]) ?_ 2 _ rfl;(with_reducible repeat (first|refine zah ?_ _|refine zak ?_|refine zag ?_ _));refine zaw (cs:=#[.string t201,.int .i64 0,.slice none 0 0]) ?_ 1 _ rfl;(with_reducible repeat (first|refine zah ?_ _|refine zak ?_|refine zag ?_ _));refine zaw (cs:=#[.string (⟨#[]⟩ : ByteArray),.int .i64 0,.slice none 0 0]) ?_ 0 _ rfl;(with_reducible repeat (first|refine zah ?_ _|refine zak ?_|refine zag ?_ _));exact BK205.out) NB205_0.out (by simp));have n4_:=zac.mk (zax.trans (by repeat (first|(with_reducible first|exact HK.out|apply zax.set_|apply keep_drewN|apply zbp|apply keep_alloc|refine zbb ?_ GW197.out _|refine zbb ?_ GW198.out _|refine zbb ?_ GW205.out _)|exact HK.out)) hk (.inl rfl));have n5_:=zac.mk (hb);have n6_:=zac.mk (hi);clear HO_199000;clear BK197;clear BK198;clear BK205;clear HK;clear HB;clear HI0;have HO_199000:=n0_;have BK197:=n1_;have BK198:=n2_;have BK205:=n3_;have HK:=n4_;have HB:=n5_;have HI0:=n6_;clear n0_ n1_ n2_ n3_ n4_ n5_ n6_;(try clear hb);(try clear hb2);(try clear hk);(try clear hi)))
    go_loopg [18] k1 (fun kq v18 w'=>∃ (x18_2 : Int) (x1000_2 : (List Int × Bool)) (x206002_2 : List (S44)) (u206002 : Value),v18 = .int .i64 x18_2 ∧ zac (zal.l1 kq t199 x9_1 t206 x18_2 x1000_2 x199000_1 t201 t203 x206002_2 = some (r1,r2,r3,r4)) ∧ zac (kq ≤ k1) ∧ zac (Kd.S k42 42 w' w.heap.size (fun k_=>some k_ ≠ (u206002 : Value).ownBlock ∧ k_ ≠ gb205) u199000 x199000_1) ∧ zac (Kd.R k44 44 w' w.heap.size (fun _=>True) u206002 x206002_2) ∧ zac (w'.heap[gb197]? = some (.cells #[(.slice none 0 0),(.slice none 0 0),(.slice none 0 0)] 26 (0,0))) ∧ zac (w'.heap[gb198]? = some (.cells #[u199000,(.slice none 0 0),(.slice none 0 0)] 26 (0,0))) ∧ zac (w'.heap[gb205]? = some (.cells #[.string t201,.int .i64 t203,u206002] 42 (0,0))) ∧ zac (IsS88 w0 w' g x1000_2) ∧ zac (zax w w' g none) ∧ zac (Below w0.heap.size w0 w'))
    case atStart=>exact ⟨(0),(t207),(([] : List (S44))),(.slice none 0 0),(by first|rfl|(simp;done)|(simp [*];done)),H',⟨Nat.le_refl _⟩,⟨by (with_reducible repeat (first|apply Kd.S_alloc|apply Kd.S_drewN|apply Kd.S_drew));exact Kd.S_mono HO_199000.out (fun _ hk=>⟨(by simp [Value.ownBlock]),hk.2⟩)⟩,⟨by first|exact Kd.R_nil _ _ _ _ _|exact Kd.N_nil _ _ _ _ _|exact Kd.V_nil _ _ _ _ _|exact Kd.Q_nil _ _ _ _ _|exact Kd.S_nil _ _ _ _ _⟩,⟨by (with_reducible repeat (first|refine zah ?_ _|refine zak ?_|refine zag ?_ _));exact BK197.out⟩,⟨by (with_reducible repeat (first|refine zah ?_ _|refine zak ?_|refine zag ?_ _));exact BK198.out⟩,⟨by (with_reducible repeat (first|refine zah ?_ _|refine zak ?_|refine zag ?_ _));exact BK205.out⟩,⟨by repeat (first|(with_reducible first|exact HI0.out|apply IsS88.alloc|apply IsS88.drewN|apply IsS88.drew|apply IsS88.set_0|refine IsS88.far ?_ NB0_197.out _|refine IsS88.far ?_ NB0_198.out _|refine IsS88.far ?_ NB0_205.out _)|exact HI0.out)⟩,⟨by repeat (first|(with_reducible first|exact HK.out|apply zax.set_|apply keep_drewN|apply zbp|apply keep_alloc|refine zbb ?_ GW197.out _|refine zbb ?_ GW198.out _|refine zbb ?_ GW205.out _)|exact HK.out)⟩,⟨by repeat (first|(with_reducible first|exact HB.out|apply zae|apply zab|apply zaf|refine zai ?_ (IsS88.ge HI0.out)|refine zai ?_ GE197.out|refine zai ?_ GE198.out|refine zai ?_ GE205.out)|exact HB.out)⟩⟩
    case round =>
     clear H'
     try clear c6
     try clear c6b0
     try clear hcz16_0
     try clear hcz16_1
     try clear hcz16_2
     try clear hfz16_0
     try clear hfz16_1
     try clear hfz16_2
     obtain ⟨x18_2,x1000_2,x206002_2,u206002,rfl,HA,HK2,HO_199000,HO_206002,BK197,BK198,BK205,HI0,HK,HB⟩:=hrel
     cases gk with
     | zero=>exact absurd HA.out (by simp [zal.l1])
     | succ k2 =>
      have H:=HA.out
      clear HA
      simp only [zal.l1] at H
      by_cases c18 : x18_2 < t206
      ·rw [if_pos c18] at H
       have c18b0 : decide (x18_2 < t206) = true:=decide_eq_true c18
       clear c18
       replace H:=Option.bind_eq_some_iff.mp H
       obtain ⟨⟨t208,t209⟩,A190,H⟩:=H
       replace H : ((timetable_reader_int.f t209).bind fun bt210=>(if x206002_2.length < 8796093022208 then (zal.l1 k2 t199 x9_1 t206 (wrap64 (x18_2 + 1)) bt210.2 x199000_1 t201 t203 (x206002_2 ++ [(⟨t208,bt210.1⟩ : S44)])) else (none))) = some (r1,r2,r3,r4):=H
       have A19:=zac.mk A190
       clear A190
       replace H:=Option.bind_eq_some_iff.mp H
       obtain ⟨⟨t210,t211⟩,A200,H⟩:=H
       replace H : (if x206002_2.length < 8796093022208 then (zal.l1 k2 t199 x9_1 t206 (wrap64 (x18_2 + 1)) t211 x199000_1 t201 t203 (x206002_2 ++ [(⟨t208,t210⟩ : S44)])) else (none)) = some (r1,r2,r3,r4):=H
       have A20:=zac.mk A200
       clear A200
       by_cases c21 : x206002_2.length < 8796093022208
       ·rw [if_pos c21] at H
        have LMc21:=zac.mk c21
        clear c21
        obtain ⟨y212,hy212⟩ : ∃ y_ : List (S44),y_ = (x206002_2 ++ [(⟨t208,t210⟩ : S44)]):=⟨_,rfl⟩
        replace H : (zal.l1 k2 t199 x9_1 t206 (wrap64 (x18_2 + 1)) t211 x199000_1 t201 t203 y212) = some (r1,r2,r3,r4):=by first|(rw [hy212];with_reducible exact H)|(have H2_:=(Option.bind_some _ _).symm.trans H;rw [hy212];with_reducible exact H2_)|(have H2_:=(Option.bind_some _ _).symm.trans H;with_reducible exact H2_)|with_reducible exact H|(rw [hy212];exact H)|exact H
        have Ny212:=zac.mk hy212
        clear hy212
        have H':=zac.mk H
        clear H
        try go_wp2
        have n0_:=zac.mk (Kd.S_drew HO_199000.out)
        have n1_:=zac.mk (Kd.R_drew HO_206002.out)
        have n2_:=zac.mk (zak BK197.out)
        have n3_:=zac.mk (zak BK198.out)
        have n4_:=zac.mk (zak BK205.out)
        have n5_:=zac.mk (IsS88.drew HI0.out)
        have n6_:=zac.mk (zbp HK.out)
        have n7_:=zac.mk (zaf HB.out)
        clear HO_199000
        clear HO_206002
        clear BK197
        clear BK198
        clear BK205
        clear HI0
        clear HK
        clear HB
        have HO_199000:=n0_
        have HO_206002:=n1_
        have BK197:=n2_
        have BK198:=n3_
        have BK205:=n4_
        have HI0:=n5_
        have HK:=n6_
        have HB:=n7_
        clear n0_ n1_ n2_ n3_ n4_ n5_ n6_ n7_
        refine start_ (n:=11) (S:=fun w'=>w'.cell? ⟨gb205,0,none⟩ = some (.string t201) ∧ w'.cell? ⟨gb205,1,none⟩ = some (.int .i64 t203) ∧ w'.cell? ⟨gb205,2,none⟩ = some (u206002)) (ds:=[10]) #[false,false,false,false,false,false,false,false,false,false,false] (by kernel_rfl) rfl rfl ⟨(zad BK205.out 0).trans rfl,(zad BK205.out 1).trans rfl,(zad BK205.out 2).trans rfl⟩ (fun hHeld=>?_);refine with_tabW zal.tab7 zal.bits7 (fun HT_ HW_=>?_)
        generalize wr.drew = w22 at HO_199000 HO_206002 BK197 BK198 BK205 HI0 HK HB hHeld ⊢
        refine pure_ (i:=0) (N:=some 20) (v:=?_) (a':=?_) #[true,false,false,false,false,false,false,false,false,false,false] rfl rfl (zbx HT_.out (by kernel_rfl)) (fun _ _ _ h=>h) (Or.inl ⟨by rfl,?_⟩) ?_ ?_
        rotate_left
        ·intro w'
         go_simp
         with_reducible rfl
        rotate_left
        ·simp only [Act.put,List.setIfInBounds_toArray,List.set_cons_zero,List.set_cons_succ,i64_w,i32_w]
         rfl
        refine pure_ (i:=2) (N:=some 22) (v:=?_) (a':=?_) #[true,false,true,false,false,false,false,false,false,false,false] rfl rfl (zbx HT_.out (by kernel_rfl)) (fun _ _ _ h=>h) (Or.inl ⟨by rfl,?_⟩) ?_ ?_
        rotate_left
        ·intro w'
         go_simp
         with_reducible rfl
        rotate_left
        ·simp only [Act.put,List.setIfInBounds_toArray,List.set_cons_zero,List.set_cons_succ,i64_w,i32_w]
         rfl
        refine pure_ (i:=4) (N:=some 24) (v:=?_) (a':=?_) #[true,false,true,false,true,false,false,false,false,false,false] rfl rfl (zbx HT_.out (by kernel_rfl)) (fun _ _ _ h=>h) (Or.inl ⟨by rfl,?_⟩) ?_ ?_
        rotate_left
        ·intro w'
         go_simp
         with_reducible rfl
        rotate_left
        ·simp only [Act.put,List.setIfInBounds_toArray,List.set_cons_zero,List.set_cons_succ,i64_w,i32_w]
         rfl
        refine take_ (i:=1) (N:=some 21) (v:=?_) (a':=?_) #[true,true,true,false,true,false,false,false,false,false,false] rfl rfl (take_ofW HT_.out HW_.out (by kernel_rfl)) (fun _ _ _ h=>h) (Or.inl ⟨by rfl,?_⟩) hHeld ?_ ?_
        rotate_left
        ·rintro w' ⟨s0,s1,s2⟩
         go_simp
         with_reducible rfl
        rotate_left
        ·simp only [Act.put,List.setIfInBounds_toArray,List.set_cons_zero,List.set_cons_succ,i64_w,i32_w]
         rfl
        refine one_ (i:=3) (N:=some 23) #[true,true,true,true,true,false,false,false,false,false,false] rfl rfl (one_of HT_.out (by kernel_rfl)) (by decide) (fun K hK=>?_)
        refine goes_ Try.func77 (by kernel_rfl) rfl #[.pointer (some ⟨g,0,none⟩)] (by rfl) rfl rfl (by (try simp only [List.map_toArray,List.map_cons,List.map_nil]);first|done|rfl|(simp only [List.length_drop,List.length_take];rfl)) ?_
        with_reducible refine (zbl.calls g x1000_2 t208 t209 w0 _ ?side1 ?side2 A19.out).mono ?_
        (case side1=>repeat (first|(with_reducible first|exact HI0.out|apply IsS88.alloc|apply IsS88.drewN|apply IsS88.drew|apply IsS88.set_0|refine IsS88.far ?_ NB0_197.out _|refine IsS88.far ?_ NB0_198.out _|refine IsS88.far ?_ NB0_205.out _)|exact HI0.out))
        (case side2=>repeat (first|(with_reducible first|exact HB.out|apply zae|apply zab|apply zaf|refine zai ?_ (IsS88.ge HI0.out)|refine zai ?_ GE197.out|refine zai ?_ GE198.out|refine zai ?_ GE205.out)|exact HB.out))
        rintro e w23 ⟨rfl,hi,hb,hk⟩
        refine ⟨_,rfl,?_⟩
        have n0_:=zac.mk (Kd.S_mono (Kd.S_keep (IsS88.apartS (show IsS88 w0 _ g x1000_2 from by repeat (first|(with_reducible first|exact HI0.out|apply IsS88.alloc|apply IsS88.drewN|apply IsS88.drew|apply IsS88.set_0|refine IsS88.far ?_ NB0_197.out _|refine IsS88.far ?_ NB0_198.out _|refine IsS88.far ?_ NB0_205.out _)|exact HI0.out)) (by (with_reducible repeat (first|apply Kd.S_alloc|apply Kd.S_drewN|apply Kd.S_drew));exact HO_199000.out) (by decide)) hk (fun _ h=>h.2)) (fun _ h=>h.1))
        have n1_:=zac.mk (Kd.R_mono (Kd.R_keep (IsS88.apart (show IsS88 w0 _ g x1000_2 from by repeat (first|(with_reducible first|exact HI0.out|apply IsS88.alloc|apply IsS88.drewN|apply IsS88.drew|apply IsS88.set_0|refine IsS88.far ?_ NB0_197.out _|refine IsS88.far ?_ NB0_198.out _|refine IsS88.far ?_ NB0_205.out _)|exact HI0.out)) (by (with_reducible repeat (first|apply Kd.R_alloc|apply Kd.R_drewN|apply Kd.R_drew));exact HO_206002.out) (by decide)) hk (fun _ h=>h.2)) (fun _ h=>h.1))
        have n2_:=zac.mk (zax.blk hk (g':=gb197) (o:=.cells #[.slice none 0 0,.slice none 0 0,.slice none 0 0] 26 (0,0)) (by (with_reducible repeat (first|refine zah ?_ _|refine zak ?_|refine zag ?_ _));exact BK197.out) NB197_0.out (by simp))
        have n3_:=zac.mk (zax.blk hk (g':=gb198) (o:=.cells #[u199000,.slice none 0 0,.slice none 0 0] 26 (0,0)) (by (with_reducible repeat (first|refine zah ?_ _|refine zak ?_|refine zag ?_ _));exact BK198.out) NB198_0.out (by simp))
        have n4_:=zac.mk (zax.blk hk (g':=gb205) (o:=.cells #[.string t201,.int .i64 t203,u206002] 42 (0,0)) (by (with_reducible repeat (first|refine zah ?_ _|refine zak ?_|refine zag ?_ _));exact BK205.out) NB205_0.out (by simp))
        have n5_:=zac.mk (zax.trans (by repeat (first|(with_reducible first|exact HK.out|apply zax.set_|apply keep_drewN|apply zbp|apply keep_alloc|refine zbb ?_ GW197.out _|refine zbb ?_ GW198.out _|refine zbb ?_ GW205.out _)|exact HK.out)) hk (.inl rfl))
        have n6_:=zac.mk (hb)
        have n7_:=zac.mk (hi)
        clear HO_199000
        clear HO_206002
        clear BK197
        clear BK198
        clear BK205
        clear HK
        clear HB
        clear HI0
        have HO_199000:=n0_
        have HO_206002:=n1_
        have BK197:=n2_
        have BK198:=n3_
        have BK205:=n4_
        have HK:=n5_
        have HB:=n6_
        have HI0:=n7_
        clear n0_ n1_ n2_ n3_ n4_ n5_ n6_ n7_
        (try clear hb)
        (try clear hb2)
        (try clear hk)
        (try clear hi)
        refine hK.out _ _ ⟨(zad BK205.out 0).trans rfl,(zad BK205.out 1).trans rfl,(zad BK205.out 2).trans rfl⟩ (fun hHeld=>?_)
        clear hK K
        refine norm_ (a':=?_) ?_ ?_
        rotate_left
        ·show Act.put _ (some 23) _ = _
         simp only [Act.put,List.setIfInBounds_toArray,List.set_cons_zero,List.set_cons_succ,i64_w,i32_w]
         rfl
        refine one_ (i:=5) (N:=some 25) #[true,true,true,true,true,true,false,false,false,false,false] rfl rfl (one_of HT_.out (by kernel_rfl)) (by decide) (fun K hK=>?_)
        refine goes_ Try.func76 (by kernel_rfl) rfl #[.pointer (some ⟨g,0,none⟩)] (by rfl) rfl rfl (by (try simp only [List.map_toArray,List.map_cons,List.map_nil]);first|done|rfl|(simp only [List.length_drop,List.length_take];rfl)) ?_
        with_reducible refine (timetable_reader_int.calls g t209 t210 t211 w0 _ ?side1 ?side2 A20.out).mono ?_
        (case side1=>repeat (first|(with_reducible first|exact HI0.out|apply IsS88.alloc|apply IsS88.drewN|apply IsS88.drew|apply IsS88.set_0|refine IsS88.far ?_ NB0_197.out _|refine IsS88.far ?_ NB0_198.out _|refine IsS88.far ?_ NB0_205.out _)|exact HI0.out))
        (case side2=>repeat (first|(with_reducible first|exact HB.out|apply zae|apply zab|apply zaf|refine zai ?_ (IsS88.ge HI0.out)|refine zai ?_ GE197.out|refine zai ?_ GE198.out|refine zai ?_ GE205.out)|exact HB.out))
        rintro e w24 ⟨rfl,hi,hb,hk⟩
        refine ⟨_,rfl,?_⟩
        have n0_:=zac.mk (Kd.S_mono (Kd.S_keep (IsS88.apartS (show IsS88 w0 _ g t209 from by repeat (first|(with_reducible first|exact HI0.out|apply IsS88.alloc|apply IsS88.drewN|apply IsS88.drew|apply IsS88.set_0|refine IsS88.far ?_ NB0_197.out _|refine IsS88.far ?_ NB0_198.out _|refine IsS88.far ?_ NB0_205.out _)|exact HI0.out)) (by (with_reducible repeat (first|apply Kd.S_alloc|apply Kd.S_drewN|apply Kd.S_drew));exact HO_199000.out) (by decide)) hk (fun _ h=>h.2)) (fun _ h=>h.1))
        have n1_:=zac.mk (Kd.R_mono (Kd.R_keep (IsS88.apart (show IsS88 w0 _ g t209 from by repeat (first|(with_reducible first|exact HI0.out|apply IsS88.alloc|apply IsS88.drewN|apply IsS88.drew|apply IsS88.set_0|refine IsS88.far ?_ NB0_197.out _|refine IsS88.far ?_ NB0_198.out _|refine IsS88.far ?_ NB0_205.out _)|exact HI0.out)) (by (with_reducible repeat (first|apply Kd.R_alloc|apply Kd.R_drewN|apply Kd.R_drew));exact HO_206002.out) (by decide)) hk (fun _ h=>h.2)) (fun _ h=>h.1))
        have n2_:=zac.mk (zax.blk hk (g':=gb197) (o:=.cells #[.slice none 0 0,.slice none 0 0,.slice none 0 0] 26 (0,0)) (by (with_reducible repeat (first|refine zah ?_ _|refine zak ?_|refine zag ?_ _));exact BK197.out) NB197_0.out (by simp))
        have n3_:=zac.mk (zax.blk hk (g':=gb198) (o:=.cells #[u199000,.slice none 0 0,.slice none 0 0] 26 (0,0)) (by (with_reducible repeat (first|refine zah ?_ _|refine zak ?_|refine zag ?_ _));exact BK198.out) NB198_0.out (by simp))
        have n4_:=zac.mk (zax.blk hk (g':=gb205) (o:=.cells #[.string t201,.int .i64 t203,u206002] 42 (0,0)) (by (with_reducible repeat (first|refine zah ?_ _|refine zak ?_|refine zag ?_ _));exact BK205.out) NB205_0.out (by simp))
        have n5_:=zac.mk (zax.trans (by repeat (first|(with_reducible first|exact HK.out|apply zax.set_|apply keep_drewN|apply zbp|apply keep_alloc|refine zbb ?_ GW197.out _|refine zbb ?_ GW198.out _|refine zbb ?_ GW205.out _)|exact HK.out)) hk (.inl rfl))
        have n6_:=zac.mk (hb)
        have n7_:=zac.mk (hi)
        clear HO_199000
        clear HO_206002
        clear BK197
        clear BK198
        clear BK205
        clear HK
        clear HB
        clear HI0
        have HO_199000:=n0_
        have HO_206002:=n1_
        have BK197:=n2_
        have BK198:=n3_
        have BK205:=n4_
        have HK:=n5_
        have HB:=n6_
        have HI0:=n7_
        clear n0_ n1_ n2_ n3_ n4_ n5_ n6_ n7_
        (try clear hb)
        (try clear hb2)
        (try clear hk)
        (try clear hi)
        refine hK.out _ _ ⟨(zad BK205.out 0).trans rfl,(zad BK205.out 1).trans rfl,(zad BK205.out 2).trans rfl⟩ (fun hHeld=>?_)
        clear hK K
        refine norm_ (a':=?_) ?_ ?_
        rotate_left
        ·show Act.put _ (some 25) _ = _
         simp only [Act.put,List.setIfInBounds_toArray,List.set_cons_zero,List.set_cons_succ,i64_w,i32_w]
         rfl
        refine pure_ (i:=6) (N:=some 26) (v:=?_) (a':=?_) #[true,true,true,true,true,true,true,false,false,false,false] rfl rfl (zbx HT_.out (by kernel_rfl)) (fun _ _ _ h=>h) (Or.inl ⟨by rfl,?_⟩) ?_ ?_
        rotate_left
        ·intro w'
         go_simp
         with_reducible rfl
        rotate_left
        ·simp only [Act.put,List.setIfInBounds_toArray,List.set_cons_zero,List.set_cons_succ,i64_w,i32_w]
         rfl
        refine one_ (i:=7) (N:=some 27) #[true,true,true,true,true,true,true,true,false,false,false] rfl rfl (one_of HT_.out (by kernel_rfl)) (by decide) (fun K hK=>?_)
        refine value_ (w1:=?_) (v:=?_) (by rfl) rfl ?_ ?_
        rotate_left 2
        ·go_simp
         constructor
         ·rfl
         ·rfl
        refine hK.out _ _ ⟨(zad (zag BK205.out _) 0).trans rfl,(zad (zag BK205.out _) 1).trans rfl,(zad (zag BK205.out _) 2).trans rfl⟩ (fun hHeld=>?_)
        clear hK K
        refine norm_ (a':=?_) ?_ ?_
        rotate_left
        ·show Act.put _ (some 27) _ = _
         simp only [Act.put,List.setIfInBounds_toArray,List.set_cons_zero,List.set_cons_succ,i64_w,i32_w]
         rfl
        refine one_ (i:=8) (N:=some 28) #[true,true,true,true,true,true,true,true,true,false,false] rfl rfl (one_of HT_.out (by kernel_rfl)) (by decide) (fun K hK=>?_)
        refine Kd.R_append_step k44 w.heap.size (by rfl) (.tmp 21) (.tmp 27) 40 44 (.agg #[(.int .i64 0),(.int .i64 0)]) 16 rfl Try.underlying40 info44 rfl (by decide) (by omega) u206002 x206002_2 (⟨t208,t210⟩ : S44) [.int .i64 t208,.int .i64 t210] (fun _=>True) (fun _=>False) rfl rfl ?aP (fun _ hk=>hk.elim) ?aF ?aO (Below.refl _ _) ?aS ?aL ?_
        (case aP=>exact k44_mkM _ _ _ (⟨t208,t210⟩ : S44))
        (case aF=>exact (fun _ _=>trivial))
        (case aO=>exact (by (with_reducible repeat (first|apply Kd.R_alloc|apply Kd.R_drewN|apply Kd.R_drew));exact HO_206002.out))
        (case aS=>exact (keep_size (w:=w) (g:=g) (row:=none) (by repeat (first|(with_reducible first|exact HK.out|apply zax.set_|apply keep_drewN|apply zbp|apply keep_alloc|refine zbb ?_ GW197.out _|refine zbb ?_ GW198.out _|refine zbb ?_ GW205.out _)|exact HK.out))))
        (case aL=>have:=LMc21.out;omega)
        intro v213 w25 ho hb hg hat
        rw [← Ny212.out] at ho
        have n0_:=zac.mk (Kd.S_after (ok:=(fun k_=>k_ ≠ gb205)) (by (with_reducible repeat (first|apply Kd.S_alloc|apply Kd.S_drewN|apply Kd.S_drew));exact Kd.S_mono HO_199000.out (fun _ hk=>⟨hk.2,hk.1⟩)) hg hat)
        have n1_:=zac.mk (zcj (g:=gb197) (o:=.cells #[.slice none 0 0,.slice none 0 0,.slice none 0 0] 26 (0,0)) (by (with_reducible repeat (first|refine zah ?_ _|refine zak ?_|refine zag ?_ _));exact BK197.out) hg (Kd.R_ne HO_206002.out BK197.out (by decide)))
        have n2_:=zac.mk (zcj (g:=gb198) (o:=.cells #[u199000,.slice none 0 0,.slice none 0 0] 26 (0,0)) (by (with_reducible repeat (first|refine zah ?_ _|refine zak ?_|refine zag ?_ _));exact BK198.out) hg (Kd.R_ne HO_206002.out BK198.out (by decide)))
        have n3_:=zac.mk (zcj (g:=gb205) (o:=.cells #[.string t201,.int .i64 t203,u206002] 42 (0,0)) (by (with_reducible repeat (first|refine zah ?_ _|refine zak ?_|refine zag ?_ _));exact BK205.out) hg (Kd.R_ne HO_206002.out BK205.out (by decide)))
        have n4_:=zac.mk (IsS88.grown (by repeat (first|(with_reducible first|exact HI0.out|apply IsS88.alloc|apply IsS88.drewN|apply IsS88.drew|apply IsS88.set_0|refine IsS88.far ?_ NB0_197.out _|refine IsS88.far ?_ NB0_198.out _|refine IsS88.far ?_ NB0_205.out _)|exact HI0.out)) hg (IsS88.own_ne HI0.out HO_206002.out (by decide)))
        have n5_:=zac.mk (below_weaken (by repeat (first|(with_reducible first|exact HB.out|apply zae|apply zab|apply zaf|refine zai ?_ (IsS88.ge HI0.out)|refine zai ?_ GE197.out|refine zai ?_ GE198.out|refine zai ?_ GE205.out)|exact HB.out)) HL.out hb)
        have n6_:=zac.mk (zax.trans (by repeat (first|(with_reducible first|exact HK.out|apply zax.set_|apply keep_drewN|apply zbp|apply keep_alloc|refine zbb ?_ GW197.out _|refine zbb ?_ GW198.out _|refine zbb ?_ GW205.out _)|exact HK.out)) (zax.of_grown hg g) (Kd.R_base2 HO_206002.out))
        have n7_:=zac.mk (ho)
        clear HO_199000
        clear BK197
        clear BK198
        clear BK205
        clear HI0
        clear HB
        clear HK
        clear HO_206002
        have HO_199000:=n0_
        have BK197:=n1_
        have BK198:=n2_
        have BK205:=n3_
        have HI0:=n4_
        have HB:=n5_
        have HK:=n6_
        have HO214:=n7_
        clear n0_ n1_ n2_ n3_ n4_ n5_ n6_ n7_
        clear ho hb hg hat
        obtain ⟨Ao26,co26,eo26⟩:=Kd.R_slice HO214.out
        (first|subst eo26|(injection eo26 with f1_ f2_ f3_;have f4_:=f1_.symm;have f5_:=f3_.symm;clear f1_ f2_ f3_;subst f4_;subst f5_))
        refine hK.out _ _ ⟨(zad BK205.out 0).trans rfl,(zad BK205.out 1).trans rfl,(zad BK205.out 2).trans rfl⟩ (fun hHeld=>?_)
        clear hK K
        refine norm_ (a':=?_) ?_ ?_
        rotate_left
        ·show Act.put _ (some 28) _ = _
         simp only [Act.put,List.setIfInBounds_toArray,List.set_cons_zero,List.set_cons_succ,i64_w,i32_w]
         rfl
        refine pure_ (i:=9) (N:=some 29) (v:=?_) (a':=?_) #[true,true,true,true,true,true,true,true,true,true,false] rfl rfl (zbx HT_.out (by kernel_rfl)) (fun _ _ _ h=>h) (Or.inl ⟨by rfl,?_⟩) ?_ ?_
        rotate_left
        ·intro w'
         go_simp
         with_reducible rfl
        rotate_left
        ·simp only [Act.put,List.setIfInBounds_toArray,List.set_cons_zero,List.set_cons_succ,i64_w,i32_w]
         rfl
        refine last_ (i:=10) (N:=none) #[true,true,true,true,true,true,true,true,true,true,true] rfl rfl (one_of HT_.out (by kernel_rfl)) (by decide) (fun K hK=>?_)
        have hs27 : w25.cell? ⟨gb205,2,none⟩ = some (u206002):=(zad BK205.out 2).trans rfl
        have hfs27:=zaa BK205.out 2
        have hns27_0:=NB197_205.out
        have hns27_1:=NB198_205.out
        have hms27_0:=NB205_197.out
        have hms27_1:=NB205_198.out
        refine skip_ (w1:=?_) (by rfl) rfl ?_ ?_
        rotate_left
        ·go_simp
         rfl
        refine hK.out _ _ ?_
        clear hK K
        refine done_ (done_of HT_.out (by kernel_rfl)) ?_
        try go_wp2
        go_roundg k2
        case measure=>have:=HK1.out;have:=HK2.out;omega
        case rel=>exact ⟨(wrap64 (x18_2 + 1)),(t211),(y212),(.slice Ao26 y212.length co26),(by first|rfl|(simp;done)|(simp [*];done)),H',⟨by have:=HK1.out;have:=HK2.out;omega⟩,⟨by (with_reducible repeat (first|apply Kd.S_alloc|apply Kd.S_drewN|apply Kd.S_drew));exact Kd.S_mono (Kd.S_far (p:=⟨gb205,2,none⟩) (Kd.S_mono HO_199000.out (fun k_ hk=>(⟨hk,hk.1⟩ : _ ∧ k_ ≠ gb205))) (fun _ hk=>hk.2) (.slice Ao26 y212.length co26)) (fun _ hk=>⟨hk.1.2,hk.1.1⟩)⟩,⟨by (with_reducible repeat (first|apply Kd.R_alloc|apply Kd.R_drewN|apply Kd.R_drew));exact Kd.R_mono (Kd.R_far (p:=⟨gb205,2,none⟩) (Kd.R_types HO214.out BK205.out (by decide)) (fun _ hk=>hk.2) (.slice Ao26 y212.length co26)) (fun _ hk=>trivial)⟩,⟨by (with_reducible repeat (first|refine zah ?_ _|refine zak ?_|refine zag ?_ _));refine zaz ?_ NB197_205.out _;(with_reducible repeat (first|refine zah ?_ _|refine zak ?_|refine zag ?_ _));exact BK197.out⟩,⟨by (with_reducible repeat (first|refine zah ?_ _|refine zak ?_|refine zag ?_ _));refine zaz ?_ NB198_205.out _;(with_reducible repeat (first|refine zah ?_ _|refine zak ?_|refine zag ?_ _));exact BK198.out⟩,⟨by (with_reducible repeat (first|refine zah ?_ _|refine zak ?_|refine zag ?_ _));refine zaw (cs:=#[.string t201,.int .i64 t203,u206002]) ?_ 2 _ rfl;(with_reducible repeat (first|refine zah ?_ _|refine zak ?_|refine zag ?_ _));exact BK205.out⟩,⟨by repeat (first|(with_reducible first|exact HI0.out|apply IsS88.alloc|apply IsS88.drewN|apply IsS88.drew|apply IsS88.set_0|refine IsS88.far ?_ NB0_197.out _|refine IsS88.far ?_ NB0_198.out _|refine IsS88.far ?_ NB0_205.out _)|exact HI0.out)⟩,⟨by repeat (first|(with_reducible first|exact HK.out|apply zax.set_|apply keep_drewN|apply zbp|apply keep_alloc|refine zbb ?_ GW197.out _|refine zbb ?_ GW198.out _|refine zbb ?_ GW205.out _)|exact HK.out)⟩,⟨by repeat (first|(with_reducible first|exact HB.out|apply zae|apply zab|apply zaf|refine zai ?_ (IsS88.ge HI0.out)|refine zai ?_ GE197.out|refine zai ?_ GE198.out|refine zai ?_ GE205.out)|exact HB.out)⟩⟩
       ·rw [if_neg c21] at H
        exact absurd H (by simp)
      ·rw [if_neg c18] at H
       have c18b0 : decide (x18_2 < t206) = false:=decide_eq_false c18
       clear c18
       by_cases c28 : x199000_1.length < 2932031007402
       ·rw [if_pos c28] at H
        have LMc28:=zac.mk c28
        clear c28
        obtain ⟨y215,hy215⟩ : ∃ y_ : List (S42),y_ = (x199000_1 ++ [(⟨t201,t203,x206002_2⟩ : S42)]):=⟨_,rfl⟩
        replace H : (zal.l0 k2 t199 (wrap64 (x9_1 + 1)) x1000_2 y215) = some (r1,r2,r3,r4):=by first|(rw [hy215];with_reducible exact H)|(have H2_:=(Option.bind_some _ _).symm.trans H;rw [hy215];with_reducible exact H2_)|(have H2_:=(Option.bind_some _ _).symm.trans H;with_reducible exact H2_)|with_reducible exact H|(rw [hy215];exact H)|exact H
        have Ny215:=zac.mk hy215
        clear hy215
        have H':=zac.mk H
        clear H
        have hnb29:=NB198_197.out
        have hnc29:=NB197_198.out
        have hnb30:=NB198_205.out
        have hnc30:=NB205_198.out
        have hnb31:=NB198_0.out
        have hnc31:=NB0_198.out
        have hcz32_0 : wr.cell? ⟨gb198,0,none⟩ = some (u199000):=(zad BK198.out 0).trans rfl
        have hcz32_1 : wr.cell? ⟨gb198,1,none⟩ = some (.slice none 0 0):=(zad BK198.out 1).trans rfl
        have hcz32_2 : wr.cell? ⟨gb198,2,none⟩ = some (.slice none 0 0):=(zad BK198.out 2).trans rfl
        have hfz32_0:=zaa BK198.out 0
        have hfz32_1:=zaa BK198.out 1
        have hfz32_2:=zaa BK198.out 2
        have hnb33:=NB205_197.out
        have hnc33:=NB197_205.out
        have hnb34:=NB205_0.out
        have hnc34:=NB0_205.out
        have hcz35_0 : wr.cell? ⟨gb205,0,none⟩ = some (.string t201):=(zad BK205.out 0).trans rfl
        have hcz35_1 : wr.cell? ⟨gb205,1,none⟩ = some (.int .i64 t203):=(zad BK205.out 1).trans rfl
        have hcz35_2 : wr.cell? ⟨gb205,2,none⟩ = some (u206002):=(zad BK205.out 2).trans rfl
        have hfz35_0:=zaa BK205.out 0
        have hfz35_1:=zaa BK205.out 1
        have hfz35_2:=zaa BK205.out 2
        obtain ⟨Ao37,co37,eo37⟩:=Kd.R_slice HO_206002.out
        subst eo37
        go_wp2_with (first|((with_reducible refine gate_builtin (b:=.append) (xs:=#[.tmp 32,.tmp 34]) rfl ?_);at_builtin;refine Kd.S_append k42 w.heap.size rfl (.tmp 32) (.tmp 34) 22 42 (.agg #[(.string ⟨#[]⟩),(.int .i64 0),(.slice none 0 0)]) 48 rfl Try.underlying22 info42 rfl (by decide) (by omega) u199000 x199000_1 (⟨t201,t203,x206002_2⟩ : S42) [.string t201,.int .i64 t203,.slice Ao37 x206002_2.length co37] (fun k_=>k_ ≠ gb205) (fun k_=>some k_ = (.slice Ao37 x206002_2.length co37 : Value).ownBlock) rfl rfl ?aP (fun k_ hk_=>((Kd.R_mono (ok':=fun k_=>((fun k_=>k_ ≠ gb205)) k_ ∧ some k_ ≠ (u199000 : Value).ownBlock) (Kd.R_types (Kd.R_apart' (HO_206002.out) (Kd.S_typed HO_199000.out) (by decide)) BK205.out (by decide)) (fun k_ hk=>⟨hk.2,hk.1.2⟩))).1 k_ hk_.symm) ?aF ?aO (Below.refl _ _) ?aS ?aL ?_;(case aP=>exact k42_mkM _ _ _ (⟨t201,t203,x206002_2⟩ : S42) (Kd.R_mono (Kd.R_tight rfl (Kd.R_mono (ok':=fun k_=>((fun k_=>k_ ≠ gb205)) k_ ∧ some k_ ≠ (u199000 : Value).ownBlock) (Kd.R_types (Kd.R_apart' (HO_206002.out) (Kd.S_typed HO_199000.out) (by decide)) BK205.out (by decide)) (fun k_ hk=>⟨hk.2,hk.1.2⟩))) (fun _ h_=>h_)));(case aF=>exact (fun k_ hk=>Kd.freshB (g:=gb205) (o:=.cells #[.string t201,.int .i64 t203,.slice Ao37 x206002_2.length co37] 42 (0,0)) (by (with_reducible repeat (first|refine zah ?_ _|refine zak ?_|refine zag ?_ _));exact BK205.out) k_ hk));(case aO=>exact (by (with_reducible repeat (first|apply Kd.S_alloc|apply Kd.S_drewN|apply Kd.S_drew));exact Kd.S_mono HO_199000.out (fun k_ hk=>⟨hk.2,fun e_=>hk.1 e_⟩)));(case aS=>exact (keep_size (w:=w) (g:=g) (row:=none) (by repeat (first|(with_reducible first|exact HK.out|apply zax.set_|apply keep_drewN|apply zbp|apply keep_alloc|refine zbb ?_ GW197.out _|refine zbb ?_ GW198.out _|refine zbb ?_ GW205.out _)|exact HK.out))));(case aL=>have:=LMc28.out;omega);intro v216 w36 ho hb hg hat;rw [← Ny215.out] at ho;have n0_:=zac.mk (zcj (g:=gb197) (o:=.cells #[.slice none 0 0,.slice none 0 0,.slice none 0 0] 26 (0,0)) (by (with_reducible repeat (first|refine zah ?_ _|refine zak ?_|refine zag ?_ _));exact BK197.out) hg (Kd.S_ne HO_199000.out BK197.out (by decide)));have n1_:=zac.mk (zcj (g:=gb198) (o:=.cells #[u199000,.slice none 0 0,.slice none 0 0] 26 (0,0)) (by (with_reducible repeat (first|refine zah ?_ _|refine zak ?_|refine zag ?_ _));exact BK198.out) hg (Kd.S_ne HO_199000.out BK198.out (by decide)));have n2_:=zac.mk (zcj (g:=gb205) (o:=.cells #[.string t201,.int .i64 t203,.slice Ao37 x206002_2.length co37] 42 (0,0)) (by (with_reducible repeat (first|refine zah ?_ _|refine zak ?_|refine zag ?_ _));exact BK205.out) hg (Kd.S_away HO_199000.out (fun _ hk=>hk.2)));have n3_:=zac.mk (IsS88.grown (by repeat (first|(with_reducible first|exact HI0.out|apply IsS88.alloc|apply IsS88.drewN|apply IsS88.drew|apply IsS88.set_0|refine IsS88.far ?_ NB0_197.out _|refine IsS88.far ?_ NB0_198.out _|refine IsS88.far ?_ NB0_205.out _)|exact HI0.out)) hg (IsS88.own_neS HI0.out HO_199000.out (by decide)));have n4_:=zac.mk (below_weaken (by repeat (first|(with_reducible first|exact HB.out|apply zae|apply zab|apply zaf|refine zai ?_ (IsS88.ge HI0.out)|refine zai ?_ GE197.out|refine zai ?_ GE198.out|refine zai ?_ GE205.out)|exact HB.out)) HL.out hb);have n5_:=zac.mk (zax.trans (by repeat (first|(with_reducible first|exact HK.out|apply zax.set_|apply keep_drewN|apply zbp|apply keep_alloc|refine zbb ?_ GW197.out _|refine zbb ?_ GW198.out _|refine zbb ?_ GW205.out _)|exact HK.out)) (zax.of_grown hg g) (Kd.S_base2 HO_199000.out));have n6_:=zac.mk (ho);clear BK197;clear BK198;clear BK205;clear HI0;clear HB;clear HK;clear HO_199000;clear HO_206002;have BK197:=n0_;have BK198:=n1_;have BK205:=n2_;have HI0:=n3_;have HB:=n4_;have HK:=n5_;have HO217:=n6_;clear n0_ n1_ n2_ n3_ n4_ n5_ n6_;clear ho hb hg hat;obtain ⟨Ao38,co38,eo38⟩:=Kd.S_slice HO217.out;subst eo38;have hcz39_0 : w36.cell? ⟨gb198,0,none⟩ = some (u199000):=(zad BK198.out 0).trans rfl;have hcz39_1 : w36.cell? ⟨gb198,1,none⟩ = some (.slice none 0 0):=(zad BK198.out 1).trans rfl;have hcz39_2 : w36.cell? ⟨gb198,2,none⟩ = some (.slice none 0 0):=(zad BK198.out 2).trans rfl;have hfz39_0:=zaa BK198.out 0;have hfz39_1:=zaa BK198.out 1;have hfz39_2:=zaa BK198.out 2))
        go_roundg k2
        case measure=>have:=HK1.out;have:=HK2.out;omega
        case rel=>exact ⟨(wrap64 (x9_1 + 1)),(x1000_2),(y215),(.slice Ao38 y215.length co38),(by first|rfl|(simp;done)|(simp [*];done)),H',⟨by have:=HK1.out;have:=HK2.out;omega⟩,⟨by (with_reducible repeat (first|apply Kd.S_alloc|apply Kd.S_drewN|apply Kd.S_drew));exact Kd.S_mono (Kd.S_far (p:=⟨gb198,0,none⟩) (Kd.S_types HO217.out BK198.out (by decide)) (fun _ hk=>hk.2) (.slice Ao38 y215.length co38)) (fun _ hk=>trivial)⟩,⟨by (with_reducible repeat (first|refine zah ?_ _|refine zak ?_|refine zag ?_ _));refine zaz ?_ NB197_198.out _;(with_reducible repeat (first|refine zah ?_ _|refine zak ?_|refine zag ?_ _));exact BK197.out⟩,⟨by (with_reducible repeat (first|refine zah ?_ _|refine zak ?_|refine zag ?_ _));refine zaw (cs:=#[u199000,.slice none 0 0,.slice none 0 0]) ?_ 0 _ rfl;(with_reducible repeat (first|refine zah ?_ _|refine zak ?_|refine zag ?_ _));exact BK198.out⟩,⟨by repeat (first|(with_reducible first|exact HI0.out|apply IsS88.alloc|apply IsS88.drewN|apply IsS88.drew|apply IsS88.set_0|refine IsS88.far ?_ NB0_197.out _|refine IsS88.far ?_ NB0_198.out _|refine IsS88.far ?_ NB0_205.out _)|exact HI0.out)⟩,⟨by repeat (first|(with_reducible first|exact HK.out|apply zax.set_|apply keep_drewN|apply zbp|apply keep_alloc|refine zbb ?_ GW197.out _|refine zbb ?_ GW198.out _|refine zbb ?_ GW205.out _)|exact HK.out)⟩,⟨by repeat (first|(with_reducible first|exact HB.out|apply zae|apply zab|apply zaf|refine zai ?_ (IsS88.ge HI0.out)|refine zai ?_ GE197.out|refine zai ?_ GE198.out|refine zai ?_ GE205.out)|exact HB.out)⟩⟩
       ·rw [if_neg c28] at H
        exact absurd H (by simp)
   ·rw [if_neg c6] at H
    have c6b0 : decide (x9_1 < t199) = false:=decide_eq_false c6
    clear c6
    replace H:=Option.bind_eq_some_iff.mp H
    obtain ⟨⟨t218,t219⟩,A400,H⟩:=H
    replace H : (zal.l2 k1 t218 0 t219 x199000_1 ([] : List (S39))) = some (r1,r2,r3,r4):=H
    have A40:=zac.mk A400
    clear A400
    have H':=zac.mk H
    clear H
    go_wp2_with (first|((with_reducible refine zbe (f:=74) rfl ?_);refine zce (some 39) rfl rfl Try.func74 (by kernel_rfl) rfl #[.pointer (some ⟨g,0,none⟩),.int .i64 64] rfl (by (try simp only [List.map_toArray,List.map_cons,List.map_nil]);first|done|rfl|(simp only [List.length_drop,List.length_take];rfl)) ?_;(with_reducible refine (zbw.calls g x1000_1 64 t218 t219 w0 _ ?side1 ?side2 A40.out).mono ?_);(case side1=>repeat (first|(with_reducible first|exact HI0.out|apply IsS88.alloc|apply IsS88.drewN|apply IsS88.drew|apply IsS88.set_0|refine IsS88.far ?_ NB0_197.out _|refine IsS88.far ?_ NB0_198.out _)|exact HI0.out));(case side2=>repeat (first|(with_reducible first|exact HB.out|apply zae|apply zab|apply zaf|refine zai ?_ (IsS88.ge HI0.out)|refine zai ?_ GE197.out|refine zai ?_ GE198.out)|exact HB.out));rintro e w41 ⟨rfl,hi,hb,hk⟩;refine ⟨_,rfl,?_⟩;have n0_:=zac.mk (Kd.S_mono (Kd.S_keep (IsS88.apartS (show IsS88 w0 _ g x1000_1 from by repeat (first|(with_reducible first|exact HI0.out|apply IsS88.alloc|apply IsS88.drewN|apply IsS88.drew|apply IsS88.set_0|refine IsS88.far ?_ NB0_197.out _|refine IsS88.far ?_ NB0_198.out _)|exact HI0.out)) (by (with_reducible repeat (first|apply Kd.S_alloc|apply Kd.S_drewN|apply Kd.S_drew));exact HO_199000.out) (by decide)) hk (fun _ h=>h.2)) (fun _ h=>h.1));have n1_:=zac.mk (zax.blk hk (g':=gb197) (o:=.cells #[.slice none 0 0,.slice none 0 0,.slice none 0 0] 26 (0,0)) (by (with_reducible repeat (first|refine zah ?_ _|refine zak ?_|refine zag ?_ _));exact BK197.out) NB197_0.out (by simp));have n2_:=zac.mk (zax.blk hk (g':=gb198) (o:=.cells #[u199000,.slice none 0 0,.slice none 0 0] 26 (0,0)) (by (with_reducible repeat (first|refine zah ?_ _|refine zak ?_|refine zag ?_ _));exact BK198.out) NB198_0.out (by simp));have n3_:=zac.mk (zax.trans (by repeat (first|(with_reducible first|exact HK.out|apply zax.set_|apply keep_drewN|apply zbp|apply keep_alloc|refine zbb ?_ GW197.out _|refine zbb ?_ GW198.out _)|exact HK.out)) hk (.inl rfl));have n4_:=zac.mk (hb);have n5_:=zac.mk (hi);clear HO_199000;clear BK197;clear BK198;clear HK;clear HB;clear HI0;have HO_199000:=n0_;have BK197:=n1_;have BK198:=n2_;have HK:=n3_;have HB:=n4_;have HI0:=n5_;clear n0_ n1_ n2_ n3_ n4_ n5_;(try clear hb);(try clear hb2);(try clear hk);(try clear hi)))
    go_loopg [40] k1 (fun kq v40 w'=>∃ (x40_2 : Int) (x1000_2 : (List Int × Bool)) (x199001_2 : List (S39)) (u199001 : Value),v40 = .int .i64 x40_2 ∧ zac (zal.l2 kq t218 x40_2 x1000_2 x199000_1 x199001_2 = some (r1,r2,r3,r4)) ∧ zac (kq ≤ k1) ∧ zac (Kd.S k42 42 w' w.heap.size (fun _=>True) u199000 x199000_1) ∧ zac (Kd.R k39 39 w' w.heap.size (fun _=>True) u199001 x199001_2) ∧ zac (w'.heap[gb197]? = some (.cells #[(.slice none 0 0),(.slice none 0 0),(.slice none 0 0)] 26 (0,0))) ∧ zac (w'.heap[gb198]? = some (.cells #[u199000,u199001,(.slice none 0 0)] 26 (0,0))) ∧ zac (IsS88 w0 w' g x1000_2) ∧ zac (zax w w' g none) ∧ zac (Below w0.heap.size w0 w'))
    case atStart=>exact ⟨(0),(t219),(([] : List (S39))),(.slice none 0 0),(by first|rfl|(simp;done)|(simp [*];done)),H',⟨Nat.le_refl _⟩,⟨by (with_reducible repeat (first|apply Kd.S_alloc|apply Kd.S_drewN|apply Kd.S_drew));exact HO_199000.out⟩,⟨by first|exact Kd.R_nil _ _ _ _ _|exact Kd.N_nil _ _ _ _ _|exact Kd.V_nil _ _ _ _ _|exact Kd.Q_nil _ _ _ _ _|exact Kd.S_nil _ _ _ _ _⟩,⟨by (with_reducible repeat (first|refine zah ?_ _|refine zak ?_|refine zag ?_ _));exact BK197.out⟩,⟨by (with_reducible repeat (first|refine zah ?_ _|refine zak ?_|refine zag ?_ _));exact BK198.out⟩,⟨by repeat (first|(with_reducible first|exact HI0.out|apply IsS88.alloc|apply IsS88.drewN|apply IsS88.drew|apply IsS88.set_0|refine IsS88.far ?_ NB0_197.out _|refine IsS88.far ?_ NB0_198.out _)|exact HI0.out)⟩,⟨by repeat (first|(with_reducible first|exact HK.out|apply zax.set_|apply keep_drewN|apply zbp|apply keep_alloc|refine zbb ?_ GW197.out _|refine zbb ?_ GW198.out _)|exact HK.out)⟩,⟨by repeat (first|(with_reducible first|exact HB.out|apply zae|apply zab|apply zaf|refine zai ?_ (IsS88.ge HI0.out)|refine zai ?_ GE197.out|refine zai ?_ GE198.out)|exact HB.out)⟩⟩
    case round =>
     clear H'
     try clear c6
     try clear c6b0
     obtain ⟨x40_2,x1000_2,x199001_2,u199001,rfl,HA,HK2,HO_199000,HO_199001,BK197,BK198,HI0,HK,HB⟩:=hrel
     cases gk with
     | zero=>exact absurd HA.out (by simp [zal.l2])
     | succ k2 =>
      have H:=HA.out
      clear HA
      simp only [zal.l2] at H
      by_cases c42 : x40_2 < t218
      ·rw [if_pos c42] at H
       have c42b0 : decide (x40_2 < t218) = true:=decide_eq_true c42
       clear c42
       replace H:=Option.bind_eq_some_iff.mp H
       obtain ⟨⟨t220,t221⟩,A430,H⟩:=H
       replace H : ((zbg.f t221).bind fun bt222=>(if x199001_2.length < 4398046511104 then (zal.l2 k2 t218 (wrap64 (x40_2 + 1)) bt222.2 x199000_1 (x199001_2 ++ [(⟨t220,bt222.1⟩ : S39)])) else (none))) = some (r1,r2,r3,r4):=H
       have A43:=zac.mk A430
       clear A430
       replace H:=Option.bind_eq_some_iff.mp H
       obtain ⟨⟨t222,t223⟩,A440,H⟩:=H
       replace H : (if x199001_2.length < 4398046511104 then (zal.l2 k2 t218 (wrap64 (x40_2 + 1)) t223 x199000_1 (x199001_2 ++ [(⟨t220,t222⟩ : S39)])) else (none)) = some (r1,r2,r3,r4):=H
       have A44:=zac.mk A440
       clear A440
       by_cases c45 : x199001_2.length < 4398046511104
       ·rw [if_pos c45] at H
        have LMc45:=zac.mk c45
        clear c45
        obtain ⟨y224,hy224⟩ : ∃ y_ : List (S39),y_ = (x199001_2 ++ [(⟨t220,t222⟩ : S39)]):=⟨_,rfl⟩
        replace H : (zal.l2 k2 t218 (wrap64 (x40_2 + 1)) t223 x199000_1 y224) = some (r1,r2,r3,r4):=by first|(rw [hy224];with_reducible exact H)|(have H2_:=(Option.bind_some _ _).symm.trans H;rw [hy224];with_reducible exact H2_)|(have H2_:=(Option.bind_some _ _).symm.trans H;with_reducible exact H2_)|with_reducible exact H|(rw [hy224];exact H)|exact H
        have Ny224:=zac.mk hy224
        clear hy224
        have H':=zac.mk H
        clear H
        try go_wp2
        have n0_:=zac.mk (Kd.S_drew HO_199000.out)
        have n1_:=zac.mk (Kd.R_drew HO_199001.out)
        have n2_:=zac.mk (zak BK197.out)
        have n3_:=zac.mk (zak BK198.out)
        have n4_:=zac.mk (IsS88.drew HI0.out)
        have n5_:=zac.mk (zbp HK.out)
        have n6_:=zac.mk (zaf HB.out)
        clear HO_199000
        clear HO_199001
        clear BK197
        clear BK198
        clear HI0
        clear HK
        clear HB
        have HO_199000:=n0_
        have HO_199001:=n1_
        have BK197:=n2_
        have BK198:=n3_
        have HI0:=n4_
        have HK:=n5_
        have HB:=n6_
        clear n0_ n1_ n2_ n3_ n4_ n5_ n6_
        refine start_ (n:=11) (S:=fun w'=>w'.cell? ⟨gb198,0,none⟩ = some (u199000) ∧ w'.cell? ⟨gb198,1,none⟩ = some (u199001) ∧ w'.cell? ⟨gb198,2,none⟩ = some (.slice none 0 0)) (ds:=[10]) #[false,false,false,false,false,false,false,false,false,false,false] (by kernel_rfl) rfl rfl ⟨(zad BK198.out 0).trans rfl,(zad BK198.out 1).trans rfl,(zad BK198.out 2).trans rfl⟩ (fun hHeld=>?_);refine with_tabW zal.tab13 zal.bits13 (fun HT_ HW_=>?_)
        generalize wr.drew = w46 at HO_199000 HO_199001 BK197 BK198 HI0 HK HB hHeld ⊢
        refine pure_ (i:=0) (N:=some 42) (v:=?_) (a':=?_) #[true,false,false,false,false,false,false,false,false,false,false] rfl rfl (zbx HT_.out (by kernel_rfl)) (fun _ _ _ h=>h) (Or.inl ⟨by rfl,?_⟩) ?_ ?_
        rotate_left
        ·intro w'
         go_simp
         with_reducible rfl
        rotate_left
        ·simp only [Act.put,List.setIfInBounds_toArray,List.set_cons_zero,List.set_cons_succ,i64_w,i32_w]
         rfl
        refine pure_ (i:=2) (N:=some 44) (v:=?_) (a':=?_) #[true,false,true,false,false,false,false,false,false,false,false] rfl rfl (zbx HT_.out (by kernel_rfl)) (fun _ _ _ h=>h) (Or.inl ⟨by rfl,?_⟩) ?_ ?_
        rotate_left
        ·intro w'
         go_simp
         with_reducible rfl
        rotate_left
        ·simp only [Act.put,List.setIfInBounds_toArray,List.set_cons_zero,List.set_cons_succ,i64_w,i32_w]
         rfl
        refine pure_ (i:=4) (N:=some 46) (v:=?_) (a':=?_) #[true,false,true,false,true,false,false,false,false,false,false] rfl rfl (zbx HT_.out (by kernel_rfl)) (fun _ _ _ h=>h) (Or.inl ⟨by rfl,?_⟩) ?_ ?_
        rotate_left
        ·intro w'
         go_simp
         with_reducible rfl
        rotate_left
        ·simp only [Act.put,List.setIfInBounds_toArray,List.set_cons_zero,List.set_cons_succ,i64_w,i32_w]
         rfl
        refine take_ (i:=1) (N:=some 43) (v:=?_) (a':=?_) #[true,true,true,false,true,false,false,false,false,false,false] rfl rfl (take_ofW HT_.out HW_.out (by kernel_rfl)) (fun _ _ _ h=>h) (Or.inl ⟨by rfl,?_⟩) hHeld ?_ ?_
        rotate_left
        ·rintro w' ⟨s0,s1,s2⟩
         go_simp
         with_reducible rfl
        rotate_left
        ·simp only [Act.put,List.setIfInBounds_toArray,List.set_cons_zero,List.set_cons_succ,i64_w,i32_w]
         rfl
        refine one_ (i:=3) (N:=some 45) #[true,true,true,true,true,false,false,false,false,false,false] rfl rfl (one_of HT_.out (by kernel_rfl)) (by decide) (fun K hK=>?_)
        refine goes_ Try.func75 (by kernel_rfl) rfl #[.pointer (some ⟨g,0,none⟩)] (by rfl) rfl rfl (by (try simp only [List.map_toArray,List.map_cons,List.map_nil]);first|done|rfl|(simp only [List.length_drop,List.length_take];rfl)) ?_
        with_reducible refine (zbg.calls g x1000_2 t220 t221 w0 _ ?side1 ?side2 A43.out).mono ?_
        (case side1=>repeat (first|(with_reducible first|exact HI0.out|apply IsS88.alloc|apply IsS88.drewN|apply IsS88.drew|apply IsS88.set_0|refine IsS88.far ?_ NB0_197.out _|refine IsS88.far ?_ NB0_198.out _)|exact HI0.out))
        (case side2=>repeat (first|(with_reducible first|exact HB.out|apply zae|apply zab|apply zaf|refine zai ?_ (IsS88.ge HI0.out)|refine zai ?_ GE197.out|refine zai ?_ GE198.out)|exact HB.out))
        rintro e w47 ⟨rfl,hi,hb,hk⟩
        refine ⟨_,rfl,?_⟩
        have n0_:=zac.mk (Kd.S_mono (Kd.S_keep (IsS88.apartS (show IsS88 w0 _ g x1000_2 from by repeat (first|(with_reducible first|exact HI0.out|apply IsS88.alloc|apply IsS88.drewN|apply IsS88.drew|apply IsS88.set_0|refine IsS88.far ?_ NB0_197.out _|refine IsS88.far ?_ NB0_198.out _)|exact HI0.out)) (by (with_reducible repeat (first|apply Kd.S_alloc|apply Kd.S_drewN|apply Kd.S_drew));exact HO_199000.out) (by decide)) hk (fun _ h=>h.2)) (fun _ h=>h.1))
        have n1_:=zac.mk (Kd.R_mono (Kd.R_keep (IsS88.apart (show IsS88 w0 _ g x1000_2 from by repeat (first|(with_reducible first|exact HI0.out|apply IsS88.alloc|apply IsS88.drewN|apply IsS88.drew|apply IsS88.set_0|refine IsS88.far ?_ NB0_197.out _|refine IsS88.far ?_ NB0_198.out _)|exact HI0.out)) (by (with_reducible repeat (first|apply Kd.R_alloc|apply Kd.R_drewN|apply Kd.R_drew));exact HO_199001.out) (by decide)) hk (fun _ h=>h.2)) (fun _ h=>h.1))
        have n2_:=zac.mk (zax.blk hk (g':=gb197) (o:=.cells #[.slice none 0 0,.slice none 0 0,.slice none 0 0] 26 (0,0)) (by (with_reducible repeat (first|refine zah ?_ _|refine zak ?_|refine zag ?_ _));exact BK197.out) NB197_0.out (by simp))
        have n3_:=zac.mk (zax.blk hk (g':=gb198) (o:=.cells #[u199000,u199001,.slice none 0 0] 26 (0,0)) (by (with_reducible repeat (first|refine zah ?_ _|refine zak ?_|refine zag ?_ _));exact BK198.out) NB198_0.out (by simp))
        have n4_:=zac.mk (zax.trans (by repeat (first|(with_reducible first|exact HK.out|apply zax.set_|apply keep_drewN|apply zbp|apply keep_alloc|refine zbb ?_ GW197.out _|refine zbb ?_ GW198.out _)|exact HK.out)) hk (.inl rfl))
        have n5_:=zac.mk (hb)
        have n6_:=zac.mk (hi)
        clear HO_199000
        clear HO_199001
        clear BK197
        clear BK198
        clear HK
        clear HB
        clear HI0
        have HO_199000:=n0_
        have HO_199001:=n1_
        have BK197:=n2_
        have BK198:=n3_
        have HK:=n4_
        have HB:=n5_
        have HI0:=n6_
        clear n0_ n1_ n2_ n3_ n4_ n5_ n6_
        (try clear hb)
        (try clear hb2)
        (try clear hk)
        (try clear hi)
        refine hK.out _ _ ⟨(zad BK198.out 0).trans rfl,(zad BK198.out 1).trans rfl,(zad BK198.out 2).trans rfl⟩ (fun hHeld=>?_)
        clear hK K
        refine norm_ (a':=?_) ?_ ?_
        rotate_left
        ·show Act.put _ (some 45) _ = _
         simp only [Act.put,List.setIfInBounds_toArray,List.set_cons_zero,List.set_cons_succ,i64_w,i32_w]
         rfl
        refine one_ (i:=5) (N:=some 47) #[true,true,true,true,true,true,false,false,false,false,false] rfl rfl (one_of HT_.out (by kernel_rfl)) (by decide) (fun K hK=>?_)
        refine goes_ Try.func75 (by kernel_rfl) rfl #[.pointer (some ⟨g,0,none⟩)] (by rfl) rfl rfl (by (try simp only [List.map_toArray,List.map_cons,List.map_nil]);first|done|rfl|(simp only [List.length_drop,List.length_take];rfl)) ?_
        with_reducible refine (zbg.calls g t221 t222 t223 w0 _ ?side1 ?side2 A44.out).mono ?_
        (case side1=>repeat (first|(with_reducible first|exact HI0.out|apply IsS88.alloc|apply IsS88.drewN|apply IsS88.drew|apply IsS88.set_0|refine IsS88.far ?_ NB0_197.out _|refine IsS88.far ?_ NB0_198.out _)|exact HI0.out))
        (case side2=>repeat (first|(with_reducible first|exact HB.out|apply zae|apply zab|apply zaf|refine zai ?_ (IsS88.ge HI0.out)|refine zai ?_ GE197.out|refine zai ?_ GE198.out)|exact HB.out))
        rintro e w48 ⟨rfl,hi,hb,hk⟩
        refine ⟨_,rfl,?_⟩
        have n0_:=zac.mk (Kd.S_mono (Kd.S_keep (IsS88.apartS (show IsS88 w0 _ g t221 from by repeat (first|(with_reducible first|exact HI0.out|apply IsS88.alloc|apply IsS88.drewN|apply IsS88.drew|apply IsS88.set_0|refine IsS88.far ?_ NB0_197.out _|refine IsS88.far ?_ NB0_198.out _)|exact HI0.out)) (by (with_reducible repeat (first|apply Kd.S_alloc|apply Kd.S_drewN|apply Kd.S_drew));exact HO_199000.out) (by decide)) hk (fun _ h=>h.2)) (fun _ h=>h.1))
        have n1_:=zac.mk (Kd.R_mono (Kd.R_keep (IsS88.apart (show IsS88 w0 _ g t221 from by repeat (first|(with_reducible first|exact HI0.out|apply IsS88.alloc|apply IsS88.drewN|apply IsS88.drew|apply IsS88.set_0|refine IsS88.far ?_ NB0_197.out _|refine IsS88.far ?_ NB0_198.out _)|exact HI0.out)) (by (with_reducible repeat (first|apply Kd.R_alloc|apply Kd.R_drewN|apply Kd.R_drew));exact HO_199001.out) (by decide)) hk (fun _ h=>h.2)) (fun _ h=>h.1))
        have n2_:=zac.mk (zax.blk hk (g':=gb197) (o:=.cells #[.slice none 0 0,.slice none 0 0,.slice none 0 0] 26 (0,0)) (by (with_reducible repeat (first|refine zah ?_ _|refine zak ?_|refine zag ?_ _));exact BK197.out) NB197_0.out (by simp))
        have n3_:=zac.mk (zax.blk hk (g':=gb198) (o:=.cells #[u199000,u199001,.slice none 0 0] 26 (0,0)) (by (with_reducible repeat (first|refine zah ?_ _|refine zak ?_|refine zag ?_ _));exact BK198.out) NB198_0.out (by simp))
        have n4_:=zac.mk (zax.trans (by repeat (first|(with_reducible first|exact HK.out|apply zax.set_|apply keep_drewN|apply zbp|apply keep_alloc|refine zbb ?_ GW197.out _|refine zbb ?_ GW198.out _)|exact HK.out)) hk (.inl rfl))
        have n5_:=zac.mk (hb)
        have n6_:=zac.mk (hi)
        clear HO_199000
        clear HO_199001
        clear BK197
        clear BK198
        clear HK
        clear HB
        clear HI0
        have HO_199000:=n0_
        have HO_199001:=n1_
        have BK197:=n2_
        have BK198:=n3_
        have HK:=n4_
        have HB:=n5_
        have HI0:=n6_
        clear n0_ n1_ n2_ n3_ n4_ n5_ n6_
        (try clear hb)
        (try clear hb2)
        (try clear hk)
        (try clear hi)
        refine hK.out _ _ ⟨(zad BK198.out 0).trans rfl,(zad BK198.out 1).trans rfl,(zad BK198.out 2).trans rfl⟩ (fun hHeld=>?_)
        clear hK K
        refine norm_ (a':=?_) ?_ ?_
        rotate_left
        ·show Act.put _ (some 47) _ = _
         simp only [Act.put,List.setIfInBounds_toArray,List.set_cons_zero,List.set_cons_succ,i64_w,i32_w]
         rfl
        refine pure_ (i:=6) (N:=some 48) (v:=?_) (a':=?_) #[true,true,true,true,true,true,true,false,false,false,false] rfl rfl (zbx HT_.out (by kernel_rfl)) (fun _ _ _ h=>h) (Or.inl ⟨by rfl,?_⟩) ?_ ?_
        rotate_left
        ·intro w'
         go_simp
         with_reducible rfl
        rotate_left
        ·simp only [Act.put,List.setIfInBounds_toArray,List.set_cons_zero,List.set_cons_succ,i64_w,i32_w]
         rfl
        refine one_ (i:=7) (N:=some 49) #[true,true,true,true,true,true,true,true,false,false,false] rfl rfl (one_of HT_.out (by kernel_rfl)) (by decide) (fun K hK=>?_)
        refine value_ (w1:=?_) (v:=?_) (by rfl) rfl ?_ ?_
        rotate_left 2
        ·go_simp
         constructor
         ·rfl
         ·rfl
        refine hK.out _ _ ⟨(zad (zag BK198.out _) 0).trans rfl,(zad (zag BK198.out _) 1).trans rfl,(zad (zag BK198.out _) 2).trans rfl⟩ (fun hHeld=>?_)
        clear hK K
        refine norm_ (a':=?_) ?_ ?_
        rotate_left
        ·show Act.put _ (some 49) _ = _
         simp only [Act.put,List.setIfInBounds_toArray,List.set_cons_zero,List.set_cons_succ,i64_w,i32_w]
         rfl
        refine one_ (i:=8) (N:=some 50) #[true,true,true,true,true,true,true,true,true,false,false] rfl rfl (one_of HT_.out (by kernel_rfl)) (by decide) (fun K hK=>?_)
        refine Kd.R_append_step k39 w.heap.size (by rfl) (.tmp 43) (.tmp 49) 23 39 (.agg #[(.string ⟨#[]⟩),(.string ⟨#[]⟩)]) 32 rfl Try.underlying23 info39 rfl (by decide) (by omega) u199001 x199001_2 (⟨t220,t222⟩ : S39) [.string t220,.string t222] (fun _=>True) (fun _=>False) rfl rfl ?aP (fun _ hk=>hk.elim) ?aF ?aO (Below.refl _ _) ?aS ?aL ?_
        (case aP=>exact k39_mkM _ _ _ (⟨t220,t222⟩ : S39))
        (case aF=>exact (fun _ _=>trivial))
        (case aO=>exact (by (with_reducible repeat (first|apply Kd.R_alloc|apply Kd.R_drewN|apply Kd.R_drew));exact HO_199001.out))
        (case aS=>exact (keep_size (w:=w) (g:=g) (row:=none) (by repeat (first|(with_reducible first|exact HK.out|apply zax.set_|apply keep_drewN|apply zbp|apply keep_alloc|refine zbb ?_ GW197.out _|refine zbb ?_ GW198.out _)|exact HK.out))))
        (case aL=>have:=LMc45.out;omega)
        intro v225 w49 ho hb hg hat
        rw [← Ny224.out] at ho
        have n0_:=zac.mk (Kd.S_over' (by (with_reducible repeat (first|apply Kd.S_alloc|apply Kd.S_drewN|apply Kd.S_drew));exact HO_199000.out) (Kd.R_typed (by (with_reducible repeat (first|apply Kd.R_alloc|apply Kd.R_drewN|apply Kd.R_drew));exact HO_199001.out)) (by decide) hg)
        have n1_:=zac.mk (zcj (g:=gb197) (o:=.cells #[.slice none 0 0,.slice none 0 0,.slice none 0 0] 26 (0,0)) (by (with_reducible repeat (first|refine zah ?_ _|refine zak ?_|refine zag ?_ _));exact BK197.out) hg (Kd.R_ne HO_199001.out BK197.out (by decide)))
        have n2_:=zac.mk (zcj (g:=gb198) (o:=.cells #[u199000,u199001,.slice none 0 0] 26 (0,0)) (by (with_reducible repeat (first|refine zah ?_ _|refine zak ?_|refine zag ?_ _));exact BK198.out) hg (Kd.R_ne HO_199001.out BK198.out (by decide)))
        have n3_:=zac.mk (IsS88.grown (by repeat (first|(with_reducible first|exact HI0.out|apply IsS88.alloc|apply IsS88.drewN|apply IsS88.drew|apply IsS88.set_0|refine IsS88.far ?_ NB0_197.out _|refine IsS88.far ?_ NB0_198.out _)|exact HI0.out)) hg (IsS88.own_ne HI0.out HO_199001.out (by decide)))
        have n4_:=zac.mk (below_weaken (by repeat (first|(with_reducible first|exact HB.out|apply zae|apply zab|apply zaf|refine zai ?_ (IsS88.ge HI0.out)|refine zai ?_ GE197.out|refine zai ?_ GE198.out)|exact HB.out)) HL.out hb)
        have n5_:=zac.mk (zax.trans (by repeat (first|(with_reducible first|exact HK.out|apply zax.set_|apply keep_drewN|apply zbp|apply keep_alloc|refine zbb ?_ GW197.out _|refine zbb ?_ GW198.out _)|exact HK.out)) (zax.of_grown hg g) (Kd.R_base2 HO_199001.out))
        have n6_:=zac.mk (ho)
        clear HO_199000
        clear BK197
        clear BK198
        clear HI0
        clear HB
        clear HK
        clear HO_199001
        have HO_199000:=n0_
        have BK197:=n1_
        have BK198:=n2_
        have HI0:=n3_
        have HB:=n4_
        have HK:=n5_
        have HO226:=n6_
        clear n0_ n1_ n2_ n3_ n4_ n5_ n6_
        clear ho hb hg hat
        obtain ⟨Ao50,co50,eo50⟩:=Kd.R_slice HO226.out
        (first|subst eo50|(injection eo50 with f1_ f2_ f3_;have f4_:=f1_.symm;have f5_:=f3_.symm;clear f1_ f2_ f3_;subst f4_;subst f5_))
        refine hK.out _ _ ⟨(zad BK198.out 0).trans rfl,(zad BK198.out 1).trans rfl,(zad BK198.out 2).trans rfl⟩ (fun hHeld=>?_)
        clear hK K
        refine norm_ (a':=?_) ?_ ?_
        rotate_left
        ·show Act.put _ (some 50) _ = _
         simp only [Act.put,List.setIfInBounds_toArray,List.set_cons_zero,List.set_cons_succ,i64_w,i32_w]
         rfl
        refine pure_ (i:=9) (N:=some 51) (v:=?_) (a':=?_) #[true,true,true,true,true,true,true,true,true,true,false] rfl rfl (zbx HT_.out (by kernel_rfl)) (fun _ _ _ h=>h) (Or.inl ⟨by rfl,?_⟩) ?_ ?_
        rotate_left
        ·intro w'
         go_simp
         with_reducible rfl
        rotate_left
        ·simp only [Act.put,List.setIfInBounds_toArray,List.set_cons_zero,List.set_cons_succ,i64_w,i32_w]
         rfl
        refine last_ (i:=10) (N:=none) #[true,true,true,true,true,true,true,true,true,true,true] rfl rfl (one_of HT_.out (by kernel_rfl)) (by decide) (fun K hK=>?_)
        have hs51 : w49.cell? ⟨gb198,1,none⟩ = some (u199001):=(zad BK198.out 1).trans rfl
        have hfs51:=zaa BK198.out 1
        have hns51_0:=NB197_198.out
        have hms51_0:=NB198_197.out
        refine skip_ (w1:=?_) (by rfl) rfl ?_ ?_
        rotate_left
        ·go_simp
         rfl
        refine hK.out _ _ ?_
        clear hK K
        refine done_ (done_of HT_.out (by kernel_rfl)) ?_
        try go_wp2
        go_roundg k2
        case measure=>have:=HK1.out;have:=HK2.out;omega
        case rel=>exact ⟨(wrap64 (x40_2 + 1)),(t223),(y224),(.slice Ao50 y224.length co50),(by first|rfl|(simp;done)|(simp [*];done)),H',⟨by have:=HK1.out;have:=HK2.out;omega⟩,⟨by (with_reducible repeat (first|apply Kd.S_alloc|apply Kd.S_drewN|apply Kd.S_drew));exact Kd.S_mono (Kd.S_far (p:=⟨gb198,1,none⟩) (Kd.S_types HO_199000.out BK198.out (by decide)) (fun _ hk=>hk.2) (.slice Ao50 y224.length co50)) (fun _ hk=>trivial)⟩,⟨by (with_reducible repeat (first|apply Kd.R_alloc|apply Kd.R_drewN|apply Kd.R_drew));exact Kd.R_mono (Kd.R_far (p:=⟨gb198,1,none⟩) (Kd.R_types HO226.out BK198.out (by decide)) (fun _ hk=>hk.2) (.slice Ao50 y224.length co50)) (fun _ hk=>trivial)⟩,⟨by (with_reducible repeat (first|refine zah ?_ _|refine zak ?_|refine zag ?_ _));refine zaz ?_ NB197_198.out _;(with_reducible repeat (first|refine zah ?_ _|refine zak ?_|refine zag ?_ _));exact BK197.out⟩,⟨by (with_reducible repeat (first|refine zah ?_ _|refine zak ?_|refine zag ?_ _));refine zaw (cs:=#[u199000,u199001,.slice none 0 0]) ?_ 1 _ rfl;(with_reducible repeat (first|refine zah ?_ _|refine zak ?_|refine zag ?_ _));exact BK198.out⟩,⟨by repeat (first|(with_reducible first|exact HI0.out|apply IsS88.alloc|apply IsS88.drewN|apply IsS88.drew|apply IsS88.set_0|refine IsS88.far ?_ NB0_197.out _|refine IsS88.far ?_ NB0_198.out _)|exact HI0.out)⟩,⟨by repeat (first|(with_reducible first|exact HK.out|apply zax.set_|apply keep_drewN|apply zbp|apply keep_alloc|refine zbb ?_ GW197.out _|refine zbb ?_ GW198.out _)|exact HK.out)⟩,⟨by repeat (first|(with_reducible first|exact HB.out|apply zae|apply zab|apply zaf|refine zai ?_ (IsS88.ge HI0.out)|refine zai ?_ GE197.out|refine zai ?_ GE198.out)|exact HB.out)⟩⟩
       ·rw [if_neg c45] at H
        exact absurd H (by simp)
      ·rw [if_neg c42] at H
       have c42b0 : decide (x40_2 < t218) = false:=decide_eq_false c42
       clear c42
       replace H:=Option.bind_eq_some_iff.mp H
       obtain ⟨⟨t227,t228⟩,A520,H⟩:=H
       replace H : (zal.l3 k2 t227 0 t228 x199000_1 x199001_2 ([] : List (S36))) = some (r1,r2,r3,r4):=H
       have A52:=zac.mk A520
       clear A520
       have H':=zac.mk H
       clear H
       go_wp2_with (first|((with_reducible refine zbe (f:=74) rfl ?_);refine zce (some 54) rfl rfl Try.func74 (by kernel_rfl) rfl #[.pointer (some ⟨g,0,none⟩),.int .i64 200] rfl (by (try simp only [List.map_toArray,List.map_cons,List.map_nil]);first|done|rfl|(simp only [List.length_drop,List.length_take];rfl)) ?_;(with_reducible refine (zbw.calls g x1000_2 200 t227 t228 w0 _ ?side1 ?side2 A52.out).mono ?_);(case side1=>repeat (first|(with_reducible first|exact HI0.out|apply IsS88.alloc|apply IsS88.drewN|apply IsS88.drew|apply IsS88.set_0|refine IsS88.far ?_ NB0_197.out _|refine IsS88.far ?_ NB0_198.out _)|exact HI0.out));(case side2=>repeat (first|(with_reducible first|exact HB.out|apply zae|apply zab|apply zaf|refine zai ?_ (IsS88.ge HI0.out)|refine zai ?_ GE197.out|refine zai ?_ GE198.out)|exact HB.out));rintro e w53 ⟨rfl,hi,hb,hk⟩;refine ⟨_,rfl,?_⟩;have n0_:=zac.mk (Kd.S_mono (Kd.S_keep (IsS88.apartS (show IsS88 w0 _ g x1000_2 from by repeat (first|(with_reducible first|exact HI0.out|apply IsS88.alloc|apply IsS88.drewN|apply IsS88.drew|apply IsS88.set_0|refine IsS88.far ?_ NB0_197.out _|refine IsS88.far ?_ NB0_198.out _)|exact HI0.out)) (by (with_reducible repeat (first|apply Kd.S_alloc|apply Kd.S_drewN|apply Kd.S_drew));exact HO_199000.out) (by decide)) hk (fun _ h=>h.2)) (fun _ h=>h.1));have n1_:=zac.mk (Kd.R_mono (Kd.R_keep (IsS88.apart (show IsS88 w0 _ g x1000_2 from by repeat (first|(with_reducible first|exact HI0.out|apply IsS88.alloc|apply IsS88.drewN|apply IsS88.drew|apply IsS88.set_0|refine IsS88.far ?_ NB0_197.out _|refine IsS88.far ?_ NB0_198.out _)|exact HI0.out)) (by (with_reducible repeat (first|apply Kd.R_alloc|apply Kd.R_drewN|apply Kd.R_drew));exact HO_199001.out) (by decide)) hk (fun _ h=>h.2)) (fun _ h=>h.1));have n2_:=zac.mk (zax.blk hk (g':=gb197) (o:=.cells #[.slice none 0 0,.slice none 0 0,.slice none 0 0] 26 (0,0)) (by (with_reducible repeat (first|refine zah ?_ _|refine zak ?_|refine zag ?_ _));exact BK197.out) NB197_0.out (by simp));have n3_:=zac.mk (zax.blk hk (g':=gb198) (o:=.cells #[u199000,u199001,.slice none 0 0] 26 (0,0)) (by (with_reducible repeat (first|refine zah ?_ _|refine zak ?_|refine zag ?_ _));exact BK198.out) NB198_0.out (by simp));have n4_:=zac.mk (zax.trans (by repeat (first|(with_reducible first|exact HK.out|apply zax.set_|apply keep_drewN|apply zbp|apply keep_alloc|refine zbb ?_ GW197.out _|refine zbb ?_ GW198.out _)|exact HK.out)) hk (.inl rfl));have n5_:=zac.mk (hb);have n6_:=zac.mk (hi);clear HO_199000;clear HO_199001;clear BK197;clear BK198;clear HK;clear HB;clear HI0;have HO_199000:=n0_;have HO_199001:=n1_;have BK197:=n2_;have BK198:=n3_;have HK:=n4_;have HB:=n5_;have HI0:=n6_;clear n0_ n1_ n2_ n3_ n4_ n5_ n6_;(try clear hb);(try clear hb2);(try clear hk);(try clear hi)))
       go_loopg [55] k2 (fun kq v55 w'=>∃ (x55_3 : Int) (x1000_3 : (List Int × Bool)) (x199002_3 : List (S36)) (u199002 : Value),v55 = .int .i64 x55_3 ∧ zac (zal.l3 kq t227 x55_3 x1000_3 x199000_1 x199001_2 x199002_3 = some (r1,r2,r3,r4)) ∧ zac (kq ≤ k2) ∧ zac (Kd.S k42 42 w' w.heap.size (fun _=>True) u199000 x199000_1) ∧ zac (Kd.R k39 39 w' w.heap.size (fun _=>True) u199001 x199001_2) ∧ zac (Kd.R k36 36 w' w.heap.size (fun _=>True) u199002 x199002_3) ∧ zac (w'.heap[gb197]? = some (.cells #[(.slice none 0 0),(.slice none 0 0),(.slice none 0 0)] 26 (0,0))) ∧ zac (w'.heap[gb198]? = some (.cells #[u199000,u199001,u199002] 26 (0,0))) ∧ zac (IsS88 w0 w' g x1000_3) ∧ zac (zax w w' g none) ∧ zac (Below w0.heap.size w0 w'))
       case atStart=>exact ⟨(0),(t228),(([] : List (S36))),(.slice none 0 0),(by first|rfl|(simp;done)|(simp [*];done)),H',⟨Nat.le_refl _⟩,⟨by (with_reducible repeat (first|apply Kd.S_alloc|apply Kd.S_drewN|apply Kd.S_drew));exact HO_199000.out⟩,⟨by (with_reducible repeat (first|apply Kd.R_alloc|apply Kd.R_drewN|apply Kd.R_drew));exact HO_199001.out⟩,⟨by first|exact Kd.R_nil _ _ _ _ _|exact Kd.N_nil _ _ _ _ _|exact Kd.V_nil _ _ _ _ _|exact Kd.Q_nil _ _ _ _ _|exact Kd.S_nil _ _ _ _ _⟩,⟨by (with_reducible repeat (first|refine zah ?_ _|refine zak ?_|refine zag ?_ _));exact BK197.out⟩,⟨by (with_reducible repeat (first|refine zah ?_ _|refine zak ?_|refine zag ?_ _));exact BK198.out⟩,⟨by repeat (first|(with_reducible first|exact HI0.out|apply IsS88.alloc|apply IsS88.drewN|apply IsS88.drew|apply IsS88.set_0|refine IsS88.far ?_ NB0_197.out _|refine IsS88.far ?_ NB0_198.out _)|exact HI0.out)⟩,⟨by repeat (first|(with_reducible first|exact HK.out|apply zax.set_|apply keep_drewN|apply zbp|apply keep_alloc|refine zbb ?_ GW197.out _|refine zbb ?_ GW198.out _)|exact HK.out)⟩,⟨by repeat (first|(with_reducible first|exact HB.out|apply zae|apply zab|apply zaf|refine zai ?_ (IsS88.ge HI0.out)|refine zai ?_ GE197.out|refine zai ?_ GE198.out)|exact HB.out)⟩⟩
       case round =>
        clear H'
        try clear c6
        try clear c6b0
        try clear c42
        try clear c42b0
        obtain ⟨x55_3,x1000_3,x199002_3,u199002,rfl,HA,HK3,HO_199000,HO_199001,HO_199002,BK197,BK198,HI0,HK,HB⟩:=hrel
        cases gk with
        | zero=>exact absurd HA.out (by simp [zal.l3])
        | succ k3 =>
         have H:=HA.out
         clear HA
         simp only [zal.l3] at H
         by_cases c54 : x55_3 < t227
         ·rw [if_pos c54] at H
          have c54b0 : decide (x55_3 < t227) = true:=decide_eq_true c54
          clear c54
          replace H:=Option.bind_eq_some_iff.mp H
          obtain ⟨⟨t229,t230⟩,A550,H⟩:=H
          replace H : ((zbg.f t230).bind fun bt231=>((zbg.f bt231.2).bind fun bt233=>((zbl.f bt233.2).bind fun bt235=>((zbl.f bt235.2).bind fun bt237=>((zbg.f bt237.2).bind fun bt239=>(zal.l4 k3 t227 x55_3 0 bt239.2 x199000_1 x199001_2 x199002_3 t229 bt231.1 bt233.1 bt235.1 bt237.1 bt239.1 0 0 0)))))) = some (r1,r2,r3,r4):=H
          have A55:=zac.mk A550
          clear A550
          replace H:=Option.bind_eq_some_iff.mp H
          obtain ⟨⟨t231,t232⟩,A560,H⟩:=H
          replace H : ((zbg.f t232).bind fun bt233=>((zbl.f bt233.2).bind fun bt235=>((zbl.f bt235.2).bind fun bt237=>((zbg.f bt237.2).bind fun bt239=>(zal.l4 k3 t227 x55_3 0 bt239.2 x199000_1 x199001_2 x199002_3 t229 t231 bt233.1 bt235.1 bt237.1 bt239.1 0 0 0))))) = some (r1,r2,r3,r4):=H
          have A56:=zac.mk A560
          clear A560
          replace H:=Option.bind_eq_some_iff.mp H
          obtain ⟨⟨t233,t234⟩,A570,H⟩:=H
          replace H : ((zbl.f t234).bind fun bt235=>((zbl.f bt235.2).bind fun bt237=>((zbg.f bt237.2).bind fun bt239=>(zal.l4 k3 t227 x55_3 0 bt239.2 x199000_1 x199001_2 x199002_3 t229 t231 t233 bt235.1 bt237.1 bt239.1 0 0 0)))) = some (r1,r2,r3,r4):=H
          have A57:=zac.mk A570
          clear A570
          replace H:=Option.bind_eq_some_iff.mp H
          obtain ⟨⟨t235,t236⟩,A580,H⟩:=H
          replace H : ((zbl.f t236).bind fun bt237=>((zbg.f bt237.2).bind fun bt239=>(zal.l4 k3 t227 x55_3 0 bt239.2 x199000_1 x199001_2 x199002_3 t229 t231 t233 t235 bt237.1 bt239.1 0 0 0))) = some (r1,r2,r3,r4):=H
          have A58:=zac.mk A580
          clear A580
          replace H:=Option.bind_eq_some_iff.mp H
          obtain ⟨⟨t237,t238⟩,A590,H⟩:=H
          replace H : ((zbg.f t238).bind fun bt239=>(zal.l4 k3 t227 x55_3 0 bt239.2 x199000_1 x199001_2 x199002_3 t229 t231 t233 t235 t237 bt239.1 0 0 0)) = some (r1,r2,r3,r4):=H
          have A59:=zac.mk A590
          clear A590
          replace H:=Option.bind_eq_some_iff.mp H
          obtain ⟨⟨t239,t240⟩,A600,H⟩:=H
          replace H : (zal.l4 k3 t227 x55_3 0 t240 x199000_1 x199001_2 x199002_3 t229 t231 t233 t235 t237 t239 0 0 0) = some (r1,r2,r3,r4):=H
          have A60:=zac.mk A600
          clear A600
          have H':=zac.mk H
          clear H
          go_wp2_with (first|((with_reducible refine zbe (f:=75) rfl ?_);refine zce (some 58) rfl rfl Try.func75 (by kernel_rfl) rfl #[.pointer (some ⟨g,0,none⟩)] rfl (by (try simp only [List.map_toArray,List.map_cons,List.map_nil]);first|done|rfl|(simp only [List.length_drop,List.length_take];rfl)) ?_;(with_reducible refine (zbg.calls g x1000_3 t229 t230 w0 _ ?side1 ?side2 A55.out).mono ?_);(case side1=>repeat (first|(with_reducible first|exact HI0.out|apply IsS88.alloc|apply IsS88.drewN|apply IsS88.drew|apply IsS88.set_0|refine IsS88.far ?_ NB0_197.out _|refine IsS88.far ?_ NB0_198.out _)|exact HI0.out));(case side2=>repeat (first|(with_reducible first|exact HB.out|apply zae|apply zab|apply zaf|refine zai ?_ (IsS88.ge HI0.out)|refine zai ?_ GE197.out|refine zai ?_ GE198.out)|exact HB.out));rintro e w61 ⟨rfl,hi,hb,hk⟩;refine ⟨_,rfl,?_⟩;have n0_:=zac.mk (Kd.S_mono (Kd.S_keep (IsS88.apartS (show IsS88 w0 _ g x1000_3 from by repeat (first|(with_reducible first|exact HI0.out|apply IsS88.alloc|apply IsS88.drewN|apply IsS88.drew|apply IsS88.set_0|refine IsS88.far ?_ NB0_197.out _|refine IsS88.far ?_ NB0_198.out _)|exact HI0.out)) (by (with_reducible repeat (first|apply Kd.S_alloc|apply Kd.S_drewN|apply Kd.S_drew));exact HO_199000.out) (by decide)) hk (fun _ h=>h.2)) (fun _ h=>h.1));have n1_:=zac.mk (Kd.R_mono (Kd.R_keep (IsS88.apart (show IsS88 w0 _ g x1000_3 from by repeat (first|(with_reducible first|exact HI0.out|apply IsS88.alloc|apply IsS88.drewN|apply IsS88.drew|apply IsS88.set_0|refine IsS88.far ?_ NB0_197.out _|refine IsS88.far ?_ NB0_198.out _)|exact HI0.out)) (by (with_reducible repeat (first|apply Kd.R_alloc|apply Kd.R_drewN|apply Kd.R_drew));exact HO_199001.out) (by decide)) hk (fun _ h=>h.2)) (fun _ h=>h.1));have n2_:=zac.mk (Kd.R_mono (Kd.R_keep (IsS88.apart (show IsS88 w0 _ g x1000_3 from by repeat (first|(with_reducible first|exact HI0.out|apply IsS88.alloc|apply IsS88.drewN|apply IsS88.drew|apply IsS88.set_0|refine IsS88.far ?_ NB0_197.out _|refine IsS88.far ?_ NB0_198.out _)|exact HI0.out)) (by (with_reducible repeat (first|apply Kd.R_alloc|apply Kd.R_drewN|apply Kd.R_drew));exact HO_199002.out) (by decide)) hk (fun _ h=>h.2)) (fun _ h=>h.1));have n3_:=zac.mk (zax.blk hk (g':=gb197) (o:=.cells #[.slice none 0 0,.slice none 0 0,.slice none 0 0] 26 (0,0)) (by (with_reducible repeat (first|refine zah ?_ _|refine zak ?_|refine zag ?_ _));exact BK197.out) NB197_0.out (by simp));have n4_:=zac.mk (zax.blk hk (g':=gb198) (o:=.cells #[u199000,u199001,u199002] 26 (0,0)) (by (with_reducible repeat (first|refine zah ?_ _|refine zak ?_|refine zag ?_ _));exact BK198.out) NB198_0.out (by simp));have n5_:=zac.mk (zax.trans (by repeat (first|(with_reducible first|exact HK.out|apply zax.set_|apply keep_drewN|apply zbp|apply keep_alloc|refine zbb ?_ GW197.out _|refine zbb ?_ GW198.out _)|exact HK.out)) hk (.inl rfl));have n6_:=zac.mk (hb);have n7_:=zac.mk (hi);clear HO_199000;clear HO_199001;clear HO_199002;clear BK197;clear BK198;clear HK;clear HB;clear HI0;have HO_199000:=n0_;have HO_199001:=n1_;have HO_199002:=n2_;have BK197:=n3_;have BK198:=n4_;have HK:=n5_;have HB:=n6_;have HI0:=n7_;clear n0_ n1_ n2_ n3_ n4_ n5_ n6_ n7_;(try clear hb);(try clear hb2);(try clear hk);(try clear hi))|((with_reducible refine zbe (f:=75) rfl ?_);refine zce (some 60) rfl rfl Try.func75 (by kernel_rfl) rfl #[.pointer (some ⟨g,0,none⟩)] rfl (by (try simp only [List.map_toArray,List.map_cons,List.map_nil]);first|done|rfl|(simp only [List.length_drop,List.length_take];rfl)) ?_;(with_reducible refine (zbg.calls g t230 t231 t232 w0 _ ?side1 ?side2 A56.out).mono ?_);(case side1=>repeat (first|(with_reducible first|exact HI0.out|apply IsS88.alloc|apply IsS88.drewN|apply IsS88.drew|apply IsS88.set_0|refine IsS88.far ?_ NB0_197.out _|refine IsS88.far ?_ NB0_198.out _)|exact HI0.out));(case side2=>repeat (first|(with_reducible first|exact HB.out|apply zae|apply zab|apply zaf|refine zai ?_ (IsS88.ge HI0.out)|refine zai ?_ GE197.out|refine zai ?_ GE198.out)|exact HB.out));rintro e w62 ⟨rfl,hi,hb,hk⟩;refine ⟨_,rfl,?_⟩;have n0_:=zac.mk (Kd.S_mono (Kd.S_keep (IsS88.apartS (show IsS88 w0 _ g t230 from by repeat (first|(with_reducible first|exact HI0.out|apply IsS88.alloc|apply IsS88.drewN|apply IsS88.drew|apply IsS88.set_0|refine IsS88.far ?_ NB0_197.out _|refine IsS88.far ?_ NB0_198.out _)|exact HI0.out)) (by (with_reducible repeat (first|apply Kd.S_alloc|apply Kd.S_drewN|apply Kd.S_drew));exact HO_199000.out) (by decide)) hk (fun _ h=>h.2)) (fun _ h=>h.1));have n1_:=zac.mk (Kd.R_mono (Kd.R_keep (IsS88.apart (show IsS88 w0 _ g t230 from by repeat (first|(with_reducible first|exact HI0.out|apply IsS88.alloc|apply IsS88.drewN|apply IsS88.drew|apply IsS88.set_0|refine IsS88.far ?_ NB0_197.out _|refine IsS88.far ?_ NB0_198.out _)|exact HI0.out)) (by (with_reducible repeat (first|apply Kd.R_alloc|apply Kd.R_drewN|apply Kd.R_drew));exact HO_199001.out) (by decide)) hk (fun _ h=>h.2)) (fun _ h=>h.1));have n2_:=zac.mk (Kd.R_mono (Kd.R_keep (IsS88.apart (show IsS88 w0 _ g t230 from by repeat (first|(with_reducible first|exact HI0.out|apply IsS88.alloc|apply IsS88.drewN|apply IsS88.drew|apply IsS88.set_0|refine IsS88.far ?_ NB0_197.out _|refine IsS88.far ?_ NB0_198.out _)|exact HI0.out)) (by (with_reducible repeat (first|apply Kd.R_alloc|apply Kd.R_drewN|apply Kd.R_drew));exact HO_199002.out) (by decide)) hk (fun _ h=>h.2)) (fun _ h=>h.1));have n3_:=zac.mk (zax.blk hk (g':=gb197) (o:=.cells #[.slice none 0 0,.slice none 0 0,.slice none 0 0] 26 (0,0)) (by (with_reducible repeat (first|refine zah ?_ _|refine zak ?_|refine zag ?_ _));exact BK197.out) NB197_0.out (by simp));have n4_:=zac.mk (zax.blk hk (g':=gb198) (o:=.cells #[u199000,u199001,u199002] 26 (0,0)) (by (with_reducible repeat (first|refine zah ?_ _|refine zak ?_|refine zag ?_ _));exact BK198.out) NB198_0.out (by simp));have n5_:=zac.mk (zax.trans (by repeat (first|(with_reducible first|exact HK.out|apply zax.set_|apply keep_drewN|apply zbp|apply keep_alloc|refine zbb ?_ GW197.out _|refine zbb ?_ GW198.out _)|exact HK.out)) hk (.inl rfl));have n6_:=zac.mk (hb);have n7_:=zac.mk (hi);clear HO_199000;clear HO_199001;clear HO_199002;clear BK197;clear BK198;clear HK;clear HB;clear HI0;have HO_199000:=n0_;have HO_199001:=n1_;have HO_199002:=n2_;have BK197:=n3_;have BK198:=n4_;have HK:=n5_;have HB:=n6_;have HI0:=n7_;clear n0_ n1_ n2_ n3_ n4_ n5_ n6_ n7_;(try clear hb);(try clear hb2);(try clear hk);(try clear hi))|((with_reducible refine zbe (f:=75) rfl ?_);refine zce (some 62) rfl rfl Try.func75 (by kernel_rfl) rfl #[.pointer (some ⟨g,0,none⟩)] rfl (by (try simp only [List.map_toArray,List.map_cons,List.map_nil]);first|done|rfl|(simp only [List.length_drop,List.length_take];rfl)) ?_;(with_reducible refine (zbg.calls g t232 t233 t234 w0 _ ?side1 ?side2 A57.out).mono ?_);(case side1=>repeat (first|(with_reducible first|exact HI0.out|apply IsS88.alloc|apply IsS88.drewN|apply IsS88.drew|apply IsS88.set_0|refine IsS88.far ?_ NB0_197.out _|refine IsS88.far ?_ NB0_198.out _)|exact HI0.out));(case side2=>repeat (first|(with_reducible first|exact HB.out|apply zae|apply zab|apply zaf|refine zai ?_ (IsS88.ge HI0.out)|refine zai ?_ GE197.out|refine zai ?_ GE198.out)|exact HB.out));rintro e w63 ⟨rfl,hi,hb,hk⟩;refine ⟨_,rfl,?_⟩;have n0_:=zac.mk (Kd.S_mono (Kd.S_keep (IsS88.apartS (show IsS88 w0 _ g t232 from by repeat (first|(with_reducible first|exact HI0.out|apply IsS88.alloc|apply IsS88.drewN|apply IsS88.drew|apply IsS88.set_0|refine IsS88.far ?_ NB0_197.out _|refine IsS88.far ?_ NB0_198.out _)|exact HI0.out)) (by (with_reducible repeat (first|apply Kd.S_alloc|apply Kd.S_drewN|apply Kd.S_drew));exact HO_199000.out) (by decide)) hk (fun _ h=>h.2)) (fun _ h=>h.1));have n1_:=zac.mk (Kd.R_mono (Kd.R_keep (IsS88.apart (show IsS88 w0 _ g t232 from by repeat (first|(with_reducible first|exact HI0.out|apply IsS88.alloc|apply IsS88.drewN|apply IsS88.drew|apply IsS88.set_0|refine IsS88.far ?_ NB0_197.out _|refine IsS88.far ?_ NB0_198.out _)|exact HI0.out)) (by (with_reducible repeat (first|apply Kd.R_alloc|apply Kd.R_drewN|apply Kd.R_drew));exact HO_199001.out) (by decide)) hk (fun _ h=>h.2)) (fun _ h=>h.1));have n2_:=zac.mk (Kd.R_mono (Kd.R_keep (IsS88.apart (show IsS88 w0 _ g t232 from by repeat (first|(with_reducible first|exact HI0.out|apply IsS88.alloc|apply IsS88.drewN|apply IsS88.drew|apply IsS88.set_0|refine IsS88.far ?_ NB0_197.out _|refine IsS88.far ?_ NB0_198.out _)|exact HI0.out)) (by (with_reducible repeat (first|apply Kd.R_alloc|apply Kd.R_drewN|apply Kd.R_drew));exact HO_199002.out) (by decide)) hk (fun _ h=>h.2)) (fun _ h=>h.1));have n3_:=zac.mk (zax.blk hk (g':=gb197) (o:=.cells #[.slice none 0 0,.slice none 0 0,.slice none 0 0] 26 (0,0)) (by (with_reducible repeat (first|refine zah ?_ _|refine zak ?_|refine zag ?_ _));exact BK197.out) NB197_0.out (by simp));have n4_:=zac.mk (zax.blk hk (g':=gb198) (o:=.cells #[u199000,u199001,u199002] 26 (0,0)) (by (with_reducible repeat (first|refine zah ?_ _|refine zak ?_|refine zag ?_ _));exact BK198.out) NB198_0.out (by simp));have n5_:=zac.mk (zax.trans (by repeat (first|(with_reducible first|exact HK.out|apply zax.set_|apply keep_drewN|apply zbp|apply keep_alloc|refine zbb ?_ GW197.out _|refine zbb ?_ GW198.out _)|exact HK.out)) hk (.inl rfl));have n6_:=zac.mk (hb);have n7_:=zac.mk (hi);clear HO_199000;clear HO_199001;clear HO_199002;clear BK197;clear BK198;clear HK;clear HB;clear HI0;have HO_199000:=n0_;have HO_199001:=n1_;have HO_199002:=n2_;have BK197:=n3_;have BK198:=n4_;have HK:=n5_;have HB:=n6_;have HI0:=n7_;clear n0_ n1_ n2_ n3_ n4_ n5_ n6_ n7_;(try clear hb);(try clear hb2);(try clear hk);(try clear hi))|((with_reducible refine zbe (f:=77) rfl ?_);refine zce (some 64) rfl rfl Try.func77 (by kernel_rfl) rfl #[.pointer (some ⟨g,0,none⟩)] rfl (by (try simp only [List.map_toArray,List.map_cons,List.map_nil]);first|done|rfl|(simp only [List.length_drop,List.length_take];rfl)) ?_;(with_reducible refine (zbl.calls g t234 t235 t236 w0 _ ?side1 ?side2 A58.out).mono ?_);(case side1=>repeat (first|(with_reducible first|exact HI0.out|apply IsS88.alloc|apply IsS88.drewN|apply IsS88.drew|apply IsS88.set_0|refine IsS88.far ?_ NB0_197.out _|refine IsS88.far ?_ NB0_198.out _)|exact HI0.out));(case side2=>repeat (first|(with_reducible first|exact HB.out|apply zae|apply zab|apply zaf|refine zai ?_ (IsS88.ge HI0.out)|refine zai ?_ GE197.out|refine zai ?_ GE198.out)|exact HB.out));rintro e w64 ⟨rfl,hi,hb,hk⟩;refine ⟨_,rfl,?_⟩;have n0_:=zac.mk (Kd.S_mono (Kd.S_keep (IsS88.apartS (show IsS88 w0 _ g t234 from by repeat (first|(with_reducible first|exact HI0.out|apply IsS88.alloc|apply IsS88.drewN|apply IsS88.drew|apply IsS88.set_0|refine IsS88.far ?_ NB0_197.out _|refine IsS88.far ?_ NB0_198.out _)|exact HI0.out)) (by (with_reducible repeat (first|apply Kd.S_alloc|apply Kd.S_drewN|apply Kd.S_drew));exact HO_199000.out) (by decide)) hk (fun _ h=>h.2)) (fun _ h=>h.1));have n1_:=zac.mk (Kd.R_mono (Kd.R_keep (IsS88.apart (show IsS88 w0 _ g t234 from by repeat (first|(with_reducible first|exact HI0.out|apply IsS88.alloc|apply IsS88.drewN|apply IsS88.drew|apply IsS88.set_0|refine IsS88.far ?_ NB0_197.out _|refine IsS88.far ?_ NB0_198.out _)|exact HI0.out)) (by (with_reducible repeat (first|apply Kd.R_alloc|apply Kd.R_drewN|apply Kd.R_drew));exact HO_199001.out) (by decide)) hk (fun _ h=>h.2)) (fun _ h=>h.1));have n2_:=zac.mk (Kd.R_mono (Kd.R_keep (IsS88.apart (show IsS88 w0 _ g t234 from by repeat (first|(with_reducible first|exact HI0.out|apply IsS88.alloc|apply IsS88.drewN|apply IsS88.drew|apply IsS88.set_0|refine IsS88.far ?_ NB0_197.out _|refine IsS88.far ?_ NB0_198.out _)|exact HI0.out)) (by (with_reducible repeat (first|apply Kd.R_alloc|apply Kd.R_drewN|apply Kd.R_drew));exact HO_199002.out) (by decide)) hk (fun _ h=>h.2)) (fun _ h=>h.1));have n3_:=zac.mk (zax.blk hk (g':=gb197) (o:=.cells #[.slice none 0 0,.slice none 0 0,.slice none 0 0] 26 (0,0)) (by (with_reducible repeat (first|refine zah ?_ _|refine zak ?_|refine zag ?_ _));exact BK197.out) NB197_0.out (by simp));have n4_:=zac.mk (zax.blk hk (g':=gb198) (o:=.cells #[u199000,u199001,u199002] 26 (0,0)) (by (with_reducible repeat (first|refine zah ?_ _|refine zak ?_|refine zag ?_ _));exact BK198.out) NB198_0.out (by simp));have n5_:=zac.mk (zax.trans (by repeat (first|(with_reducible first|exact HK.out|apply zax.set_|apply keep_drewN|apply zbp|apply keep_alloc|refine zbb ?_ GW197.out _|refine zbb ?_ GW198.out _)|exact HK.out)) hk (.inl rfl));have n6_:=zac.mk (hb);have n7_:=zac.mk (hi);clear HO_199000;clear HO_199001;clear HO_199002;clear BK197;clear BK198;clear HK;clear HB;clear HI0;have HO_199000:=n0_;have HO_199001:=n1_;have HO_199002:=n2_;have BK197:=n3_;have BK198:=n4_;have HK:=n5_;have HB:=n6_;have HI0:=n7_;clear n0_ n1_ n2_ n3_ n4_ n5_ n6_ n7_;(try clear hb);(try clear hb2);(try clear hk);(try clear hi))|((with_reducible refine zbe (f:=77) rfl ?_);refine zce (some 66) rfl rfl Try.func77 (by kernel_rfl) rfl #[.pointer (some ⟨g,0,none⟩)] rfl (by (try simp only [List.map_toArray,List.map_cons,List.map_nil]);first|done|rfl|(simp only [List.length_drop,List.length_take];rfl)) ?_;(with_reducible refine (zbl.calls g t236 t237 t238 w0 _ ?side1 ?side2 A59.out).mono ?_);(case side1=>repeat (first|(with_reducible first|exact HI0.out|apply IsS88.alloc|apply IsS88.drewN|apply IsS88.drew|apply IsS88.set_0|refine IsS88.far ?_ NB0_197.out _|refine IsS88.far ?_ NB0_198.out _)|exact HI0.out));(case side2=>repeat (first|(with_reducible first|exact HB.out|apply zae|apply zab|apply zaf|refine zai ?_ (IsS88.ge HI0.out)|refine zai ?_ GE197.out|refine zai ?_ GE198.out)|exact HB.out));rintro e w65 ⟨rfl,hi,hb,hk⟩;refine ⟨_,rfl,?_⟩;have n0_:=zac.mk (Kd.S_mono (Kd.S_keep (IsS88.apartS (show IsS88 w0 _ g t236 from by repeat (first|(with_reducible first|exact HI0.out|apply IsS88.alloc|apply IsS88.drewN|apply IsS88.drew|apply IsS88.set_0|refine IsS88.far ?_ NB0_197.out _|refine IsS88.far ?_ NB0_198.out _)|exact HI0.out)) (by (with_reducible repeat (first|apply Kd.S_alloc|apply Kd.S_drewN|apply Kd.S_drew));exact HO_199000.out) (by decide)) hk (fun _ h=>h.2)) (fun _ h=>h.1));have n1_:=zac.mk (Kd.R_mono (Kd.R_keep (IsS88.apart (show IsS88 w0 _ g t236 from by repeat (first|(with_reducible first|exact HI0.out|apply IsS88.alloc|apply IsS88.drewN|apply IsS88.drew|apply IsS88.set_0|refine IsS88.far ?_ NB0_197.out _|refine IsS88.far ?_ NB0_198.out _)|exact HI0.out)) (by (with_reducible repeat (first|apply Kd.R_alloc|apply Kd.R_drewN|apply Kd.R_drew));exact HO_199001.out) (by decide)) hk (fun _ h=>h.2)) (fun _ h=>h.1));have n2_:=zac.mk (Kd.R_mono (Kd.R_keep (IsS88.apart (show IsS88 w0 _ g t236 from by repeat (first|(with_reducible first|exact HI0.out|apply IsS88.alloc|apply IsS88.drewN|apply IsS88.drew|apply IsS88.set_0|refine IsS88.far ?_ NB0_197.out _|refine IsS88.far ?_ NB0_198.out _)|exact HI0.out)) (by (with_reducible repeat (first|apply Kd.R_alloc|apply Kd.R_drewN|apply Kd.R_drew));exact HO_199002.out) (by decide)) hk (fun _ h=>h.2)) (fun _ h=>h.1));have n3_:=zac.mk (zax.blk hk (g':=gb197) (o:=.cells #[.slice none 0 0,.slice none 0 0,.slice none 0 0] 26 (0,0)) (by (with_reducible repeat (first|refine zah ?_ _|refine zak ?_|refine zag ?_ _));exact BK197.out) NB197_0.out (by simp));have n4_:=zac.mk (zax.blk hk (g':=gb198) (o:=.cells #[u199000,u199001,u199002] 26 (0,0)) (by (with_reducible repeat (first|refine zah ?_ _|refine zak ?_|refine zag ?_ _));exact BK198.out) NB198_0.out (by simp));have n5_:=zac.mk (zax.trans (by repeat (first|(with_reducible first|exact HK.out|apply zax.set_|apply keep_drewN|apply zbp|apply keep_alloc|refine zbb ?_ GW197.out _|refine zbb ?_ GW198.out _)|exact HK.out)) hk (.inl rfl));have n6_:=zac.mk (hb);have n7_:=zac.mk (hi);clear HO_199000;clear HO_199001;clear HO_199002;clear BK197;clear BK198;clear HK;clear HB;clear HI0;have HO_199000:=n0_;have HO_199001:=n1_;have HO_199002:=n2_;have BK197:=n3_;have BK198:=n4_;have HK:=n5_;have HB:=n6_;have HI0:=n7_;clear n0_ n1_ n2_ n3_ n4_ n5_ n6_ n7_;(try clear hb);(try clear hb2);(try clear hk);(try clear hi))|((with_reducible refine zbe (f:=75) rfl ?_);refine zce (some 68) rfl rfl Try.func75 (by kernel_rfl) rfl #[.pointer (some ⟨g,0,none⟩)] rfl (by (try simp only [List.map_toArray,List.map_cons,List.map_nil]);first|done|rfl|(simp only [List.length_drop,List.length_take];rfl)) ?_;(with_reducible refine (zbg.calls g t238 t239 t240 w0 _ ?side1 ?side2 A60.out).mono ?_);(case side1=>repeat (first|(with_reducible first|exact HI0.out|apply IsS88.alloc|apply IsS88.drewN|apply IsS88.drew|apply IsS88.set_0|refine IsS88.far ?_ NB0_197.out _|refine IsS88.far ?_ NB0_198.out _)|exact HI0.out));(case side2=>repeat (first|(with_reducible first|exact HB.out|apply zae|apply zab|apply zaf|refine zai ?_ (IsS88.ge HI0.out)|refine zai ?_ GE197.out|refine zai ?_ GE198.out)|exact HB.out));rintro e w66 ⟨rfl,hi,hb,hk⟩;refine ⟨_,rfl,?_⟩;have n0_:=zac.mk (Kd.S_mono (Kd.S_keep (IsS88.apartS (show IsS88 w0 _ g t238 from by repeat (first|(with_reducible first|exact HI0.out|apply IsS88.alloc|apply IsS88.drewN|apply IsS88.drew|apply IsS88.set_0|refine IsS88.far ?_ NB0_197.out _|refine IsS88.far ?_ NB0_198.out _)|exact HI0.out)) (by (with_reducible repeat (first|apply Kd.S_alloc|apply Kd.S_drewN|apply Kd.S_drew));exact HO_199000.out) (by decide)) hk (fun _ h=>h.2)) (fun _ h=>h.1));have n1_:=zac.mk (Kd.R_mono (Kd.R_keep (IsS88.apart (show IsS88 w0 _ g t238 from by repeat (first|(with_reducible first|exact HI0.out|apply IsS88.alloc|apply IsS88.drewN|apply IsS88.drew|apply IsS88.set_0|refine IsS88.far ?_ NB0_197.out _|refine IsS88.far ?_ NB0_198.out _)|exact HI0.out)) (by (with_reducible repeat (first|apply Kd.R_alloc|apply Kd.R_drewN|apply Kd.R_drew));exact HO_199001.out) (by decide)) hk (fun _ h=>h.2)) (fun _ h=>h.1));have n2_:=zac.mk (Kd.R_mono (Kd.R_keep (IsS88.apart (show IsS88 w0 _ g t238 from by repeat (first|(with_reducible first|exact HI0.out|apply IsS88.alloc|apply IsS88.drewN|apply IsS88.drew|apply IsS88.set_0|refine IsS88.far ?_ NB0_197.out _|refine IsS88.far ?_ NB0_198.out _)|exact HI0.out)) (by (with_reducible repeat (first|apply Kd.R_alloc|apply Kd.R_drewN|apply Kd.R_drew));exact HO_199002.out) (by decide)) hk (fun _ h=>h.2)) (fun _ h=>h.1));have n3_:=zac.mk (zax.blk hk (g':=gb197) (o:=.cells #[.slice none 0 0,.slice none 0 0,.slice none 0 0] 26 (0,0)) (by (with_reducible repeat (first|refine zah ?_ _|refine zak ?_|refine zag ?_ _));exact BK197.out) NB197_0.out (by simp));have n4_:=zac.mk (zax.blk hk (g':=gb198) (o:=.cells #[u199000,u199001,u199002] 26 (0,0)) (by (with_reducible repeat (first|refine zah ?_ _|refine zak ?_|refine zag ?_ _));exact BK198.out) NB198_0.out (by simp));have n5_:=zac.mk (zax.trans (by repeat (first|(with_reducible first|exact HK.out|apply zax.set_|apply keep_drewN|apply zbp|apply keep_alloc|refine zbb ?_ GW197.out _|refine zbb ?_ GW198.out _)|exact HK.out)) hk (.inl rfl));have n6_:=zac.mk (hb);have n7_:=zac.mk (hi);clear HO_199000;clear HO_199001;clear HO_199002;clear BK197;clear BK198;clear HK;clear HB;clear HI0;have HO_199000:=n0_;have HO_199001:=n1_;have HO_199002:=n2_;have BK197:=n3_;have BK198:=n4_;have HK:=n5_;have HB:=n6_;have HI0:=n7_;clear n0_ n1_ n2_ n3_ n4_ n5_ n6_ n7_;(try clear hb);(try clear hb2);(try clear hk);(try clear hi))|((with_reducible refine zbh (N:=5) rfl ?_);refine zbf ?hg (N:=5) ?hd (cs:=#[.string (⟨#[]⟩ : ByteArray),.string (⟨#[]⟩ : ByteArray),.string (⟨#[]⟩ : ByteArray),.int .i64 0,.int .i64 0,.string (⟨#[]⟩ : ByteArray),.int .i64 0,.int .i64 0,.int .i64 0]) (t:=36) ?hr ?_;(case hd=>rfl);(case hg=>rfl);(case hr=>first|(go_simp;done)|(go_simp;rfl));intro gb241 hg w67 hbox hb;have n0_:=zac.mk (Kd.S_below (by (with_reducible repeat (first|apply Kd.S_alloc|apply Kd.S_drewN|apply Kd.S_drew));exact HO_199000.out) hb);have n1_:=zac.mk (Kd.R_below (by (with_reducible repeat (first|apply Kd.R_alloc|apply Kd.R_drewN|apply Kd.R_drew));exact HO_199001.out) hb);have n2_:=zac.mk (Kd.R_below (Kd.R_elderB (by (with_reducible repeat (first|apply Kd.R_alloc|apply Kd.R_drewN|apply Kd.R_drew));exact HO_199002.out) gb241 (Nat.le_of_eq hg.symm)) hb);have n3_:=zac.mk (zat (g:=gb197) (o:=.cells #[.slice none 0 0,.slice none 0 0,.slice none 0 0] 26 (0,0)) (by (with_reducible repeat (first|refine zah ?_ _|refine zak ?_|refine zag ?_ _));exact BK197.out) hb);have n4_:=zac.mk (zat (g:=gb198) (o:=.cells #[u199000,u199001,u199002] 26 (0,0)) (by (with_reducible repeat (first|refine zah ?_ _|refine zak ?_|refine zag ?_ _));exact BK198.out) hb);have n5_:=zac.mk (IsS88.below (by repeat (first|(with_reducible first|exact HI0.out|apply IsS88.alloc|apply IsS88.drewN|apply IsS88.drew|apply IsS88.set_0|refine IsS88.far ?_ NB0_197.out _|refine IsS88.far ?_ NB0_198.out _)|exact HI0.out)) hb);have n6_:=zac.mk (zax.trans (by repeat (first|(with_reducible first|exact HK.out|apply zax.set_|apply keep_drewN|apply zbp|apply keep_alloc|refine zbb ?_ GW197.out _|refine zbb ?_ GW198.out _)|exact HK.out)) (zax.of_below hb g none) (.inl rfl));have n7_:=zac.mk (zao (by repeat (first|(with_reducible first|exact HB.out|apply zae|apply zab|apply zaf|refine zai ?_ (IsS88.ge HI0.out)|refine zai ?_ GE197.out|refine zai ?_ GE198.out)|exact HB.out)) hb);have n8_:=zac.mk (hbox);have n9_:=zac.mk ((by rw [hg];exact (keep_size (w:=w) (g:=g) (row:=none) (by repeat (first|(with_reducible first|exact HK.out|apply zax.set_|apply keep_drewN|apply zbp|apply keep_alloc|refine zbb ?_ GW197.out _|refine zbb ?_ GW198.out _)|exact HK.out))) : w.heap.size ≤ gb241));have n10_:=zac.mk ((Nat.le_trans HW0.out (by rw [hg];exact (keep_size (w:=w) (g:=g) (row:=none) (by repeat (first|(with_reducible first|exact HK.out|apply zax.set_|apply keep_drewN|apply zbp|apply keep_alloc|refine zbb ?_ GW197.out _|refine zbb ?_ GW198.out _)|exact HK.out))) : w.heap.size ≤ gb241) : w0.heap.size ≤ gb241));have n11_:=zac.mk ((by rw [hg];exact Nat.ne_of_lt (zbq (g:=gb197) (o:=.cells #[.slice none 0 0,.slice none 0 0,.slice none 0 0] 26 (0,0)) (by (with_reducible repeat (first|refine zah ?_ _|refine zak ?_|refine zag ?_ _));exact BK197.out)) : gb197 ≠ gb241));have n12_:=zac.mk ((by rw [hg];exact Nat.ne_of_gt (zbq (g:=gb197) (o:=.cells #[.slice none 0 0,.slice none 0 0,.slice none 0 0] 26 (0,0)) (by (with_reducible repeat (first|refine zah ?_ _|refine zak ?_|refine zag ?_ _));exact BK197.out)) : gb241 ≠ gb197));have n13_:=zac.mk ((by rw [hg];exact Nat.ne_of_lt (zbq (g:=gb198) (o:=.cells #[u199000,u199001,u199002] 26 (0,0)) (by (with_reducible repeat (first|refine zah ?_ _|refine zak ?_|refine zag ?_ _));exact BK198.out)) : gb198 ≠ gb241));have n14_:=zac.mk ((by rw [hg];exact Nat.ne_of_gt (zbq (g:=gb198) (o:=.cells #[u199000,u199001,u199002] 26 (0,0)) (by (with_reducible repeat (first|refine zah ?_ _|refine zak ?_|refine zag ?_ _));exact BK198.out)) : gb241 ≠ gb198));have n15_:=zac.mk ((by rw [hg];exact Nat.ne_of_lt (IsS88.lt (show IsS88 w0 _ g t240 from by repeat (first|(with_reducible first|exact HI0.out|apply IsS88.alloc|apply IsS88.drewN|apply IsS88.drew|apply IsS88.set_0|refine IsS88.far ?_ NB0_197.out _|refine IsS88.far ?_ NB0_198.out _)|exact HI0.out))) : g ≠ gb241));have n16_:=zac.mk ((by rw [hg];exact Nat.ne_of_gt (IsS88.lt (show IsS88 w0 _ g t240 from by repeat (first|(with_reducible first|exact HI0.out|apply IsS88.alloc|apply IsS88.drewN|apply IsS88.drew|apply IsS88.set_0|refine IsS88.far ?_ NB0_197.out _|refine IsS88.far ?_ NB0_198.out _)|exact HI0.out))) : gb241 ≠ g));clear HO_199000;clear HO_199001;clear HO_199002;clear BK197;clear BK198;clear HI0;clear HK;clear HB;have HO_199000:=n0_;have HO_199001:=n1_;have HO_199002:=n2_;have BK197:=n3_;have BK198:=n4_;have HI0:=n5_;have HK:=n6_;have HB:=n7_;have BK241:=n8_;have GW241:=n9_;have GE241:=n10_;have NB197_241:=n11_;have NB241_197:=n12_;have NB198_241:=n13_;have NB241_198:=n14_;have NB0_241:=n15_;have NB241_0:=n16_;clear n0_ n1_ n2_ n3_ n4_ n5_ n6_ n7_ n8_ n9_ n10_ n11_ n12_ n13_ n14_ n15_ n16_;clear hb hbox hg;have hnb68:=NB241_197.out;have hnc68:=NB197_241.out;have hnb69:=NB241_198.out;have hnc69:=NB198_241.out;have hnb70:=NB241_0.out;have hnc70:=NB0_241.out;have hcz71_0 : w67.cell? ⟨gb241,0,none⟩ = some (.string (⟨#[]⟩ : ByteArray)):=(zad BK241.out 0).trans rfl;have hcz71_1 : w67.cell? ⟨gb241,1,none⟩ = some (.string (⟨#[]⟩ : ByteArray)):=(zad BK241.out 1).trans rfl;have hcz71_2 : w67.cell? ⟨gb241,2,none⟩ = some (.string (⟨#[]⟩ : ByteArray)):=(zad BK241.out 2).trans rfl;have hcz71_3 : w67.cell? ⟨gb241,3,none⟩ = some (.int .i64 0):=(zad BK241.out 3).trans rfl;have hcz71_4 : w67.cell? ⟨gb241,4,none⟩ = some (.int .i64 0):=(zad BK241.out 4).trans rfl;have hcz71_5 : w67.cell? ⟨gb241,5,none⟩ = some (.string (⟨#[]⟩ : ByteArray)):=(zad BK241.out 5).trans rfl;have hcz71_6 : w67.cell? ⟨gb241,6,none⟩ = some (.int .i64 0):=(zad BK241.out 6).trans rfl;have hcz71_7 : w67.cell? ⟨gb241,7,none⟩ = some (.int .i64 0):=(zad BK241.out 7).trans rfl;have hcz71_8 : w67.cell? ⟨gb241,8,none⟩ = some (.int .i64 0):=(zad BK241.out 8).trans rfl;have hfz71_0:=zaa BK241.out 0;have hfz71_1:=zaa BK241.out 1;have hfz71_2:=zaa BK241.out 2;have hfz71_3:=zaa BK241.out 3;have hfz71_4:=zaa BK241.out 4;have hfz71_5:=zaa BK241.out 5;have hfz71_6:=zaa BK241.out 6;have hfz71_7:=zaa BK241.out 7;have hfz71_8:=zaa BK241.out 8))
          go_loopg [70] k3 (fun kq v70 w'=>∃ (x70_4 : Int) (x1000_4 : (List Int × Bool)) (x242006_4 : Int) (x242007_4 : Int) (x242008_4 : Int),v70 = .int .i64 x70_4 ∧ zac (zal.l4 kq t227 x55_3 x70_4 x1000_4 x199000_1 x199001_2 x199002_3 t229 t231 t233 t235 t237 t239 x242006_4 x242007_4 x242008_4 = some (r1,r2,r3,r4)) ∧ zac (kq ≤ k3) ∧ zac (Kd.S k42 42 w' w.heap.size (fun _=>True) u199000 x199000_1) ∧ zac (Kd.R k39 39 w' w.heap.size (fun _=>True) u199001 x199001_2) ∧ zac (Kd.R k36 36 w' w.heap.size (fun k_=>k_ ≠ gb241) u199002 x199002_3) ∧ zac (w'.heap[gb197]? = some (.cells #[(.slice none 0 0),(.slice none 0 0),(.slice none 0 0)] 26 (0,0))) ∧ zac (w'.heap[gb198]? = some (.cells #[u199000,u199001,u199002] 26 (0,0))) ∧ zac (w'.heap[gb241]? = some (.cells #[.string t229,.string t231,.string t233,.int .i64 t235,.int .i64 t237,.string t239,.int .i64 x242006_4,.int .i64 x242007_4,.int .i64 x242008_4] 36 (0,0))) ∧ zac (IsS88 w0 w' g x1000_4) ∧ zac (zax w w' g none) ∧ zac (Below w0.heap.size w0 w'))
          case atStart=>exact ⟨(0),(t240),(0),(0),(0),(by first|rfl|(simp;done)|(simp [*];done)),H',⟨Nat.le_refl _⟩,⟨by (with_reducible repeat (first|apply Kd.S_alloc|apply Kd.S_drewN|apply Kd.S_drew));exact Kd.S_mono (Kd.S_far (p:=⟨gb241,8,none⟩) (Kd.S_far (p:=⟨gb241,7,none⟩) (Kd.S_far (p:=⟨gb241,6,none⟩) (Kd.S_far (p:=⟨gb241,5,none⟩) (Kd.S_far (p:=⟨gb241,4,none⟩) (Kd.S_far (p:=⟨gb241,3,none⟩) (Kd.S_far (p:=⟨gb241,2,none⟩) (Kd.S_far (p:=⟨gb241,1,none⟩) (Kd.S_far (p:=⟨gb241,0,none⟩) (Kd.S_types HO_199000.out BK241.out (by decide)) (fun _ hk=>hk.2) (.string t229)) (fun _ hk=>hk.2) (.string t231)) (fun _ hk=>hk.2) (.string t233)) (fun _ hk=>hk.2) (.int .i64 t235)) (fun _ hk=>hk.2) (.int .i64 t237)) (fun _ hk=>hk.2) (.string t239)) (fun _ hk=>hk.2) (.int .i64 0)) (fun _ hk=>hk.2) (.int .i64 0)) (fun _ hk=>hk.2) (.int .i64 0)) (fun _ hk=>trivial)⟩,⟨by (with_reducible repeat (first|apply Kd.R_alloc|apply Kd.R_drewN|apply Kd.R_drew));exact Kd.R_mono (Kd.R_far (p:=⟨gb241,8,none⟩) (Kd.R_far (p:=⟨gb241,7,none⟩) (Kd.R_far (p:=⟨gb241,6,none⟩) (Kd.R_far (p:=⟨gb241,5,none⟩) (Kd.R_far (p:=⟨gb241,4,none⟩) (Kd.R_far (p:=⟨gb241,3,none⟩) (Kd.R_far (p:=⟨gb241,2,none⟩) (Kd.R_far (p:=⟨gb241,1,none⟩) (Kd.R_far (p:=⟨gb241,0,none⟩) (Kd.R_types HO_199001.out BK241.out (by decide)) (fun _ hk=>hk.2) (.string t229)) (fun _ hk=>hk.2) (.string t231)) (fun _ hk=>hk.2) (.string t233)) (fun _ hk=>hk.2) (.int .i64 t235)) (fun _ hk=>hk.2) (.int .i64 t237)) (fun _ hk=>hk.2) (.string t239)) (fun _ hk=>hk.2) (.int .i64 0)) (fun _ hk=>hk.2) (.int .i64 0)) (fun _ hk=>hk.2) (.int .i64 0)) (fun _ hk=>trivial)⟩,⟨by (with_reducible repeat (first|apply Kd.R_alloc|apply Kd.R_drewN|apply Kd.R_drew));exact Kd.R_mono (Kd.R_far (p:=⟨gb241,8,none⟩) (Kd.R_far (p:=⟨gb241,7,none⟩) (Kd.R_far (p:=⟨gb241,6,none⟩) (Kd.R_far (p:=⟨gb241,5,none⟩) (Kd.R_far (p:=⟨gb241,4,none⟩) (Kd.R_far (p:=⟨gb241,3,none⟩) (Kd.R_far (p:=⟨gb241,2,none⟩) (Kd.R_far (p:=⟨gb241,1,none⟩) (Kd.R_far (p:=⟨gb241,0,none⟩) (Kd.R_mono HO_199002.out (fun k_ hk=>(⟨hk,hk.2⟩ : _ ∧ k_ ≠ gb241))) (fun _ hk=>hk.2) (.string t229)) (fun _ hk=>hk.2) (.string t231)) (fun _ hk=>hk.2) (.string t233)) (fun _ hk=>hk.2) (.int .i64 t235)) (fun _ hk=>hk.2) (.int .i64 t237)) (fun _ hk=>hk.2) (.string t239)) (fun _ hk=>hk.2) (.int .i64 0)) (fun _ hk=>hk.2) (.int .i64 0)) (fun _ hk=>hk.2) (.int .i64 0)) (fun _ hk=>hk.1.2)⟩,⟨by (with_reducible repeat (first|refine zah ?_ _|refine zak ?_|refine zag ?_ _));refine zaz ?_ NB197_241.out _;(with_reducible repeat (first|refine zah ?_ _|refine zak ?_|refine zag ?_ _));refine zaz ?_ NB197_241.out _;(with_reducible repeat (first|refine zah ?_ _|refine zak ?_|refine zag ?_ _));refine zaz ?_ NB197_241.out _;(with_reducible repeat (first|refine zah ?_ _|refine zak ?_|refine zag ?_ _));refine zaz ?_ NB197_241.out _;(with_reducible repeat (first|refine zah ?_ _|refine zak ?_|refine zag ?_ _));refine zaz ?_ NB197_241.out _;(with_reducible repeat (first|refine zah ?_ _|refine zak ?_|refine zag ?_ _));refine zaz ?_ NB197_241.out _;(with_reducible repeat (first|refine zah ?_ _|refine zak ?_|refine zag ?_ _));refine zaz ?_ NB197_241.out _;(with_reducible repeat (first|refine zah ?_ _|refine zak ?_|refine zag ?_ _));refine zaz ?_ NB197_241.out _;(with_reducible repeat (first|refine zah ?_ _|refine zak ?_|refine zag ?_ _));refine zaz ?_ NB197_241.out _;(with_reducible repeat (first|refine zah ?_ _|refine zak ?_|refine zag ?_ _));exact BK197.out⟩,⟨by (with_reducible repeat (first|refine zah ?_ _|refine zak ?_|refine zag ?_ _));refine zaz ?_ NB198_241.out _;(with_reducible repeat (first|refine zah ?_ _|refine zak ?_|refine zag ?_ _));refine zaz ?_ NB198_241.out _;(with_reducible repeat (first|refine zah ?_ _|refine zak ?_|refine zag ?_ _));refine zaz ?_ NB198_241.out _;(with_reducible repeat (first|refine zah ?_ _|refine zak ?_|refine zag ?_ _));refine zaz ?_ NB198_241.out _;(with_reducible repeat (first|refine zah ?_ _|refine zak ?_|refine zag ?_ _));refine zaz ?_ NB198_241.out _;(with_reducible repeat (first|refine zah ?_ _|refine zak ?_|refine zag ?_ _));refine zaz ?_ NB198_241.out _;(with_reducible repeat (first|refine zah ?_ _|refine zak ?_|refine zag ?_ _));refine zaz ?_ NB198_241.out _;(with_reducible repeat (first|refine zah ?_ _|refine zak ?_|refine zag ?_ _));refine zaz ?_ NB198_241.out _;(with_reducible repeat (first|refine zah ?_ _|refine zak ?_|refine zag ?_ _));refine zaz ?_ NB198_241.out _;(with_reducible repeat (first|refine zah ?_ _|refine zak ?_|refine zag ?_ _));exact BK198.out⟩,⟨by (with_reducible repeat (first|refine zah ?_ _|refine zak ?_|refine zag ?_ _));refine zaw (cs:=#[.string t229,.string t231,.string t233,.int .i64 t235,.int .i64 t237,.string t239,.int .i64 0,.int .i64 0,.int .i64 0]) ?_ 8 _ rfl;(with_reducible repeat (first|refine zah ?_ _|refine zak ?_|refine zag ?_ _));refine zaw (cs:=#[.string t229,.string t231,.string t233,.int .i64 t235,.int .i64 t237,.string t239,.int .i64 0,.int .i64 0,.int .i64 0]) ?_ 7 _ rfl;(with_reducible repeat (first|refine zah ?_ _|refine zak ?_|refine zag ?_ _));refine zaw (cs:=#[.string t229,.string t231,.string t233,.int .i64 t235,.int .i64 t237,.string t239,.int .i64 0,.int .i64 0,.int .i64 0]) ?_ 6 _ rfl;(with_reducible repeat (first|refine zah ?_ _|refine zak ?_|refine zag ?_ _));refine zaw (cs:=#[.string t229,.string t231,.string t233,.int .i64 t235,.int .i64 t237,.string (⟨#[]⟩ : ByteArray),.int .i64 0,.int .i64 0,.int .i64 0]) ?_ 5 _ rfl;(with_reducible repeat (first|refine zah ?_ _|refine zak ?_|refine zag ?_ _));refine zaw (cs:=#[.string t229,.string t231,.string t233,.int .i64 t235,.int .i64 0,.string (⟨#[]⟩ : ByteArray),.int .i64 0,.int .i64 0,.int .i64 0]) ?_ 4 _ rfl;(with_reducible repeat (first|refine zah ?_ _|refine zak ?_|refine zag ?_ _));refine zaw (cs:=#[.string t229,.string t231,.string t233,.int .i64 0,.int .i64 0,.string (⟨#[]⟩ : ByteArray),.int .i64 0,.int .i64 0,.int .i64 0]) ?_ 3 _ rfl;(with_reducible repeat (first|refine zah ?_ _|refine zak ?_|refine zag ?_ _));refine zaw (cs:=#[.string t229,.string t231,.string (⟨#[]⟩ : ByteArray),.int .i64 0,.int .i64 0,.string (⟨#[]⟩ : ByteArray),.int .i64 0,.int .i64 0,.int .i64 0]) ?_ 2 _ rfl;(with_reducible repeat (first|refine zah ?_ _|refine zak ?_|refine zag ?_ _));refine zaw (cs:=#[.string t229,.string (⟨#[]⟩ : ByteArray),.string (⟨#[]⟩ : ByteArray),.int .i64 0,.int .i64 0,.string (⟨#[]⟩ : ByteArray),.int .i64 0,.int .i64 0,.int .i64 0]) ?_ 1 _ rfl;(with_reducible repeat (first|refine zah ?_ _|refine zak ?_|refine zag ?_ _));refine zaw (cs:=#[.string (⟨#[]⟩ : ByteArray),.string (⟨#[]⟩ : ByteArray),.string (⟨#[]⟩ : ByteArray),.int .i64 0,.int .i64 0,.string (⟨#[]⟩ : ByteArray),.int .i64 0,.int .i64 0,.int .i64 0]) ?_ 0 _ rfl;(with_reducible repeat (first|refine zah ?_ _|refine zak ?_|refine zag ?_ _));exact BK241.out⟩,⟨by repeat (first|(with_reducible first|exact HI0.out|apply IsS88.alloc|apply IsS88.drewN|apply IsS88.drew|apply IsS88.set_0|refine IsS88.far ?_ NB0_197.out _|refine IsS88.far ?_ NB0_198.out _|refine IsS88.far ?_ NB0_241.out _)|exact HI0.out)⟩,⟨by repeat (first|(with_reducible first|exact HK.out|apply zax.set_|apply keep_drewN|apply zbp|apply keep_alloc|refine zbb ?_ GW197.out _|refine zbb ?_ GW198.out _|refine zbb ?_ GW241.out _)|exact HK.out)⟩,⟨by repeat (first|(with_reducible first|exact HB.out|apply zae|apply zab|apply zaf|refine zai ?_ (IsS88.ge HI0.out)|refine zai ?_ GE197.out|refine zai ?_ GE198.out|refine zai ?_ GE241.out)|exact HB.out)⟩⟩
          case round =>
           clear H'
           try clear c6
           try clear c6b0
           try clear c42
           try clear c42b0
           try clear c54
           try clear c54b0
           try clear hcz71_0
           try clear hcz71_1
           try clear hcz71_2
           try clear hcz71_3
           try clear hcz71_4
           try clear hcz71_5
           try clear hcz71_6
           try clear hcz71_7
           try clear hcz71_8
           try clear hfz71_0
           try clear hfz71_1
           try clear hfz71_2
           try clear hfz71_3
           try clear hfz71_4
           try clear hfz71_5
           try clear hfz71_6
           try clear hfz71_7
           try clear hfz71_8
           obtain ⟨x70_4,x1000_4,x242006_4,x242007_4,x242008_4,rfl,HA,HK4,HO_199000,HO_199001,HO_199002,BK197,BK198,BK241,HI0,HK,HB⟩:=hrel
           cases gk with
           | zero=>exact absurd HA.out (by simp [zal.l4])
           | succ k4 =>
            have H:=HA.out
            clear HA
            simp only [zal.l4] at H
            by_cases c72 : x70_4 < 3
            ·rw [if_pos c72] at H
             have c72b0 : decide (x70_4 < 3) = true:=decide_eq_true c72
             clear c72
             replace H:=Option.bind_eq_some_iff.mp H
             obtain ⟨⟨t242,t243⟩,A730,H⟩:=H
             replace H : (if 0 ≤ x70_4 then (if x70_4 = 0 then (zal.l4 k4 t227 x55_3 (wrap64 (x70_4 + 1)) t243 x199000_1 x199001_2 x199002_3 t229 t231 t233 t235 t237 t239 t242 x242007_4 x242008_4) else (if x70_4 = 1 then (zal.l4 k4 t227 x55_3 (wrap64 (x70_4 + 1)) t243 x199000_1 x199001_2 x199002_3 t229 t231 t233 t235 t237 t239 x242006_4 t242 x242008_4) else (if x70_4 = 2 then (zal.l4 k4 t227 x55_3 (wrap64 (x70_4 + 1)) t243 x199000_1 x199001_2 x199002_3 t229 t231 t233 t235 t237 t239 x242006_4 x242007_4 t242) else (none)))) else (none)) = some (r1,r2,r3,r4):=H
             have A73:=zac.mk A730
             clear A730
             by_cases c74 : 0 ≤ x70_4
             ·rw [if_pos c74] at H
              have c74b0 : decide (0 ≤ x70_4) = true:=decide_eq_true c74
              clear c74
              by_cases c75 : x70_4 = 0
              ·rw [if_pos c75] at H
               have c75b0 : (x70_4 == 0) = true:=beq_iff_eq.mpr c75
               have c75b1 : (x70_4 != 0) = false:=bne_eq_false_iff_eq.mpr c75
               clear c75
               have H':=zac.mk H
               clear H
               go_wp2_with (first|((with_reducible refine zbe (f:=77) rfl ?_);refine zce (some 75) rfl rfl Try.func77 (by kernel_rfl) rfl #[.pointer (some ⟨g,0,none⟩)] rfl (by (try simp only [List.map_toArray,List.map_cons,List.map_nil]);first|done|rfl|(simp only [List.length_drop,List.length_take];rfl)) ?_;(with_reducible refine (zbl.calls g x1000_4 t242 t243 w0 _ ?side1 ?side2 A73.out).mono ?_);(case side1=>repeat (first|(with_reducible first|exact HI0.out|apply IsS88.alloc|apply IsS88.drewN|apply IsS88.drew|apply IsS88.set_0|refine IsS88.far ?_ NB0_197.out _|refine IsS88.far ?_ NB0_198.out _|refine IsS88.far ?_ NB0_241.out _)|exact HI0.out));(case side2=>repeat (first|(with_reducible first|exact HB.out|apply zae|apply zab|apply zaf|refine zai ?_ (IsS88.ge HI0.out)|refine zai ?_ GE197.out|refine zai ?_ GE198.out|refine zai ?_ GE241.out)|exact HB.out));rintro e w76 ⟨rfl,hi,hb,hk⟩;refine ⟨_,rfl,?_⟩;have n0_:=zac.mk (Kd.S_mono (Kd.S_keep (IsS88.apartS (show IsS88 w0 _ g x1000_4 from by repeat (first|(with_reducible first|exact HI0.out|apply IsS88.alloc|apply IsS88.drewN|apply IsS88.drew|apply IsS88.set_0|refine IsS88.far ?_ NB0_197.out _|refine IsS88.far ?_ NB0_198.out _|refine IsS88.far ?_ NB0_241.out _)|exact HI0.out)) (by (with_reducible repeat (first|apply Kd.S_alloc|apply Kd.S_drewN|apply Kd.S_drew));exact HO_199000.out) (by decide)) hk (fun _ h=>h.2)) (fun _ h=>h.1));have n1_:=zac.mk (Kd.R_mono (Kd.R_keep (IsS88.apart (show IsS88 w0 _ g x1000_4 from by repeat (first|(with_reducible first|exact HI0.out|apply IsS88.alloc|apply IsS88.drewN|apply IsS88.drew|apply IsS88.set_0|refine IsS88.far ?_ NB0_197.out _|refine IsS88.far ?_ NB0_198.out _|refine IsS88.far ?_ NB0_241.out _)|exact HI0.out)) (by (with_reducible repeat (first|apply Kd.R_alloc|apply Kd.R_drewN|apply Kd.R_drew));exact HO_199001.out) (by decide)) hk (fun _ h=>h.2)) (fun _ h=>h.1));have n2_:=zac.mk (Kd.R_mono (Kd.R_keep (IsS88.apart (show IsS88 w0 _ g x1000_4 from by repeat (first|(with_reducible first|exact HI0.out|apply IsS88.alloc|apply IsS88.drewN|apply IsS88.drew|apply IsS88.set_0|refine IsS88.far ?_ NB0_197.out _|refine IsS88.far ?_ NB0_198.out _|refine IsS88.far ?_ NB0_241.out _)|exact HI0.out)) (by (with_reducible repeat (first|apply Kd.R_alloc|apply Kd.R_drewN|apply Kd.R_drew));exact HO_199002.out) (by decide)) hk (fun _ h=>h.2)) (fun _ h=>h.1));have n3_:=zac.mk (zax.blk hk (g':=gb197) (o:=.cells #[.slice none 0 0,.slice none 0 0,.slice none 0 0] 26 (0,0)) (by (with_reducible repeat (first|refine zah ?_ _|refine zak ?_|refine zag ?_ _));exact BK197.out) NB197_0.out (by simp));have n4_:=zac.mk (zax.blk hk (g':=gb198) (o:=.cells #[u199000,u199001,u199002] 26 (0,0)) (by (with_reducible repeat (first|refine zah ?_ _|refine zak ?_|refine zag ?_ _));exact BK198.out) NB198_0.out (by simp));have n5_:=zac.mk (zax.blk hk (g':=gb241) (o:=.cells #[.string t229,.string t231,.string t233,.int .i64 t235,.int .i64 t237,.string t239,.int .i64 x242006_4,.int .i64 x242007_4,.int .i64 x242008_4] 36 (0,0)) (by (with_reducible repeat (first|refine zah ?_ _|refine zak ?_|refine zag ?_ _));exact BK241.out) NB241_0.out (by simp));have n6_:=zac.mk (zax.trans (by repeat (first|(with_reducible first|exact HK.out|apply zax.set_|apply keep_drewN|apply zbp|apply keep_alloc|refine zbb ?_ GW197.out _|refine zbb ?_ GW198.out _|refine zbb ?_ GW241.out _)|exact HK.out)) hk (.inl rfl));have n7_:=zac.mk (hb);have n8_:=zac.mk (hi);clear HO_199000;clear HO_199001;clear HO_199002;clear BK197;clear BK198;clear BK241;clear HK;clear HB;clear HI0;have HO_199000:=n0_;have HO_199001:=n1_;have HO_199002:=n2_;have BK197:=n3_;have BK198:=n4_;have BK241:=n5_;have HK:=n6_;have HB:=n7_;have HI0:=n8_;clear n0_ n1_ n2_ n3_ n4_ n5_ n6_ n7_ n8_;(try clear hb);(try clear hb2);(try clear hk);(try clear hi);have hfe77 : x70_4 = 0:=beq_iff_eq.mp (by first|(with_reducible assumption)|assumption);have hwe77 : wrap64 1 = 1:=(by unfold wrap64;omega);have hnb78:=NB241_197.out;have hnc78:=NB197_241.out;have hnb79:=NB241_198.out;have hnc79:=NB198_241.out;have hnb80:=NB241_0.out;have hnc80:=NB0_241.out;have hcz81_0 : w76.cell? ⟨gb241,0,none⟩ = some (.string t229):=(zad BK241.out 0).trans rfl;have hcz81_1 : w76.cell? ⟨gb241,1,none⟩ = some (.string t231):=(zad BK241.out 1).trans rfl;have hcz81_2 : w76.cell? ⟨gb241,2,none⟩ = some (.string t233):=(zad BK241.out 2).trans rfl;have hcz81_3 : w76.cell? ⟨gb241,3,none⟩ = some (.int .i64 t235):=(zad BK241.out 3).trans rfl;have hcz81_4 : w76.cell? ⟨gb241,4,none⟩ = some (.int .i64 t237):=(zad BK241.out 4).trans rfl;have hcz81_5 : w76.cell? ⟨gb241,5,none⟩ = some (.string t239):=(zad BK241.out 5).trans rfl;have hcz81_6 : w76.cell? ⟨gb241,6,none⟩ = some (.int .i64 x242006_4):=(zad BK241.out 6).trans rfl;have hcz81_7 : w76.cell? ⟨gb241,7,none⟩ = some (.int .i64 x242007_4):=(zad BK241.out 7).trans rfl;have hcz81_8 : w76.cell? ⟨gb241,8,none⟩ = some (.int .i64 x242008_4):=(zad BK241.out 8).trans rfl;have hfz81_0:=zaa BK241.out 0;have hfz81_1:=zaa BK241.out 1;have hfz81_2:=zaa BK241.out 2;have hfz81_3:=zaa BK241.out 3;have hfz81_4:=zaa BK241.out 4;have hfz81_5:=zaa BK241.out 5;have hfz81_6:=zaa BK241.out 6;have hfz81_7:=zaa BK241.out 7;have hfz81_8:=zaa BK241.out 8))
               go_roundg k4
               case measure=>have:=HK1.out;have:=HK2.out;have:=HK3.out;have:=HK4.out;omega
               case rel=>exact ⟨(wrap64 (x70_4 + 1)),(t243),(t242),(x242007_4),(x242008_4),(by first|rfl|(simp;done)|(simp [*];done)),H',⟨by have:=HK1.out;have:=HK2.out;have:=HK3.out;have:=HK4.out;omega⟩,⟨by (with_reducible repeat (first|apply Kd.S_alloc|apply Kd.S_drewN|apply Kd.S_drew));exact Kd.S_mono (Kd.S_far (p:=⟨gb241,6,none⟩) (Kd.S_types HO_199000.out BK241.out (by decide)) (fun _ hk=>hk.2) (.int .i64 t242)) (fun _ hk=>trivial)⟩,⟨by (with_reducible repeat (first|apply Kd.R_alloc|apply Kd.R_drewN|apply Kd.R_drew));exact Kd.R_mono (Kd.R_far (p:=⟨gb241,6,none⟩) (Kd.R_types HO_199001.out BK241.out (by decide)) (fun _ hk=>hk.2) (.int .i64 t242)) (fun _ hk=>trivial)⟩,⟨by (with_reducible repeat (first|apply Kd.R_alloc|apply Kd.R_drewN|apply Kd.R_drew));exact Kd.R_mono (Kd.R_far (p:=⟨gb241,6,none⟩) (Kd.R_mono HO_199002.out (fun k_ hk=>(⟨hk,hk⟩ : _ ∧ k_ ≠ gb241))) (fun _ hk=>hk.2) (.int .i64 t242)) (fun _ hk=>hk.1)⟩,⟨by (with_reducible repeat (first|refine zah ?_ _|refine zak ?_|refine zag ?_ _));refine zaz ?_ NB197_241.out _;(with_reducible repeat (first|refine zah ?_ _|refine zak ?_|refine zag ?_ _));exact BK197.out⟩,⟨by (with_reducible repeat (first|refine zah ?_ _|refine zak ?_|refine zag ?_ _));refine zaz ?_ NB198_241.out _;(with_reducible repeat (first|refine zah ?_ _|refine zak ?_|refine zag ?_ _));exact BK198.out⟩,⟨by (with_reducible repeat (first|refine zah ?_ _|refine zak ?_|refine zag ?_ _));refine zaw (cs:=#[.string t229,.string t231,.string t233,.int .i64 t235,.int .i64 t237,.string t239,.int .i64 x242006_4,.int .i64 x242007_4,.int .i64 x242008_4]) ?_ 6 _ rfl;(with_reducible repeat (first|refine zah ?_ _|refine zak ?_|refine zag ?_ _));exact BK241.out⟩,⟨by repeat (first|(with_reducible first|exact HI0.out|apply IsS88.alloc|apply IsS88.drewN|apply IsS88.drew|apply IsS88.set_0|refine IsS88.far ?_ NB0_197.out _|refine IsS88.far ?_ NB0_198.out _|refine IsS88.far ?_ NB0_241.out _)|exact HI0.out)⟩,⟨by repeat (first|(with_reducible first|exact HK.out|apply zax.set_|apply keep_drewN|apply zbp|apply keep_alloc|refine zbb ?_ GW197.out _|refine zbb ?_ GW198.out _|refine zbb ?_ GW241.out _)|exact HK.out)⟩,⟨by repeat (first|(with_reducible first|exact HB.out|apply zae|apply zab|apply zaf|refine zai ?_ (IsS88.ge HI0.out)|refine zai ?_ GE197.out|refine zai ?_ GE198.out|refine zai ?_ GE241.out)|exact HB.out)⟩⟩
              ·rw [if_neg c75] at H
               have c75b0 : (x70_4 == 0) = false:=beq_eq_false_iff_ne.mpr c75
               have c75b1 : (x70_4 != 0) = true:=bne_iff_ne.mpr c75
               by_cases c82 : x70_4 = 1
               ·rw [if_pos c82] at H
                have c82b0 : (x70_4 == 1) = true:=beq_iff_eq.mpr c82
                have c82b1 : (x70_4 != 1) = false:=bne_eq_false_iff_eq.mpr c82
                clear c82
                have H':=zac.mk H
                clear H
                go_wp2_with (first|((with_reducible refine zbe (f:=77) rfl ?_);refine zce (some 75) rfl rfl Try.func77 (by kernel_rfl) rfl #[.pointer (some ⟨g,0,none⟩)] rfl (by (try simp only [List.map_toArray,List.map_cons,List.map_nil]);first|done|rfl|(simp only [List.length_drop,List.length_take];rfl)) ?_;(with_reducible refine (zbl.calls g x1000_4 t242 t243 w0 _ ?side1 ?side2 A73.out).mono ?_);(case side1=>repeat (first|(with_reducible first|exact HI0.out|apply IsS88.alloc|apply IsS88.drewN|apply IsS88.drew|apply IsS88.set_0|refine IsS88.far ?_ NB0_197.out _|refine IsS88.far ?_ NB0_198.out _|refine IsS88.far ?_ NB0_241.out _)|exact HI0.out));(case side2=>repeat (first|(with_reducible first|exact HB.out|apply zae|apply zab|apply zaf|refine zai ?_ (IsS88.ge HI0.out)|refine zai ?_ GE197.out|refine zai ?_ GE198.out|refine zai ?_ GE241.out)|exact HB.out));rintro e w83 ⟨rfl,hi,hb,hk⟩;refine ⟨_,rfl,?_⟩;have n0_:=zac.mk (Kd.S_mono (Kd.S_keep (IsS88.apartS (show IsS88 w0 _ g x1000_4 from by repeat (first|(with_reducible first|exact HI0.out|apply IsS88.alloc|apply IsS88.drewN|apply IsS88.drew|apply IsS88.set_0|refine IsS88.far ?_ NB0_197.out _|refine IsS88.far ?_ NB0_198.out _|refine IsS88.far ?_ NB0_241.out _)|exact HI0.out)) (by (with_reducible repeat (first|apply Kd.S_alloc|apply Kd.S_drewN|apply Kd.S_drew));exact HO_199000.out) (by decide)) hk (fun _ h=>h.2)) (fun _ h=>h.1));have n1_:=zac.mk (Kd.R_mono (Kd.R_keep (IsS88.apart (show IsS88 w0 _ g x1000_4 from by repeat (first|(with_reducible first|exact HI0.out|apply IsS88.alloc|apply IsS88.drewN|apply IsS88.drew|apply IsS88.set_0|refine IsS88.far ?_ NB0_197.out _|refine IsS88.far ?_ NB0_198.out _|refine IsS88.far ?_ NB0_241.out _)|exact HI0.out)) (by (with_reducible repeat (first|apply Kd.R_alloc|apply Kd.R_drewN|apply Kd.R_drew));exact HO_199001.out) (by decide)) hk (fun _ h=>h.2)) (fun _ h=>h.1));have n2_:=zac.mk (Kd.R_mono (Kd.R_keep (IsS88.apart (show IsS88 w0 _ g x1000_4 from by repeat (first|(with_reducible first|exact HI0.out|apply IsS88.alloc|apply IsS88.drewN|apply IsS88.drew|apply IsS88.set_0|refine IsS88.far ?_ NB0_197.out _|refine IsS88.far ?_ NB0_198.out _|refine IsS88.far ?_ NB0_241.out _)|exact HI0.out)) (by (with_reducible repeat (first|apply Kd.R_alloc|apply Kd.R_drewN|apply Kd.R_drew));exact HO_199002.out) (by decide)) hk (fun _ h=>h.2)) (fun _ h=>h.1));have n3_:=zac.mk (zax.blk hk (g':=gb197) (o:=.cells #[.slice none 0 0,.slice none 0 0,.slice none 0 0] 26 (0,0)) (by (with_reducible repeat (first|refine zah ?_ _|refine zak ?_|refine zag ?_ _));exact BK197.out) NB197_0.out (by simp));have n4_:=zac.mk (zax.blk hk (g':=gb198) (o:=.cells #[u199000,u199001,u199002] 26 (0,0)) (by (with_reducible repeat (first|refine zah ?_ _|refine zak ?_|refine zag ?_ _));exact BK198.out) NB198_0.out (by simp));have n5_:=zac.mk (zax.blk hk (g':=gb241) (o:=.cells #[.string t229,.string t231,.string t233,.int .i64 t235,.int .i64 t237,.string t239,.int .i64 x242006_4,.int .i64 x242007_4,.int .i64 x242008_4] 36 (0,0)) (by (with_reducible repeat (first|refine zah ?_ _|refine zak ?_|refine zag ?_ _));exact BK241.out) NB241_0.out (by simp));have n6_:=zac.mk (zax.trans (by repeat (first|(with_reducible first|exact HK.out|apply zax.set_|apply keep_drewN|apply zbp|apply keep_alloc|refine zbb ?_ GW197.out _|refine zbb ?_ GW198.out _|refine zbb ?_ GW241.out _)|exact HK.out)) hk (.inl rfl));have n7_:=zac.mk (hb);have n8_:=zac.mk (hi);clear HO_199000;clear HO_199001;clear HO_199002;clear BK197;clear BK198;clear BK241;clear HK;clear HB;clear HI0;have HO_199000:=n0_;have HO_199001:=n1_;have HO_199002:=n2_;have BK197:=n3_;have BK198:=n4_;have BK241:=n5_;have HK:=n6_;have HB:=n7_;have HI0:=n8_;clear n0_ n1_ n2_ n3_ n4_ n5_ n6_ n7_ n8_;(try clear hb);(try clear hb2);(try clear hk);(try clear hi);have hfe84 : x70_4 = 1:=beq_iff_eq.mp (by first|(with_reducible assumption)|assumption);have hwe84 : wrap64 2 = 2:=(by unfold wrap64;omega);have hnb85:=NB241_197.out;have hnc85:=NB197_241.out;have hnb86:=NB241_198.out;have hnc86:=NB198_241.out;have hnb87:=NB241_0.out;have hnc87:=NB0_241.out;have hcz88_0 : w83.cell? ⟨gb241,0,none⟩ = some (.string t229):=(zad BK241.out 0).trans rfl;have hcz88_1 : w83.cell? ⟨gb241,1,none⟩ = some (.string t231):=(zad BK241.out 1).trans rfl;have hcz88_2 : w83.cell? ⟨gb241,2,none⟩ = some (.string t233):=(zad BK241.out 2).trans rfl;have hcz88_3 : w83.cell? ⟨gb241,3,none⟩ = some (.int .i64 t235):=(zad BK241.out 3).trans rfl;have hcz88_4 : w83.cell? ⟨gb241,4,none⟩ = some (.int .i64 t237):=(zad BK241.out 4).trans rfl;have hcz88_5 : w83.cell? ⟨gb241,5,none⟩ = some (.string t239):=(zad BK241.out 5).trans rfl;have hcz88_6 : w83.cell? ⟨gb241,6,none⟩ = some (.int .i64 x242006_4):=(zad BK241.out 6).trans rfl;have hcz88_7 : w83.cell? ⟨gb241,7,none⟩ = some (.int .i64 x242007_4):=(zad BK241.out 7).trans rfl;have hcz88_8 : w83.cell? ⟨gb241,8,none⟩ = some (.int .i64 x242008_4):=(zad BK241.out 8).trans rfl;have hfz88_0:=zaa BK241.out 0;have hfz88_1:=zaa BK241.out 1;have hfz88_2:=zaa BK241.out 2;have hfz88_3:=zaa BK241.out 3;have hfz88_4:=zaa BK241.out 4;have hfz88_5:=zaa BK241.out 5;have hfz88_6:=zaa BK241.out 6;have hfz88_7:=zaa BK241.out 7;have hfz88_8:=zaa BK241.out 8))
                go_roundg k4
                case measure=>have:=HK1.out;have:=HK2.out;have:=HK3.out;have:=HK4.out;omega
                case rel=>exact ⟨(wrap64 (x70_4 + 1)),(t243),(x242006_4),(t242),(x242008_4),(by first|rfl|(simp;done)|(simp [*];done)),H',⟨by have:=HK1.out;have:=HK2.out;have:=HK3.out;have:=HK4.out;omega⟩,⟨by (with_reducible repeat (first|apply Kd.S_alloc|apply Kd.S_drewN|apply Kd.S_drew));exact Kd.S_mono (Kd.S_far (p:=⟨gb241,7,none⟩) (Kd.S_types HO_199000.out BK241.out (by decide)) (fun _ hk=>hk.2) (.int .i64 t242)) (fun _ hk=>trivial)⟩,⟨by (with_reducible repeat (first|apply Kd.R_alloc|apply Kd.R_drewN|apply Kd.R_drew));exact Kd.R_mono (Kd.R_far (p:=⟨gb241,7,none⟩) (Kd.R_types HO_199001.out BK241.out (by decide)) (fun _ hk=>hk.2) (.int .i64 t242)) (fun _ hk=>trivial)⟩,⟨by (with_reducible repeat (first|apply Kd.R_alloc|apply Kd.R_drewN|apply Kd.R_drew));exact Kd.R_mono (Kd.R_far (p:=⟨gb241,7,none⟩) (Kd.R_mono HO_199002.out (fun k_ hk=>(⟨hk,hk⟩ : _ ∧ k_ ≠ gb241))) (fun _ hk=>hk.2) (.int .i64 t242)) (fun _ hk=>hk.1)⟩,⟨by (with_reducible repeat (first|refine zah ?_ _|refine zak ?_|refine zag ?_ _));refine zaz ?_ NB197_241.out _;(with_reducible repeat (first|refine zah ?_ _|refine zak ?_|refine zag ?_ _));exact BK197.out⟩,⟨by (with_reducible repeat (first|refine zah ?_ _|refine zak ?_|refine zag ?_ _));refine zaz ?_ NB198_241.out _;(with_reducible repeat (first|refine zah ?_ _|refine zak ?_|refine zag ?_ _));exact BK198.out⟩,⟨by (with_reducible repeat (first|refine zah ?_ _|refine zak ?_|refine zag ?_ _));refine zaw (cs:=#[.string t229,.string t231,.string t233,.int .i64 t235,.int .i64 t237,.string t239,.int .i64 x242006_4,.int .i64 x242007_4,.int .i64 x242008_4]) ?_ 7 _ rfl;(with_reducible repeat (first|refine zah ?_ _|refine zak ?_|refine zag ?_ _));exact BK241.out⟩,⟨by repeat (first|(with_reducible first|exact HI0.out|apply IsS88.alloc|apply IsS88.drewN|apply IsS88.drew|apply IsS88.set_0|refine IsS88.far ?_ NB0_197.out _|refine IsS88.far ?_ NB0_198.out _|refine IsS88.far ?_ NB0_241.out _)|exact HI0.out)⟩,⟨by repeat (first|(with_reducible first|exact HK.out|apply zax.set_|apply keep_drewN|apply zbp|apply keep_alloc|refine zbb ?_ GW197.out _|refine zbb ?_ GW198.out _|refine zbb ?_ GW241.out _)|exact HK.out)⟩,⟨by repeat (first|(with_reducible first|exact HB.out|apply zae|apply zab|apply zaf|refine zai ?_ (IsS88.ge HI0.out)|refine zai ?_ GE197.out|refine zai ?_ GE198.out|refine zai ?_ GE241.out)|exact HB.out)⟩⟩
               ·rw [if_neg c82] at H
                have c82b0 : (x70_4 == 1) = false:=beq_eq_false_iff_ne.mpr c82
                have c82b1 : (x70_4 != 1) = true:=bne_iff_ne.mpr c82
                by_cases c89 : x70_4 = 2
                ·rw [if_pos c89] at H
                 have c89b0 : (x70_4 == 2) = true:=beq_iff_eq.mpr c89
                 have c89b1 : (x70_4 != 2) = false:=bne_eq_false_iff_eq.mpr c89
                 clear c89
                 have H':=zac.mk H
                 clear H
                 go_wp2_with (first|((with_reducible refine zbe (f:=77) rfl ?_);refine zce (some 75) rfl rfl Try.func77 (by kernel_rfl) rfl #[.pointer (some ⟨g,0,none⟩)] rfl (by (try simp only [List.map_toArray,List.map_cons,List.map_nil]);first|done|rfl|(simp only [List.length_drop,List.length_take];rfl)) ?_;(with_reducible refine (zbl.calls g x1000_4 t242 t243 w0 _ ?side1 ?side2 A73.out).mono ?_);(case side1=>repeat (first|(with_reducible first|exact HI0.out|apply IsS88.alloc|apply IsS88.drewN|apply IsS88.drew|apply IsS88.set_0|refine IsS88.far ?_ NB0_197.out _|refine IsS88.far ?_ NB0_198.out _|refine IsS88.far ?_ NB0_241.out _)|exact HI0.out));(case side2=>repeat (first|(with_reducible first|exact HB.out|apply zae|apply zab|apply zaf|refine zai ?_ (IsS88.ge HI0.out)|refine zai ?_ GE197.out|refine zai ?_ GE198.out|refine zai ?_ GE241.out)|exact HB.out));rintro e w90 ⟨rfl,hi,hb,hk⟩;refine ⟨_,rfl,?_⟩;have n0_:=zac.mk (Kd.S_mono (Kd.S_keep (IsS88.apartS (show IsS88 w0 _ g x1000_4 from by repeat (first|(with_reducible first|exact HI0.out|apply IsS88.alloc|apply IsS88.drewN|apply IsS88.drew|apply IsS88.set_0|refine IsS88.far ?_ NB0_197.out _|refine IsS88.far ?_ NB0_198.out _|refine IsS88.far ?_ NB0_241.out _)|exact HI0.out)) (by (with_reducible repeat (first|apply Kd.S_alloc|apply Kd.S_drewN|apply Kd.S_drew));exact HO_199000.out) (by decide)) hk (fun _ h=>h.2)) (fun _ h=>h.1));have n1_:=zac.mk (Kd.R_mono (Kd.R_keep (IsS88.apart (show IsS88 w0 _ g x1000_4 from by repeat (first|(with_reducible first|exact HI0.out|apply IsS88.alloc|apply IsS88.drewN|apply IsS88.drew|apply IsS88.set_0|refine IsS88.far ?_ NB0_197.out _|refine IsS88.far ?_ NB0_198.out _|refine IsS88.far ?_ NB0_241.out _)|exact HI0.out)) (by (with_reducible repeat (first|apply Kd.R_alloc|apply Kd.R_drewN|apply Kd.R_drew));exact HO_199001.out) (by decide)) hk (fun _ h=>h.2)) (fun _ h=>h.1));have n2_:=zac.mk (Kd.R_mono (Kd.R_keep (IsS88.apart (show IsS88 w0 _ g x1000_4 from by repeat (first|(with_reducible first|exact HI0.out|apply IsS88.alloc|apply IsS88.drewN|apply IsS88.drew|apply IsS88.set_0|refine IsS88.far ?_ NB0_197.out _|refine IsS88.far ?_ NB0_198.out _|refine IsS88.far ?_ NB0_241.out _)|exact HI0.out)) (by (with_reducible repeat (first|apply Kd.R_alloc|apply Kd.R_drewN|apply Kd.R_drew));exact HO_199002.out) (by decide)) hk (fun _ h=>h.2)) (fun _ h=>h.1));have n3_:=zac.mk (zax.blk hk (g':=gb197) (o:=.cells #[.slice none 0 0,.slice none 0 0,.slice none 0 0] 26 (0,0)) (by (with_reducible repeat (first|refine zah ?_ _|refine zak ?_|refine zag ?_ _));exact BK197.out) NB197_0.out (by simp));have n4_:=zac.mk (zax.blk hk (g':=gb198) (o:=.cells #[u199000,u199001,u199002] 26 (0,0)) (by (with_reducible repeat (first|refine zah ?_ _|refine zak ?_|refine zag ?_ _));exact BK198.out) NB198_0.out (by simp));have n5_:=zac.mk (zax.blk hk (g':=gb241) (o:=.cells #[.string t229,.string t231,.string t233,.int .i64 t235,.int .i64 t237,.string t239,.int .i64 x242006_4,.int .i64 x242007_4,.int .i64 x242008_4] 36 (0,0)) (by (with_reducible repeat (first|refine zah ?_ _|refine zak ?_|refine zag ?_ _));exact BK241.out) NB241_0.out (by simp));have n6_:=zac.mk (zax.trans (by repeat (first|(with_reducible first|exact HK.out|apply zax.set_|apply keep_drewN|apply zbp|apply keep_alloc|refine zbb ?_ GW197.out _|refine zbb ?_ GW198.out _|refine zbb ?_ GW241.out _)|exact HK.out)) hk (.inl rfl));have n7_:=zac.mk (hb);have n8_:=zac.mk (hi);clear HO_199000;clear HO_199001;clear HO_199002;clear BK197;clear BK198;clear BK241;clear HK;clear HB;clear HI0;have HO_199000:=n0_;have HO_199001:=n1_;have HO_199002:=n2_;have BK197:=n3_;have BK198:=n4_;have BK241:=n5_;have HK:=n6_;have HB:=n7_;have HI0:=n8_;clear n0_ n1_ n2_ n3_ n4_ n5_ n6_ n7_ n8_;(try clear hb);(try clear hb2);(try clear hk);(try clear hi);have hfe91 : x70_4 = 2:=beq_iff_eq.mp (by first|(with_reducible assumption)|assumption);have hwe91 : wrap64 3 = 3:=(by unfold wrap64;omega);have hnb92:=NB241_197.out;have hnc92:=NB197_241.out;have hnb93:=NB241_198.out;have hnc93:=NB198_241.out;have hnb94:=NB241_0.out;have hnc94:=NB0_241.out;have hcz95_0 : w90.cell? ⟨gb241,0,none⟩ = some (.string t229):=(zad BK241.out 0).trans rfl;have hcz95_1 : w90.cell? ⟨gb241,1,none⟩ = some (.string t231):=(zad BK241.out 1).trans rfl;have hcz95_2 : w90.cell? ⟨gb241,2,none⟩ = some (.string t233):=(zad BK241.out 2).trans rfl;have hcz95_3 : w90.cell? ⟨gb241,3,none⟩ = some (.int .i64 t235):=(zad BK241.out 3).trans rfl;have hcz95_4 : w90.cell? ⟨gb241,4,none⟩ = some (.int .i64 t237):=(zad BK241.out 4).trans rfl;have hcz95_5 : w90.cell? ⟨gb241,5,none⟩ = some (.string t239):=(zad BK241.out 5).trans rfl;have hcz95_6 : w90.cell? ⟨gb241,6,none⟩ = some (.int .i64 x242006_4):=(zad BK241.out 6).trans rfl;have hcz95_7 : w90.cell? ⟨gb241,7,none⟩ = some (.int .i64 x242007_4):=(zad BK241.out 7).trans rfl;have hcz95_8 : w90.cell? ⟨gb241,8,none⟩ = some (.int .i64 x242008_4):=(zad BK241.out 8).trans rfl;have hfz95_0:=zaa BK241.out 0;have hfz95_1:=zaa BK241.out 1;have hfz95_2:=zaa BK241.out 2;have hfz95_3:=zaa BK241.out 3;have hfz95_4:=zaa BK241.out 4;have hfz95_5:=zaa BK241.out 5;have hfz95_6:=zaa BK241.out 6;have hfz95_7:=zaa BK241.out 7;have hfz95_8:=zaa BK241.out 8))
                 go_roundg k4
                 case measure=>have:=HK1.out;have:=HK2.out;have:=HK3.out;have:=HK4.out;omega
                 case rel=>exact ⟨(wrap64 (x70_4 + 1)),(t243),(x242006_4),(x242007_4),(t242),(by first|rfl|(simp;done)|(simp [*];done)),H',⟨by have:=HK1.out;have:=HK2.out;have:=HK3.out;have:=HK4.out;omega⟩,⟨by (with_reducible repeat (first|apply Kd.S_alloc|apply Kd.S_drewN|apply Kd.S_drew));exact Kd.S_mono (Kd.S_far (p:=⟨gb241,8,none⟩) (Kd.S_types HO_199000.out BK241.out (by decide)) (fun _ hk=>hk.2) (.int .i64 t242)) (fun _ hk=>trivial)⟩,⟨by (with_reducible repeat (first|apply Kd.R_alloc|apply Kd.R_drewN|apply Kd.R_drew));exact Kd.R_mono (Kd.R_far (p:=⟨gb241,8,none⟩) (Kd.R_types HO_199001.out BK241.out (by decide)) (fun _ hk=>hk.2) (.int .i64 t242)) (fun _ hk=>trivial)⟩,⟨by (with_reducible repeat (first|apply Kd.R_alloc|apply Kd.R_drewN|apply Kd.R_drew));exact Kd.R_mono (Kd.R_far (p:=⟨gb241,8,none⟩) (Kd.R_mono HO_199002.out (fun k_ hk=>(⟨hk,hk⟩ : _ ∧ k_ ≠ gb241))) (fun _ hk=>hk.2) (.int .i64 t242)) (fun _ hk=>hk.1)⟩,⟨by (with_reducible repeat (first|refine zah ?_ _|refine zak ?_|refine zag ?_ _));refine zaz ?_ NB197_241.out _;(with_reducible repeat (first|refine zah ?_ _|refine zak ?_|refine zag ?_ _));exact BK197.out⟩,⟨by (with_reducible repeat (first|refine zah ?_ _|refine zak ?_|refine zag ?_ _));refine zaz ?_ NB198_241.out _;(with_reducible repeat (first|refine zah ?_ _|refine zak ?_|refine zag ?_ _));exact BK198.out⟩,⟨by (with_reducible repeat (first|refine zah ?_ _|refine zak ?_|refine zag ?_ _));refine zaw (cs:=#[.string t229,.string t231,.string t233,.int .i64 t235,.int .i64 t237,.string t239,.int .i64 x242006_4,.int .i64 x242007_4,.int .i64 x242008_4]) ?_ 8 _ rfl;(with_reducible repeat (first|refine zah ?_ _|refine zak ?_|refine zag ?_ _));exact BK241.out⟩,⟨by repeat (first|(with_reducible first|exact HI0.out|apply IsS88.alloc|apply IsS88.drewN|apply IsS88.drew|apply IsS88.set_0|refine IsS88.far ?_ NB0_197.out _|refine IsS88.far ?_ NB0_198.out _|refine IsS88.far ?_ NB0_241.out _)|exact HI0.out)⟩,⟨by repeat (first|(with_reducible first|exact HK.out|apply zax.set_|apply keep_drewN|apply zbp|apply keep_alloc|refine zbb ?_ GW197.out _|refine zbb ?_ GW198.out _|refine zbb ?_ GW241.out _)|exact HK.out)⟩,⟨by repeat (first|(with_reducible first|exact HB.out|apply zae|apply zab|apply zaf|refine zai ?_ (IsS88.ge HI0.out)|refine zai ?_ GE197.out|refine zai ?_ GE198.out|refine zai ?_ GE241.out)|exact HB.out)⟩⟩
                ·rw [if_neg c89] at H
                 exact absurd H (by simp)
             ·rw [if_neg c74] at H
              exact absurd H (by simp)
            ·rw [if_neg c72] at H
             have c72b0 : decide (x70_4 < 3) = false:=decide_eq_false c72
             clear c72
             by_cases c96 : x199002_3.length < 1353245080339
             ·rw [if_pos c96] at H
              have LMc96:=zac.mk c96
              clear c96
              obtain ⟨y244,hy244⟩ : ∃ y_ : List (S36),y_ = (x199002_3 ++ [(⟨t229,t231,t233,t235,t237,t239,(⟨x242006_4,x242007_4,x242008_4⟩ : S34)⟩ : S36)]):=⟨_,rfl⟩
              replace H : (zal.l3 k4 t227 (wrap64 (x55_3 + 1)) x1000_4 x199000_1 x199001_2 y244) = some (r1,r2,r3,r4):=by first|(rw [hy244];with_reducible exact H)|(have H2_:=(Option.bind_some _ _).symm.trans H;rw [hy244];with_reducible exact H2_)|(have H2_:=(Option.bind_some _ _).symm.trans H;with_reducible exact H2_)|with_reducible exact H|(rw [hy244];exact H)|exact H
              have Ny244:=zac.mk hy244
              clear hy244
              have H':=zac.mk H
              clear H
              have hnb97:=NB198_197.out
              have hnc97:=NB197_198.out
              have hnb98:=NB198_241.out
              have hnc98:=NB241_198.out
              have hnb99:=NB198_0.out
              have hnc99:=NB0_198.out
              have hcz100_0 : wr.cell? ⟨gb198,0,none⟩ = some (u199000):=(zad BK198.out 0).trans rfl
              have hcz100_1 : wr.cell? ⟨gb198,1,none⟩ = some (u199001):=(zad BK198.out 1).trans rfl
              have hcz100_2 : wr.cell? ⟨gb198,2,none⟩ = some (u199002):=(zad BK198.out 2).trans rfl
              have hfz100_0:=zaa BK198.out 0
              have hfz100_1:=zaa BK198.out 1
              have hfz100_2:=zaa BK198.out 2
              have hnb101:=NB241_197.out
              have hnc101:=NB197_241.out
              have hnb102:=NB241_0.out
              have hnc102:=NB0_241.out
              have hcz103_0 : wr.cell? ⟨gb241,0,none⟩ = some (.string t229):=(zad BK241.out 0).trans rfl
              have hcz103_1 : wr.cell? ⟨gb241,1,none⟩ = some (.string t231):=(zad BK241.out 1).trans rfl
              have hcz103_2 : wr.cell? ⟨gb241,2,none⟩ = some (.string t233):=(zad BK241.out 2).trans rfl
              have hcz103_3 : wr.cell? ⟨gb241,3,none⟩ = some (.int .i64 t235):=(zad BK241.out 3).trans rfl
              have hcz103_4 : wr.cell? ⟨gb241,4,none⟩ = some (.int .i64 t237):=(zad BK241.out 4).trans rfl
              have hcz103_5 : wr.cell? ⟨gb241,5,none⟩ = some (.string t239):=(zad BK241.out 5).trans rfl
              have hcz103_6 : wr.cell? ⟨gb241,6,none⟩ = some (.int .i64 x242006_4):=(zad BK241.out 6).trans rfl
              have hcz103_7 : wr.cell? ⟨gb241,7,none⟩ = some (.int .i64 x242007_4):=(zad BK241.out 7).trans rfl
              have hcz103_8 : wr.cell? ⟨gb241,8,none⟩ = some (.int .i64 x242008_4):=(zad BK241.out 8).trans rfl
              have hfz103_0:=zaa BK241.out 0
              have hfz103_1:=zaa BK241.out 1
              have hfz103_2:=zaa BK241.out 2
              have hfz103_3:=zaa BK241.out 3
              have hfz103_4:=zaa BK241.out 4
              have hfz103_5:=zaa BK241.out 5
              have hfz103_6:=zaa BK241.out 6
              have hfz103_7:=zaa BK241.out 7
              have hfz103_8:=zaa BK241.out 8
              go_wp2_with (first|((with_reducible refine gate_builtin (b:=.append) (xs:=#[.tmp 80,.tmp 82]) rfl ?_);at_builtin;refine Kd.R_append k36 w.heap.size rfl (.tmp 80) (.tmp 82) 24 36 (.agg #[(.string ⟨#[]⟩),(.string ⟨#[]⟩),(.string ⟨#[]⟩),(.int .i64 0),(.int .i64 0),(.string ⟨#[]⟩),(.int .i64 0),(.int .i64 0),(.int .i64 0)]) 104 rfl Try.underlying24 info36 rfl (by decide) (by omega) u199002 x199002_3 (⟨t229,t231,t233,t235,t237,t239,(⟨x242006_4,x242007_4,x242008_4⟩ : S34)⟩ : S36) [.string t229,.string t231,.string t233,.int .i64 t235,.int .i64 t237,.string t239,.int .i64 x242006_4,.int .i64 x242007_4,.int .i64 x242008_4] (fun k_=>k_ ≠ gb241) (fun _=>False) rfl rfl ?aP (fun _ hk=>hk.elim) ?aF ?aO (Below.refl _ _) ?aS ?aL ?_;(case aP=>exact k36_mkM _ _ _ (⟨t229,t231,t233,t235,t237,t239,(⟨x242006_4,x242007_4,x242008_4⟩ : S34)⟩ : S36));(case aF=>exact (fun k_ hk=>Kd.freshB (g:=gb241) (o:=.cells #[.string t229,.string t231,.string t233,.int .i64 t235,.int .i64 t237,.string t239,.int .i64 x242006_4,.int .i64 x242007_4,.int .i64 x242008_4] 36 (0,0)) (by (with_reducible repeat (first|refine zah ?_ _|refine zak ?_|refine zag ?_ _));exact BK241.out) k_ hk));(case aO=>exact (by (with_reducible repeat (first|apply Kd.R_alloc|apply Kd.R_drewN|apply Kd.R_drew));exact HO_199002.out));(case aS=>exact (keep_size (w:=w) (g:=g) (row:=none) (by repeat (first|(with_reducible first|exact HK.out|apply zax.set_|apply keep_drewN|apply zbp|apply keep_alloc|refine zbb ?_ GW197.out _|refine zbb ?_ GW198.out _|refine zbb ?_ GW241.out _)|exact HK.out))));(case aL=>have:=LMc96.out;omega);intro v245 w104 ho hb hg hat;rw [← Ny244.out] at ho;have n0_:=zac.mk (Kd.S_over' (by (with_reducible repeat (first|apply Kd.S_alloc|apply Kd.S_drewN|apply Kd.S_drew));exact HO_199000.out) (Kd.R_typed (by (with_reducible repeat (first|apply Kd.R_alloc|apply Kd.R_drewN|apply Kd.R_drew));exact HO_199002.out)) (by decide) hg);have n1_:=zac.mk (Kd.R_over' (by (with_reducible repeat (first|apply Kd.R_alloc|apply Kd.R_drewN|apply Kd.R_drew));exact HO_199001.out) (Kd.R_typed (by (with_reducible repeat (first|apply Kd.R_alloc|apply Kd.R_drewN|apply Kd.R_drew));exact HO_199002.out)) (by decide) hg);have n2_:=zac.mk (zcj (g:=gb197) (o:=.cells #[.slice none 0 0,.slice none 0 0,.slice none 0 0] 26 (0,0)) (by (with_reducible repeat (first|refine zah ?_ _|refine zak ?_|refine zag ?_ _));exact BK197.out) hg (Kd.R_ne HO_199002.out BK197.out (by decide)));have n3_:=zac.mk (zcj (g:=gb198) (o:=.cells #[u199000,u199001,u199002] 26 (0,0)) (by (with_reducible repeat (first|refine zah ?_ _|refine zak ?_|refine zag ?_ _));exact BK198.out) hg (Kd.R_ne HO_199002.out BK198.out (by decide)));have n4_:=zac.mk (zcj (g:=gb241) (o:=.cells #[.string t229,.string t231,.string t233,.int .i64 t235,.int .i64 t237,.string t239,.int .i64 x242006_4,.int .i64 x242007_4,.int .i64 x242008_4] 36 (0,0)) (by (with_reducible repeat (first|refine zah ?_ _|refine zak ?_|refine zag ?_ _));exact BK241.out) hg (Kd.R_away HO_199002.out (fun _ hk=>hk)));have n5_:=zac.mk (IsS88.grown (by repeat (first|(with_reducible first|exact HI0.out|apply IsS88.alloc|apply IsS88.drewN|apply IsS88.drew|apply IsS88.set_0|refine IsS88.far ?_ NB0_197.out _|refine IsS88.far ?_ NB0_198.out _|refine IsS88.far ?_ NB0_241.out _)|exact HI0.out)) hg (IsS88.own_ne HI0.out HO_199002.out (by decide)));have n6_:=zac.mk (below_weaken (by repeat (first|(with_reducible first|exact HB.out|apply zae|apply zab|apply zaf|refine zai ?_ (IsS88.ge HI0.out)|refine zai ?_ GE197.out|refine zai ?_ GE198.out|refine zai ?_ GE241.out)|exact HB.out)) HL.out hb);have n7_:=zac.mk (zax.trans (by repeat (first|(with_reducible first|exact HK.out|apply zax.set_|apply keep_drewN|apply zbp|apply keep_alloc|refine zbb ?_ GW197.out _|refine zbb ?_ GW198.out _|refine zbb ?_ GW241.out _)|exact HK.out)) (zax.of_grown hg g) (Kd.R_base2 HO_199002.out));have n8_:=zac.mk (ho);clear HO_199000;clear HO_199001;clear BK197;clear BK198;clear BK241;clear HI0;clear HB;clear HK;clear HO_199002;have HO_199000:=n0_;have HO_199001:=n1_;have BK197:=n2_;have BK198:=n3_;have BK241:=n4_;have HI0:=n5_;have HB:=n6_;have HK:=n7_;have HO246:=n8_;clear n0_ n1_ n2_ n3_ n4_ n5_ n6_ n7_ n8_;clear ho hb hg hat;obtain ⟨Ao105,co105,eo105⟩:=Kd.R_slice HO246.out;subst eo105;have hcz106_0 : w104.cell? ⟨gb198,0,none⟩ = some (u199000):=(zad BK198.out 0).trans rfl;have hcz106_1 : w104.cell? ⟨gb198,1,none⟩ = some (u199001):=(zad BK198.out 1).trans rfl;have hcz106_2 : w104.cell? ⟨gb198,2,none⟩ = some (u199002):=(zad BK198.out 2).trans rfl;have hfz106_0:=zaa BK198.out 0;have hfz106_1:=zaa BK198.out 1;have hfz106_2:=zaa BK198.out 2))
              go_roundg k4
              case measure=>have:=HK1.out;have:=HK2.out;have:=HK3.out;have:=HK4.out;omega
              case rel=>exact ⟨(wrap64 (x55_3 + 1)),(x1000_4),(y244),(.slice Ao105 y244.length co105),(by first|rfl|(simp;done)|(simp [*];done)),H',⟨by have:=HK1.out;have:=HK2.out;have:=HK3.out;have:=HK4.out;omega⟩,⟨by (with_reducible repeat (first|apply Kd.S_alloc|apply Kd.S_drewN|apply Kd.S_drew));exact Kd.S_mono (Kd.S_far (p:=⟨gb198,2,none⟩) (Kd.S_types HO_199000.out BK198.out (by decide)) (fun _ hk=>hk.2) (.slice Ao105 y244.length co105)) (fun _ hk=>trivial)⟩,⟨by (with_reducible repeat (first|apply Kd.R_alloc|apply Kd.R_drewN|apply Kd.R_drew));exact Kd.R_mono (Kd.R_far (p:=⟨gb198,2,none⟩) (Kd.R_types HO_199001.out BK198.out (by decide)) (fun _ hk=>hk.2) (.slice Ao105 y244.length co105)) (fun _ hk=>trivial)⟩,⟨by (with_reducible repeat (first|apply Kd.R_alloc|apply Kd.R_drewN|apply Kd.R_drew));exact Kd.R_mono (Kd.R_far (p:=⟨gb198,2,none⟩) (Kd.R_types HO246.out BK198.out (by decide)) (fun _ hk=>hk.2) (.slice Ao105 y244.length co105)) (fun _ hk=>trivial)⟩,⟨by (with_reducible repeat (first|refine zah ?_ _|refine zak ?_|refine zag ?_ _));refine zaz ?_ NB197_198.out _;(with_reducible repeat (first|refine zah ?_ _|refine zak ?_|refine zag ?_ _));exact BK197.out⟩,⟨by (with_reducible repeat (first|refine zah ?_ _|refine zak ?_|refine zag ?_ _));refine zaw (cs:=#[u199000,u199001,u199002]) ?_ 2 _ rfl;(with_reducible repeat (first|refine zah ?_ _|refine zak ?_|refine zag ?_ _));exact BK198.out⟩,⟨by repeat (first|(with_reducible first|exact HI0.out|apply IsS88.alloc|apply IsS88.drewN|apply IsS88.drew|apply IsS88.set_0|refine IsS88.far ?_ NB0_197.out _|refine IsS88.far ?_ NB0_198.out _|refine IsS88.far ?_ NB0_241.out _)|exact HI0.out)⟩,⟨by repeat (first|(with_reducible first|exact HK.out|apply zax.set_|apply keep_drewN|apply zbp|apply keep_alloc|refine zbb ?_ GW197.out _|refine zbb ?_ GW198.out _|refine zbb ?_ GW241.out _)|exact HK.out)⟩,⟨by repeat (first|(with_reducible first|exact HB.out|apply zae|apply zab|apply zaf|refine zai ?_ (IsS88.ge HI0.out)|refine zai ?_ GE197.out|refine zai ?_ GE198.out|refine zai ?_ GE241.out)|exact HB.out)⟩⟩
             ·rw [if_neg c96] at H
              exact absurd H (by simp)
         ·rw [if_neg c54] at H
          have c54b0 : decide (x55_3 < t227) = false:=decide_eq_false c54
          clear c54
          simp only [Option.some.injEq,Prod.mk.injEq] at H
          obtain ⟨rfl,rfl,rfl,rfl⟩:=H
          have hnb107:=NB198_197.out
          have hnc107:=NB197_198.out
          have hnb108:=NB198_0.out
          have hnc108:=NB0_198.out
          have hcz109_0 : wr.cell? ⟨gb198,0,none⟩ = some (u199000):=(zad BK198.out 0).trans rfl
          have hcz109_1 : wr.cell? ⟨gb198,1,none⟩ = some (u199001):=(zad BK198.out 1).trans rfl
          have hcz109_2 : wr.cell? ⟨gb198,2,none⟩ = some (u199002):=(zad BK198.out 2).trans rfl
          have hfz109_0:=zaa BK198.out 0
          have hfz109_1:=zaa BK198.out 1
          have hfz109_2:=zaa BK198.out 2
          obtain ⟨Ao110,co110,eo110⟩:=Kd.S_slice HO_199000.out
          subst eo110
          have hnb111:=NB197_0.out
          have hnc111:=NB0_197.out
          have hcz112_0 : wr.cell? ⟨gb197,0,none⟩ = some (.slice none 0 0):=(zad BK197.out 0).trans rfl
          have hcz112_1 : wr.cell? ⟨gb197,1,none⟩ = some (.slice none 0 0):=(zad BK197.out 1).trans rfl
          have hcz112_2 : wr.cell? ⟨gb197,2,none⟩ = some (.slice none 0 0):=(zad BK197.out 2).trans rfl
          have hfz112_0:=zaa BK197.out 0
          have hfz112_1:=zaa BK197.out 1
          have hfz112_2:=zaa BK197.out 2
          obtain ⟨Ao113,co113,eo113⟩:=Kd.R_slice HO_199001.out
          subst eo113
          obtain ⟨Ao114,co114,eo114⟩:=Kd.R_slice HO_199002.out
          subst eo114
          go_wp2
          refine bodyPost_ret (results_cell_row rfl _ _ gb197 26 #[.slice Ao110 x199000_1.length co110,.slice Ao113 x199001_2.length co113,.slice Ao114 x199002_3.length co114] (0,0) _ rfl (by (with_reducible repeat (first|refine zah ?_ _|refine zak ?_|refine zag ?_ _));refine zaw (cs:=#[.slice Ao110 x199000_1.length co110,.slice Ao113 x199001_2.length co113,.slice none 0 0]) ?_ 2 _ rfl;(with_reducible repeat (first|refine zah ?_ _|refine zak ?_|refine zag ?_ _));refine zaw (cs:=#[.slice Ao110 x199000_1.length co110,.slice none 0 0,.slice none 0 0]) ?_ 1 _ rfl;(with_reducible repeat (first|refine zah ?_ _|refine zak ?_|refine zag ?_ _));refine zaw (cs:=#[.slice none 0 0,.slice none 0 0,.slice none 0 0]) ?_ 0 _ rfl;(with_reducible repeat (first|refine zah ?_ _|refine zak ?_|refine zag ?_ _));exact BK197.out) Try.underlying26 rfl (by kernel_rfl)) rfl ?_
          exact ⟨_,_,_,by first|rfl|(simp [errW_none,errW_some] <;> rfl)|(simp [*,errW_none,errW_some] <;> rfl),by (with_reducible repeat (first|apply Kd.S_alloc|apply Kd.S_drewN|apply Kd.S_drew));exact Kd.S_mono (Kd.S_far (p:=⟨gb197,2,none⟩) (Kd.S_far (p:=⟨gb197,1,none⟩) (Kd.S_far (p:=⟨gb197,0,none⟩) (Kd.S_types HO_199000.out BK197.out (by decide)) (fun _ hk=>hk.2) (.slice Ao110 x199000_1.length co110)) (fun _ hk=>hk.2) (.slice Ao113 x199001_2.length co113)) (fun _ hk=>hk.2) (.slice Ao114 x199002_3.length co114)) (fun _ hk=>trivial),by (with_reducible repeat (first|apply Kd.R_alloc|apply Kd.R_drewN|apply Kd.R_drew));exact Kd.R_mono (Kd.R_far (p:=⟨gb197,2,none⟩) (Kd.R_far (p:=⟨gb197,1,none⟩) (Kd.R_far (p:=⟨gb197,0,none⟩) (Kd.R_types HO_199001.out BK197.out (by decide)) (fun _ hk=>hk.2) (.slice Ao110 x199000_1.length co110)) (fun _ hk=>hk.2) (.slice Ao113 x199001_2.length co113)) (fun _ hk=>hk.2) (.slice Ao114 x199002_3.length co114)) (fun _ hk=>trivial),by (with_reducible repeat (first|apply Kd.R_alloc|apply Kd.R_drewN|apply Kd.R_drew));exact Kd.R_mono (Kd.R_far (p:=⟨gb197,2,none⟩) (Kd.R_far (p:=⟨gb197,1,none⟩) (Kd.R_far (p:=⟨gb197,0,none⟩) (Kd.R_types HO_199002.out BK197.out (by decide)) (fun _ hk=>hk.2) (.slice Ao110 x199000_1.length co110)) (fun _ hk=>hk.2) (.slice Ao113 x199001_2.length co113)) (fun _ hk=>hk.2) (.slice Ao114 x199002_3.length co114)) (fun _ hk=>trivial),by repeat (first|(with_reducible first|exact HI0.out|apply IsS88.alloc|apply IsS88.drewN|apply IsS88.drew|apply IsS88.set_0|refine IsS88.far ?_ NB0_197.out _|refine IsS88.far ?_ NB0_198.out _)|exact HI0.out),by repeat (first|(with_reducible first|exact HB.out|apply zae|apply zab|apply zaf|refine zai ?_ (IsS88.ge HI0.out)|refine zai ?_ GE197.out|refine zai ?_ GE198.out)|exact HB.out),by repeat (first|(with_reducible first|exact HK.out|apply zax.set_|apply keep_drewN|apply zbp|apply keep_alloc|refine zbb ?_ GW197.out _|refine zbb ?_ GW198.out _)|exact HK.out)⟩
end Go.Proofs.Ytepnddmalheoiaa.Q
