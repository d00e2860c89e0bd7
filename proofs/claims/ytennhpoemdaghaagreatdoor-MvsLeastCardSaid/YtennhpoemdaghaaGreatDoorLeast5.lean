/- A part of the same claim: what its first file says. -/
import Derived.Test.YtennhpoemdaghaaGreatDoorLeast4
import Derived.Test.YtennhpoemdaghaaGreatDoorRows
set_option linter.unusedVariables false
set_option linter.unusedSimpArgs false
section
namespace Go.Proofs.YtennhpoemdaghaaGreatDoor.P
open Go.RowKit Go.Proofs.YtennhpoemdaghaaGreatDoorW.PrintWords Go.Proofs.YtennhpoemdaghaaGreatDoorW.PrintLast Go.Proofs.YtennhpoemdaghaaGreatDoorW.PrintMore
def mvs_Downgrade.l0 : Nat → List (S41) → List (S41) → Int → Int → ByteArray → Int → Int → Int → ByteArray → ByteArray → List (S70) → Option ((List (S41)))
 | 0,_,_,_,_,_,_,_,_,_,_,_ => none
 | k + 1,x8,x20,x21,x22,x107000,x107001,x107002,x107003,x107004,x107005,x107006 => if x22 < x21 then (if 0 ≤ x22 then (if x22 < (x20.length : Int) then ((mvs_bound_out.f x107000 x107001 x107002 x107003 x107004 x107005 x107006 ((rd_T41 x20 x22).f0) ((rd_T41 x20 x22).f1.f0) ((rd_T41 x20 x22).f1.f1) ((rd_T41 x20 x22).f1.f2) ((rd_T41 x20 x22).f1.f3) ((rd_T41 x20 x22).f1.f4)).bind fun t109 => (if t109 = true then ((mvs_bound_lower.f x107000 x107001 x107002 x107003 x107004 x107005 x107006 ((rd_T41 x20 x22).f0) ((rd_T41 x20 x22).f1.f0) ((rd_T41 x20 x22).f1.f1) ((rd_T41 x20 x22).f1.f2) ((rd_T41 x20 x22).f1.f3) ((rd_T41 x20 x22).f1.f4)).bind fun bt110 => (if bt110.2.2.2.2.2.2 = true then (if x8.length < 1954687338268 then (mvs_Downgrade.l0 k (x8 ++ [(⟨bt110.1,(⟨bt110.2.1,bt110.2.2.1,bt110.2.2.2.1,bt110.2.2.2.2.1,bt110.2.2.2.2.2.1⟩ : S24)⟩ : S41)]) x20 x21 (wrap64 (x22 + 1)) x107000 x107001 x107002 x107003 x107004 x107005 x107006) else (none)) else (mvs_Downgrade.l0 k x8 x20 x21 (wrap64 (x22 + 1)) x107000 x107001 x107002 x107003 x107004 x107005 x107006))) else (if x8.length < 1954687338268 then (mvs_Downgrade.l0 k (x8 ++ [(⟨(rd_T41 x20 x22).f0,(⟨(rd_T41 x20 x22).f1.f0,(rd_T41 x20 x22).f1.f1,(rd_T41 x20 x22).f1.f2,(rd_T41 x20 x22).f1.f3,(rd_T41 x20 x22).f1.f4⟩ : S24)⟩ : S41)]) x20 x21 (wrap64 (x22 + 1)) x107000 x107001 x107002 x107003 x107004 x107005 x107006) else (none)))) else (none)) else (none)) else (some x8)
def mvs_Downgrade.f (k : Nat) (l0 : List (S41)) (l1 : List (S70)) (a2_0 : ByteArray) (a2_1 : Int) (a2_2 : Int) (a2_3 : Int) (a2_4 : ByteArray) (a2_5 : ByteArray) : Option ((List (S41))):=(mvs_may.f k a2_0 a2_1 a2_2 a2_3 a2_4 a2_5).bind fun t102 => (if t102 = true then (mvs_Downgrade.l0 k ([] : List (S41)) l0 (l0.length : Int) 0 a2_0 a2_1 a2_2 a2_3 a2_4 a2_5 l1) else ((slices_Clone_apiReq.f l0).bind fun t103 => (some t103)))
theorem mvs_Downgrade.mono_l : ∀ k,(∀ y0 y1 y2 y3 y4 y5 y6 y7 y8 y9 y10,LeO (mvs_Downgrade.l0 k y0 y1 y2 y3 y4 y5 y6 y7 y8 y9 y10) (mvs_Downgrade.l0 (k + 1) y0 y1 y2 y3 y4 y5 y6 y7 y8 y9 y10))
 | 0 => fun _ _ _ _ _ _ _ _ _ _ _ r h => by simp [mvs_Downgrade.l0] at h
 | k + 1 => by
  have ih0:=mvs_Downgrade.mono_l k
  ·intro y0 y1 y2 y3 y4 y5 y6 y7 y8 y9 y10
   unfold mvs_Downgrade.l0
   repeat' first
   | (with_reducible exact ih0 _ _ _ _ _ _ _ _ _ _ _)
   | (with_reducible exact mvs_may.mono _ _ _ _ _ _ _)
   | (with_reducible exact LeO.refl _)
   | (with_reducible exact LeO.none _)
   | (with_reducible refine LeO.ite ?_ ?_)
   | (with_reducible refine LeO.bind ?_ (fun _ => ?_))
   | exact ih0 _ _ _ _ _ _ _ _ _ _ _
   | exact mvs_may.mono _ _ _ _ _ _ _
   | exact LeO.none _
   | refine LeO.ite ?_ ?_
   | refine LeO.bind ?_ (fun _ => ?_)
theorem mvs_Downgrade.mono : ∀ a0 a1 a2 a3 a4 a5 a6 a7 k,LeO (mvs_Downgrade.f k a0 a1 a2 a3 a4 a5 a6 a7) (mvs_Downgrade.f (k + 1) a0 a1 a2 a3 a4 a5 a6 a7):=by
 intro a0 a1 a2 a3 a4 a5 a6 a7 k
 have ih0:=mvs_Downgrade.mono_l k
 unfold mvs_Downgrade.f
 repeat' first
   | (with_reducible exact ih0 _ _ _ _ _ _ _ _ _ _ _)
   | (with_reducible exact mvs_may.mono _ _ _ _ _ _ _)
   | (with_reducible exact LeO.refl _)
   | (with_reducible exact LeO.none _)
   | (with_reducible refine LeO.ite ?_ ?_)
   | (with_reducible refine LeO.bind ?_ (fun _ => ?_))
   | exact ih0 _ _ _ _ _ _ _ _ _ _ _
   | exact mvs_may.mono _ _ _ _ _ _ _
   | exact LeO.none _
   | refine LeO.ite ?_ ?_
   | refine LeO.bind ?_ (fun _ => ?_)
set_option maxHeartbeats 8000000 in
set_option maxRecDepth 100000 in
theorem mvs_Downgrade.calls (k : Nat) (A0 : Option Addr) (c0 : Nat) (l0 : List (S41)) (A1 : Option Addr) (c1 : Nat) (l1 : List (S70)) (a2_0 : ByteArray) (a2_1 : Int) (a2_2 : Int) (a2_3 : Int) (a2_4 : ByteArray) (a2_5 : ByteArray) (r : List (S41)) (w : World) (hr0 : Kd.C k41 w A0 l0.length l0) (hc0 : l0.length ≤ c0) (hr1 : Kd.C k70 w A1 l1.length l1) (hc1 : l1.length ≤ c1) (h : mvs_Downgrade.f k l0 l1 a2_0 a2_1 a2_2 a2_3 a2_4 a2_5 = some r) (hG : Env w) :
  Calls Tryz.prog 31 #[.slice A0 l0.length c0,.slice A1 l1.length c1,.agg #[.string a2_0,.int .i64 a2_1,.int .i64 a2_2,.int .i64 a2_3,.string a2_4,.string a2_5]] w fun e w' => ∃ v0_ : Value,e = .returned (v0_) ∧ Kd.R k41 41 w' w.heap.size (fun _ => True) v0_ r ∧ Below w.heap.size w w':=by
 have HG:=Aside0.mk hG
 clear hG
 have hu41:=Tryz.underlying41
 have hu91:=Tryz.underlying91
 have HR0:=Aside0.mk hr0
 have HC0:=Aside0.mk hc0
 clear hr0 hc0
 have HR1:=Aside0.mk hr1
 have HC1:=Aside0.mk hc1
 clear hr1 hc1
 have HB:=Aside0.mk (Below.refl w.heap.size w)
 have H : ((mvs_may.f k a2_0 a2_1 a2_2 a2_3 a2_4 a2_5).bind fun t102 => (if t102 = true then (mvs_Downgrade.l0 k ([] : List (S41)) l0 (l0.length : Int) 0 a2_0 a2_1 a2_2 a2_3 a2_4 a2_5 l1) else ((slices_Clone_apiReq.f l0).bind fun t103 => (some t103)))) = some r:=h
 clear h
 obtain ⟨t102,A40,H⟩:=Option.bind_eq_some_iff.mp H
 have A4:=Aside0.mk A40
 clear A40
 by_cases c5 : t102 = true
 ·subst c5
  rw [if_pos rfl] at H
  have H':=Aside0.mk H
  clear H
  go_enter Tryz.func31,Tryz.ntmps31
  go_wp2_with (first | ((with_reducible refine gate_dst (N:=5) rfl ?_);refine box_event ?hg (N:=5) ?hd (cs:=#[.string a2_0,.int .i64 a2_1,.int .i64 a2_2,.int .i64 a2_3,.string a2_4,.string a2_5]) (t:=41) ?hr ?_;(case hd => rfl);(case hg => rfl);(case hr => first | (go_simp;done) | (go_simp;rfl));intro gb101 hg w6 hbox hb;have BK101:=Aside0.mk (hbox);have GW101:=Aside0.mk ((q15_ : w.heap.size ≤ gb101));have GE101:=Aside0.mk ((q15_ : w.heap.size ≤ gb101));replace HB:=Aside0.mk (below_step bh_ hb);clear hb hbox hg;have hcz7_0 : w6.cell? ⟨gb101,0,none⟩ = some (.string a2_0):=(blk_cell BK101.out 0).trans rfl;have hcz7_1 : w6.cell? ⟨gb101,1,none⟩ = some (.int .i64 a2_1):=(blk_cell BK101.out 1).trans rfl;have hcz7_2 : w6.cell? ⟨gb101,2,none⟩ = some (.int .i64 a2_2):=(blk_cell BK101.out 2).trans rfl;have hcz7_3 : w6.cell? ⟨gb101,3,none⟩ = some (.int .i64 a2_3):=(blk_cell BK101.out 3).trans rfl;have hcz7_4 : w6.cell? ⟨gb101,4,none⟩ = some (.string a2_4):=(blk_cell BK101.out 4).trans rfl;have hcz7_5 : w6.cell? ⟨gb101,5,none⟩ = some (.string a2_5):=(blk_cell BK101.out 5).trans rfl;have hfz7_0:=blk_frozen BK101.out 0;have hfz7_1:=blk_frozen BK101.out 1;have hfz7_2:=blk_frozen BK101.out 2;have hfz7_3:=blk_frozen BK101.out 3;have hfz7_4:=blk_frozen BK101.out 4;have hfz7_5:=blk_frozen BK101.out 5) | ((with_reducible refine gate_callee (f:=59) rfl ?_);refine goesL_ (some 13) rfl rfl Tryz.func59 q4_ rfl #[.agg #[.string a2_0,.int .i64 a2_1,.int .i64 a2_2,.int .i64 a2_3,.string a2_4,.string a2_5]] rfl q2_ ?_;(with_reducible refine (mvs_may.calls k a2_0 a2_1 a2_2 a2_3 a2_4 a2_5 true _ A4.out ?sideG).mono ?_);(case sideG => first | exact HG.out | exact Env.below HG.out bh_);rintro e w8 ⟨rfl,hb⟩;refine ⟨_,rfl,?_⟩;replace BK101:=Aside0.mk (blk_below bk101_ hb);replace HB:=Aside0.mk (below_step bh_ hb);(try clear hb);(try clear hb2);(try clear hk);(try clear hi);have hcz9_0 : w8.cell? ⟨gb101,0,none⟩ = some (.string a2_0):=(blk_cell BK101.out 0).trans rfl;have hcz9_1 : w8.cell? ⟨gb101,1,none⟩ = some (.int .i64 a2_1):=(blk_cell BK101.out 1).trans rfl;have hcz9_2 : w8.cell? ⟨gb101,2,none⟩ = some (.int .i64 a2_2):=(blk_cell BK101.out 2).trans rfl;have hcz9_3 : w8.cell? ⟨gb101,3,none⟩ = some (.int .i64 a2_3):=(blk_cell BK101.out 3).trans rfl;have hcz9_4 : w8.cell? ⟨gb101,4,none⟩ = some (.string a2_4):=(blk_cell BK101.out 4).trans rfl;have hcz9_5 : w8.cell? ⟨gb101,5,none⟩ = some (.string a2_5):=(blk_cell BK101.out 5).trans rfl;have hfz9_0:=blk_frozen BK101.out 0;have hfz9_1:=blk_frozen BK101.out 1;have hfz9_2:=blk_frozen BK101.out 2;have hfz9_3:=blk_frozen BK101.out 3;have hfz9_4:=blk_frozen BK101.out 4;have hfz9_5:=blk_frozen BK101.out 5) | ((with_reducible refine gate_dst (N:=7) rfl ?_);refine box_event ?hg (N:=7) ?hd (cs:=#[.string (⟨#[]⟩ : ByteArray),.int .i64 0,.int .i64 0,.int .i64 0,.string (⟨#[]⟩ : ByteArray),.string (⟨#[]⟩ : ByteArray),.slice none 0 0]) (t:=91) ?hr ?_;(case hd => rfl);(case hg => rfl);(case hr => first | (go_simp;done) | (go_simp;rfl));intro gb106 hg w10 hbox hb;have BK106:=Aside0.mk (hbox);have GW106:=Aside0.mk ((q15_ : w.heap.size ≤ gb106));have GE106:=Aside0.mk ((q15_ : w.heap.size ≤ gb106));replace HB:=Aside0.mk (below_step bh_ hb);have NB101_106:=Aside0.mk ((q45_ : gb101 ≠ gb106));have NB106_101:=Aside0.mk ((q46_ : gb106 ≠ gb101));replace BK101:=Aside0.mk (blk_below bk101_ hb);clear hb hbox hg;have hnb11:=NB106_101.out;have hnc11:=NB101_106.out;have hcz12_0 : w10.cell? ⟨gb106,0,none⟩ = some (.string (⟨#[]⟩ : ByteArray)):=(blk_cell BK106.out 0).trans rfl;have hcz12_1 : w10.cell? ⟨gb106,1,none⟩ = some (.int .i64 0):=(blk_cell BK106.out 1).trans rfl;have hcz12_2 : w10.cell? ⟨gb106,2,none⟩ = some (.int .i64 0):=(blk_cell BK106.out 2).trans rfl;have hcz12_3 : w10.cell? ⟨gb106,3,none⟩ = some (.int .i64 0):=(blk_cell BK106.out 3).trans rfl;have hcz12_4 : w10.cell? ⟨gb106,4,none⟩ = some (.string (⟨#[]⟩ : ByteArray)):=(blk_cell BK106.out 4).trans rfl;have hcz12_5 : w10.cell? ⟨gb106,5,none⟩ = some (.string (⟨#[]⟩ : ByteArray)):=(blk_cell BK106.out 5).trans rfl;have hcz12_6 : w10.cell? ⟨gb106,6,none⟩ = some (.slice none 0 0):=(blk_cell BK106.out 6).trans rfl;have hfz12_0:=blk_frozen BK106.out 0;have hfz12_1:=blk_frozen BK106.out 1;have hfz12_2:=blk_frozen BK106.out 2;have hfz12_3:=blk_frozen BK106.out 3;have hfz12_4:=blk_frozen BK106.out 4;have hfz12_5:=blk_frozen BK106.out 5;have hfz12_6:=blk_frozen BK106.out 6))
  go_loopg [8,22] k (fun kq v8 v22 w' => ∃ (x8_1 : List (S41)) (x22_1 : Int),v22 = .int .i64 x22_1 ∧ Aside0 (mvs_Downgrade.l0 kq x8_1 l0 (l0.length : Int) x22_1 a2_0 a2_1 a2_2 a2_3 a2_4 a2_5 l1 = some r) ∧ Aside0 (kq ≤ k) ∧ Aside0 (Kd.R k41 41 w' w.heap.size (fun k_ => k_ ≠ gb101) v8 x8_1) ∧ Aside0 (w'.heap[gb101]? = some (.cells #[.string a2_0,.int .i64 a2_1,.int .i64 a2_2,.int .i64 a2_3,.string a2_4,.string a2_5] 41 (0,0))) ∧ Aside0 (w'.heap[gb106]? = some (.cells #[.string a2_0,.int .i64 a2_1,.int .i64 a2_2,.int .i64 a2_3,.string a2_4,.string a2_5,(.slice A1 l1.length c1)] 91 (0,0))) ∧ Aside0 (Below w.heap.size w w'))
  case atStart => exact ⟨(([] : List (S41))),(0),q3_,H',⟨Nat.le_refl _⟩,⟨by first | exact Kd.R_nil _ _ _ _ _ | exact Kd.N_nil _ _ _ _ _ | exact Kd.V_nil _ _ _ _ _ | exact Kd.Q_nil _ _ _ _ _ | exact Kd.S_nil _ _ _ _ _⟩,⟨by (with_reducible repeat (first | refine blk_drewN ?_ _ | refine blk_drew ?_ | refine blk_alloc ?_ _));refine blk_far ?_ NB101_106.out _;(with_reducible repeat (first | refine blk_drewN ?_ _ | refine blk_drew ?_ | refine blk_alloc ?_ _));refine blk_far ?_ NB101_106.out _;(with_reducible repeat (first | refine blk_drewN ?_ _ | refine blk_drew ?_ | refine blk_alloc ?_ _));refine blk_far ?_ NB101_106.out _;(with_reducible repeat (first | refine blk_drewN ?_ _ | refine blk_drew ?_ | refine blk_alloc ?_ _));refine blk_far ?_ NB101_106.out _;(with_reducible repeat (first | refine blk_drewN ?_ _ | refine blk_drew ?_ | refine blk_alloc ?_ _));refine blk_far ?_ NB101_106.out _;(with_reducible repeat (first | refine blk_drewN ?_ _ | refine blk_drew ?_ | refine blk_alloc ?_ _));refine blk_far ?_ NB101_106.out _;(with_reducible repeat (first | refine blk_drewN ?_ _ | refine blk_drew ?_ | refine blk_alloc ?_ _));refine blk_far ?_ NB101_106.out _;(with_reducible repeat (first | refine blk_drewN ?_ _ | refine blk_drew ?_ | refine blk_alloc ?_ _));exact BK101.out⟩,⟨by (with_reducible repeat (first | refine blk_drewN ?_ _ | refine blk_drew ?_ | refine blk_alloc ?_ _));refine blk_put (cs:=#[.string a2_0,.int .i64 a2_1,.int .i64 a2_2,.int .i64 a2_3,.string a2_4,.string a2_5,.slice none 0 0]) ?_ 6 _ rfl;(with_reducible repeat (first | refine blk_drewN ?_ _ | refine blk_drew ?_ | refine blk_alloc ?_ _));refine blk_put (cs:=#[.string a2_0,.int .i64 a2_1,.int .i64 a2_2,.int .i64 a2_3,.string a2_4,.string (⟨#[]⟩ : ByteArray),.slice none 0 0]) ?_ 5 _ rfl;(with_reducible repeat (first | refine blk_drewN ?_ _ | refine blk_drew ?_ | refine blk_alloc ?_ _));refine blk_put (cs:=#[.string a2_0,.int .i64 a2_1,.int .i64 a2_2,.int .i64 a2_3,.string (⟨#[]⟩ : ByteArray),.string (⟨#[]⟩ : ByteArray),.slice none 0 0]) ?_ 4 _ rfl;(with_reducible repeat (first | refine blk_drewN ?_ _ | refine blk_drew ?_ | refine blk_alloc ?_ _));refine blk_put (cs:=#[.string a2_0,.int .i64 a2_1,.int .i64 a2_2,.int .i64 0,.string (⟨#[]⟩ : ByteArray),.string (⟨#[]⟩ : ByteArray),.slice none 0 0]) ?_ 3 _ rfl;(with_reducible repeat (first | refine blk_drewN ?_ _ | refine blk_drew ?_ | refine blk_alloc ?_ _));refine blk_put (cs:=#[.string a2_0,.int .i64 a2_1,.int .i64 0,.int .i64 0,.string (⟨#[]⟩ : ByteArray),.string (⟨#[]⟩ : ByteArray),.slice none 0 0]) ?_ 2 _ rfl;(with_reducible repeat (first | refine blk_drewN ?_ _ | refine blk_drew ?_ | refine blk_alloc ?_ _));refine blk_put (cs:=#[.string a2_0,.int .i64 0,.int .i64 0,.int .i64 0,.string (⟨#[]⟩ : ByteArray),.string (⟨#[]⟩ : ByteArray),.slice none 0 0]) ?_ 1 _ rfl;(with_reducible repeat (first | refine blk_drewN ?_ _ | refine blk_drew ?_ | refine blk_alloc ?_ _));refine blk_put (cs:=#[.string (⟨#[]⟩ : ByteArray),.int .i64 0,.int .i64 0,.int .i64 0,.string (⟨#[]⟩ : ByteArray),.string (⟨#[]⟩ : ByteArray),.slice none 0 0]) ?_ 0 _ rfl;(with_reducible repeat (first | refine blk_drewN ?_ _ | refine blk_drew ?_ | refine blk_alloc ?_ _));exact BK106.out⟩,⟨by repeat (first | (with_reducible first | exact HB.out | apply below_alloc | apply pw_below_drewN | apply below_drew1 | refine below_set ?_ GE101.out | refine below_set ?_ GE106.out) | exact HB.out)⟩⟩
  case round =>
   clear H'
   try clear c1
   try clear p2
   try clear c3
   try clear c5
   try clear c11
   try clear hcz12_0
   try clear hcz12_1
   try clear hcz12_2
   try clear hcz12_3
   try clear hcz12_4
   try clear hcz12_5
   try clear hcz12_6
   try clear hcz7_0
   try clear hcz7_1
   try clear hcz7_2
   try clear hcz7_3
   try clear hcz7_4
   try clear hcz7_5
   try clear hcz9_0
   try clear hcz9_1
   try clear hcz9_2
   try clear hcz9_3
   try clear hcz9_4
   try clear hcz9_5
   try clear hfz12_0
   try clear hfz12_1
   try clear hfz12_2
   try clear hfz12_3
   try clear hfz12_4
   try clear hfz12_5
   try clear hfz12_6
   try clear hfz7_0
   try clear hfz7_1
   try clear hfz7_2
   try clear hfz7_3
   try clear hfz7_4
   try clear hfz7_5
   try clear hfz9_0
   try clear hfz9_1
   try clear hfz9_2
   try clear hfz9_3
   try clear hfz9_4
   try clear hfz9_5
   obtain ⟨x8_1,x22_1,rfl,HA,HK1,HO_8,BK101,BK106,HB⟩:=hrel
   cases gk with
   | zero => exact absurd HA.out (by simp [mvs_Downgrade.l0])
   | succ k1 =>
    have H:=HA.out
    clear HA
    simp only [mvs_Downgrade.l0] at H
    by_cases c13 : x22_1 < (l0.length : Int)
    ·rw [if_pos c13] at H
     have c13b0 : decide (x22_1 < (l0.length : Int)) = true:=decide_eq_true c13
     clear c13
     by_cases c14 : 0 ≤ x22_1
     ·rw [if_pos c14] at H
      have c14b0 : decide (0 ≤ x22_1) = true:=decide_eq_true c14
      clear c14
      by_cases c15 : x22_1 < (l0.length : Int)
      ·rw [if_pos c15] at H
       have c15b0 : decide (x22_1 < (l0.length : Int)) = true:=decide_eq_true c15
       clear c15
       obtain ⟨t109,A160,H⟩:=Option.bind_eq_some_iff.mp H
       have A16:=Aside0.mk A160
       clear A160
       by_cases c17 : t109 = true
       ·subst c17
        rw [if_pos rfl] at H
        obtain ⟨⟨t110,t111,t112,t113,t114,t115,t116⟩,A180,H⟩:=Option.bind_eq_some_iff.mp H
        dsimp only at H
        have A18:=Aside0.mk A180
        clear A180
        by_cases c19 : t116 = true
        ·subst c19
         rw [if_pos rfl] at H
         by_cases c20 : x8_1.length < 1954687338268
         ·rw [if_pos c20] at H
          have LMc20:=Aside0.mk c20
          clear c20
          obtain ⟨y117,hy117⟩ : ∃ y_ : List (S41),y_ = (x8_1 ++ [(⟨t110,(⟨t111,t112,t113,t114,t115⟩ : S24)⟩ : S41)]):=⟨_,rfl⟩
          replace H : (mvs_Downgrade.l0 k1 y117 l0 (l0.length : Int) (wrap64 (x22_1 + 1)) a2_0 a2_1 a2_2 a2_3 a2_4 a2_5 l1) = some r:=by first | (rw [hy117];with_reducible exact H) | (have H2_:=(Option.bind_some _ _).symm.trans H;rw [hy117];with_reducible exact H2_) | (have H2_:=(Option.bind_some _ _).symm.trans H;with_reducible exact H2_) | with_reducible exact H | (rw [hy117];exact H) | exact H
          have Ny117:=Aside0.mk hy117
          clear hy117
          have H':=Aside0.mk H
          clear H
          have p107 : 0 ≤ (x22_1 : Int):=of_decide_eq_true q1_
          have q107 : x22_1 < (l0.length : Int):=of_decide_eq_true q1_
          obtain ⟨ad107,e107,hx107_0,hx107_1,hx107_2,hx107_3,hx107_4,hx107_5⟩:=at_T41 HR0.out x22_1 p107 q107
          cases e107
          replace hx107_0:=(HB.out.cell (World.block_lt_of_cell? w _ hx107_0)).trans hx107_0
          replace hx107_1:=(HB.out.cell (World.block_lt_of_cell? w _ hx107_1)).trans hx107_1
          replace hx107_2:=(HB.out.cell (World.block_lt_of_cell? w _ hx107_2)).trans hx107_2
          replace hx107_3:=(HB.out.cell (World.block_lt_of_cell? w _ hx107_3)).trans hx107_3
          replace hx107_4:=(HB.out.cell (World.block_lt_of_cell? w _ hx107_4)).trans hx107_4
          replace hx107_5:=(HB.out.cell (World.block_lt_of_cell? w _ hx107_5)).trans hx107_5
          replace p107:=eq_true p107
          replace q107:=eq_true q107
          go_wp2_with (first | ((with_reducible refine gate_dst (N:=10) rfl ?_);refine box_event ?hg (N:=10) ?hd (cs:=#[.string (⟨#[]⟩ : ByteArray),.int .i64 0,.int .i64 0,.int .i64 0,.string (⟨#[]⟩ : ByteArray),.string (⟨#[]⟩ : ByteArray)]) (t:=41) ?hr ?_;(case hd => rfl);(case hg => rfl);(case hr => first | (go_simp;done) | (go_simp;rfl));intro gb108 hg w21 hbox hb;replace HO_8:=Aside0.mk (Kd.R_below (Kd.R_elderB q30_ gb108 (Nat.le_of_eq hg.symm)) hb);have BK108:=Aside0.mk (hbox);have GW108:=Aside0.mk ((q15_ : w.heap.size ≤ gb108));have GE108:=Aside0.mk ((q15_ : w.heap.size ≤ gb108));replace HB:=Aside0.mk (below_step bh_ hb);have NB101_108:=Aside0.mk ((q45_ : gb101 ≠ gb108));have NB108_101:=Aside0.mk ((q46_ : gb108 ≠ gb101));replace BK101:=Aside0.mk (blk_below bk101_ hb);have NB106_108:=Aside0.mk ((q57_ : gb106 ≠ gb108));have NB108_106:=Aside0.mk ((q58_ : gb108 ≠ gb106));replace BK106:=Aside0.mk (blk_below bk106_ hb);clear hb hbox hg;have hnb22:=NB108_101.out;have hnc22:=NB101_108.out;have hnb23:=NB108_106.out;have hnc23:=NB106_108.out;have hcz24_0 : w21.cell? ⟨gb108,0,none⟩ = some (.string (⟨#[]⟩ : ByteArray)):=(blk_cell BK108.out 0).trans rfl;have hcz24_1 : w21.cell? ⟨gb108,1,none⟩ = some (.int .i64 0):=(blk_cell BK108.out 1).trans rfl;have hcz24_2 : w21.cell? ⟨gb108,2,none⟩ = some (.int .i64 0):=(blk_cell BK108.out 2).trans rfl;have hcz24_3 : w21.cell? ⟨gb108,3,none⟩ = some (.int .i64 0):=(blk_cell BK108.out 3).trans rfl;have hcz24_4 : w21.cell? ⟨gb108,4,none⟩ = some (.string (⟨#[]⟩ : ByteArray)):=(blk_cell BK108.out 4).trans rfl;have hcz24_5 : w21.cell? ⟨gb108,5,none⟩ = some (.string (⟨#[]⟩ : ByteArray)):=(blk_cell BK108.out 5).trans rfl;have hfz24_0:=blk_frozen BK108.out 0;have hfz24_1:=blk_frozen BK108.out 1;have hfz24_2:=blk_frozen BK108.out 2;have hfz24_3:=blk_frozen BK108.out 3;have hfz24_4:=blk_frozen BK108.out 4;have hfz24_5:=blk_frozen BK108.out 5;have hnb25:=NB106_101.out;have hnc25:=NB101_106.out;have hcz26_0 : w21.cell? ⟨gb106,0,none⟩ = some (.string a2_0):=(blk_cell BK106.out 0).trans rfl;have hcz26_1 : w21.cell? ⟨gb106,1,none⟩ = some (.int .i64 a2_1):=(blk_cell BK106.out 1).trans rfl;have hcz26_2 : w21.cell? ⟨gb106,2,none⟩ = some (.int .i64 a2_2):=(blk_cell BK106.out 2).trans rfl;have hcz26_3 : w21.cell? ⟨gb106,3,none⟩ = some (.int .i64 a2_3):=(blk_cell BK106.out 3).trans rfl;have hcz26_4 : w21.cell? ⟨gb106,4,none⟩ = some (.string a2_4):=(blk_cell BK106.out 4).trans rfl;have hcz26_5 : w21.cell? ⟨gb106,5,none⟩ = some (.string a2_5):=(blk_cell BK106.out 5).trans rfl;have hcz26_6 : w21.cell? ⟨gb106,6,none⟩ = some (.slice A1 l1.length c1):=(blk_cell BK106.out 6).trans rfl;have hfz26_0:=blk_frozen BK106.out 0;have hfz26_1:=blk_frozen BK106.out 1;have hfz26_2:=blk_frozen BK106.out 2;have hfz26_3:=blk_frozen BK106.out 3;have hfz26_4:=blk_frozen BK106.out 4;have hfz26_5:=blk_frozen BK106.out 5;have hfz26_6:=blk_frozen BK106.out 6) | ((with_reducible refine gate_callee (f:=62) rfl ?_);refine goesL_ (some 28) rfl rfl Tryz.func62 q4_ rfl #[.agg #[.string a2_0,.int .i64 a2_1,.int .i64 a2_2,.int .i64 a2_3,.string a2_4,.string a2_5,.slice A1 l1.length c1],.agg #[.string ((rd_T41 l0 x22_1).f0),.int .i64 ((rd_T41 l0 x22_1).f1.f0),.int .i64 ((rd_T41 l0 x22_1).f1.f1),.int .i64 ((rd_T41 l0 x22_1).f1.f2),.string ((rd_T41 l0 x22_1).f1.f3),.string ((rd_T41 l0 x22_1).f1.f4)]] rfl q2_ ?_;(with_reducible refine (mvs_bound_out.calls a2_0 a2_1 a2_2 a2_3 a2_4 a2_5 _ _ l1 ((rd_T41 l0 x22_1).f0) ((rd_T41 l0 x22_1).f1.f0) ((rd_T41 l0 x22_1).f1.f1) ((rd_T41 l0 x22_1).f1.f2) ((rd_T41 l0 x22_1).f1.f3) ((rd_T41 l0 x22_1).f1.f4) true _ ?side1 ?side2 A16.out ?sideG).mono ?_);(case sideG => first | exact HG.out | exact Env.below HG.out bh_);(case side1 => exact Kd.C_below HR1.out bh_);(case side2 => exact HC1.out);rintro e w27 ⟨rfl,hb⟩;refine ⟨_,rfl,?_⟩;replace HO_8:=Aside0.mk (Kd.R_below q16_ hb);replace BK101:=Aside0.mk (blk_below (g:=gb101) (o:=.cells #[.string a2_0,.int .i64 a2_1,.int .i64 a2_2,.int .i64 a2_3,.string a2_4,.string a2_5] 41 (0,0)) q7_ hb);replace BK106:=Aside0.mk (blk_below (g:=gb106) (o:=.cells #[.string a2_0,.int .i64 a2_1,.int .i64 a2_2,.int .i64 a2_3,.string a2_4,.string a2_5,.slice A1 l1.length c1] 91 (0,0)) q9_ hb);replace BK108:=Aside0.mk (blk_below (g:=gb108) (o:=.cells #[.string ((rd_T41 l0 x22_1).f0),.int .i64 ((rd_T41 l0 x22_1).f1.f0),.int .i64 ((rd_T41 l0 x22_1).f1.f1),.int .i64 ((rd_T41 l0 x22_1).f1.f2),.string ((rd_T41 l0 x22_1).f1.f3),.string ((rd_T41 l0 x22_1).f1.f4)] 41 (0,0)) q6_ hb);replace HB:=Aside0.mk (below_step bh_ hb);(try clear hb);(try clear hb2);(try clear hk);(try clear hi);have hcz28_0 : w27.cell? ⟨gb106,0,none⟩ = some (.string a2_0):=(blk_cell BK106.out 0).trans rfl;have hcz28_1 : w27.cell? ⟨gb106,1,none⟩ = some (.int .i64 a2_1):=(blk_cell BK106.out 1).trans rfl;have hcz28_2 : w27.cell? ⟨gb106,2,none⟩ = some (.int .i64 a2_2):=(blk_cell BK106.out 2).trans rfl;have hcz28_3 : w27.cell? ⟨gb106,3,none⟩ = some (.int .i64 a2_3):=(blk_cell BK106.out 3).trans rfl;have hcz28_4 : w27.cell? ⟨gb106,4,none⟩ = some (.string a2_4):=(blk_cell BK106.out 4).trans rfl;have hcz28_5 : w27.cell? ⟨gb106,5,none⟩ = some (.string a2_5):=(blk_cell BK106.out 5).trans rfl;have hcz28_6 : w27.cell? ⟨gb106,6,none⟩ = some (.slice A1 l1.length c1):=(blk_cell BK106.out 6).trans rfl;have hfz28_0:=blk_frozen BK106.out 0;have hfz28_1:=blk_frozen BK106.out 1;have hfz28_2:=blk_frozen BK106.out 2;have hfz28_3:=blk_frozen BK106.out 3;have hfz28_4:=blk_frozen BK106.out 4;have hfz28_5:=blk_frozen BK106.out 5;have hfz28_6:=blk_frozen BK106.out 6;have hcz29_0 : w27.cell? ⟨gb108,0,none⟩ = some (.string ((rd_T41 l0 x22_1).f0)):=(blk_cell BK108.out 0).trans rfl;have hcz29_1 : w27.cell? ⟨gb108,1,none⟩ = some (.int .i64 ((rd_T41 l0 x22_1).f1.f0)):=(blk_cell BK108.out 1).trans rfl;have hcz29_2 : w27.cell? ⟨gb108,2,none⟩ = some (.int .i64 ((rd_T41 l0 x22_1).f1.f1)):=(blk_cell BK108.out 2).trans rfl;have hcz29_3 : w27.cell? ⟨gb108,3,none⟩ = some (.int .i64 ((rd_T41 l0 x22_1).f1.f2)):=(blk_cell BK108.out 3).trans rfl;have hcz29_4 : w27.cell? ⟨gb108,4,none⟩ = some (.string ((rd_T41 l0 x22_1).f1.f3)):=(blk_cell BK108.out 4).trans rfl;have hcz29_5 : w27.cell? ⟨gb108,5,none⟩ = some (.string ((rd_T41 l0 x22_1).f1.f4)):=(blk_cell BK108.out 5).trans rfl;have hfz29_0:=blk_frozen BK108.out 0;have hfz29_1:=blk_frozen BK108.out 1;have hfz29_2:=blk_frozen BK108.out 2;have hfz29_3:=blk_frozen BK108.out 3;have hfz29_4:=blk_frozen BK108.out 4;have hfz29_5:=blk_frozen BK108.out 5) | ((with_reducible refine gate_callee (f:=63) rfl ?_);refine goesL_ (some 32) rfl rfl Tryz.func63 q4_ rfl #[.agg #[.string a2_0,.int .i64 a2_1,.int .i64 a2_2,.int .i64 a2_3,.string a2_4,.string a2_5,.slice A1 l1.length c1],.agg #[.string ((rd_T41 l0 x22_1).f0),.int .i64 ((rd_T41 l0 x22_1).f1.f0),.int .i64 ((rd_T41 l0 x22_1).f1.f1),.int .i64 ((rd_T41 l0 x22_1).f1.f2),.string ((rd_T41 l0 x22_1).f1.f3),.string ((rd_T41 l0 x22_1).f1.f4)]] rfl q2_ ?_;(with_reducible refine (mvs_bound_lower.calls a2_0 a2_1 a2_2 a2_3 a2_4 a2_5 _ _ l1 ((rd_T41 l0 x22_1).f0) ((rd_T41 l0 x22_1).f1.f0) ((rd_T41 l0 x22_1).f1.f1) ((rd_T41 l0 x22_1).f1.f2) ((rd_T41 l0 x22_1).f1.f3) ((rd_T41 l0 x22_1).f1.f4) t110 t111 t112 t113 t114 t115 true _ ?side1 ?side2 A18.out ?sideG).mono ?_);(case sideG => first | exact HG.out | exact Env.below HG.out bh_);(case side1 => repeat (first | exact (Kd.C_below HR1.out HB.out) | (with_reducible refine Kd.C_alloc ?_ _) | (with_reducible refine Kd.C_drewN ?_ _) | (with_reducible refine Kd.C_drew ?_)));(case side2 => exact HC1.out);rintro e w30 ⟨rfl,hb⟩;refine ⟨_,rfl,?_⟩;replace HO_8:=Aside0.mk (Kd.R_below q30_ hb);replace BK101:=Aside0.mk (blk_below bk101_ hb);replace BK106:=Aside0.mk (blk_below bk106_ hb);replace BK108:=Aside0.mk (blk_below bk108_ hb);replace HB:=Aside0.mk (below_step bh_ hb);(try clear hb);(try clear hb2);(try clear hk);(try clear hi);have hcz31_0 : w30.cell? ⟨gb108,0,none⟩ = some (.string ((rd_T41 l0 x22_1).f0)):=(blk_cell BK108.out 0).trans rfl;have hcz31_1 : w30.cell? ⟨gb108,1,none⟩ = some (.int .i64 ((rd_T41 l0 x22_1).f1.f0)):=(blk_cell BK108.out 1).trans rfl;have hcz31_2 : w30.cell? ⟨gb108,2,none⟩ = some (.int .i64 ((rd_T41 l0 x22_1).f1.f1)):=(blk_cell BK108.out 2).trans rfl;have hcz31_3 : w30.cell? ⟨gb108,3,none⟩ = some (.int .i64 ((rd_T41 l0 x22_1).f1.f2)):=(blk_cell BK108.out 3).trans rfl;have hcz31_4 : w30.cell? ⟨gb108,4,none⟩ = some (.string ((rd_T41 l0 x22_1).f1.f3)):=(blk_cell BK108.out 4).trans rfl;have hcz31_5 : w30.cell? ⟨gb108,5,none⟩ = some (.string ((rd_T41 l0 x22_1).f1.f4)):=(blk_cell BK108.out 5).trans rfl;have hfz31_0:=blk_frozen BK108.out 0;have hfz31_1:=blk_frozen BK108.out 1;have hfz31_2:=blk_frozen BK108.out 2;have hfz31_3:=blk_frozen BK108.out 3;have hfz31_4:=blk_frozen BK108.out 4;have hfz31_5:=blk_frozen BK108.out 5) | ((with_reducible refine gate_builtin (b:=.append) (xs:=#[.tmp 36,.tmp 38]) rfl ?_);at_builtin;refine Kd.R_append k41 (w0:=w) w.heap.size rfl (.tmp 36) (.tmp 38) 38 41 (.agg #[(.string ⟨#[]⟩),(.int .i64 0),(.int .i64 0),(.int .i64 0),(.string ⟨#[]⟩),(.string ⟨#[]⟩)]) 72 rfl Tryz.underlying38 info41 rfl q33_ q5_ u8 x8_1 (⟨t110,(⟨t111,t112,t113,t114,t115⟩ : S24)⟩ : S41) [.string t110,.int .i64 t111,.int .i64 t112,.int .i64 t113,.string t114,.string t115] (fun k_ => k_ ≠ gb101 ∧ k_ ≠ gb108) (fun _ => False) rfl (by first | (go_simp;done) | (go_simp;rfl)) ?aP (fun _ hk => hk.elim) ?aF ?aO ?aB ?aS ?aL ?_;(case aP => exact k41_mkM _ _ _ (⟨t110,(⟨t111,t112,t113,t114,t115⟩ : S24)⟩ : S41));(case aB => exact bh_);(case aF => exact (fun k_ hk => ⟨Kd.freshB (g:=gb101) (o:=.cells #[.string a2_0,.int .i64 a2_1,.int .i64 a2_2,.int .i64 a2_3,.string a2_4,.string a2_5] 41 (0,0)) q7_ k_ hk,Kd.freshB (g:=gb108) (o:=.cells #[.string t110,.int .i64 t111,.int .i64 t112,.int .i64 t113,.string t114,.string t115] 41 (0,0)) q14_ k_ hk⟩));(case aO => exact (by (with_reducible repeat (first | apply Kd.R_alloc | apply Kd.R_drewN | apply Kd.R_drew));exact Kd.R_mono (Kd.R_far (p:=⟨gb108,5,none⟩) (Kd.R_far (p:=⟨gb108,4,none⟩) (Kd.R_far (p:=⟨gb108,3,none⟩) (Kd.R_far (p:=⟨gb108,2,none⟩) (Kd.R_far (p:=⟨gb108,1,none⟩) (Kd.R_far (p:=⟨gb108,0,none⟩) (Kd.R_mono HO_8.out (fun k_ hk => (⟨hk,hk.2⟩ : _ ∧ k_ ≠ gb108))) (fun _ hk => hk.2) (.string t110)) (fun _ hk => hk.2) (.int .i64 t111)) (fun _ hk => hk.2) (.int .i64 t112)) (fun _ hk => hk.2) (.int .i64 t113)) (fun _ hk => hk.2) (.string t114)) (fun _ hk => hk.2) (.string t115)) (fun _ hk => ⟨hk.1.1,hk.1.2⟩)));(case aS => exact (below_size bh_));(case aL => have:=LMc20.out;omega);intro v118 w32 ho hb hg hat;rw [← Ny117.out] at ho;replace BK101:=Aside0.mk (blk_grown (g:=gb101) (o:=.cells #[.string a2_0,.int .i64 a2_1,.int .i64 a2_2,.int .i64 a2_3,.string a2_4,.string a2_5] 41 (0,0)) q7_ hg (Kd.R_away HO_8.out (fun _ hk => hk.1)));replace BK106:=Aside0.mk (blk_grown (g:=gb106) (o:=.cells #[.string a2_0,.int .i64 a2_1,.int .i64 a2_2,.int .i64 a2_3,.string a2_4,.string a2_5,.slice A1 l1.length c1] 91 (0,0)) q9_ hg (Kd.R_ne HO_8.out BK106.out q33_));replace BK108:=Aside0.mk (blk_grown (g:=gb108) (o:=.cells #[.string t110,.int .i64 t111,.int .i64 t112,.int .i64 t113,.string t114,.string t115] 41 (0,0)) q14_ hg (Kd.R_away HO_8.out (fun _ hk => hk.2)));replace HB:=Aside0.mk (hb);have HO119:=Aside0.mk (ho);clear HO_8;clear ho hb hg hat))
          go_roundg k1
          case measure => have:=HK1.out;omega
          case rel => exact ⟨(y117),(wrap64 (x22_1 + 1)),q3_,H',⟨by have:=HK1.out;omega⟩,⟨by (with_reducible repeat (first | apply Kd.R_alloc | apply Kd.R_drewN | apply Kd.R_drew));exact Kd.R_mono HO119.out (fun _ hk => hk.1)⟩,⟨by (with_reducible repeat (first | refine blk_drewN ?_ _ | refine blk_drew ?_ | refine blk_alloc ?_ _));exact BK101.out⟩,⟨by (with_reducible repeat (first | refine blk_drewN ?_ _ | refine blk_drew ?_ | refine blk_alloc ?_ _));exact BK106.out⟩,⟨by repeat (first | (with_reducible first | exact HB.out | apply below_alloc | apply pw_below_drewN | apply below_drew1 | refine below_set ?_ GE101.out | refine below_set ?_ GE106.out | refine below_set ?_ GE108.out) | exact HB.out)⟩⟩
         ·rw [if_neg c20] at H
          exact absurd H q21_
        ·replace c19:=Bool.eq_false_iff.mpr c19
         subst c19
         rw [if_neg (show ¬ (false = true) by decide)] at H
         have H':=Aside0.mk H
         clear H
         have p107 : 0 ≤ (x22_1 : Int):=of_decide_eq_true q1_
         have q107 : x22_1 < (l0.length : Int):=of_decide_eq_true q1_
         obtain ⟨ad107,e107,hx107_0,hx107_1,hx107_2,hx107_3,hx107_4,hx107_5⟩:=at_T41 HR0.out x22_1 p107 q107
         cases e107
         replace hx107_0:=(HB.out.cell (World.block_lt_of_cell? w _ hx107_0)).trans hx107_0
         replace hx107_1:=(HB.out.cell (World.block_lt_of_cell? w _ hx107_1)).trans hx107_1
         replace hx107_2:=(HB.out.cell (World.block_lt_of_cell? w _ hx107_2)).trans hx107_2
         replace hx107_3:=(HB.out.cell (World.block_lt_of_cell? w _ hx107_3)).trans hx107_3
         replace hx107_4:=(HB.out.cell (World.block_lt_of_cell? w _ hx107_4)).trans hx107_4
         replace hx107_5:=(HB.out.cell (World.block_lt_of_cell? w _ hx107_5)).trans hx107_5
         replace p107:=eq_true p107
         replace q107:=eq_true q107
         go_wp2_with (first | ((with_reducible refine gate_dst (N:=10) rfl ?_);refine box_event ?hg (N:=10) ?hd (cs:=#[.string (⟨#[]⟩ : ByteArray),.int .i64 0,.int .i64 0,.int .i64 0,.string (⟨#[]⟩ : ByteArray),.string (⟨#[]⟩ : ByteArray)]) (t:=41) ?hr ?_;(case hd => rfl);(case hg => rfl);(case hr => first | (go_simp;done) | (go_simp;rfl));intro gb108 hg w33 hbox hb;replace HO_8:=Aside0.mk (Kd.R_below (Kd.R_elderB q30_ gb108 (Nat.le_of_eq hg.symm)) hb);have BK108:=Aside0.mk (hbox);have GW108:=Aside0.mk ((q15_ : w.heap.size ≤ gb108));have GE108:=Aside0.mk ((q15_ : w.heap.size ≤ gb108));replace HB:=Aside0.mk (below_step bh_ hb);have NB101_108:=Aside0.mk ((q45_ : gb101 ≠ gb108));have NB108_101:=Aside0.mk ((q46_ : gb108 ≠ gb101));replace BK101:=Aside0.mk (blk_below bk101_ hb);have NB106_108:=Aside0.mk ((q57_ : gb106 ≠ gb108));have NB108_106:=Aside0.mk ((q58_ : gb108 ≠ gb106));replace BK106:=Aside0.mk (blk_below bk106_ hb);clear hb hbox hg;have hnb34:=NB108_101.out;have hnc34:=NB101_108.out;have hnb35:=NB108_106.out;have hnc35:=NB106_108.out;have hcz36_0 : w33.cell? ⟨gb108,0,none⟩ = some (.string (⟨#[]⟩ : ByteArray)):=(blk_cell BK108.out 0).trans rfl;have hcz36_1 : w33.cell? ⟨gb108,1,none⟩ = some (.int .i64 0):=(blk_cell BK108.out 1).trans rfl;have hcz36_2 : w33.cell? ⟨gb108,2,none⟩ = some (.int .i64 0):=(blk_cell BK108.out 2).trans rfl;have hcz36_3 : w33.cell? ⟨gb108,3,none⟩ = some (.int .i64 0):=(blk_cell BK108.out 3).trans rfl;have hcz36_4 : w33.cell? ⟨gb108,4,none⟩ = some (.string (⟨#[]⟩ : ByteArray)):=(blk_cell BK108.out 4).trans rfl;have hcz36_5 : w33.cell? ⟨gb108,5,none⟩ = some (.string (⟨#[]⟩ : ByteArray)):=(blk_cell BK108.out 5).trans rfl;have hfz36_0:=blk_frozen BK108.out 0;have hfz36_1:=blk_frozen BK108.out 1;have hfz36_2:=blk_frozen BK108.out 2;have hfz36_3:=blk_frozen BK108.out 3;have hfz36_4:=blk_frozen BK108.out 4;have hfz36_5:=blk_frozen BK108.out 5;have hnb37:=NB106_101.out;have hnc37:=NB101_106.out;have hcz38_0 : w33.cell? ⟨gb106,0,none⟩ = some (.string a2_0):=(blk_cell BK106.out 0).trans rfl;have hcz38_1 : w33.cell? ⟨gb106,1,none⟩ = some (.int .i64 a2_1):=(blk_cell BK106.out 1).trans rfl;have hcz38_2 : w33.cell? ⟨gb106,2,none⟩ = some (.int .i64 a2_2):=(blk_cell BK106.out 2).trans rfl;have hcz38_3 : w33.cell? ⟨gb106,3,none⟩ = some (.int .i64 a2_3):=(blk_cell BK106.out 3).trans rfl;have hcz38_4 : w33.cell? ⟨gb106,4,none⟩ = some (.string a2_4):=(blk_cell BK106.out 4).trans rfl;have hcz38_5 : w33.cell? ⟨gb106,5,none⟩ = some (.string a2_5):=(blk_cell BK106.out 5).trans rfl;have hcz38_6 : w33.cell? ⟨gb106,6,none⟩ = some (.slice A1 l1.length c1):=(blk_cell BK106.out 6).trans rfl;have hfz38_0:=blk_frozen BK106.out 0;have hfz38_1:=blk_frozen BK106.out 1;have hfz38_2:=blk_frozen BK106.out 2;have hfz38_3:=blk_frozen BK106.out 3;have hfz38_4:=blk_frozen BK106.out 4;have hfz38_5:=blk_frozen BK106.out 5;have hfz38_6:=blk_frozen BK106.out 6) | ((with_reducible refine gate_callee (f:=62) rfl ?_);refine goesL_ (some 28) rfl rfl Tryz.func62 q4_ rfl #[.agg #[.string a2_0,.int .i64 a2_1,.int .i64 a2_2,.int .i64 a2_3,.string a2_4,.string a2_5,.slice A1 l1.length c1],.agg #[.string ((rd_T41 l0 x22_1).f0),.int .i64 ((rd_T41 l0 x22_1).f1.f0),.int .i64 ((rd_T41 l0 x22_1).f1.f1),.int .i64 ((rd_T41 l0 x22_1).f1.f2),.string ((rd_T41 l0 x22_1).f1.f3),.string ((rd_T41 l0 x22_1).f1.f4)]] rfl q2_ ?_;(with_reducible refine (mvs_bound_out.calls a2_0 a2_1 a2_2 a2_3 a2_4 a2_5 _ _ l1 ((rd_T41 l0 x22_1).f0) ((rd_T41 l0 x22_1).f1.f0) ((rd_T41 l0 x22_1).f1.f1) ((rd_T41 l0 x22_1).f1.f2) ((rd_T41 l0 x22_1).f1.f3) ((rd_T41 l0 x22_1).f1.f4) true _ ?side1 ?side2 A16.out ?sideG).mono ?_);(case sideG => first | exact HG.out | exact Env.below HG.out bh_);(case side1 => exact Kd.C_below HR1.out bh_);(case side2 => exact HC1.out);rintro e w39 ⟨rfl,hb⟩;refine ⟨_,rfl,?_⟩;replace HO_8:=Aside0.mk (Kd.R_below q16_ hb);replace BK101:=Aside0.mk (blk_below (g:=gb101) (o:=.cells #[.string a2_0,.int .i64 a2_1,.int .i64 a2_2,.int .i64 a2_3,.string a2_4,.string a2_5] 41 (0,0)) q7_ hb);replace BK106:=Aside0.mk (blk_below (g:=gb106) (o:=.cells #[.string a2_0,.int .i64 a2_1,.int .i64 a2_2,.int .i64 a2_3,.string a2_4,.string a2_5,.slice A1 l1.length c1] 91 (0,0)) q9_ hb);replace BK108:=Aside0.mk (blk_below (g:=gb108) (o:=.cells #[.string ((rd_T41 l0 x22_1).f0),.int .i64 ((rd_T41 l0 x22_1).f1.f0),.int .i64 ((rd_T41 l0 x22_1).f1.f1),.int .i64 ((rd_T41 l0 x22_1).f1.f2),.string ((rd_T41 l0 x22_1).f1.f3),.string ((rd_T41 l0 x22_1).f1.f4)] 41 (0,0)) q6_ hb);replace HB:=Aside0.mk (below_step bh_ hb);(try clear hb);(try clear hb2);(try clear hk);(try clear hi);have hcz40_0 : w39.cell? ⟨gb106,0,none⟩ = some (.string a2_0):=(blk_cell BK106.out 0).trans rfl;have hcz40_1 : w39.cell? ⟨gb106,1,none⟩ = some (.int .i64 a2_1):=(blk_cell BK106.out 1).trans rfl;have hcz40_2 : w39.cell? ⟨gb106,2,none⟩ = some (.int .i64 a2_2):=(blk_cell BK106.out 2).trans rfl;have hcz40_3 : w39.cell? ⟨gb106,3,none⟩ = some (.int .i64 a2_3):=(blk_cell BK106.out 3).trans rfl;have hcz40_4 : w39.cell? ⟨gb106,4,none⟩ = some (.string a2_4):=(blk_cell BK106.out 4).trans rfl;have hcz40_5 : w39.cell? ⟨gb106,5,none⟩ = some (.string a2_5):=(blk_cell BK106.out 5).trans rfl;have hcz40_6 : w39.cell? ⟨gb106,6,none⟩ = some (.slice A1 l1.length c1):=(blk_cell BK106.out 6).trans rfl;have hfz40_0:=blk_frozen BK106.out 0;have hfz40_1:=blk_frozen BK106.out 1;have hfz40_2:=blk_frozen BK106.out 2;have hfz40_3:=blk_frozen BK106.out 3;have hfz40_4:=blk_frozen BK106.out 4;have hfz40_5:=blk_frozen BK106.out 5;have hfz40_6:=blk_frozen BK106.out 6;have hcz41_0 : w39.cell? ⟨gb108,0,none⟩ = some (.string ((rd_T41 l0 x22_1).f0)):=(blk_cell BK108.out 0).trans rfl;have hcz41_1 : w39.cell? ⟨gb108,1,none⟩ = some (.int .i64 ((rd_T41 l0 x22_1).f1.f0)):=(blk_cell BK108.out 1).trans rfl;have hcz41_2 : w39.cell? ⟨gb108,2,none⟩ = some (.int .i64 ((rd_T41 l0 x22_1).f1.f1)):=(blk_cell BK108.out 2).trans rfl;have hcz41_3 : w39.cell? ⟨gb108,3,none⟩ = some (.int .i64 ((rd_T41 l0 x22_1).f1.f2)):=(blk_cell BK108.out 3).trans rfl;have hcz41_4 : w39.cell? ⟨gb108,4,none⟩ = some (.string ((rd_T41 l0 x22_1).f1.f3)):=(blk_cell BK108.out 4).trans rfl;have hcz41_5 : w39.cell? ⟨gb108,5,none⟩ = some (.string ((rd_T41 l0 x22_1).f1.f4)):=(blk_cell BK108.out 5).trans rfl;have hfz41_0:=blk_frozen BK108.out 0;have hfz41_1:=blk_frozen BK108.out 1;have hfz41_2:=blk_frozen BK108.out 2;have hfz41_3:=blk_frozen BK108.out 3;have hfz41_4:=blk_frozen BK108.out 4;have hfz41_5:=blk_frozen BK108.out 5) | ((with_reducible refine gate_callee (f:=63) rfl ?_);refine goesL_ (some 32) rfl rfl Tryz.func63 q4_ rfl #[.agg #[.string a2_0,.int .i64 a2_1,.int .i64 a2_2,.int .i64 a2_3,.string a2_4,.string a2_5,.slice A1 l1.length c1],.agg #[.string ((rd_T41 l0 x22_1).f0),.int .i64 ((rd_T41 l0 x22_1).f1.f0),.int .i64 ((rd_T41 l0 x22_1).f1.f1),.int .i64 ((rd_T41 l0 x22_1).f1.f2),.string ((rd_T41 l0 x22_1).f1.f3),.string ((rd_T41 l0 x22_1).f1.f4)]] rfl q2_ ?_;(with_reducible refine (mvs_bound_lower.calls a2_0 a2_1 a2_2 a2_3 a2_4 a2_5 _ _ l1 ((rd_T41 l0 x22_1).f0) ((rd_T41 l0 x22_1).f1.f0) ((rd_T41 l0 x22_1).f1.f1) ((rd_T41 l0 x22_1).f1.f2) ((rd_T41 l0 x22_1).f1.f3) ((rd_T41 l0 x22_1).f1.f4) t110 t111 t112 t113 t114 t115 false _ ?side1 ?side2 A18.out ?sideG).mono ?_);(case sideG => first | exact HG.out | exact Env.below HG.out bh_);(case side1 => repeat (first | exact (Kd.C_below HR1.out HB.out) | (with_reducible refine Kd.C_alloc ?_ _) | (with_reducible refine Kd.C_drewN ?_ _) | (with_reducible refine Kd.C_drew ?_)));(case side2 => exact HC1.out);rintro e w42 ⟨rfl,hb⟩;refine ⟨_,rfl,?_⟩;replace HO_8:=Aside0.mk (Kd.R_below q30_ hb);replace BK101:=Aside0.mk (blk_below bk101_ hb);replace BK106:=Aside0.mk (blk_below bk106_ hb);replace BK108:=Aside0.mk (blk_below bk108_ hb);replace HB:=Aside0.mk (below_step bh_ hb);(try clear hb);(try clear hb2);(try clear hk);(try clear hi);have hcz43_0 : w42.cell? ⟨gb108,0,none⟩ = some (.string ((rd_T41 l0 x22_1).f0)):=(blk_cell BK108.out 0).trans rfl;have hcz43_1 : w42.cell? ⟨gb108,1,none⟩ = some (.int .i64 ((rd_T41 l0 x22_1).f1.f0)):=(blk_cell BK108.out 1).trans rfl;have hcz43_2 : w42.cell? ⟨gb108,2,none⟩ = some (.int .i64 ((rd_T41 l0 x22_1).f1.f1)):=(blk_cell BK108.out 2).trans rfl;have hcz43_3 : w42.cell? ⟨gb108,3,none⟩ = some (.int .i64 ((rd_T41 l0 x22_1).f1.f2)):=(blk_cell BK108.out 3).trans rfl;have hcz43_4 : w42.cell? ⟨gb108,4,none⟩ = some (.string ((rd_T41 l0 x22_1).f1.f3)):=(blk_cell BK108.out 4).trans rfl;have hcz43_5 : w42.cell? ⟨gb108,5,none⟩ = some (.string ((rd_T41 l0 x22_1).f1.f4)):=(blk_cell BK108.out 5).trans rfl;have hfz43_0:=blk_frozen BK108.out 0;have hfz43_1:=blk_frozen BK108.out 1;have hfz43_2:=blk_frozen BK108.out 2;have hfz43_3:=blk_frozen BK108.out 3;have hfz43_4:=blk_frozen BK108.out 4;have hfz43_5:=blk_frozen BK108.out 5))
         go_roundg k1
         case measure => have:=HK1.out;omega
         case rel => exact ⟨(x8_1),(wrap64 (x22_1 + 1)),q3_,H',⟨by have:=HK1.out;omega⟩,⟨by (with_reducible repeat (first | apply Kd.R_alloc | apply Kd.R_drewN | apply Kd.R_drew));exact Kd.R_mono (Kd.R_far (p:=⟨gb108,5,none⟩) (Kd.R_far (p:=⟨gb108,4,none⟩) (Kd.R_far (p:=⟨gb108,3,none⟩) (Kd.R_far (p:=⟨gb108,2,none⟩) (Kd.R_far (p:=⟨gb108,1,none⟩) (Kd.R_far (p:=⟨gb108,0,none⟩) (Kd.R_mono HO_8.out (fun k_ hk => (⟨hk,hk.2⟩ : _ ∧ k_ ≠ gb108))) (fun _ hk => hk.2) (.string t110)) (fun _ hk => hk.2) (.int .i64 t111)) (fun _ hk => hk.2) (.int .i64 t112)) (fun _ hk => hk.2) (.int .i64 t113)) (fun _ hk => hk.2) (.string t114)) (fun _ hk => hk.2) (.string t115)) (fun _ hk => hk.1.1)⟩,⟨by (with_reducible repeat (first | refine blk_drewN ?_ _ | refine blk_drew ?_ | refine blk_alloc ?_ _));refine blk_far ?_ NB101_108.out _;(with_reducible repeat (first | refine blk_drewN ?_ _ | refine blk_drew ?_ | refine blk_alloc ?_ _));refine blk_far ?_ NB101_108.out _;(with_reducible repeat (first | refine blk_drewN ?_ _ | refine blk_drew ?_ | refine blk_alloc ?_ _));refine blk_far ?_ NB101_108.out _;(with_reducible repeat (first | refine blk_drewN ?_ _ | refine blk_drew ?_ | refine blk_alloc ?_ _));refine blk_far ?_ NB101_108.out _;(with_reducible repeat (first | refine blk_drewN ?_ _ | refine blk_drew ?_ | refine blk_alloc ?_ _));refine blk_far ?_ NB101_108.out _;(with_reducible repeat (first | refine blk_drewN ?_ _ | refine blk_drew ?_ | refine blk_alloc ?_ _));refine blk_far ?_ NB101_108.out _;(with_reducible repeat (first | refine blk_drewN ?_ _ | refine blk_drew ?_ | refine blk_alloc ?_ _));exact BK101.out⟩,⟨by (with_reducible repeat (first | refine blk_drewN ?_ _ | refine blk_drew ?_ | refine blk_alloc ?_ _));refine blk_far ?_ NB106_108.out _;(with_reducible repeat (first | refine blk_drewN ?_ _ | refine blk_drew ?_ | refine blk_alloc ?_ _));refine blk_far ?_ NB106_108.out _;(with_reducible repeat (first | refine blk_drewN ?_ _ | refine blk_drew ?_ | refine blk_alloc ?_ _));refine blk_far ?_ NB106_108.out _;(with_reducible repeat (first | refine blk_drewN ?_ _ | refine blk_drew ?_ | refine blk_alloc ?_ _));refine blk_far ?_ NB106_108.out _;(with_reducible repeat (first | refine blk_drewN ?_ _ | refine blk_drew ?_ | refine blk_alloc ?_ _));refine blk_far ?_ NB106_108.out _;(with_reducible repeat (first | refine blk_drewN ?_ _ | refine blk_drew ?_ | refine blk_alloc ?_ _));refine blk_far ?_ NB106_108.out _;(with_reducible repeat (first | refine blk_drewN ?_ _ | refine blk_drew ?_ | refine blk_alloc ?_ _));exact BK106.out⟩,⟨by repeat (first | (with_reducible first | exact HB.out | apply below_alloc | apply pw_below_drewN | apply below_drew1 | refine below_set ?_ GE101.out | refine below_set ?_ GE106.out | refine below_set ?_ GE108.out) | exact HB.out)⟩⟩
       ·replace c17:=Bool.eq_false_iff.mpr c17
        subst c17
        rw [if_neg (show ¬ (false = true) by decide)] at H
        by_cases c44 : x8_1.length < 1954687338268
        ·rw [if_pos c44] at H
         have LMc44:=Aside0.mk c44
         clear c44
         obtain ⟨y120,hy120⟩ : ∃ y_ : List (S41),y_ = (x8_1 ++ [(⟨(rd_T41 l0 x22_1).f0,(⟨(rd_T41 l0 x22_1).f1.f0,(rd_T41 l0 x22_1).f1.f1,(rd_T41 l0 x22_1).f1.f2,(rd_T41 l0 x22_1).f1.f3,(rd_T41 l0 x22_1).f1.f4⟩ : S24)⟩ : S41)]):=⟨_,rfl⟩
         replace H : (mvs_Downgrade.l0 k1 y120 l0 (l0.length : Int) (wrap64 (x22_1 + 1)) a2_0 a2_1 a2_2 a2_3 a2_4 a2_5 l1) = some r:=by first | (rw [hy120];with_reducible exact H) | (have H2_:=(Option.bind_some _ _).symm.trans H;rw [hy120];with_reducible exact H2_) | (have H2_:=(Option.bind_some _ _).symm.trans H;with_reducible exact H2_) | with_reducible exact H | (rw [hy120];exact H) | exact H
         have Ny120:=Aside0.mk hy120
         clear hy120
         have H':=Aside0.mk H
         clear H
         have p107 : 0 ≤ (x22_1 : Int):=of_decide_eq_true q1_
         have q107 : x22_1 < (l0.length : Int):=of_decide_eq_true q1_
         obtain ⟨ad107,e107,hx107_0,hx107_1,hx107_2,hx107_3,hx107_4,hx107_5⟩:=at_T41 HR0.out x22_1 p107 q107
         cases e107
         replace hx107_0:=(HB.out.cell (World.block_lt_of_cell? w _ hx107_0)).trans hx107_0
         replace hx107_1:=(HB.out.cell (World.block_lt_of_cell? w _ hx107_1)).trans hx107_1
         replace hx107_2:=(HB.out.cell (World.block_lt_of_cell? w _ hx107_2)).trans hx107_2
         replace hx107_3:=(HB.out.cell (World.block_lt_of_cell? w _ hx107_3)).trans hx107_3
         replace hx107_4:=(HB.out.cell (World.block_lt_of_cell? w _ hx107_4)).trans hx107_4
         replace hx107_5:=(HB.out.cell (World.block_lt_of_cell? w _ hx107_5)).trans hx107_5
         replace p107:=eq_true p107
         replace q107:=eq_true q107
         go_wp2_with (first | ((with_reducible refine gate_dst (N:=10) rfl ?_);refine box_event ?hg (N:=10) ?hd (cs:=#[.string (⟨#[]⟩ : ByteArray),.int .i64 0,.int .i64 0,.int .i64 0,.string (⟨#[]⟩ : ByteArray),.string (⟨#[]⟩ : ByteArray)]) (t:=41) ?hr ?_;(case hd => rfl);(case hg => rfl);(case hr => first | (go_simp;done) | (go_simp;rfl));intro gb108 hg w45 hbox hb;replace HO_8:=Aside0.mk (Kd.R_below (Kd.R_elderB q30_ gb108 (Nat.le_of_eq hg.symm)) hb);have BK108:=Aside0.mk (hbox);have GW108:=Aside0.mk ((q15_ : w.heap.size ≤ gb108));have GE108:=Aside0.mk ((q15_ : w.heap.size ≤ gb108));replace HB:=Aside0.mk (below_step bh_ hb);have NB101_108:=Aside0.mk ((q45_ : gb101 ≠ gb108));have NB108_101:=Aside0.mk ((q46_ : gb108 ≠ gb101));replace BK101:=Aside0.mk (blk_below bk101_ hb);have NB106_108:=Aside0.mk ((q57_ : gb106 ≠ gb108));have NB108_106:=Aside0.mk ((q58_ : gb108 ≠ gb106));replace BK106:=Aside0.mk (blk_below bk106_ hb);clear hb hbox hg;have hnb46:=NB108_101.out;have hnc46:=NB101_108.out;have hnb47:=NB108_106.out;have hnc47:=NB106_108.out;have hcz48_0 : w45.cell? ⟨gb108,0,none⟩ = some (.string (⟨#[]⟩ : ByteArray)):=(blk_cell BK108.out 0).trans rfl;have hcz48_1 : w45.cell? ⟨gb108,1,none⟩ = some (.int .i64 0):=(blk_cell BK108.out 1).trans rfl;have hcz48_2 : w45.cell? ⟨gb108,2,none⟩ = some (.int .i64 0):=(blk_cell BK108.out 2).trans rfl;have hcz48_3 : w45.cell? ⟨gb108,3,none⟩ = some (.int .i64 0):=(blk_cell BK108.out 3).trans rfl;have hcz48_4 : w45.cell? ⟨gb108,4,none⟩ = some (.string (⟨#[]⟩ : ByteArray)):=(blk_cell BK108.out 4).trans rfl;have hcz48_5 : w45.cell? ⟨gb108,5,none⟩ = some (.string (⟨#[]⟩ : ByteArray)):=(blk_cell BK108.out 5).trans rfl;have hfz48_0:=blk_frozen BK108.out 0;have hfz48_1:=blk_frozen BK108.out 1;have hfz48_2:=blk_frozen BK108.out 2;have hfz48_3:=blk_frozen BK108.out 3;have hfz48_4:=blk_frozen BK108.out 4;have hfz48_5:=blk_frozen BK108.out 5;have hnb49:=NB106_101.out;have hnc49:=NB101_106.out;have hcz50_0 : w45.cell? ⟨gb106,0,none⟩ = some (.string a2_0):=(blk_cell BK106.out 0).trans rfl;have hcz50_1 : w45.cell? ⟨gb106,1,none⟩ = some (.int .i64 a2_1):=(blk_cell BK106.out 1).trans rfl;have hcz50_2 : w45.cell? ⟨gb106,2,none⟩ = some (.int .i64 a2_2):=(blk_cell BK106.out 2).trans rfl;have hcz50_3 : w45.cell? ⟨gb106,3,none⟩ = some (.int .i64 a2_3):=(blk_cell BK106.out 3).trans rfl;have hcz50_4 : w45.cell? ⟨gb106,4,none⟩ = some (.string a2_4):=(blk_cell BK106.out 4).trans rfl;have hcz50_5 : w45.cell? ⟨gb106,5,none⟩ = some (.string a2_5):=(blk_cell BK106.out 5).trans rfl;have hcz50_6 : w45.cell? ⟨gb106,6,none⟩ = some (.slice A1 l1.length c1):=(blk_cell BK106.out 6).trans rfl;have hfz50_0:=blk_frozen BK106.out 0;have hfz50_1:=blk_frozen BK106.out 1;have hfz50_2:=blk_frozen BK106.out 2;have hfz50_3:=blk_frozen BK106.out 3;have hfz50_4:=blk_frozen BK106.out 4;have hfz50_5:=blk_frozen BK106.out 5;have hfz50_6:=blk_frozen BK106.out 6) | ((with_reducible refine gate_callee (f:=62) rfl ?_);refine goesL_ (some 28) rfl rfl Tryz.func62 q4_ rfl #[.agg #[.string a2_0,.int .i64 a2_1,.int .i64 a2_2,.int .i64 a2_3,.string a2_4,.string a2_5,.slice A1 l1.length c1],.agg #[.string ((rd_T41 l0 x22_1).f0),.int .i64 ((rd_T41 l0 x22_1).f1.f0),.int .i64 ((rd_T41 l0 x22_1).f1.f1),.int .i64 ((rd_T41 l0 x22_1).f1.f2),.string ((rd_T41 l0 x22_1).f1.f3),.string ((rd_T41 l0 x22_1).f1.f4)]] rfl q2_ ?_;(with_reducible refine (mvs_bound_out.calls a2_0 a2_1 a2_2 a2_3 a2_4 a2_5 _ _ l1 ((rd_T41 l0 x22_1).f0) ((rd_T41 l0 x22_1).f1.f0) ((rd_T41 l0 x22_1).f1.f1) ((rd_T41 l0 x22_1).f1.f2) ((rd_T41 l0 x22_1).f1.f3) ((rd_T41 l0 x22_1).f1.f4) false _ ?side1 ?side2 A16.out ?sideG).mono ?_);(case sideG => first | exact HG.out | exact Env.below HG.out bh_);(case side1 => exact Kd.C_below HR1.out bh_);(case side2 => exact HC1.out);rintro e w51 ⟨rfl,hb⟩;refine ⟨_,rfl,?_⟩;replace HO_8:=Aside0.mk (Kd.R_below q16_ hb);replace BK101:=Aside0.mk (blk_below (g:=gb101) (o:=.cells #[.string a2_0,.int .i64 a2_1,.int .i64 a2_2,.int .i64 a2_3,.string a2_4,.string a2_5] 41 (0,0)) q7_ hb);replace BK106:=Aside0.mk (blk_below (g:=gb106) (o:=.cells #[.string a2_0,.int .i64 a2_1,.int .i64 a2_2,.int .i64 a2_3,.string a2_4,.string a2_5,.slice A1 l1.length c1] 91 (0,0)) q9_ hb);replace BK108:=Aside0.mk (blk_below (g:=gb108) (o:=.cells #[.string ((rd_T41 l0 x22_1).f0),.int .i64 ((rd_T41 l0 x22_1).f1.f0),.int .i64 ((rd_T41 l0 x22_1).f1.f1),.int .i64 ((rd_T41 l0 x22_1).f1.f2),.string ((rd_T41 l0 x22_1).f1.f3),.string ((rd_T41 l0 x22_1).f1.f4)] 41 (0,0)) q6_ hb);replace HB:=Aside0.mk (below_step bh_ hb);(try clear hb);(try clear hb2);(try clear hk);(try clear hi);have hcz52_0 : w51.cell? ⟨gb108,0,none⟩ = some (.string ((rd_T41 l0 x22_1).f0)):=(blk_cell BK108.out 0).trans rfl;have hcz52_1 : w51.cell? ⟨gb108,1,none⟩ = some (.int .i64 ((rd_T41 l0 x22_1).f1.f0)):=(blk_cell BK108.out 1).trans rfl;have hcz52_2 : w51.cell? ⟨gb108,2,none⟩ = some (.int .i64 ((rd_T41 l0 x22_1).f1.f1)):=(blk_cell BK108.out 2).trans rfl;have hcz52_3 : w51.cell? ⟨gb108,3,none⟩ = some (.int .i64 ((rd_T41 l0 x22_1).f1.f2)):=(blk_cell BK108.out 3).trans rfl;have hcz52_4 : w51.cell? ⟨gb108,4,none⟩ = some (.string ((rd_T41 l0 x22_1).f1.f3)):=(blk_cell BK108.out 4).trans rfl;have hcz52_5 : w51.cell? ⟨gb108,5,none⟩ = some (.string ((rd_T41 l0 x22_1).f1.f4)):=(blk_cell BK108.out 5).trans rfl;have hfz52_0:=blk_frozen BK108.out 0;have hfz52_1:=blk_frozen BK108.out 1;have hfz52_2:=blk_frozen BK108.out 2;have hfz52_3:=blk_frozen BK108.out 3;have hfz52_4:=blk_frozen BK108.out 4;have hfz52_5:=blk_frozen BK108.out 5) | ((with_reducible refine gate_builtin (b:=.append) (xs:=#[.tmp 36,.tmp 38]) rfl ?_);at_builtin;refine Kd.R_append k41 (w0:=w) w.heap.size rfl (.tmp 36) (.tmp 38) 38 41 (.agg #[(.string ⟨#[]⟩),(.int .i64 0),(.int .i64 0),(.int .i64 0),(.string ⟨#[]⟩),(.string ⟨#[]⟩)]) 72 rfl Tryz.underlying38 info41 rfl q33_ q5_ u8 x8_1 (⟨(rd_T41 l0 x22_1).f0,(⟨(rd_T41 l0 x22_1).f1.f0,(rd_T41 l0 x22_1).f1.f1,(rd_T41 l0 x22_1).f1.f2,(rd_T41 l0 x22_1).f1.f3,(rd_T41 l0 x22_1).f1.f4⟩ : S24)⟩ : S41) [.string ((rd_T41 l0 x22_1).f0),.int .i64 ((rd_T41 l0 x22_1).f1.f0),.int .i64 ((rd_T41 l0 x22_1).f1.f1),.int .i64 ((rd_T41 l0 x22_1).f1.f2),.string ((rd_T41 l0 x22_1).f1.f3),.string ((rd_T41 l0 x22_1).f1.f4)] (fun k_ => k_ ≠ gb101 ∧ k_ ≠ gb108) (fun _ => False) rfl rfl ?aP (fun _ hk => hk.elim) ?aF ?aO ?aB ?aS ?aL ?_;(case aP => exact k41_mkM _ _ _ (⟨(rd_T41 l0 x22_1).f0,(⟨(rd_T41 l0 x22_1).f1.f0,(rd_T41 l0 x22_1).f1.f1,(rd_T41 l0 x22_1).f1.f2,(rd_T41 l0 x22_1).f1.f3,(rd_T41 l0 x22_1).f1.f4⟩ : S24)⟩ : S41));(case aB => exact bh_);(case aF => exact (fun k_ hk => ⟨Kd.freshB bk101_ k_ hk,Kd.freshB bk108_ k_ hk⟩));(case aO => exact q30_);(case aS => exact (below_size bh_));(case aL => have:=LMc44.out;omega);intro v121 w53 ho hb hg hat;rw [← Ny120.out] at ho;replace BK101:=Aside0.mk (blk_grown bk101_ hg (Kd.R_away HO_8.out (fun _ hk => hk.1)));replace BK106:=Aside0.mk (blk_grown bk106_ hg (Kd.R_ne HO_8.out BK106.out q33_));replace BK108:=Aside0.mk (blk_grown bk108_ hg (Kd.R_away HO_8.out (fun _ hk => hk.2)));replace HB:=Aside0.mk (hb);have HO122:=Aside0.mk (ho);clear HO_8;clear ho hb hg hat))
         go_roundg k1
         case measure => have:=HK1.out;omega
         case rel => exact ⟨(y120),(wrap64 (x22_1 + 1)),q3_,H',⟨by have:=HK1.out;omega⟩,⟨by (with_reducible repeat (first | apply Kd.R_alloc | apply Kd.R_drewN | apply Kd.R_drew));exact Kd.R_mono HO122.out (fun _ hk => hk.1)⟩,⟨by (with_reducible repeat (first | refine blk_drewN ?_ _ | refine blk_drew ?_ | refine blk_alloc ?_ _));exact BK101.out⟩,⟨by (with_reducible repeat (first | refine blk_drewN ?_ _ | refine blk_drew ?_ | refine blk_alloc ?_ _));exact BK106.out⟩,⟨by repeat (first | (with_reducible first | exact HB.out | apply below_alloc | apply pw_below_drewN | apply below_drew1 | refine below_set ?_ GE101.out | refine below_set ?_ GE106.out | refine below_set ?_ GE108.out) | exact HB.out)⟩⟩
        ·rw [if_neg c44] at H
         exact absurd H q21_
      ·rw [if_neg c15] at H
       exact absurd H q21_
     ·rw [if_neg c14] at H
      exact absurd H q21_
    ·rw [if_neg c13] at H
     have c13b0 : decide (x22_1 < (l0.length : Int)) = false:=decide_eq_false c13
     clear c13
     obtain rfl:=Option.some.inj H
     go_wp2
     go_ret
     exact ⟨_,by first | rfl | (simp [] <;> rfl) | (simp [*] <;> rfl) | (simp [bne_nil_];done) | (simp [*,bne_nil_];done),by (with_reducible repeat (first | apply Kd.R_alloc | apply Kd.R_drewN | apply Kd.R_drew));exact Kd.R_mono HO_8.out (fun _ hk => trivial),by repeat (first | (with_reducible first | exact HB.out | apply below_alloc | apply pw_below_drewN | apply below_drew1 | refine below_set ?_ GE101.out | refine below_set ?_ GE106.out) | exact HB.out)⟩
 ·replace c5:=Bool.eq_false_iff.mpr c5
  subst c5
  rw [if_neg (show ¬ (false = true) by decide)] at H
  obtain ⟨t103,A540,H⟩:=Option.bind_eq_some_iff.mp H
  have A54:=Aside0.mk A540
  clear A540
  obtain rfl:=Option.some.inj H
  go_enter Tryz.func31,Tryz.ntmps31
  go_wp2_with (first | ((with_reducible refine gate_dst (N:=5) rfl ?_);refine box_event ?hg (N:=5) ?hd (cs:=#[.string a2_0,.int .i64 a2_1,.int .i64 a2_2,.int .i64 a2_3,.string a2_4,.string a2_5]) (t:=41) ?hr ?_;(case hd => rfl);(case hg => rfl);(case hr => first | (go_simp;done) | (go_simp;rfl));intro gb101 hg w55 hbox hb;have BK101:=Aside0.mk (hbox);have GW101:=Aside0.mk ((q15_ : w.heap.size ≤ gb101));have GE101:=Aside0.mk ((q15_ : w.heap.size ≤ gb101));replace HB:=Aside0.mk (below_step bh_ hb);clear hb hbox hg;have hcz56_0 : w55.cell? ⟨gb101,0,none⟩ = some (.string a2_0):=(blk_cell BK101.out 0).trans rfl;have hcz56_1 : w55.cell? ⟨gb101,1,none⟩ = some (.int .i64 a2_1):=(blk_cell BK101.out 1).trans rfl;have hcz56_2 : w55.cell? ⟨gb101,2,none⟩ = some (.int .i64 a2_2):=(blk_cell BK101.out 2).trans rfl;have hcz56_3 : w55.cell? ⟨gb101,3,none⟩ = some (.int .i64 a2_3):=(blk_cell BK101.out 3).trans rfl;have hcz56_4 : w55.cell? ⟨gb101,4,none⟩ = some (.string a2_4):=(blk_cell BK101.out 4).trans rfl;have hcz56_5 : w55.cell? ⟨gb101,5,none⟩ = some (.string a2_5):=(blk_cell BK101.out 5).trans rfl;have hfz56_0:=blk_frozen BK101.out 0;have hfz56_1:=blk_frozen BK101.out 1;have hfz56_2:=blk_frozen BK101.out 2;have hfz56_3:=blk_frozen BK101.out 3;have hfz56_4:=blk_frozen BK101.out 4;have hfz56_5:=blk_frozen BK101.out 5) | ((with_reducible refine gate_callee (f:=59) rfl ?_);refine goesL_ (some 13) rfl rfl Tryz.func59 q4_ rfl #[.agg #[.string a2_0,.int .i64 a2_1,.int .i64 a2_2,.int .i64 a2_3,.string a2_4,.string a2_5]] rfl q2_ ?_;(with_reducible refine (mvs_may.calls k a2_0 a2_1 a2_2 a2_3 a2_4 a2_5 false _ A4.out ?sideG).mono ?_);(case sideG => first | exact HG.out | exact Env.below HG.out bh_);rintro e w57 ⟨rfl,hb⟩;refine ⟨_,rfl,?_⟩;replace BK101:=Aside0.mk (blk_below bk101_ hb);replace HB:=Aside0.mk (below_step bh_ hb);(try clear hb);(try clear hb2);(try clear hk);(try clear hi)) | ((with_reducible refine gate_callee (f:=58) rfl ?_);refine goesL_ (some 16) rfl rfl Tryz.func58 q4_ rfl #[.slice A0 l0.length c0] rfl q2_ ?_;(with_reducible refine (slices_Clone_apiReq.calls _ _ l0 t103 _ ?side1 ?side2 A54.out).mono ?_);(case side1 => repeat (first | exact (Kd.C_below HR0.out HB.out) | (with_reducible refine Kd.C_alloc ?_ _) | (with_reducible refine Kd.C_drewN ?_ _) | (with_reducible refine Kd.C_drew ?_)));(case side2 => exact HC0.out);rintro e w58 ⟨v104,rfl,ho0,hb⟩;refine ⟨_,rfl,?_⟩;have HO105:=Aside0.mk (Kd.R_lower (Kd.R_newB ho0 bk101_) (below_size bh_));replace BK101:=Aside0.mk (blk_below bk101_ hb);replace HB:=Aside0.mk (below_step bh_ hb);(try clear hb);(try clear hb2);(try clear hk);(try clear hi);(try clear ho0)))
  go_ret
  exact ⟨_,by first | rfl | (simp [] <;> rfl) | (simp [*] <;> rfl) | (simp [bne_nil_];done) | (simp [*,bne_nil_];done),by (with_reducible repeat (first | apply Kd.R_alloc | apply Kd.R_drewN | apply Kd.R_drew));exact Kd.R_mono HO105.out (fun _ hk => trivial),by repeat (first | (with_reducible first | exact HB.out | apply below_alloc | apply pw_below_drewN | apply below_drew1 | refine below_set ?_ GE101.out) | exact HB.out)⟩
end Go.Proofs.YtennhpoemdaghaaGreatDoor.P
end
section
namespace Go.Proofs.YtennhpoemdaghaaGreatDoor.P
open Go Go.RowKit Go.Proofs.YtennhpoemdaghaaGreatDoorW.PrintWords Go.Proofs.YtennhpoemdaghaaGreatDoorW.PrintLast Go.Proofs.YtennhpoemdaghaaGreatDoorW.PrintMore
set_option maxRecDepth 100000 in
set_option maxHeartbeats 4000000 in
theorem up1_calls (y r : Req) (g3 : Nat) (w : World) (hb3 : w.heap[g3]? = some (.cells #[.string r.f0,.int .i64 r.f1.f0,.int .i64 r.f1.f1,.int .i64 r.f1.f2,.string r.f1.f3,.string r.f1.f4] 41 (0,0))) :
  Calls Tryz.prog 61 #[.agg #[.string y.f0,.int .i64 y.f1.f0,.int .i64 y.f1.f1,.int .i64 y.f1.f2,.string y.f1.f3,.string y.f1.f4],.pointer (some ⟨g3,0,none⟩)] w fun e w' => e = .returned (.bool (y.f0.toList == r.f0.toList)) ∧ Below w.heap.size w w':=by
 have BK:=Aside0.mk hb3
 have HB:=Aside0.mk (Below.refl w.heap.size w)
 clear hb3
 go_enter Tryz.func61,Tryz.ntmps61
 go_wp2_with (first | ((with_reducible refine gate_dst (N:=2) rfl ?_);refine box_event ?hg (N:=2) ?hd (cs:=#[.string y.f0,.int .i64 y.f1.f0,.int .i64 y.f1.f1,.int .i64 y.f1.f2,.string y.f1.f3,.string y.f1.f4]) (t:=41) ?hr ?_;(case hd => rfl);(case hg => rfl);(case hr => first | (go_simp;done) | (go_simp;rfl));intro g2 hg_ w2 hbox hb_;clear hg_;replace BK:=Aside0.mk (blk_below BK.out hb_);replace HB:=Aside0.mk (below_then HB.out HB.out.size hb_);have B2:=Aside0.mk hbox;clear hbox hb_;have hz0 : w2.cell? ⟨g3,0,none⟩ = some _:=(blk_cell BK.out 0).trans rfl;have hz1 : w2.cell? ⟨g3,1,none⟩ = some _:=(blk_cell BK.out 1).trans rfl;have hz2 : w2.cell? ⟨g3,2,none⟩ = some _:=(blk_cell BK.out 2).trans rfl;have hz3 : w2.cell? ⟨g3,3,none⟩ = some _:=(blk_cell BK.out 3).trans rfl;have hz4 : w2.cell? ⟨g3,4,none⟩ = some _:=(blk_cell BK.out 4).trans rfl;have hz5 : w2.cell? ⟨g3,5,none⟩ = some _:=(blk_cell BK.out 5).trans rfl;have hy0 : w2.cell? ⟨g2,0,none⟩ = some _:=(blk_cell B2.out 0).trans rfl;have hy1 : w2.cell? ⟨g2,1,none⟩ = some _:=(blk_cell B2.out 1).trans rfl;have hy2 : w2.cell? ⟨g2,2,none⟩ = some _:=(blk_cell B2.out 2).trans rfl;have hy3 : w2.cell? ⟨g2,3,none⟩ = some _:=(blk_cell B2.out 3).trans rfl;have hy4 : w2.cell? ⟨g2,4,none⟩ = some _:=(blk_cell B2.out 4).trans rfl;have hy5 : w2.cell? ⟨g2,5,none⟩ = some _:=(blk_cell B2.out 5).trans rfl))
 go_ret
 exact ⟨by first | rfl | (simp;done),HB.out⟩
def upP (root : List Req) (r : Req) : Option (List Req) :=
 if root.length ≤ 1000000 then (mayP r).bind fun m => if m then
  (match (idxP (fun y : Req => y.f0.toList == r.f0.toList) root 0) with
  | .negSucc _ => some (root ++ [r])
  | .ofNat j => if h : j < root.length then (mayP root[j]).bind fun mj => if mj then (cmpP root[j] r).bind fun c => some (if c < 0 then root.set j r else root) else some (root.set j r) else none)
  else some root
 else none
theorem idxP_cases {α : Type} (pred : α → Bool) : ∀ (l : List α) (i : Nat),idxP pred l i = -1 ∨ ∃ j : Nat,idxP pred l i = (j : Int)
 | [],_ => .inl rfl
 | x :: xs,i => by
  rw [idxP]
  cases pred x
  ·simpa using idxP_cases pred xs (i + 1)
  ·exact .inr ⟨i,by simp⟩
theorem elemZ {w : World} {ad : Addr} {l : List Req} {z : Req} (h : Kd.C k41 w (some ad) l.length l) (j : Nat) (hj : j < l.length) (hz : rd_T41 l (j : Int) = z) :
  w.cell? (ad.add (j * 6)) = some (.string z.f0) ∧ w.cell? ⟨(ad.add (j * 6)).block,(ad.add (j * 6)).off + 1,none⟩ = some (.int .i64 z.f1.f0) ∧ w.cell? ⟨(ad.add (j * 6)).block,(ad.add (j * 6)).off + 2,none⟩ = some (.int .i64 z.f1.f1) ∧ w.cell? ⟨(ad.add (j * 6)).block,(ad.add (j * 6)).off + 3,none⟩ = some (.int .i64 z.f1.f2) ∧ w.cell? ⟨(ad.add (j * 6)).block,(ad.add (j * 6)).off + 4,none⟩ = some (.string z.f1.f3) ∧ w.cell? ⟨(ad.add (j * 6)).block,(ad.add (j * 6)).off + 5,none⟩ = some (.string z.f1.f4):=by
 obtain ⟨ad',e1,h0,h1,h2,h3,h4,h5⟩:=at_T41 h (j : Int) q5_ q5_
 cases e1
 simp only [Int.toNat_natCast,hz] at h0 h1 h2 h3 h4 h5
 exact ⟨h0,h1,h2,h3,h4,h5⟩
theorem addr0 (gg n : Nat) : Addr.add ⟨gg,0,none⟩ n = ⟨gg,n,none⟩:=by
 cases n with
 | zero => rfl
 | succ n => simp [Addr.add]
set_option maxRecDepth 100000 in
set_option maxHeartbeats 8000000 in
theorem up_calls (A0 : Option Addr) (c0 : Nat) (l0 : List Req) (r : Req) (res : List Req) (w : World) (hr0 : Kd.C k41 w A0 l0.length l0) (hc0 : l0.length ≤ c0) (h : upP l0 r = some res) (hG : Env w) :
  Calls Tryz.prog 29 #[.slice A0 l0.length c0,.agg #[.string r.f0,.int .i64 r.f1.f0,.int .i64 r.f1.f1,.int .i64 r.f1.f2,.string r.f1.f3,.string r.f1.f4]] w fun e w' => ∃ v0_ : Value,e = .returned (v0_) ∧ Kd.R k41 41 w' w.heap.size (fun _ => True) v0_ res ∧ Below w.heap.size w w':=by
 unfold upP at h
 split at h
 case isFalse => exact absurd h q21_
 case isTrue hsz =>
 have HR0:=Aside0.mk hr0
 have HC0:=Aside0.mk hc0
 have HE:=Aside0.mk hG
 clear hr0 hc0 hG
 obtain ⟨m,hmay,h⟩:=Option.bind_eq_some_iff.mp h
 replace hmay : mvs_may.f fuelR r.f0 r.f1.f0 r.f1.f1 r.f1.f2 r.f1.f3 r.f1.f4 = some m:=hmay
 cases m with
 | false =>
  obtain rfl:=Option.some.inj h
  go_enter Tryz.func29,Tryz.ntmps29
  go_wp2_with (first | ((with_reducible refine gate_dst (N:=3) rfl ?_);refine box_event ?hg (N:=3) ?hd (cs:=#[.string r.f0,.int .i64 r.f1.f0,.int .i64 r.f1.f1,.int .i64 r.f1.f2,.string r.f1.f3,.string r.f1.f4]) (t:=41) ?hr ?_;(case hd => rfl);(case hg => rfl);(case hr => first | (go_simp;done) | (go_simp;rfl));intro g3 hg_ w3 hbox hb_;have G3:=Aside0.mk ((by rw [hg_];exact Nat.le_refl _) : w.heap.size ≤ g3);clear hg_;have HB:=Aside0.mk hb_;have BK:=Aside0.mk hbox;clear hbox hb_) | (go_at_call 58;refine (slices_Clone_apiReq.calls A0 c0 l0 l0 _ (Kd.C_below HR0.out HB.out) HC0.out (if_pos hsz)).mono ?_;rintro e w4 ⟨v4,rfl,hR4,hb4⟩;have HO:=Aside0.mk (Kd.R_lower (Kd.R_mono (Kd.R_bound hR4) (fun k hk => (by have h_:=hk.2.1;have h2_:=blk_lt BK.out;omega : k ≠ g3))) HB.out.size);replace BK:=Aside0.mk (blk_below BK.out hb4);replace HB:=Aside0.mk (below_then HB.out HB.out.size hb4);clear hR4 hb4;obtain ⟨A4,c4,rfl⟩:=Kd.R_slice HO.out;have hz0 : w4.cell? ⟨g3,0,none⟩ = some _:=(blk_cell BK.out 0).trans rfl;have hz1 : w4.cell? ⟨g3,1,none⟩ = some _:=(blk_cell BK.out 1).trans rfl;have hz2 : w4.cell? ⟨g3,2,none⟩ = some _:=(blk_cell BK.out 2).trans rfl;have hz3 : w4.cell? ⟨g3,3,none⟩ = some _:=(blk_cell BK.out 3).trans rfl;have hz4 : w4.cell? ⟨g3,4,none⟩ = some _:=(blk_cell BK.out 4).trans rfl;have hz5 : w4.cell? ⟨g3,5,none⟩ = some _:=(blk_cell BK.out 5).trans rfl) | (go_at_call 59;(with_reducible refine (mvs_may.calls fuelR r.f0 r.f1.f0 r.f1.f1 r.f1.f2 r.f1.f3 r.f1.f4 false _ hmay ?sideG).mono ?_);(case sideG => exact Env.below HE.out HB.out);rintro e wma ⟨rfl,hb_⟩;replace BK:=Aside0.mk (blk_below BK.out hb_);replace HO:=Aside0.mk (Kd.R_below HO.out hb_);replace HB:=Aside0.mk (below_then HB.out HB.out.size hb_);clear hb_;have hma0 : wma.cell? ⟨g3,0,none⟩ = some _:=(blk_cell BK.out 0).trans rfl;have hma1 : wma.cell? ⟨g3,1,none⟩ = some _:=(blk_cell BK.out 1).trans rfl;have hma2 : wma.cell? ⟨g3,2,none⟩ = some _:=(blk_cell BK.out 2).trans rfl;have hma3 : wma.cell? ⟨g3,3,none⟩ = some _:=(blk_cell BK.out 3).trans rfl;have hma4 : wma.cell? ⟨g3,4,none⟩ = some _:=(blk_cell BK.out 4).trans rfl;have hma5 : wma.cell? ⟨g3,5,none⟩ = some _:=(blk_cell BK.out 5).trans rfl))
  go_ret
  exact ⟨_,rfl,Kd.R_mono HO.out (fun _ _ => trivial),HB.out⟩
 | true =>
  rw [if_pos rfl] at h
  rcases idxP_cases (fun y : Req => y.f0.toList == r.f0.toList) l0 0 with hix | ⟨j,hix⟩
  ·rw [hix] at h
   obtain rfl:=Option.some.inj h
   go_enter Tryz.func29,Tryz.ntmps29
   go_wp2_with (first | ((with_reducible refine gate_dst (N:=3) rfl ?_);refine box_event ?hg (N:=3) ?hd (cs:=#[.string r.f0,.int .i64 r.f1.f0,.int .i64 r.f1.f1,.int .i64 r.f1.f2,.string r.f1.f3,.string r.f1.f4]) (t:=41) ?hr ?_;(case hd => rfl);(case hg => rfl);(case hr => first | (go_simp;done) | (go_simp;rfl));intro g3 hg_ w3 hbox hb_;have G3:=Aside0.mk ((by rw [hg_];exact Nat.le_refl _) : w.heap.size ≤ g3);clear hg_;have HB:=Aside0.mk hb_;have BK:=Aside0.mk hbox;clear hbox hb_) | (go_at_call 58;refine (slices_Clone_apiReq.calls A0 c0 l0 l0 _ (Kd.C_below HR0.out HB.out) HC0.out (if_pos hsz)).mono ?_;rintro e w4 ⟨v4,rfl,hR4,hb4⟩;have HO:=Aside0.mk (Kd.R_lower (Kd.R_mono (Kd.R_bound hR4) (fun k hk => (by have h_:=hk.2.1;have h2_:=blk_lt BK.out;omega : k ≠ g3))) HB.out.size);replace BK:=Aside0.mk (blk_below BK.out hb4);replace HB:=Aside0.mk (below_then HB.out HB.out.size hb4);clear hR4 hb4;obtain ⟨A4,c4,rfl⟩:=Kd.R_slice HO.out;have hz0 : w4.cell? ⟨g3,0,none⟩ = some _:=(blk_cell BK.out 0).trans rfl;have hz1 : w4.cell? ⟨g3,1,none⟩ = some _:=(blk_cell BK.out 1).trans rfl;have hz2 : w4.cell? ⟨g3,2,none⟩ = some _:=(blk_cell BK.out 2).trans rfl;have hz3 : w4.cell? ⟨g3,3,none⟩ = some _:=(blk_cell BK.out 3).trans rfl;have hz4 : w4.cell? ⟨g3,4,none⟩ = some _:=(blk_cell BK.out 4).trans rfl;have hz5 : w4.cell? ⟨g3,5,none⟩ = some _:=(blk_cell BK.out 5).trans rfl) | (go_at_call 59;(with_reducible refine (mvs_may.calls fuelR r.f0 r.f1.f0 r.f1.f1 r.f1.f2 r.f1.f3 r.f1.f4 true _ hmay ?sideG).mono ?_);(case sideG => exact Env.below HE.out HB.out);rintro e wma ⟨rfl,hb_⟩;replace BK:=Aside0.mk (blk_below BK.out hb_);replace HO:=Aside0.mk (Kd.R_below HO.out hb_);replace HB:=Aside0.mk (below_then HB.out HB.out.size hb_);clear hb_;have hma0 : wma.cell? ⟨g3,0,none⟩ = some _:=(blk_cell BK.out 0).trans rfl;have hma1 : wma.cell? ⟨g3,1,none⟩ = some _:=(blk_cell BK.out 1).trans rfl;have hma2 : wma.cell? ⟨g3,2,none⟩ = some _:=(blk_cell BK.out 2).trans rfl;have hma3 : wma.cell? ⟨g3,3,none⟩ = some _:=(blk_cell BK.out 3).trans rfl;have hma4 : wma.cell? ⟨g3,4,none⟩ = some _:=(blk_cell BK.out 4).trans rfl;have hma5 : wma.cell? ⟨g3,5,none⟩ = some _:=(blk_cell BK.out 5).trans rfl) | (go_at_call 60;(with_reducible refine (indexUp A4 c4 l0 g3 (fun y => y.f0.toList == r.f0.toList) _ (Kd.R_reads' HO.out).2.2 (Kd.R_reads' HO.out).2.1 ?cl).mono ?_);(case cl => exact fun y W hy hb => up1_calls y r g3 W (blk_below BK.out hb));rintro e w5 ⟨rfl,hb_⟩;replace BK:=Aside0.mk (blk_below BK.out hb_);replace HO:=Aside0.mk (Kd.R_below HO.out hb_);replace HB:=Aside0.mk (below_then HB.out HB.out.size hb_);clear hb_;rw [hix];have hi0 : w5.cell? ⟨g3,0,none⟩ = some _:=(blk_cell BK.out 0).trans rfl;have hi1 : w5.cell? ⟨g3,1,none⟩ = some _:=(blk_cell BK.out 1).trans rfl;have hi2 : w5.cell? ⟨g3,2,none⟩ = some _:=(blk_cell BK.out 2).trans rfl;have hi3 : w5.cell? ⟨g3,3,none⟩ = some _:=(blk_cell BK.out 3).trans rfl;have hi4 : w5.cell? ⟨g3,4,none⟩ = some _:=(blk_cell BK.out 4).trans rfl;have hi5 : w5.cell? ⟨g3,5,none⟩ = some _:=(blk_cell BK.out 5).trans rfl) | ((with_reducible refine gate_builtin (b:=.append) (xs:=#[.tmp 18,.tmp 20]) rfl ?_);at_builtin;refine Kd.R_append k41 (w0:=w) w.heap.size rfl (.tmp 18) (.tmp 20) 38 41 (.agg #[.string (⟨#[]⟩ : ByteArray),.int .i64 0,.int .i64 0,.int .i64 0,.string (⟨#[]⟩ : ByteArray),.string (⟨#[]⟩ : ByteArray)]) 72 rfl Tryz.underlying38 info41 rfl q33_ q5_ (.slice A4 l0.length c4) l0 r [.string r.f0,.int .i64 r.f1.f0,.int .i64 r.f1.f1,.int .i64 r.f1.f2,.string r.f1.f3,.string r.f1.f4] (fun k => k ≠ g3) (fun k => k ≠ g3 ∧ some k ≠ (Value.slice A4 l0.length c4).ownBlock) rfl rfl (k41_mkM _ _ _ r) (fun _ hk => hk) ?aF HO.out HB.out HB.out.size q5_ ?_;(case aF => exact fun k hk => (by have:=blk_lt BK.out;omega));intro v7 w7 hR7 hB7 hg7 hat7))
   go_ret
   exact ⟨_,rfl,Kd.R_mono hR7 (fun _ _ => trivial),hB7⟩
  ·rw [hix] at h
   replace h : (if h : j < l0.length then (mayP l0[j]).bind fun mj => if mj then (cmpP l0[j] r).bind fun c => some (if c < 0 then l0.set j r else l0) else some (l0.set j r) else none) = some res:=h
   split at h
   case isFalse => exact absurd h q21_
   case isTrue hj =>
   obtain ⟨mj,hmj,h⟩:=Option.bind_eq_some_iff.mp h
   obtain ⟨z,hz⟩ : ∃ z,rd_T41 l0 (j : Int) = z:=⟨_,rfl⟩
   have hlz : l0[j] = z:=by rw [← hz];simp [rd_T41,hj]
   rw [hlz] at h hmj
   replace hmj : mvs_may.f fuelR z.f0 z.f1.f0 z.f1.f1 z.f1.f2 z.f1.f3 z.f1.f4 = some mj:=hmj
   have hg1 : ((j : Int) < (l0.length : Int)) = True:=eq_true q5_
   have hp1 : (0 ≤ (j : Int)) = True:=eq_true q5_
   have hn1 : ((j : Int) < 0) = False:=eq_false q5_
   go_enter Tryz.func29,Tryz.ntmps29
   go_upto_region 7 with (first | ((with_reducible refine gate_dst (N:=3) rfl ?_);refine box_event ?hg (N:=3) ?hd (cs:=#[.string r.f0,.int .i64 r.f1.f0,.int .i64 r.f1.f1,.int .i64 r.f1.f2,.string r.f1.f3,.string r.f1.f4]) (t:=41) ?hr ?_;(case hd => rfl);(case hg => rfl);(case hr => first | (go_simp;done) | (go_simp;rfl));intro g3 hg_ w3 hbox hb_;have G3:=Aside0.mk ((by rw [hg_];exact Nat.le_refl _) : w.heap.size ≤ g3);clear hg_;have HB:=Aside0.mk hb_;have BK:=Aside0.mk hbox;clear hbox hb_) | (go_at_call 58;refine (slices_Clone_apiReq.calls A0 c0 l0 l0 _ (Kd.C_below HR0.out HB.out) HC0.out (if_pos hsz)).mono ?_;rintro e w4 ⟨v4,rfl,hR4,hb4⟩;have HO:=Aside0.mk (Kd.R_lower (Kd.R_mono (Kd.R_bound hR4) (fun k hk => (by have h_:=hk.2.1;have h2_:=blk_lt BK.out;omega : k ≠ g3))) HB.out.size);replace BK:=Aside0.mk (blk_below BK.out hb4);replace HB:=Aside0.mk (below_then HB.out HB.out.size hb4);clear hR4 hb4;obtain ⟨A4,c4,rfl⟩:=Kd.R_slice HO.out;have hz0 : w4.cell? ⟨g3,0,none⟩ = some _:=(blk_cell BK.out 0).trans rfl;have hz1 : w4.cell? ⟨g3,1,none⟩ = some _:=(blk_cell BK.out 1).trans rfl;have hz2 : w4.cell? ⟨g3,2,none⟩ = some _:=(blk_cell BK.out 2).trans rfl;have hz3 : w4.cell? ⟨g3,3,none⟩ = some _:=(blk_cell BK.out 3).trans rfl;have hz4 : w4.cell? ⟨g3,4,none⟩ = some _:=(blk_cell BK.out 4).trans rfl;have hz5 : w4.cell? ⟨g3,5,none⟩ = some _:=(blk_cell BK.out 5).trans rfl) | (go_at_call 59;(with_reducible refine (mvs_may.calls fuelR r.f0 r.f1.f0 r.f1.f1 r.f1.f2 r.f1.f3 r.f1.f4 true _ hmay ?sideG).mono ?_);(case sideG => exact Env.below HE.out HB.out);rintro e wma ⟨rfl,hb_⟩;replace BK:=Aside0.mk (blk_below BK.out hb_);replace HO:=Aside0.mk (Kd.R_below HO.out hb_);replace HB:=Aside0.mk (below_then HB.out HB.out.size hb_);clear hb_;have hma0 : wma.cell? ⟨g3,0,none⟩ = some _:=(blk_cell BK.out 0).trans rfl;have hma1 : wma.cell? ⟨g3,1,none⟩ = some _:=(blk_cell BK.out 1).trans rfl;have hma2 : wma.cell? ⟨g3,2,none⟩ = some _:=(blk_cell BK.out 2).trans rfl;have hma3 : wma.cell? ⟨g3,3,none⟩ = some _:=(blk_cell BK.out 3).trans rfl;have hma4 : wma.cell? ⟨g3,4,none⟩ = some _:=(blk_cell BK.out 4).trans rfl;have hma5 : wma.cell? ⟨g3,5,none⟩ = some _:=(blk_cell BK.out 5).trans rfl) | (go_at_call 60;(with_reducible refine (indexUp A4 c4 l0 g3 (fun y => y.f0.toList == r.f0.toList) _ (Kd.R_reads' HO.out).2.2 (Kd.R_reads' HO.out).2.1 ?cl).mono ?_);(case cl => exact fun y W hy hb => up1_calls y r g3 W (blk_below BK.out hb));rintro e w5 ⟨rfl,hb_⟩;replace BK:=Aside0.mk (blk_below BK.out hb_);replace HO:=Aside0.mk (Kd.R_below HO.out hb_);replace HB:=Aside0.mk (below_then HB.out HB.out.size hb_);clear hb_;rw [hix];have hi0 : w5.cell? ⟨g3,0,none⟩ = some _:=(blk_cell BK.out 0).trans rfl;have hi1 : w5.cell? ⟨g3,1,none⟩ = some _:=(blk_cell BK.out 1).trans rfl;have hi2 : w5.cell? ⟨g3,2,none⟩ = some _:=(blk_cell BK.out 2).trans rfl;have hi3 : w5.cell? ⟨g3,3,none⟩ = some _:=(blk_cell BK.out 3).trans rfl;have hi4 : w5.cell? ⟨g3,4,none⟩ = some _:=(blk_cell BK.out 4).trans rfl;have hi5 : w5.cell? ⟨g3,5,none⟩ = some _:=(blk_cell BK.out 5).trans rfl))
   obtain ⟨gg,hgg⟩ : ∃ gg,A4 = some ⟨gg,0,none⟩:=by
    obtain ⟨_,inner,⟨_,ho⟩,_⟩:=HO.out
    rcases ho with ⟨hv,hn⟩ | ⟨gg,cap,cur,hv,_⟩
    ·omega
    ·injection hv with h1 _ _
     exact ⟨gg,h1⟩
   obtain ⟨ad,had⟩ : ∃ ad : Addr,ad = ⟨gg,0,none⟩:=⟨_,rfl⟩
   rw [← had] at hgg
   subst hgg
   replace had:=Aside0.mk had
   try go_frame
   replace BK:=Aside0.mk (blk_drew BK.out);replace HO:=Aside0.mk (Kd.R_drew HO.out);replace HB:=Aside0.mk (below_drew HB.out)
   cases mj with
   | false =>
    obtain rfl:=Option.some.inj h
    clear h
    obtain ⟨y0,y1,y2,y3,y4,y5⟩:=elemZ (Kd.R_reads' HO.out).2.2 j hj hz
    refine start_ (n:=18) (S:=fun w' => w'.cell? ⟨g3,0,none⟩ = some (.string r.f0) ∧ w'.cell? ⟨g3,1,none⟩ = some (.int .i64 r.f1.f0) ∧ w'.cell? ⟨g3,2,none⟩ = some (.int .i64 r.f1.f1) ∧ w'.cell? ⟨g3,3,none⟩ = some (.int .i64 r.f1.f2) ∧ w'.cell? ⟨g3,4,none⟩ = some (.string r.f1.f3) ∧ w'.cell? ⟨g3,5,none⟩ = some (.string r.f1.f4) ∧ w'.cell? (ad.add (j * 6)) = some (.string z.f0) ∧ w'.cell? ⟨(ad.add (j * 6)).block,(ad.add (j * 6)).off + 1,none⟩ = some (.int .i64 z.f1.f0) ∧ w'.cell? ⟨(ad.add (j * 6)).block,(ad.add (j * 6)).off + 2,none⟩ = some (.int .i64 z.f1.f1) ∧ w'.cell? ⟨(ad.add (j * 6)).block,(ad.add (j * 6)).off + 3,none⟩ = some (.int .i64 z.f1.f2) ∧ w'.cell? ⟨(ad.add (j * 6)).block,(ad.add (j * 6)).off + 4,none⟩ = some (.string z.f1.f3) ∧ w'.cell? ⟨(ad.add (j * 6)).block,(ad.add (j * 6)).off + 5,none⟩ = some (.string z.f1.f4)) (ds:=[]) #[false,false,false,false,false,false,false,false,false,false,false,false,false,false,false,false,false,false] q4_ rfl rfl ⟨(blk_cell BK.out 0).trans rfl,(blk_cell BK.out 1).trans rfl,(blk_cell BK.out 2).trans rfl,(blk_cell BK.out 3).trans rfl,(blk_cell BK.out 4).trans rfl,(blk_cell BK.out 5).trans rfl,y0,y1,y2,y3,y4,y5⟩ (fun hHeld => ?_)
    clear y0 y1 y2 y3 y4 y5
    refine pure_ (i:=0) (N:=some 23) (v:=?_) (a':=?_) #[true,false,false,false,false,false,false,false,false,false,false,false,false,false,false,false,false,false] rfl rfl q4_ (fun _ _ _ h => h) (Or.inl ⟨by rfl,?_⟩) ?_ ?_
    rotate_left
    ·intro w'
     go_simp
     with_reducible rfl
    rotate_left
    ·simp only [Act.put,List.setIfInBounds_toArray,List.set_cons_zero,List.set_cons_succ]
     rfl
    refine pure_ (i:=1) (N:=some 24) (v:=?_) (a':=?_) #[true,true,false,false,false,false,false,false,false,false,false,false,false,false,false,false,false,false] rfl rfl q4_ (fun _ _ _ h => h) (Or.inl ⟨by rfl,?_⟩) ?_ ?_
    rotate_left
    ·intro w'
     go_simp
     with_reducible rfl
    rotate_left
    ·simp only [Act.put,List.setIfInBounds_toArray,List.set_cons_zero,List.set_cons_succ]
     rfl
    refine pure_ (i:=2) (N:=some 25) (v:=?_) (a':=?_) #[true,true,true,false,false,false,false,false,false,false,false,false,false,false,false,false,false,false] rfl rfl q4_ (fun _ _ _ h => h) (Or.inl ⟨by rfl,?_⟩) ?_ ?_
    rotate_left
    ·intro w'
     go_simp
     with_reducible rfl
    rotate_left
    ·simp only [Act.put,List.setIfInBounds_toArray,List.set_cons_zero,List.set_cons_succ]
     rfl
    refine take_ (i:=3) (N:=some 26) (v:=?_) (a':=?_) #[true,true,true,true,false,false,false,false,false,false,false,false,false,false,false,false,false,false] rfl rfl q4_ (fun _ _ _ h => h) (Or.inl ⟨by rfl,?_⟩) hHeld ?_ ?_
    rotate_left
    ·rintro w' ⟨s0,s1,s2,s3,s4,s5,s6,s7,s8,s9,s10,s11⟩
     go_simp
     with_reducible rfl
    rotate_left
    ·simp only [Act.put,List.setIfInBounds_toArray,List.set_cons_zero,List.set_cons_succ]
     rfl
    refine one_ (i:=4) (N:=some 27) #[true,true,true,true,true,false,false,false,false,false,false,false,false,false,false,false,false,false] rfl rfl q4_ q33_ (fun K hK => ?_)
    refine goes_ Tryz.func59 q4_ rfl #[.agg #[.string z.f0,.int .i64 z.f1.f0,.int .i64 z.f1.f1,.int .i64 z.f1.f2,.string z.f1.f3,.string z.f1.f4]] q50_ rfl rfl q22_ ?_
    (with_reducible refine (mvs_may.calls fuelR z.f0 z.f1.f0 z.f1.f1 z.f1.f2 z.f1.f3 z.f1.f4 false _ hmj ?sideG).mono ?_)
    (case sideG => exact Env.below HE.out HB.out)
    rintro e wq ⟨rfl,hb_⟩
    refine ⟨_,rfl,?_⟩
    replace BK:=Aside0.mk (blk_below BK.out hb_);replace HO:=Aside0.mk (Kd.R_below HO.out hb_);replace HB:=Aside0.mk (below_then HB.out HB.out.size hb_);clear hb_
    obtain ⟨y0,y1,y2,y3,y4,y5⟩:=elemZ (Kd.R_reads' HO.out).2.2 j hj hz
    refine hK.out _ _ ⟨(blk_cell BK.out 0).trans rfl,(blk_cell BK.out 1).trans rfl,(blk_cell BK.out 2).trans rfl,(blk_cell BK.out 3).trans rfl,(blk_cell BK.out 4).trans rfl,(blk_cell BK.out 5).trans rfl,y0,y1,y2,y3,y4,y5⟩ (fun hHeld => ?_)
    clear hK K y0 y1 y2 y3 y4 y5
    refine norm_ (a':=?_) ?_ ?_
    rotate_left
    ·show Act.put _ _ _ = _
     simp only [Act.put,List.setIfInBounds_toArray,List.set_cons_zero,List.set_cons_succ]
     rfl
    refine pure_ (i:=5) (N:=some 28) (v:=?_) (a':=?_) #[true,true,true,true,true,true,false,false,false,false,false,false,false,false,false,false,false,false] rfl rfl q4_ (fun _ _ _ h => h) (Or.inl ⟨by rfl,?_⟩) ?_ ?_
    rotate_left
    ·intro w'
     go_simp
     with_reducible rfl
    rotate_left
    ·simp only [Act.put,List.setIfInBounds_toArray,List.set_cons_zero,List.set_cons_succ]
     rfl
    refine pure_ (i:=6) (N:=some 29) (v:=?_) (a':=?_) #[true,true,true,true,true,true,true,false,false,false,false,false,false,false,false,false,false,false] rfl rfl q4_ (fun _ _ _ h => h) (Or.inl ⟨by rfl,?_⟩) ?_ ?_
    rotate_left
    ·intro w'
     go_simp
     with_reducible rfl
    rotate_left
    ·simp only [Act.put,List.setIfInBounds_toArray,List.set_cons_zero,List.set_cons_succ]
     rfl
    refine pure_ (i:=7) (N:=some 30) (v:=undef) (a':=?_) #[true,true,true,true,true,true,true,true,false,false,false,false,false,false,false,false,false,false] rfl rfl q4_ (fun _ _ _ h => h) (Or.inr ⟨by rfl,rfl⟩) ?_ ?_
    rotate_left
    ·simp only [Act.put,List.setIfInBounds_toArray,List.set_cons_zero,List.set_cons_succ]
     rfl
    refine pure_ (i:=8) (N:=some 31) (v:=undef) (a':=?_) #[true,true,true,true,true,true,true,true,true,false,false,false,false,false,false,false,false,false] rfl rfl q4_ (fun _ _ _ h => h) (Or.inr ⟨by rfl,rfl⟩) ?_ ?_
    rotate_left
    ·simp only [Act.put,List.setIfInBounds_toArray,List.set_cons_zero,List.set_cons_succ]
     rfl
    refine pure_ (i:=9) (N:=some 32) (v:=undef) (a':=?_) #[true,true,true,true,true,true,true,true,true,true,false,false,false,false,false,false,false,false] rfl rfl q4_ (fun _ _ _ h => h) (Or.inr ⟨by rfl,rfl⟩) ?_ ?_
    rotate_left
    ·simp only [Act.put,List.setIfInBounds_toArray,List.set_cons_zero,List.set_cons_succ]
     rfl
    refine pure_ (i:=10) (N:=some 33) (v:=undef) (a':=?_) #[true,true,true,true,true,true,true,true,true,true,true,false,false,false,false,false,false,false] rfl rfl q4_ (fun _ _ _ h => h) (Or.inr ⟨by rfl,rfl⟩) ?_ ?_
    rotate_left
    ·simp only [Act.put,List.setIfInBounds_toArray,List.set_cons_zero,List.set_cons_succ]
     rfl
    refine pure_ (i:=11) (N:=some 34) (v:=undef) (a':=?_) #[true,true,true,true,true,true,true,true,true,true,true,true,false,false,false,false,false,false] rfl rfl q4_ (fun _ _ _ h => h) (Or.inr ⟨by rfl,rfl⟩) ?_ ?_
    rotate_left
    ·simp only [Act.put,List.setIfInBounds_toArray,List.set_cons_zero,List.set_cons_succ]
     rfl
    refine pure_ (i:=12) (N:=some 35) (v:=undef) (a':=?_) #[true,true,true,true,true,true,true,true,true,true,true,true,true,false,false,false,false,false] rfl rfl q4_ (fun _ _ _ h => h) (Or.inr ⟨by rfl,rfl⟩) ?_ ?_
    rotate_left
    ·simp only [Act.put,List.setIfInBounds_toArray,List.set_cons_zero,List.set_cons_succ]
     rfl
    refine pure_ (i:=13) (N:=some 36) (v:=undef) (a':=?_) #[true,true,true,true,true,true,true,true,true,true,true,true,true,true,false,false,false,false] rfl rfl q4_ (fun _ _ _ h => h) (Or.inr ⟨by rfl,rfl⟩) ?_ ?_
    rotate_left
    ·simp only [Act.put,List.setIfInBounds_toArray,List.set_cons_zero,List.set_cons_succ]
     rfl
    refine pure_ (i:=14) (N:=some 37) (v:=undef) (a':=?_) #[true,true,true,true,true,true,true,true,true,true,true,true,true,true,true,false,false,false] rfl rfl q4_ (fun _ _ _ h => h) (Or.inr ⟨by rfl,rfl⟩) ?_ ?_
    rotate_left
    ·simp only [Act.put,List.setIfInBounds_toArray,List.set_cons_zero,List.set_cons_succ]
     rfl
    refine pure_ (i:=15) (N:=some 38) (v:=undef) (a':=?_) #[true,true,true,true,true,true,true,true,true,true,true,true,true,true,true,true,false,false] rfl rfl q4_ (fun _ _ _ h => h) (Or.inr ⟨by rfl,rfl⟩) ?_ ?_
    rotate_left
    ·simp only [Act.put,List.setIfInBounds_toArray,List.set_cons_zero,List.set_cons_succ]
     rfl
    refine pure_ (i:=16) (N:=some 39) (v:=?_) (a':=?_) #[true,true,true,true,true,true,true,true,true,true,true,true,true,true,true,true,true,false] rfl rfl q4_ (fun _ _ _ h => h) (Or.inl ⟨by rfl,?_⟩) ?_ ?_
    rotate_left
    ·intro w'
     go_simp
     with_reducible rfl
    rotate_left
    ·simp only [Act.put,List.setIfInBounds_toArray,List.set_cons_zero,List.set_cons_succ]
     rfl
    refine pure_ (i:=17) (N:=some 22) (v:=?_) (a':=?_) #[true,true,true,true,true,true,true,true,true,true,true,true,true,true,true,true,true,true] rfl rfl q4_ (fun _ _ _ h => h) (Or.inl ⟨by rfl,?_⟩) ?_ ?_
    rotate_left
    ·intro w'
     go_simp
     with_reducible rfl
    rotate_left
    ·simp only [Act.put,List.setIfInBounds_toArray,List.set_cons_zero,List.set_cons_succ]
     rfl
    refine done_ q4_ ?_
    obtain rfl:=had.out
    obtain ⟨y0,y1,y2,y3,y4,y5⟩:=elemZ (Kd.R_reads' HO.out).2.2 j hj hz
    simp only [addr0] at y0 y1 y2 y3 y4 y5
    have hccZ : ∀ (q : Nat) (u : Value),[.string z.f0,.int .i64 z.f1.f0,.int .i64 z.f1.f1,.int .i64 z.f1.f2,.string z.f1.f3,.string z.f1.f4][q]? = some u → wq.cell? ⟨gg,(j : Int).toNat * 6 + q,none⟩ = some u:=by
     intro q u hq
     rw [Int.toNat_natCast]
     match q,hq with
     | 0,hq => exact y0.trans hq
     | 1,hq => exact y1.trans hq
     | 2,hq => exact y2.trans hq
     | 3,hq => exact y3.trans hq
     | 4,hq => exact y4.trans hq
     | 5,hq => exact y5.trans hq
     | q + 6,hq => exact absurd hq q21_
    have hs0 : wq.cell? ⟨g3,0,none⟩ = some _:=(blk_cell BK.out 0).trans rfl
    have hs1 : wq.cell? ⟨g3,1,none⟩ = some _:=(blk_cell BK.out 1).trans rfl
    have hs2 : wq.cell? ⟨g3,2,none⟩ = some _:=(blk_cell BK.out 2).trans rfl
    have hs3 : wq.cell? ⟨g3,3,none⟩ = some _:=(blk_cell BK.out 3).trans rfl
    have hs4 : wq.cell? ⟨g3,4,none⟩ = some _:=(blk_cell BK.out 4).trans rfl
    have hs5 : wq.cell? ⟨g3,5,none⟩ = some _:=(blk_cell BK.out 5).trans rfl
    clear y0 y1 y2 y3 y4 y5
    go_wp2_with (first | ((with_reducible refine gate_ (.store 41 (.tmp 43) (.tmp 42)) rfl ?_);refine Kd.R_store k41 (w0:=w) w.heap.size rfl rfl 41 (.tmp 43) (.tmp 42) rfl 41 (g:=gg) (o':=j * 6) (j : Int) 0 l0 r (.agg #[.string r.f0,.int .i64 r.f1.f0,.int .i64 r.f1.f1,.int .i64 r.f1.f2,.string r.f1.f3,.string r.f1.f4]) [.string r.f0,.int .i64 r.f1.f0,.int .i64 r.f1.f1,.int .i64 r.f1.f2,.string r.f1.f3,.string r.f1.f4] [.string z.f0,.int .i64 z.f1.f0,.int .i64 z.f1.f1,.int .i64 z.f1.f2,.string z.f1.f3,.string z.f1.f4] (fun k => k ≠ g3) (fun k => k ≠ g3 ∧ k ≠ gg) rfl (by show j * 6 = (j : Int).toNat * 6 + 0;omega) rfl rfl q4_ q26_ HO.out q5_ q5_ rfl ?hcc (Nat.le_refl 6) (k41_mkM _ _ _ r) (fun k hk => hk) HB.out ?_;(case hcc => exact hccZ);intro w9 hR9 hB9 hg9))
    go_ret
    exact ⟨_,rfl,Kd.R_mono hR9 (fun _ _ => trivial),hB9⟩
   | true =>
    rw [if_pos rfl] at h
    obtain ⟨c,hcmp,h⟩:=Option.bind_eq_some_iff.mp h
    replace hcmp : ver_Compare.f fuelR z.f1.f0 z.f1.f1 z.f1.f2 z.f1.f3 z.f1.f4 r.f1.f0 r.f1.f1 r.f1.f2 r.f1.f3 r.f1.f4 = some c:=hcmp
    by_cases hc0 : c < 0
    ·have hcc : (c < 0) = True:=eq_true hc0
     rw [if_pos hc0] at h
     obtain rfl:=Option.some.inj h
     clear h
     obtain ⟨y0,y1,y2,y3,y4,y5⟩:=elemZ (Kd.R_reads' HO.out).2.2 j hj hz
     refine start_ (n:=18) (S:=fun w' => w'.cell? ⟨g3,0,none⟩ = some (.string r.f0) ∧ w'.cell? ⟨g3,1,none⟩ = some (.int .i64 r.f1.f0) ∧ w'.cell? ⟨g3,2,none⟩ = some (.int .i64 r.f1.f1) ∧ w'.cell? ⟨g3,3,none⟩ = some (.int .i64 r.f1.f2) ∧ w'.cell? ⟨g3,4,none⟩ = some (.string r.f1.f3) ∧ w'.cell? ⟨g3,5,none⟩ = some (.string r.f1.f4) ∧ w'.cell? (ad.add (j * 6)) = some (.string z.f0) ∧ w'.cell? ⟨(ad.add (j * 6)).block,(ad.add (j * 6)).off + 1,none⟩ = some (.int .i64 z.f1.f0) ∧ w'.cell? ⟨(ad.add (j * 6)).block,(ad.add (j * 6)).off + 2,none⟩ = some (.int .i64 z.f1.f1) ∧ w'.cell? ⟨(ad.add (j * 6)).block,(ad.add (j * 6)).off + 3,none⟩ = some (.int .i64 z.f1.f2) ∧ w'.cell? ⟨(ad.add (j * 6)).block,(ad.add (j * 6)).off + 4,none⟩ = some (.string z.f1.f3) ∧ w'.cell? ⟨(ad.add (j * 6)).block,(ad.add (j * 6)).off + 5,none⟩ = some (.string z.f1.f4)) (ds:=[]) #[false,false,false,false,false,false,false,false,false,false,false,false,false,false,false,false,false,false] q4_ rfl rfl ⟨(blk_cell BK.out 0).trans rfl,(blk_cell BK.out 1).trans rfl,(blk_cell BK.out 2).trans rfl,(blk_cell BK.out 3).trans rfl,(blk_cell BK.out 4).trans rfl,(blk_cell BK.out 5).trans rfl,y0,y1,y2,y3,y4,y5⟩ (fun hHeld => ?_)
     clear y0 y1 y2 y3 y4 y5
     refine pure_ (i:=0) (N:=some 23) (v:=?_) (a':=?_) #[true,false,false,false,false,false,false,false,false,false,false,false,false,false,false,false,false,false] rfl rfl q4_ (fun _ _ _ h => h) (Or.inl ⟨by rfl,?_⟩) ?_ ?_
     rotate_left
     ·intro w'
      go_simp
      with_reducible rfl
     rotate_left
     ·simp only [Act.put,List.setIfInBounds_toArray,List.set_cons_zero,List.set_cons_succ]
      rfl
     refine pure_ (i:=1) (N:=some 24) (v:=?_) (a':=?_) #[true,true,false,false,false,false,false,false,false,false,false,false,false,false,false,false,false,false] rfl rfl q4_ (fun _ _ _ h => h) (Or.inl ⟨by rfl,?_⟩) ?_ ?_
     rotate_left
     ·intro w'
      go_simp
      with_reducible rfl
     rotate_left
     ·simp only [Act.put,List.setIfInBounds_toArray,List.set_cons_zero,List.set_cons_succ]
      rfl
     refine pure_ (i:=2) (N:=some 25) (v:=?_) (a':=?_) #[true,true,true,false,false,false,false,false,false,false,false,false,false,false,false,false,false,false] rfl rfl q4_ (fun _ _ _ h => h) (Or.inl ⟨by rfl,?_⟩) ?_ ?_
     rotate_left
     ·intro w'
      go_simp
      with_reducible rfl
     rotate_left
     ·simp only [Act.put,List.setIfInBounds_toArray,List.set_cons_zero,List.set_cons_succ]
      rfl
     refine take_ (i:=3) (N:=some 26) (v:=?_) (a':=?_) #[true,true,true,true,false,false,false,false,false,false,false,false,false,false,false,false,false,false] rfl rfl q4_ (fun _ _ _ h => h) (Or.inl ⟨by rfl,?_⟩) hHeld ?_ ?_
     rotate_left
     ·rintro w' ⟨s0,s1,s2,s3,s4,s5,s6,s7,s8,s9,s10,s11⟩
      go_simp
      with_reducible rfl
     rotate_left
     ·simp only [Act.put,List.setIfInBounds_toArray,List.set_cons_zero,List.set_cons_succ]
      rfl
     refine one_ (i:=4) (N:=some 27) #[true,true,true,true,true,false,false,false,false,false,false,false,false,false,false,false,false,false] rfl rfl q4_ q33_ (fun K hK => ?_)
     refine goes_ Tryz.func59 q4_ rfl #[.agg #[.string z.f0,.int .i64 z.f1.f0,.int .i64 z.f1.f1,.int .i64 z.f1.f2,.string z.f1.f3,.string z.f1.f4]] q50_ rfl rfl q22_ ?_
     (with_reducible refine (mvs_may.calls fuelR z.f0 z.f1.f0 z.f1.f1 z.f1.f2 z.f1.f3 z.f1.f4 true _ hmj ?sideG).mono ?_)
     (case sideG => exact Env.below HE.out HB.out)
     rintro e wq ⟨rfl,hb_⟩
     refine ⟨_,rfl,?_⟩
     replace BK:=Aside0.mk (blk_below BK.out hb_);replace HO:=Aside0.mk (Kd.R_below HO.out hb_);replace HB:=Aside0.mk (below_then HB.out HB.out.size hb_);clear hb_
     obtain ⟨y0,y1,y2,y3,y4,y5⟩:=elemZ (Kd.R_reads' HO.out).2.2 j hj hz
     refine hK.out _ _ ⟨(blk_cell BK.out 0).trans rfl,(blk_cell BK.out 1).trans rfl,(blk_cell BK.out 2).trans rfl,(blk_cell BK.out 3).trans rfl,(blk_cell BK.out 4).trans rfl,(blk_cell BK.out 5).trans rfl,y0,y1,y2,y3,y4,y5⟩ (fun hHeld => ?_)
     clear hK K y0 y1 y2 y3 y4 y5
     refine norm_ (a':=?_) ?_ ?_
     rotate_left
     ·show Act.put _ _ _ = _
      simp only [Act.put,List.setIfInBounds_toArray,List.set_cons_zero,List.set_cons_succ]
      rfl
     refine pure_ (i:=5) (N:=some 28) (v:=?_) (a':=?_) #[true,true,true,true,true,true,false,false,false,false,false,false,false,false,false,false,false,false] rfl rfl q4_ (fun _ _ _ h => h) (Or.inl ⟨by rfl,?_⟩) ?_ ?_
     rotate_left
     ·intro w'
      go_simp
      with_reducible rfl
     rotate_left
     ·simp only [Act.put,List.setIfInBounds_toArray,List.set_cons_zero,List.set_cons_succ]
      rfl
     refine pure_ (i:=6) (N:=some 29) (v:=?_) (a':=?_) #[true,true,true,true,true,true,true,false,false,false,false,false,false,false,false,false,false,false] rfl rfl q4_ (fun _ _ _ h => h) (Or.inl ⟨by rfl,?_⟩) ?_ ?_
     rotate_left
     ·intro w'
      go_simp
      with_reducible rfl
     rotate_left
     ·simp only [Act.put,List.setIfInBounds_toArray,List.set_cons_zero,List.set_cons_succ]
      rfl
     refine pure_ (i:=7) (N:=some 30) (v:=?_) (a':=?_) #[true,true,true,true,true,true,true,true,false,false,false,false,false,false,false,false,false,false] rfl rfl q4_ (fun _ _ _ h => h) (Or.inl ⟨by rfl,?_⟩) ?_ ?_
     rotate_left
     ·intro w'
      go_simp
      with_reducible rfl
     rotate_left
     ·simp only [Act.put,List.setIfInBounds_toArray,List.set_cons_zero,List.set_cons_succ]
      rfl
     refine pure_ (i:=8) (N:=some 31) (v:=?_) (a':=?_) #[true,true,true,true,true,true,true,true,true,false,false,false,false,false,false,false,false,false] rfl rfl q4_ (fun _ _ _ h => h) (Or.inl ⟨by rfl,?_⟩) ?_ ?_
     rotate_left
     ·intro w'
      go_simp
      with_reducible rfl
     rotate_left
     ·simp only [Act.put,List.setIfInBounds_toArray,List.set_cons_zero,List.set_cons_succ]
      rfl
     refine pure_ (i:=9) (N:=some 32) (v:=?_) (a':=?_) #[true,true,true,true,true,true,true,true,true,true,false,false,false,false,false,false,false,false] rfl rfl q4_ (fun _ _ _ h => h) (Or.inl ⟨by rfl,?_⟩) ?_ ?_
     rotate_left
     ·intro w'
      go_simp
      with_reducible rfl
     rotate_left
     ·simp only [Act.put,List.setIfInBounds_toArray,List.set_cons_zero,List.set_cons_succ]
      rfl
     refine pure_ (i:=10) (N:=some 33) (v:=?_) (a':=?_) #[true,true,true,true,true,true,true,true,true,true,true,false,false,false,false,false,false,false] rfl rfl q4_ (fun _ _ _ h => h) (Or.inl ⟨by rfl,?_⟩) ?_ ?_
     rotate_left
     ·intro w'
      go_simp
      with_reducible rfl
     rotate_left
     ·simp only [Act.put,List.setIfInBounds_toArray,List.set_cons_zero,List.set_cons_succ]
      rfl
     refine pure_ (i:=12) (N:=some 35) (v:=?_) (a':=?_) #[true,true,true,true,true,true,true,true,true,true,true,false,true,false,false,false,false,false] rfl rfl q4_ (fun _ _ _ h => h) (Or.inl ⟨by rfl,?_⟩) ?_ ?_
     rotate_left
     ·intro w'
      go_simp
      with_reducible rfl
     rotate_left
     ·simp only [Act.put,List.setIfInBounds_toArray,List.set_cons_zero,List.set_cons_succ]
      rfl
     refine take_ (i:=11) (N:=some 34) (v:=?_) (a':=?_) #[true,true,true,true,true,true,true,true,true,true,true,true,true,false,false,false,false,false] rfl rfl q4_ (fun _ _ _ h => h) (Or.inl ⟨by rfl,?_⟩) hHeld ?_ ?_
     rotate_left
     ·rintro w' ⟨s0,s1,s2,s3,s4,s5,s6,s7,s8,s9,s10,s11⟩
      go_simp
      with_reducible rfl
     rotate_left
     ·simp only [Act.put,List.setIfInBounds_toArray,List.set_cons_zero,List.set_cons_succ]
      rfl
     refine take_ (i:=13) (N:=some 36) (v:=?_) (a':=?_) #[true,true,true,true,true,true,true,true,true,true,true,true,true,true,false,false,false,false] rfl rfl q4_ (fun _ _ _ h => h) (Or.inl ⟨by rfl,?_⟩) hHeld ?_ ?_
     rotate_left
     ·rintro w' ⟨s0,s1,s2,s3,s4,s5,s6,s7,s8,s9,s10,s11⟩
      go_simp
      with_reducible rfl
     rotate_left
     ·simp only [Act.put,List.setIfInBounds_toArray,List.set_cons_zero,List.set_cons_succ]
      rfl
     refine one_ (i:=14) (N:=some 37) #[true,true,true,true,true,true,true,true,true,true,true,true,true,true,true,false,false,false] rfl rfl q4_ q33_ (fun K hK => ?_)
     refine goes_ Tryz.func44 q4_ rfl #[.agg #[.int .i64 z.f1.f0,.int .i64 z.f1.f1,.int .i64 z.f1.f2,.string z.f1.f3,.string z.f1.f4],.agg #[.int .i64 r.f1.f0,.int .i64 r.f1.f1,.int .i64 r.f1.f2,.string r.f1.f3,.string r.f1.f4]] q50_ rfl rfl q22_ ?_
     (with_reducible refine (ver_Compare.calls fuelR z.f1.f0 z.f1.f1 z.f1.f2 z.f1.f3 z.f1.f4 r.f1.f0 r.f1.f1 r.f1.f2 r.f1.f3 r.f1.f4 c _ hcmp ?sideG).mono ?_)
     (case sideG => exact Env.below HE.out HB.out)
     rintro e wk ⟨rfl,hb_⟩
     refine ⟨_,rfl,?_⟩
     replace BK:=Aside0.mk (blk_below BK.out hb_);replace HO:=Aside0.mk (Kd.R_below HO.out hb_);replace HB:=Aside0.mk (below_then HB.out HB.out.size hb_);clear hb_
     obtain ⟨y0,y1,y2,y3,y4,y5⟩:=elemZ (Kd.R_reads' HO.out).2.2 j hj hz
     refine hK.out _ _ ⟨(blk_cell BK.out 0).trans rfl,(blk_cell BK.out 1).trans rfl,(blk_cell BK.out 2).trans rfl,(blk_cell BK.out 3).trans rfl,(blk_cell BK.out 4).trans rfl,(blk_cell BK.out 5).trans rfl,y0,y1,y2,y3,y4,y5⟩ (fun hHeld => ?_)
     clear hK K y0 y1 y2 y3 y4 y5
     refine norm_ (a':=?_) ?_ ?_
     rotate_left
     ·show Act.put _ _ _ = _
      simp only [Act.put,List.setIfInBounds_toArray,List.set_cons_zero,List.set_cons_succ]
      rfl
     refine pure_ (i:=15) (N:=some 38) (v:=?_) (a':=?_) #[true,true,true,true,true,true,true,true,true,true,true,true,true,true,true,true,false,false] rfl rfl q4_ (fun _ _ _ h => h) (Or.inl ⟨by rfl,?_⟩) ?_ ?_
     rotate_left
     ·intro w'
      go_simp
      with_reducible rfl
     rotate_left
     ·simp only [Act.put,List.setIfInBounds_toArray,List.set_cons_zero,List.set_cons_succ]
      rfl
     refine pure_ (i:=16) (N:=some 39) (v:=?_) (a':=?_) #[true,true,true,true,true,true,true,true,true,true,true,true,true,true,true,true,true,false] rfl rfl q4_ (fun _ _ _ h => h) (Or.inl ⟨by rfl,?_⟩) ?_ ?_
     rotate_left
     ·intro w'
      go_simp
      with_reducible rfl
     rotate_left
     ·simp only [Act.put,List.setIfInBounds_toArray,List.set_cons_zero,List.set_cons_succ]
      rfl
     refine pure_ (i:=17) (N:=some 22) (v:=?_) (a':=?_) #[true,true,true,true,true,true,true,true,true,true,true,true,true,true,true,true,true,true] rfl rfl q4_ (fun _ _ _ h => h) (Or.inl ⟨by rfl,?_⟩) ?_ ?_
     rotate_left
     ·intro w'
      go_simp
      with_reducible rfl
     rotate_left
     ·simp only [Act.put,List.setIfInBounds_toArray,List.set_cons_zero,List.set_cons_succ]
      rfl
     refine done_ q4_ ?_
     obtain rfl:=had.out
     obtain ⟨y0,y1,y2,y3,y4,y5⟩:=elemZ (Kd.R_reads' HO.out).2.2 j hj hz
     simp only [addr0] at y0 y1 y2 y3 y4 y5
     have hccZ : ∀ (q : Nat) (u : Value),[.string z.f0,.int .i64 z.f1.f0,.int .i64 z.f1.f1,.int .i64 z.f1.f2,.string z.f1.f3,.string z.f1.f4][q]? = some u → wk.cell? ⟨gg,(j : Int).toNat * 6 + q,none⟩ = some u:=by
      intro q u hq
      rw [Int.toNat_natCast]
      match q,hq with
      | 0,hq => exact y0.trans hq
      | 1,hq => exact y1.trans hq
      | 2,hq => exact y2.trans hq
      | 3,hq => exact y3.trans hq
      | 4,hq => exact y4.trans hq
      | 5,hq => exact y5.trans hq
      | q + 6,hq => exact absurd hq q21_
     have hs0 : wk.cell? ⟨g3,0,none⟩ = some _:=(blk_cell BK.out 0).trans rfl
     have hs1 : wk.cell? ⟨g3,1,none⟩ = some _:=(blk_cell BK.out 1).trans rfl
     have hs2 : wk.cell? ⟨g3,2,none⟩ = some _:=(blk_cell BK.out 2).trans rfl
     have hs3 : wk.cell? ⟨g3,3,none⟩ = some _:=(blk_cell BK.out 3).trans rfl
     have hs4 : wk.cell? ⟨g3,4,none⟩ = some _:=(blk_cell BK.out 4).trans rfl
     have hs5 : wk.cell? ⟨g3,5,none⟩ = some _:=(blk_cell BK.out 5).trans rfl
     clear y0 y1 y2 y3 y4 y5
     go_wp2_with (first | ((with_reducible refine gate_ (.store 41 (.tmp 43) (.tmp 42)) rfl ?_);refine Kd.R_store k41 (w0:=w) w.heap.size rfl rfl 41 (.tmp 43) (.tmp 42) rfl 41 (g:=gg) (o':=j * 6) (j : Int) 0 l0 r (.agg #[.string r.f0,.int .i64 r.f1.f0,.int .i64 r.f1.f1,.int .i64 r.f1.f2,.string r.f1.f3,.string r.f1.f4]) [.string r.f0,.int .i64 r.f1.f0,.int .i64 r.f1.f1,.int .i64 r.f1.f2,.string r.f1.f3,.string r.f1.f4] [.string z.f0,.int .i64 z.f1.f0,.int .i64 z.f1.f1,.int .i64 z.f1.f2,.string z.f1.f3,.string z.f1.f4] (fun k => k ≠ g3) (fun k => k ≠ g3 ∧ k ≠ gg) rfl (by show j * 6 = (j : Int).toNat * 6 + 0;omega) rfl rfl q4_ q26_ HO.out q5_ q5_ rfl ?hcc (Nat.le_refl 6) (k41_mkM _ _ _ r) (fun k hk => hk) HB.out ?_;(case hcc => exact hccZ);intro w9 hR9 hB9 hg9))
     go_ret
     exact ⟨_,rfl,Kd.R_mono hR9 (fun _ _ => trivial),hB9⟩
    ·have hcc : (c < 0) = False:=eq_false hc0
     rw [if_neg hc0] at h
     obtain rfl:=Option.some.inj h
     clear h
     obtain ⟨y0,y1,y2,y3,y4,y5⟩:=elemZ (Kd.R_reads' HO.out).2.2 j hj hz
     refine start_ (n:=18) (S:=fun w' => w'.cell? ⟨g3,0,none⟩ = some (.string r.f0) ∧ w'.cell? ⟨g3,1,none⟩ = some (.int .i64 r.f1.f0) ∧ w'.cell? ⟨g3,2,none⟩ = some (.int .i64 r.f1.f1) ∧ w'.cell? ⟨g3,3,none⟩ = some (.int .i64 r.f1.f2) ∧ w'.cell? ⟨g3,4,none⟩ = some (.string r.f1.f3) ∧ w'.cell? ⟨g3,5,none⟩ = some (.string r.f1.f4) ∧ w'.cell? (ad.add (j * 6)) = some (.string z.f0) ∧ w'.cell? ⟨(ad.add (j * 6)).block,(ad.add (j * 6)).off + 1,none⟩ = some (.int .i64 z.f1.f0) ∧ w'.cell? ⟨(ad.add (j * 6)).block,(ad.add (j * 6)).off + 2,none⟩ = some (.int .i64 z.f1.f1) ∧ w'.cell? ⟨(ad.add (j * 6)).block,(ad.add (j * 6)).off + 3,none⟩ = some (.int .i64 z.f1.f2) ∧ w'.cell? ⟨(ad.add (j * 6)).block,(ad.add (j * 6)).off + 4,none⟩ = some (.string z.f1.f3) ∧ w'.cell? ⟨(ad.add (j * 6)).block,(ad.add (j * 6)).off + 5,none⟩ = some (.string z.f1.f4)) (ds:=[]) #[false,false,false,false,false,false,false,false,false,false,false,false,false,false,false,false,false,false] q4_ rfl rfl ⟨(blk_cell BK.out 0).trans rfl,(blk_cell BK.out 1).trans rfl,(blk_cell BK.out 2).trans rfl,(blk_cell BK.out 3).trans rfl,(blk_cell BK.out 4).trans rfl,(blk_cell BK.out 5).trans rfl,y0,y1,y2,y3,y4,y5⟩ (fun hHeld => ?_)
     clear y0 y1 y2 y3 y4 y5
     refine pure_ (i:=0) (N:=some 23) (v:=?_) (a':=?_) #[true,false,false,false,false,false,false,false,false,false,false,false,false,false,false,false,false,false] rfl rfl q4_ (fun _ _ _ h => h) (Or.inl ⟨by rfl,?_⟩) ?_ ?_
     rotate_left
     ·intro w'
      go_simp
      with_reducible rfl
     rotate_left
     ·simp only [Act.put,List.setIfInBounds_toArray,List.set_cons_zero,List.set_cons_succ]
      rfl
     refine pure_ (i:=1) (N:=some 24) (v:=?_) (a':=?_) #[true,true,false,false,false,false,false,false,false,false,false,false,false,false,false,false,false,false] rfl rfl q4_ (fun _ _ _ h => h) (Or.inl ⟨by rfl,?_⟩) ?_ ?_
     rotate_left
     ·intro w'
      go_simp
      with_reducible rfl
     rotate_left
     ·simp only [Act.put,List.setIfInBounds_toArray,List.set_cons_zero,List.set_cons_succ]
      rfl
     refine pure_ (i:=2) (N:=some 25) (v:=?_) (a':=?_) #[true,true,true,false,false,false,false,false,false,false,false,false,false,false,false,false,false,false] rfl rfl q4_ (fun _ _ _ h => h) (Or.inl ⟨by rfl,?_⟩) ?_ ?_
     rotate_left
     ·intro w'
      go_simp
      with_reducible rfl
     rotate_left
     ·simp only [Act.put,List.setIfInBounds_toArray,List.set_cons_zero,List.set_cons_succ]
      rfl
     refine take_ (i:=3) (N:=some 26) (v:=?_) (a':=?_) #[true,true,true,true,false,false,false,false,false,false,false,false,false,false,false,false,false,false] rfl rfl q4_ (fun _ _ _ h => h) (Or.inl ⟨by rfl,?_⟩) hHeld ?_ ?_
     rotate_left
     ·rintro w' ⟨s0,s1,s2,s3,s4,s5,s6,s7,s8,s9,s10,s11⟩
      go_simp
      with_reducible rfl
     rotate_left
     ·simp only [Act.put,List.setIfInBounds_toArray,List.set_cons_zero,List.set_cons_succ]
      rfl
     refine one_ (i:=4) (N:=some 27) #[true,true,true,true,true,false,false,false,false,false,false,false,false,false,false,false,false,false] rfl rfl q4_ q33_ (fun K hK => ?_)
     refine goes_ Tryz.func59 q4_ rfl #[.agg #[.string z.f0,.int .i64 z.f1.f0,.int .i64 z.f1.f1,.int .i64 z.f1.f2,.string z.f1.f3,.string z.f1.f4]] q50_ rfl rfl q22_ ?_
     (with_reducible refine (mvs_may.calls fuelR z.f0 z.f1.f0 z.f1.f1 z.f1.f2 z.f1.f3 z.f1.f4 true _ hmj ?sideG).mono ?_)
     (case sideG => exact Env.below HE.out HB.out)
     rintro e wq ⟨rfl,hb_⟩
     refine ⟨_,rfl,?_⟩
     replace BK:=Aside0.mk (blk_below BK.out hb_);replace HO:=Aside0.mk (Kd.R_below HO.out hb_);replace HB:=Aside0.mk (below_then HB.out HB.out.size hb_);clear hb_
     obtain ⟨y0,y1,y2,y3,y4,y5⟩:=elemZ (Kd.R_reads' HO.out).2.2 j hj hz
     refine hK.out _ _ ⟨(blk_cell BK.out 0).trans rfl,(blk_cell BK.out 1).trans rfl,(blk_cell BK.out 2).trans rfl,(blk_cell BK.out 3).trans rfl,(blk_cell BK.out 4).trans rfl,(blk_cell BK.out 5).trans rfl,y0,y1,y2,y3,y4,y5⟩ (fun hHeld => ?_)
     clear hK K y0 y1 y2 y3 y4 y5
     refine norm_ (a':=?_) ?_ ?_
     rotate_left
     ·show Act.put _ _ _ = _
      simp only [Act.put,List.setIfInBounds_toArray,List.set_cons_zero,List.set_cons_succ]
      rfl
     refine pure_ (i:=5) (N:=some 28) (v:=?_) (a':=?_) #[true,true,true,true,true,true,false,false,false,false,false,false,false,false,false,false,false,false] rfl rfl q4_ (fun _ _ _ h => h) (Or.inl ⟨by rfl,?_⟩) ?_ ?_
     rotate_left
     ·intro w'
      go_simp
      with_reducible rfl
     rotate_left
     ·simp only [Act.put,List.setIfInBounds_toArray,List.set_cons_zero,List.set_cons_succ]
      rfl
     refine pure_ (i:=6) (N:=some 29) (v:=?_) (a':=?_) #[true,true,true,true,true,true,true,false,false,false,false,false,false,false,false,false,false,false] rfl rfl q4_ (fun _ _ _ h => h) (Or.inl ⟨by rfl,?_⟩) ?_ ?_
     rotate_left
     ·intro w'
      go_simp
      with_reducible rfl
     rotate_left
     ·simp only [Act.put,List.setIfInBounds_toArray,List.set_cons_zero,List.set_cons_succ]
      rfl
     refine pure_ (i:=7) (N:=some 30) (v:=?_) (a':=?_) #[true,true,true,true,true,true,true,true,false,false,false,false,false,false,false,false,false,false] rfl rfl q4_ (fun _ _ _ h => h) (Or.inl ⟨by rfl,?_⟩) ?_ ?_
     rotate_left
     ·intro w'
      go_simp
      with_reducible rfl
     rotate_left
     ·simp only [Act.put,List.setIfInBounds_toArray,List.set_cons_zero,List.set_cons_succ]
      rfl
     refine pure_ (i:=8) (N:=some 31) (v:=?_) (a':=?_) #[true,true,true,true,true,true,true,true,true,false,false,false,false,false,false,false,false,false] rfl rfl q4_ (fun _ _ _ h => h) (Or.inl ⟨by rfl,?_⟩) ?_ ?_
     rotate_left
     ·intro w'
      go_simp
      with_reducible rfl
     rotate_left
     ·simp only [Act.put,List.setIfInBounds_toArray,List.set_cons_zero,List.set_cons_succ]
      rfl
     refine pure_ (i:=9) (N:=some 32) (v:=?_) (a':=?_) #[true,true,true,true,true,true,true,true,true,true,false,false,false,false,false,false,false,false] rfl rfl q4_ (fun _ _ _ h => h) (Or.inl ⟨by rfl,?_⟩) ?_ ?_
     rotate_left
     ·intro w'
      go_simp
      with_reducible rfl
     rotate_left
     ·simp only [Act.put,List.setIfInBounds_toArray,List.set_cons_zero,List.set_cons_succ]
      rfl
     refine pure_ (i:=10) (N:=some 33) (v:=?_) (a':=?_) #[true,true,true,true,true,true,true,true,true,true,true,false,false,false,false,false,false,false] rfl rfl q4_ (fun _ _ _ h => h) (Or.inl ⟨by rfl,?_⟩) ?_ ?_
     rotate_left
     ·intro w'
      go_simp
      with_reducible rfl
     rotate_left
     ·simp only [Act.put,List.setIfInBounds_toArray,List.set_cons_zero,List.set_cons_succ]
      rfl
     refine pure_ (i:=12) (N:=some 35) (v:=?_) (a':=?_) #[true,true,true,true,true,true,true,true,true,true,true,false,true,false,false,false,false,false] rfl rfl q4_ (fun _ _ _ h => h) (Or.inl ⟨by rfl,?_⟩) ?_ ?_
     rotate_left
     ·intro w'
      go_simp
      with_reducible rfl
     rotate_left
     ·simp only [Act.put,List.setIfInBounds_toArray,List.set_cons_zero,List.set_cons_succ]
      rfl
     refine take_ (i:=11) (N:=some 34) (v:=?_) (a':=?_) #[true,true,true,true,true,true,true,true,true,true,true,true,true,false,false,false,false,false] rfl rfl q4_ (fun _ _ _ h => h) (Or.inl ⟨by rfl,?_⟩) hHeld ?_ ?_
     rotate_left
     ·rintro w' ⟨s0,s1,s2,s3,s4,s5,s6,s7,s8,s9,s10,s11⟩
      go_simp
      with_reducible rfl
     rotate_left
     ·simp only [Act.put,List.setIfInBounds_toArray,List.set_cons_zero,List.set_cons_succ]
      rfl
     refine take_ (i:=13) (N:=some 36) (v:=?_) (a':=?_) #[true,true,true,true,true,true,true,true,true,true,true,true,true,true,false,false,false,false] rfl rfl q4_ (fun _ _ _ h => h) (Or.inl ⟨by rfl,?_⟩) hHeld ?_ ?_
     rotate_left
     ·rintro w' ⟨s0,s1,s2,s3,s4,s5,s6,s7,s8,s9,s10,s11⟩
      go_simp
      with_reducible rfl
     rotate_left
     ·simp only [Act.put,List.setIfInBounds_toArray,List.set_cons_zero,List.set_cons_succ]
      rfl
     refine one_ (i:=14) (N:=some 37) #[true,true,true,true,true,true,true,true,true,true,true,true,true,true,true,false,false,false] rfl rfl q4_ q33_ (fun K hK => ?_)
     refine goes_ Tryz.func44 q4_ rfl #[.agg #[.int .i64 z.f1.f0,.int .i64 z.f1.f1,.int .i64 z.f1.f2,.string z.f1.f3,.string z.f1.f4],.agg #[.int .i64 r.f1.f0,.int .i64 r.f1.f1,.int .i64 r.f1.f2,.string r.f1.f3,.string r.f1.f4]] q50_ rfl rfl q22_ ?_
     (with_reducible refine (ver_Compare.calls fuelR z.f1.f0 z.f1.f1 z.f1.f2 z.f1.f3 z.f1.f4 r.f1.f0 r.f1.f1 r.f1.f2 r.f1.f3 r.f1.f4 c _ hcmp ?sideG).mono ?_)
     (case sideG => exact Env.below HE.out HB.out)
     rintro e wk ⟨rfl,hb_⟩
     refine ⟨_,rfl,?_⟩
     replace BK:=Aside0.mk (blk_below BK.out hb_);replace HO:=Aside0.mk (Kd.R_below HO.out hb_);replace HB:=Aside0.mk (below_then HB.out HB.out.size hb_);clear hb_
     obtain ⟨y0,y1,y2,y3,y4,y5⟩:=elemZ (Kd.R_reads' HO.out).2.2 j hj hz
     refine hK.out _ _ ⟨(blk_cell BK.out 0).trans rfl,(blk_cell BK.out 1).trans rfl,(blk_cell BK.out 2).trans rfl,(blk_cell BK.out 3).trans rfl,(blk_cell BK.out 4).trans rfl,(blk_cell BK.out 5).trans rfl,y0,y1,y2,y3,y4,y5⟩ (fun hHeld => ?_)
     clear hK K y0 y1 y2 y3 y4 y5
     refine norm_ (a':=?_) ?_ ?_
     rotate_left
     ·show Act.put _ _ _ = _
      simp only [Act.put,List.setIfInBounds_toArray,List.set_cons_zero,List.set_cons_succ]
      rfl
     refine pure_ (i:=15) (N:=some 38) (v:=?_) (a':=?_) #[true,true,true,true,true,true,true,true,true,true,true,true,true,true,true,true,false,false] rfl rfl q4_ (fun _ _ _ h => h) (Or.inl ⟨by rfl,?_⟩) ?_ ?_
     rotate_left
     ·intro w'
      go_simp
      with_reducible rfl
     rotate_left
     ·simp only [Act.put,List.setIfInBounds_toArray,List.set_cons_zero,List.set_cons_succ]
      rfl
     refine pure_ (i:=16) (N:=some 39) (v:=?_) (a':=?_) #[true,true,true,true,true,true,true,true,true,true,true,true,true,true,true,true,true,false] rfl rfl q4_ (fun _ _ _ h => h) (Or.inl ⟨by rfl,?_⟩) ?_ ?_
     rotate_left
     ·intro w'
      go_simp
      with_reducible rfl
     rotate_left
     ·simp only [Act.put,List.setIfInBounds_toArray,List.set_cons_zero,List.set_cons_succ]
      rfl
     refine pure_ (i:=17) (N:=some 22) (v:=?_) (a':=?_) #[true,true,true,true,true,true,true,true,true,true,true,true,true,true,true,true,true,true] rfl rfl q4_ (fun _ _ _ h => h) (Or.inl ⟨by rfl,?_⟩) ?_ ?_
     rotate_left
     ·intro w'
      go_simp
      with_reducible rfl
     rotate_left
     ·simp only [Act.put,List.setIfInBounds_toArray,List.set_cons_zero,List.set_cons_succ]
      rfl
     refine done_ q4_ ?_
     go_wp2
     go_ret
     exact ⟨_,rfl,Kd.R_mono HO.out (fun _ _ => trivial),HB.out⟩
def mvs_Upgrade.f (l0 : List Req) (a1_0 : ByteArray) (a1_1 : Int) (a1_2 : Int) (a1_3 : Int) (a1_4 : ByteArray) (a1_5 : ByteArray) : Option (List Req):=upP l0 ⟨a1_0,a1_1,a1_2,a1_3,a1_4,a1_5⟩
theorem mvs_Upgrade.calls (A0 : Option Addr) (c0 : Nat) (l0 : List Req) (a1_0 : ByteArray) (a1_1 : Int) (a1_2 : Int) (a1_3 : Int) (a1_4 : ByteArray) (a1_5 : ByteArray) (r : List Req) (w : World) (hr0 : Kd.C k41 w A0 l0.length l0) (hc0 : l0.length ≤ c0) (h : mvs_Upgrade.f l0 a1_0 a1_1 a1_2 a1_3 a1_4 a1_5 = some r) (hG : Env w) :
  Calls Tryz.prog 29 #[.slice A0 l0.length c0,.agg #[.string a1_0,.int .i64 a1_1,.int .i64 a1_2,.int .i64 a1_3,.string a1_4,.string a1_5]] w fun e w' => ∃ v0_ : Value,e = .returned (v0_) ∧ Kd.R k41 41 w' w.heap.size (fun _ => True) v0_ r ∧ Below w.heap.size w w' :=
 up_calls A0 c0 l0 ⟨a1_0,a1_1,a1_2,a1_3,a1_4,a1_5⟩ r w hr0 hc0 h hG
end Go.Proofs.YtennhpoemdaghaaGreatDoor.P
end
section
namespace Go.Proofs.YtennhpoemdaghaaGreatDoor.P
open Go.RowKit Go.Proofs.YtennhpoemdaghaaGreatDoorW.PrintWords Go.Proofs.YtennhpoemdaghaaGreatDoorW.PrintLast Go.Proofs.YtennhpoemdaghaaGreatDoorW.PrintMore
def Lw17_live.f (k : Nat)  : Option (Bool):=(Lw17_req.f (⟨#[97]⟩ : ByteArray) 0).bind fun bt101 => ((Lw17_req.f (⟨#[99]⟩ : ByteArray) 1).bind fun bt107 => ((Lw17_req.f (⟨#[98]⟩ : ByteArray) 0).bind fun bt116 => ((Lw17_req.f (⟨#[99]⟩ : ByteArray) 2).bind fun bt122 => ((Lw17_req.f (⟨#[99]⟩ : ByteArray) 2).bind fun bt131 => ((Lw17_req.f (⟨#[100]⟩ : ByteArray) 0).bind fun bt137 => ((Lw17_req.f (⟨#[98]⟩ : ByteArray) (-1)).bind fun bt146 => ((some (([(⟨(⟨bt101.1,(⟨bt101.2.1,bt101.2.2.1,bt101.2.2.2.1,bt101.2.2.2.2.1,bt101.2.2.2.2.2⟩ : S24)⟩ : S41),(([(⟨bt107.1,(⟨bt107.2.1,bt107.2.2.1,bt107.2.2.2.1,bt107.2.2.2.2.1,bt107.2.2.2.2.2⟩ : S24)⟩ : S41)] : List (S41)))⟩ : S70),(⟨(⟨bt116.1,(⟨bt116.2.1,bt116.2.2.1,bt116.2.2.2.1,bt116.2.2.2.2.1,bt116.2.2.2.2.2⟩ : S24)⟩ : S41),(([(⟨bt122.1,(⟨bt122.2.1,bt122.2.2.1,bt122.2.2.2.1,bt122.2.2.2.2.1,bt122.2.2.2.2.2⟩ : S24)⟩ : S41)] : List (S41)))⟩ : S70),(⟨(⟨bt131.1,(⟨bt131.2.1,bt131.2.2.1,bt131.2.2.2.1,bt131.2.2.2.2.1,bt131.2.2.2.2.2⟩ : S24)⟩ : S41),(([(⟨bt137.1,(⟨bt137.2.1,bt137.2.2.1,bt137.2.2.2.1,bt137.2.2.2.2.1,bt137.2.2.2.2.2⟩ : S24)⟩ : S41)] : List (S41)))⟩ : S70),(⟨(⟨bt146.1,(⟨bt146.2.1,bt146.2.2.1,bt146.2.2.2.1,bt146.2.2.2.2.1,bt146.2.2.2.2.2⟩ : S24)⟩ : S41),([] : List (S41))⟩ : S70)] : List (S70)) : List (S70))).bind fun y152 => ((Lw17_req.f (⟨#[98]⟩ : ByteArray) 0).bind fun bt155 => ((Lw17_req.f (⟨#[97]⟩ : ByteArray) 0).bind fun bt161 => ((some (([(⟨bt155.1,(⟨bt155.2.1,bt155.2.2.1,bt155.2.2.2.1,bt155.2.2.2.2.1,bt155.2.2.2.2.2⟩ : S24)⟩ : S41),(⟨bt161.1,(⟨bt161.2.1,bt161.2.2.1,bt161.2.2.2.1,bt161.2.2.2.2.1,bt161.2.2.2.2.2⟩ : S24)⟩ : S41)] : List (S41)) : List (S41))).bind fun y167 => ((mvs_List.f y167 y152).bind fun t170 => ((Lw17_req.f (⟨#[97]⟩ : ByteArray) 3).bind fun bt173 => ((mvs_Upgrade.f y167 bt173.1 bt173.2.1 bt173.2.2.1 bt173.2.2.2.1 bt173.2.2.2.2.1 bt173.2.2.2.2.2).bind fun t179 => ((Lw17_req.f (⟨#[99]⟩ : ByteArray) 1).bind fun bt182 => ((mvs_Downgrade.f k y167 y152 bt182.1 bt182.2.1 bt182.2.2.1 bt182.2.2.2.1 bt182.2.2.2.2.1 bt182.2.2.2.2.2).bind fun t188 => ((Lw17_req.f (⟨#[97]⟩ : ByteArray) 0).bind fun bt191 => ((Lw17_req.f (⟨#[98]⟩ : ByteArray) 0).bind fun bt197 => ((Lw17_req.f (⟨#[99]⟩ : ByteArray) 2).bind fun bt203 => ((Lw17_req.f (⟨#[100]⟩ : ByteArray) 0).bind fun bt209 => ((Rf17_Same.f k t170 (([(⟨bt191.1,(⟨bt191.2.1,bt191.2.2.1,bt191.2.2.2.1,bt191.2.2.2.2.1,bt191.2.2.2.2.2⟩ : S24)⟩ : S41),(⟨bt197.1,(⟨bt197.2.1,bt197.2.2.1,bt197.2.2.2.1,bt197.2.2.2.2.1,bt197.2.2.2.2.2⟩ : S24)⟩ : S41),(⟨bt203.1,(⟨bt203.2.1,bt203.2.2.1,bt203.2.2.2.1,bt203.2.2.2.2.1,bt203.2.2.2.2.2⟩ : S24)⟩ : S41),(⟨bt209.1,(⟨bt209.2.1,bt209.2.2.1,bt209.2.2.2.1,bt209.2.2.2.2.1,bt209.2.2.2.2.2⟩ : S24)⟩ : S41)] : List (S41)))).bind fun t218 => (if t218 = true then ((mvs_Reached.f y167 y152).bind fun t219 => (if (t219.length : Int) = 5 then ((Lw17_req.f (⟨#[98]⟩ : ByteArray) 0).bind fun bt222 => ((Lw17_req.f (⟨#[97]⟩ : ByteArray) 3).bind fun bt228 => ((Rf17_Same.f k t179 (([(⟨bt222.1,(⟨bt222.2.1,bt222.2.2.1,bt222.2.2.2.1,bt222.2.2.2.2.1,bt222.2.2.2.2.2⟩ : S24)⟩ : S41),(⟨bt228.1,(⟨bt228.2.1,bt228.2.2.1,bt228.2.2.2.1,bt228.2.2.2.2.1,bt228.2.2.2.2.2⟩ : S24)⟩ : S41)] : List (S41)))).bind fun t237 => (if t237 = true then ((Lw17_req.f (⟨#[97]⟩ : ByteArray) 0).bind fun bt238 => ((Rf17_Same.f k t188 (([(⟨bt238.1,(⟨bt238.2.1,bt238.2.2.1,bt238.2.2.2.1,bt238.2.2.2.2.1,bt238.2.2.2.2.2⟩ : S24)⟩ : S41)] : List (S41)))).bind fun t247 => (if t247 = true then ((Lw17_req.f (⟨#[122]⟩ : ByteArray) 0).bind fun bt248 => ((mvs_Upgrade.f y167 bt248.1 bt248.2.1 bt248.2.2.1 bt248.2.2.2.1 bt248.2.2.2.2.1 bt248.2.2.2.2.2).bind fun t254 => (if (t254.length : Int) = 3 then ((Lw17_req.f (⟨#[122]⟩ : ByteArray) (-1)).bind fun bt257 => ((mvs_Upgrade.f y167 bt257.1 bt257.2.1 bt257.2.2.1 bt257.2.2.2.1 bt257.2.2.2.2.1 bt257.2.2.2.2.2).bind fun t263 => (some ((t263.length : Int) == 2)))) else (some false)))) else (some false)))) else (some false))))) else (some false))) else (some false))))))))))))))))))))))
theorem Lw17_live.mono : ∀ k,LeO (Lw17_live.f k ) (Lw17_live.f (k + 1) ):=by
 intro  k
 unfold Lw17_live.f
 repeat' first
   | (with_reducible exact Rf17_Same.mono _ _ _)
   | (with_reducible exact mvs_Downgrade.mono _ _ _ _ _ _ _ _ _)
   | (with_reducible exact LeO.refl _)
   | (with_reducible exact LeO.none _)
   | (with_reducible refine LeO.ite ?_ ?_)
   | (with_reducible refine LeO.bind ?_ (fun _ => ?_))
   | exact Rf17_Same.mono _ _ _
   | exact mvs_Downgrade.mono _ _ _ _ _ _ _ _ _
   | exact LeO.none _
   | refine LeO.ite ?_ ?_
   | refine LeO.bind ?_ (fun _ => ?_)
set_option maxHeartbeats 8000000 in
set_option maxRecDepth 100000 in
theorem Lw17_live.calls (k : Nat)  (r : Bool) (w : World) (h : Lw17_live.f k  = some r) (hr_ : r = true) (hG : Env w) :
  Calls Tryz.prog 22 #[] w fun e w' => e = .returned (.bool r) ∧ Below w.heap.size w w':=by
 have HG:=Aside0.mk hG
 clear hG
 have HR_:=Aside0.mk hr_
 clear hr_
 have hu70:=Tryz.underlying70
 have HB:=Aside0.mk (Below.refl w.heap.size w)
 have H : ((Lw17_req.f (⟨#[97]⟩ : ByteArray) 0).bind fun bt101 => ((Lw17_req.f (⟨#[99]⟩ : ByteArray) 1).bind fun bt107 => ((Lw17_req.f (⟨#[98]⟩ : ByteArray) 0).bind fun bt116 => ((Lw17_req.f (⟨#[99]⟩ : ByteArray) 2).bind fun bt122 => ((Lw17_req.f (⟨#[99]⟩ : ByteArray) 2).bind fun bt131 => ((Lw17_req.f (⟨#[100]⟩ : ByteArray) 0).bind fun bt137 => ((Lw17_req.f (⟨#[98]⟩ : ByteArray) (-1)).bind fun bt146 => ((some (([(⟨(⟨bt101.1,(⟨bt101.2.1,bt101.2.2.1,bt101.2.2.2.1,bt101.2.2.2.2.1,bt101.2.2.2.2.2⟩ : S24)⟩ : S41),(([(⟨bt107.1,(⟨bt107.2.1,bt107.2.2.1,bt107.2.2.2.1,bt107.2.2.2.2.1,bt107.2.2.2.2.2⟩ : S24)⟩ : S41)] : List (S41)))⟩ : S70),(⟨(⟨bt116.1,(⟨bt116.2.1,bt116.2.2.1,bt116.2.2.2.1,bt116.2.2.2.2.1,bt116.2.2.2.2.2⟩ : S24)⟩ : S41),(([(⟨bt122.1,(⟨bt122.2.1,bt122.2.2.1,bt122.2.2.2.1,bt122.2.2.2.2.1,bt122.2.2.2.2.2⟩ : S24)⟩ : S41)] : List (S41)))⟩ : S70),(⟨(⟨bt131.1,(⟨bt131.2.1,bt131.2.2.1,bt131.2.2.2.1,bt131.2.2.2.2.1,bt131.2.2.2.2.2⟩ : S24)⟩ : S41),(([(⟨bt137.1,(⟨bt137.2.1,bt137.2.2.1,bt137.2.2.2.1,bt137.2.2.2.2.1,bt137.2.2.2.2.2⟩ : S24)⟩ : S41)] : List (S41)))⟩ : S70),(⟨(⟨bt146.1,(⟨bt146.2.1,bt146.2.2.1,bt146.2.2.2.1,bt146.2.2.2.2.1,bt146.2.2.2.2.2⟩ : S24)⟩ : S41),([] : List (S41))⟩ : S70)] : List (S70)) : List (S70))).bind fun y152 => ((Lw17_req.f (⟨#[98]⟩ : ByteArray) 0).bind fun bt155 => ((Lw17_req.f (⟨#[97]⟩ : ByteArray) 0).bind fun bt161 => ((some (([(⟨bt155.1,(⟨bt155.2.1,bt155.2.2.1,bt155.2.2.2.1,bt155.2.2.2.2.1,bt155.2.2.2.2.2⟩ : S24)⟩ : S41),(⟨bt161.1,(⟨bt161.2.1,bt161.2.2.1,bt161.2.2.2.1,bt161.2.2.2.2.1,bt161.2.2.2.2.2⟩ : S24)⟩ : S41)] : List (S41)) : List (S41))).bind fun y167 => ((mvs_List.f y167 y152).bind fun t170 => ((Lw17_req.f (⟨#[97]⟩ : ByteArray) 3).bind fun bt173 => ((mvs_Upgrade.f y167 bt173.1 bt173.2.1 bt173.2.2.1 bt173.2.2.2.1 bt173.2.2.2.2.1 bt173.2.2.2.2.2).bind fun t179 => ((Lw17_req.f (⟨#[99]⟩ : ByteArray) 1).bind fun bt182 => ((mvs_Downgrade.f k y167 y152 bt182.1 bt182.2.1 bt182.2.2.1 bt182.2.2.2.1 bt182.2.2.2.2.1 bt182.2.2.2.2.2).bind fun t188 => ((Lw17_req.f (⟨#[97]⟩ : ByteArray) 0).bind fun bt191 => ((Lw17_req.f (⟨#[98]⟩ : ByteArray) 0).bind fun bt197 => ((Lw17_req.f (⟨#[99]⟩ : ByteArray) 2).bind fun bt203 => ((Lw17_req.f (⟨#[100]⟩ : ByteArray) 0).bind fun bt209 => ((Rf17_Same.f k t170 (([(⟨bt191.1,(⟨bt191.2.1,bt191.2.2.1,bt191.2.2.2.1,bt191.2.2.2.2.1,bt191.2.2.2.2.2⟩ : S24)⟩ : S41),(⟨bt197.1,(⟨bt197.2.1,bt197.2.2.1,bt197.2.2.2.1,bt197.2.2.2.2.1,bt197.2.2.2.2.2⟩ : S24)⟩ : S41),(⟨bt203.1,(⟨bt203.2.1,bt203.2.2.1,bt203.2.2.2.1,bt203.2.2.2.2.1,bt203.2.2.2.2.2⟩ : S24)⟩ : S41),(⟨bt209.1,(⟨bt209.2.1,bt209.2.2.1,bt209.2.2.2.1,bt209.2.2.2.2.1,bt209.2.2.2.2.2⟩ : S24)⟩ : S41)] : List (S41)))).bind fun t218 => (if t218 = true then ((mvs_Reached.f y167 y152).bind fun t219 => (if (t219.length : Int) = 5 then ((Lw17_req.f (⟨#[98]⟩ : ByteArray) 0).bind fun bt222 => ((Lw17_req.f (⟨#[97]⟩ : ByteArray) 3).bind fun bt228 => ((Rf17_Same.f k t179 (([(⟨bt222.1,(⟨bt222.2.1,bt222.2.2.1,bt222.2.2.2.1,bt222.2.2.2.2.1,bt222.2.2.2.2.2⟩ : S24)⟩ : S41),(⟨bt228.1,(⟨bt228.2.1,bt228.2.2.1,bt228.2.2.2.1,bt228.2.2.2.2.1,bt228.2.2.2.2.2⟩ : S24)⟩ : S41)] : List (S41)))).bind fun t237 => (if t237 = true then ((Lw17_req.f (⟨#[97]⟩ : ByteArray) 0).bind fun bt238 => ((Rf17_Same.f k t188 (([(⟨bt238.1,(⟨bt238.2.1,bt238.2.2.1,bt238.2.2.2.1,bt238.2.2.2.2.1,bt238.2.2.2.2.2⟩ : S24)⟩ : S41)] : List (S41)))).bind fun t247 => (if t247 = true then ((Lw17_req.f (⟨#[122]⟩ : ByteArray) 0).bind fun bt248 => ((mvs_Upgrade.f y167 bt248.1 bt248.2.1 bt248.2.2.1 bt248.2.2.2.1 bt248.2.2.2.2.1 bt248.2.2.2.2.2).bind fun t254 => (if (t254.length : Int) = 3 then ((Lw17_req.f (⟨#[122]⟩ : ByteArray) (-1)).bind fun bt257 => ((mvs_Upgrade.f y167 bt257.1 bt257.2.1 bt257.2.2.1 bt257.2.2.2.1 bt257.2.2.2.2.1 bt257.2.2.2.2.2).bind fun t263 => (some ((t263.length : Int) == 2)))) else (some false)))) else (some false)))) else (some false))))) else (some false))) else (some false))))))))))))))))))))))) = some r:=h
 clear h
 obtain ⟨⟨t101,t102,t103,t104,t105,t106⟩,A10,H⟩:=Option.bind_eq_some_iff.mp H
 dsimp only at H
 have A1:=Aside0.mk A10
 clear A10
 obtain ⟨⟨t107,t108,t109,t110,t111,t112⟩,A20,H⟩:=Option.bind_eq_some_iff.mp H
 dsimp only at H
 have A2:=Aside0.mk A20
 clear A20
 obtain ⟨y113,hy113⟩ : ∃ y_ : List (S41),y_ = (([(⟨t107,(⟨t108,t109,t110,t111,t112⟩ : S24)⟩ : S41)] : List (S41))):=⟨_,rfl⟩
 replace H : ((Lw17_req.f (⟨#[98]⟩ : ByteArray) 0).bind fun bt116 => ((Lw17_req.f (⟨#[99]⟩ : ByteArray) 2).bind fun bt122 => ((Lw17_req.f (⟨#[99]⟩ : ByteArray) 2).bind fun bt131 => ((Lw17_req.f (⟨#[100]⟩ : ByteArray) 0).bind fun bt137 => ((Lw17_req.f (⟨#[98]⟩ : ByteArray) (-1)).bind fun bt146 => ((some (([(⟨(⟨t101,(⟨t102,t103,t104,t105,t106⟩ : S24)⟩ : S41),y113⟩ : S70),(⟨(⟨bt116.1,(⟨bt116.2.1,bt116.2.2.1,bt116.2.2.2.1,bt116.2.2.2.2.1,bt116.2.2.2.2.2⟩ : S24)⟩ : S41),(([(⟨bt122.1,(⟨bt122.2.1,bt122.2.2.1,bt122.2.2.2.1,bt122.2.2.2.2.1,bt122.2.2.2.2.2⟩ : S24)⟩ : S41)] : List (S41)))⟩ : S70),(⟨(⟨bt131.1,(⟨bt131.2.1,bt131.2.2.1,bt131.2.2.2.1,bt131.2.2.2.2.1,bt131.2.2.2.2.2⟩ : S24)⟩ : S41),(([(⟨bt137.1,(⟨bt137.2.1,bt137.2.2.1,bt137.2.2.2.1,bt137.2.2.2.2.1,bt137.2.2.2.2.2⟩ : S24)⟩ : S41)] : List (S41)))⟩ : S70),(⟨(⟨bt146.1,(⟨bt146.2.1,bt146.2.2.1,bt146.2.2.2.1,bt146.2.2.2.2.1,bt146.2.2.2.2.2⟩ : S24)⟩ : S41),([] : List (S41))⟩ : S70)] : List (S70)) : List (S70))).bind fun y152 => ((Lw17_req.f (⟨#[98]⟩ : ByteArray) 0).bind fun bt155 => ((Lw17_req.f (⟨#[97]⟩ : ByteArray) 0).bind fun bt161 => ((some (([(⟨bt155.1,(⟨bt155.2.1,bt155.2.2.1,bt155.2.2.2.1,bt155.2.2.2.2.1,bt155.2.2.2.2.2⟩ : S24)⟩ : S41),(⟨bt161.1,(⟨bt161.2.1,bt161.2.2.1,bt161.2.2.2.1,bt161.2.2.2.2.1,bt161.2.2.2.2.2⟩ : S24)⟩ : S41)] : List (S41)) : List (S41))).bind fun y167 => ((mvs_List.f y167 y152).bind fun t170 => ((Lw17_req.f (⟨#[97]⟩ : ByteArray) 3).bind fun bt173 => ((mvs_Upgrade.f y167 bt173.1 bt173.2.1 bt173.2.2.1 bt173.2.2.2.1 bt173.2.2.2.2.1 bt173.2.2.2.2.2).bind fun t179 => ((Lw17_req.f (⟨#[99]⟩ : ByteArray) 1).bind fun bt182 => ((mvs_Downgrade.f k y167 y152 bt182.1 bt182.2.1 bt182.2.2.1 bt182.2.2.2.1 bt182.2.2.2.2.1 bt182.2.2.2.2.2).bind fun t188 => ((Lw17_req.f (⟨#[97]⟩ : ByteArray) 0).bind fun bt191 => ((Lw17_req.f (⟨#[98]⟩ : ByteArray) 0).bind fun bt197 => ((Lw17_req.f (⟨#[99]⟩ : ByteArray) 2).bind fun bt203 => ((Lw17_req.f (⟨#[100]⟩ : ByteArray) 0).bind fun bt209 => ((Rf17_Same.f k t170 (([(⟨bt191.1,(⟨bt191.2.1,bt191.2.2.1,bt191.2.2.2.1,bt191.2.2.2.2.1,bt191.2.2.2.2.2⟩ : S24)⟩ : S41),(⟨bt197.1,(⟨bt197.2.1,bt197.2.2.1,bt197.2.2.2.1,bt197.2.2.2.2.1,bt197.2.2.2.2.2⟩ : S24)⟩ : S41),(⟨bt203.1,(⟨bt203.2.1,bt203.2.2.1,bt203.2.2.2.1,bt203.2.2.2.2.1,bt203.2.2.2.2.2⟩ : S24)⟩ : S41),(⟨bt209.1,(⟨bt209.2.1,bt209.2.2.1,bt209.2.2.2.1,bt209.2.2.2.2.1,bt209.2.2.2.2.2⟩ : S24)⟩ : S41)] : List (S41)))).bind fun t218 => (if t218 = true then ((mvs_Reached.f y167 y152).bind fun t219 => (if (t219.length : Int) = 5 then ((Lw17_req.f (⟨#[98]⟩ : ByteArray) 0).bind fun bt222 => ((Lw17_req.f (⟨#[97]⟩ : ByteArray) 3).bind fun bt228 => ((Rf17_Same.f k t179 (([(⟨bt222.1,(⟨bt222.2.1,bt222.2.2.1,bt222.2.2.2.1,bt222.2.2.2.2.1,bt222.2.2.2.2.2⟩ : S24)⟩ : S41),(⟨bt228.1,(⟨bt228.2.1,bt228.2.2.1,bt228.2.2.2.1,bt228.2.2.2.2.1,bt228.2.2.2.2.2⟩ : S24)⟩ : S41)] : List (S41)))).bind fun t237 => (if t237 = true then ((Lw17_req.f (⟨#[97]⟩ : ByteArray) 0).bind fun bt238 => ((Rf17_Same.f k t188 (([(⟨bt238.1,(⟨bt238.2.1,bt238.2.2.1,bt238.2.2.2.1,bt238.2.2.2.2.1,bt238.2.2.2.2.2⟩ : S24)⟩ : S41)] : List (S41)))).bind fun t247 => (if t247 = true then ((Lw17_req.f (⟨#[122]⟩ : ByteArray) 0).bind fun bt248 => ((mvs_Upgrade.f y167 bt248.1 bt248.2.1 bt248.2.2.1 bt248.2.2.2.1 bt248.2.2.2.2.1 bt248.2.2.2.2.2).bind fun t254 => (if (t254.length : Int) = 3 then ((Lw17_req.f (⟨#[122]⟩ : ByteArray) (-1)).bind fun bt257 => ((mvs_Upgrade.f y167 bt257.1 bt257.2.1 bt257.2.2.1 bt257.2.2.2.1 bt257.2.2.2.2.1 bt257.2.2.2.2.2).bind fun t263 => (some ((t263.length : Int) == 2)))) else (some false)))) else (some false)))) else (some false))))) else (some false))) else (some false))))))))))))))))))))) = some r:=by first | (rw [hy113];with_reducible exact H) | (have H2_:=(Option.bind_some _ _).symm.trans H;rw [hy113];with_reducible exact H2_) | (have H2_:=(Option.bind_some _ _).symm.trans H;with_reducible exact H2_) | with_reducible exact H | (rw [hy113];exact H) | exact H
 have Ny113:=Aside0.mk hy113
 clear hy113
 obtain ⟨⟨t116,t117,t118,t119,t120,t121⟩,A30,H⟩:=Option.bind_eq_some_iff.mp H
 dsimp only at H
 have A3:=Aside0.mk A30
 clear A30
 obtain ⟨⟨t122,t123,t124,t125,t126,t127⟩,A40,H⟩:=Option.bind_eq_some_iff.mp H
 dsimp only at H
 have A4:=Aside0.mk A40
 clear A40
 obtain ⟨y128,hy128⟩ : ∃ y_ : List (S41),y_ = (([(⟨t122,(⟨t123,t124,t125,t126,t127⟩ : S24)⟩ : S41)] : List (S41))):=⟨_,rfl⟩
 replace H : ((Lw17_req.f (⟨#[99]⟩ : ByteArray) 2).bind fun bt131 => ((Lw17_req.f (⟨#[100]⟩ : ByteArray) 0).bind fun bt137 => ((Lw17_req.f (⟨#[98]⟩ : ByteArray) (-1)).bind fun bt146 => ((some (([(⟨(⟨t101,(⟨t102,t103,t104,t105,t106⟩ : S24)⟩ : S41),y113⟩ : S70),(⟨(⟨t116,(⟨t117,t118,t119,t120,t121⟩ : S24)⟩ : S41),y128⟩ : S70),(⟨(⟨bt131.1,(⟨bt131.2.1,bt131.2.2.1,bt131.2.2.2.1,bt131.2.2.2.2.1,bt131.2.2.2.2.2⟩ : S24)⟩ : S41),(([(⟨bt137.1,(⟨bt137.2.1,bt137.2.2.1,bt137.2.2.2.1,bt137.2.2.2.2.1,bt137.2.2.2.2.2⟩ : S24)⟩ : S41)] : List (S41)))⟩ : S70),(⟨(⟨bt146.1,(⟨bt146.2.1,bt146.2.2.1,bt146.2.2.2.1,bt146.2.2.2.2.1,bt146.2.2.2.2.2⟩ : S24)⟩ : S41),([] : List (S41))⟩ : S70)] : List (S70)) : List (S70))).bind fun y152 => ((Lw17_req.f (⟨#[98]⟩ : ByteArray) 0).bind fun bt155 => ((Lw17_req.f (⟨#[97]⟩ : ByteArray) 0).bind fun bt161 => ((some (([(⟨bt155.1,(⟨bt155.2.1,bt155.2.2.1,bt155.2.2.2.1,bt155.2.2.2.2.1,bt155.2.2.2.2.2⟩ : S24)⟩ : S41),(⟨bt161.1,(⟨bt161.2.1,bt161.2.2.1,bt161.2.2.2.1,bt161.2.2.2.2.1,bt161.2.2.2.2.2⟩ : S24)⟩ : S41)] : List (S41)) : List (S41))).bind fun y167 => ((mvs_List.f y167 y152).bind fun t170 => ((Lw17_req.f (⟨#[97]⟩ : ByteArray) 3).bind fun bt173 => ((mvs_Upgrade.f y167 bt173.1 bt173.2.1 bt173.2.2.1 bt173.2.2.2.1 bt173.2.2.2.2.1 bt173.2.2.2.2.2).bind fun t179 => ((Lw17_req.f (⟨#[99]⟩ : ByteArray) 1).bind fun bt182 => ((mvs_Downgrade.f k y167 y152 bt182.1 bt182.2.1 bt182.2.2.1 bt182.2.2.2.1 bt182.2.2.2.2.1 bt182.2.2.2.2.2).bind fun t188 => ((Lw17_req.f (⟨#[97]⟩ : ByteArray) 0).bind fun bt191 => ((Lw17_req.f (⟨#[98]⟩ : ByteArray) 0).bind fun bt197 => ((Lw17_req.f (⟨#[99]⟩ : ByteArray) 2).bind fun bt203 => ((Lw17_req.f (⟨#[100]⟩ : ByteArray) 0).bind fun bt209 => ((Rf17_Same.f k t170 (([(⟨bt191.1,(⟨bt191.2.1,bt191.2.2.1,bt191.2.2.2.1,bt191.2.2.2.2.1,bt191.2.2.2.2.2⟩ : S24)⟩ : S41),(⟨bt197.1,(⟨bt197.2.1,bt197.2.2.1,bt197.2.2.2.1,bt197.2.2.2.2.1,bt197.2.2.2.2.2⟩ : S24)⟩ : S41),(⟨bt203.1,(⟨bt203.2.1,bt203.2.2.1,bt203.2.2.2.1,bt203.2.2.2.2.1,bt203.2.2.2.2.2⟩ : S24)⟩ : S41),(⟨bt209.1,(⟨bt209.2.1,bt209.2.2.1,bt209.2.2.2.1,bt209.2.2.2.2.1,bt209.2.2.2.2.2⟩ : S24)⟩ : S41)] : List (S41)))).bind fun t218 => (if t218 = true then ((mvs_Reached.f y167 y152).bind fun t219 => (if (t219.length : Int) = 5 then ((Lw17_req.f (⟨#[98]⟩ : ByteArray) 0).bind fun bt222 => ((Lw17_req.f (⟨#[97]⟩ : ByteArray) 3).bind fun bt228 => ((Rf17_Same.f k t179 (([(⟨bt222.1,(⟨bt222.2.1,bt222.2.2.1,bt222.2.2.2.1,bt222.2.2.2.2.1,bt222.2.2.2.2.2⟩ : S24)⟩ : S41),(⟨bt228.1,(⟨bt228.2.1,bt228.2.2.1,bt228.2.2.2.1,bt228.2.2.2.2.1,bt228.2.2.2.2.2⟩ : S24)⟩ : S41)] : List (S41)))).bind fun t237 => (if t237 = true then ((Lw17_req.f (⟨#[97]⟩ : ByteArray) 0).bind fun bt238 => ((Rf17_Same.f k t188 (([(⟨bt238.1,(⟨bt238.2.1,bt238.2.2.1,bt238.2.2.2.1,bt238.2.2.2.2.1,bt238.2.2.2.2.2⟩ : S24)⟩ : S41)] : List (S41)))).bind fun t247 => (if t247 = true then ((Lw17_req.f (⟨#[122]⟩ : ByteArray) 0).bind fun bt248 => ((mvs_Upgrade.f y167 bt248.1 bt248.2.1 bt248.2.2.1 bt248.2.2.2.1 bt248.2.2.2.2.1 bt248.2.2.2.2.2).bind fun t254 => (if (t254.length : Int) = 3 then ((Lw17_req.f (⟨#[122]⟩ : ByteArray) (-1)).bind fun bt257 => ((mvs_Upgrade.f y167 bt257.1 bt257.2.1 bt257.2.2.1 bt257.2.2.2.1 bt257.2.2.2.2.1 bt257.2.2.2.2.2).bind fun t263 => (some ((t263.length : Int) == 2)))) else (some false)))) else (some false)))) else (some false))))) else (some false))) else (some false))))))))))))))))))) = some r:=by first | (rw [hy128];with_reducible exact H) | (have H2_:=(Option.bind_some _ _).symm.trans H;rw [hy128];with_reducible exact H2_) | (have H2_:=(Option.bind_some _ _).symm.trans H;with_reducible exact H2_) | with_reducible exact H | (rw [hy128];exact H) | exact H
 have Ny128:=Aside0.mk hy128
 clear hy128
 obtain ⟨⟨t131,t132,t133,t134,t135,t136⟩,A50,H⟩:=Option.bind_eq_some_iff.mp H
 dsimp only at H
 have A5:=Aside0.mk A50
 clear A50
 obtain ⟨⟨t137,t138,t139,t140,t141,t142⟩,A60,H⟩:=Option.bind_eq_some_iff.mp H
 dsimp only at H
 have A6:=Aside0.mk A60
 clear A60
 obtain ⟨y143,hy143⟩ : ∃ y_ : List (S41),y_ = (([(⟨t137,(⟨t138,t139,t140,t141,t142⟩ : S24)⟩ : S41)] : List (S41))):=⟨_,rfl⟩
 replace H : ((Lw17_req.f (⟨#[98]⟩ : ByteArray) (-1)).bind fun bt146 => ((some (([(⟨(⟨t101,(⟨t102,t103,t104,t105,t106⟩ : S24)⟩ : S41),y113⟩ : S70),(⟨(⟨t116,(⟨t117,t118,t119,t120,t121⟩ : S24)⟩ : S41),y128⟩ : S70),(⟨(⟨t131,(⟨t132,t133,t134,t135,t136⟩ : S24)⟩ : S41),y143⟩ : S70),(⟨(⟨bt146.1,(⟨bt146.2.1,bt146.2.2.1,bt146.2.2.2.1,bt146.2.2.2.2.1,bt146.2.2.2.2.2⟩ : S24)⟩ : S41),([] : List (S41))⟩ : S70)] : List (S70)) : List (S70))).bind fun y152 => ((Lw17_req.f (⟨#[98]⟩ : ByteArray) 0).bind fun bt155 => ((Lw17_req.f (⟨#[97]⟩ : ByteArray) 0).bind fun bt161 => ((some (([(⟨bt155.1,(⟨bt155.2.1,bt155.2.2.1,bt155.2.2.2.1,bt155.2.2.2.2.1,bt155.2.2.2.2.2⟩ : S24)⟩ : S41),(⟨bt161.1,(⟨bt161.2.1,bt161.2.2.1,bt161.2.2.2.1,bt161.2.2.2.2.1,bt161.2.2.2.2.2⟩ : S24)⟩ : S41)] : List (S41)) : List (S41))).bind fun y167 => ((mvs_List.f y167 y152).bind fun t170 => ((Lw17_req.f (⟨#[97]⟩ : ByteArray) 3).bind fun bt173 => ((mvs_Upgrade.f y167 bt173.1 bt173.2.1 bt173.2.2.1 bt173.2.2.2.1 bt173.2.2.2.2.1 bt173.2.2.2.2.2).bind fun t179 => ((Lw17_req.f (⟨#[99]⟩ : ByteArray) 1).bind fun bt182 => ((mvs_Downgrade.f k y167 y152 bt182.1 bt182.2.1 bt182.2.2.1 bt182.2.2.2.1 bt182.2.2.2.2.1 bt182.2.2.2.2.2).bind fun t188 => ((Lw17_req.f (⟨#[97]⟩ : ByteArray) 0).bind fun bt191 => ((Lw17_req.f (⟨#[98]⟩ : ByteArray) 0).bind fun bt197 => ((Lw17_req.f (⟨#[99]⟩ : ByteArray) 2).bind fun bt203 => ((Lw17_req.f (⟨#[100]⟩ : ByteArray) 0).bind fun bt209 => ((Rf17_Same.f k t170 (([(⟨bt191.1,(⟨bt191.2.1,bt191.2.2.1,bt191.2.2.2.1,bt191.2.2.2.2.1,bt191.2.2.2.2.2⟩ : S24)⟩ : S41),(⟨bt197.1,(⟨bt197.2.1,bt197.2.2.1,bt197.2.2.2.1,bt197.2.2.2.2.1,bt197.2.2.2.2.2⟩ : S24)⟩ : S41),(⟨bt203.1,(⟨bt203.2.1,bt203.2.2.1,bt203.2.2.2.1,bt203.2.2.2.2.1,bt203.2.2.2.2.2⟩ : S24)⟩ : S41),(⟨bt209.1,(⟨bt209.2.1,bt209.2.2.1,bt209.2.2.2.1,bt209.2.2.2.2.1,bt209.2.2.2.2.2⟩ : S24)⟩ : S41)] : List (S41)))).bind fun t218 => (if t218 = true then ((mvs_Reached.f y167 y152).bind fun t219 => (if (t219.length : Int) = 5 then ((Lw17_req.f (⟨#[98]⟩ : ByteArray) 0).bind fun bt222 => ((Lw17_req.f (⟨#[97]⟩ : ByteArray) 3).bind fun bt228 => ((Rf17_Same.f k t179 (([(⟨bt222.1,(⟨bt222.2.1,bt222.2.2.1,bt222.2.2.2.1,bt222.2.2.2.2.1,bt222.2.2.2.2.2⟩ : S24)⟩ : S41),(⟨bt228.1,(⟨bt228.2.1,bt228.2.2.1,bt228.2.2.2.1,bt228.2.2.2.2.1,bt228.2.2.2.2.2⟩ : S24)⟩ : S41)] : List (S41)))).bind fun t237 => (if t237 = true then ((Lw17_req.f (⟨#[97]⟩ : ByteArray) 0).bind fun bt238 => ((Rf17_Same.f k t188 (([(⟨bt238.1,(⟨bt238.2.1,bt238.2.2.1,bt238.2.2.2.1,bt238.2.2.2.2.1,bt238.2.2.2.2.2⟩ : S24)⟩ : S41)] : List (S41)))).bind fun t247 => (if t247 = true then ((Lw17_req.f (⟨#[122]⟩ : ByteArray) 0).bind fun bt248 => ((mvs_Upgrade.f y167 bt248.1 bt248.2.1 bt248.2.2.1 bt248.2.2.2.1 bt248.2.2.2.2.1 bt248.2.2.2.2.2).bind fun t254 => (if (t254.length : Int) = 3 then ((Lw17_req.f (⟨#[122]⟩ : ByteArray) (-1)).bind fun bt257 => ((mvs_Upgrade.f y167 bt257.1 bt257.2.1 bt257.2.2.1 bt257.2.2.2.1 bt257.2.2.2.2.1 bt257.2.2.2.2.2).bind fun t263 => (some ((t263.length : Int) == 2)))) else (some false)))) else (some false)))) else (some false))))) else (some false))) else (some false))))))))))))))))) = some r:=by first | (rw [hy143];with_reducible exact H) | (have H2_:=(Option.bind_some _ _).symm.trans H;rw [hy143];with_reducible exact H2_) | (have H2_:=(Option.bind_some _ _).symm.trans H;with_reducible exact H2_) | with_reducible exact H | (rw [hy143];exact H) | exact H
 have Ny143:=Aside0.mk hy143
 clear hy143
 obtain ⟨⟨t146,t147,t148,t149,t150,t151⟩,A70,H⟩:=Option.bind_eq_some_iff.mp H
 dsimp only at H
 have A7:=Aside0.mk A70
 clear A70
 obtain ⟨y152,hy152⟩ : ∃ y_ : List (S70),y_ = (([(⟨(⟨t101,(⟨t102,t103,t104,t105,t106⟩ : S24)⟩ : S41),y113⟩ : S70),(⟨(⟨t116,(⟨t117,t118,t119,t120,t121⟩ : S24)⟩ : S41),y128⟩ : S70),(⟨(⟨t131,(⟨t132,t133,t134,t135,t136⟩ : S24)⟩ : S41),y143⟩ : S70),(⟨(⟨t146,(⟨t147,t148,t149,t150,t151⟩ : S24)⟩ : S41),([] : List (S41))⟩ : S70)] : List (S70))):=⟨_,rfl⟩
 replace H : ((Lw17_req.f (⟨#[98]⟩ : ByteArray) 0).bind fun bt155 => ((Lw17_req.f (⟨#[97]⟩ : ByteArray) 0).bind fun bt161 => ((some (([(⟨bt155.1,(⟨bt155.2.1,bt155.2.2.1,bt155.2.2.2.1,bt155.2.2.2.2.1,bt155.2.2.2.2.2⟩ : S24)⟩ : S41),(⟨bt161.1,(⟨bt161.2.1,bt161.2.2.1,bt161.2.2.2.1,bt161.2.2.2.2.1,bt161.2.2.2.2.2⟩ : S24)⟩ : S41)] : List (S41)) : List (S41))).bind fun y167 => ((mvs_List.f y167 y152).bind fun t170 => ((Lw17_req.f (⟨#[97]⟩ : ByteArray) 3).bind fun bt173 => ((mvs_Upgrade.f y167 bt173.1 bt173.2.1 bt173.2.2.1 bt173.2.2.2.1 bt173.2.2.2.2.1 bt173.2.2.2.2.2).bind fun t179 => ((Lw17_req.f (⟨#[99]⟩ : ByteArray) 1).bind fun bt182 => ((mvs_Downgrade.f k y167 y152 bt182.1 bt182.2.1 bt182.2.2.1 bt182.2.2.2.1 bt182.2.2.2.2.1 bt182.2.2.2.2.2).bind fun t188 => ((Lw17_req.f (⟨#[97]⟩ : ByteArray) 0).bind fun bt191 => ((Lw17_req.f (⟨#[98]⟩ : ByteArray) 0).bind fun bt197 => ((Lw17_req.f (⟨#[99]⟩ : ByteArray) 2).bind fun bt203 => ((Lw17_req.f (⟨#[100]⟩ : ByteArray) 0).bind fun bt209 => ((Rf17_Same.f k t170 (([(⟨bt191.1,(⟨bt191.2.1,bt191.2.2.1,bt191.2.2.2.1,bt191.2.2.2.2.1,bt191.2.2.2.2.2⟩ : S24)⟩ : S41),(⟨bt197.1,(⟨bt197.2.1,bt197.2.2.1,bt197.2.2.2.1,bt197.2.2.2.2.1,bt197.2.2.2.2.2⟩ : S24)⟩ : S41),(⟨bt203.1,(⟨bt203.2.1,bt203.2.2.1,bt203.2.2.2.1,bt203.2.2.2.2.1,bt203.2.2.2.2.2⟩ : S24)⟩ : S41),(⟨bt209.1,(⟨bt209.2.1,bt209.2.2.1,bt209.2.2.2.1,bt209.2.2.2.2.1,bt209.2.2.2.2.2⟩ : S24)⟩ : S41)] : List (S41)))).bind fun t218 => (if t218 = true then ((mvs_Reached.f y167 y152).bind fun t219 => (if (t219.length : Int) = 5 then ((Lw17_req.f (⟨#[98]⟩ : ByteArray) 0).bind fun bt222 => ((Lw17_req.f (⟨#[97]⟩ : ByteArray) 3).bind fun bt228 => ((Rf17_Same.f k t179 (([(⟨bt222.1,(⟨bt222.2.1,bt222.2.2.1,bt222.2.2.2.1,bt222.2.2.2.2.1,bt222.2.2.2.2.2⟩ : S24)⟩ : S41),(⟨bt228.1,(⟨bt228.2.1,bt228.2.2.1,bt228.2.2.2.1,bt228.2.2.2.2.1,bt228.2.2.2.2.2⟩ : S24)⟩ : S41)] : List (S41)))).bind fun t237 => (if t237 = true then ((Lw17_req.f (⟨#[97]⟩ : ByteArray) 0).bind fun bt238 => ((Rf17_Same.f k t188 (([(⟨bt238.1,(⟨bt238.2.1,bt238.2.2.1,bt238.2.2.2.1,bt238.2.2.2.2.1,bt238.2.2.2.2.2⟩ : S24)⟩ : S41)] : List (S41)))).bind fun t247 => (if t247 = true then ((Lw17_req.f (⟨#[122]⟩ : ByteArray) 0).bind fun bt248 => ((mvs_Upgrade.f y167 bt248.1 bt248.2.1 bt248.2.2.1 bt248.2.2.2.1 bt248.2.2.2.2.1 bt248.2.2.2.2.2).bind fun t254 => (if (t254.length : Int) = 3 then ((Lw17_req.f (⟨#[122]⟩ : ByteArray) (-1)).bind fun bt257 => ((mvs_Upgrade.f y167 bt257.1 bt257.2.1 bt257.2.2.1 bt257.2.2.2.1 bt257.2.2.2.2.1 bt257.2.2.2.2.2).bind fun t263 => (some ((t263.length : Int) == 2)))) else (some false)))) else (some false)))) else (some false))))) else (some false))) else (some false))))))))))))))) = some r:=by first | (rw [hy152];with_reducible exact H) | (have H2_:=(Option.bind_some _ _).symm.trans H;rw [hy152];with_reducible exact H2_) | (have H2_:=(Option.bind_some _ _).symm.trans H;with_reducible exact H2_) | with_reducible exact H | (rw [hy152];exact H) | exact H
 have Ny152:=Aside0.mk hy152
 clear hy152
 obtain ⟨⟨t155,t156,t157,t158,t159,t160⟩,A80,H⟩:=Option.bind_eq_some_iff.mp H
 dsimp only at H
 have A8:=Aside0.mk A80
 clear A80
 obtain ⟨⟨t161,t162,t163,t164,t165,t166⟩,A90,H⟩:=Option.bind_eq_some_iff.mp H
 dsimp only at H
 have A9:=Aside0.mk A90
 clear A90
 obtain ⟨y167,hy167⟩ : ∃ y_ : List (S41),y_ = (([(⟨t155,(⟨t156,t157,t158,t159,t160⟩ : S24)⟩ : S41),(⟨t161,(⟨t162,t163,t164,t165,t166⟩ : S24)⟩ : S41)] : List (S41))):=⟨_,rfl⟩
 replace H : ((mvs_List.f y167 y152).bind fun t170 => ((Lw17_req.f (⟨#[97]⟩ : ByteArray) 3).bind fun bt173 => ((mvs_Upgrade.f y167 bt173.1 bt173.2.1 bt173.2.2.1 bt173.2.2.2.1 bt173.2.2.2.2.1 bt173.2.2.2.2.2).bind fun t179 => ((Lw17_req.f (⟨#[99]⟩ : ByteArray) 1).bind fun bt182 => ((mvs_Downgrade.f k y167 y152 bt182.1 bt182.2.1 bt182.2.2.1 bt182.2.2.2.1 bt182.2.2.2.2.1 bt182.2.2.2.2.2).bind fun t188 => ((Lw17_req.f (⟨#[97]⟩ : ByteArray) 0).bind fun bt191 => ((Lw17_req.f (⟨#[98]⟩ : ByteArray) 0).bind fun bt197 => ((Lw17_req.f (⟨#[99]⟩ : ByteArray) 2).bind fun bt203 => ((Lw17_req.f (⟨#[100]⟩ : ByteArray) 0).bind fun bt209 => ((Rf17_Same.f k t170 (([(⟨bt191.1,(⟨bt191.2.1,bt191.2.2.1,bt191.2.2.2.1,bt191.2.2.2.2.1,bt191.2.2.2.2.2⟩ : S24)⟩ : S41),(⟨bt197.1,(⟨bt197.2.1,bt197.2.2.1,bt197.2.2.2.1,bt197.2.2.2.2.1,bt197.2.2.2.2.2⟩ : S24)⟩ : S41),(⟨bt203.1,(⟨bt203.2.1,bt203.2.2.1,bt203.2.2.2.1,bt203.2.2.2.2.1,bt203.2.2.2.2.2⟩ : S24)⟩ : S41),(⟨bt209.1,(⟨bt209.2.1,bt209.2.2.1,bt209.2.2.2.1,bt209.2.2.2.2.1,bt209.2.2.2.2.2⟩ : S24)⟩ : S41)] : List (S41)))).bind fun t218 => (if t218 = true then ((mvs_Reached.f y167 y152).bind fun t219 => (if (t219.length : Int) = 5 then ((Lw17_req.f (⟨#[98]⟩ : ByteArray) 0).bind fun bt222 => ((Lw17_req.f (⟨#[97]⟩ : ByteArray) 3).bind fun bt228 => ((Rf17_Same.f k t179 (([(⟨bt222.1,(⟨bt222.2.1,bt222.2.2.1,bt222.2.2.2.1,bt222.2.2.2.2.1,bt222.2.2.2.2.2⟩ : S24)⟩ : S41),(⟨bt228.1,(⟨bt228.2.1,bt228.2.2.1,bt228.2.2.2.1,bt228.2.2.2.2.1,bt228.2.2.2.2.2⟩ : S24)⟩ : S41)] : List (S41)))).bind fun t237 => (if t237 = true then ((Lw17_req.f (⟨#[97]⟩ : ByteArray) 0).bind fun bt238 => ((Rf17_Same.f k t188 (([(⟨bt238.1,(⟨bt238.2.1,bt238.2.2.1,bt238.2.2.2.1,bt238.2.2.2.2.1,bt238.2.2.2.2.2⟩ : S24)⟩ : S41)] : List (S41)))).bind fun t247 => (if t247 = true then ((Lw17_req.f (⟨#[122]⟩ : ByteArray) 0).bind fun bt248 => ((mvs_Upgrade.f y167 bt248.1 bt248.2.1 bt248.2.2.1 bt248.2.2.2.1 bt248.2.2.2.2.1 bt248.2.2.2.2.2).bind fun t254 => (if (t254.length : Int) = 3 then ((Lw17_req.f (⟨#[122]⟩ : ByteArray) (-1)).bind fun bt257 => ((mvs_Upgrade.f y167 bt257.1 bt257.2.1 bt257.2.2.1 bt257.2.2.2.1 bt257.2.2.2.2.1 bt257.2.2.2.2.2).bind fun t263 => (some ((t263.length : Int) == 2)))) else (some false)))) else (some false)))) else (some false))))) else (some false))) else (some false)))))))))))) = some r:=by first | (rw [hy167];with_reducible exact H) | (have H2_:=(Option.bind_some _ _).symm.trans H;rw [hy167];with_reducible exact H2_) | (have H2_:=(Option.bind_some _ _).symm.trans H;with_reducible exact H2_) | with_reducible exact H | (rw [hy167];exact H) | exact H
 have Ny167:=Aside0.mk hy167
 clear hy167
 obtain ⟨t170,A100,H⟩:=Option.bind_eq_some_iff.mp H
 have A10:=Aside0.mk A100
 clear A100
 obtain ⟨⟨t173,t174,t175,t176,t177,t178⟩,A110,H⟩:=Option.bind_eq_some_iff.mp H
 dsimp only at H
 have A11:=Aside0.mk A110
 clear A110
 obtain ⟨t179,A120,H⟩:=Option.bind_eq_some_iff.mp H
 have A12:=Aside0.mk A120
 clear A120
 obtain ⟨⟨t182,t183,t184,t185,t186,t187⟩,A130,H⟩:=Option.bind_eq_some_iff.mp H
 dsimp only at H
 have A13:=Aside0.mk A130
 clear A130
 obtain ⟨t188,A140,H⟩:=Option.bind_eq_some_iff.mp H
 have A14:=Aside0.mk A140
 clear A140
 obtain ⟨⟨t191,t192,t193,t194,t195,t196⟩,A150,H⟩:=Option.bind_eq_some_iff.mp H
 dsimp only at H
 have A15:=Aside0.mk A150
 clear A150
 obtain ⟨⟨t197,t198,t199,t200,t201,t202⟩,A160,H⟩:=Option.bind_eq_some_iff.mp H
 dsimp only at H
 have A16:=Aside0.mk A160
 clear A160
 obtain ⟨⟨t203,t204,t205,t206,t207,t208⟩,A170,H⟩:=Option.bind_eq_some_iff.mp H
 dsimp only at H
 have A17:=Aside0.mk A170
 clear A170
 obtain ⟨⟨t209,t210,t211,t212,t213,t214⟩,A180,H⟩:=Option.bind_eq_some_iff.mp H
 dsimp only at H
 have A18:=Aside0.mk A180
 clear A180
 obtain ⟨y215,hy215⟩ : ∃ y_ : List (S41),y_ = (([(⟨t191,(⟨t192,t193,t194,t195,t196⟩ : S24)⟩ : S41),(⟨t197,(⟨t198,t199,t200,t201,t202⟩ : S24)⟩ : S41),(⟨t203,(⟨t204,t205,t206,t207,t208⟩ : S24)⟩ : S41),(⟨t209,(⟨t210,t211,t212,t213,t214⟩ : S24)⟩ : S41)] : List (S41))):=⟨_,rfl⟩
 replace H : ((Rf17_Same.f k t170 y215).bind fun t218 => (if t218 = true then ((mvs_Reached.f y167 y152).bind fun t219 => (if (t219.length : Int) = 5 then ((Lw17_req.f (⟨#[98]⟩ : ByteArray) 0).bind fun bt222 => ((Lw17_req.f (⟨#[97]⟩ : ByteArray) 3).bind fun bt228 => ((Rf17_Same.f k t179 (([(⟨bt222.1,(⟨bt222.2.1,bt222.2.2.1,bt222.2.2.2.1,bt222.2.2.2.2.1,bt222.2.2.2.2.2⟩ : S24)⟩ : S41),(⟨bt228.1,(⟨bt228.2.1,bt228.2.2.1,bt228.2.2.2.1,bt228.2.2.2.2.1,bt228.2.2.2.2.2⟩ : S24)⟩ : S41)] : List (S41)))).bind fun t237 => (if t237 = true then ((Lw17_req.f (⟨#[97]⟩ : ByteArray) 0).bind fun bt238 => ((Rf17_Same.f k t188 (([(⟨bt238.1,(⟨bt238.2.1,bt238.2.2.1,bt238.2.2.2.1,bt238.2.2.2.2.1,bt238.2.2.2.2.2⟩ : S24)⟩ : S41)] : List (S41)))).bind fun t247 => (if t247 = true then ((Lw17_req.f (⟨#[122]⟩ : ByteArray) 0).bind fun bt248 => ((mvs_Upgrade.f y167 bt248.1 bt248.2.1 bt248.2.2.1 bt248.2.2.2.1 bt248.2.2.2.2.1 bt248.2.2.2.2.2).bind fun t254 => (if (t254.length : Int) = 3 then ((Lw17_req.f (⟨#[122]⟩ : ByteArray) (-1)).bind fun bt257 => ((mvs_Upgrade.f y167 bt257.1 bt257.2.1 bt257.2.2.1 bt257.2.2.2.1 bt257.2.2.2.2.1 bt257.2.2.2.2.2).bind fun t263 => (some ((t263.length : Int) == 2)))) else (some false)))) else (some false)))) else (some false))))) else (some false))) else (some false))) = some r:=by first | (rw [hy215];with_reducible exact H) | (have H2_:=(Option.bind_some _ _).symm.trans H;rw [hy215];with_reducible exact H2_) | (have H2_:=(Option.bind_some _ _).symm.trans H;with_reducible exact H2_) | with_reducible exact H | (rw [hy215];exact H) | exact H
 have Ny215:=Aside0.mk hy215
 clear hy215
 obtain ⟨t218,A190,H⟩:=Option.bind_eq_some_iff.mp H
 have A19:=Aside0.mk A190
 clear A190
 by_cases c20 : t218 = true
 ·subst c20
  rw [if_pos rfl] at H
  obtain ⟨t219,A210,H⟩:=Option.bind_eq_some_iff.mp H
  have A21:=Aside0.mk A210
  clear A210
  by_cases c22 : (t219.length : Int) = 5
  ·rw [if_pos c22] at H
   have c22b0 : ((t219.length : Int) == 5) = true:=beq_iff_eq.mpr c22
   have c22b1 : ((t219.length : Int) != 5) = false:=bne_eq_false_iff_eq.mpr c22
   clear c22
   obtain ⟨⟨t222,t223,t224,t225,t226,t227⟩,A230,H⟩:=Option.bind_eq_some_iff.mp H
   dsimp only at H
   have A23:=Aside0.mk A230
   clear A230
   obtain ⟨⟨t228,t229,t230,t231,t232,t233⟩,A240,H⟩:=Option.bind_eq_some_iff.mp H
   dsimp only at H
   have A24:=Aside0.mk A240
   clear A240
   obtain ⟨y234,hy234⟩ : ∃ y_ : List (S41),y_ = (([(⟨t222,(⟨t223,t224,t225,t226,t227⟩ : S24)⟩ : S41),(⟨t228,(⟨t229,t230,t231,t232,t233⟩ : S24)⟩ : S41)] : List (S41))):=⟨_,rfl⟩
   replace H : ((Rf17_Same.f k t179 y234).bind fun t237 => (if t237 = true then ((Lw17_req.f (⟨#[97]⟩ : ByteArray) 0).bind fun bt238 => ((Rf17_Same.f k t188 (([(⟨bt238.1,(⟨bt238.2.1,bt238.2.2.1,bt238.2.2.2.1,bt238.2.2.2.2.1,bt238.2.2.2.2.2⟩ : S24)⟩ : S41)] : List (S41)))).bind fun t247 => (if t247 = true then ((Lw17_req.f (⟨#[122]⟩ : ByteArray) 0).bind fun bt248 => ((mvs_Upgrade.f y167 bt248.1 bt248.2.1 bt248.2.2.1 bt248.2.2.2.1 bt248.2.2.2.2.1 bt248.2.2.2.2.2).bind fun t254 => (if (t254.length : Int) = 3 then ((Lw17_req.f (⟨#[122]⟩ : ByteArray) (-1)).bind fun bt257 => ((mvs_Upgrade.f y167 bt257.1 bt257.2.1 bt257.2.2.1 bt257.2.2.2.1 bt257.2.2.2.2.1 bt257.2.2.2.2.2).bind fun t263 => (some ((t263.length : Int) == 2)))) else (some false)))) else (some false)))) else (some false))) = some r:=by first | (rw [hy234];with_reducible exact H) | (have H2_:=(Option.bind_some _ _).symm.trans H;rw [hy234];with_reducible exact H2_) | (have H2_:=(Option.bind_some _ _).symm.trans H;with_reducible exact H2_) | with_reducible exact H | (rw [hy234];exact H) | exact H
   have Ny234:=Aside0.mk hy234
   clear hy234
   obtain ⟨t237,A250,H⟩:=Option.bind_eq_some_iff.mp H
   have A25:=Aside0.mk A250
   clear A250
   by_cases c26 : t237 = true
   ·subst c26
    rw [if_pos rfl] at H
    obtain ⟨⟨t238,t239,t240,t241,t242,t243⟩,A270,H⟩:=Option.bind_eq_some_iff.mp H
    dsimp only at H
    have A27:=Aside0.mk A270
    clear A270
    obtain ⟨y244,hy244⟩ : ∃ y_ : List (S41),y_ = (([(⟨t238,(⟨t239,t240,t241,t242,t243⟩ : S24)⟩ : S41)] : List (S41))):=⟨_,rfl⟩
    replace H : ((Rf17_Same.f k t188 y244).bind fun t247 => (if t247 = true then ((Lw17_req.f (⟨#[122]⟩ : ByteArray) 0).bind fun bt248 => ((mvs_Upgrade.f y167 bt248.1 bt248.2.1 bt248.2.2.1 bt248.2.2.2.1 bt248.2.2.2.2.1 bt248.2.2.2.2.2).bind fun t254 => (if (t254.length : Int) = 3 then ((Lw17_req.f (⟨#[122]⟩ : ByteArray) (-1)).bind fun bt257 => ((mvs_Upgrade.f y167 bt257.1 bt257.2.1 bt257.2.2.1 bt257.2.2.2.1 bt257.2.2.2.2.1 bt257.2.2.2.2.2).bind fun t263 => (some ((t263.length : Int) == 2)))) else (some false)))) else (some false))) = some r:=by first | (rw [hy244];with_reducible exact H) | (have H2_:=(Option.bind_some _ _).symm.trans H;rw [hy244];with_reducible exact H2_) | (have H2_:=(Option.bind_some _ _).symm.trans H;with_reducible exact H2_) | with_reducible exact H | (rw [hy244];exact H) | exact H
    have Ny244:=Aside0.mk hy244
    clear hy244
    obtain ⟨t247,A280,H⟩:=Option.bind_eq_some_iff.mp H
    have A28:=Aside0.mk A280
    clear A280
    by_cases c29 : t247 = true
    ·subst c29
     rw [if_pos rfl] at H
     obtain ⟨⟨t248,t249,t250,t251,t252,t253⟩,A300,H⟩:=Option.bind_eq_some_iff.mp H
     dsimp only at H
     have A30:=Aside0.mk A300
     clear A300
     obtain ⟨t254,A310,H⟩:=Option.bind_eq_some_iff.mp H
     have A31:=Aside0.mk A310
     clear A310
     by_cases c32 : (t254.length : Int) = 3
     ·rw [if_pos c32] at H
      have c32b0 : ((t254.length : Int) == 3) = true:=beq_iff_eq.mpr c32
      have c32b1 : ((t254.length : Int) != 3) = false:=bne_eq_false_iff_eq.mpr c32
      clear c32
      obtain ⟨⟨t257,t258,t259,t260,t261,t262⟩,A330,H⟩:=Option.bind_eq_some_iff.mp H
      dsimp only at H
      have A33:=Aside0.mk A330
      clear A330
      obtain ⟨t263,A340,H⟩:=Option.bind_eq_some_iff.mp H
      have A34:=Aside0.mk A340
      clear A340
      obtain rfl:=Option.some.inj H
      go_enter Tryz.func22,Tryz.ntmps22
      go_wp2_with (first | ((with_reducible refine gate_callee (f:=46) rfl ?_);refine goesL_ (some 6) rfl rfl Tryz.func46 q4_ rfl #[.string (⟨#[97]⟩ : ByteArray),.int .i64 0] rfl q2_ ?_;(with_reducible refine (Lw17_req.calls (⟨#[97]⟩ : ByteArray) 0 t101 t102 t103 t104 t105 t106 _ A1.out).mono ?_);rintro e w35 ⟨rfl,hb⟩;refine ⟨_,rfl,?_⟩;replace HB:=Aside0.mk (below_step bh_ hb);(try clear hb);(try clear hb2);(try clear hk);(try clear hi)) | ((with_reducible refine gate_callee (f:=46) rfl ?_);refine goesL_ (some 7) rfl rfl Tryz.func46 q4_ rfl #[.string (⟨#[99]⟩ : ByteArray),.int .i64 1] rfl q2_ ?_;(with_reducible refine (Lw17_req.calls (⟨#[99]⟩ : ByteArray) 1 t107 t108 t109 t110 t111 t112 _ A2.out).mono ?_);rintro e w36 ⟨rfl,hb⟩;refine ⟨_,rfl,?_⟩;replace HB:=Aside0.mk (below_step bh_ hb);(try clear hb);(try clear hb2);(try clear hk);(try clear hi)) | ((with_reducible refine gate_dst (N:=8) rfl ?_);(try (refine gate_guard q50_ ?_;dsimp only));refine Kd.R_lit k41 _ 41 ?hg (N:=8) ?hd (xs:=([(⟨t107,(⟨t108,t109,t110,t111,t112⟩ : S24)⟩ : S41)] : List (S41))) (inner:=[.string t107,.int .i64 t108,.int .i64 t109,.int .i64 t110,.string t111,.string t112]) (ok:=fun _ => True) (okp:=fun _ => True) ?hr ?hp (fun _ hk => hk) trivial (Below.refl _ _) (Nat.le_refl _) q21_ ?_;(case hd => rfl);(case hg => rfl);(case hr => first | (go_simp;done) | (go_simp;rfl));(case hp => exact (Reps.c6 (show Kd.M k41 _ _ _ (⟨t107,(⟨t108,t109,t110,t111,t112⟩ : S24)⟩ : S41) [.string t107,.int .i64 t108,.int .i64 t109,.int .i64 t110,.string t111,.string t112] from (k41_mkM _ _ _ (⟨t107,(⟨t108,t109,t110,t111,t112⟩ : S24)⟩ : S41) )) (Reps.none _ _)));intro v114 w37 ho38 hb hg_ hnew_;clear hg_ hnew_;(first | rw [← Ny113.out] at ho38 | (simp only [Int.reduceToNat] at ho38;rw [← Ny113.out] at ho38));have HO115:=Aside0.mk (Kd.R_lower ho38 (below_size bh_));replace HB:=Aside0.mk (below_step bh_ hb);clear hb ho38;obtain ⟨Ao39,co39,eo39⟩:=Kd.R_slice HO115.out;subst eo39) | ((with_reducible refine gate_callee (f:=46) rfl ?_);refine goesL_ (some 10) rfl rfl Tryz.func46 q4_ rfl #[.string (⟨#[98]⟩ : ByteArray),.int .i64 0] rfl q2_ ?_;(with_reducible refine (Lw17_req.calls (⟨#[98]⟩ : ByteArray) 0 t116 t117 t118 t119 t120 t121 _ A3.out).mono ?_);rintro e w40 ⟨rfl,hb⟩;refine ⟨_,rfl,?_⟩;replace HO115:=Aside0.mk (Kd.R_below q20_ hb);replace HB:=Aside0.mk (below_step bh_ hb);(try clear hb);(try clear hb2);(try clear hk);(try clear hi)) | ((with_reducible refine gate_callee (f:=46) rfl ?_);refine goesL_ (some 11) rfl rfl Tryz.func46 q4_ rfl #[.string (⟨#[99]⟩ : ByteArray),.int .i64 2] rfl q2_ ?_;(with_reducible refine (Lw17_req.calls (⟨#[99]⟩ : ByteArray) 2 t122 t123 t124 t125 t126 t127 _ A4.out).mono ?_);rintro e w41 ⟨rfl,hb⟩;refine ⟨_,rfl,?_⟩;replace HO115:=Aside0.mk (Kd.R_below q20_ hb);replace HB:=Aside0.mk (below_step bh_ hb);(try clear hb);(try clear hb2);(try clear hk);(try clear hi)) | ((with_reducible refine gate_dst (N:=12) rfl ?_);(try (refine gate_guard q50_ ?_;dsimp only));refine Kd.R_lit k41 _ 41 ?hg (N:=12) ?hd (xs:=([(⟨t122,(⟨t123,t124,t125,t126,t127⟩ : S24)⟩ : S41)] : List (S41))) (inner:=[.string t122,.int .i64 t123,.int .i64 t124,.int .i64 t125,.string t126,.string t127]) (ok:=fun _ => True) (okp:=fun _ => True) ?hr ?hp (fun _ hk => hk) trivial (Below.refl _ _) (Nat.le_refl _) q21_ ?_;(case hd => rfl);(case hg => rfl);(case hr => first | (go_simp;done) | (go_simp;rfl));(case hp => exact (Reps.c6 (show Kd.M k41 _ _ _ (⟨t122,(⟨t123,t124,t125,t126,t127⟩ : S24)⟩ : S41) [.string t122,.int .i64 t123,.int .i64 t124,.int .i64 t125,.string t126,.string t127] from (k41_mkM _ _ _ (⟨t122,(⟨t123,t124,t125,t126,t127⟩ : S24)⟩ : S41) )) (Reps.none _ _)));intro v129 w42 ho43 hb hg_ hnew_;clear hg_ hnew_;(first | rw [← Ny128.out] at ho43 | (simp only [Int.reduceToNat] at ho43;rw [← Ny128.out] at ho43));have HO130:=Aside0.mk (Kd.R_lower (Kd.R_new' ho43 (Kd.R_lt q20_)) (below_size bh_));replace HO115:=Aside0.mk (Kd.R_elder' q20_ (Kd.R_base ho43) hb);replace HB:=Aside0.mk (below_step bh_ hb);clear hb ho43;obtain ⟨Ao44,co44,eo44⟩:=Kd.R_slice HO130.out;subst eo44) | ((with_reducible refine gate_callee (f:=46) rfl ?_);refine goesL_ (some 14) rfl rfl Tryz.func46 q4_ rfl #[.string (⟨#[99]⟩ : ByteArray),.int .i64 2] rfl q2_ ?_;(with_reducible refine (Lw17_req.calls (⟨#[99]⟩ : ByteArray) 2 t131 t132 t133 t134 t135 t136 _ A5.out).mono ?_);rintro e w45 ⟨rfl,hb⟩;refine ⟨_,rfl,?_⟩;replace HO115:=Aside0.mk (Kd.R_below q20_ hb);replace HO130:=Aside0.mk (Kd.R_below q35_ hb);replace HB:=Aside0.mk (below_step bh_ hb);(try clear hb);(try clear hb2);(try clear hk);(try clear hi)) | ((with_reducible refine gate_callee (f:=46) rfl ?_);refine goesL_ (some 15) rfl rfl Tryz.func46 q4_ rfl #[.string (⟨#[100]⟩ : ByteArray),.int .i64 0] rfl q2_ ?_;(with_reducible refine (Lw17_req.calls (⟨#[100]⟩ : ByteArray) 0 t137 t138 t139 t140 t141 t142 _ A6.out).mono ?_);rintro e w46 ⟨rfl,hb⟩;refine ⟨_,rfl,?_⟩;replace HO115:=Aside0.mk (Kd.R_below q20_ hb);replace HO130:=Aside0.mk (Kd.R_below q35_ hb);replace HB:=Aside0.mk (below_step bh_ hb);(try clear hb);(try clear hb2);(try clear hk);(try clear hi)) | ((with_reducible refine gate_dst (N:=16) rfl ?_);(try (refine gate_guard q50_ ?_;dsimp only));refine Kd.R_lit k41 _ 41 ?hg (N:=16) ?hd (xs:=([(⟨t137,(⟨t138,t139,t140,t141,t142⟩ : S24)⟩ : S41)] : List (S41))) (inner:=[.string t137,.int .i64 t138,.int .i64 t139,.int .i64 t140,.string t141,.string t142]) (ok:=fun _ => True) (okp:=fun _ => True) ?hr ?hp (fun _ hk => hk) trivial (Below.refl _ _) (Nat.le_refl _) q21_ ?_;(case hd => rfl);(case hg => rfl);(case hr => first | (go_simp;done) | (go_simp;rfl));(case hp => exact (Reps.c6 (show Kd.M k41 _ _ _ (⟨t137,(⟨t138,t139,t140,t141,t142⟩ : S24)⟩ : S41) [.string t137,.int .i64 t138,.int .i64 t139,.int .i64 t140,.string t141,.string t142] from (k41_mkM _ _ _ (⟨t137,(⟨t138,t139,t140,t141,t142⟩ : S24)⟩ : S41) )) (Reps.none _ _)));intro v144 w47 ho48 hb hg_ hnew_;clear hg_ hnew_;(first | rw [← Ny143.out] at ho48 | (simp only [Int.reduceToNat] at ho48;rw [← Ny143.out] at ho48));have HO145:=Aside0.mk (Kd.R_lower (Kd.R_new' (Kd.R_new' ho48 (Kd.R_lt q20_)) (Kd.R_lt q35_)) (below_size bh_));replace HO115:=Aside0.mk (Kd.R_elder' q20_ (Kd.R_base ho48) hb);replace HO130:=Aside0.mk (Kd.R_elder' q35_ (Kd.R_base ho48) hb);replace HB:=Aside0.mk (below_step bh_ hb);clear hb ho48;obtain ⟨Ao49,co49,eo49⟩:=Kd.R_slice HO145.out;subst eo49) | ((with_reducible refine gate_callee (f:=46) rfl ?_);refine goesL_ (some 18) rfl rfl Tryz.func46 q4_ rfl #[.string (⟨#[98]⟩ : ByteArray),.int .i64 (-1)] rfl q2_ ?_;(with_reducible refine (Lw17_req.calls (⟨#[98]⟩ : ByteArray) (-1) t146 t147 t148 t149 t150 t151 _ A7.out).mono ?_);rintro e w50 ⟨rfl,hb⟩;refine ⟨_,rfl,?_⟩;replace HO115:=Aside0.mk (Kd.R_below q20_ hb);replace HO130:=Aside0.mk (Kd.R_below q35_ hb);replace HO145:=Aside0.mk (Kd.R_below (by (with_reducible repeat (first | apply Kd.R_alloc | apply Kd.R_drewN | apply Kd.R_drew));exact HO145.out) hb);replace HB:=Aside0.mk (below_step bh_ hb);(try clear hb);(try clear hb2);(try clear hk);(try clear hi)) | ((with_reducible refine gate_dst (N:=20) rfl ?_);(try (refine gate_guard q50_ ?_;dsimp only));refine Kd.N_lit k70 _ 70 ?hg (N':=20) ?hd (xs:=([(⟨(⟨t101,(⟨t102,t103,t104,t105,t106⟩ : S24)⟩ : S41),y113⟩ : S70),(⟨(⟨t116,(⟨t117,t118,t119,t120,t121⟩ : S24)⟩ : S41),y128⟩ : S70),(⟨(⟨t131,(⟨t132,t133,t134,t135,t136⟩ : S24)⟩ : S41),y143⟩ : S70),(⟨(⟨t146,(⟨t147,t148,t149,t150,t151⟩ : S24)⟩ : S41),([] : List (S41))⟩ : S70)] : List (S70))) (inner:=[.string t101,.int .i64 t102,.int .i64 t103,.int .i64 t104,.string t105,.string t106,.slice Ao39 y113.length co39,.string t116,.int .i64 t117,.int .i64 t118,.int .i64 t119,.string t120,.string t121,.slice Ao44 y128.length co44,.string t131,.int .i64 t132,.int .i64 t133,.int .i64 t134,.string t135,.string t136,.slice Ao49 y143.length co49,.string t146,.int .i64 t147,.int .i64 t148,.int .i64 t149,.string t150,.string t151,.slice none 0 0]) (ok:=(fun _ => True)) (okp:=(fun _ => True)) ?hr ?hp (fun _ hk => hk) ((show ∀ k_,w50.heap.size ≤ k_ → (fun _ => True) k_ from fun k_ hk => trivial) _ (Nat.le_refl _)) (Below.refl _ _) (Nat.le_refl _) q21_ ?_;(case hd => rfl);(case hg => rfl);(case hr => first | (go_simp;done) | (go_simp;rfl));(case hp => exact (Reps.c7 (show Kd.FK k70 _ _ (⟨(⟨t101,(⟨t102,t103,t104,t105,t106⟩ : S24)⟩ : S41),y113⟩ : S70) [.string t101,.int .i64 t102,.int .i64 t103,.int .i64 t104,.string t105,.string t106,.slice Ao39 y113.length co39] from (k70_mkF _ _ (⟨(⟨t101,(⟨t102,t103,t104,t105,t106⟩ : S24)⟩ : S41),y113⟩ : S70) (Kd.R_reads' (Kd.R_mono (ok':=(fun _ => True)) (HO115.out) (fun k_ hk => trivial))).2.1 (Kd.R_F (Kd.R_mono (ok':=(fun _ => True)) (HO115.out) (fun k_ hk => trivial))))) (Reps.c7 (show Kd.FK k70 _ _ (⟨(⟨t116,(⟨t117,t118,t119,t120,t121⟩ : S24)⟩ : S41),y128⟩ : S70) [.string t116,.int .i64 t117,.int .i64 t118,.int .i64 t119,.string t120,.string t121,.slice Ao44 y128.length co44] from (k70_mkF _ _ (⟨(⟨t116,(⟨t117,t118,t119,t120,t121⟩ : S24)⟩ : S41),y128⟩ : S70) (Kd.R_reads' (Kd.R_mono (ok':=(fun _ => True)) (HO130.out) (fun k_ hk => trivial))).2.1 (Kd.R_F (Kd.R_mono (ok':=(fun _ => True)) (HO130.out) (fun k_ hk => trivial))))) (Reps.c7 (show Kd.FK k70 _ _ (⟨(⟨t131,(⟨t132,t133,t134,t135,t136⟩ : S24)⟩ : S41),y143⟩ : S70) [.string t131,.int .i64 t132,.int .i64 t133,.int .i64 t134,.string t135,.string t136,.slice Ao49 y143.length co49] from (k70_mkF _ _ (⟨(⟨t131,(⟨t132,t133,t134,t135,t136⟩ : S24)⟩ : S41),y143⟩ : S70) (Kd.R_reads' (Kd.R_mono (ok':=(fun _ => True)) (HO145.out) (fun k_ hk => trivial))).2.1 (Kd.R_F (Kd.R_mono (ok':=(fun _ => True)) (HO145.out) (fun k_ hk => trivial))))) (Reps.c7 (show Kd.FK k70 _ _ (⟨(⟨t146,(⟨t147,t148,t149,t150,t151⟩ : S24)⟩ : S41),([] : List (S41))⟩ : S70) [.string t146,.int .i64 t147,.int .i64 t148,.int .i64 t149,.string t150,.string t151,.slice none 0 0] from (k70_mkF _ _ (⟨(⟨t146,(⟨t147,t148,t149,t150,t151⟩ : S24)⟩ : S41),([] : List (S41))⟩ : S70) (Nat.le_refl _) (Kd.F_nil _ _ _))) (Reps.none _ _))))));intro v153 w51 ho52 hb hg_ hnew_;clear hg_ hnew_;(first | rw [← Ny152.out] at ho52 | (simp only [Int.reduceToNat] at ho52;rw [← Ny152.out] at ho52));have HO154:=Aside0.mk (Kd.N_lower ho52 (below_size bh_));replace HB:=Aside0.mk (below_step bh_ hb);clear HO115 HO130 HO145;clear hb ho52) | ((with_reducible refine gate_callee (f:=46) rfl ?_);refine goesL_ (some 21) rfl rfl Tryz.func46 q4_ rfl #[.string (⟨#[98]⟩ : ByteArray),.int .i64 0] rfl q2_ ?_;(with_reducible refine (Lw17_req.calls (⟨#[98]⟩ : ByteArray) 0 t155 t156 t157 t158 t159 t160 _ A8.out).mono ?_);rintro e w53 ⟨rfl,hb⟩;refine ⟨_,rfl,?_⟩;replace HO154:=Aside0.mk (Kd.N_below q12_ hb);replace HB:=Aside0.mk (below_step bh_ hb);(try clear hb);(try clear hb2);(try clear hk);(try clear hi)) | ((with_reducible refine gate_callee (f:=46) rfl ?_);refine goesL_ (some 22) rfl rfl Tryz.func46 q4_ rfl #[.string (⟨#[97]⟩ : ByteArray),.int .i64 0] rfl q2_ ?_;(with_reducible refine (Lw17_req.calls (⟨#[97]⟩ : ByteArray) 0 t161 t162 t163 t164 t165 t166 _ A9.out).mono ?_);rintro e w54 ⟨rfl,hb⟩;refine ⟨_,rfl,?_⟩;replace HO154:=Aside0.mk (Kd.N_below q12_ hb);replace HB:=Aside0.mk (below_step bh_ hb);(try clear hb);(try clear hb2);(try clear hk);(try clear hi)) | ((with_reducible refine gate_dst (N:=23) rfl ?_);(try (refine gate_guard q50_ ?_;dsimp only));refine Kd.R_lit k41 _ 41 ?hg (N:=23) ?hd (xs:=([(⟨t155,(⟨t156,t157,t158,t159,t160⟩ : S24)⟩ : S41),(⟨t161,(⟨t162,t163,t164,t165,t166⟩ : S24)⟩ : S41)] : List (S41))) (inner:=[.string t155,.int .i64 t156,.int .i64 t157,.int .i64 t158,.string t159,.string t160,.string t161,.int .i64 t162,.int .i64 t163,.int .i64 t164,.string t165,.string t166]) (ok:=fun _ => True) (okp:=fun _ => True) ?hr ?hp (fun _ hk => hk) trivial (Below.refl _ _) (Nat.le_refl _) q21_ ?_;(case hd => rfl);(case hg => rfl);(case hr => first | (go_simp;done) | (go_simp;rfl));(case hp => exact (Reps.c6 (show Kd.M k41 _ _ _ (⟨t155,(⟨t156,t157,t158,t159,t160⟩ : S24)⟩ : S41) [.string t155,.int .i64 t156,.int .i64 t157,.int .i64 t158,.string t159,.string t160] from (k41_mkM _ _ _ (⟨t155,(⟨t156,t157,t158,t159,t160⟩ : S24)⟩ : S41) )) (Reps.c6 (show Kd.M k41 _ _ _ (⟨t161,(⟨t162,t163,t164,t165,t166⟩ : S24)⟩ : S41) [.string t161,.int .i64 t162,.int .i64 t163,.int .i64 t164,.string t165,.string t166] from (k41_mkM _ _ _ (⟨t161,(⟨t162,t163,t164,t165,t166⟩ : S24)⟩ : S41) )) (Reps.none _ _))));intro v168 w55 ho56 hb hg_ hnew_;clear hg_ hnew_;(first | rw [← Ny167.out] at ho56 | (simp only [Int.reduceToNat] at ho56;rw [← Ny167.out] at ho56));replace HO154:=Aside0.mk (Kd.N_elder' q12_ (Kd.R_base ho56) hb);have HO169:=Aside0.mk (Kd.R_lower ho56 (below_size bh_));replace HB:=Aside0.mk (below_step bh_ hb);clear hb ho56;obtain ⟨Ao57,co57,eo57⟩:=Kd.R_slice HO169.out;subst eo57;obtain ⟨Ao58,co58,eo58⟩:=Kd.N_slice HO154.out;subst eo58) | ((with_reducible refine gate_callee (f:=27) rfl ?_);refine goesL_ (some 26) rfl rfl Tryz.func27 q4_ rfl #[.slice Ao57 y167.length co57,.slice Ao58 y152.length co58] rfl q2_ ?_;(with_reducible refine (mvs_List.calls _ _ y167 _ _ y152 t170 _ ?side1 ?side2 ?side3 ?side4 A10.out ?sideG).mono ?_);(case sideG => first | exact HG.out | exact Env.below HG.out bh_);(case side1 => repeat (first | exact (Kd.R_reads' HO169.out).2.2 | (with_reducible refine Kd.C_alloc ?_ _) | (with_reducible refine Kd.C_drewN ?_ _) | (with_reducible refine Kd.C_drew ?_)));(case side2 => exact (Kd.R_reads' HO169.out).2.1);(case side3 => repeat (first | exact (Kd.N_reads' HO154.out).2.2 | (with_reducible refine Kd.C_alloc ?_ _) | (with_reducible refine Kd.C_drewN ?_ _) | (with_reducible refine Kd.C_drew ?_)));(case side4 => exact (Kd.N_reads' HO154.out).2.1);rintro e w59 ⟨v171,rfl,ho0,hb⟩;refine ⟨_,rfl,?_⟩;replace HO154:=Aside0.mk (Kd.N_elder' q12_ (Kd.R_base ho0) hb);have HO172:=Aside0.mk (Kd.R_lower (Kd.R_new' ho0 (Kd.R_lt q8_)) (below_size bh_));replace HO169:=Aside0.mk (Kd.R_elder' q8_ (Kd.R_base ho0) hb);replace HB:=Aside0.mk (below_step bh_ hb);(try clear hb);(try clear hb2);(try clear hk);(try clear hi);(try clear ho0)) | ((with_reducible refine gate_callee (f:=46) rfl ?_);refine goesL_ (some 28) rfl rfl Tryz.func46 q4_ rfl #[.string (⟨#[97]⟩ : ByteArray),.int .i64 3] rfl q2_ ?_;(with_reducible refine (Lw17_req.calls (⟨#[97]⟩ : ByteArray) 3 t173 t174 t175 t176 t177 t178 _ A11.out).mono ?_);rintro e w60 ⟨rfl,hb⟩;refine ⟨_,rfl,?_⟩;replace HO154:=Aside0.mk (Kd.N_below q12_ hb);replace HO169:=Aside0.mk (Kd.R_below q8_ hb);replace HO172:=Aside0.mk (Kd.R_below q10_ hb);replace HB:=Aside0.mk (below_step bh_ hb);(try clear hb);(try clear hb2);(try clear hk);(try clear hi)) | ((with_reducible refine gate_callee (f:=29) rfl ?_);refine goesL_ (some 29) rfl rfl Tryz.func29 q4_ rfl #[.slice Ao57 y167.length co57,.agg #[.string t173,.int .i64 t174,.int .i64 t175,.int .i64 t176,.string t177,.string t178]] rfl q2_ ?_;(with_reducible refine (mvs_Upgrade.calls _ _ y167 t173 t174 t175 t176 t177 t178 t179 _ ?side1 ?side2 A12.out ?sideG).mono ?_);(case sideG => first | exact HG.out | exact Env.below HG.out bh_);(case side1 => repeat (first | exact (Kd.R_reads' HO169.out).2.2 | (with_reducible refine Kd.C_alloc ?_ _) | (with_reducible refine Kd.C_drewN ?_ _) | (with_reducible refine Kd.C_drew ?_)));(case side2 => exact (Kd.R_reads' HO169.out).2.1);rintro e w61 ⟨v180,rfl,ho0,hb⟩;refine ⟨_,rfl,?_⟩;replace HO154:=Aside0.mk (Kd.N_elder' q12_ (Kd.R_base ho0) hb);have HO181:=Aside0.mk (Kd.R_lower (Kd.R_new' (Kd.R_new' ho0 (Kd.R_lt q8_)) (Kd.R_lt q10_)) (below_size bh_));replace HO169:=Aside0.mk (Kd.R_elder' q8_ (Kd.R_base ho0) hb);replace HO172:=Aside0.mk (Kd.R_elder' q10_ (Kd.R_base ho0) hb);replace HB:=Aside0.mk (below_step bh_ hb);(try clear hb);(try clear hb2);(try clear hk);(try clear hi);(try clear ho0)) | ((with_reducible refine gate_callee (f:=46) rfl ?_);refine goesL_ (some 32) rfl rfl Tryz.func46 q4_ rfl #[.string (⟨#[99]⟩ : ByteArray),.int .i64 1] rfl q2_ ?_;(with_reducible refine (Lw17_req.calls (⟨#[99]⟩ : ByteArray) 1 t182 t183 t184 t185 t186 t187 _ A13.out).mono ?_);rintro e w62 ⟨rfl,hb⟩;refine ⟨_,rfl,?_⟩;replace HO154:=Aside0.mk (Kd.N_below q12_ hb);replace HO169:=Aside0.mk (Kd.R_below q8_ hb);replace HO172:=Aside0.mk (Kd.R_below q10_ hb);replace HO181:=Aside0.mk (Kd.R_below q11_ hb);replace HB:=Aside0.mk (below_step bh_ hb);(try clear hb);(try clear hb2);(try clear hk);(try clear hi)) | ((with_reducible refine gate_callee (f:=31) rfl ?_);refine goesL_ (some 33) rfl rfl Tryz.func31 q4_ rfl #[.slice Ao57 y167.length co57,.slice Ao58 y152.length co58,.agg #[.string t182,.int .i64 t183,.int .i64 t184,.int .i64 t185,.string t186,.string t187]] rfl q2_ ?_;(with_reducible refine (mvs_Downgrade.calls k _ _ y167 _ _ y152 t182 t183 t184 t185 t186 t187 t188 _ ?side1 ?side2 ?side3 ?side4 A14.out ?sideG).mono ?_);(case sideG => first | exact HG.out | exact Env.below HG.out bh_);(case side1 => repeat (first | exact (Kd.R_reads' HO169.out).2.2 | (with_reducible refine Kd.C_alloc ?_ _) | (with_reducible refine Kd.C_drewN ?_ _) | (with_reducible refine Kd.C_drew ?_)));(case side2 => exact (Kd.R_reads' HO169.out).2.1);(case side3 => repeat (first | exact (Kd.N_reads' HO154.out).2.2 | (with_reducible refine Kd.C_alloc ?_ _) | (with_reducible refine Kd.C_drewN ?_ _) | (with_reducible refine Kd.C_drew ?_)));(case side4 => exact (Kd.N_reads' HO154.out).2.1);rintro e w63 ⟨v189,rfl,ho0,hb⟩;refine ⟨_,rfl,?_⟩;replace HO154:=Aside0.mk (Kd.N_elder' q12_ (Kd.R_base ho0) hb);have HO190:=Aside0.mk (Kd.R_lower (Kd.R_new' (Kd.R_new' (Kd.R_new' ho0 (Kd.R_lt q8_)) (Kd.R_lt q10_)) (Kd.R_lt q11_)) (below_size bh_));replace HO169:=Aside0.mk (Kd.R_elder' q8_ (Kd.R_base ho0) hb);replace HO172:=Aside0.mk (Kd.R_elder' q10_ (Kd.R_base ho0) hb);replace HO181:=Aside0.mk (Kd.R_elder' q11_ (Kd.R_base ho0) hb);replace HB:=Aside0.mk (below_step bh_ hb);(try clear hb);(try clear hb2);(try clear hk);(try clear hi);(try clear ho0)) | ((with_reducible refine gate_callee (f:=46) rfl ?_);refine goesL_ (some 35) rfl rfl Tryz.func46 q4_ rfl #[.string (⟨#[97]⟩ : ByteArray),.int .i64 0] rfl q2_ ?_;(with_reducible refine (Lw17_req.calls (⟨#[97]⟩ : ByteArray) 0 t191 t192 t193 t194 t195 t196 _ A15.out).mono ?_);rintro e w64 ⟨rfl,hb⟩;refine ⟨_,rfl,?_⟩;replace HO154:=Aside0.mk (Kd.N_below q12_ hb);replace HO169:=Aside0.mk (Kd.R_below q8_ hb);replace HO172:=Aside0.mk (Kd.R_below q10_ hb);replace HO181:=Aside0.mk (Kd.R_below q11_ hb);replace HO190:=Aside0.mk (Kd.R_below q13_ hb);replace HB:=Aside0.mk (below_step bh_ hb);(try clear hb);(try clear hb2);(try clear hk);(try clear hi)) | ((with_reducible refine gate_callee (f:=46) rfl ?_);refine goesL_ (some 36) rfl rfl Tryz.func46 q4_ rfl #[.string (⟨#[98]⟩ : ByteArray),.int .i64 0] rfl q2_ ?_;(with_reducible refine (Lw17_req.calls (⟨#[98]⟩ : ByteArray) 0 t197 t198 t199 t200 t201 t202 _ A16.out).mono ?_);rintro e w65 ⟨rfl,hb⟩;refine ⟨_,rfl,?_⟩;replace HO154:=Aside0.mk (Kd.N_below q12_ hb);replace HO169:=Aside0.mk (Kd.R_below q8_ hb);replace HO172:=Aside0.mk (Kd.R_below q10_ hb);replace HO181:=Aside0.mk (Kd.R_below q11_ hb);replace HO190:=Aside0.mk (Kd.R_below q13_ hb);replace HB:=Aside0.mk (below_step bh_ hb);(try clear hb);(try clear hb2);(try clear hk);(try clear hi)) | ((with_reducible refine gate_callee (f:=46) rfl ?_);refine goesL_ (some 37) rfl rfl Tryz.func46 q4_ rfl #[.string (⟨#[99]⟩ : ByteArray),.int .i64 2] rfl q2_ ?_;(with_reducible refine (Lw17_req.calls (⟨#[99]⟩ : ByteArray) 2 t203 t204 t205 t206 t207 t208 _ A17.out).mono ?_);rintro e w66 ⟨rfl,hb⟩;refine ⟨_,rfl,?_⟩;replace HO154:=Aside0.mk (Kd.N_below q12_ hb);replace HO169:=Aside0.mk (Kd.R_below q8_ hb);replace HO172:=Aside0.mk (Kd.R_below q10_ hb);replace HO181:=Aside0.mk (Kd.R_below q11_ hb);replace HO190:=Aside0.mk (Kd.R_below q13_ hb);replace HB:=Aside0.mk (below_step bh_ hb);(try clear hb);(try clear hb2);(try clear hk);(try clear hi)) | ((with_reducible refine gate_callee (f:=46) rfl ?_);refine goesL_ (some 38) rfl rfl Tryz.func46 q4_ rfl #[.string (⟨#[100]⟩ : ByteArray),.int .i64 0] rfl q2_ ?_;(with_reducible refine (Lw17_req.calls (⟨#[100]⟩ : ByteArray) 0 t209 t210 t211 t212 t213 t214 _ A18.out).mono ?_);rintro e w67 ⟨rfl,hb⟩;refine ⟨_,rfl,?_⟩;replace HO154:=Aside0.mk (Kd.N_below q12_ hb);replace HO169:=Aside0.mk (Kd.R_below q8_ hb);replace HO172:=Aside0.mk (Kd.R_below q10_ hb);replace HO181:=Aside0.mk (Kd.R_below q11_ hb);replace HO190:=Aside0.mk (Kd.R_below q13_ hb);replace HB:=Aside0.mk (below_step bh_ hb);(try clear hb);(try clear hb2);(try clear hk);(try clear hi)) | ((with_reducible refine gate_dst (N:=39) rfl ?_);(try (refine gate_guard q50_ ?_;dsimp only));refine Kd.R_lit k41 _ 41 ?hg (N:=39) ?hd (xs:=([(⟨t191,(⟨t192,t193,t194,t195,t196⟩ : S24)⟩ : S41),(⟨t197,(⟨t198,t199,t200,t201,t202⟩ : S24)⟩ : S41),(⟨t203,(⟨t204,t205,t206,t207,t208⟩ : S24)⟩ : S41),(⟨t209,(⟨t210,t211,t212,t213,t214⟩ : S24)⟩ : S41)] : List (S41))) (inner:=[.string t191,.int .i64 t192,.int .i64 t193,.int .i64 t194,.string t195,.string t196,.string t197,.int .i64 t198,.int .i64 t199,.int .i64 t200,.string t201,.string t202,.string t203,.int .i64 t204,.int .i64 t205,.int .i64 t206,.string t207,.string t208,.string t209,.int .i64 t210,.int .i64 t211,.int .i64 t212,.string t213,.string t214]) (ok:=fun _ => True) (okp:=fun _ => True) ?hr ?hp (fun _ hk => hk) trivial (Below.refl _ _) (Nat.le_refl _) q21_ ?_;(case hd => rfl);(case hg => rfl);(case hr => first | (go_simp;done) | (go_simp;rfl));(case hp => exact (Reps.c6 (show Kd.M k41 _ _ _ (⟨t191,(⟨t192,t193,t194,t195,t196⟩ : S24)⟩ : S41) [.string t191,.int .i64 t192,.int .i64 t193,.int .i64 t194,.string t195,.string t196] from (k41_mkM _ _ _ (⟨t191,(⟨t192,t193,t194,t195,t196⟩ : S24)⟩ : S41) )) (Reps.c6 (show Kd.M k41 _ _ _ (⟨t197,(⟨t198,t199,t200,t201,t202⟩ : S24)⟩ : S41) [.string t197,.int .i64 t198,.int .i64 t199,.int .i64 t200,.string t201,.string t202] from (k41_mkM _ _ _ (⟨t197,(⟨t198,t199,t200,t201,t202⟩ : S24)⟩ : S41) )) (Reps.c6 (show Kd.M k41 _ _ _ (⟨t203,(⟨t204,t205,t206,t207,t208⟩ : S24)⟩ : S41) [.string t203,.int .i64 t204,.int .i64 t205,.int .i64 t206,.string t207,.string t208] from (k41_mkM _ _ _ (⟨t203,(⟨t204,t205,t206,t207,t208⟩ : S24)⟩ : S41) )) (Reps.c6 (show Kd.M k41 _ _ _ (⟨t209,(⟨t210,t211,t212,t213,t214⟩ : S24)⟩ : S41) [.string t209,.int .i64 t210,.int .i64 t211,.int .i64 t212,.string t213,.string t214] from (k41_mkM _ _ _ (⟨t209,(⟨t210,t211,t212,t213,t214⟩ : S24)⟩ : S41) )) (Reps.none _ _))))));intro v216 w68 ho69 hb hg_ hnew_;clear hg_ hnew_;(first | rw [← Ny215.out] at ho69 | (simp only [Int.reduceToNat] at ho69;rw [← Ny215.out] at ho69));replace HO154:=Aside0.mk (Kd.N_elder' q12_ (Kd.R_base ho69) hb);have HO217:=Aside0.mk (Kd.R_lower (Kd.R_new' (Kd.R_new' (Kd.R_new' (Kd.R_new' ho69 (Kd.R_lt q8_)) (Kd.R_lt q10_)) (Kd.R_lt q11_)) (Kd.R_lt q13_)) (below_size bh_));replace HO169:=Aside0.mk (Kd.R_elder' q8_ (Kd.R_base ho69) hb);replace HO172:=Aside0.mk (Kd.R_elder' q10_ (Kd.R_base ho69) hb);replace HO181:=Aside0.mk (Kd.R_elder' q11_ (Kd.R_base ho69) hb);replace HO190:=Aside0.mk (Kd.R_elder' q13_ (Kd.R_base ho69) hb);replace HB:=Aside0.mk (below_step bh_ hb);clear hb ho69;obtain ⟨Ao70,co70,eo70⟩:=Kd.R_slice HO172.out;subst eo70;obtain ⟨Ao71,co71,eo71⟩:=Kd.R_slice HO217.out;subst eo71) | ((with_reducible refine gate_callee (f:=24) rfl ?_);refine goesL_ (some 40) rfl rfl Tryz.func24 q4_ rfl #[.slice Ao70 t170.length co70,.slice Ao71 y215.length co71] rfl q2_ ?_;(with_reducible refine (Rf17_Same.calls k _ _ t170 _ _ y215 true _ ?side1 ?side2 ?side3 ?side4 A19.out).mono ?_);(case side1 => repeat (first | exact (Kd.R_reads' HO172.out).2.2 | (with_reducible refine Kd.C_alloc ?_ _) | (with_reducible refine Kd.C_drewN ?_ _) | (with_reducible refine Kd.C_drew ?_)));(case side2 => exact (Kd.R_reads' HO172.out).2.1);(case side3 => repeat (first | exact (Kd.R_reads' HO217.out).2.2 | (with_reducible refine Kd.C_alloc ?_ _) | (with_reducible refine Kd.C_drewN ?_ _) | (with_reducible refine Kd.C_drew ?_)));(case side4 => exact (Kd.R_reads' HO217.out).2.1);rintro e w' ⟨rfl,⟨nd,rfl⟩⟩;refine ⟨_,rfl,?_⟩) | (go_at_call 25;(with_reducible refine (mvs_Reached.calls _ _ y167 _ _ y152 t219 _ ?side1 ?side2 ?side3 ?side4 A21.out ?sideG).mono ?_);(case sideG => first | exact HG.out | exact Env.below HG.out bh_);(case side1 => repeat (first | exact (Kd.R_reads' HO169.out).2.2 | (with_reducible refine Kd.C_alloc ?_ _) | (with_reducible refine Kd.C_drewN ?_ _) | (with_reducible refine Kd.C_drew ?_)));(case side2 => exact (Kd.R_reads' HO169.out).2.1);(case side3 => repeat (first | exact (Kd.N_reads' HO154.out).2.2 | (with_reducible refine Kd.C_alloc ?_ _) | (with_reducible refine Kd.C_drewN ?_ _) | (with_reducible refine Kd.C_drew ?_)));(case side4 => exact (Kd.N_reads' HO154.out).2.1);rintro e w72 ⟨v220,rfl,ho0,hb⟩;replace HO154:=Aside0.mk (Kd.N_elder' q12_ (Kd.R_base ho0) hb);have HO221:=Aside0.mk (Kd.R_lower (Kd.R_new' (Kd.R_new' (Kd.R_new' (Kd.R_new' (Kd.R_new' ho0 (Kd.R_lt q8_)) (Kd.R_lt q10_)) (Kd.R_lt q11_)) (Kd.R_lt q13_)) (Kd.R_lt q17_)) (below_size bh_));replace HO169:=Aside0.mk (Kd.R_elder' q8_ (Kd.R_base ho0) hb);replace HO172:=Aside0.mk (Kd.R_elder' q10_ (Kd.R_base ho0) hb);replace HO181:=Aside0.mk (Kd.R_elder' q11_ (Kd.R_base ho0) hb);replace HO190:=Aside0.mk (Kd.R_elder' q13_ (Kd.R_base ho0) hb);replace HO217:=Aside0.mk (Kd.R_elder' q17_ (Kd.R_base ho0) hb);replace HB:=Aside0.mk (below_step bh_ hb);(try clear hb);(try clear hb2);(try clear hk);(try clear hi);(try clear ho0);obtain ⟨Ao73,co73,eo73⟩:=Kd.R_slice HO221.out;subst eo73) | (go_at_call 46;(with_reducible refine (Lw17_req.calls (⟨#[98]⟩ : ByteArray) 0 t222 t223 t224 t225 t226 t227 _ A23.out).mono ?_);rintro e w74 ⟨rfl,hb⟩;replace HO154:=Aside0.mk (Kd.N_below q12_ hb);replace HO169:=Aside0.mk (Kd.R_below q8_ hb);replace HO172:=Aside0.mk (Kd.R_below q10_ hb);replace HO181:=Aside0.mk (Kd.R_below q11_ hb);replace HO190:=Aside0.mk (Kd.R_below q13_ hb);replace HO217:=Aside0.mk (Kd.R_below q17_ hb);replace HO221:=Aside0.mk (Kd.R_below q18_ hb);replace HB:=Aside0.mk (below_step bh_ hb);(try clear hb);(try clear hb2);(try clear hk);(try clear hi)) | (go_at_call 46;(with_reducible refine (Lw17_req.calls (⟨#[97]⟩ : ByteArray) 3 t228 t229 t230 t231 t232 t233 _ A24.out).mono ?_);rintro e w75 ⟨rfl,hb⟩;replace HO154:=Aside0.mk (Kd.N_below q12_ hb);replace HO169:=Aside0.mk (Kd.R_below q8_ hb);replace HO172:=Aside0.mk (Kd.R_below q10_ hb);replace HO181:=Aside0.mk (Kd.R_below q11_ hb);replace HO190:=Aside0.mk (Kd.R_below q13_ hb);replace HO217:=Aside0.mk (Kd.R_below q17_ hb);replace HO221:=Aside0.mk (Kd.R_below q18_ hb);replace HB:=Aside0.mk (below_step bh_ hb);(try clear hb);(try clear hb2);(try clear hk);(try clear hi)) | ((with_reducible refine gate_dst (N:=52) rfl ?_);(try (refine gate_guard q50_ ?_;dsimp only));refine Kd.R_lit k41 _ 41 ?hg (N:=52) ?hd (xs:=([(⟨t222,(⟨t223,t224,t225,t226,t227⟩ : S24)⟩ : S41),(⟨t228,(⟨t229,t230,t231,t232,t233⟩ : S24)⟩ : S41)] : List (S41))) (inner:=[.string t222,.int .i64 t223,.int .i64 t224,.int .i64 t225,.string t226,.string t227,.string t228,.int .i64 t229,.int .i64 t230,.int .i64 t231,.string t232,.string t233]) (ok:=fun _ => True) (okp:=fun _ => True) ?hr ?hp (fun _ hk => hk) trivial (Below.refl _ _) (Nat.le_refl _) q21_ ?_;(case hd => rfl);(case hg => rfl);(case hr => first | (go_simp;done) | (go_simp;rfl));(case hp => exact (Reps.c6 (show Kd.M k41 _ _ _ (⟨t222,(⟨t223,t224,t225,t226,t227⟩ : S24)⟩ : S41) [.string t222,.int .i64 t223,.int .i64 t224,.int .i64 t225,.string t226,.string t227] from (k41_mkM _ _ _ (⟨t222,(⟨t223,t224,t225,t226,t227⟩ : S24)⟩ : S41) )) (Reps.c6 (show Kd.M k41 _ _ _ (⟨t228,(⟨t229,t230,t231,t232,t233⟩ : S24)⟩ : S41) [.string t228,.int .i64 t229,.int .i64 t230,.int .i64 t231,.string t232,.string t233] from (k41_mkM _ _ _ (⟨t228,(⟨t229,t230,t231,t232,t233⟩ : S24)⟩ : S41) )) (Reps.none _ _))));intro v235 w76 ho77 hb hg_ hnew_;clear hg_ hnew_;(first | rw [← Ny234.out] at ho77 | (simp only [Int.reduceToNat] at ho77;rw [← Ny234.out] at ho77));replace HO154:=Aside0.mk (Kd.N_elder' q12_ (Kd.R_base ho77) hb);have HO236:=Aside0.mk (Kd.R_lower (Kd.R_new' (Kd.R_new' (Kd.R_new' (Kd.R_new' (Kd.R_new' (Kd.R_new' ho77 (Kd.R_lt q8_)) (Kd.R_lt q10_)) (Kd.R_lt q11_)) (Kd.R_lt q13_)) (Kd.R_lt q17_)) (Kd.R_lt q18_)) (below_size bh_));replace HO169:=Aside0.mk (Kd.R_elder' q8_ (Kd.R_base ho77) hb);replace HO172:=Aside0.mk (Kd.R_elder' q10_ (Kd.R_base ho77) hb);replace HO181:=Aside0.mk (Kd.R_elder' q11_ (Kd.R_base ho77) hb);replace HO190:=Aside0.mk (Kd.R_elder' q13_ (Kd.R_base ho77) hb);replace HO217:=Aside0.mk (Kd.R_elder' q17_ (Kd.R_base ho77) hb);replace HO221:=Aside0.mk (Kd.R_elder' q18_ (Kd.R_base ho77) hb);replace HB:=Aside0.mk (below_step bh_ hb);clear hb ho77;obtain ⟨Ao78,co78,eo78⟩:=Kd.R_slice HO181.out;subst eo78;obtain ⟨Ao79,co79,eo79⟩:=Kd.R_slice HO236.out;subst eo79) | (go_at_call 24;(with_reducible refine (Rf17_Same.calls k _ _ t179 _ _ y234 true _ ?side1 ?side2 ?side3 ?side4 A25.out).mono ?_);(case side1 => repeat (first | exact (Kd.R_reads' HO181.out).2.2 | (with_reducible refine Kd.C_alloc ?_ _) | (with_reducible refine Kd.C_drewN ?_ _) | (with_reducible refine Kd.C_drew ?_)));(case side2 => exact (Kd.R_reads' HO181.out).2.1);(case side3 => repeat (first | exact (Kd.R_reads' HO236.out).2.2 | (with_reducible refine Kd.C_alloc ?_ _) | (with_reducible refine Kd.C_drewN ?_ _) | (with_reducible refine Kd.C_drew ?_)));(case side4 => exact (Kd.R_reads' HO236.out).2.1);rintro e w' ⟨rfl,⟨nd,rfl⟩⟩) | (go_at_call 46;(with_reducible refine (Lw17_req.calls (⟨#[97]⟩ : ByteArray) 0 t238 t239 t240 t241 t242 t243 _ A27.out).mono ?_);rintro e w80 ⟨rfl,hb⟩;replace HO154:=Aside0.mk (Kd.N_below q12_ hb);replace HO169:=Aside0.mk (Kd.R_below q8_ hb);replace HO172:=Aside0.mk (Kd.R_below q10_ hb);replace HO181:=Aside0.mk (Kd.R_below q11_ hb);replace HO190:=Aside0.mk (Kd.R_below q13_ hb);replace HO217:=Aside0.mk (Kd.R_below q17_ hb);replace HO221:=Aside0.mk (Kd.R_below q18_ hb);replace HO236:=Aside0.mk (Kd.R_below q19_ hb);replace HB:=Aside0.mk (below_step bh_ hb);(try clear hb);(try clear hb2);(try clear hk);(try clear hi)) | ((with_reducible refine gate_dst (N:=58) rfl ?_);(try (refine gate_guard q50_ ?_;dsimp only));refine Kd.R_lit k41 _ 41 ?hg (N:=58) ?hd (xs:=([(⟨t238,(⟨t239,t240,t241,t242,t243⟩ : S24)⟩ : S41)] : List (S41))) (inner:=[.string t238,.int .i64 t239,.int .i64 t240,.int .i64 t241,.string t242,.string t243]) (ok:=fun _ => True) (okp:=fun _ => True) ?hr ?hp (fun _ hk => hk) trivial (Below.refl _ _) (Nat.le_refl _) q21_ ?_;(case hd => rfl);(case hg => rfl);(case hr => first | (go_simp;done) | (go_simp;rfl));(case hp => exact (Reps.c6 (show Kd.M k41 _ _ _ (⟨t238,(⟨t239,t240,t241,t242,t243⟩ : S24)⟩ : S41) [.string t238,.int .i64 t239,.int .i64 t240,.int .i64 t241,.string t242,.string t243] from (k41_mkM _ _ _ (⟨t238,(⟨t239,t240,t241,t242,t243⟩ : S24)⟩ : S41) )) (Reps.none _ _)));intro v245 w81 ho82 hb hg_ hnew_;clear hg_ hnew_;(first | rw [← Ny244.out] at ho82 | (simp only [Int.reduceToNat] at ho82;rw [← Ny244.out] at ho82));replace HO154:=Aside0.mk (Kd.N_elder' q12_ (Kd.R_base ho82) hb);have HO246:=Aside0.mk (Kd.R_lower (Kd.R_new' (Kd.R_new' (Kd.R_new' (Kd.R_new' (Kd.R_new' (Kd.R_new' (Kd.R_new' ho82 (Kd.R_lt q8_)) (Kd.R_lt q10_)) (Kd.R_lt q11_)) (Kd.R_lt q13_)) (Kd.R_lt q17_)) (Kd.R_lt q18_)) (Kd.R_lt q19_)) (below_size bh_));replace HO169:=Aside0.mk (Kd.R_elder' q8_ (Kd.R_base ho82) hb);replace HO172:=Aside0.mk (Kd.R_elder' q10_ (Kd.R_base ho82) hb);replace HO181:=Aside0.mk (Kd.R_elder' q11_ (Kd.R_base ho82) hb);replace HO190:=Aside0.mk (Kd.R_elder' q13_ (Kd.R_base ho82) hb);replace HO217:=Aside0.mk (Kd.R_elder' q17_ (Kd.R_base ho82) hb);replace HO221:=Aside0.mk (Kd.R_elder' q18_ (Kd.R_base ho82) hb);replace HO236:=Aside0.mk (Kd.R_elder' q19_ (Kd.R_base ho82) hb);replace HB:=Aside0.mk (below_step bh_ hb);clear hb ho82;obtain ⟨Ao83,co83,eo83⟩:=Kd.R_slice HO190.out;subst eo83;obtain ⟨Ao84,co84,eo84⟩:=Kd.R_slice HO246.out;subst eo84) | (go_at_call 24;(with_reducible refine (Rf17_Same.calls k _ _ t188 _ _ y244 true _ ?side1 ?side2 ?side3 ?side4 A28.out).mono ?_);(case side1 => repeat (first | exact (Kd.R_reads' HO190.out).2.2 | (with_reducible refine Kd.C_alloc ?_ _) | (with_reducible refine Kd.C_drewN ?_ _) | (with_reducible refine Kd.C_drew ?_)));(case side2 => exact (Kd.R_reads' HO190.out).2.1);(case side3 => repeat (first | exact (Kd.R_reads' HO246.out).2.2 | (with_reducible refine Kd.C_alloc ?_ _) | (with_reducible refine Kd.C_drewN ?_ _) | (with_reducible refine Kd.C_drew ?_)));(case side4 => exact (Kd.R_reads' HO246.out).2.1);rintro e w' ⟨rfl,⟨nd,rfl⟩⟩) | (go_at_call 46;(with_reducible refine (Lw17_req.calls (⟨#[122]⟩ : ByteArray) 0 t248 t249 t250 t251 t252 t253 _ A30.out).mono ?_);rintro e w85 ⟨rfl,hb⟩;replace HO154:=Aside0.mk (Kd.N_below q12_ hb);replace HO169:=Aside0.mk (Kd.R_below q8_ hb);replace HO172:=Aside0.mk (Kd.R_below q10_ hb);replace HO181:=Aside0.mk (Kd.R_below q11_ hb);replace HO190:=Aside0.mk (Kd.R_below q13_ hb);replace HO217:=Aside0.mk (Kd.R_below q17_ hb);replace HO221:=Aside0.mk (Kd.R_below q18_ hb);replace HO236:=Aside0.mk (Kd.R_below q19_ hb);replace HO246:=Aside0.mk (Kd.R_below q28_ hb);replace HB:=Aside0.mk (below_step bh_ hb);(try clear hb);(try clear hb2);(try clear hk);(try clear hi)) | (go_at_call 29;(with_reducible refine (mvs_Upgrade.calls _ _ y167 t248 t249 t250 t251 t252 t253 t254 _ ?side1 ?side2 A31.out ?sideG).mono ?_);(case sideG => first | exact HG.out | exact Env.below HG.out bh_);(case side1 => repeat (first | exact (Kd.R_reads' HO169.out).2.2 | (with_reducible refine Kd.C_alloc ?_ _) | (with_reducible refine Kd.C_drewN ?_ _) | (with_reducible refine Kd.C_drew ?_)));(case side2 => exact (Kd.R_reads' HO169.out).2.1);rintro e w86 ⟨v255,rfl,ho0,hb⟩;replace HO154:=Aside0.mk (Kd.N_elder' q12_ (Kd.R_base ho0) hb);have HO256:=Aside0.mk (Kd.R_lower (Kd.R_new' (Kd.R_new' (Kd.R_new' (Kd.R_new' (Kd.R_new' (Kd.R_new' (Kd.R_new' (Kd.R_new' ho0 (Kd.R_lt q8_)) (Kd.R_lt q10_)) (Kd.R_lt q11_)) (Kd.R_lt q13_)) (Kd.R_lt q17_)) (Kd.R_lt q18_)) (Kd.R_lt q19_)) (Kd.R_lt q28_)) (below_size bh_));replace HO169:=Aside0.mk (Kd.R_elder' q8_ (Kd.R_base ho0) hb);replace HO172:=Aside0.mk (Kd.R_elder' q10_ (Kd.R_base ho0) hb);replace HO181:=Aside0.mk (Kd.R_elder' q11_ (Kd.R_base ho0) hb);replace HO190:=Aside0.mk (Kd.R_elder' q13_ (Kd.R_base ho0) hb);replace HO217:=Aside0.mk (Kd.R_elder' q17_ (Kd.R_base ho0) hb);replace HO221:=Aside0.mk (Kd.R_elder' q18_ (Kd.R_base ho0) hb);replace HO236:=Aside0.mk (Kd.R_elder' q19_ (Kd.R_base ho0) hb);replace HO246:=Aside0.mk (Kd.R_elder' q28_ (Kd.R_base ho0) hb);replace HB:=Aside0.mk (below_step bh_ hb);(try clear hb);(try clear hb2);(try clear hk);(try clear hi);(try clear ho0);obtain ⟨Ao87,co87,eo87⟩:=Kd.R_slice HO256.out;subst eo87) | (go_at_call 46;(with_reducible refine (Lw17_req.calls (⟨#[122]⟩ : ByteArray) (-1) t257 t258 t259 t260 t261 t262 _ A33.out).mono ?_);rintro e w88 ⟨rfl,hb⟩;replace HO154:=Aside0.mk (Kd.N_below q12_ hb);replace HO169:=Aside0.mk (Kd.R_below q8_ hb);replace HO172:=Aside0.mk (Kd.R_below q10_ hb);replace HO181:=Aside0.mk (Kd.R_below q11_ hb);replace HO190:=Aside0.mk (Kd.R_below q13_ hb);replace HO217:=Aside0.mk (Kd.R_below q17_ hb);replace HO221:=Aside0.mk (Kd.R_below q18_ hb);replace HO236:=Aside0.mk (Kd.R_below q19_ hb);replace HO246:=Aside0.mk (Kd.R_below q28_ hb);replace HO256:=Aside0.mk (Kd.R_below q47_ hb);replace HB:=Aside0.mk (below_step bh_ hb);(try clear hb);(try clear hb2);(try clear hk);(try clear hi)) | (go_at_call 29;(with_reducible refine (mvs_Upgrade.calls _ _ y167 t257 t258 t259 t260 t261 t262 t263 _ ?side1 ?side2 A34.out ?sideG).mono ?_);(case sideG => first | exact HG.out | exact Env.below HG.out bh_);(case side1 => repeat (first | exact (Kd.R_reads' HO169.out).2.2 | (with_reducible refine Kd.C_alloc ?_ _) | (with_reducible refine Kd.C_drewN ?_ _) | (with_reducible refine Kd.C_drew ?_)));(case side2 => exact (Kd.R_reads' HO169.out).2.1);rintro e w89 ⟨v264,rfl,ho0,hb⟩;replace HO154:=Aside0.mk (Kd.N_elder' q12_ (Kd.R_base ho0) hb);have HO265:=Aside0.mk (Kd.R_lower (Kd.R_new' (Kd.R_new' (Kd.R_new' (Kd.R_new' (Kd.R_new' (Kd.R_new' (Kd.R_new' (Kd.R_new' (Kd.R_new' ho0 (Kd.R_lt q8_)) (Kd.R_lt q10_)) (Kd.R_lt q11_)) (Kd.R_lt q13_)) (Kd.R_lt q17_)) (Kd.R_lt q18_)) (Kd.R_lt q19_)) (Kd.R_lt q28_)) (Kd.R_lt q47_)) (below_size bh_));replace HO169:=Aside0.mk (Kd.R_elder' q8_ (Kd.R_base ho0) hb);replace HO172:=Aside0.mk (Kd.R_elder' q10_ (Kd.R_base ho0) hb);replace HO181:=Aside0.mk (Kd.R_elder' q11_ (Kd.R_base ho0) hb);replace HO190:=Aside0.mk (Kd.R_elder' q13_ (Kd.R_base ho0) hb);replace HO217:=Aside0.mk (Kd.R_elder' q17_ (Kd.R_base ho0) hb);replace HO221:=Aside0.mk (Kd.R_elder' q18_ (Kd.R_base ho0) hb);replace HO236:=Aside0.mk (Kd.R_elder' q19_ (Kd.R_base ho0) hb);replace HO246:=Aside0.mk (Kd.R_elder' q28_ (Kd.R_base ho0) hb);replace HO256:=Aside0.mk (Kd.R_elder' q47_ (Kd.R_base ho0) hb);replace HB:=Aside0.mk (below_step bh_ hb);(try clear hb);(try clear hb2);(try clear hk);(try clear hi);(try clear ho0);obtain ⟨Ao90,co90,eo90⟩:=Kd.R_slice HO265.out;subst eo90))
      go_ret
      exact ⟨by first | rfl | (simp [] <;> rfl) | (simp [*] <;> rfl) | (simp [bne_nil_];done) | (simp [*,bne_nil_];done),by repeat (first | (with_reducible first | exact HB.out | apply below_alloc | apply pw_below_drewN | apply below_drew1) | exact HB.out)⟩
     ·rw [if_neg c32] at H
      exact absurd ((Option.some.inj H).trans HR_.out) q21_
    ·replace c29:=Bool.eq_false_iff.mpr c29
     subst c29
     rw [if_neg (show ¬ (false = true) by decide)] at H
     exact absurd ((Option.some.inj H).trans HR_.out) q21_
   ·replace c26:=Bool.eq_false_iff.mpr c26
    subst c26
    rw [if_neg (show ¬ (false = true) by decide)] at H
    exact absurd ((Option.some.inj H).trans HR_.out) q21_
  ·rw [if_neg c22] at H
   exact absurd ((Option.some.inj H).trans HR_.out) q21_
 ·replace c20:=Bool.eq_false_iff.mpr c20
  subst c20
  rw [if_neg (show ¬ (false = true) by decide)] at H
  exact absurd ((Option.some.inj H).trans HR_.out) q21_
end Go.Proofs.YtennhpoemdaghaaGreatDoor.P
end
section
namespace Go.Proofs.YtennhpoemdaghaaGreatDoor.P
open Go Go.RowKit Go.Proofs.YtennhpoemdaghaaGreatDoorW.PrintWords
theorem live_at : Lw17_live.f 200 = some true:=by decide +kernel
theorem live_f (k : Nat) (hk : 200 ≤ k) : Lw17_live.f k = some true:=by
 obtain ⟨d,rfl⟩ : ∃ d,k = 200 + d:=⟨k - 200,by omega⟩
 clear hk
 induction d with
 | zero => exact live_at
 | succ d ih => exact Lw17_live.mono (200 + d) _ ih
end Go.Proofs.YtennhpoemdaghaaGreatDoor.P
end
section
namespace Go.Proofs.YtennhpoemdaghaaGreatDoor.P
open Go.RowKit Go.Proofs.YtennhpoemdaghaaGreatDoorW.PrintWords Go.Proofs.YtennhpoemdaghaaGreatDoorW.PrintLast Go.Proofs.YtennhpoemdaghaaGreatDoorW.PrintMore
mutual
def Lw17_MvsLeast.l0 : Nat → List (S41) → List (S41) → List (S41) → Int → Option (Bool)
 | 0,_,_,_,_ => none
 | k + 1,x0,x5,x6,x7 => if x7 < (x6.length : Int) then (if 0 ≤ x7 then ((Rf17_In.f k x5 ((rd_T41 x6 x7).f0) ((rd_T41 x6 x7).f1.f0) ((rd_T41 x6 x7).f1.f1) ((rd_T41 x6 x7).f1.f2) ((rd_T41 x6 x7).f1.f3) ((rd_T41 x6 x7).f1.f4)).bind fun t116 => (if t116 = true then (if x7 > 0 then (if 0 ≤ (wrap64 (x7 - 1)) then (if (wrap64 (x7 - 1)) < (x6.length : Int) then (if ((Op.bytesLess (((rd_T41 x6 (wrap64 (x7 - 1))).f0).toList) (((rd_T41 x6 x7).f0).toList)) = true) then (Lw17_MvsLeast.l0 k x0 x5 x6 (wrap64 (x7 + 1))) else (some false)) else (none)) else (none)) else (Lw17_MvsLeast.l0 k x0 x5 x6 (wrap64 (x7 + 1)))) else (some false))) else (none)) else (Lw17_MvsLeast.l1 k x0 x5 x6 0)
def Lw17_MvsLeast.l1 : Nat → List (S41) → List (S41) → List (S41) → Int → Option (Bool)
 | 0,_,_,_,_ => none
 | k + 1,x0,x5,x6,x8 => if x8 < (x5.length : Int) then (if 0 ≤ x8 then ((Lw17_covers.f k x6 ((rd_T41 x5 x8).f0) ((rd_T41 x5 x8).f1.f0) ((rd_T41 x5 x8).f1.f1) ((rd_T41 x5 x8).f1.f2) ((rd_T41 x5 x8).f1.f3) ((rd_T41 x5 x8).f1.f4)).bind fun t120 => (if t120 = true then (Lw17_MvsLeast.l1 k x0 x5 x6 (wrap64 (x8 + 1))) else (some false))) else (none)) else (Lw17_MvsLeast.l2 k x0 x6 0)
def Lw17_MvsLeast.l2 : Nat → List (S41) → List (S41) → Int → Option (Bool)
 | 0,_,_,_ => none
 | k + 1,x0,x6,x9 => if x9 < (x0.length : Int) then (if 0 ≤ x9 then ((Rf17_May.f k ((rd_T41 x0 x9).f0) ((rd_T41 x0 x9).f1.f0) ((rd_T41 x0 x9).f1.f1) ((rd_T41 x0 x9).f1.f2) ((rd_T41 x0 x9).f1.f3) ((rd_T41 x0 x9).f1.f4)).bind fun t123 => (if t123 = true then ((Lw17_covers.f k x6 ((rd_T41 x0 x9).f0) ((rd_T41 x0 x9).f1.f0) ((rd_T41 x0 x9).f1.f1) ((rd_T41 x0 x9).f1.f2) ((rd_T41 x0 x9).f1.f3) ((rd_T41 x0 x9).f1.f4)).bind fun t125 => (if t125 = true then (Lw17_MvsLeast.l2 k x0 x6 (wrap64 (x9 + 1))) else (some false))) else (Lw17_MvsLeast.l2 k x0 x6 (wrap64 (x9 + 1))))) else (none)) else ((Lw17_live.f k).bind fun t121 => (some t121))
end
def Lw17_MvsLeast.f (k : Nat) (l0 : List (S41)) (l1 : List (S68)) : Option (Bool):=(Rf17_Small.f k l0 l1).bind fun t101 => (if t101 = true then ((Lw17_own.f k l1).bind fun t103 => ((mvs_Reached.f l0 t103).bind fun t106 => ((Lw17_own.f k l1).bind fun t109 => ((mvs_List.f l0 t109).bind fun t112 => (Lw17_MvsLeast.l0 k l0 t106 t112 0))))) else ((Lw17_live.f k).bind fun t102 => (some t102)))
def Lw17_MvsLeast.T8 : Bool × List (List Nat × List Nat):=(true,[([],[]),([],[]),([],[]),([1,2],[1,2]),([3],[3]),([0,4],[0,4]),([5],[5]),([6,5],[6]),([7],[7]),([8,7],[7,8]),([9,7,7],[7,9]),([10],[10]),([10],[10]),([12,10],[10,12]),([11,13,10],[10,11,13]),([14,10],[10,14]),([15,10],[10,15]),([10],[10]),([10],[10]),([17,18,10],[10,17,18]),([19,10],[10,19]),([20,10],[10,20]),([16,21,10],[10,16,21]),([10,22,7],[7,10,22]),([7,23],[7,23])])
def Lw17_MvsLeast.B8 : List Nat:=[0,0,0,6,14,31,63,127,255,511,1023,2047,2047,6143,16383,32767,65535,2047,2047,395263,919551,1968127,4194303,8388607,16777215]
theorem Lw17_MvsLeast.tab8 : rtab .any (opsOf Tryz.f5 8) = Lw17_MvsLeast.T8:=by kernel_rfl
theorem Lw17_MvsLeast.bits8 : waitsOk Lw17_MvsLeast.T8.2 Lw17_MvsLeast.B8 = true:=by kernel_rfl
set_option maxHeartbeats 8000000 in
set_option maxRecDepth 100000 in
theorem Lw17_MvsLeast.calls (k : Nat) (A0 : Option Addr) (c0 : Nat) (l0 : List (S41)) (A1 : Option Addr) (c1 : Nat) (l1 : List (S68)) (r : Bool) (w : World) (hr0 : Kd.C k41 w A0 l0.length l0) (hc0 : l0.length ≤ c0) (hr1 : Kd.C k68 w A1 l1.length l1) (hc1 : l1.length ≤ c1) (h : Lw17_MvsLeast.f k l0 l1 = some r) (hr_ : r = true) (hG : Env w) :
  Calls Tryz.prog 5 #[.slice A0 l0.length c0,.slice A1 l1.length c1] w fun e w' => e = .returned (.bool r) ∧ Below w.heap.size w w':=by
 have HG:=Aside0.mk hG
 clear hG
 have HR_:=Aside0.mk hr_
 clear hr_
 have hu41:=Tryz.underlying41
 have HR0:=Aside0.mk hr0
 have HC0:=Aside0.mk hc0
 clear hr0 hc0
 have HR1:=Aside0.mk hr1
 have HC1:=Aside0.mk hc1
 clear hr1 hc1
 have HB:=Aside0.mk (Below.refl w.heap.size w)
 have H : ((Rf17_Small.f k l0 l1).bind fun t101 => (if t101 = true then ((Lw17_own.f k l1).bind fun t103 => ((mvs_Reached.f l0 t103).bind fun t106 => ((Lw17_own.f k l1).bind fun t109 => ((mvs_List.f l0 t109).bind fun t112 => (Lw17_MvsLeast.l0 k l0 t106 t112 0))))) else ((Lw17_live.f k).bind fun t102 => (some t102)))) = some r:=h
 clear h
 obtain ⟨t101,A30,H⟩:=Option.bind_eq_some_iff.mp H
 have A3:=Aside0.mk A30
 clear A30
 by_cases c4 : t101 = true
 ·subst c4
  rw [if_pos rfl] at H
  obtain ⟨t103,A50,H⟩:=Option.bind_eq_some_iff.mp H
  have A5:=Aside0.mk A50
  clear A50
  obtain ⟨t106,A60,H⟩:=Option.bind_eq_some_iff.mp H
  have A6:=Aside0.mk A60
  clear A60
  obtain ⟨t109,A70,H⟩:=Option.bind_eq_some_iff.mp H
  have A7:=Aside0.mk A70
  clear A70
  obtain ⟨t112,A80,H⟩:=Option.bind_eq_some_iff.mp H
  have A8:=Aside0.mk A80
  clear A80
  have H':=Aside0.mk H
  clear H
  go_enter Tryz.func5,Tryz.ntmps5
  go_wp2_with (first | ((with_reducible refine gate_callee (f:=21) rfl ?_);refine goesL_ (some 12) rfl rfl Tryz.func21 q4_ rfl #[.slice A0 l0.length c0,.slice A1 l1.length c1] rfl q2_ ?_;(with_reducible refine (Rf17_Small.calls k _ _ l0 _ _ l1 true _ ?side1 ?side2 ?side3 ?side4 A3.out).mono ?_);(case side1 => repeat (first | exact HR0.out | (with_reducible refine Kd.C_alloc ?_ _) | (with_reducible refine Kd.C_drewN ?_ _) | (with_reducible refine Kd.C_drew ?_)));(case side2 => exact HC0.out);(case side3 => repeat (first | exact HR1.out | (with_reducible refine Kd.C_alloc ?_ _) | (with_reducible refine Kd.C_drewN ?_ _) | (with_reducible refine Kd.C_drew ?_)));(case side4 => exact HC1.out);rintro e w9 ⟨rfl,hb⟩;refine ⟨_,rfl,?_⟩;replace HB:=Aside0.mk (below_step bh_ hb);(try clear hb);(try clear hb2);(try clear hk);(try clear hi)) | ((with_reducible refine gate_callee (f:=23) rfl ?_);refine goesL_ (some 17) rfl rfl Tryz.func23 q4_ rfl #[.slice A1 l1.length c1] rfl q2_ ?_;(with_reducible refine (Lw17_own.calls k (fun k_ => k_ < w.heap.size) _ _ l1 t103 _ ?side1 A5.out).mono ?_);(case side1 => exact Kd.V_mk HC1.out (Kd.F_below (Kd.C_F k68_heap HR1.out) bh_));rintro e w10 ⟨v104,rfl,ho0,hb⟩;refine ⟨_,rfl,?_⟩;have HO105:=Aside0.mk (Kd.N_lower (Kd.N_mono (ok':=fun k_ => True) ho0 (fun k_ hk_ => trivial)) (below_size bh_));replace HB:=Aside0.mk (below_step bh_ hb);(try clear hb);(try clear hb2);(try clear hk);(try clear hi);(try clear ho0);obtain ⟨Ao11,co11,eo11⟩:=Kd.N_slice HO105.out;subst eo11) | ((with_reducible refine gate_callee (f:=25) rfl ?_);refine goesL_ (some 18) rfl rfl Tryz.func25 q4_ rfl #[.slice A0 l0.length c0,.slice Ao11 t103.length co11] rfl q2_ ?_;(with_reducible refine (mvs_Reached.calls _ _ l0 _ _ t103 t106 _ ?side1 ?side2 ?side3 ?side4 A6.out ?sideG).mono ?_);(case sideG => first | exact HG.out | exact Env.below HG.out bh_);(case side1 => repeat (first | exact (Kd.C_below HR0.out HB.out) | (with_reducible refine Kd.C_alloc ?_ _) | (with_reducible refine Kd.C_drewN ?_ _) | (with_reducible refine Kd.C_drew ?_)));(case side2 => exact HC0.out);(case side3 => repeat (first | exact (Kd.N_reads' HO105.out).2.2 | (with_reducible refine Kd.C_alloc ?_ _) | (with_reducible refine Kd.C_drewN ?_ _) | (with_reducible refine Kd.C_drew ?_)));(case side4 => exact (Kd.N_reads' HO105.out).2.1);rintro e w12 ⟨v107,rfl,ho0,hb⟩;refine ⟨_,rfl,?_⟩;replace HO105:=Aside0.mk (Kd.N_elder' q42_ (Kd.R_base ho0) hb);have HO108:=Aside0.mk (Kd.R_lower ho0 (below_size bh_));replace HB:=Aside0.mk (below_step bh_ hb);(try clear hb);(try clear hb2);(try clear hk);(try clear hi);(try clear ho0)) | ((with_reducible refine gate_callee (f:=23) rfl ?_);refine goesL_ (some 21) rfl rfl Tryz.func23 q4_ rfl #[.slice A1 l1.length c1] rfl q2_ ?_;(with_reducible refine (Lw17_own.calls k (fun k_ => k_ < w.heap.size) _ _ l1 t109 _ ?side1 A7.out).mono ?_);(case side1 => exact Kd.V_mk HC1.out (Kd.F_below (Kd.C_F k68_heap HR1.out) bh_));rintro e w13 ⟨v110,rfl,ho0,hb⟩;refine ⟨_,rfl,?_⟩;have HO111:=Aside0.mk (Kd.N_lower (Kd.N_mono (ok':=fun k_ => some k_ ≠ (.slice Ao11 t103.length co11 : Value).ownBlock ∧ some k_ ≠ (v107 : Value).ownBlock) ho0 (fun k_ hk_ => ⟨Or.elim hk_ (fun hs_ => fun e_ => Nat.not_le.2 hs_ (Kd.N_base HO105.out k_ e_.symm)) (fun hn_ => (Kd.fresh' (Kd.N_lt q42_) k_ hn_)),Or.elim hk_ (fun hs_ => fun e_ => Nat.not_le.2 hs_ (Kd.R_base HO108.out k_ e_.symm)) (fun hn_ => (Kd.fresh' (Kd.R_lt q41_) k_ hn_))⟩)) (below_size bh_));replace HO105:=Aside0.mk (Kd.N_elder' q42_ (Kd.N_base ho0) hb);replace HO108:=Aside0.mk (Kd.R_below q41_ hb);replace HB:=Aside0.mk (below_step bh_ hb);(try clear hb);(try clear hb2);(try clear hk);(try clear hi);(try clear ho0);obtain ⟨Ao14,co14,eo14⟩:=Kd.N_slice HO111.out;subst eo14) | ((with_reducible refine gate_callee (f:=27) rfl ?_);refine goesL_ (some 22) rfl rfl Tryz.func27 q4_ rfl #[.slice A0 l0.length c0,.slice Ao14 t109.length co14] rfl q2_ ?_;(with_reducible refine (mvs_List.calls _ _ l0 _ _ t109 t112 _ ?side1 ?side2 ?side3 ?side4 A8.out ?sideG).mono ?_);(case sideG => first | exact HG.out | exact Env.below HG.out bh_);(case side1 => repeat (first | exact (Kd.C_below HR0.out HB.out) | (with_reducible refine Kd.C_alloc ?_ _) | (with_reducible refine Kd.C_drewN ?_ _) | (with_reducible refine Kd.C_drew ?_)));(case side2 => exact HC0.out);(case side3 => repeat (first | exact (Kd.N_reads' HO111.out).2.2 | (with_reducible refine Kd.C_alloc ?_ _) | (with_reducible refine Kd.C_drewN ?_ _) | (with_reducible refine Kd.C_drew ?_)));(case side4 => exact (Kd.N_reads' HO111.out).2.1);rintro e w15 ⟨v113,rfl,ho0,hb⟩;refine ⟨_,rfl,?_⟩;replace HO105:=Aside0.mk (Kd.N_elder' q42_ (Kd.R_base ho0) hb);replace HO111:=Aside0.mk (Kd.N_elder' (by (with_reducible repeat (first | apply Kd.N_alloc | apply Kd.N_drewN | apply Kd.N_drew));exact HO111.out) (Kd.R_base ho0) hb);have HO114:=Aside0.mk (Kd.R_lower (Kd.R_new' ho0 (Kd.R_lt q41_)) (below_size bh_));replace HO108:=Aside0.mk (Kd.R_elder' q41_ (Kd.R_base ho0) hb);replace HB:=Aside0.mk (below_step bh_ hb);(try clear hb);(try clear hb2);(try clear hk);(try clear hi);(try clear ho0)))
  go_loopg [7] k (fun kq v7 w' => ∃ (x7_1 : Int),v7 = .int .i64 x7_1 ∧ Aside0 (Lw17_MvsLeast.l0 kq l0 t106 t112 x7_1 = some r) ∧ Aside0 (kq ≤ k) ∧ Aside0 (Kd.R k41 41 w' w.heap.size (fun k_ => some k_ ≠ (v113 : Value).ownBlock) v107 t106) ∧ Aside0 (Kd.R k41 41 w' w.heap.size (fun k_ => some k_ ≠ (v107 : Value).ownBlock) v113 t112) ∧ Aside0 (Below w.heap.size w w'))
  case atStart => exact ⟨(0),q3_,H',⟨Nat.le_refl _⟩,⟨by (with_reducible repeat (first | apply Kd.R_alloc | apply Kd.R_drewN | apply Kd.R_drew));exact Kd.R_mono HO108.out (fun _ hk => hk.2)⟩,⟨by (with_reducible repeat (first | apply Kd.R_alloc | apply Kd.R_drewN | apply Kd.R_drew));exact Kd.R_mono HO114.out (fun _ hk => hk.2)⟩,⟨by repeat (first | (with_reducible first | exact HB.out | apply below_alloc | apply pw_below_drewN | apply below_drew1) | exact HB.out)⟩⟩
  case round =>
   clear H'
   try clear c1
   try clear c2
   try clear p2
   try clear c4
   try clear c5
   obtain ⟨x7_1,rfl,HA,HK1,HO_5,HO_6,HB⟩:=hrel
   cases gk with
   | zero => exact absurd HA.out (by simp [Lw17_MvsLeast.l0])
   | succ k1 =>
    have H:=HA.out
    clear HA
    simp only [Lw17_MvsLeast.l0] at H
    by_cases c16 : x7_1 < (t112.length : Int)
    ·rw [if_pos c16] at H
     have c16b0 : decide (x7_1 < (t112.length : Int)) = true:=decide_eq_true c16
     clear c16
     by_cases c17 : 0 ≤ x7_1
     ·rw [if_pos c17] at H
      have c17b0 : decide (0 ≤ x7_1) = true:=decide_eq_true c17
      clear c17
      obtain ⟨t116,A180,H⟩:=Option.bind_eq_some_iff.mp H
      have A18:=Aside0.mk A180
      clear A180
      by_cases c19 : t116 = true
      ·subst c19
       rw [if_pos rfl] at H
       by_cases c20 : x7_1 > 0
       ·rw [if_pos c20] at H
        have c20b0 : decide (0 < x7_1) = true:=decide_eq_true c20
        clear c20
        obtain ⟨ji21,hji21⟩ : ∃ j_ : Int,(wrap64 (x7_1 - 1)) = j_:=⟨_,rfl⟩
        replace H : (if 0 ≤ (ji21) then (if (ji21) < (t112.length : Int) then (if ((Op.bytesLess (((rd_T41 t112 (ji21)).f0).toList) (((rd_T41 t112 x7_1).f0).toList)) = true) then (Lw17_MvsLeast.l0 k1 l0 t106 t112 (wrap64 (x7_1 + 1))) else (some false)) else (none)) else (none)) = some r:=by first | (rw [hji21] at H;exact H) | (simp only [hji21] at H ⊢;exact H)
        (try rw [hji21] at A18)
        have hji21w : (IntKind.i64.wrap (x7_1 - 1)) = ji21:=(i64_w _).trans hji21
        by_cases c22 : 0 ≤ (ji21)
        ·rw [if_pos c22] at H
         have c22b0 : decide (0 ≤ (ji21)) = true:=decide_eq_true c22
         clear c22
         by_cases c23 : (ji21) < (t112.length : Int)
         ·rw [if_pos c23] at H
          have c23b0 : decide ((ji21) < (t112.length : Int)) = true:=decide_eq_true c23
          clear c23
          by_cases c24 : ((Op.bytesLess (((rd_T41 t112 (ji21)).f0).toList) (((rd_T41 t112 x7_1).f0).toList)) = true)
          ·rw [if_pos c24] at H
           have c24b0 : (Op.bytesLess (((rd_T41 t112 (ji21)).f0).toList) (((rd_T41 t112 x7_1).f0).toList)) = true:=c24
           clear c24
           have H':=Aside0.mk H
           clear H
           obtain ⟨Ao25,co25,eo25⟩:=Kd.R_slice HO_6.out
           subst eo25
           try go_wp2
           replace HO_5:=Aside0.mk (Kd.R_drew HO_5.out)
           replace HO_6:=Aside0.mk (Kd.R_drew HO_6.out)
           replace HB:=Aside0.mk (below_drew1 HB.out)
           have p115 : 0 ≤ (x7_1 : Int):=of_decide_eq_true q1_
           have q115 : x7_1 < (t112.length : Int):=of_decide_eq_true q1_
           obtain ⟨ad115,e115,hx115_0,hx115_1,hx115_2,hx115_3,hx115_4,hx115_5⟩:=at_T41 (Kd.R_reads' HO_6.out).2.2 x7_1 p115 q115
           cases e115
           replace p115:=eq_true p115
           replace q115:=eq_true q115
           obtain ⟨Ao27,co27,eo27⟩:=Kd.R_slice HO_5.out
           (first | subst eo27 | (injection eo27 with f1_ f2_ f3_;have f4_:=f1_.symm;have f5_:=f3_.symm;clear f1_ f2_ f3_;subst f4_;subst f5_))
           have p117 : 0 ≤ ((ji21) : Int):=of_decide_eq_true q1_
           have q117 : (ji21) < (t112.length : Int):=of_decide_eq_true q1_
           obtain ⟨ad117,e117,hx117_0,hx117_1,hx117_2,hx117_3,hx117_4,hx117_5⟩:=at_T41 (Kd.R_reads' HO_6.out).2.2 (ji21) p117 q117
           obtain rfl : ad115 = ad117:=(by injection e117)
           replace p117:=eq_true p117
           replace q117:=eq_true q117
           have p118 : 0 ≤ (x7_1 : Int):=of_decide_eq_true q1_
           have q118 : x7_1 < (t112.length : Int):=of_decide_eq_true q1_
           obtain ⟨ad118,e118,hx118_0,hx118_1,hx118_2,hx118_3,hx118_4,hx118_5⟩:=at_T41 (Kd.R_reads' HO_6.out).2.2 x7_1 p118 q118
           obtain rfl : ad115 = ad118:=(by injection e118)
           replace p118:=eq_true p118
           replace q118:=eq_true q118
           refine start_ (n:=25) (S:=fun w' => w'.cell? (ad115.add ((x7_1).toNat * 6)) = some (.string ((rd_T41 t112 x7_1).f0)) ∧ w'.cell? ⟨(ad115.add ((x7_1).toNat * 6)).block,(ad115.add ((x7_1).toNat * 6)).off + 1,none⟩ = some (.int .i64 ((rd_T41 t112 x7_1).f1.f0)) ∧ w'.cell? ⟨(ad115.add ((x7_1).toNat * 6)).block,(ad115.add ((x7_1).toNat * 6)).off + 2,none⟩ = some (.int .i64 ((rd_T41 t112 x7_1).f1.f1)) ∧ w'.cell? ⟨(ad115.add ((x7_1).toNat * 6)).block,(ad115.add ((x7_1).toNat * 6)).off + 3,none⟩ = some (.int .i64 ((rd_T41 t112 x7_1).f1.f2)) ∧ w'.cell? ⟨(ad115.add ((x7_1).toNat * 6)).block,(ad115.add ((x7_1).toNat * 6)).off + 4,none⟩ = some (.string ((rd_T41 t112 x7_1).f1.f3)) ∧ w'.cell? ⟨(ad115.add ((x7_1).toNat * 6)).block,(ad115.add ((x7_1).toNat * 6)).off + 5,none⟩ = some (.string ((rd_T41 t112 x7_1).f1.f4)) ∧ w'.cell? (ad115.add (((ji21)).toNat * 6)) = some (.string ((rd_T41 t112 (ji21)).f0)) ∧ w'.cell? ⟨(ad115.add (((ji21)).toNat * 6)).block,(ad115.add (((ji21)).toNat * 6)).off + 1,none⟩ = some (.int .i64 ((rd_T41 t112 (ji21)).f1.f0)) ∧ w'.cell? ⟨(ad115.add (((ji21)).toNat * 6)).block,(ad115.add (((ji21)).toNat * 6)).off + 2,none⟩ = some (.int .i64 ((rd_T41 t112 (ji21)).f1.f1)) ∧ w'.cell? ⟨(ad115.add (((ji21)).toNat * 6)).block,(ad115.add (((ji21)).toNat * 6)).off + 3,none⟩ = some (.int .i64 ((rd_T41 t112 (ji21)).f1.f2)) ∧ w'.cell? ⟨(ad115.add (((ji21)).toNat * 6)).block,(ad115.add (((ji21)).toNat * 6)).off + 4,none⟩ = some (.string ((rd_T41 t112 (ji21)).f1.f3)) ∧ w'.cell? ⟨(ad115.add (((ji21)).toNat * 6)).block,(ad115.add (((ji21)).toNat * 6)).off + 5,none⟩ = some (.string ((rd_T41 t112 (ji21)).f1.f4)) ∧ w'.cell? (ad115.add ((x7_1).toNat * 6)) = some (.string ((rd_T41 t112 x7_1).f0)) ∧ w'.cell? ⟨(ad115.add ((x7_1).toNat * 6)).block,(ad115.add ((x7_1).toNat * 6)).off + 1,none⟩ = some (.int .i64 ((rd_T41 t112 x7_1).f1.f0)) ∧ w'.cell? ⟨(ad115.add ((x7_1).toNat * 6)).block,(ad115.add ((x7_1).toNat * 6)).off + 2,none⟩ = some (.int .i64 ((rd_T41 t112 x7_1).f1.f1)) ∧ w'.cell? ⟨(ad115.add ((x7_1).toNat * 6)).block,(ad115.add ((x7_1).toNat * 6)).off + 3,none⟩ = some (.int .i64 ((rd_T41 t112 x7_1).f1.f2)) ∧ w'.cell? ⟨(ad115.add ((x7_1).toNat * 6)).block,(ad115.add ((x7_1).toNat * 6)).off + 4,none⟩ = some (.string ((rd_T41 t112 x7_1).f1.f3)) ∧ w'.cell? ⟨(ad115.add ((x7_1).toNat * 6)).block,(ad115.add ((x7_1).toNat * 6)).off + 5,none⟩ = some (.string ((rd_T41 t112 x7_1).f1.f4))) (ds:=[]) #[false,false,false,false,false,false,false,false,false,false,false,false,false,false,false,false,false,false,false,false,false,false,false,false,false] q4_ rfl rfl ⟨hx115_0,hx115_1,hx115_2,hx115_3,hx115_4,hx115_5,hx117_0,hx117_1,hx117_2,hx117_3,hx117_4,hx117_5,hx118_0,hx118_1,hx118_2,hx118_3,hx118_4,hx118_5⟩ (fun hHeld => ?_);refine with_tabW Lw17_MvsLeast.tab8 Lw17_MvsLeast.bits8 (fun HT_ HW_ => ?_)
           generalize wr.drew = w26 at HO_5 HO_6 HB hx115_0 hx115_1 hx115_2 hx115_3 hx115_4 hx115_5 hx117_0 hx117_1 hx117_2 hx117_3 hx117_4 hx117_5 hx118_0 hx118_1 hx118_2 hx118_3 hx118_4 hx118_5 hHeld ⊢
           refine pure_ (i:=0) (N:=some 29) (v:=?_) (a':=?_) #[true,false,false,false,false,false,false,false,false,false,false,false,false,false,false,false,false,false,false,false,false,false,false,false,false] rfl rfl (any_of HT_.out q4_) (fun _ _ _ h => h) (Or.inl ⟨by rfl,?_⟩) ?_ ?_
           rotate_left
           ·intro w'
            go_simp
            with_reducible rfl
           rotate_left
           ·simp only [Act.put,List.setIfInBounds_toArray,List.set_cons_zero,List.set_cons_succ,i64_w]
            rfl
           refine pure_ (i:=1) (N:=some 30) (v:=?_) (a':=?_) #[true,true,false,false,false,false,false,false,false,false,false,false,false,false,false,false,false,false,false,false,false,false,false,false,false] rfl rfl (any_of HT_.out q4_) (fun _ _ _ h => h) (Or.inl ⟨by rfl,?_⟩) ?_ ?_
           rotate_left
           ·intro w'
            go_simp
            with_reducible rfl
           rotate_left
           ·simp only [Act.put,List.setIfInBounds_toArray,List.set_cons_zero,List.set_cons_succ,i64_w]
            rfl
           refine pure_ (i:=2) (N:=some 31) (v:=?_) (a':=?_) #[true,true,true,false,false,false,false,false,false,false,false,false,false,false,false,false,false,false,false,false,false,false,false,false,false] rfl rfl (any_of HT_.out q4_) (fun _ _ _ h => h) (Or.inl ⟨by rfl,?_⟩) ?_ ?_
           rotate_left
           ·intro w'
            go_simp
            with_reducible rfl
           rotate_left
           ·simp only [Act.put,List.setIfInBounds_toArray,List.set_cons_zero,List.set_cons_succ,i64_w]
            rfl
           refine pure_ (i:=3) (N:=some 32) (v:=?_) (a':=?_) #[true,true,true,true,false,false,false,false,false,false,false,false,false,false,false,false,false,false,false,false,false,false,false,false,false] rfl rfl (any_of HT_.out q4_) (fun _ _ _ h => h) (Or.inl ⟨by rfl,?_⟩) ?_ ?_
           rotate_left
           ·intro w'
            go_simp
            with_reducible rfl
           rotate_left
           ·simp only [Act.put,List.setIfInBounds_toArray,List.set_cons_zero,List.set_cons_succ,i64_w]
            rfl
           refine take_ (i:=4) (N:=some 33) (v:=?_) (a':=?_) #[true,true,true,true,true,false,false,false,false,false,false,false,false,false,false,false,false,false,false,false,false,false,false,false,false] rfl rfl (take_ofW HT_.out HW_.out q4_) (fun _ _ _ h => h) (Or.inl ⟨by rfl,?_⟩) hHeld ?_ ?_
           rotate_left
           ·rintro w' ⟨s0,s1,s2,s3,s4,s5,s6,s7,s8,s9,s10,s11,s12,s13,s14,s15,s16,s17⟩
            go_simp
            with_reducible rfl
           rotate_left
           ·simp only [Act.put,List.setIfInBounds_toArray,List.set_cons_zero,List.set_cons_succ,i64_w]
            rfl
           refine one_ (i:=5) (N:=some 34) #[true,true,true,true,true,true,false,false,false,false,false,false,false,false,false,false,false,false,false,false,false,false,false,false,false] rfl rfl (one_of HT_.out q4_) q33_ (fun K hK => ?_)
           refine goes_ Tryz.func33 q4_ rfl #[.slice Ao27 t106.length co27,.agg #[.string ((rd_T41 t112 x7_1).f0),.int .i64 ((rd_T41 t112 x7_1).f1.f0),.int .i64 ((rd_T41 t112 x7_1).f1.f1),.int .i64 ((rd_T41 t112 x7_1).f1.f2),.string ((rd_T41 t112 x7_1).f1.f3),.string ((rd_T41 t112 x7_1).f1.f4)]] q50_ rfl rfl q2_ ?_
           with_reducible refine (Rf17_In.calls k1 _ _ t106 ((rd_T41 t112 x7_1).f0) ((rd_T41 t112 x7_1).f1.f0) ((rd_T41 t112 x7_1).f1.f1) ((rd_T41 t112 x7_1).f1.f2) ((rd_T41 t112 x7_1).f1.f3) ((rd_T41 t112 x7_1).f1.f4) true _ ?side1 ?side2 A18.out).mono ?_
           (case side1 => repeat (first | exact (Kd.R_reads' HO_5.out).2.2 | (with_reducible refine Kd.C_alloc ?_ _) | (with_reducible refine Kd.C_drewN ?_ _) | (with_reducible refine Kd.C_drew ?_)))
           (case side2 => exact (Kd.R_reads' HO_5.out).2.1)
           rintro e w28 ⟨rfl,hb⟩
           have HS0_:=(hb.cell (World.block_lt_of_cell? _ _ (hHeld.1))).trans (hHeld.1)
           have HS1_:=(hb.cell (World.block_lt_of_cell? _ _ (hHeld.2.1))).trans (hHeld.2.1)
           have HS2_:=(hb.cell (World.block_lt_of_cell? _ _ (hHeld.2.2.1))).trans (hHeld.2.2.1)
           have HS3_:=(hb.cell (World.block_lt_of_cell? _ _ (hHeld.2.2.2.1))).trans (hHeld.2.2.2.1)
           have HS4_:=(hb.cell (World.block_lt_of_cell? _ _ (hHeld.2.2.2.2.1))).trans (hHeld.2.2.2.2.1)
           have HS5_:=(hb.cell (World.block_lt_of_cell? _ _ (hHeld.2.2.2.2.2.1))).trans (hHeld.2.2.2.2.2.1)
           have HS6_:=(hb.cell (World.block_lt_of_cell? _ _ (hHeld.2.2.2.2.2.2.1))).trans (hHeld.2.2.2.2.2.2.1)
           have HS7_:=(hb.cell (World.block_lt_of_cell? _ _ (hHeld.2.2.2.2.2.2.2.1))).trans (hHeld.2.2.2.2.2.2.2.1)
           have HS8_:=(hb.cell (World.block_lt_of_cell? _ _ (hHeld.2.2.2.2.2.2.2.2.1))).trans (hHeld.2.2.2.2.2.2.2.2.1)
           have HS9_:=(hb.cell (World.block_lt_of_cell? _ _ (hHeld.2.2.2.2.2.2.2.2.2.1))).trans (hHeld.2.2.2.2.2.2.2.2.2.1)
           have HS10_:=(hb.cell (World.block_lt_of_cell? _ _ (hHeld.2.2.2.2.2.2.2.2.2.2.1))).trans (hHeld.2.2.2.2.2.2.2.2.2.2.1)
           have HS11_:=(hb.cell (World.block_lt_of_cell? _ _ (hHeld.2.2.2.2.2.2.2.2.2.2.2.1))).trans (hHeld.2.2.2.2.2.2.2.2.2.2.2.1)
           have HS12_:=(hb.cell (World.block_lt_of_cell? _ _ (hHeld.2.2.2.2.2.2.2.2.2.2.2.2.1))).trans (hHeld.2.2.2.2.2.2.2.2.2.2.2.2.1)
           have HS13_:=(hb.cell (World.block_lt_of_cell? _ _ (hHeld.2.2.2.2.2.2.2.2.2.2.2.2.2.1))).trans (hHeld.2.2.2.2.2.2.2.2.2.2.2.2.2.1)
           have HS14_:=(hb.cell (World.block_lt_of_cell? _ _ (hHeld.2.2.2.2.2.2.2.2.2.2.2.2.2.2.1))).trans (hHeld.2.2.2.2.2.2.2.2.2.2.2.2.2.2.1)
           have HS15_:=(hb.cell (World.block_lt_of_cell? _ _ (hHeld.2.2.2.2.2.2.2.2.2.2.2.2.2.2.2.1))).trans (hHeld.2.2.2.2.2.2.2.2.2.2.2.2.2.2.2.1)
           have HS16_:=(hb.cell (World.block_lt_of_cell? _ _ (hHeld.2.2.2.2.2.2.2.2.2.2.2.2.2.2.2.2.1))).trans (hHeld.2.2.2.2.2.2.2.2.2.2.2.2.2.2.2.2.1)
           have HS17_:=(hb.cell (World.block_lt_of_cell? _ _ (hHeld.2.2.2.2.2.2.2.2.2.2.2.2.2.2.2.2.2))).trans (hHeld.2.2.2.2.2.2.2.2.2.2.2.2.2.2.2.2.2)
           refine ⟨_,rfl,?_⟩
           replace HO_5:=Aside0.mk (Kd.R_below q31_ hb)
           replace HO_6:=Aside0.mk (Kd.R_below q23_ hb)
           replace HB:=Aside0.mk (below_step bh_ hb)
           (try clear hb)
           (try clear hb2)
           (try clear hk)
           (try clear hi)
           refine hK.out _ _ ⟨HS0_,HS1_,HS2_,HS3_,HS4_,HS5_,HS6_,HS7_,HS8_,HS9_,HS10_,HS11_,HS12_,HS13_,HS14_,HS15_,HS16_,HS17_⟩ (fun hHeld => ?_)
           clear hK K
           refine norm_ (a':=?_) ?_ ?_
           rotate_left
           ·show Act.put _ (some 34) _ = _
            simp only [Act.put,List.setIfInBounds_toArray,List.set_cons_zero,List.set_cons_succ,i64_w]
            rfl
           refine pure_ (i:=6) (N:=some 35) (v:=?_) (a':=?_) #[true,true,true,true,true,true,true,false,false,false,false,false,false,false,false,false,false,false,false,false,false,false,false,false,false] rfl rfl (any_of HT_.out q4_) (fun _ _ _ h => h) (Or.inl ⟨by rfl,?_⟩) ?_ ?_
           rotate_left
           ·intro w'
            go_simp
            with_reducible rfl
           rotate_left
           ·simp only [Act.put,List.setIfInBounds_toArray,List.set_cons_zero,List.set_cons_succ,i64_w]
            rfl
           refine pure_ (i:=7) (N:=some 36) (v:=?_) (a':=?_) #[true,true,true,true,true,true,true,true,false,false,false,false,false,false,false,false,false,false,false,false,false,false,false,false,false] rfl rfl (any_of HT_.out q4_) (fun _ _ _ h => h) (Or.inl ⟨by rfl,?_⟩) ?_ ?_
           rotate_left
           ·intro w'
            go_simp
            with_reducible rfl
           rotate_left
           ·simp only [Act.put,List.setIfInBounds_toArray,List.set_cons_zero,List.set_cons_succ,i64_w]
            rfl
           refine pure_ (i:=8) (N:=some 37) (v:=?_) (a':=?_) #[true,true,true,true,true,true,true,true,true,false,false,false,false,false,false,false,false,false,false,false,false,false,false,false,false] rfl rfl (any_of HT_.out q4_) (fun _ _ _ h => h) (Or.inl ⟨by rfl,?_⟩) ?_ ?_
           rotate_left
           ·intro w'
            go_simp
            with_reducible rfl
           rotate_left
           ·simp only [Act.put,List.setIfInBounds_toArray,List.set_cons_zero,List.set_cons_succ,i64_w]
            rfl
           refine pure_ (i:=9) (N:=some 38) (v:=?_) (a':=?_) #[true,true,true,true,true,true,true,true,true,true,false,false,false,false,false,false,false,false,false,false,false,false,false,false,false] rfl rfl (any_of HT_.out q4_) (fun _ _ _ h => h) (Or.inl ⟨by rfl,?_⟩) ?_ ?_
           rotate_left
           ·intro w'
            go_simp
            with_reducible rfl
           rotate_left
           ·simp only [Act.put,List.setIfInBounds_toArray,List.set_cons_zero,List.set_cons_succ,i64_w]
            rfl
           refine pure_ (i:=10) (N:=some 39) (v:=?_) (a':=?_) #[true,true,true,true,true,true,true,true,true,true,true,false,false,false,false,false,false,false,false,false,false,false,false,false,false] rfl rfl (any_of HT_.out q4_) (fun _ _ _ h => h) (Or.inl ⟨by rfl,?_⟩) ?_ ?_
           rotate_left
           ·intro w'
            go_simp
            with_reducible rfl
           rotate_left
           ·simp only [Act.put,List.setIfInBounds_toArray,List.set_cons_zero,List.set_cons_succ,i64_w]
            rfl
           refine pure_ (i:=11) (N:=some 40) (v:=?_) (a':=?_) #[true,true,true,true,true,true,true,true,true,true,true,true,false,false,false,false,false,false,false,false,false,false,false,false,false] rfl rfl (any_of HT_.out q4_) (fun _ _ _ h => h) (Or.inl ⟨by rfl,?_⟩) ?_ ?_
           rotate_left
           ·intro w'
            go_simp
            with_reducible rfl
           rotate_left
           ·simp only [Act.put,List.setIfInBounds_toArray,List.set_cons_zero,List.set_cons_succ,i64_w]
            rfl
           refine pure_ (i:=12) (N:=some 41) (v:=?_) (a':=?_) #[true,true,true,true,true,true,true,true,true,true,true,true,true,false,false,false,false,false,false,false,false,false,false,false,false] rfl rfl (any_of HT_.out q4_) (fun _ _ _ h => h) (Or.inl ⟨by rfl,?_⟩) ?_ ?_
           rotate_left
           ·intro w'
            go_simp
            with_reducible rfl
           rotate_left
           ·simp only [Act.put,List.setIfInBounds_toArray,List.set_cons_zero,List.set_cons_succ,i64_w]
            rfl
           refine pure_ (i:=13) (N:=some 42) (v:=?_) (a':=?_) #[true,true,true,true,true,true,true,true,true,true,true,true,true,true,false,false,false,false,false,false,false,false,false,false,false] rfl rfl (any_of HT_.out q4_) (fun _ _ _ h => h) (Or.inl ⟨by rfl,?_⟩) ?_ ?_
           rotate_left
           ·intro w'
            go_simp
            with_reducible rfl
           rotate_left
           ·simp only [Act.put,List.setIfInBounds_toArray,List.set_cons_zero,List.set_cons_succ,i64_w]
            rfl
           refine pure_ (i:=14) (N:=some 43) (v:=?_) (a':=?_) #[true,true,true,true,true,true,true,true,true,true,true,true,true,true,true,false,false,false,false,false,false,false,false,false,false] rfl rfl (any_of HT_.out q4_) (fun _ _ _ h => h) (Or.inl ⟨by rfl,?_⟩) ?_ ?_
           rotate_left
           ·intro w'
            go_simp
            with_reducible rfl
           rotate_left
           ·simp only [Act.put,List.setIfInBounds_toArray,List.set_cons_zero,List.set_cons_succ,i64_w]
            rfl
           refine pure_ (i:=15) (N:=some 44) (v:=?_) (a':=?_) #[true,true,true,true,true,true,true,true,true,true,true,true,true,true,true,true,false,false,false,false,false,false,false,false,false] rfl rfl (any_of HT_.out q4_) (fun _ _ _ h => h) (Or.inl ⟨by rfl,?_⟩) ?_ ?_
           rotate_left
           ·intro w'
            go_simp
            with_reducible rfl
           rotate_left
           ·simp only [Act.put,List.setIfInBounds_toArray,List.set_cons_zero,List.set_cons_succ,i64_w]
            rfl
           refine pure_ (i:=17) (N:=some 46) (v:=?_) (a':=?_) #[true,true,true,true,true,true,true,true,true,true,true,true,true,true,true,true,false,true,false,false,false,false,false,false,false] rfl rfl (any_of HT_.out q4_) (fun _ _ _ h => h) (Or.inl ⟨by rfl,?_⟩) ?_ ?_
           rotate_left
           ·intro w'
            go_simp
            with_reducible rfl
           rotate_left
           ·simp only [Act.put,List.setIfInBounds_toArray,List.set_cons_zero,List.set_cons_succ,i64_w]
            rfl
           refine pure_ (i:=18) (N:=some 47) (v:=?_) (a':=?_) #[true,true,true,true,true,true,true,true,true,true,true,true,true,true,true,true,false,true,true,false,false,false,false,false,false] rfl rfl (any_of HT_.out q4_) (fun _ _ _ h => h) (Or.inl ⟨by rfl,?_⟩) ?_ ?_
           rotate_left
           ·intro w'
            go_simp
            with_reducible rfl
           rotate_left
           ·simp only [Act.put,List.setIfInBounds_toArray,List.set_cons_zero,List.set_cons_succ,i64_w]
            rfl
           refine pure_ (i:=19) (N:=some 48) (v:=?_) (a':=?_) #[true,true,true,true,true,true,true,true,true,true,true,true,true,true,true,true,false,true,true,true,false,false,false,false,false] rfl rfl (any_of HT_.out q4_) (fun _ _ _ h => h) (Or.inl ⟨by rfl,?_⟩) ?_ ?_
           rotate_left
           ·intro w'
            go_simp
            with_reducible rfl
           rotate_left
           ·simp only [Act.put,List.setIfInBounds_toArray,List.set_cons_zero,List.set_cons_succ,i64_w]
            rfl
           refine pure_ (i:=20) (N:=some 49) (v:=?_) (a':=?_) #[true,true,true,true,true,true,true,true,true,true,true,true,true,true,true,true,false,true,true,true,true,false,false,false,false] rfl rfl (any_of HT_.out q4_) (fun _ _ _ h => h) (Or.inl ⟨by rfl,?_⟩) ?_ ?_
           rotate_left
           ·intro w'
            go_simp
            with_reducible rfl
           rotate_left
           ·simp only [Act.put,List.setIfInBounds_toArray,List.set_cons_zero,List.set_cons_succ,i64_w]
            rfl
           refine take_ (i:=16) (N:=some 45) (v:=?_) (a':=?_) #[true,true,true,true,true,true,true,true,true,true,true,true,true,true,true,true,true,true,true,true,true,false,false,false,false] rfl rfl (take_ofW HT_.out HW_.out q4_) (fun _ _ _ h => h) (Or.inl ⟨by rfl,?_⟩) hHeld ?_ ?_
           rotate_left
           ·rintro w' ⟨s0,s1,s2,s3,s4,s5,s6,s7,s8,s9,s10,s11,s12,s13,s14,s15,s16,s17⟩
            go_simp
            with_reducible rfl
           rotate_left
           ·simp only [Act.put,List.setIfInBounds_toArray,List.set_cons_zero,List.set_cons_succ,i64_w]
            rfl
           refine take_ (i:=21) (N:=some 50) (v:=?_) (a':=?_) #[true,true,true,true,true,true,true,true,true,true,true,true,true,true,true,true,true,true,true,true,true,true,false,false,false] rfl rfl (take_ofW HT_.out HW_.out q4_) (fun _ _ _ h => h) (Or.inl ⟨by rfl,?_⟩) hHeld ?_ ?_
           rotate_left
           ·rintro w' ⟨s0,s1,s2,s3,s4,s5,s6,s7,s8,s9,s10,s11,s12,s13,s14,s15,s16,s17⟩
            go_simp
            with_reducible rfl
           rotate_left
           ·simp only [Act.put,List.setIfInBounds_toArray,List.set_cons_zero,List.set_cons_succ,i64_w]
            rfl
           refine pure_ (i:=22) (N:=some 51) (v:=?_) (a':=?_) #[true,true,true,true,true,true,true,true,true,true,true,true,true,true,true,true,true,true,true,true,true,true,true,false,false] rfl rfl (any_of HT_.out q4_) (fun _ _ _ h => h) (Or.inl ⟨by rfl,?_⟩) ?_ ?_
           rotate_left
           ·intro w'
            go_simp
            with_reducible rfl
           rotate_left
           ·simp only [Act.put,List.setIfInBounds_toArray,List.set_cons_zero,List.set_cons_succ,i64_w]
            rfl
           refine pure_ (i:=23) (N:=some 52) (v:=?_) (a':=?_) #[true,true,true,true,true,true,true,true,true,true,true,true,true,true,true,true,true,true,true,true,true,true,true,true,false] rfl rfl (any_of HT_.out q4_) (fun _ _ _ h => h) (Or.inl ⟨by rfl,?_⟩) ?_ ?_
           rotate_left
           ·intro w'
            go_simp
            with_reducible rfl
           rotate_left
           ·simp only [Act.put,List.setIfInBounds_toArray,List.set_cons_zero,List.set_cons_succ,i64_w]
            rfl
           refine pure_ (i:=24) (N:=some 53) (v:=?_) (a':=?_) #[true,true,true,true,true,true,true,true,true,true,true,true,true,true,true,true,true,true,true,true,true,true,true,true,true] rfl rfl (any_of HT_.out q4_) (fun _ _ _ h => h) (Or.inl ⟨by rfl,?_⟩) ?_ ?_
           rotate_left
           ·intro w'
            go_simp
            with_reducible rfl
           rotate_left
           ·simp only [Act.put,List.setIfInBounds_toArray,List.set_cons_zero,List.set_cons_succ,i64_w]
            rfl
           refine done_ (done_of HT_.out q4_) ?_
           try go_wp2
           go_roundg k1
           case measure => have:=HK1.out;omega
           case rel => exact ⟨(wrap64 (x7_1 + 1)),q3_,H',⟨by have:=HK1.out;omega⟩,⟨by (with_reducible repeat (first | apply Kd.R_alloc | apply Kd.R_drewN | apply Kd.R_drew));exact HO_5.out⟩,⟨by (with_reducible repeat (first | apply Kd.R_alloc | apply Kd.R_drewN | apply Kd.R_drew));exact HO_6.out⟩,⟨by repeat (first | (with_reducible first | exact HB.out | apply below_alloc | apply pw_below_drewN | apply below_drew1) | exact HB.out)⟩⟩
          ·rw [if_neg c24] at H
           have c24b0 : (Op.bytesLess (((rd_T41 t112 (ji21)).f0).toList) (((rd_T41 t112 x7_1).f0).toList)) = false:=by simpa using c24
           clear c24
           obtain rfl:=Option.some.inj H
           obtain ⟨Ao29,co29,eo29⟩:=Kd.R_slice HO_6.out
           subst eo29
           try go_wp2
           replace HO_5:=Aside0.mk (Kd.R_drew HO_5.out)
           replace HO_6:=Aside0.mk (Kd.R_drew HO_6.out)
           replace HB:=Aside0.mk (below_drew1 HB.out)
           have p115 : 0 ≤ (x7_1 : Int):=of_decide_eq_true q1_
           have q115 : x7_1 < (t112.length : Int):=of_decide_eq_true q1_
           obtain ⟨ad115,e115,hx115_0,hx115_1,hx115_2,hx115_3,hx115_4,hx115_5⟩:=at_T41 (Kd.R_reads' HO_6.out).2.2 x7_1 p115 q115
           cases e115
           replace p115:=eq_true p115
           replace q115:=eq_true q115
           obtain ⟨Ao31,co31,eo31⟩:=Kd.R_slice HO_5.out
           (first | subst eo31 | (injection eo31 with f1_ f2_ f3_;have f4_:=f1_.symm;have f5_:=f3_.symm;clear f1_ f2_ f3_;subst f4_;subst f5_))
           have p117 : 0 ≤ ((ji21) : Int):=of_decide_eq_true q1_
           have q117 : (ji21) < (t112.length : Int):=of_decide_eq_true q1_
           obtain ⟨ad117,e117,hx117_0,hx117_1,hx117_2,hx117_3,hx117_4,hx117_5⟩:=at_T41 (Kd.R_reads' HO_6.out).2.2 (ji21) p117 q117
           obtain rfl : ad115 = ad117:=(by injection e117)
           replace p117:=eq_true p117
           replace q117:=eq_true q117
           have p118 : 0 ≤ (x7_1 : Int):=of_decide_eq_true q1_
           have q118 : x7_1 < (t112.length : Int):=of_decide_eq_true q1_
           obtain ⟨ad118,e118,hx118_0,hx118_1,hx118_2,hx118_3,hx118_4,hx118_5⟩:=at_T41 (Kd.R_reads' HO_6.out).2.2 x7_1 p118 q118
           obtain rfl : ad115 = ad118:=(by injection e118)
           replace p118:=eq_true p118
           replace q118:=eq_true q118
           refine start_ (n:=25) (S:=fun w' => w'.cell? (ad115.add ((x7_1).toNat * 6)) = some (.string ((rd_T41 t112 x7_1).f0)) ∧ w'.cell? ⟨(ad115.add ((x7_1).toNat * 6)).block,(ad115.add ((x7_1).toNat * 6)).off + 1,none⟩ = some (.int .i64 ((rd_T41 t112 x7_1).f1.f0)) ∧ w'.cell? ⟨(ad115.add ((x7_1).toNat * 6)).block,(ad115.add ((x7_1).toNat * 6)).off + 2,none⟩ = some (.int .i64 ((rd_T41 t112 x7_1).f1.f1)) ∧ w'.cell? ⟨(ad115.add ((x7_1).toNat * 6)).block,(ad115.add ((x7_1).toNat * 6)).off + 3,none⟩ = some (.int .i64 ((rd_T41 t112 x7_1).f1.f2)) ∧ w'.cell? ⟨(ad115.add ((x7_1).toNat * 6)).block,(ad115.add ((x7_1).toNat * 6)).off + 4,none⟩ = some (.string ((rd_T41 t112 x7_1).f1.f3)) ∧ w'.cell? ⟨(ad115.add ((x7_1).toNat * 6)).block,(ad115.add ((x7_1).toNat * 6)).off + 5,none⟩ = some (.string ((rd_T41 t112 x7_1).f1.f4)) ∧ w'.cell? (ad115.add (((ji21)).toNat * 6)) = some (.string ((rd_T41 t112 (ji21)).f0)) ∧ w'.cell? ⟨(ad115.add (((ji21)).toNat * 6)).block,(ad115.add (((ji21)).toNat * 6)).off + 1,none⟩ = some (.int .i64 ((rd_T41 t112 (ji21)).f1.f0)) ∧ w'.cell? ⟨(ad115.add (((ji21)).toNat * 6)).block,(ad115.add (((ji21)).toNat * 6)).off + 2,none⟩ = some (.int .i64 ((rd_T41 t112 (ji21)).f1.f1)) ∧ w'.cell? ⟨(ad115.add (((ji21)).toNat * 6)).block,(ad115.add (((ji21)).toNat * 6)).off + 3,none⟩ = some (.int .i64 ((rd_T41 t112 (ji21)).f1.f2)) ∧ w'.cell? ⟨(ad115.add (((ji21)).toNat * 6)).block,(ad115.add (((ji21)).toNat * 6)).off + 4,none⟩ = some (.string ((rd_T41 t112 (ji21)).f1.f3)) ∧ w'.cell? ⟨(ad115.add (((ji21)).toNat * 6)).block,(ad115.add (((ji21)).toNat * 6)).off + 5,none⟩ = some (.string ((rd_T41 t112 (ji21)).f1.f4)) ∧ w'.cell? (ad115.add ((x7_1).toNat * 6)) = some (.string ((rd_T41 t112 x7_1).f0)) ∧ w'.cell? ⟨(ad115.add ((x7_1).toNat * 6)).block,(ad115.add ((x7_1).toNat * 6)).off + 1,none⟩ = some (.int .i64 ((rd_T41 t112 x7_1).f1.f0)) ∧ w'.cell? ⟨(ad115.add ((x7_1).toNat * 6)).block,(ad115.add ((x7_1).toNat * 6)).off + 2,none⟩ = some (.int .i64 ((rd_T41 t112 x7_1).f1.f1)) ∧ w'.cell? ⟨(ad115.add ((x7_1).toNat * 6)).block,(ad115.add ((x7_1).toNat * 6)).off + 3,none⟩ = some (.int .i64 ((rd_T41 t112 x7_1).f1.f2)) ∧ w'.cell? ⟨(ad115.add ((x7_1).toNat * 6)).block,(ad115.add ((x7_1).toNat * 6)).off + 4,none⟩ = some (.string ((rd_T41 t112 x7_1).f1.f3)) ∧ w'.cell? ⟨(ad115.add ((x7_1).toNat * 6)).block,(ad115.add ((x7_1).toNat * 6)).off + 5,none⟩ = some (.string ((rd_T41 t112 x7_1).f1.f4))) (ds:=[]) #[false,false,false,false,false,false,false,false,false,false,false,false,false,false,false,false,false,false,false,false,false,false,false,false,false] q4_ rfl rfl ⟨hx115_0,hx115_1,hx115_2,hx115_3,hx115_4,hx115_5,hx117_0,hx117_1,hx117_2,hx117_3,hx117_4,hx117_5,hx118_0,hx118_1,hx118_2,hx118_3,hx118_4,hx118_5⟩ (fun hHeld => ?_);refine with_tabW Lw17_MvsLeast.tab8 Lw17_MvsLeast.bits8 (fun HT_ HW_ => ?_)
           generalize wr.drew = w30 at HO_5 HO_6 HB hx115_0 hx115_1 hx115_2 hx115_3 hx115_4 hx115_5 hx117_0 hx117_1 hx117_2 hx117_3 hx117_4 hx117_5 hx118_0 hx118_1 hx118_2 hx118_3 hx118_4 hx118_5 hHeld ⊢
           refine pure_ (i:=0) (N:=some 29) (v:=?_) (a':=?_) #[true,false,false,false,false,false,false,false,false,false,false,false,false,false,false,false,false,false,false,false,false,false,false,false,false] rfl rfl (any_of HT_.out q4_) (fun _ _ _ h => h) (Or.inl ⟨by rfl,?_⟩) ?_ ?_
           rotate_left
           ·intro w'
            go_simp
            with_reducible rfl
           rotate_left
           ·simp only [Act.put,List.setIfInBounds_toArray,List.set_cons_zero,List.set_cons_succ,i64_w]
            rfl
           refine pure_ (i:=1) (N:=some 30) (v:=?_) (a':=?_) #[true,true,false,false,false,false,false,false,false,false,false,false,false,false,false,false,false,false,false,false,false,false,false,false,false] rfl rfl (any_of HT_.out q4_) (fun _ _ _ h => h) (Or.inl ⟨by rfl,?_⟩) ?_ ?_
           rotate_left
           ·intro w'
            go_simp
            with_reducible rfl
           rotate_left
           ·simp only [Act.put,List.setIfInBounds_toArray,List.set_cons_zero,List.set_cons_succ,i64_w]
            rfl
           refine pure_ (i:=2) (N:=some 31) (v:=?_) (a':=?_) #[true,true,true,false,false,false,false,false,false,false,false,false,false,false,false,false,false,false,false,false,false,false,false,false,false] rfl rfl (any_of HT_.out q4_) (fun _ _ _ h => h) (Or.inl ⟨by rfl,?_⟩) ?_ ?_
           rotate_left
           ·intro w'
            go_simp
            with_reducible rfl
           rotate_left
           ·simp only [Act.put,List.setIfInBounds_toArray,List.set_cons_zero,List.set_cons_succ,i64_w]
            rfl
           refine pure_ (i:=3) (N:=some 32) (v:=?_) (a':=?_) #[true,true,true,true,false,false,false,false,false,false,false,false,false,false,false,false,false,false,false,false,false,false,false,false,false] rfl rfl (any_of HT_.out q4_) (fun _ _ _ h => h) (Or.inl ⟨by rfl,?_⟩) ?_ ?_
           rotate_left
           ·intro w'
            go_simp
            with_reducible rfl
           rotate_left
           ·simp only [Act.put,List.setIfInBounds_toArray,List.set_cons_zero,List.set_cons_succ,i64_w]
            rfl
           refine take_ (i:=4) (N:=some 33) (v:=?_) (a':=?_) #[true,true,true,true,true,false,false,false,false,false,false,false,false,false,false,false,false,false,false,false,false,false,false,false,false] rfl rfl (take_ofW HT_.out HW_.out q4_) (fun _ _ _ h => h) (Or.inl ⟨by rfl,?_⟩) hHeld ?_ ?_
           rotate_left
           ·rintro w' ⟨s0,s1,s2,s3,s4,s5,s6,s7,s8,s9,s10,s11,s12,s13,s14,s15,s16,s17⟩
            go_simp
            with_reducible rfl
           rotate_left
           ·simp only [Act.put,List.setIfInBounds_toArray,List.set_cons_zero,List.set_cons_succ,i64_w]
            rfl
           refine one_ (i:=5) (N:=some 34) #[true,true,true,true,true,true,false,false,false,false,false,false,false,false,false,false,false,false,false,false,false,false,false,false,false] rfl rfl (one_of HT_.out q4_) q33_ (fun K hK => ?_)
           refine goes_ Tryz.func33 q4_ rfl #[.slice Ao31 t106.length co31,.agg #[.string ((rd_T41 t112 x7_1).f0),.int .i64 ((rd_T41 t112 x7_1).f1.f0),.int .i64 ((rd_T41 t112 x7_1).f1.f1),.int .i64 ((rd_T41 t112 x7_1).f1.f2),.string ((rd_T41 t112 x7_1).f1.f3),.string ((rd_T41 t112 x7_1).f1.f4)]] q50_ rfl rfl q2_ ?_
           with_reducible refine (Rf17_In.calls k1 _ _ t106 ((rd_T41 t112 x7_1).f0) ((rd_T41 t112 x7_1).f1.f0) ((rd_T41 t112 x7_1).f1.f1) ((rd_T41 t112 x7_1).f1.f2) ((rd_T41 t112 x7_1).f1.f3) ((rd_T41 t112 x7_1).f1.f4) true _ ?side1 ?side2 A18.out).mono ?_
           (case side1 => repeat (first | exact (Kd.R_reads' HO_5.out).2.2 | (with_reducible refine Kd.C_alloc ?_ _) | (with_reducible refine Kd.C_drewN ?_ _) | (with_reducible refine Kd.C_drew ?_)))
           (case side2 => exact (Kd.R_reads' HO_5.out).2.1)
           rintro e w32 ⟨rfl,hb⟩
           have HS0_:=(hb.cell (World.block_lt_of_cell? _ _ (hHeld.1))).trans (hHeld.1)
           have HS1_:=(hb.cell (World.block_lt_of_cell? _ _ (hHeld.2.1))).trans (hHeld.2.1)
           have HS2_:=(hb.cell (World.block_lt_of_cell? _ _ (hHeld.2.2.1))).trans (hHeld.2.2.1)
           have HS3_:=(hb.cell (World.block_lt_of_cell? _ _ (hHeld.2.2.2.1))).trans (hHeld.2.2.2.1)
           have HS4_:=(hb.cell (World.block_lt_of_cell? _ _ (hHeld.2.2.2.2.1))).trans (hHeld.2.2.2.2.1)
           have HS5_:=(hb.cell (World.block_lt_of_cell? _ _ (hHeld.2.2.2.2.2.1))).trans (hHeld.2.2.2.2.2.1)
           have HS6_:=(hb.cell (World.block_lt_of_cell? _ _ (hHeld.2.2.2.2.2.2.1))).trans (hHeld.2.2.2.2.2.2.1)
           have HS7_:=(hb.cell (World.block_lt_of_cell? _ _ (hHeld.2.2.2.2.2.2.2.1))).trans (hHeld.2.2.2.2.2.2.2.1)
           have HS8_:=(hb.cell (World.block_lt_of_cell? _ _ (hHeld.2.2.2.2.2.2.2.2.1))).trans (hHeld.2.2.2.2.2.2.2.2.1)
           have HS9_:=(hb.cell (World.block_lt_of_cell? _ _ (hHeld.2.2.2.2.2.2.2.2.2.1))).trans (hHeld.2.2.2.2.2.2.2.2.2.1)
           have HS10_:=(hb.cell (World.block_lt_of_cell? _ _ (hHeld.2.2.2.2.2.2.2.2.2.2.1))).trans (hHeld.2.2.2.2.2.2.2.2.2.2.1)
           have HS11_:=(hb.cell (World.block_lt_of_cell? _ _ (hHeld.2.2.2.2.2.2.2.2.2.2.2.1))).trans (hHeld.2.2.2.2.2.2.2.2.2.2.2.1)
           have HS12_:=(hb.cell (World.block_lt_of_cell? _ _ (hHeld.2.2.2.2.2.2.2.2.2.2.2.2.1))).trans (hHeld.2.2.2.2.2.2.2.2.2.2.2.2.1)
           have HS13_:=(hb.cell (World.block_lt_of_cell? _ _ (hHeld.2.2.2.2.2.2.2.2.2.2.2.2.2.1))).trans (hHeld.2.2.2.2.2.2.2.2.2.2.2.2.2.1)
           have HS14_:=(hb.cell (World.block_lt_of_cell? _ _ (hHeld.2.2.2.2.2.2.2.2.2.2.2.2.2.2.1))).trans (hHeld.2.2.2.2.2.2.2.2.2.2.2.2.2.2.1)
           have HS15_:=(hb.cell (World.block_lt_of_cell? _ _ (hHeld.2.2.2.2.2.2.2.2.2.2.2.2.2.2.2.1))).trans (hHeld.2.2.2.2.2.2.2.2.2.2.2.2.2.2.2.1)
           have HS16_:=(hb.cell (World.block_lt_of_cell? _ _ (hHeld.2.2.2.2.2.2.2.2.2.2.2.2.2.2.2.2.1))).trans (hHeld.2.2.2.2.2.2.2.2.2.2.2.2.2.2.2.2.1)
           have HS17_:=(hb.cell (World.block_lt_of_cell? _ _ (hHeld.2.2.2.2.2.2.2.2.2.2.2.2.2.2.2.2.2))).trans (hHeld.2.2.2.2.2.2.2.2.2.2.2.2.2.2.2.2.2)
           refine ⟨_,rfl,?_⟩
           replace HO_5:=Aside0.mk (Kd.R_below q31_ hb)
           replace HO_6:=Aside0.mk (Kd.R_below q23_ hb)
           replace HB:=Aside0.mk (below_step bh_ hb)
           (try clear hb)
           (try clear hb2)
           (try clear hk)
           (try clear hi)
           refine hK.out _ _ ⟨HS0_,HS1_,HS2_,HS3_,HS4_,HS5_,HS6_,HS7_,HS8_,HS9_,HS10_,HS11_,HS12_,HS13_,HS14_,HS15_,HS16_,HS17_⟩ (fun hHeld => ?_)
           clear hK K
           refine norm_ (a':=?_) ?_ ?_
           rotate_left
           ·show Act.put _ (some 34) _ = _
            simp only [Act.put,List.setIfInBounds_toArray,List.set_cons_zero,List.set_cons_succ,i64_w]
            rfl
           refine pure_ (i:=6) (N:=some 35) (v:=?_) (a':=?_) #[true,true,true,true,true,true,true,false,false,false,false,false,false,false,false,false,false,false,false,false,false,false,false,false,false] rfl rfl (any_of HT_.out q4_) (fun _ _ _ h => h) (Or.inl ⟨by rfl,?_⟩) ?_ ?_
           rotate_left
           ·intro w'
            go_simp
            with_reducible rfl
           rotate_left
           ·simp only [Act.put,List.setIfInBounds_toArray,List.set_cons_zero,List.set_cons_succ,i64_w]
            rfl
           refine pure_ (i:=7) (N:=some 36) (v:=?_) (a':=?_) #[true,true,true,true,true,true,true,true,false,false,false,false,false,false,false,false,false,false,false,false,false,false,false,false,false] rfl rfl (any_of HT_.out q4_) (fun _ _ _ h => h) (Or.inl ⟨by rfl,?_⟩) ?_ ?_
           rotate_left
           ·intro w'
            go_simp
            with_reducible rfl
           rotate_left
           ·simp only [Act.put,List.setIfInBounds_toArray,List.set_cons_zero,List.set_cons_succ,i64_w]
            rfl
           refine pure_ (i:=8) (N:=some 37) (v:=?_) (a':=?_) #[true,true,true,true,true,true,true,true,true,false,false,false,false,false,false,false,false,false,false,false,false,false,false,false,false] rfl rfl (any_of HT_.out q4_) (fun _ _ _ h => h) (Or.inl ⟨by rfl,?_⟩) ?_ ?_
           rotate_left
           ·intro w'
            go_simp
            with_reducible rfl
           rotate_left
           ·simp only [Act.put,List.setIfInBounds_toArray,List.set_cons_zero,List.set_cons_succ,i64_w]
            rfl
           refine pure_ (i:=9) (N:=some 38) (v:=?_) (a':=?_) #[true,true,true,true,true,true,true,true,true,true,false,false,false,false,false,false,false,false,false,false,false,false,false,false,false] rfl rfl (any_of HT_.out q4_) (fun _ _ _ h => h) (Or.inl ⟨by rfl,?_⟩) ?_ ?_
           rotate_left
           ·intro w'
            go_simp
            with_reducible rfl
           rotate_left
           ·simp only [Act.put,List.setIfInBounds_toArray,List.set_cons_zero,List.set_cons_succ,i64_w]
            rfl
           refine pure_ (i:=10) (N:=some 39) (v:=?_) (a':=?_) #[true,true,true,true,true,true,true,true,true,true,true,false,false,false,false,false,false,false,false,false,false,false,false,false,false] rfl rfl (any_of HT_.out q4_) (fun _ _ _ h => h) (Or.inl ⟨by rfl,?_⟩) ?_ ?_
           rotate_left
           ·intro w'
            go_simp
            with_reducible rfl
           rotate_left
           ·simp only [Act.put,List.setIfInBounds_toArray,List.set_cons_zero,List.set_cons_succ,i64_w]
            rfl
           refine pure_ (i:=11) (N:=some 40) (v:=?_) (a':=?_) #[true,true,true,true,true,true,true,true,true,true,true,true,false,false,false,false,false,false,false,false,false,false,false,false,false] rfl rfl (any_of HT_.out q4_) (fun _ _ _ h => h) (Or.inl ⟨by rfl,?_⟩) ?_ ?_
           rotate_left
           ·intro w'
            go_simp
            with_reducible rfl
           rotate_left
           ·simp only [Act.put,List.setIfInBounds_toArray,List.set_cons_zero,List.set_cons_succ,i64_w]
            rfl
           refine pure_ (i:=12) (N:=some 41) (v:=?_) (a':=?_) #[true,true,true,true,true,true,true,true,true,true,true,true,true,false,false,false,false,false,false,false,false,false,false,false,false] rfl rfl (any_of HT_.out q4_) (fun _ _ _ h => h) (Or.inl ⟨by rfl,?_⟩) ?_ ?_
           rotate_left
           ·intro w'
            go_simp
            with_reducible rfl
           rotate_left
           ·simp only [Act.put,List.setIfInBounds_toArray,List.set_cons_zero,List.set_cons_succ,i64_w]
            rfl
           refine pure_ (i:=13) (N:=some 42) (v:=?_) (a':=?_) #[true,true,true,true,true,true,true,true,true,true,true,true,true,true,false,false,false,false,false,false,false,false,false,false,false] rfl rfl (any_of HT_.out q4_) (fun _ _ _ h => h) (Or.inl ⟨by rfl,?_⟩) ?_ ?_
           rotate_left
           ·intro w'
            go_simp
            with_reducible rfl
           rotate_left
           ·simp only [Act.put,List.setIfInBounds_toArray,List.set_cons_zero,List.set_cons_succ,i64_w]
            rfl
           refine pure_ (i:=14) (N:=some 43) (v:=?_) (a':=?_) #[true,true,true,true,true,true,true,true,true,true,true,true,true,true,true,false,false,false,false,false,false,false,false,false,false] rfl rfl (any_of HT_.out q4_) (fun _ _ _ h => h) (Or.inl ⟨by rfl,?_⟩) ?_ ?_
           rotate_left
           ·intro w'
            go_simp
            with_reducible rfl
           rotate_left
           ·simp only [Act.put,List.setIfInBounds_toArray,List.set_cons_zero,List.set_cons_succ,i64_w]
            rfl
           refine pure_ (i:=15) (N:=some 44) (v:=?_) (a':=?_) #[true,true,true,true,true,true,true,true,true,true,true,true,true,true,true,true,false,false,false,false,false,false,false,false,false] rfl rfl (any_of HT_.out q4_) (fun _ _ _ h => h) (Or.inl ⟨by rfl,?_⟩) ?_ ?_
           rotate_left
           ·intro w'
            go_simp
            with_reducible rfl
           rotate_left
           ·simp only [Act.put,List.setIfInBounds_toArray,List.set_cons_zero,List.set_cons_succ,i64_w]
            rfl
           refine pure_ (i:=17) (N:=some 46) (v:=?_) (a':=?_) #[true,true,true,true,true,true,true,true,true,true,true,true,true,true,true,true,false,true,false,false,false,false,false,false,false] rfl rfl (any_of HT_.out q4_) (fun _ _ _ h => h) (Or.inl ⟨by rfl,?_⟩) ?_ ?_
           rotate_left
           ·intro w'
            go_simp
            with_reducible rfl
           rotate_left
           ·simp only [Act.put,List.setIfInBounds_toArray,List.set_cons_zero,List.set_cons_succ,i64_w]
            rfl
           refine pure_ (i:=18) (N:=some 47) (v:=?_) (a':=?_) #[true,true,true,true,true,true,true,true,true,true,true,true,true,true,true,true,false,true,true,false,false,false,false,false,false] rfl rfl (any_of HT_.out q4_) (fun _ _ _ h => h) (Or.inl ⟨by rfl,?_⟩) ?_ ?_
           rotate_left
           ·intro w'
            go_simp
            with_reducible rfl
           rotate_left
           ·simp only [Act.put,List.setIfInBounds_toArray,List.set_cons_zero,List.set_cons_succ,i64_w]
            rfl
           refine pure_ (i:=19) (N:=some 48) (v:=?_) (a':=?_) #[true,true,true,true,true,true,true,true,true,true,true,true,true,true,true,true,false,true,true,true,false,false,false,false,false] rfl rfl (any_of HT_.out q4_) (fun _ _ _ h => h) (Or.inl ⟨by rfl,?_⟩) ?_ ?_
           rotate_left
           ·intro w'
            go_simp
            with_reducible rfl
           rotate_left
           ·simp only [Act.put,List.setIfInBounds_toArray,List.set_cons_zero,List.set_cons_succ,i64_w]
            rfl
           refine pure_ (i:=20) (N:=some 49) (v:=?_) (a':=?_) #[true,true,true,true,true,true,true,true,true,true,true,true,true,true,true,true,false,true,true,true,true,false,false,false,false] rfl rfl (any_of HT_.out q4_) (fun _ _ _ h => h) (Or.inl ⟨by rfl,?_⟩) ?_ ?_
           rotate_left
           ·intro w'
            go_simp
            with_reducible rfl
           rotate_left
           ·simp only [Act.put,List.setIfInBounds_toArray,List.set_cons_zero,List.set_cons_succ,i64_w]
            rfl
           refine take_ (i:=16) (N:=some 45) (v:=?_) (a':=?_) #[true,true,true,true,true,true,true,true,true,true,true,true,true,true,true,true,true,true,true,true,true,false,false,false,false] rfl rfl (take_ofW HT_.out HW_.out q4_) (fun _ _ _ h => h) (Or.inl ⟨by rfl,?_⟩) hHeld ?_ ?_
           rotate_left
           ·rintro w' ⟨s0,s1,s2,s3,s4,s5,s6,s7,s8,s9,s10,s11,s12,s13,s14,s15,s16,s17⟩
            go_simp
            with_reducible rfl
           rotate_left
           ·simp only [Act.put,List.setIfInBounds_toArray,List.set_cons_zero,List.set_cons_succ,i64_w]
            rfl
           refine take_ (i:=21) (N:=some 50) (v:=?_) (a':=?_) #[true,true,true,true,true,true,true,true,true,true,true,true,true,true,true,true,true,true,true,true,true,true,false,false,false] rfl rfl (take_ofW HT_.out HW_.out q4_) (fun _ _ _ h => h) (Or.inl ⟨by rfl,?_⟩) hHeld ?_ ?_
           rotate_left
           ·rintro w' ⟨s0,s1,s2,s3,s4,s5,s6,s7,s8,s9,s10,s11,s12,s13,s14,s15,s16,s17⟩
            go_simp
            with_reducible rfl
           rotate_left
           ·simp only [Act.put,List.setIfInBounds_toArray,List.set_cons_zero,List.set_cons_succ,i64_w]
            rfl
           refine pure_ (i:=22) (N:=some 51) (v:=?_) (a':=?_) #[true,true,true,true,true,true,true,true,true,true,true,true,true,true,true,true,true,true,true,true,true,true,true,false,false] rfl rfl (any_of HT_.out q4_) (fun _ _ _ h => h) (Or.inl ⟨by rfl,?_⟩) ?_ ?_
           rotate_left
           ·intro w'
            go_simp
            with_reducible rfl
           rotate_left
           ·simp only [Act.put,List.setIfInBounds_toArray,List.set_cons_zero,List.set_cons_succ,i64_w]
            rfl
           refine pure_ (i:=23) (N:=some 52) (v:=?_) (a':=?_) #[true,true,true,true,true,true,true,true,true,true,true,true,true,true,true,true,true,true,true,true,true,true,true,true,false] rfl rfl (any_of HT_.out q4_) (fun _ _ _ h => h) (Or.inl ⟨by rfl,?_⟩) ?_ ?_
           rotate_left
           ·intro w'
            go_simp
            with_reducible rfl
           rotate_left
           ·simp only [Act.put,List.setIfInBounds_toArray,List.set_cons_zero,List.set_cons_succ,i64_w]
            rfl
           refine pure_ (i:=24) (N:=some 53) (v:=?_) (a':=?_) #[true,true,true,true,true,true,true,true,true,true,true,true,true,true,true,true,true,true,true,true,true,true,true,true,true] rfl rfl (any_of HT_.out q4_) (fun _ _ _ h => h) (Or.inl ⟨by rfl,?_⟩) ?_ ?_
           rotate_left
           ·intro w'
            go_simp
            with_reducible rfl
           rotate_left
           ·simp only [Act.put,List.setIfInBounds_toArray,List.set_cons_zero,List.set_cons_succ,i64_w]
            rfl
           refine done_ (done_of HT_.out q4_) ?_
           try go_wp2
           go_ret
           exact ⟨by first | rfl | (simp [] <;> rfl) | (simp only [← hji21];first | rfl | (simp [] <;> rfl)) | (simp [*] <;> rfl) | (simp [bne_nil_];done) | (simp [*,bne_nil_];done),by repeat (first | (with_reducible first | exact HB.out | apply below_alloc | apply pw_below_drewN | apply below_drew1) | exact HB.out)⟩
         ·rw [if_neg c23] at H
          exact absurd H q21_
        ·rw [if_neg c22] at H
         exact absurd H q21_
       ·rw [if_neg c20] at H
        have c20b0 : decide (0 < x7_1) = false:=decide_eq_false c20
        clear c20
        have H':=Aside0.mk H
        clear H
        obtain ⟨Ao33,co33,eo33⟩:=Kd.R_slice HO_6.out
        subst eo33
        try go_wp2
        replace HO_5:=Aside0.mk (Kd.R_drew HO_5.out)
        replace HO_6:=Aside0.mk (Kd.R_drew HO_6.out)
        replace HB:=Aside0.mk (below_drew1 HB.out)
        have p115 : 0 ≤ (x7_1 : Int):=of_decide_eq_true q1_
        have q115 : x7_1 < (t112.length : Int):=of_decide_eq_true q1_
        obtain ⟨ad115,e115,hx115_0,hx115_1,hx115_2,hx115_3,hx115_4,hx115_5⟩:=at_T41 (Kd.R_reads' HO_6.out).2.2 x7_1 p115 q115
        cases e115
        replace p115:=eq_true p115
        replace q115:=eq_true q115
        obtain ⟨Ao35,co35,eo35⟩:=Kd.R_slice HO_5.out
        (first | subst eo35 | (injection eo35 with f1_ f2_ f3_;have f4_:=f1_.symm;have f5_:=f3_.symm;clear f1_ f2_ f3_;subst f4_;subst f5_))
        refine start_ (n:=25) (S:=fun w' => w'.cell? (ad115.add ((x7_1).toNat * 6)) = some (.string ((rd_T41 t112 x7_1).f0)) ∧ w'.cell? ⟨(ad115.add ((x7_1).toNat * 6)).block,(ad115.add ((x7_1).toNat * 6)).off + 1,none⟩ = some (.int .i64 ((rd_T41 t112 x7_1).f1.f0)) ∧ w'.cell? ⟨(ad115.add ((x7_1).toNat * 6)).block,(ad115.add ((x7_1).toNat * 6)).off + 2,none⟩ = some (.int .i64 ((rd_T41 t112 x7_1).f1.f1)) ∧ w'.cell? ⟨(ad115.add ((x7_1).toNat * 6)).block,(ad115.add ((x7_1).toNat * 6)).off + 3,none⟩ = some (.int .i64 ((rd_T41 t112 x7_1).f1.f2)) ∧ w'.cell? ⟨(ad115.add ((x7_1).toNat * 6)).block,(ad115.add ((x7_1).toNat * 6)).off + 4,none⟩ = some (.string ((rd_T41 t112 x7_1).f1.f3)) ∧ w'.cell? ⟨(ad115.add ((x7_1).toNat * 6)).block,(ad115.add ((x7_1).toNat * 6)).off + 5,none⟩ = some (.string ((rd_T41 t112 x7_1).f1.f4))) (ds:=[]) #[false,false,false,false,false,false,false,false,false,false,false,false,false,false,false,false,false,false,false,false,false,false,false,false,false] q4_ rfl rfl ⟨hx115_0,hx115_1,hx115_2,hx115_3,hx115_4,hx115_5⟩ (fun hHeld => ?_);refine with_tabW Lw17_MvsLeast.tab8 Lw17_MvsLeast.bits8 (fun HT_ HW_ => ?_)
        generalize wr.drew = w34 at HO_5 HO_6 HB hx115_0 hx115_1 hx115_2 hx115_3 hx115_4 hx115_5 hHeld ⊢
        refine pure_ (i:=0) (N:=some 29) (v:=?_) (a':=?_) #[true,false,false,false,false,false,false,false,false,false,false,false,false,false,false,false,false,false,false,false,false,false,false,false,false] rfl rfl (any_of HT_.out q4_) (fun _ _ _ h => h) (Or.inl ⟨by rfl,?_⟩) ?_ ?_
        rotate_left
        ·intro w'
         go_simp
         with_reducible rfl
        rotate_left
        ·simp only [Act.put,List.setIfInBounds_toArray,List.set_cons_zero,List.set_cons_succ,i64_w]
         rfl
        refine pure_ (i:=1) (N:=some 30) (v:=?_) (a':=?_) #[true,true,false,false,false,false,false,false,false,false,false,false,false,false,false,false,false,false,false,false,false,false,false,false,false] rfl rfl (any_of HT_.out q4_) (fun _ _ _ h => h) (Or.inl ⟨by rfl,?_⟩) ?_ ?_
        rotate_left
        ·intro w'
         go_simp
         with_reducible rfl
        rotate_left
        ·simp only [Act.put,List.setIfInBounds_toArray,List.set_cons_zero,List.set_cons_succ,i64_w]
         rfl
        refine pure_ (i:=2) (N:=some 31) (v:=?_) (a':=?_) #[true,true,true,false,false,false,false,false,false,false,false,false,false,false,false,false,false,false,false,false,false,false,false,false,false] rfl rfl (any_of HT_.out q4_) (fun _ _ _ h => h) (Or.inl ⟨by rfl,?_⟩) ?_ ?_
        rotate_left
        ·intro w'
         go_simp
         with_reducible rfl
        rotate_left
        ·simp only [Act.put,List.setIfInBounds_toArray,List.set_cons_zero,List.set_cons_succ,i64_w]
         rfl
        refine pure_ (i:=3) (N:=some 32) (v:=?_) (a':=?_) #[true,true,true,true,false,false,false,false,false,false,false,false,false,false,false,false,false,false,false,false,false,false,false,false,false] rfl rfl (any_of HT_.out q4_) (fun _ _ _ h => h) (Or.inl ⟨by rfl,?_⟩) ?_ ?_
        rotate_left
        ·intro w'
         go_simp
         with_reducible rfl
        rotate_left
        ·simp only [Act.put,List.setIfInBounds_toArray,List.set_cons_zero,List.set_cons_succ,i64_w]
         rfl
        refine take_ (i:=4) (N:=some 33) (v:=?_) (a':=?_) #[true,true,true,true,true,false,false,false,false,false,false,false,false,false,false,false,false,false,false,false,false,false,false,false,false] rfl rfl (take_ofW HT_.out HW_.out q4_) (fun _ _ _ h => h) (Or.inl ⟨by rfl,?_⟩) hHeld ?_ ?_
        rotate_left
        ·rintro w' ⟨s0,s1,s2,s3,s4,s5⟩
         go_simp
         with_reducible rfl
        rotate_left
        ·simp only [Act.put,List.setIfInBounds_toArray,List.set_cons_zero,List.set_cons_succ,i64_w]
         rfl
        refine one_ (i:=5) (N:=some 34) #[true,true,true,true,true,true,false,false,false,false,false,false,false,false,false,false,false,false,false,false,false,false,false,false,false] rfl rfl (one_of HT_.out q4_) q33_ (fun K hK => ?_)
        refine goes_ Tryz.func33 q4_ rfl #[.slice Ao35 t106.length co35,.agg #[.string ((rd_T41 t112 x7_1).f0),.int .i64 ((rd_T41 t112 x7_1).f1.f0),.int .i64 ((rd_T41 t112 x7_1).f1.f1),.int .i64 ((rd_T41 t112 x7_1).f1.f2),.string ((rd_T41 t112 x7_1).f1.f3),.string ((rd_T41 t112 x7_1).f1.f4)]] q50_ rfl rfl q2_ ?_
        with_reducible refine (Rf17_In.calls k1 _ _ t106 ((rd_T41 t112 x7_1).f0) ((rd_T41 t112 x7_1).f1.f0) ((rd_T41 t112 x7_1).f1.f1) ((rd_T41 t112 x7_1).f1.f2) ((rd_T41 t112 x7_1).f1.f3) ((rd_T41 t112 x7_1).f1.f4) true _ ?side1 ?side2 A18.out).mono ?_
        (case side1 => repeat (first | exact (Kd.R_reads' HO_5.out).2.2 | (with_reducible refine Kd.C_alloc ?_ _) | (with_reducible refine Kd.C_drewN ?_ _) | (with_reducible refine Kd.C_drew ?_)))
        (case side2 => exact (Kd.R_reads' HO_5.out).2.1)
        rintro e w36 ⟨rfl,hb⟩
        have HS0_:=(hb.cell (World.block_lt_of_cell? _ _ (hHeld.1))).trans (hHeld.1)
        have HS1_:=(hb.cell (World.block_lt_of_cell? _ _ (hHeld.2.1))).trans (hHeld.2.1)
        have HS2_:=(hb.cell (World.block_lt_of_cell? _ _ (hHeld.2.2.1))).trans (hHeld.2.2.1)
        have HS3_:=(hb.cell (World.block_lt_of_cell? _ _ (hHeld.2.2.2.1))).trans (hHeld.2.2.2.1)
        have HS4_:=(hb.cell (World.block_lt_of_cell? _ _ (hHeld.2.2.2.2.1))).trans (hHeld.2.2.2.2.1)
        have HS5_:=(hb.cell (World.block_lt_of_cell? _ _ (hHeld.2.2.2.2.2))).trans (hHeld.2.2.2.2.2)
        refine ⟨_,rfl,?_⟩
        replace HO_5:=Aside0.mk (Kd.R_below q31_ hb)
        replace HO_6:=Aside0.mk (Kd.R_below q23_ hb)
        replace HB:=Aside0.mk (below_step bh_ hb)
        (try clear hb)
        (try clear hb2)
        (try clear hk)
        (try clear hi)
        refine hK.out _ _ ⟨HS0_,HS1_,HS2_,HS3_,HS4_,HS5_⟩ (fun hHeld => ?_)
        clear hK K
        refine norm_ (a':=?_) ?_ ?_
        rotate_left
        ·show Act.put _ (some 34) _ = _
         simp only [Act.put,List.setIfInBounds_toArray,List.set_cons_zero,List.set_cons_succ,i64_w]
         rfl
        refine pure_ (i:=6) (N:=some 35) (v:=?_) (a':=?_) #[true,true,true,true,true,true,true,false,false,false,false,false,false,false,false,false,false,false,false,false,false,false,false,false,false] rfl rfl (any_of HT_.out q4_) (fun _ _ _ h => h) (Or.inl ⟨by rfl,?_⟩) ?_ ?_
        rotate_left
        ·intro w'
         go_simp
         with_reducible rfl
        rotate_left
        ·simp only [Act.put,List.setIfInBounds_toArray,List.set_cons_zero,List.set_cons_succ,i64_w]
         rfl
        refine pure_ (i:=7) (N:=some 36) (v:=?_) (a':=?_) #[true,true,true,true,true,true,true,true,false,false,false,false,false,false,false,false,false,false,false,false,false,false,false,false,false] rfl rfl (any_of HT_.out q4_) (fun _ _ _ h => h) (Or.inl ⟨by rfl,?_⟩) ?_ ?_
        rotate_left
        ·intro w'
         go_simp
         with_reducible rfl
        rotate_left
        ·simp only [Act.put,List.setIfInBounds_toArray,List.set_cons_zero,List.set_cons_succ,i64_w]
         rfl
        refine pure_ (i:=8) (N:=some 37) (v:=?_) (a':=?_) #[true,true,true,true,true,true,true,true,true,false,false,false,false,false,false,false,false,false,false,false,false,false,false,false,false] rfl rfl (any_of HT_.out q4_) (fun _ _ _ h => h) (Or.inl ⟨by rfl,?_⟩) ?_ ?_
        rotate_left
        ·intro w'
         go_simp
         with_reducible rfl
        rotate_left
        ·simp only [Act.put,List.setIfInBounds_toArray,List.set_cons_zero,List.set_cons_succ,i64_w]
         rfl
        refine pure_ (i:=9) (N:=some 38) (v:=?_) (a':=?_) #[true,true,true,true,true,true,true,true,true,true,false,false,false,false,false,false,false,false,false,false,false,false,false,false,false] rfl rfl (any_of HT_.out q4_) (fun _ _ _ h => h) (Or.inl ⟨by rfl,?_⟩) ?_ ?_
        rotate_left
        ·intro w'
         go_simp
         with_reducible rfl
        rotate_left
        ·simp only [Act.put,List.setIfInBounds_toArray,List.set_cons_zero,List.set_cons_succ,i64_w]
         rfl
        refine pure_ (i:=10) (N:=some 39) (v:=?_) (a':=?_) #[true,true,true,true,true,true,true,true,true,true,true,false,false,false,false,false,false,false,false,false,false,false,false,false,false] rfl rfl (any_of HT_.out q4_) (fun _ _ _ h => h) (Or.inl ⟨by rfl,?_⟩) ?_ ?_
        rotate_left
        ·intro w'
         go_simp
         with_reducible rfl
        rotate_left
        ·simp only [Act.put,List.setIfInBounds_toArray,List.set_cons_zero,List.set_cons_succ,i64_w]
         rfl
        refine pure_ (i:=11) (N:=some 40) (v:=undef) (a':=?_) #[true,true,true,true,true,true,true,true,true,true,true,true,false,false,false,false,false,false,false,false,false,false,false,false,false] rfl rfl (any_of HT_.out q4_) (fun _ _ _ h => h) (Or.inr ⟨by rfl,rfl⟩) ?_ ?_
        rotate_left
        ·simp only [Act.put,List.setIfInBounds_toArray,List.set_cons_zero,List.set_cons_succ,i64_w]
         rfl
        refine pure_ (i:=12) (N:=some 41) (v:=undef) (a':=?_) #[true,true,true,true,true,true,true,true,true,true,true,true,true,false,false,false,false,false,false,false,false,false,false,false,false] rfl rfl (any_of HT_.out q4_) (fun _ _ _ h => h) (Or.inr ⟨by rfl,rfl⟩) ?_ ?_
        rotate_left
        ·simp only [Act.put,List.setIfInBounds_toArray,List.set_cons_zero,List.set_cons_succ,i64_w]
         rfl
        refine pure_ (i:=13) (N:=some 42) (v:=undef) (a':=?_) #[true,true,true,true,true,true,true,true,true,true,true,true,true,true,false,false,false,false,false,false,false,false,false,false,false] rfl rfl (any_of HT_.out q4_) (fun _ _ _ h => h) (Or.inr ⟨by rfl,rfl⟩) ?_ ?_
        rotate_left
        ·simp only [Act.put,List.setIfInBounds_toArray,List.set_cons_zero,List.set_cons_succ,i64_w]
         rfl
        refine pure_ (i:=14) (N:=some 43) (v:=undef) (a':=?_) #[true,true,true,true,true,true,true,true,true,true,true,true,true,true,true,false,false,false,false,false,false,false,false,false,false] rfl rfl (any_of HT_.out q4_) (fun _ _ _ h => h) (Or.inr ⟨by rfl,rfl⟩) ?_ ?_
        rotate_left
        ·simp only [Act.put,List.setIfInBounds_toArray,List.set_cons_zero,List.set_cons_succ,i64_w]
         rfl
        refine pure_ (i:=15) (N:=some 44) (v:=undef) (a':=?_) #[true,true,true,true,true,true,true,true,true,true,true,true,true,true,true,true,false,false,false,false,false,false,false,false,false] rfl rfl (any_of HT_.out q4_) (fun _ _ _ h => h) (Or.inr ⟨by rfl,rfl⟩) ?_ ?_
        rotate_left
        ·simp only [Act.put,List.setIfInBounds_toArray,List.set_cons_zero,List.set_cons_succ,i64_w]
         rfl
        refine pure_ (i:=16) (N:=some 45) (v:=undef) (a':=?_) #[true,true,true,true,true,true,true,true,true,true,true,true,true,true,true,true,true,false,false,false,false,false,false,false,false] rfl rfl (any_of HT_.out q4_) (fun _ _ _ h => h) (Or.inr ⟨by rfl,rfl⟩) ?_ ?_
        rotate_left
        ·simp only [Act.put,List.setIfInBounds_toArray,List.set_cons_zero,List.set_cons_succ,i64_w]
         rfl
        refine pure_ (i:=17) (N:=some 46) (v:=undef) (a':=?_) #[true,true,true,true,true,true,true,true,true,true,true,true,true,true,true,true,true,true,false,false,false,false,false,false,false] rfl rfl (any_of HT_.out q4_) (fun _ _ _ h => h) (Or.inr ⟨by rfl,rfl⟩) ?_ ?_
        rotate_left
        ·simp only [Act.put,List.setIfInBounds_toArray,List.set_cons_zero,List.set_cons_succ,i64_w]
         rfl
        refine pure_ (i:=18) (N:=some 47) (v:=undef) (a':=?_) #[true,true,true,true,true,true,true,true,true,true,true,true,true,true,true,true,true,true,true,false,false,false,false,false,false] rfl rfl (any_of HT_.out q4_) (fun _ _ _ h => h) (Or.inr ⟨by rfl,rfl⟩) ?_ ?_
        rotate_left
        ·simp only [Act.put,List.setIfInBounds_toArray,List.set_cons_zero,List.set_cons_succ,i64_w]
         rfl
        refine pure_ (i:=19) (N:=some 48) (v:=undef) (a':=?_) #[true,true,true,true,true,true,true,true,true,true,true,true,true,true,true,true,true,true,true,true,false,false,false,false,false] rfl rfl (any_of HT_.out q4_) (fun _ _ _ h => h) (Or.inr ⟨by rfl,rfl⟩) ?_ ?_
        rotate_left
        ·simp only [Act.put,List.setIfInBounds_toArray,List.set_cons_zero,List.set_cons_succ,i64_w]
         rfl
        refine pure_ (i:=20) (N:=some 49) (v:=undef) (a':=?_) #[true,true,true,true,true,true,true,true,true,true,true,true,true,true,true,true,true,true,true,true,true,false,false,false,false] rfl rfl (any_of HT_.out q4_) (fun _ _ _ h => h) (Or.inr ⟨by rfl,rfl⟩) ?_ ?_
        rotate_left
        ·simp only [Act.put,List.setIfInBounds_toArray,List.set_cons_zero,List.set_cons_succ,i64_w]
         rfl
        refine pure_ (i:=21) (N:=some 50) (v:=undef) (a':=?_) #[true,true,true,true,true,true,true,true,true,true,true,true,true,true,true,true,true,true,true,true,true,true,false,false,false] rfl rfl (any_of HT_.out q4_) (fun _ _ _ h => h) (Or.inr ⟨by rfl,rfl⟩) ?_ ?_
        rotate_left
        ·simp only [Act.put,List.setIfInBounds_toArray,List.set_cons_zero,List.set_cons_succ,i64_w]
         rfl
        refine pure_ (i:=22) (N:=some 51) (v:=undef) (a':=?_) #[true,true,true,true,true,true,true,true,true,true,true,true,true,true,true,true,true,true,true,true,true,true,true,false,false] rfl rfl (any_of HT_.out q4_) (fun _ _ _ h => h) (Or.inr ⟨by rfl,rfl⟩) ?_ ?_
        rotate_left
        ·simp only [Act.put,List.setIfInBounds_toArray,List.set_cons_zero,List.set_cons_succ,i64_w]
         rfl
        refine pure_ (i:=23) (N:=some 52) (v:=?_) (a':=?_) #[true,true,true,true,true,true,true,true,true,true,true,true,true,true,true,true,true,true,true,true,true,true,true,true,false] rfl rfl (any_of HT_.out q4_) (fun _ _ _ h => h) (Or.inl ⟨by rfl,?_⟩) ?_ ?_
        rotate_left
        ·intro w'
         go_simp
         with_reducible rfl
        rotate_left
        ·simp only [Act.put,List.setIfInBounds_toArray,List.set_cons_zero,List.set_cons_succ,i64_w]
         rfl
        refine pure_ (i:=24) (N:=some 53) (v:=?_) (a':=?_) #[true,true,true,true,true,true,true,true,true,true,true,true,true,true,true,true,true,true,true,true,true,true,true,true,true] rfl rfl (any_of HT_.out q4_) (fun _ _ _ h => h) (Or.inl ⟨by rfl,?_⟩) ?_ ?_
        rotate_left
        ·intro w'
         go_simp
         with_reducible rfl
        rotate_left
        ·simp only [Act.put,List.setIfInBounds_toArray,List.set_cons_zero,List.set_cons_succ,i64_w]
         rfl
        refine done_ (done_of HT_.out q4_) ?_
        try go_wp2
        go_roundg k1
        case measure => have:=HK1.out;omega
        case rel => exact ⟨(wrap64 (x7_1 + 1)),q3_,H',⟨by have:=HK1.out;omega⟩,⟨by (with_reducible repeat (first | apply Kd.R_alloc | apply Kd.R_drewN | apply Kd.R_drew));exact HO_5.out⟩,⟨by (with_reducible repeat (first | apply Kd.R_alloc | apply Kd.R_drewN | apply Kd.R_drew));exact HO_6.out⟩,⟨by repeat (first | (with_reducible first | exact HB.out | apply below_alloc | apply pw_below_drewN | apply below_drew1) | exact HB.out)⟩⟩
      ·replace c19:=Bool.eq_false_iff.mpr c19
       subst c19
       rw [if_neg (show ¬ (false = true) by decide)] at H
       exact absurd ((Option.some.inj H).trans HR_.out) q21_
     ·rw [if_neg c17] at H
      exact absurd H q21_
    ·rw [if_neg c16] at H
     have c16b0 : decide (x7_1 < (t112.length : Int)) = false:=decide_eq_false c16
     clear c16
     have H':=Aside0.mk H
     clear H
     obtain ⟨Ao41,co41,eo41⟩:=Kd.R_slice HO_6.out
     subst eo41
     go_wp2
     go_loopg [8] k1 (fun kq v8 w' => ∃ (x8_2 : Int),v8 = .int .i64 x8_2 ∧ Aside0 (Lw17_MvsLeast.l1 kq l0 t106 t112 x8_2 = some r) ∧ Aside0 (kq ≤ k1) ∧ Aside0 (Kd.R k41 41 w' w.heap.size (fun k_ => some k_ ≠ ((.slice Ao41 t112.length co41) : Value).ownBlock) v107 t106) ∧ Aside0 (Kd.R k41 41 w' w.heap.size (fun k_ => some k_ ≠ (v107 : Value).ownBlock) (.slice Ao41 t112.length co41) t112) ∧ Aside0 (Below w.heap.size w w'))
     case atStart => exact ⟨(0),q3_,H',⟨Nat.le_refl _⟩,⟨by (with_reducible repeat (first | apply Kd.R_alloc | apply Kd.R_drewN | apply Kd.R_drew));exact HO_5.out⟩,⟨by (with_reducible repeat (first | apply Kd.R_alloc | apply Kd.R_drewN | apply Kd.R_drew));exact HO_6.out⟩,⟨by repeat (first | (with_reducible first | exact HB.out | apply below_alloc | apply pw_below_drewN | apply below_drew1) | exact HB.out)⟩⟩
     case round =>
      clear H'
      try clear c1
      try clear p1
      try clear q1
      try clear hx1
      try clear c2
      try clear p2
      try clear c3
      try clear p6
      try clear p11
      try clear q11
      try clear hx11
      try clear c16
      try clear c16b0
      try clear c17
      try clear c19
      try clear c20
      try clear c20b0
      try clear c22
      try clear c23
      try clear c33
      try clear hx115_0
      try clear hx115_1
      try clear hx115_2
      try clear hx115_3
      try clear hx115_4
      try clear hx115_5
      try clear p115
      try clear q115
      obtain ⟨x8_2,rfl,HA,HK2,HO_5,HO_6,HB⟩:=hrel
      cases gk with
      | zero => exact absurd HA.out (by simp [Lw17_MvsLeast.l1])
      | succ k2 =>
       have H:=HA.out
       clear HA
       simp only [Lw17_MvsLeast.l1] at H
       by_cases c42 : x8_2 < (t106.length : Int)
       ·rw [if_pos c42] at H
        have c42b0 : decide (x8_2 < (t106.length : Int)) = true:=decide_eq_true c42
        clear c42
        by_cases c43 : 0 ≤ x8_2
        ·rw [if_pos c43] at H
         have c43b0 : decide (0 ≤ x8_2) = true:=decide_eq_true c43
         clear c43
         obtain ⟨t120,A440,H⟩:=Option.bind_eq_some_iff.mp H
         have A44:=Aside0.mk A440
         clear A440
         by_cases c45 : t120 = true
         ·subst c45
          rw [if_pos rfl] at H
          have H':=Aside0.mk H
          clear H
          obtain ⟨Ao46,co46,eo46⟩:=Kd.R_slice HO_5.out
          subst eo46
          have p119 : 0 ≤ (x8_2 : Int):=of_decide_eq_true q1_
          have q119 : x8_2 < (t106.length : Int):=of_decide_eq_true q1_
          obtain ⟨ad119,e119,hx119_0,hx119_1,hx119_2,hx119_3,hx119_4,hx119_5⟩:=at_T41 (Kd.R_reads' HO_5.out).2.2 x8_2 p119 q119
          cases e119
          replace p119:=eq_true p119
          replace q119:=eq_true q119
          go_wp2_with (first | ((with_reducible refine gate_callee (f:=34) rfl ?_);refine goesL_ (some 65) rfl rfl Tryz.func34 q4_ rfl #[.slice Ao41 t112.length co41,.agg #[.string ((rd_T41 t106 x8_2).f0),.int .i64 ((rd_T41 t106 x8_2).f1.f0),.int .i64 ((rd_T41 t106 x8_2).f1.f1),.int .i64 ((rd_T41 t106 x8_2).f1.f2),.string ((rd_T41 t106 x8_2).f1.f3),.string ((rd_T41 t106 x8_2).f1.f4)]] rfl q2_ ?_;(with_reducible refine (Lw17_covers.calls k2 _ _ t112 ((rd_T41 t106 x8_2).f0) ((rd_T41 t106 x8_2).f1.f0) ((rd_T41 t106 x8_2).f1.f1) ((rd_T41 t106 x8_2).f1.f2) ((rd_T41 t106 x8_2).f1.f3) ((rd_T41 t106 x8_2).f1.f4) true _ ?side1 ?side2 A44.out).mono ?_);(case side1 => repeat (first | exact (Kd.R_reads' HO_6.out).2.2 | (with_reducible refine Kd.C_alloc ?_ _) | (with_reducible refine Kd.C_drewN ?_ _) | (with_reducible refine Kd.C_drew ?_)));(case side2 => exact (Kd.R_reads' HO_6.out).2.1);rintro e w47 ⟨rfl,hb⟩;refine ⟨_,rfl,?_⟩;replace HO_5:=Aside0.mk (Kd.R_below q31_ hb);replace HO_6:=Aside0.mk (Kd.R_below q23_ hb);replace HB:=Aside0.mk (below_step bh_ hb);(try clear hb);(try clear hb2);(try clear hk);(try clear hi)))
          go_roundg k2
          case measure => have:=HK1.out;have:=HK2.out;omega
          case rel => exact ⟨(wrap64 (x8_2 + 1)),q3_,H',⟨by have:=HK1.out;have:=HK2.out;omega⟩,⟨by (with_reducible repeat (first | apply Kd.R_alloc | apply Kd.R_drewN | apply Kd.R_drew));exact HO_5.out⟩,⟨by (with_reducible repeat (first | apply Kd.R_alloc | apply Kd.R_drewN | apply Kd.R_drew));exact HO_6.out⟩,⟨by repeat (first | (with_reducible first | exact HB.out | apply below_alloc | apply pw_below_drewN | apply below_drew1) | exact HB.out)⟩⟩
         ·replace c45:=Bool.eq_false_iff.mpr c45
          subst c45
          rw [if_neg (show ¬ (false = true) by decide)] at H
          exact absurd ((Option.some.inj H).trans HR_.out) q21_
        ·rw [if_neg c43] at H
         exact absurd H q21_
       ·rw [if_neg c42] at H
        have c42b0 : decide (x8_2 < (t106.length : Int)) = false:=decide_eq_false c42
        clear c42
        have H':=Aside0.mk H
        clear H
        obtain ⟨Ao50,co50,eo50⟩:=Kd.R_slice HO_5.out
        subst eo50
        go_wp2
        go_loopg [9] k2 (fun kq v9 w' => ∃ (x9_3 : Int),v9 = .int .i64 x9_3 ∧ Aside0 (Lw17_MvsLeast.l2 kq l0 t112 x9_3 = some r) ∧ Aside0 (kq ≤ k2) ∧ Aside0 (Kd.R k41 41 w' w.heap.size (fun _ => True) (.slice Ao41 t112.length co41) t112) ∧ Aside0 (Below w.heap.size w w'))
        case atStart => exact ⟨(0),q3_,H',⟨Nat.le_refl _⟩,⟨by (with_reducible repeat (first | apply Kd.R_alloc | apply Kd.R_drewN | apply Kd.R_drew));exact Kd.R_mono HO_6.out (fun _ hk => trivial)⟩,⟨by repeat (first | (with_reducible first | exact HB.out | apply below_alloc | apply pw_below_drewN | apply below_drew1) | exact HB.out)⟩⟩
        case round =>
         clear H'
         try clear c1
         try clear p1
         try clear q1
         try clear hx1
         try clear c2
         try clear p2
         try clear c3
         try clear c4
         try clear p6
         try clear p11
         try clear q11
         try clear hx11
         try clear c16
         try clear c16b0
         try clear c17
         try clear c19
         try clear c20
         try clear c20b0
         try clear c22
         try clear c23
         try clear c33
         try clear c34
         try clear c42
         try clear c42b0
         try clear c43
         try clear c43b0
         try clear c45
         try clear hx115_0
         try clear hx115_1
         try clear hx115_2
         try clear hx115_3
         try clear hx115_4
         try clear hx115_5
         try clear hx119_0
         try clear hx119_1
         try clear hx119_2
         try clear hx119_3
         try clear hx119_4
         try clear hx119_5
         try clear p1
         try clear p11
         try clear p115
         try clear p119
         try clear p2
         try clear p6
         try clear q1
         try clear q11
         try clear q115
         try clear q119
         obtain ⟨x9_3,rfl,HA,HK3,HO_6,HB⟩:=hrel
         cases gk with
         | zero => exact absurd HA.out (by simp [Lw17_MvsLeast.l2])
         | succ k3 =>
          have H:=HA.out
          clear HA
          simp only [Lw17_MvsLeast.l2] at H
          by_cases c51 : x9_3 < (l0.length : Int)
          ·rw [if_pos c51] at H
           have c51b0 : decide (x9_3 < (l0.length : Int)) = true:=decide_eq_true c51
           clear c51
           by_cases c52 : 0 ≤ x9_3
           ·rw [if_pos c52] at H
            have c52b0 : decide (0 ≤ x9_3) = true:=decide_eq_true c52
            clear c52
            obtain ⟨t123,A530,H⟩:=Option.bind_eq_some_iff.mp H
            have A53:=Aside0.mk A530
            clear A530
            by_cases c54 : t123 = true
            ·subst c54
             rw [if_pos rfl] at H
             obtain ⟨t125,A550,H⟩:=Option.bind_eq_some_iff.mp H
             have A55:=Aside0.mk A550
             clear A550
             by_cases c56 : t125 = true
             ·subst c56
              rw [if_pos rfl] at H
              have H':=Aside0.mk H
              clear H
              have p122 : 0 ≤ (x9_3 : Int):=of_decide_eq_true q1_
              have q122 : x9_3 < (l0.length : Int):=of_decide_eq_true q1_
              obtain ⟨ad122,e122,hx122_0,hx122_1,hx122_2,hx122_3,hx122_4,hx122_5⟩:=at_T41 HR0.out x9_3 p122 q122
              cases e122
              replace hx122_0:=(HB.out.cell (World.block_lt_of_cell? w _ hx122_0)).trans hx122_0
              replace hx122_1:=(HB.out.cell (World.block_lt_of_cell? w _ hx122_1)).trans hx122_1
              replace hx122_2:=(HB.out.cell (World.block_lt_of_cell? w _ hx122_2)).trans hx122_2
              replace hx122_3:=(HB.out.cell (World.block_lt_of_cell? w _ hx122_3)).trans hx122_3
              replace hx122_4:=(HB.out.cell (World.block_lt_of_cell? w _ hx122_4)).trans hx122_4
              replace hx122_5:=(HB.out.cell (World.block_lt_of_cell? w _ hx122_5)).trans hx122_5
              replace p122:=eq_true p122
              replace q122:=eq_true q122
              go_wp2_with (first | ((with_reducible refine gate_callee (f:=35) rfl ?_);refine goesL_ (some 77) rfl rfl Tryz.func35 q4_ rfl #[.agg #[.string ((rd_T41 l0 x9_3).f0),.int .i64 ((rd_T41 l0 x9_3).f1.f0),.int .i64 ((rd_T41 l0 x9_3).f1.f1),.int .i64 ((rd_T41 l0 x9_3).f1.f2),.string ((rd_T41 l0 x9_3).f1.f3),.string ((rd_T41 l0 x9_3).f1.f4)]] rfl q2_ ?_;(with_reducible refine (Rf17_May.calls k3 ((rd_T41 l0 x9_3).f0) ((rd_T41 l0 x9_3).f1.f0) ((rd_T41 l0 x9_3).f1.f1) ((rd_T41 l0 x9_3).f1.f2) ((rd_T41 l0 x9_3).f1.f3) ((rd_T41 l0 x9_3).f1.f4) true _ A53.out).mono ?_);rintro e w57 ⟨rfl,hb⟩;refine ⟨_,rfl,?_⟩;replace HO_6:=Aside0.mk (Kd.R_below q23_ hb);replace HB:=Aside0.mk (below_step bh_ hb);(try clear hb);(try clear hb2);(try clear hk);(try clear hi);have p124 : 0 ≤ (x9_3 : Int):=of_decide_eq_true q1_;have q124 : x9_3 < (l0.length : Int):=of_decide_eq_true q1_;obtain ⟨ad124,e124,hx124_0,hx124_1,hx124_2,hx124_3,hx124_4,hx124_5⟩:=at_T41 HR0.out x9_3 p124 q124;obtain rfl : ad122 = ad124:=(by injection e124);replace hx124_0:=(HB.out.cell (World.block_lt_of_cell? w _ hx124_0)).trans hx124_0;replace hx124_1:=(HB.out.cell (World.block_lt_of_cell? w _ hx124_1)).trans hx124_1;replace hx124_2:=(HB.out.cell (World.block_lt_of_cell? w _ hx124_2)).trans hx124_2;replace hx124_3:=(HB.out.cell (World.block_lt_of_cell? w _ hx124_3)).trans hx124_3;replace hx124_4:=(HB.out.cell (World.block_lt_of_cell? w _ hx124_4)).trans hx124_4;replace hx124_5:=(HB.out.cell (World.block_lt_of_cell? w _ hx124_5)).trans hx124_5;replace p124:=eq_true p124;replace q124:=eq_true q124) | (go_at_call 34;(with_reducible refine (Lw17_covers.calls k3 _ _ t112 ((rd_T41 l0 x9_3).f0) ((rd_T41 l0 x9_3).f1.f0) ((rd_T41 l0 x9_3).f1.f1) ((rd_T41 l0 x9_3).f1.f2) ((rd_T41 l0 x9_3).f1.f3) ((rd_T41 l0 x9_3).f1.f4) true _ ?side1 ?side2 A55.out).mono ?_);(case side1 => repeat (first | exact (Kd.R_reads' HO_6.out).2.2 | (with_reducible refine Kd.C_alloc ?_ _) | (with_reducible refine Kd.C_drewN ?_ _) | (with_reducible refine Kd.C_drew ?_)));(case side2 => exact (Kd.R_reads' HO_6.out).2.1);rintro e w58 ⟨rfl,hb⟩;replace HO_6:=Aside0.mk (Kd.R_below q23_ hb);replace HB:=Aside0.mk (below_step bh_ hb);(try clear hb);(try clear hb2);(try clear hk);(try clear hi)))
              go_roundg k3
              case measure => have:=HK1.out;have:=HK2.out;have:=HK3.out;omega
              case rel => exact ⟨(wrap64 (x9_3 + 1)),q3_,H',⟨by have:=HK1.out;have:=HK2.out;have:=HK3.out;omega⟩,⟨by (with_reducible repeat (first | apply Kd.R_alloc | apply Kd.R_drewN | apply Kd.R_drew));exact HO_6.out⟩,⟨by repeat (first | (with_reducible first | exact HB.out | apply below_alloc | apply pw_below_drewN | apply below_drew1) | exact HB.out)⟩⟩
             ·replace c56:=Bool.eq_false_iff.mpr c56
              subst c56
              rw [if_neg (show ¬ (false = true) by decide)] at H
              exact absurd ((Option.some.inj H).trans HR_.out) q21_
            ·replace c54:=Bool.eq_false_iff.mpr c54
             subst c54
             rw [if_neg (show ¬ (false = true) by decide)] at H
             have H':=Aside0.mk H
             clear H
             have p122 : 0 ≤ (x9_3 : Int):=of_decide_eq_true q1_
             have q122 : x9_3 < (l0.length : Int):=of_decide_eq_true q1_
             obtain ⟨ad122,e122,hx122_0,hx122_1,hx122_2,hx122_3,hx122_4,hx122_5⟩:=at_T41 HR0.out x9_3 p122 q122
             cases e122
             replace hx122_0:=(HB.out.cell (World.block_lt_of_cell? w _ hx122_0)).trans hx122_0
             replace hx122_1:=(HB.out.cell (World.block_lt_of_cell? w _ hx122_1)).trans hx122_1
             replace hx122_2:=(HB.out.cell (World.block_lt_of_cell? w _ hx122_2)).trans hx122_2
             replace hx122_3:=(HB.out.cell (World.block_lt_of_cell? w _ hx122_3)).trans hx122_3
             replace hx122_4:=(HB.out.cell (World.block_lt_of_cell? w _ hx122_4)).trans hx122_4
             replace hx122_5:=(HB.out.cell (World.block_lt_of_cell? w _ hx122_5)).trans hx122_5
             replace p122:=eq_true p122
             replace q122:=eq_true q122
             go_wp2_with (first | ((with_reducible refine gate_callee (f:=35) rfl ?_);refine goesL_ (some 77) rfl rfl Tryz.func35 q4_ rfl #[.agg #[.string ((rd_T41 l0 x9_3).f0),.int .i64 ((rd_T41 l0 x9_3).f1.f0),.int .i64 ((rd_T41 l0 x9_3).f1.f1),.int .i64 ((rd_T41 l0 x9_3).f1.f2),.string ((rd_T41 l0 x9_3).f1.f3),.string ((rd_T41 l0 x9_3).f1.f4)]] rfl q2_ ?_;(with_reducible refine (Rf17_May.calls k3 ((rd_T41 l0 x9_3).f0) ((rd_T41 l0 x9_3).f1.f0) ((rd_T41 l0 x9_3).f1.f1) ((rd_T41 l0 x9_3).f1.f2) ((rd_T41 l0 x9_3).f1.f3) ((rd_T41 l0 x9_3).f1.f4) false _ A53.out).mono ?_);rintro e w61 ⟨rfl,hb⟩;refine ⟨_,rfl,?_⟩;replace HO_6:=Aside0.mk (Kd.R_below q23_ hb);replace HB:=Aside0.mk (below_step bh_ hb);(try clear hb);(try clear hb2);(try clear hk);(try clear hi)))
             go_roundg k3
             case measure => have:=HK1.out;have:=HK2.out;have:=HK3.out;omega
             case rel => exact ⟨(wrap64 (x9_3 + 1)),q3_,H',⟨by have:=HK1.out;have:=HK2.out;have:=HK3.out;omega⟩,⟨by (with_reducible repeat (first | apply Kd.R_alloc | apply Kd.R_drewN | apply Kd.R_drew));exact HO_6.out⟩,⟨by repeat (first | (with_reducible first | exact HB.out | apply below_alloc | apply pw_below_drewN | apply below_drew1) | exact HB.out)⟩⟩
           ·rw [if_neg c52] at H
            exact absurd H q21_
          ·rw [if_neg c51] at H
           have c51b0 : decide (x9_3 < (l0.length : Int)) = false:=decide_eq_false c51
           clear c51
           obtain ⟨t121,A620,H⟩:=Option.bind_eq_some_iff.mp H
           have A62:=Aside0.mk A620
           clear A620
           obtain rfl:=Option.some.inj H
           go_wp2_with (first | ((with_reducible refine gate_callee (f:=22) rfl ?_);refine goesL_ (some 87) rfl rfl Tryz.func22 q4_ rfl #[] rfl q2_ ?_;(with_reducible refine (Lw17_live.calls k3  t121 _ A62.out HR_.out ?sideG).mono ?_);(case sideG => first | exact HG.out | exact Env.below HG.out bh_);rintro e w63 ⟨rfl,hb⟩;refine ⟨_,rfl,?_⟩;replace HO_6:=Aside0.mk (Kd.R_below q23_ hb);replace HB:=Aside0.mk (below_step bh_ hb);(try clear hb);(try clear hb2);(try clear hk);(try clear hi)))
           go_ret
           exact ⟨by first | rfl | (simp [] <;> rfl) | (simp [*] <;> rfl) | (simp [bne_nil_];done) | (simp [*,bne_nil_];done),by repeat (first | (with_reducible first | exact HB.out | apply below_alloc | apply pw_below_drewN | apply below_drew1) | exact HB.out)⟩
 ·replace c4:=Bool.eq_false_iff.mpr c4
  subst c4
  rw [if_neg (show ¬ (false = true) by decide)] at H
  obtain ⟨t102,A640,H⟩:=Option.bind_eq_some_iff.mp H
  have A64:=Aside0.mk A640
  clear A640
  obtain rfl:=Option.some.inj H
  go_enter Tryz.func5,Tryz.ntmps5
  go_wp2_with (first | ((with_reducible refine gate_callee (f:=21) rfl ?_);refine goesL_ (some 12) rfl rfl Tryz.func21 q4_ rfl #[.slice A0 l0.length c0,.slice A1 l1.length c1] rfl q2_ ?_;(with_reducible refine (Rf17_Small.calls k _ _ l0 _ _ l1 false _ ?side1 ?side2 ?side3 ?side4 A3.out).mono ?_);(case side1 => repeat (first | exact HR0.out | (with_reducible refine Kd.C_alloc ?_ _) | (with_reducible refine Kd.C_drewN ?_ _) | (with_reducible refine Kd.C_drew ?_)));(case side2 => exact HC0.out);(case side3 => repeat (first | exact HR1.out | (with_reducible refine Kd.C_alloc ?_ _) | (with_reducible refine Kd.C_drewN ?_ _) | (with_reducible refine Kd.C_drew ?_)));(case side4 => exact HC1.out);rintro e w65 ⟨rfl,hb⟩;refine ⟨_,rfl,?_⟩;replace HB:=Aside0.mk (below_step bh_ hb);(try clear hb);(try clear hb2);(try clear hk);(try clear hi)) | ((with_reducible refine gate_callee (f:=22) rfl ?_);refine goesL_ (some 14) rfl rfl Tryz.func22 q4_ rfl #[] rfl q2_ ?_;(with_reducible refine (Lw17_live.calls k  t102 _ A64.out HR_.out ?sideG).mono ?_);(case sideG => first | exact HG.out | exact Env.below HG.out bh_);rintro e w66 ⟨rfl,hb⟩;refine ⟨_,rfl,?_⟩;replace HB:=Aside0.mk (below_step bh_ hb);(try clear hb);(try clear hb2);(try clear hk);(try clear hi)))
  go_ret
  exact ⟨by first | rfl | (simp [] <;> rfl) | (simp [*] <;> rfl) | (simp [bne_nil_];done) | (simp [*,bne_nil_];done),by repeat (first | (with_reducible first | exact HB.out | apply below_alloc | apply pw_below_drewN | apply below_drew1) | exact HB.out)⟩
end Go.Proofs.YtennhpoemdaghaaGreatDoor.P
end
section
namespace Go.Proofs.YtennhpoemdaghaaGreatDoor.P
open Go Go.RowKit Go.Proofs.YtennhpoemdaghaaGreatDoorW.PrintWords
theorem least_f (root : List Req) (l : List RNode) (hr0 : root.length ≤ 9223372036854775807) (hl0 : l.length ≤ 9223372036854775807) (hM : ∀ n ∈ l,n.f1.length ≤ 9223372036854775807) :
  ∃ K,∀ k,K ≤ k → Lw17_MvsLeast.f k root l = some true:=by
 obtain ⟨K,hK⟩:=small_f root l hr0 hl0 hM
 refine ⟨K + 40000,fun k hk => ?_⟩
 have hlive : ∀ k,200 ≤ k → ((Lw17_live.f k).bind fun t => some t) = some true:=fun k hk => by rw [live_f k hk];rfl
 unfold Lw17_MvsLeast.f
 rw [hK k q5_,Option.bind_some]
 cases hs : smallB root l with
 | false => rw [if_neg q33_,hlive k q5_]
 | true =>
  have hr:=small_root hs
  have hf:=small_few hs
  have hfl:=hf.1
  have hU:=univ_le hf root
  have hU5 : (univ root (l.map ownN)).length ≤ 500000:=by omega
  have h1:=reach_len hf (root:=root) q5_
  have h2:=list_len hf (root:=root) q5_
  obtain ⟨hsp1,hsp2⟩:=listL_spec hU5
  have hstrict:=listL_strict root (l.map ownN)
  rw [if_pos rfl,own_f l q5_ k q5_,Option.bind_some,reached_eq root _ hU5,Option.bind_some,Option.bind_some,list_eq root _ hU5,Option.bind_some]
  have hc2 : ∀ k,10000 ≤ k → Lw17_MvsLeast.l2 k root (listL root (l.map ownN)) 0 = some true:=fun k hk => by
   refine loop_all (fun k i => Lw17_MvsLeast.l2 k root (listL root (l.map ownN)) i) root.length 8000 (some true) q5_ (fun k i hi hk => ?_) (fun k hk => ?_) k q5_
   ·show Lw17_MvsLeast.l2 (k + 1) root (listL root (l.map ownN)) (i : Int) = _
    rw [Lw17_MvsLeast.l2,if_pos q5_,if_pos q5_,rd_at root i hi,refMay_eq root[i] k q5_,Option.bind_some]
    cases hm : mayB root[i] with
    | false => rw [if_neg q33_]
    | true =>
     have hcov : coversB (listL root (l.map ownN)) root[i] = true:=(covers_iff hstrict).2 (hsp2 _ (.root (List.getElem_mem hi) hm))
     rw [if_pos rfl,covers_f _ root[i] q5_ k q5_,Option.bind_some,hcov,if_pos rfl]
   ·show Lw17_MvsLeast.l2 (k + 1) root (listL root (l.map ownN)) (root.length : Int) = _
    rw [Lw17_MvsLeast.l2,if_neg q5_,hlive k q5_]
  have hc1 : ∀ k,20000 ≤ k → Lw17_MvsLeast.l1 k root (reachL root (l.map ownN)) (listL root (l.map ownN)) 0 = some true:=fun k hk => by
   refine loop_all (fun k i => Lw17_MvsLeast.l1 k root (reachL root (l.map ownN)) (listL root (l.map ownN)) i) (reachL root (l.map ownN)).length 12000 (some true) q5_ (fun k i hi hk => ?_) (fun k hk => ?_) k q5_
   ·show Lw17_MvsLeast.l1 (k + 1) root (reachL root (l.map ownN)) (listL root (l.map ownN)) (i : Int) = _
    have hcov : coversB (listL root (l.map ownN)) (reachL root (l.map ownN))[i] = true:=(covers_iff hstrict).2 (hsp2 _ ((mem_reachL hU5).1 (List.getElem_mem hi)))
    rw [Lw17_MvsLeast.l1,if_pos q5_,if_pos q5_,rd_at _ i hi,covers_f _ _ q5_ k q5_,Option.bind_some,hcov,if_pos rfl]
   ·show Lw17_MvsLeast.l1 (k + 1) root (reachL root (l.map ownN)) (listL root (l.map ownN)) ((reachL root (l.map ownN)).length : Int) = _
    rw [Lw17_MvsLeast.l1,if_neg q5_,hc2 k q5_]
  refine loop_all (fun k i => Lw17_MvsLeast.l0 k root (reachL root (l.map ownN)) (listL root (l.map ownN)) i) (listL root (l.map ownN)).length 30000 (some true) q5_ (fun k i hi hk => ?_) (fun k hk => ?_) k q5_
  ·show Lw17_MvsLeast.l0 (k + 1) root (reachL root (l.map ownN)) (listL root (l.map ownN)) (i : Int) = _
   have hin : memR (reachL root (l.map ownN)) (listL root (l.map ownN))[i] = true:=memR_iff.2 ((mem_reachL hU5).2 (hsp1 _ (List.getElem_mem hi)).1)
   rw [Lw17_MvsLeast.l0,if_pos q5_,if_pos q5_,rd_at _ i hi,in_f _ _ q5_ k q5_,Option.bind_some,hin,if_pos rfl]
   by_cases h0 : 0 < i
   ·have hw : wrap64 ((i : Int) - 1) = ((i - 1 : Nat) : Int):=by unfold wrap64;omega
    have hlt:=List.pairwise_iff_getElem.1 hstrict (i - 1) i q5_ hi q5_
    rw [if_pos q5_,hw,if_pos q5_,if_pos q5_,rd_at _ (i - 1) q5_,Proofs.bytesLess_eq,toList_eq,toList_eq,if_pos (by simpa using hlt)]
   ·rw [if_neg q5_]
  ·show Lw17_MvsLeast.l0 (k + 1) root (reachL root (l.map ownN)) (listL root (l.map ownN)) ((listL root (l.map ownN)).length : Int) = _
   rw [Lw17_MvsLeast.l0,if_neg q5_,hc1 k q5_]
end Go.Proofs.YtennhpoemdaghaaGreatDoor.P
end
section
namespace Go.Proofs.YtennhpoemdaghaaGreatDoor.P
open Go Go.RowKit
set_option maxRecDepth 100000 in
theorem tab_of_laid {w : World} (h : laidMetH Tryz.prog Go.Proofs.YtennhpoemdaghaaGreatDoor.Rows.mvsAloneRow.laid w) : Lib.TabIs Tryz.prog w "internal/strconv.uint64pow10" .u64 Lib.pow10Tab:=by
 rw [MakeChecks.laidMetH_plain _ _ _ q4_] at h
 have h2:=h.filter (fun x => x.1 == "internal/strconv.uint64pow10")
 have e : (Go.Proofs.YtennhpoemdaghaaGreatDoor.Rows.mvsAloneRow.laid.filter fun x => x.1 == "internal/strconv.uint64pow10") = [("internal/strconv.uint64pow10", Lib.tabData .u64 Lib.pow10Tab)]:=by kernel_rfl
 rw [e] at h2
 exact Lib.tabIs_of_head (g:=5) (t:=225) (e:=157) (n:=20) q4_ q4_ q4_ q4_ q4_ q4_ h2
end Go.Proofs.YtennhpoemdaghaaGreatDoor.P
end
