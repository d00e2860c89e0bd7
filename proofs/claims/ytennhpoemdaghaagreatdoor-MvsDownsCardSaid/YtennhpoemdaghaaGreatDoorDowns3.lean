/- A part of the same claim: what its first file says. -/
import Derived.Test.YtennhpoemdaghaaGreatDoorDowns2
set_option linter.unusedVariables false
set_option linter.unusedSimpArgs false
section
namespace Go.Proofs.YtennhpoemdaghaaGreatDoor.P
open Go.RowKit Go.Proofs.YtennhpoemdaghaaGreatDoorW.PrintWords Go.Proofs.YtennhpoemdaghaaGreatDoorW.PrintLast Go.Proofs.YtennhpoemdaghaaGreatDoorW.PrintMore
def Rf08_Fits.f (k : Nat) (a0 : ByteArray) (a1_0 : Int) (a1_1 : Int) (a1_2 : Int) (a1_3 : ByteArray) (a1_4 : ByteArray) : Option (Bool):=(Rf08_Major.f k a0).bind fun bt102 => (if bt102.2.2 = true then ((Rf07_Check.f k a1_0 a1_1 a1_2 a1_3 a1_4).bind fun t105 => (if t105 = true then (if a1_0 = bt102.2.1 then (some true) else (if bt102.2.1 = 0 then (some (a1_0 == 1)) else (some false))) else (some false))) else (some false))
set_option maxHeartbeats 8000000 in
set_option maxRecDepth 100000 in
theorem Rf08_Fits.calls (k : Nat) (a0 : ByteArray) (a1_0 : Int) (a1_1 : Int) (a1_2 : Int) (a1_3 : ByteArray) (a1_4 : ByteArray) (r : Bool) (w : World) (h : Rf08_Fits.f k a0 a1_0 a1_1 a1_2 a1_3 a1_4 = some r) :
  Calls Tryz.prog 66 #[.string a0,.agg #[.int .i64 a1_0,.int .i64 a1_1,.int .i64 a1_2,.string a1_3,.string a1_4]] w fun e w' => e = .returned (.bool r) ∧ Below w.heap.size w w':=by
 have hu24:=Tryz.underlying24
 have HB:=Aside0.mk (Below.refl w.heap.size w)
 have H : ((Rf08_Major.f k a0).bind fun bt102 => (if bt102.2.2 = true then ((Rf07_Check.f k a1_0 a1_1 a1_2 a1_3 a1_4).bind fun t105 => (if t105 = true then (if a1_0 = bt102.2.1 then (some true) else (if bt102.2.1 = 0 then (some (a1_0 == 1)) else (some false))) else (some false))) else (some false))) = some r:=h
 clear h
 obtain ⟨⟨t102,t103,t104⟩,A30,H⟩:=Option.bind_eq_some_iff.mp H
 dsimp only at H
 have A3:=Aside0.mk A30
 clear A30
 by_cases c4 : t104 = true
 ·subst c4
  rw [if_pos rfl] at H
  obtain ⟨t105,A50,H⟩:=Option.bind_eq_some_iff.mp H
  have A5:=Aside0.mk A50
  clear A50
  by_cases c6 : t105 = true
  ·subst c6
   rw [if_pos rfl] at H
   by_cases c7 : a1_0 = t103
   ·rw [if_pos c7] at H
    have c7b0:=beq_iff_eq.mpr c7
    have c7b1:=bne_eq_false_iff_eq.mpr c7
    clear c7
    obtain rfl:=Option.some.inj H
    go_enter Tryz.func66,Tryz.ntmps66
    go_wp2_with (first | ((with_reducible refine gate_dst (N:=3) rfl ?_);refine bx_ 3 24 #[.int .i64 a1_0,.int .i64 a1_1,.int .i64 a1_2,.string a1_3,.string a1_4] ?_;intro gb101 hg w8 hbox hb;have BK101:=Aside0.mk (hbox);have GW101:=Aside0.mk ((q17_ : w.heap.size ≤ gb101));have GE101:=Aside0.mk ((q17_ : w.heap.size ≤ gb101));replace HB:=Aside0.mk (below_step bh_ hb);clear hb hbox hg) | ((with_reducible refine gate_callee (f:=94) rfl ?_);refine gl_ 10 Tryz.func94 #[.string a0] ?_;(with_reducible refine (Rf08_Major.calls k a0 t102 t103 true _ A3.out).mono ?_);rintro e w9 ⟨rfl,hb⟩;refine ⟨_,rfl,?_⟩;replace BK101:=Aside0.mk (blk_below bk101_ hb);replace HB:=Aside0.mk (below_step bh_ hb);(try clear hb);have hcz10_0 : w9.cell? ⟨gb101,0,none⟩ = some (.int .i64 a1_0):=(blk_cell BK101.out 0).trans rfl;have hcz10_1 : w9.cell? ⟨gb101,1,none⟩ = some (.int .i64 a1_1):=(blk_cell BK101.out 1).trans rfl;have hcz10_2 : w9.cell? ⟨gb101,2,none⟩ = some (.int .i64 a1_2):=(blk_cell BK101.out 2).trans rfl;have hcz10_3 : w9.cell? ⟨gb101,3,none⟩ = some (.string a1_3):=(blk_cell BK101.out 3).trans rfl;have hcz10_4 : w9.cell? ⟨gb101,4,none⟩ = some (.string a1_4):=(blk_cell BK101.out 4).trans rfl;have hfz10_0:=blk_frozen BK101.out 0;have hfz10_1:=blk_frozen BK101.out 1;have hfz10_2:=blk_frozen BK101.out 2;have hfz10_3:=blk_frozen BK101.out 3;have hfz10_4:=blk_frozen BK101.out 4) | (go_at_call 67;(with_reducible refine (Rf07_Check.calls k a1_0 a1_1 a1_2 a1_3 a1_4 true _ A5.out).mono ?_);rintro e w11 ⟨rfl,hb⟩;replace BK101:=Aside0.mk (blk_below bk101_ hb);replace HB:=Aside0.mk (below_step bh_ hb);(try clear hb);have hcz12_0 : w11.cell? ⟨gb101,0,none⟩ = some (.int .i64 a1_0):=(blk_cell BK101.out 0).trans rfl;have hcz12_1 : w11.cell? ⟨gb101,1,none⟩ = some (.int .i64 a1_1):=(blk_cell BK101.out 1).trans rfl;have hcz12_2 : w11.cell? ⟨gb101,2,none⟩ = some (.int .i64 a1_2):=(blk_cell BK101.out 2).trans rfl;have hcz12_3 : w11.cell? ⟨gb101,3,none⟩ = some (.string a1_3):=(blk_cell BK101.out 3).trans rfl;have hcz12_4 : w11.cell? ⟨gb101,4,none⟩ = some (.string a1_4):=(blk_cell BK101.out 4).trans rfl;have hfz12_0:=blk_frozen BK101.out 0;have hfz12_1:=blk_frozen BK101.out 1;have hfz12_2:=blk_frozen BK101.out 2;have hfz12_3:=blk_frozen BK101.out 3;have hfz12_4:=blk_frozen BK101.out 4))
    go_ret
    exact ⟨q2_,bh_⟩
   ·rw [if_neg c7] at H
    have c7b0:=beq_eq_false_iff_ne.mpr c7
    have c7b1:=bne_iff_ne.mpr c7
    by_cases c13 : t103 = 0
    ·rw [if_pos c13] at H
     have c13b0:=beq_iff_eq.mpr c13
     have c13b1:=bne_eq_false_iff_eq.mpr c13
     clear c13
     obtain rfl:=Option.some.inj H
     go_enter Tryz.func66,Tryz.ntmps66
     go_wp2_with (first | ((with_reducible refine gate_dst (N:=3) rfl ?_);refine bx_ 3 24 #[.int .i64 a1_0,.int .i64 a1_1,.int .i64 a1_2,.string a1_3,.string a1_4] ?_;intro gb101 hg w14 hbox hb;have BK101:=Aside0.mk (hbox);have GW101:=Aside0.mk ((q17_ : w.heap.size ≤ gb101));have GE101:=Aside0.mk ((q17_ : w.heap.size ≤ gb101));replace HB:=Aside0.mk (below_step bh_ hb);clear hb hbox hg) | ((with_reducible refine gate_callee (f:=94) rfl ?_);refine gl_ 10 Tryz.func94 #[.string a0] ?_;(with_reducible refine (Rf08_Major.calls k a0 t102 t103 true _ A3.out).mono ?_);rintro e w15 ⟨rfl,hb⟩;refine ⟨_,rfl,?_⟩;replace BK101:=Aside0.mk (blk_below bk101_ hb);replace HB:=Aside0.mk (below_step bh_ hb);(try clear hb);have hcz16_0 : w15.cell? ⟨gb101,0,none⟩ = some (.int .i64 a1_0):=(blk_cell BK101.out 0).trans rfl;have hcz16_1 : w15.cell? ⟨gb101,1,none⟩ = some (.int .i64 a1_1):=(blk_cell BK101.out 1).trans rfl;have hcz16_2 : w15.cell? ⟨gb101,2,none⟩ = some (.int .i64 a1_2):=(blk_cell BK101.out 2).trans rfl;have hcz16_3 : w15.cell? ⟨gb101,3,none⟩ = some (.string a1_3):=(blk_cell BK101.out 3).trans rfl;have hcz16_4 : w15.cell? ⟨gb101,4,none⟩ = some (.string a1_4):=(blk_cell BK101.out 4).trans rfl;have hfz16_0:=blk_frozen BK101.out 0;have hfz16_1:=blk_frozen BK101.out 1;have hfz16_2:=blk_frozen BK101.out 2;have hfz16_3:=blk_frozen BK101.out 3;have hfz16_4:=blk_frozen BK101.out 4) | (go_at_call 67;(with_reducible refine (Rf07_Check.calls k a1_0 a1_1 a1_2 a1_3 a1_4 true _ A5.out).mono ?_);rintro e w17 ⟨rfl,hb⟩;replace BK101:=Aside0.mk (blk_below bk101_ hb);replace HB:=Aside0.mk (below_step bh_ hb);(try clear hb);have hcz18_0 : w17.cell? ⟨gb101,0,none⟩ = some (.int .i64 a1_0):=(blk_cell BK101.out 0).trans rfl;have hcz18_1 : w17.cell? ⟨gb101,1,none⟩ = some (.int .i64 a1_1):=(blk_cell BK101.out 1).trans rfl;have hcz18_2 : w17.cell? ⟨gb101,2,none⟩ = some (.int .i64 a1_2):=(blk_cell BK101.out 2).trans rfl;have hcz18_3 : w17.cell? ⟨gb101,3,none⟩ = some (.string a1_3):=(blk_cell BK101.out 3).trans rfl;have hcz18_4 : w17.cell? ⟨gb101,4,none⟩ = some (.string a1_4):=(blk_cell BK101.out 4).trans rfl;have hfz18_0:=blk_frozen BK101.out 0;have hfz18_1:=blk_frozen BK101.out 1;have hfz18_2:=blk_frozen BK101.out 2;have hfz18_3:=blk_frozen BK101.out 3;have hfz18_4:=blk_frozen BK101.out 4))
     go_ret
     exact ⟨q2_,bh_⟩
    ·rw [if_neg c13] at H
     have c13b0:=beq_eq_false_iff_ne.mpr c13
     have c13b1:=bne_iff_ne.mpr c13
     obtain rfl:=Option.some.inj H
     go_enter Tryz.func66,Tryz.ntmps66
     go_wp2_with (first | ((with_reducible refine gate_dst (N:=3) rfl ?_);refine bx_ 3 24 #[.int .i64 a1_0,.int .i64 a1_1,.int .i64 a1_2,.string a1_3,.string a1_4] ?_;intro gb101 hg w19 hbox hb;have BK101:=Aside0.mk (hbox);have GW101:=Aside0.mk ((q17_ : w.heap.size ≤ gb101));have GE101:=Aside0.mk ((q17_ : w.heap.size ≤ gb101));replace HB:=Aside0.mk (below_step bh_ hb);clear hb hbox hg) | ((with_reducible refine gate_callee (f:=94) rfl ?_);refine gl_ 10 Tryz.func94 #[.string a0] ?_;(with_reducible refine (Rf08_Major.calls k a0 t102 t103 true _ A3.out).mono ?_);rintro e w20 ⟨rfl,hb⟩;refine ⟨_,rfl,?_⟩;replace BK101:=Aside0.mk (blk_below bk101_ hb);replace HB:=Aside0.mk (below_step bh_ hb);(try clear hb);have hcz21_0 : w20.cell? ⟨gb101,0,none⟩ = some (.int .i64 a1_0):=(blk_cell BK101.out 0).trans rfl;have hcz21_1 : w20.cell? ⟨gb101,1,none⟩ = some (.int .i64 a1_1):=(blk_cell BK101.out 1).trans rfl;have hcz21_2 : w20.cell? ⟨gb101,2,none⟩ = some (.int .i64 a1_2):=(blk_cell BK101.out 2).trans rfl;have hcz21_3 : w20.cell? ⟨gb101,3,none⟩ = some (.string a1_3):=(blk_cell BK101.out 3).trans rfl;have hcz21_4 : w20.cell? ⟨gb101,4,none⟩ = some (.string a1_4):=(blk_cell BK101.out 4).trans rfl;have hfz21_0:=blk_frozen BK101.out 0;have hfz21_1:=blk_frozen BK101.out 1;have hfz21_2:=blk_frozen BK101.out 2;have hfz21_3:=blk_frozen BK101.out 3;have hfz21_4:=blk_frozen BK101.out 4) | (go_at_call 67;(with_reducible refine (Rf07_Check.calls k a1_0 a1_1 a1_2 a1_3 a1_4 true _ A5.out).mono ?_);rintro e w22 ⟨rfl,hb⟩;replace BK101:=Aside0.mk (blk_below bk101_ hb);replace HB:=Aside0.mk (below_step bh_ hb);(try clear hb);have hcz23_0 : w22.cell? ⟨gb101,0,none⟩ = some (.int .i64 a1_0):=(blk_cell BK101.out 0).trans rfl;have hcz23_1 : w22.cell? ⟨gb101,1,none⟩ = some (.int .i64 a1_1):=(blk_cell BK101.out 1).trans rfl;have hcz23_2 : w22.cell? ⟨gb101,2,none⟩ = some (.int .i64 a1_2):=(blk_cell BK101.out 2).trans rfl;have hcz23_3 : w22.cell? ⟨gb101,3,none⟩ = some (.string a1_3):=(blk_cell BK101.out 3).trans rfl;have hcz23_4 : w22.cell? ⟨gb101,4,none⟩ = some (.string a1_4):=(blk_cell BK101.out 4).trans rfl;have hfz23_0:=blk_frozen BK101.out 0;have hfz23_1:=blk_frozen BK101.out 1;have hfz23_2:=blk_frozen BK101.out 2;have hfz23_3:=blk_frozen BK101.out 3;have hfz23_4:=blk_frozen BK101.out 4))
     go_ret
     exact ⟨q2_,bh_⟩
  ·replace c6:=Bool.eq_false_iff.mpr c6
   subst c6
   rw [if_neg (show ¬ (false = true) by decide)] at H
   obtain rfl:=Option.some.inj H
   go_enter Tryz.func66,Tryz.ntmps66
   go_wp2_with (first | ((with_reducible refine gate_dst (N:=3) rfl ?_);refine bx_ 3 24 #[.int .i64 a1_0,.int .i64 a1_1,.int .i64 a1_2,.string a1_3,.string a1_4] ?_;intro gb101 hg w24 hbox hb;have BK101:=Aside0.mk (hbox);have GW101:=Aside0.mk ((q17_ : w.heap.size ≤ gb101));have GE101:=Aside0.mk ((q17_ : w.heap.size ≤ gb101));replace HB:=Aside0.mk (below_step bh_ hb);clear hb hbox hg) | ((with_reducible refine gate_callee (f:=94) rfl ?_);refine gl_ 10 Tryz.func94 #[.string a0] ?_;(with_reducible refine (Rf08_Major.calls k a0 t102 t103 true _ A3.out).mono ?_);rintro e w25 ⟨rfl,hb⟩;refine ⟨_,rfl,?_⟩;replace BK101:=Aside0.mk (blk_below bk101_ hb);replace HB:=Aside0.mk (below_step bh_ hb);(try clear hb);have hcz26_0 : w25.cell? ⟨gb101,0,none⟩ = some (.int .i64 a1_0):=(blk_cell BK101.out 0).trans rfl;have hcz26_1 : w25.cell? ⟨gb101,1,none⟩ = some (.int .i64 a1_1):=(blk_cell BK101.out 1).trans rfl;have hcz26_2 : w25.cell? ⟨gb101,2,none⟩ = some (.int .i64 a1_2):=(blk_cell BK101.out 2).trans rfl;have hcz26_3 : w25.cell? ⟨gb101,3,none⟩ = some (.string a1_3):=(blk_cell BK101.out 3).trans rfl;have hcz26_4 : w25.cell? ⟨gb101,4,none⟩ = some (.string a1_4):=(blk_cell BK101.out 4).trans rfl;have hfz26_0:=blk_frozen BK101.out 0;have hfz26_1:=blk_frozen BK101.out 1;have hfz26_2:=blk_frozen BK101.out 2;have hfz26_3:=blk_frozen BK101.out 3;have hfz26_4:=blk_frozen BK101.out 4) | (go_at_call 67;(with_reducible refine (Rf07_Check.calls k a1_0 a1_1 a1_2 a1_3 a1_4 false _ A5.out).mono ?_);rintro e w27 ⟨rfl,hb⟩;replace BK101:=Aside0.mk (blk_below bk101_ hb);replace HB:=Aside0.mk (below_step bh_ hb);(try clear hb)))
   go_ret
   exact ⟨q2_,bh_⟩
 ·replace c4:=Bool.eq_false_iff.mpr c4
  subst c4
  rw [if_neg (show ¬ (false = true) by decide)] at H
  obtain rfl:=Option.some.inj H
  go_enter Tryz.func66,Tryz.ntmps66
  go_wp2_with (first | ((with_reducible refine gate_dst (N:=3) rfl ?_);refine bx_ 3 24 #[.int .i64 a1_0,.int .i64 a1_1,.int .i64 a1_2,.string a1_3,.string a1_4] ?_;intro gb101 hg w28 hbox hb;have BK101:=Aside0.mk (hbox);have GW101:=Aside0.mk ((q17_ : w.heap.size ≤ gb101));have GE101:=Aside0.mk ((q17_ : w.heap.size ≤ gb101));replace HB:=Aside0.mk (below_step bh_ hb);clear hb hbox hg) | ((with_reducible refine gate_callee (f:=94) rfl ?_);refine gl_ 10 Tryz.func94 #[.string a0] ?_;(with_reducible refine (Rf08_Major.calls k a0 t102 t103 false _ A3.out).mono ?_);rintro e w29 ⟨rfl,hb⟩;refine ⟨_,rfl,?_⟩;replace BK101:=Aside0.mk (blk_below bk101_ hb);replace HB:=Aside0.mk (below_step bh_ hb);(try clear hb)))
  go_ret
  exact ⟨q2_,bh_⟩
def Rf17_May.f (k : Nat) (a0_0 : ByteArray) (a0_1 : Int) (a0_2 : Int) (a0_3 : Int) (a0_4 : ByteArray) (a0_5 : ByteArray) : Option (Bool):=(Rf08_Fits.f k a0_0 a0_1 a0_2 a0_3 a0_4 a0_5).bind fun t102 => (some t102)
set_option maxHeartbeats 8000000 in
set_option maxRecDepth 100000 in
theorem Rf17_May.calls (k : Nat) (a0_0 : ByteArray) (a0_1 : Int) (a0_2 : Int) (a0_3 : Int) (a0_4 : ByteArray) (a0_5 : ByteArray) (r : Bool) (w : World) (h : Rf17_May.f k a0_0 a0_1 a0_2 a0_3 a0_4 a0_5 = some r) :
  Calls Tryz.prog 35 #[.agg #[.string a0_0,.int .i64 a0_1,.int .i64 a0_2,.int .i64 a0_3,.string a0_4,.string a0_5]] w fun e w' => e = .returned (.bool r) ∧ Below w.heap.size w w':=by
 have hu41:=Tryz.underlying41
 have hu24:=Tryz.underlying24
 have HB:=Aside0.mk (Below.refl w.heap.size w)
 have H : ((Rf08_Fits.f k a0_0 a0_1 a0_2 a0_3 a0_4 a0_5).bind fun t102 => (some t102)) = some r:=h
 clear h
 obtain ⟨t102,A20,H⟩:=Option.bind_eq_some_iff.mp H
 have A2:=Aside0.mk A20
 clear A20
 obtain rfl:=Option.some.inj H
 go_enter Tryz.func35,Tryz.ntmps35
 go_wp2_with (first | ((with_reducible refine gate_dst (N:=1) rfl ?_);refine bx_ 1 41 #[.string a0_0,.int .i64 a0_1,.int .i64 a0_2,.int .i64 a0_3,.string a0_4,.string a0_5] ?_;intro gb101 hg w3 hbox hb;have BK101:=Aside0.mk (hbox);have GW101:=Aside0.mk ((q17_ : w.heap.size ≤ gb101));have GE101:=Aside0.mk ((q17_ : w.heap.size ≤ gb101));replace HB:=Aside0.mk (below_step bh_ hb);clear hb hbox hg;have hcz4_0 : w3.cell? ⟨gb101,0,none⟩ = some (.string a0_0):=(blk_cell BK101.out 0).trans rfl;have hcz4_1 : w3.cell? ⟨gb101,1,none⟩ = some (.int .i64 a0_1):=(blk_cell BK101.out 1).trans rfl;have hcz4_2 : w3.cell? ⟨gb101,2,none⟩ = some (.int .i64 a0_2):=(blk_cell BK101.out 2).trans rfl;have hcz4_3 : w3.cell? ⟨gb101,3,none⟩ = some (.int .i64 a0_3):=(blk_cell BK101.out 3).trans rfl;have hcz4_4 : w3.cell? ⟨gb101,4,none⟩ = some (.string a0_4):=(blk_cell BK101.out 4).trans rfl;have hcz4_5 : w3.cell? ⟨gb101,5,none⟩ = some (.string a0_5):=(blk_cell BK101.out 5).trans rfl;have hfz4_0:=blk_frozen BK101.out 0;have hfz4_1:=blk_frozen BK101.out 1;have hfz4_2:=blk_frozen BK101.out 2;have hfz4_3:=blk_frozen BK101.out 3;have hfz4_4:=blk_frozen BK101.out 4;have hfz4_5:=blk_frozen BK101.out 5) | ((with_reducible refine gate_callee (f:=66) rfl ?_);refine gl_ 7 Tryz.func66 #[.string a0_0,.agg #[.int .i64 a0_1,.int .i64 a0_2,.int .i64 a0_3,.string a0_4,.string a0_5]] ?_;(with_reducible refine (Rf08_Fits.calls k a0_0 a0_1 a0_2 a0_3 a0_4 a0_5 t102 _ A2.out).mono ?_);rintro e w5 ⟨rfl,hb⟩;refine ⟨_,rfl,?_⟩;replace BK101:=Aside0.mk (blk_below bk101_ hb);replace HB:=Aside0.mk (below_step bh_ hb);(try clear hb)))
 go_ret
 exact ⟨q2_,bh_⟩
end Go.Proofs.YtennhpoemdaghaaGreatDoor.P
end
section
namespace Go.Proofs.YtennhpoemdaghaaGreatDoor.P
open Go Go.RowKit Go.Proofs.YtennhpoemdaghaaGreatDoorW.PrintWords
def tellB (p : ByteArray) : Bool:=(majorB p.data.toList).2
def numbB (p : ByteArray) : Int:=(majorB p.data.toList).1
theorem numbB_nonneg (p : ByteArray) : 0 ≤ numbB p:=by
 unfold numbB majorB
 split
 ·split
  ·exact Int.le_refl _
  ·split
   ·exact Int.le_refl _
   ·exact Int.natCast_nonneg _
 ·exact Int.le_refl _
def finB (D : List ByteArray) (z : ByteArray) : Bool:=!tellB z || (decide (0 < numbB z) && decide (0 < D.length))
def chkB (s : ByteArray) : Bool:=pathB s.data.toList && ((splitS 47 s).dropLast.all (fun p => !tellB p) && finB (splitS 47 s).dropLast ((splitS 47 s).getLastD ByteArray.empty))
theorem major_f (p : ByteArray) (h : p.size ≤ 4294967296) : mpath_major.f p = some (numbB p,tellB p):=by unfold mpath_major.f;rw [if_pos q5_];rfl
theorem pchk_gen (D : List ByteArray) (z : ByteArray) (hD : ∀ p ∈ D,p.size ≤ 4294967296) (hz : z.size ≤ 4294967296) (hl : D.length ≤ 4294967296) : ∀ (d i k : Nat),i ≤ D.length → D.length - i = d → d < k → mpath_Check.l0 k D z D (D.length : Int) (i : Int) = some ((D.drop i).all (fun p => !tellB p) && finB D z):=by
 intro d
 induction d with
 | zero =>
  intro i k hi hd hk
  obtain ⟨k,rfl⟩ : ∃ m,k = m + 1:=⟨k - 1,by omega⟩
  rw [mpath_Check.l0,if_neg q5_,major_f z hz,Option.bind_some,List.drop_eq_nil_of_le q5_]
  unfold finB
  cases tellB z with
  | false => simp
  | true =>
   by_cases h : numbB z > 0
   ·simp [h]
   ·simp [h]
 | succ d ih =>
  intro i k hi hd hk
  obtain ⟨k,rfl⟩ : ∃ m,k = m + 1:=⟨k - 1,by omega⟩
  have h : i < D.length:=by omega
  have hr : rdOf ByteArray.empty D (i : Int) = D[i]:=by simp [rdOf,h]
  have hw : wrap64 ((i : Int) + 1) = ((i + 1 : Nat) : Int):=by unfold wrap64;omega
  rw [mpath_Check.l0,if_pos q5_,if_pos q5_,if_pos q5_,hr,major_f _ (hD _ (List.getElem_mem h)),Option.bind_some,hw,ih (i + 1) k q5_ q5_ q5_,List.drop_eq_getElem_cons h,List.all_cons]
  cases tellB D[i] <;> simp
theorem rchk_gen (D : List ByteArray) (z : ByteArray) (M : Nat) (hD : ∀ p ∈ D,p.size ≤ M) (hz : z.size ≤ M) (hM : M ≤ 4294967200) (hl : D.length ≤ 4294967296) : ∀ (d i k : Nat),i ≤ D.length → D.length - i = d → M + d + 10 < k → Rf08_Check.l0 k (D ++ [z]) (i : Int) = some ((D.drop i).all (fun p => !tellB p) && finB D z):=by
 have hlen : (D ++ [z]).length = D.length + 1:=by simp
 intro d
 induction d with
 | zero =>
  intro i k hi hd hk
  obtain ⟨k,rfl⟩ : ∃ m,k = m + 2:=⟨k - 2,by omega⟩
  have hi' : i = D.length:=by omega
  have hr : rdOf ByteArray.empty (D ++ [z]) (i : Int) = z:=by simp [rdOf,hi']
  have hw : wrap64 ((i : Int) + 1) = ((i + 1 : Nat) : Int):=by unfold wrap64;omega
  have hw1 : wrap64 (((D ++ [z]).length : Int) - 1) = (D.length : Int):=by rw [hlen];unfold wrap64;omega
  have hend : Rf08_Check.l0 (k + 1) (D ++ [z]) ((i + 1 : Nat) : Int) = some true:=by rw [Rf08_Check.l0,if_neg q5_]
  rw [Rf08_Check.l0,if_pos q5_,if_pos q5_,hr,(show Rf08_tells.f (k + 1) z = some (tellB z) from tells_f z q5_ _ q5_),Option.bind_some,hw,hw1,hend,List.drop_eq_nil_of_le q5_]
  unfold finB
  have hn:=numbB_nonneg z
  cases ht : tellB z with
  | false => rw [if_neg q30_];simp
  | true =>
   rw [if_pos rfl,if_neg q5_]
   by_cases h0 : D.length = 0
   ·rw [if_pos q5_];simp [h0]
   ·rw [if_neg q5_,(show Rf08_number.f (k + 1) z = some (numbB z) from number_f z ht _ q5_),Option.bind_some]
    by_cases h1 : numbB z = 0
    ·rw [if_pos h1];simp [h1]
    ·rw [if_neg h1]
     have e1 : decide (0 < numbB z) = true:=decide_eq_true q5_
     have e2 : decide (0 < D.length) = true:=decide_eq_true q5_
     rw [e1,e2];rfl
 | succ d ih =>
  intro i k hi hd hk
  obtain ⟨k,rfl⟩ : ∃ m,k = m + 1:=⟨k - 1,by omega⟩
  have h : i < D.length:=by omega
  have hr : rdOf ByteArray.empty (D ++ [z]) (i : Int) = D[i]:=by simp [rdOf,List.getElem?_append,h]
  have hw : wrap64 ((i : Int) + 1) = ((i + 1 : Nat) : Int):=by unfold wrap64;omega
  have hw1 : wrap64 (((D ++ [z]).length : Int) - 1) = (D.length : Int):=by rw [hlen];unfold wrap64;omega
  have hsz:=hD _ (List.getElem_mem h)
  rw [Rf08_Check.l0,if_pos q5_,if_pos q5_,hr,(show Rf08_tells.f k D[i] = some (tellB D[i]) from tells_f _ q5_ _ q5_),Option.bind_some,hw,hw1,ih (i + 1) k q5_ q5_ q5_,List.drop_eq_getElem_cons h,List.all_cons]
  cases ht : tellB D[i] with
  | false => rw [if_neg q30_];simp
  | true => rw [if_pos rfl,if_pos q5_];rfl
theorem split_last (s : ByteArray) : splitS 47 s = (splitS 47 s).dropLast ++ [(splitS 47 s).getLastD ByteArray.empty]:=by
 have hne : splitS 47 s ≠ []:=by
  unfold splitS
  intro e
  exact splitL_ne 47 s.data.toList (List.map_eq_nil_iff.1 e)
 rw [List.getLastD_eq_getLast?,List.getLast?_eq_some_getLast hne]
 exact (List.dropLast_concat_getLast hne).symm
theorem pathB_size {s : ByteArray} (h : pathB s.data.toList = true) : s.size ≤ 60:=by
 unfold pathB at h
 rw [Bool.and_eq_true] at h
 exact of_decide_eq_true h.1
theorem parts_small (s : ByteArray) (h : s.size ≤ 60) : (∀ p ∈ (splitS 47 s).dropLast,p.size ≤ 60) ∧ ((splitS 47 s).getLastD ByteArray.empty).size ≤ 60 ∧ (splitS 47 s).dropLast.length ≤ 60:=by
 have h1 : ∀ p ∈ splitS 47 s,p.size ≤ 60:=fun p hp => Nat.le_trans (splitS_size 47 s p hp) h
 have hl : (splitS 47 s).length ≤ s.size + 1:=by unfold splitS;rw [List.length_map];exact splitL_length _ _
 refine ⟨fun p hp => h1 p ((List.dropLast_sublist _).subset hp),?_,by rw [List.length_dropLast];omega⟩
 have hsl:=split_last s
 exact h1 _ (by rw [hsl];simp)
theorem pchk_f (s : ByteArray) (k : Nat) (hk : 100 < k) : mpath_Check.f k s = some (chkB s):=by
 unfold mpath_Check.f files_Path.f chkB
 rw [Option.bind_some]
 cases hp : pathB s.data.toList with
 | false => rfl
 | true =>
  have hs:=pathB_size hp
  obtain ⟨h1,h2,h3⟩:=parts_small s hs
  rw [if_pos rfl]
  unfold mpath_split.f
  rw [if_pos q5_,Option.bind_some]
  exact pchk_gen (splitS 47 s).dropLast ((splitS 47 s).getLastD ByteArray.empty) (fun p hp => by have:=h1 p hp;omega) q5_ q5_ (splitS 47 s).dropLast.length 0 k (Nat.zero_le _) rfl q5_
theorem rchk_f (s : ByteArray) (k : Nat) (hk : 300 < k) : Rf08_Check.f k s = some (chkB s):=by
 unfold Rf08_Check.f chkB
 rw [refPath_f s k q5_,Option.bind_some]
 cases hp : pathB s.data.toList with
 | false => rfl
 | true =>
  have hs:=pathB_size hp
  obtain ⟨h1,h2,h3⟩:=parts_small s hs
  have hsp:=refSplit_f s 47 q5_ k q5_
  rw [show ((47 : UInt8).toNat : Int) = 47 from rfl] at hsp
  rw [if_pos rfl,hsp,Option.bind_some,split_last s]
  have hg:=rchk_gen _ _ 60 h1 h2 q5_ q5_ _ 0 k (Nat.zero_le _) rfl q5_
  rw [show ((0 : Nat) : Int) = 0 from rfl] at hg
  rw [hg,List.dropLast_concat,List.getLastD_concat]
  rfl
end Go.Proofs.YtennhpoemdaghaaGreatDoor.P
end
section
namespace Go.Proofs.YtennhpoemdaghaaGreatDoor.P
open Go.RowKit Go.Proofs.YtennhpoemdaghaaGreatDoorW.PrintWords Go.Proofs.YtennhpoemdaghaaGreatDoorW.PrintLast Go.Proofs.YtennhpoemdaghaaGreatDoorW.PrintMore
theorem eqA24 (d : Nat) (w : World) (x0 y0 : Int) (x1 y1 : Int) (x2 y2 : Int) (x3 y3 : ByteArray) (x4 y4 : ByteArray) :
  (Op.equalIn (d + 2) 24 (.agg #[.int .i64 x0,.int .i64 x1,.int .i64 x2,.string x3,.string x4]) (.agg #[.int .i64 y0,.int .i64 y1,.int .i64 y2,.string y3,.string y4])).run Tryz.prog w = .ok (x0 == y0 && (x1 == y1 && (x2 == y2 && (x3.toList == y3.toList && (x4.toList == y4.toList))))) w:=by
 refine eqA_of Tryz.underlying24 q9_ ?_
 refine eqf_cons q55_ q54_ q54_ (by go_simp) ?_
 refine eqf_cons q55_ q54_ q54_ (by go_simp) ?_
 refine eqf_cons q55_ q54_ q54_ (by go_simp) ?_
 refine eqf_cons q55_ q54_ q54_ (by go_simp) ?_
 exact eqf_last q55_ q54_ q54_ (by go_simp)
theorem eqA41 (d : Nat) (w : World) (x0 y0 : ByteArray) (x1 y1 : Int) (x2 y2 : Int) (x3 y3 : Int) (x4 y4 : ByteArray) (x5 y5 : ByteArray) :
  (Op.equalIn (d + 3) 41 (.agg #[.string x0,.int .i64 x1,.int .i64 x2,.int .i64 x3,.string x4,.string x5]) (.agg #[.string y0,.int .i64 y1,.int .i64 y2,.int .i64 y3,.string y4,.string y5])).run Tryz.prog w = .ok (x0.toList == y0.toList && ((x1 == y1 && (x2 == y2 && (x3 == y3 && (x4.toList == y4.toList && (x5.toList == y5.toList))))))) w:=by
 refine eqA_of Tryz.underlying41 q9_ ?_
 refine eqf_cons q55_ q54_ q54_ (by go_simp) ?_
 exact eqf_last q55_ (by go_simp) (by go_simp) (eqA24 (d + 0) w _ _ _ _ _ _ _ _ _ _)
end Go.Proofs.YtennhpoemdaghaaGreatDoor.P
end
section
namespace Go.Proofs.YtennhpoemdaghaaGreatDoor.P
open Go.RowKit Go.Proofs.YtennhpoemdaghaaGreatDoorW.PrintWords Go.Proofs.YtennhpoemdaghaaGreatDoorW.PrintLast Go.Proofs.YtennhpoemdaghaaGreatDoorW.PrintMore
attribute [local go_sem high] eqA41
def slices_Index_apiReq.l0 : Nat → List (S41) → Int → Int → ByteArray → Int → Int → Int → ByteArray → ByteArray → Option (Int)
 | 0,_,_,_,_,_,_,_,_,_ => none
 | k + 1,x0,x7,x8,x102000,x102001,x102002,x102003,x102004,x102005 => if x8 < x7 then (if 0 ≤ x8 then (if x8 < (x0.length : Int) then (if (x102000.toList == (((rd_T41 x0 x8).f0).toList) && ((x102001 == ((rd_T41 x0 x8).f1.f0) && (x102002 == ((rd_T41 x0 x8).f1.f1) && (x102003 == ((rd_T41 x0 x8).f1.f2) && (x102004.toList == (((rd_T41 x0 x8).f1.f3).toList) && (x102005.toList == (((rd_T41 x0 x8).f1.f4).toList)))))))) = true then (some x8) else (slices_Index_apiReq.l0 k x0 x7 (wrap64 (x8 + 1)) x102000 x102001 x102002 x102003 x102004 x102005)) else (none)) else (none)) else (some (-1))
def slices_Index_apiReq.f (k : Nat) (l0 : List (S41)) (a1_0 : ByteArray) (a1_1 : Int) (a1_2 : Int) (a1_3 : Int) (a1_4 : ByteArray) (a1_5 : ByteArray) : Option (Int):=slices_Index_apiReq.l0 k l0 (l0.length : Int) 0 a1_0 a1_1 a1_2 a1_3 a1_4 a1_5
set_option maxHeartbeats 8000000 in
set_option maxRecDepth 100000 in
theorem slices_Index_apiReq.calls (k : Nat) (A0 : Option Addr) (c0 : Nat) (l0 : List (S41)) (a1_0 : ByteArray) (a1_1 : Int) (a1_2 : Int) (a1_3 : Int) (a1_4 : ByteArray) (a1_5 : ByteArray) (r : Int) (w : World) (hr0 : Kd.C k41 w A0 l0.length l0) (hc0 : l0.length ≤ c0) (h : slices_Index_apiReq.f k l0 a1_0 a1_1 a1_2 a1_3 a1_4 a1_5 = some r) :
  Calls Tryz.prog 122 #[.slice A0 l0.length c0,.agg #[.string a1_0,.int .i64 a1_1,.int .i64 a1_2,.int .i64 a1_3,.string a1_4,.string a1_5]] w fun e w' => e = .returned (.int .i64 r) ∧ Below w.heap.size w w':=by
 have hu41:=Tryz.underlying41
 have HR0:=Aside0.mk hr0
 have HC0:=Aside0.mk hc0
 clear hr0 hc0
 have HB:=Aside0.mk (Below.refl w.heap.size w)
 have H : (slices_Index_apiReq.l0 k l0 (l0.length : Int) 0 a1_0 a1_1 a1_2 a1_3 a1_4 a1_5) = some r:=h
 clear h
 have H':=Aside0.mk H
 clear H
 go_enter Tryz.func122,Tryz.ntmps122
 go_wp2_with (first | ((with_reducible refine gate_dst (N:=3) rfl ?_);refine bx_ 3 41 #[.string a1_0,.int .i64 a1_1,.int .i64 a1_2,.int .i64 a1_3,.string a1_4,.string a1_5] ?_;intro gb101 hg w3 hbox hb;have BK101:=Aside0.mk (hbox);have GW101:=Aside0.mk ((q17_ : w.heap.size ≤ gb101));have GE101:=Aside0.mk ((q17_ : w.heap.size ≤ gb101));replace HB:=Aside0.mk (below_step bh_ hb);clear hb hbox hg))
 repeat (go_quiet (first | ((with_reducible refine gate_dst (N:=3) rfl ?_);refine bx_ 3 41 #[.string a1_0,.int .i64 a1_1,.int .i64 a1_2,.int .i64 a1_3,.string a1_4,.string a1_5] ?_;intro gb101 hg w3 hbox hb;have BK101:=Aside0.mk (hbox);have GW101:=Aside0.mk ((q17_ : w.heap.size ≤ gb101));have GE101:=Aside0.mk ((q17_ : w.heap.size ≤ gb101));replace HB:=Aside0.mk (below_step bh_ hb);clear hb hbox hg));try go_wp2_with (first | ((with_reducible refine gate_dst (N:=3) rfl ?_);refine bx_ 3 41 #[.string a1_0,.int .i64 a1_1,.int .i64 a1_2,.int .i64 a1_3,.string a1_4,.string a1_5] ?_;intro gb101 hg w3 hbox hb;have BK101:=Aside0.mk (hbox);have GW101:=Aside0.mk ((q17_ : w.heap.size ≤ gb101));have GE101:=Aside0.mk ((q17_ : w.heap.size ≤ gb101));replace HB:=Aside0.mk (below_step bh_ hb);clear hb hbox hg)))
 go_loopg [8] k (fun kq v8 w' => ∃ (x8_1 : Int),v8 = .int .i64 x8_1 ∧ Aside0 (slices_Index_apiReq.l0 kq l0 (l0.length : Int) x8_1 a1_0 a1_1 a1_2 a1_3 a1_4 a1_5 = some r) ∧ Aside0 (kq ≤ k) ∧ Aside0 (w'.heap[gb101]? = some (.cells #[.string a1_0,.int .i64 a1_1,.int .i64 a1_2,.int .i64 a1_3,.string a1_4,.string a1_5] 41 (0,0))) ∧ Aside0 (Below w.heap.size w w'))
 case atStart => exact ⟨(0),q12_,H',⟨Nat.le_refl _⟩,⟨by (with_reducible repeat (first | refine blk_drewN ?_ _ | refine blk_drew ?_ | refine blk_alloc ?_ _));exact BK101.out⟩,⟨by repeat (first | (with_reducible first | exact HB.out | apply below_alloc | apply pw_below_drewN | apply below_drew1 | refine below_set ?_ GE101.out) | exact HB.out)⟩⟩
 case round =>
  clear H'
  try clear c1
  try clear p2
  obtain ⟨x8_1,rfl,HA,HK1,BK101,HB⟩:=hrel
  cases gk with
  | zero => exact absurd HA.out (by simp [slices_Index_apiReq.l0])
  | succ k1 =>
   have H:=HA.out
   clear HA
   simp only [slices_Index_apiReq.l0] at H
   by_cases c4 : x8_1 < (l0.length : Int)
   ·rw [if_pos c4] at H
    have c4b0:=decide_eq_true c4
    clear c4
    by_cases c5 : 0 ≤ x8_1
    ·rw [if_pos c5] at H
     have c5b0:=decide_eq_true c5
     clear c5
     by_cases c6 : x8_1 < (l0.length : Int)
     ·rw [if_pos c6] at H
      have c6b0:=decide_eq_true c6
      clear c6
      by_cases c7 : (a1_0.toList == (((rd_T41 l0 x8_1).f0).toList) && ((a1_1 == ((rd_T41 l0 x8_1).f1.f0) && (a1_2 == ((rd_T41 l0 x8_1).f1.f1) && (a1_3 == ((rd_T41 l0 x8_1).f1.f2) && (a1_4.toList == (((rd_T41 l0 x8_1).f1.f3).toList) && (a1_5.toList == (((rd_T41 l0 x8_1).f1.f4).toList)))))))) = true
      ·rw [if_pos c7] at H
       have c7b0 : (a1_0.toList == (((rd_T41 l0 x8_1).f0).toList) && ((a1_1 == ((rd_T41 l0 x8_1).f1.f0) && (a1_2 == ((rd_T41 l0 x8_1).f1.f1) && (a1_3 == ((rd_T41 l0 x8_1).f1.f2) && (a1_4.toList == (((rd_T41 l0 x8_1).f1.f3).toList) && (a1_5.toList == (((rd_T41 l0 x8_1).f1.f4).toList)))))))) = true:=c7
       (try (have c7b1 : decide (a1_0.toList = (((rd_T41 l0 x8_1).f0).toList) && ((a1_1 == ((rd_T41 l0 x8_1).f1.f0) && (a1_2 == ((rd_T41 l0 x8_1).f1.f1) && (a1_3 == ((rd_T41 l0 x8_1).f1.f2) && (a1_4.toList == (((rd_T41 l0 x8_1).f1.f3).toList) && (a1_5.toList == (((rd_T41 l0 x8_1).f1.f4).toList)))))))) = true:=by simpa using c7))
       (try (have c7b2 : (a1_0.toList == (((rd_T41 l0 x8_1).f0).toList) && ((a1_1 == ((rd_T41 l0 x8_1).f1.f0) && (a1_2 == ((rd_T41 l0 x8_1).f1.f1) && (a1_3 == ((rd_T41 l0 x8_1).f1.f2) && (a1_4.toList == (((rd_T41 l0 x8_1).f1.f3).toList) && (a1_5.toList == (((rd_T41 l0 x8_1).f1.f4).toList)))))))) = true:=by simpa using c7))
       clear c7
       obtain rfl:=Option.some.inj H
       have hcz8_0 : wr.cell? ⟨gb101,0,none⟩ = some (.string a1_0):=(blk_cell BK101.out 0).trans rfl
       have hcz8_1 : wr.cell? ⟨gb101,1,none⟩ = some (.int .i64 a1_1):=(blk_cell BK101.out 1).trans rfl
       have hcz8_2 : wr.cell? ⟨gb101,2,none⟩ = some (.int .i64 a1_2):=(blk_cell BK101.out 2).trans rfl
       have hcz8_3 : wr.cell? ⟨gb101,3,none⟩ = some (.int .i64 a1_3):=(blk_cell BK101.out 3).trans rfl
       have hcz8_4 : wr.cell? ⟨gb101,4,none⟩ = some (.string a1_4):=(blk_cell BK101.out 4).trans rfl
       have hcz8_5 : wr.cell? ⟨gb101,5,none⟩ = some (.string a1_5):=(blk_cell BK101.out 5).trans rfl
       have hfz8_0:=blk_frozen BK101.out 0
       have hfz8_1:=blk_frozen BK101.out 1
       have hfz8_2:=blk_frozen BK101.out 2
       have hfz8_3:=blk_frozen BK101.out 3
       have hfz8_4:=blk_frozen BK101.out 4
       have hfz8_5:=blk_frozen BK101.out 5
       have p102 : 0 ≤ (x8_1 : Int):=of_decide_eq_true q1_
       have q102 : x8_1 < (l0.length : Int):=of_decide_eq_true q1_
       obtain ⟨ad102,e102,hx102_0,hx102_1,hx102_2,hx102_3,hx102_4,hx102_5⟩:=at_T41 HR0.out x8_1 p102 q102
       cases e102
       replace hx102_0:=cl_ HB.out hx102_0
       replace hx102_1:=cl_ HB.out hx102_1
       replace hx102_2:=cl_ HB.out hx102_2
       replace hx102_3:=cl_ HB.out hx102_3
       replace hx102_4:=cl_ HB.out hx102_4
       replace hx102_5:=cl_ HB.out hx102_5
       replace p102:=eq_true p102
       replace q102:=eq_true q102
       go_wp2
       repeat (go_quiet (fail);try go_wp2)
       go_ret
       exact ⟨q2_,bh_⟩
      ·rw [if_neg c7] at H
       have c7b0 : (a1_0.toList == (((rd_T41 l0 x8_1).f0).toList) && ((a1_1 == ((rd_T41 l0 x8_1).f1.f0) && (a1_2 == ((rd_T41 l0 x8_1).f1.f1) && (a1_3 == ((rd_T41 l0 x8_1).f1.f2) && (a1_4.toList == (((rd_T41 l0 x8_1).f1.f3).toList) && (a1_5.toList == (((rd_T41 l0 x8_1).f1.f4).toList)))))))) = false:=by simpa using c7
       (try (have c7b1 : decide (a1_0.toList = (((rd_T41 l0 x8_1).f0).toList) && ((a1_1 == ((rd_T41 l0 x8_1).f1.f0) && (a1_2 == ((rd_T41 l0 x8_1).f1.f1) && (a1_3 == ((rd_T41 l0 x8_1).f1.f2) && (a1_4.toList == (((rd_T41 l0 x8_1).f1.f3).toList) && (a1_5.toList == (((rd_T41 l0 x8_1).f1.f4).toList)))))))) = false:=by simpa using c7))
       (try (have c7b2 : (a1_0.toList == (((rd_T41 l0 x8_1).f0).toList) && ((a1_1 == ((rd_T41 l0 x8_1).f1.f0) && (a1_2 == ((rd_T41 l0 x8_1).f1.f1) && (a1_3 == ((rd_T41 l0 x8_1).f1.f2) && (a1_4.toList == (((rd_T41 l0 x8_1).f1.f3).toList) && (a1_5.toList == (((rd_T41 l0 x8_1).f1.f4).toList)))))))) = false:=by simpa using c7))
       (try (have c7b3 : ¬ (a1_0.toList = (((rd_T41 l0 x8_1).f0).toList) && ((a1_1 == ((rd_T41 l0 x8_1).f1.f0) && (a1_2 == ((rd_T41 l0 x8_1).f1.f1) && (a1_3 == ((rd_T41 l0 x8_1).f1.f2) && (a1_4.toList == (((rd_T41 l0 x8_1).f1.f3).toList) && (a1_5.toList == (((rd_T41 l0 x8_1).f1.f4).toList)))))))):=by simpa using c7))
       clear c7
       have H':=Aside0.mk H
       clear H
       have hcz9_0 : wr.cell? ⟨gb101,0,none⟩ = some (.string a1_0):=(blk_cell BK101.out 0).trans rfl
       have hcz9_1 : wr.cell? ⟨gb101,1,none⟩ = some (.int .i64 a1_1):=(blk_cell BK101.out 1).trans rfl
       have hcz9_2 : wr.cell? ⟨gb101,2,none⟩ = some (.int .i64 a1_2):=(blk_cell BK101.out 2).trans rfl
       have hcz9_3 : wr.cell? ⟨gb101,3,none⟩ = some (.int .i64 a1_3):=(blk_cell BK101.out 3).trans rfl
       have hcz9_4 : wr.cell? ⟨gb101,4,none⟩ = some (.string a1_4):=(blk_cell BK101.out 4).trans rfl
       have hcz9_5 : wr.cell? ⟨gb101,5,none⟩ = some (.string a1_5):=(blk_cell BK101.out 5).trans rfl
       have hfz9_0:=blk_frozen BK101.out 0
       have hfz9_1:=blk_frozen BK101.out 1
       have hfz9_2:=blk_frozen BK101.out 2
       have hfz9_3:=blk_frozen BK101.out 3
       have hfz9_4:=blk_frozen BK101.out 4
       have hfz9_5:=blk_frozen BK101.out 5
       have p102 : 0 ≤ (x8_1 : Int):=of_decide_eq_true q1_
       have q102 : x8_1 < (l0.length : Int):=of_decide_eq_true q1_
       obtain ⟨ad102,e102,hx102_0,hx102_1,hx102_2,hx102_3,hx102_4,hx102_5⟩:=at_T41 HR0.out x8_1 p102 q102
       cases e102
       replace hx102_0:=cl_ HB.out hx102_0
       replace hx102_1:=cl_ HB.out hx102_1
       replace hx102_2:=cl_ HB.out hx102_2
       replace hx102_3:=cl_ HB.out hx102_3
       replace hx102_4:=cl_ HB.out hx102_4
       replace hx102_5:=cl_ HB.out hx102_5
       replace p102:=eq_true p102
       replace q102:=eq_true q102
       go_wp2
       repeat (go_quiet (fail);try go_wp2)
       go_roundg k1
       case measure => have:=HK1.out;omega
       case rel => exact ⟨(wrap64 (x8_1 + 1)),q12_,H',⟨by have:=HK1.out;omega⟩,⟨by (with_reducible repeat (first | refine blk_drewN ?_ _ | refine blk_drew ?_ | refine blk_alloc ?_ _));exact BK101.out⟩,⟨by repeat (first | (with_reducible first | exact HB.out | apply below_alloc | apply pw_below_drewN | apply below_drew1 | refine below_set ?_ GE101.out) | exact HB.out)⟩⟩
     ·rw [if_neg c6] at H
      exact absurd H q25_
    ·rw [if_neg c5] at H
     exact absurd H q25_
   ·rw [if_neg c4] at H
    have c4b0:=decide_eq_false c4
    clear c4
    obtain rfl:=Option.some.inj H
    go_wp2
    repeat (go_quiet (fail);try go_wp2)
    go_ret
    exact ⟨q2_,bh_⟩
end Go.Proofs.YtennhpoemdaghaaGreatDoor.P
end
section
namespace Go.Proofs.YtennhpoemdaghaaGreatDoor.P
open Go.RowKit Go.Proofs.YtennhpoemdaghaaGreatDoorW.PrintWords Go.Proofs.YtennhpoemdaghaaGreatDoorW.PrintLast Go.Proofs.YtennhpoemdaghaaGreatDoorW.PrintMore
def slices_Contains_apiReq.f (k : Nat) (l0 : List (S41)) (a1_0 : ByteArray) (a1_1 : Int) (a1_2 : Int) (a1_3 : Int) (a1_4 : ByteArray) (a1_5 : ByteArray) : Option (Bool):=(slices_Index_apiReq.f k l0 a1_0 a1_1 a1_2 a1_3 a1_4 a1_5).bind fun t102 => (some (decide (t102 ≥ 0)))
set_option maxHeartbeats 8000000 in
set_option maxRecDepth 100000 in
theorem slices_Contains_apiReq.calls (k : Nat) (A0 : Option Addr) (c0 : Nat) (l0 : List (S41)) (a1_0 : ByteArray) (a1_1 : Int) (a1_2 : Int) (a1_3 : Int) (a1_4 : ByteArray) (a1_5 : ByteArray) (r : Bool) (w : World) (hr0 : Kd.C k41 w A0 l0.length l0) (hc0 : l0.length ≤ c0) (h : slices_Contains_apiReq.f k l0 a1_0 a1_1 a1_2 a1_3 a1_4 a1_5 = some r) :
  Calls Tryz.prog 86 #[.slice A0 l0.length c0,.agg #[.string a1_0,.int .i64 a1_1,.int .i64 a1_2,.int .i64 a1_3,.string a1_4,.string a1_5]] w fun e w' => e = .returned (.bool r) ∧ Below w.heap.size w w':=by
 have hu41:=Tryz.underlying41
 have HR0:=Aside0.mk hr0
 have HC0:=Aside0.mk hc0
 clear hr0 hc0
 have HB:=Aside0.mk (Below.refl w.heap.size w)
 have H : ((slices_Index_apiReq.f k l0 a1_0 a1_1 a1_2 a1_3 a1_4 a1_5).bind fun t102 => (some (decide (t102 ≥ 0)))) = some r:=h
 clear h
 obtain ⟨t102,A30,H⟩:=Option.bind_eq_some_iff.mp H
 have A3:=Aside0.mk A30
 clear A30
 obtain rfl:=Option.some.inj H
 go_enter Tryz.func86,Tryz.ntmps86
 go_wp2_with (first | ((with_reducible refine gate_dst (N:=3) rfl ?_);refine bx_ 3 41 #[.string a1_0,.int .i64 a1_1,.int .i64 a1_2,.int .i64 a1_3,.string a1_4,.string a1_5] ?_;intro gb101 hg w4 hbox hb;have BK101:=Aside0.mk (hbox);have GW101:=Aside0.mk ((q17_ : w.heap.size ≤ gb101));have GE101:=Aside0.mk ((q17_ : w.heap.size ≤ gb101));replace HB:=Aside0.mk (below_step bh_ hb);clear hb hbox hg;have hcz5_0 : w4.cell? ⟨gb101,0,none⟩ = some (.string a1_0):=(blk_cell BK101.out 0).trans rfl;have hcz5_1 : w4.cell? ⟨gb101,1,none⟩ = some (.int .i64 a1_1):=(blk_cell BK101.out 1).trans rfl;have hcz5_2 : w4.cell? ⟨gb101,2,none⟩ = some (.int .i64 a1_2):=(blk_cell BK101.out 2).trans rfl;have hcz5_3 : w4.cell? ⟨gb101,3,none⟩ = some (.int .i64 a1_3):=(blk_cell BK101.out 3).trans rfl;have hcz5_4 : w4.cell? ⟨gb101,4,none⟩ = some (.string a1_4):=(blk_cell BK101.out 4).trans rfl;have hcz5_5 : w4.cell? ⟨gb101,5,none⟩ = some (.string a1_5):=(blk_cell BK101.out 5).trans rfl;have hfz5_0:=blk_frozen BK101.out 0;have hfz5_1:=blk_frozen BK101.out 1;have hfz5_2:=blk_frozen BK101.out 2;have hfz5_3:=blk_frozen BK101.out 3;have hfz5_4:=blk_frozen BK101.out 4;have hfz5_5:=blk_frozen BK101.out 5) | ((with_reducible refine gate_callee (f:=122) rfl ?_);refine gl_ 7 Tryz.func122 #[.slice A0 l0.length c0,.agg #[.string a1_0,.int .i64 a1_1,.int .i64 a1_2,.int .i64 a1_3,.string a1_4,.string a1_5]] ?_;(with_reducible refine (slices_Index_apiReq.calls k _ _ l0 a1_0 a1_1 a1_2 a1_3 a1_4 a1_5 t102 _ ?side1 ?side2 A3.out).mono ?_);(case side1 => repeat (first | exact (Kd.C_below HR0.out HB.out) | (with_reducible refine Kd.C_alloc ?_ _) | (with_reducible refine Kd.C_drewN ?_ _) | (with_reducible refine Kd.C_drew ?_)));(case side2 => exact HC0.out);rintro e w6 ⟨rfl,hb⟩;refine ⟨_,rfl,?_⟩;replace BK101:=Aside0.mk (blk_below bk101_ hb);replace HB:=Aside0.mk (below_step bh_ hb);(try clear hb)))
 go_ret
 exact ⟨q2_,bh_⟩
def mvs_may.f (k : Nat) (a0_0 : ByteArray) (a0_1 : Int) (a0_2 : Int) (a0_3 : Int) (a0_4 : ByteArray) (a0_5 : ByteArray) : Option (Bool):=(mpath_Fits.f k a0_0 a0_1 a0_2 a0_3 a0_4 a0_5).bind fun t102 => (some t102)
theorem mvs_may.mono : ∀ a0 a1 a2 a3 a4 a5 k,LeO (mvs_may.f k a0 a1 a2 a3 a4 a5) (mvs_may.f (k + 1) a0 a1 a2 a3 a4 a5):=by
 intro a0 a1 a2 a3 a4 a5 k
 unfold mvs_may.f
 repeat' first
   | (with_reducible exact mpath_Fits.mono _ _ _ _ _ _ _)
   | (with_reducible exact LeO.refl _)
   | (with_reducible exact LeO.none _)
   | (with_reducible refine LeO.ite ?_ ?_)
   | (with_reducible refine LeO.bind ?_ (fun _ => ?_))
   | exact mpath_Fits.mono _ _ _ _ _ _ _
   | exact LeO.none _
   | refine LeO.ite ?_ ?_
   | refine LeO.bind ?_ (fun _ => ?_)
set_option maxHeartbeats 8000000 in
set_option maxRecDepth 100000 in
theorem mvs_may.calls (k : Nat) (a0_0 : ByteArray) (a0_1 : Int) (a0_2 : Int) (a0_3 : Int) (a0_4 : ByteArray) (a0_5 : ByteArray) (r : Bool) (w : World) (h : mvs_may.f k a0_0 a0_1 a0_2 a0_3 a0_4 a0_5 = some r) (hG : Env w) :
  Calls Tryz.prog 59 #[.agg #[.string a0_0,.int .i64 a0_1,.int .i64 a0_2,.int .i64 a0_3,.string a0_4,.string a0_5]] w fun e w' => e = .returned (.bool r) ∧ Below w.heap.size w w':=by
 have HG:=Aside0.mk hG
 clear hG
 have hu41:=Tryz.underlying41
 have hu24:=Tryz.underlying24
 have HB:=Aside0.mk (Below.refl w.heap.size w)
 have H : ((mpath_Fits.f k a0_0 a0_1 a0_2 a0_3 a0_4 a0_5).bind fun t102 => (some t102)) = some r:=h
 clear h
 obtain ⟨t102,A20,H⟩:=Option.bind_eq_some_iff.mp H
 have A2:=Aside0.mk A20
 clear A20
 obtain rfl:=Option.some.inj H
 go_enter Tryz.func59,Tryz.ntmps59
 go_wp2_with (first | ((with_reducible refine gate_dst (N:=1) rfl ?_);refine bx_ 1 41 #[.string a0_0,.int .i64 a0_1,.int .i64 a0_2,.int .i64 a0_3,.string a0_4,.string a0_5] ?_;intro gb101 hg w3 hbox hb;have BK101:=Aside0.mk (hbox);have GW101:=Aside0.mk ((q17_ : w.heap.size ≤ gb101));have GE101:=Aside0.mk ((q17_ : w.heap.size ≤ gb101));replace HB:=Aside0.mk (below_step bh_ hb);clear hb hbox hg;have hcz4_0 : w3.cell? ⟨gb101,0,none⟩ = some (.string a0_0):=(blk_cell BK101.out 0).trans rfl;have hcz4_1 : w3.cell? ⟨gb101,1,none⟩ = some (.int .i64 a0_1):=(blk_cell BK101.out 1).trans rfl;have hcz4_2 : w3.cell? ⟨gb101,2,none⟩ = some (.int .i64 a0_2):=(blk_cell BK101.out 2).trans rfl;have hcz4_3 : w3.cell? ⟨gb101,3,none⟩ = some (.int .i64 a0_3):=(blk_cell BK101.out 3).trans rfl;have hcz4_4 : w3.cell? ⟨gb101,4,none⟩ = some (.string a0_4):=(blk_cell BK101.out 4).trans rfl;have hcz4_5 : w3.cell? ⟨gb101,5,none⟩ = some (.string a0_5):=(blk_cell BK101.out 5).trans rfl;have hfz4_0:=blk_frozen BK101.out 0;have hfz4_1:=blk_frozen BK101.out 1;have hfz4_2:=blk_frozen BK101.out 2;have hfz4_3:=blk_frozen BK101.out 3;have hfz4_4:=blk_frozen BK101.out 4;have hfz4_5:=blk_frozen BK101.out 5) | ((with_reducible refine gate_callee (f:=75) rfl ?_);refine gl_ 7 Tryz.func75 #[.string a0_0,.agg #[.int .i64 a0_1,.int .i64 a0_2,.int .i64 a0_3,.string a0_4,.string a0_5]] ?_;(with_reducible refine (mpath_Fits.calls k a0_0 a0_1 a0_2 a0_3 a0_4 a0_5 t102 _ A2.out ?sideG).mono ?_);(case sideG => first | exact HG.out | exact Env.below HG.out bh_);rintro e w5 ⟨rfl,hb⟩;refine ⟨_,rfl,?_⟩;replace BK101:=Aside0.mk (blk_below bk101_ hb);replace HB:=Aside0.mk (below_step bh_ hb);(try clear hb)))
 go_ret
 exact ⟨q2_,bh_⟩
end Go.Proofs.YtennhpoemdaghaaGreatDoor.P
end
section
namespace Go.Proofs.YtennhpoemdaghaaGreatDoor.P
open Go Go.RowKit Go.Proofs.YtennhpoemdaghaaGreatDoorW.PrintWords Go.Proofs.YtennhpoemdaghaaGreatDoorW.PrintLast Go.Proofs.YtennhpoemdaghaaGreatDoorW.PrintMore
abbrev Req:=S41
abbrev Node:=S70
def idxP {α : Type} (pred : α → Bool) : List α → Nat → Int
 | [],_ => -1
 | x :: xs,i => if pred x then (i : Int) else idxP pred xs (i + 1)
set_option maxRecDepth 100000 in
set_option maxHeartbeats 4000000 in
theorem indexNode (A : Option Addr) (c : Nat) (l : List Node) (g3 : Nat) (pred : Node → Bool) (w : World) (hr : Kd.C k70 w A l.length l) (hc : l.length ≤ c)
  (hcl : ∀ (x : Node) (A6 : Option Addr) (c6 : Nat) (W : World),x ∈ l → Below w.heap.size w W → Calls Tryz.prog 88 #[.agg #[.string x.f0.f0,.int .i64 x.f0.f1.f0,.int .i64 x.f0.f1.f1,.int .i64 x.f0.f1.f2,.string x.f0.f1.f3,.string x.f0.f1.f4,.slice A6 x.f1.length c6],.pointer (some ⟨g3,0,none⟩)] W fun e w' => e = .returned (.bool (pred x)) ∧ Below W.heap.size W w') :
  Calls Tryz.prog 87 #[.slice A l.length c,.func (.func 88) #[] #[.pointer (some ⟨g3,0,none⟩)]] w fun e w' => e = .returned (.int .i64 (idxP pred l 0)) ∧ Below w.heap.size w w':=by
 have HR:=Aside0.mk hr
 have HC:=Aside0.mk hc
 have HCL:=Aside0.mk hcl
 have HB:=Aside0.mk (Below.refl w.heap.size w)
 clear hr hc hcl
 go_enter Tryz.func87,Tryz.ntmps87
 go_wp2
 go_loopw [8] (fun v8 wr => ∃ i : Nat,v8 = .int .i64 i ∧ i ≤ l.length ∧ Aside0 (idxP pred l 0 = idxP pred (l.drop i) i) ∧ Aside0 (Below w.heap.size w wr)) (fun v8 _ => l.length - (intOf v8).toNat)
 case atStart => exact ⟨0,rfl,Nat.zero_le _,⟨rfl⟩,HB⟩
 case round =>
  clear HB
  obtain ⟨i,rfl,hi,HH,HB⟩:=hrel
  by_cases h : i < l.length
  ·have hg : ((i : Int) < (l.length : Int)) = True:=eq_true q5_
   have hp : (0 ≤ (i : Int)) = True:=eq_true q5_
   have hmax:=Kd.C_max HR.out
   have hw : wrap64 ((i : Int) + 1) = (i : Int) + 1:=by unfold wrap64;omega
   obtain ⟨ad,A6,c6,e1,hx0,hx1,hx2,hx3,hx4,hx5,hx6,hl6,hC6⟩:=at_T70 (Kd.C_below HR.out HB.out) (i : Int) q5_ q5_
   cases e1
   simp only [Int.toNat_natCast] at hx0 hx1 hx2 hx3 hx4 hx5 hx6
   obtain ⟨x,hx⟩ : ∃ x,rd_T70 l (i : Int) = x:=⟨_,rfl⟩
   rw [hx] at hx0 hx1 hx2 hx3 hx4 hx5 hx6 hl6 hC6
   have hlx : l.drop i = x :: l.drop (i + 1):=by rw [List.drop_eq_getElem_cons h,← hx];simp [rd_T70,h]
   have hmem : x ∈ l:=List.mem_of_mem_drop (i:=i) (by rw [hlx];exact List.mem_cons_self)
   have H:=HH.out
   rw [hlx,idxP] at H
   clear HH
   cases hpx : pred x with
   | true =>
    rw [hpx,if_pos rfl] at H
    have HH:=Aside0.mk H
    clear H
    go_wp2_with (go_at_call 88;with_reducible refine (HCL.out x A6 c6 _ hmem HB.out).mono ?_;rintro e w' ⟨rfl,hb⟩;rw [hpx])
    go_ret
    exact ⟨q64_,below_then HB.out HB.out.size hb⟩
   | false =>
    rw [hpx,if_neg q30_] at H
    have HH:=Aside0.mk H
    clear H
    go_wp2_with (go_at_call 88;with_reducible refine (HCL.out x A6 c6 _ hmem HB.out).mono ?_;rintro e w' ⟨rfl,hb⟩;rw [hpx])
    refine ⟨⟨i + 1,by simp [hw],h,HH,⟨below_then HB.out HB.out.size hb⟩⟩,?_⟩
    simp only [intOf,hw]
    omega
  ·have hg : ((i : Int) < (l.length : Int)) = False:=eq_false q5_
   have hil : l.drop i = []:=List.drop_eq_nil_of_le q5_
   have H:=HH.out
   rw [hil,idxP] at H
   have HH:=Aside0.mk H
   clear H
   go_wp2
   go_ret
   exact ⟨q64_,HB.out⟩
set_option maxRecDepth 100000 in
set_option maxHeartbeats 4000000 in
theorem indexUp (A : Option Addr) (c : Nat) (l : List Req) (g3 : Nat) (pred : Req → Bool) (w : World) (hr : Kd.C k41 w A l.length l) (hc : l.length ≤ c)
  (hcl : ∀ (x : Req) (W : World),x ∈ l → Below w.heap.size w W → Calls Tryz.prog 61 #[.agg #[.string x.f0,.int .i64 x.f1.f0,.int .i64 x.f1.f1,.int .i64 x.f1.f2,.string x.f1.f3,.string x.f1.f4],.pointer (some ⟨g3,0,none⟩)] W fun e w' => e = .returned (.bool (pred x)) ∧ Below W.heap.size W w') :
  Calls Tryz.prog 60 #[.slice A l.length c,.func (.func 61) #[] #[.pointer (some ⟨g3,0,none⟩)]] w fun e w' => e = .returned (.int .i64 (idxP pred l 0)) ∧ Below w.heap.size w w':=by
 have HR:=Aside0.mk hr
 have HC:=Aside0.mk hc
 have HCL:=Aside0.mk hcl
 have HB:=Aside0.mk (Below.refl w.heap.size w)
 clear hr hc hcl
 go_enter Tryz.func60,Tryz.ntmps60
 go_wp2
 go_loopw [8] (fun v8 wr => ∃ i : Nat,v8 = .int .i64 i ∧ i ≤ l.length ∧ Aside0 (idxP pred l 0 = idxP pred (l.drop i) i) ∧ Aside0 (Below w.heap.size w wr)) (fun v8 _ => l.length - (intOf v8).toNat)
 case atStart => exact ⟨0,rfl,Nat.zero_le _,⟨rfl⟩,HB⟩
 case round =>
  clear HB
  obtain ⟨i,rfl,hi,HH,HB⟩:=hrel
  by_cases h : i < l.length
  ·have hg : ((i : Int) < (l.length : Int)) = True:=eq_true q5_
   have hp : (0 ≤ (i : Int)) = True:=eq_true q5_
   have hmax:=Kd.C_max HR.out
   have hw : wrap64 ((i : Int) + 1) = (i : Int) + 1:=by unfold wrap64;omega
   obtain ⟨ad,e1,hx0,hx1,hx2,hx3,hx4,hx5⟩:=at_T41 (Kd.C_below HR.out HB.out) (i : Int) q5_ q5_
   cases e1
   simp only [Int.toNat_natCast] at hx0 hx1 hx2 hx3 hx4 hx5
   obtain ⟨x,hx⟩ : ∃ x,rd_T41 l (i : Int) = x:=⟨_,rfl⟩
   rw [hx] at hx0 hx1 hx2 hx3 hx4 hx5
   have hlx : l.drop i = x :: l.drop (i + 1):=by rw [List.drop_eq_getElem_cons h,← hx];simp [rd_T41,h]
   have hmem : x ∈ l:=List.mem_of_mem_drop (i:=i) (by rw [hlx];exact List.mem_cons_self)
   have H:=HH.out
   rw [hlx,idxP] at H
   clear HH
   cases hpx : pred x with
   | true =>
    rw [hpx,if_pos rfl] at H
    have HH:=Aside0.mk H
    clear H
    go_wp2_with (go_at_call 61;with_reducible refine (HCL.out x _ hmem HB.out).mono ?_;rintro e w' ⟨rfl,hb⟩;rw [hpx])
    go_ret
    exact ⟨q64_,below_then HB.out HB.out.size hb⟩
   | false =>
    rw [hpx,if_neg q30_] at H
    have HH:=Aside0.mk H
    clear H
    go_wp2_with (go_at_call 61;with_reducible refine (HCL.out x _ hmem HB.out).mono ?_;rintro e w' ⟨rfl,hb⟩;rw [hpx])
    refine ⟨⟨i + 1,by simp [hw],h,HH,⟨below_then HB.out HB.out.size hb⟩⟩,?_⟩
    simp only [intOf,hw]
    omega
  ·have hg : ((i : Int) < (l.length : Int)) = False:=eq_false q5_
   have hil : l.drop i = []:=List.drop_eq_nil_of_le q5_
   have H:=HH.out
   rw [hil,idxP] at H
   have HH:=Aside0.mk H
   clear H
   go_wp2
   go_ret
   exact ⟨q64_,HB.out⟩
set_option maxRecDepth 100000 in
set_option maxHeartbeats 4000000 in
theorem indexOut (A : Option Addr) (c : Nat) (l : List Req) (g3 : Nat) (pred : Req → Bool) (w : World) (hr : Kd.C k41 w A l.length l) (hc : l.length ≤ c)
  (hcl : ∀ (x : Req) (W : World),x ∈ l → Below w.heap.size w W → Calls Tryz.prog 93 #[.agg #[.string x.f0,.int .i64 x.f1.f0,.int .i64 x.f1.f1,.int .i64 x.f1.f2,.string x.f1.f3,.string x.f1.f4],.pointer (some ⟨g3,0,none⟩)] W fun e w' => e = .returned (.bool (pred x)) ∧ Below W.heap.size W w') :
  Calls Tryz.prog 60 #[.slice A l.length c,.func (.func 93) #[] #[.pointer (some ⟨g3,0,none⟩)]] w fun e w' => e = .returned (.int .i64 (idxP pred l 0)) ∧ Below w.heap.size w w':=by
 have HR:=Aside0.mk hr
 have HC:=Aside0.mk hc
 have HCL:=Aside0.mk hcl
 have HB:=Aside0.mk (Below.refl w.heap.size w)
 clear hr hc hcl
 go_enter Tryz.func60,Tryz.ntmps60
 go_wp2
 go_loopw [8] (fun v8 wr => ∃ i : Nat,v8 = .int .i64 i ∧ i ≤ l.length ∧ Aside0 (idxP pred l 0 = idxP pred (l.drop i) i) ∧ Aside0 (Below w.heap.size w wr)) (fun v8 _ => l.length - (intOf v8).toNat)
 case atStart => exact ⟨0,rfl,Nat.zero_le _,⟨rfl⟩,HB⟩
 case round =>
  clear HB
  obtain ⟨i,rfl,hi,HH,HB⟩:=hrel
  by_cases h : i < l.length
  ·have hg : ((i : Int) < (l.length : Int)) = True:=eq_true q5_
   have hp : (0 ≤ (i : Int)) = True:=eq_true q5_
   have hmax:=Kd.C_max HR.out
   have hw : wrap64 ((i : Int) + 1) = (i : Int) + 1:=by unfold wrap64;omega
   obtain ⟨ad,e1,hx0,hx1,hx2,hx3,hx4,hx5⟩:=at_T41 (Kd.C_below HR.out HB.out) (i : Int) q5_ q5_
   cases e1
   simp only [Int.toNat_natCast] at hx0 hx1 hx2 hx3 hx4 hx5
   obtain ⟨x,hx⟩ : ∃ x,rd_T41 l (i : Int) = x:=⟨_,rfl⟩
   rw [hx] at hx0 hx1 hx2 hx3 hx4 hx5
   have hlx : l.drop i = x :: l.drop (i + 1):=by rw [List.drop_eq_getElem_cons h,← hx];simp [rd_T41,h]
   have hmem : x ∈ l:=List.mem_of_mem_drop (i:=i) (by rw [hlx];exact List.mem_cons_self)
   have H:=HH.out
   rw [hlx,idxP] at H
   clear HH
   cases hpx : pred x with
   | true =>
    rw [hpx,if_pos rfl] at H
    have HH:=Aside0.mk H
    clear H
    go_wp2_with (go_at_call 93;with_reducible refine (HCL.out x _ hmem HB.out).mono ?_;rintro e w' ⟨rfl,hb⟩;rw [hpx])
    go_ret
    exact ⟨q64_,below_then HB.out HB.out.size hb⟩
   | false =>
    rw [hpx,if_neg q30_] at H
    have HH:=Aside0.mk H
    clear H
    go_wp2_with (go_at_call 93;with_reducible refine (HCL.out x _ hmem HB.out).mono ?_;rintro e w' ⟨rfl,hb⟩;rw [hpx])
    refine ⟨⟨i + 1,by simp [hw],h,HH,⟨below_then HB.out HB.out.size hb⟩⟩,?_⟩
    simp only [intOf,hw]
    omega
  ·have hg : ((i : Int) < (l.length : Int)) = False:=eq_false q5_
   have hil : l.drop i = []:=List.drop_eq_nil_of_le q5_
   have H:=HH.out
   rw [hil,idxP] at H
   have HH:=Aside0.mk H
   clear H
   go_wp2
   go_ret
   exact ⟨q64_,HB.out⟩
end Go.Proofs.YtennhpoemdaghaaGreatDoor.P
end
section
namespace Go.Proofs.YtennhpoemdaghaaGreatDoor.P
open Go Go.RowKit Go.Proofs.YtennhpoemdaghaaGreatDoorW.PrintWords
def eqR (x y : Req) : Bool:=x.f0.toList == y.f0.toList && (x.f1.f0 == y.f1.f0 && (x.f1.f1 == y.f1.f1 && (x.f1.f2 == y.f1.f2 && (x.f1.f3.toList == y.f1.f3.toList && (x.f1.f4.toList == y.f1.f4.toList)))))
def memR (l : List Req) (r : Req) : Bool:=l.any (fun x => eqR r x)
def fuelR : Nat:=100000
def mayP (r : Req) : Option Bool:=mvs_may.f fuelR r.f0 r.f1.f0 r.f1.f1 r.f1.f2 r.f1.f3 r.f1.f4
def moreP : List Req → List Req → Option (List Req)
 | all,[] => some all
 | all,r :: rs => (mayP r).bind fun b => if b && !memR all r then (if all.length < 1000000 then moreP (all ++ [r]) rs else none) else moreP all rs
def reqsP : List Node → Req → List Req
 | [],_ => []
 | n :: ns,r => if eqR n.f0 r then n.f1 else reqsP ns r
def walkP (nodes : List Node) : Nat → List Req → Nat → Option (List Req)
 | 0,_,_ => none
 | k + 1,all,i => if h : i < all.length then (moreP all (reqsP nodes all[i])).bind fun all' => walkP nodes k all' (i + 1) else some all
theorem index_gen (l : List Req) (r : Req) (hl : l.length ≤ 1000000) : ∀ d i : Nat,i ≤ l.length → l.length - i = d → ∀ k,d < k →
  ∃ j,slices_Index_apiReq.l0 k l (l.length : Int) (i : Int) r.f0 r.f1.f0 r.f1.f1 r.f1.f2 r.f1.f3 r.f1.f4 = some j ∧ (decide (0 ≤ j) = memR (l.drop i) r):=by
 intro d
 induction d with
 | zero =>
  intro i hi hd k hk
  obtain ⟨k,rfl⟩ : ∃ m,k = m + 1:=⟨k - 1,by omega⟩
  rw [slices_Index_apiReq.l0,if_neg q5_,List.drop_eq_nil_of_le q5_]
  exact ⟨-1,rfl,rfl⟩
 | succ d ih =>
  intro i hi hd k hk
  obtain ⟨k,rfl⟩ : ∃ m,k = m + 1:=⟨k - 1,by omega⟩
  have h : i < l.length:=by omega
  have hr : rd_T41 l (i : Int) = l[i]:=by simp [rd_T41,h]
  have hw : wrap64 ((i : Int) + 1) = ((i + 1 : Nat) : Int):=by unfold wrap64;omega
  rw [slices_Index_apiReq.l0,if_pos q5_,if_pos q5_,if_pos q5_,hr,hw,List.drop_eq_getElem_cons h]
  have hm : memR (l[i] :: l.drop (i + 1)) r = (eqR r l[i] || memR (l.drop (i + 1)) r):=rfl
  rw [hm]
  cases he : eqR r l[i] with
  | true => exact ⟨i,by unfold eqR at he;rw [if_pos he],by simp⟩
  | false =>
   obtain ⟨j,h1,h2⟩:=ih (i + 1) q5_ q5_ k q5_
   exact ⟨j,by unfold eqR at he;rw [if_neg (by rw [he];simp)];exact h1,by rw [h2];rfl⟩
theorem contains_f (l : List Req) (r : Req) (hl : l.length ≤ 1000000) (k : Nat) (hk : l.length < k) : slices_Contains_apiReq.f k l r.f0 r.f1.f0 r.f1.f1 r.f1.f2 r.f1.f3 r.f1.f4 = some (memR l r):=by
 obtain ⟨j,h1,h2⟩:=index_gen l r hl l.length 0 (Nat.zero_le _) rfl k hk
 unfold slices_Contains_apiReq.f slices_Index_apiReq.f
 rw [show ((0 : Nat) : Int) = 0 from rfl] at h1
 rw [List.drop_zero] at h2
 rw [h1,Option.bind_some,← h2]
theorem lastOcc_le (s sub : List UInt8) : ∀ n : Nat,Lib.lastOcc s sub n < n:=by
 intro n
 induction n with
 | zero => show (-1 : Int) < 0;decide
 | succ n ih =>
  unfold Lib.lastOcc
  split <;> omega
theorem base_some (s : ByteArray) (hs : s.size ≤ 60) : ∃ b,mpath_Base.f s = some b:=by
 unfold mpath_Base.f strings_LastIndex.f
 have hz : s.data.toList.length = s.size:=rfl
 rw [if_pos q5_,Option.bind_some]
 have hb : Lib.lastIndex s.data.toList [47] ≤ (s.size : Int):=by
  unfold Lib.lastIndex
  split
  ·have:=lastOcc_le s.data.toList [47] (s.data.toList.length - [(47 : UInt8)].length + 1)
   simp only [List.length_singleton] at *
   omega
  ·omega
 show ∃ b,(if Lib.lastIndex s.data.toList [47] < 0 then _ else _) = some b
 generalize Lib.lastIndex s.data.toList [47] = i at hb
 by_cases h : i < 0
 ·exact ⟨_,if_pos h⟩
 ·rw [if_neg h,if_pos q5_,if_pos hb]
  exact ⟨_,rfl⟩
theorem refbase_gen (s : ByteArray) (hs : s.size ≤ 60) : ∀ (i : Nat) (k : Nat),i ≤ s.size → i + 1 < k → ∃ b,Rf08_Base.l0 k s ((i : Int) - 1) = some b:=by
 intro i
 induction i with
 | zero =>
  intro k hi hk
  obtain ⟨k,rfl⟩ : ∃ m,k = m + 1:=⟨k - 1,by omega⟩
  rw [Rf08_Base.l0,if_neg q5_]
  exact ⟨_,rfl⟩
 | succ i ih =>
  intro k hi hk
  obtain ⟨k,rfl⟩ : ∃ m,k = m + 1:=⟨k - 1,by omega⟩
  have hw : wrap64 (((i + 1 : Nat) : Int) - 1 - 1) = (i : Int) - 1:=by unfold wrap64;omega
  rw [Rf08_Base.l0,if_pos q5_,if_pos q5_,if_pos q5_,hw]
  obtain ⟨b,hb⟩:=ih k q5_ q5_
  split
  ·rw [if_pos q5_];exact ⟨_,rfl⟩
  ·exact ⟨b,hb⟩
theorem refbase_some (s : ByteArray) (hs : s.size ≤ 60) (k : Nat) (hk : 100 < k) : ∃ b,Rf08_Base.f k s = some b:=by
 unfold Rf08_Base.f
 have hw : wrap64 ((s.size : Int) - 1) = (s.size : Int) - 1:=by unfold wrap64;omega
 rw [hw]
 exact refbase_gen s hs s.size k (Nat.le_refl _) q5_
def lastN (s : ByteArray) : Int:=if tellB ((splitS 47 s).getLastD ByteArray.empty) then numbB ((splitS 47 s).getLastD ByteArray.empty) else 0
theorem pmajor_f (s : ByteArray) (k : Nat) (hk : 100 < k) : ∃ b,mpath_Major.f k s = some (b,if chkB s then lastN s else 0,chkB s):=by
 unfold mpath_Major.f
 rw [pchk_f s k hk,Option.bind_some]
 cases hc : chkB s with
 | false => exact ⟨_,rfl⟩
 | true =>
  have hp : pathB s.data.toList = true:=by unfold chkB at hc;rw [Bool.and_eq_true] at hc;exact hc.1
  have hs:=pathB_size hp
  obtain ⟨h1,h2,h3⟩:=parts_small s hs
  obtain ⟨b,hb⟩:=base_some s hs
  rw [if_pos rfl]
  unfold mpath_split.f
  rw [if_pos q5_,Option.bind_some]
  rw [show mpath_major.f ((splitS 47 s).dropLast,(splitS 47 s).getLastD ByteArray.empty).2 = some (numbB ((splitS 47 s).getLastD ByteArray.empty),tellB ((splitS 47 s).getLastD ByteArray.empty)) from major_f ((splitS 47 s).getLastD ByteArray.empty) q5_,Option.bind_some,hb]
  unfold lastN
  cases tellB ((splitS 47 s).getLastD ByteArray.empty) with
  | false => exact ⟨_,rfl⟩
  | true => exact ⟨b,rfl⟩
theorem rmajor_f (s : ByteArray) (k : Nat) (hk : 400 < k) : ∃ b,Rf08_Major.f k s = some (b,if chkB s then lastN s else 0,chkB s):=by
 unfold Rf08_Major.f
 rw [rchk_f s k q5_,Option.bind_some]
 cases hc : chkB s with
 | false => exact ⟨_,rfl⟩
 | true =>
  have hp : pathB s.data.toList = true:=by unfold chkB at hc;rw [Bool.and_eq_true] at hc;exact hc.1
  have hs:=pathB_size hp
  obtain ⟨h1,h2,h3⟩:=parts_small s hs
  obtain ⟨b,hb⟩:=refbase_some s hs k q5_
  have hsp:=refSplit_f s 47 q5_ k q5_
  rw [show ((47 : UInt8).toNat : Int) = 47 from rfl] at hsp
  have hlen : (splitS 47 s).length = (splitS 47 s).dropLast.length + 1:=by
   have:=congrArg List.length (split_last s)
   rw [List.length_append,List.length_singleton] at this
   exact this
  have hw : wrap64 (((splitS 47 s).length : Int) - 1) = ((splitS 47 s).dropLast.length : Int):=by unfold wrap64;omega
  have hr : rdOf ByteArray.empty (splitS 47 s) ((splitS 47 s).dropLast.length : Int) = (splitS 47 s).getLastD ByteArray.empty:=by
   have e:=split_last s
   generalize (splitS 47 s).dropLast = D at e ⊢
   generalize (splitS 47 s).getLastD ByteArray.empty = z at e ⊢
   rw [e]
   simp [rdOf]
  rw [if_pos rfl,hsp,Option.bind_some,hw,if_pos q5_,if_pos q5_,hr,(show Rf08_tells.f k ((splitS 47 s).getLastD ByteArray.empty) = some (tellB ((splitS 47 s).getLastD ByteArray.empty)) from tells_f _ q5_ _ q5_),Option.bind_some,hb]
  unfold lastN
  cases ht : tellB ((splitS 47 s).getLastD ByteArray.empty) with
  | false => exact ⟨_,rfl⟩
  | true =>
   rw [(show Rf08_number.f k ((splitS 47 s).getLastD ByteArray.empty) = some (numbB ((splitS 47 s).getLastD ByteArray.empty)) from number_f _ ht _ q5_)]
   exact ⟨b,rfl⟩
def fitsB (s : ByteArray) (a b c : Int) (p q : ByteArray) : Bool:=chkB s && verB a b c p.data.toList q.data.toList && (if lastN s = 0 then decide (a < 2) else a == lastN s)
theorem pfits_f (s : ByteArray) (a b c : Int) (p q : ByteArray) (k : Nat) (hk : 100 < k) : mpath_Fits.f k s a b c p q = some (fitsB s a b c p q):=by
 obtain ⟨ba,hm⟩:=pmajor_f s k hk
 unfold mpath_Fits.f fitsB
 rw [hm,Option.bind_some]
 obtain ⟨k,rfl⟩ : ∃ m,k = m + 1:=⟨k - 1,by omega⟩
 cases chkB s with
 | false => rfl
 | true =>
  simp only [if_true,ver_Check.f,Option.bind_some,mpath_Fits.j0,Bool.true_and]
  cases verB a b c p.data.toList q.data.toList with
  | false => rfl
  | true =>
   rw [if_neg q30_]
   split <;> rfl
theorem rfits_f (s : ByteArray) (a b c : Int) (p q : ByteArray) (k : Nat) (hk : 1300 < k) : Rf08_Fits.f k s a b c p q = some (fitsB s a b c p q):=by
 obtain ⟨ba,hm⟩:=rmajor_f s k q5_
 unfold Rf08_Fits.f fitsB
 rw [hm,Option.bind_some]
 cases chkB s with
 | false => rfl
 | true =>
  simp only [if_true,refVer_f a b c p q k q5_,Option.bind_some,Bool.true_and]
  cases hv : verB a b c p.data.toList q.data.toList with
  | false => rfl
  | true =>
   have h0 : 0 ≤ a:=by
    unfold verB at hv
    simp only [Bool.and_eq_true] at hv
    have hn:=hv.1.1.1.1.1.1
    unfold numB at hn
    rw [Bool.and_eq_true] at hn
    exact of_decide_eq_true hn.1
   simp only [if_true,Bool.true_and]
   by_cases hn : lastN s = 0
   ·rw [if_pos hn,hn]
    by_cases ha : a = 0
    ·rw [if_pos ha,ha];rfl
    ·rw [if_neg ha,if_pos rfl]
     congr 1
     by_cases h1 : a = 1
     ·rw [h1];rfl
     ·have e : (a == 1) = false:=by simpa using h1
      rw [e,decide_eq_false q5_]
   ·rw [if_neg hn]
    by_cases ha : a = lastN s
    ·rw [if_pos ha];simp [ha,hn]
    ·rw [if_neg ha,if_neg hn];simp [ha]
def mayB (r : Req) : Bool:=fitsB r.f0 r.f1.f0 r.f1.f1 r.f1.f2 r.f1.f3 r.f1.f4
theorem mayP_eq (r : Req) : mayP r = some (mayB r):=by
 unfold mayP mvs_may.f
 rw [pfits_f _ _ _ _ _ _ fuelR q30_]
 rfl
theorem refMay_eq (r : Req) (k : Nat) (hk : 1300 < k) : Rf17_May.f k r.f0 r.f1.f0 r.f1.f1 r.f1.f2 r.f1.f3 r.f1.f4 = some (mayB r):=by
 unfold Rf17_May.f
 rw [rfits_f _ _ _ _ _ _ k hk]
 rfl
end Go.Proofs.YtennhpoemdaghaaGreatDoor.P
end
section
namespace Go.Proofs.YtennhpoemdaghaaGreatDoor.P
open Go.RowKit Go.Proofs.YtennhpoemdaghaaGreatDoorW.PrintWords Go.Proofs.YtennhpoemdaghaaGreatDoorW.PrintLast Go.Proofs.YtennhpoemdaghaaGreatDoorW.PrintMore
def cmp_isNaN_int.f (a0 : Int) : Option (Bool):=some (a0 != a0)
set_option maxHeartbeats 8000000 in
set_option maxRecDepth 100000 in
theorem cmp_isNaN_int.calls (a0 : Int) (r : Bool) (w : World) (h : cmp_isNaN_int.f a0 = some r) :
  Calls Tryz.prog 119 #[.int .i64 a0] w fun e w' => e = .returned (.bool r) ∧ Drawn0 w w':=by
 have H : (some (a0 != a0)) = some r:=h
 clear h
 obtain rfl:=Option.some.inj H
 go_enter Tryz.func119,Tryz.ntmps119
 go_wp2
 go_ret
 exact ⟨q3_,q4_⟩
def cmp_Compare_int.f (a0 : Int) (a1 : Int) : Option (Int):=(cmp_isNaN_int.f a0).bind fun t101 => ((cmp_isNaN_int.f a1).bind fun t102 => (if t101 = true then (if t102 = true then (some 0) else (some (-1))) else (if t102 = true then (some 1) else (if a0 < a1 then (some (-1)) else (if a0 > a1 then (some 1) else (some 0))))))
set_option maxHeartbeats 8000000 in
set_option maxRecDepth 100000 in
theorem cmp_Compare_int.calls (a0 : Int) (a1 : Int) (r : Int) (w : World) (h : cmp_Compare_int.f a0 a1 = some r) :
  Calls Tryz.prog 84 #[.int .i64 a0,.int .i64 a1] w fun e w' => e = .returned (.int .i64 r) ∧ Drawn0 w w':=by
 have H : ((cmp_isNaN_int.f a0).bind fun t101 => ((cmp_isNaN_int.f a1).bind fun t102 => (if t101 = true then (if t102 = true then (some 0) else (some (-1))) else (if t102 = true then (some 1) else (if a0 < a1 then (some (-1)) else (if a0 > a1 then (some 1) else (some 0))))))) = some r:=h
 clear h
 obtain ⟨t101,A30,H⟩:=Option.bind_eq_some_iff.mp H
 have A3:=Aside0.mk A30
 clear A30
 obtain ⟨t102,A40,H⟩:=Option.bind_eq_some_iff.mp H
 have A4:=Aside0.mk A40
 clear A40
 by_cases c5 : t101 = true
 ·subst c5
  rw [if_pos rfl] at H
  by_cases c6 : t102 = true
  ·subst c6
   rw [if_pos rfl] at H
   obtain rfl:=Option.some.inj H
   go_enter Tryz.func84,Tryz.ntmps84
   go_wp2_with (first | ((with_reducible refine gate_callee (f:=119) rfl ?_);refine gl_ 8 Tryz.func119 #[.int .i64 a0] ?_;(with_reducible refine (cmp_isNaN_int.calls a0 true _ A3.out).mono ?_);rintro e w' ⟨rfl,⟨nd,rfl⟩⟩;refine ⟨_,rfl,?_⟩) | ((with_reducible refine gate_callee (f:=119) rfl ?_);refine gl_ 10 Tryz.func119 #[.int .i64 a1] ?_;(with_reducible refine (cmp_isNaN_int.calls a1 true _ A4.out).mono ?_);rintro e w' ⟨rfl,⟨nd,rfl⟩⟩;refine ⟨_,rfl,?_⟩))
   go_ret
   exact ⟨q3_,q4_⟩
  ·replace c6:=Bool.eq_false_iff.mpr c6
   subst c6
   rw [if_neg (show ¬ (false = true) by decide)] at H
   obtain rfl:=Option.some.inj H
   go_enter Tryz.func84,Tryz.ntmps84
   go_wp2_with (first | ((with_reducible refine gate_callee (f:=119) rfl ?_);refine gl_ 8 Tryz.func119 #[.int .i64 a0] ?_;(with_reducible refine (cmp_isNaN_int.calls a0 true _ A3.out).mono ?_);rintro e w' ⟨rfl,⟨nd,rfl⟩⟩;refine ⟨_,rfl,?_⟩) | ((with_reducible refine gate_callee (f:=119) rfl ?_);refine gl_ 10 Tryz.func119 #[.int .i64 a1] ?_;(with_reducible refine (cmp_isNaN_int.calls a1 false _ A4.out).mono ?_);rintro e w' ⟨rfl,⟨nd,rfl⟩⟩;refine ⟨_,rfl,?_⟩))
   go_ret
   exact ⟨q3_,q4_⟩
 ·replace c5:=Bool.eq_false_iff.mpr c5
  subst c5
  rw [if_neg (show ¬ (false = true) by decide)] at H
  by_cases c7 : t102 = true
  ·subst c7
   rw [if_pos rfl] at H
   obtain rfl:=Option.some.inj H
   go_enter Tryz.func84,Tryz.ntmps84
   go_wp2_with (first | ((with_reducible refine gate_callee (f:=119) rfl ?_);refine gl_ 8 Tryz.func119 #[.int .i64 a0] ?_;(with_reducible refine (cmp_isNaN_int.calls a0 false _ A3.out).mono ?_);rintro e w' ⟨rfl,⟨nd,rfl⟩⟩;refine ⟨_,rfl,?_⟩) | ((with_reducible refine gate_callee (f:=119) rfl ?_);refine gl_ 10 Tryz.func119 #[.int .i64 a1] ?_;(with_reducible refine (cmp_isNaN_int.calls a1 true _ A4.out).mono ?_);rintro e w' ⟨rfl,⟨nd,rfl⟩⟩;refine ⟨_,rfl,?_⟩))
   go_ret
   exact ⟨q3_,q4_⟩
  ·replace c7:=Bool.eq_false_iff.mpr c7
   subst c7
   rw [if_neg (show ¬ (false = true) by decide)] at H
   by_cases c8 : a0 < a1
   ·rw [if_pos c8] at H
    have c8b0:=decide_eq_true c8
    clear c8
    obtain rfl:=Option.some.inj H
    go_enter Tryz.func84,Tryz.ntmps84
    go_wp2_with (first | ((with_reducible refine gate_callee (f:=119) rfl ?_);refine gl_ 8 Tryz.func119 #[.int .i64 a0] ?_;(with_reducible refine (cmp_isNaN_int.calls a0 false _ A3.out).mono ?_);rintro e w' ⟨rfl,⟨nd,rfl⟩⟩;refine ⟨_,rfl,?_⟩) | ((with_reducible refine gate_callee (f:=119) rfl ?_);refine gl_ 10 Tryz.func119 #[.int .i64 a1] ?_;(with_reducible refine (cmp_isNaN_int.calls a1 false _ A4.out).mono ?_);rintro e w' ⟨rfl,⟨nd,rfl⟩⟩;refine ⟨_,rfl,?_⟩))
    go_ret
    exact ⟨q3_,q4_⟩
   ·rw [if_neg c8] at H
    have c8b0:=decide_eq_false c8
    clear c8
    by_cases c9 : a0 > a1
    ·rw [if_pos c9] at H
     have c9b0 : decide (a1 < a0) = true:=decide_eq_true c9
     clear c9
     obtain rfl:=Option.some.inj H
     go_enter Tryz.func84,Tryz.ntmps84
     go_wp2_with (first | ((with_reducible refine gate_callee (f:=119) rfl ?_);refine gl_ 8 Tryz.func119 #[.int .i64 a0] ?_;(with_reducible refine (cmp_isNaN_int.calls a0 false _ A3.out).mono ?_);rintro e w' ⟨rfl,⟨nd,rfl⟩⟩;refine ⟨_,rfl,?_⟩) | ((with_reducible refine gate_callee (f:=119) rfl ?_);refine gl_ 10 Tryz.func119 #[.int .i64 a1] ?_;(with_reducible refine (cmp_isNaN_int.calls a1 false _ A4.out).mono ?_);rintro e w' ⟨rfl,⟨nd,rfl⟩⟩;refine ⟨_,rfl,?_⟩))
     go_ret
     exact ⟨q3_,q4_⟩
    ·rw [if_neg c9] at H
     have c9b0 : decide (a1 < a0) = false:=decide_eq_false c9
     clear c9
     obtain rfl:=Option.some.inj H
     go_enter Tryz.func84,Tryz.ntmps84
     go_wp2_with (first | ((with_reducible refine gate_callee (f:=119) rfl ?_);refine gl_ 8 Tryz.func119 #[.int .i64 a0] ?_;(with_reducible refine (cmp_isNaN_int.calls a0 false _ A3.out).mono ?_);rintro e w' ⟨rfl,⟨nd,rfl⟩⟩;refine ⟨_,rfl,?_⟩) | ((with_reducible refine gate_callee (f:=119) rfl ?_);refine gl_ 10 Tryz.func119 #[.int .i64 a1] ?_;(with_reducible refine (cmp_isNaN_int.calls a1 false _ A4.out).mono ?_);rintro e w' ⟨rfl,⟨nd,rfl⟩⟩;refine ⟨_,rfl,?_⟩))
     go_ret
     exact ⟨q3_,q4_⟩
def cmp_Or_int.l0 : Nat → Int → List Int → Int → Int → Option (Int)
 | 0,_,_,_,_ => none
 | k + 1,x3,x6,x7,x8 => if x8 < x7 then (if 0 ≤ x8 then (if x8 < (x6.length : Int) then (if (rd x6 x8) = x3 then (cmp_Or_int.l0 k x3 x6 x7 (wrap64 (x8 + 1))) else (some (rd x6 x8))) else (none)) else (none)) else (some x3)
def cmp_Or_int.f (k : Nat) (l0 : List Int) : Option (Int):=cmp_Or_int.l0 k 0 l0 (l0.length : Int) 0
set_option maxHeartbeats 8000000 in
set_option maxRecDepth 100000 in
theorem cmp_Or_int.calls (k : Nat) (A0 : Option Addr) (c0 : Nat) (l0 : List Int) (r : Int) (w : World) (hr0 : Kd.C (Kd.int .i64) w A0 l0.length l0) (hc0 : l0.length ≤ c0) (h : cmp_Or_int.f k l0 = some r) :
  Calls Tryz.prog 83 #[.slice A0 l0.length c0] w fun e w' => e = .returned (.int .i64 r) ∧ Drawn0 w w':=by
 have HR0:=Aside0.mk hr0
 have HC0:=Aside0.mk hc0
 clear hr0 hc0
 have H : (cmp_Or_int.l0 k 0 l0 (l0.length : Int) 0) = some r:=h
 clear h
 have H':=Aside0.mk H
 clear H
 go_enter Tryz.func83,Tryz.ntmps83
 go_wp2
 go_loopg [8] k (fun kq v8 w' => ∃ (x8_1 : Int),v8 = .int .i64 x8_1 ∧ Aside0 (cmp_Or_int.l0 kq 0 l0 (l0.length : Int) x8_1 = some r) ∧ Aside0 (kq ≤ k) ∧ Drawn0 w w')
 case atStart => exact ⟨(0),q12_,H',⟨Nat.le_refl _⟩,by repeat (first | exact Drawn0.refl _ | apply Drawn0.step)⟩
 case round =>
  clear H'
  obtain ⟨x8_1,rfl,HA,HK1,⟨m1,rfl⟩⟩:=hrel
  cases gk with
  | zero => exact absurd HA.out (by simp [cmp_Or_int.l0])
  | succ k1 =>
   have H:=HA.out
   clear HA
   simp only [cmp_Or_int.l0] at H
   by_cases c2 : x8_1 < (l0.length : Int)
   ·rw [if_pos c2] at H
    have c2b0:=decide_eq_true c2
    clear c2
    by_cases c3 : 0 ≤ x8_1
    ·rw [if_pos c3] at H
     have c3b0:=decide_eq_true c3
     clear c3
     by_cases c4 : x8_1 < (l0.length : Int)
     ·rw [if_pos c4] at H
      have c4b0:=decide_eq_true c4
      clear c4
      by_cases c5 : (rd l0 x8_1) = 0
      ·rw [if_pos c5] at H
       have c5b0:=beq_iff_eq.mpr c5
       have c5b1:=bne_eq_false_iff_eq.mpr c5
       clear c5
       have H':=Aside0.mk H
       clear H
       have p101 : 0 ≤ (x8_1 : Int):=of_decide_eq_true q1_
       have q101 : x8_1 < (l0.length : Int):=of_decide_eq_true q1_
       obtain ⟨ad101,e101,hx101_0⟩:=Kd.at_int HR0.out x8_1 p101 q101
       cases e101
       replace p101:=eq_true p101
       replace q101:=eq_true q101
       go_wp2
       go_roundg k1
       case measure => have:=HK1.out;omega
       case rel => exact ⟨(wrap64 (x8_1 + 1)),q12_,H',⟨by have:=HK1.out;omega⟩,by repeat (first | exact Drawn0.refl _ | apply Drawn0.step)⟩
      ·rw [if_neg c5] at H
       have c5b0:=beq_eq_false_iff_ne.mpr c5
       have c5b1:=bne_iff_ne.mpr c5
       obtain rfl:=Option.some.inj H
       have p101 : 0 ≤ (x8_1 : Int):=of_decide_eq_true q1_
       have q101 : x8_1 < (l0.length : Int):=of_decide_eq_true q1_
       obtain ⟨ad101,e101,hx101_0⟩:=Kd.at_int HR0.out x8_1 p101 q101
       cases e101
       replace p101:=eq_true p101
       replace q101:=eq_true q101
       go_wp2
       go_ret
       exact ⟨q3_,q4_⟩
     ·rw [if_neg c4] at H
      exact absurd H q25_
    ·rw [if_neg c3] at H
     exact absurd H q25_
   ·rw [if_neg c2] at H
    have c2b0:=decide_eq_false c2
    clear c2
    obtain rfl:=Option.some.inj H
    go_wp2
    go_ret
    exact ⟨q3_,q4_⟩
def ver_byWord.j0 : Nat → ByteArray → ByteArray → Bool → Bool → Bool → Option (Int)
 | 0,_,_,_,_,_ => none
 | k + 1,x0,x1,x5,x6,x11 => if x11 = true then ((cmp_Compare_int.f (x0.size : Int) (x1.size : Int)).bind fun t103 => ((strings_Compare.f x0 x1).bind fun t104 => ((cmp_Or_int.f k (([t103,t104] : List Int))).bind fun t108 => (some t108)))) else (if x5 = true then (some (-1)) else (if x6 = true then (some 1) else ((strings_Compare.f x0 x1).bind fun t109 => (some t109))))
def ver_byWord.f (k : Nat) (a0 : ByteArray) (a1 : ByteArray) : Option (Int):=(ver_digits.f k a0).bind fun t101 => ((ver_digits.f k a1).bind fun t102 => (if t101 = true then (ver_byWord.j0 k a0 a1 t101 t102 t102) else (ver_byWord.j0 k a0 a1 t101 t102 false)))
set_option maxHeartbeats 8000000 in
set_option maxRecDepth 100000 in
theorem ver_byWord.calls (k : Nat) (a0 : ByteArray) (a1 : ByteArray) (r : Int) (w : World) (h : ver_byWord.f k a0 a1 = some r) :
  Calls Tryz.prog 121 #[.string a0,.string a1] w fun e w' => e = .returned (.int .i64 r) ∧ Below w.heap.size w w':=by
 have HB:=Aside0.mk (Below.refl w.heap.size w)
 have H : ((ver_digits.f k a0).bind fun t101 => ((ver_digits.f k a1).bind fun t102 => (if t101 = true then (ver_byWord.j0 k a0 a1 t101 t102 t102) else (ver_byWord.j0 k a0 a1 t101 t102 false)))) = some r:=h
 clear h
 obtain ⟨t101,A30,H⟩:=Option.bind_eq_some_iff.mp H
 have A3:=Aside0.mk A30
 clear A30
 obtain ⟨t102,A40,H⟩:=Option.bind_eq_some_iff.mp H
 have A4:=Aside0.mk A40
 clear A40
 have HC5:=Aside0.mk H
 clear H
 go_enter Tryz.func121,Tryz.ntmps121
 go_upto_region 2 with (first | ((with_reducible refine gate_callee (f:=146) rfl ?_);refine gl_ 8 Tryz.func146 #[.string a0] ?_;(with_reducible refine (ver_digits.calls k a0 t101 _ A3.out).mono ?_);rintro e w' ⟨rfl,⟨nd,rfl⟩⟩;refine ⟨_,rfl,?_⟩) | ((with_reducible refine gate_callee (f:=146) rfl ?_);refine gl_ 10 Tryz.func146 #[.string a1] ?_;(with_reducible refine (ver_digits.calls k a1 t102 _ A4.out).mono ?_);rintro e w' ⟨rfl,⟨nd,rfl⟩⟩;refine ⟨_,rfl,?_⟩))
 (try simp only [Act.put,List.setIfInBounds_toArray,List.set_cons_zero,List.set_cons_succ])
 go_cut [11] (fun v11 wc => ∃ (kq : Nat) (x11_4 : Bool),v11 = .bool x11_4 ∧ Aside0 (ver_byWord.j0 kq a0 a1 t101 t102 x11_4 = some r) ∧ Aside0 (kq ≤ k) ∧ Aside0 (Below w.heap.size w wc))
 case first =>
  have H:=HC5.out
  clear HC5
  by_cases c6 : t101 = true
  ·subst c6
   rw [if_pos rfl] at H
   have H':=Aside0.mk H
   clear H
   go_wp2
   go_meet
   case rel => exact ⟨_,(t102),q12_,H',⟨by first | omega | exact Nat.le_refl _⟩,⟨by repeat (first | (with_reducible first | exact HB.out | apply below_alloc | apply pw_below_drewN | apply below_drew1) | exact HB.out)⟩⟩
  ·replace c6:=Bool.eq_false_iff.mpr c6
   subst c6
   rw [if_neg (show ¬ (false = true) by decide)] at H
   have H':=Aside0.mk H
   clear H
   go_wp2
   go_meet
   case rel => exact ⟨_,(false),q12_,H',⟨by first | omega | exact Nat.le_refl _⟩,⟨by repeat (first | (with_reducible first | exact HB.out | apply below_alloc | apply pw_below_drewN | apply below_drew1) | exact HB.out)⟩⟩
 case rest =>
  clear HC5
  try clear c1
  try clear p2
  try clear c6
  obtain ⟨kq,x11_4,rfl,HA,HJ4,HB⟩:=hcut
  cases kq with
  | zero => exact absurd HA.out (by simp [ver_byWord.j0])
  | succ kj4 =>
   have H:=HA.out
   clear HA
   simp only [ver_byWord.j0] at H
   by_cases c7 : x11_4 = true
   ·subst c7
    rw [if_pos rfl] at H
    obtain ⟨t103,A80,H⟩:=Option.bind_eq_some_iff.mp H
    have A8:=Aside0.mk A80
    clear A80
    obtain ⟨t104,A90,H⟩:=Option.bind_eq_some_iff.mp H
    have A9:=Aside0.mk A90
    clear A90
    obtain ⟨y105,hy105⟩ : ∃ y_ : List Int,y_ = (([t103,t104] : List Int)):=⟨_,rfl⟩
    replace H : ((cmp_Or_int.f kj4 y105).bind fun t108 => (some t108)) = some r:=by first | (rw [hy105];with_reducible exact H) | (have H2_:=(Option.bind_some _ _).symm.trans H;rw [hy105];with_reducible exact H2_) | (have H2_:=(Option.bind_some _ _).symm.trans H;with_reducible exact H2_) | with_reducible exact H | (rw [hy105];exact H) | exact H
    have Ny105:=Aside0.mk hy105
    clear hy105
    obtain ⟨t108,A100,H⟩:=Option.bind_eq_some_iff.mp H
    have A10:=Aside0.mk A100
    clear A100
    obtain rfl:=Option.some.inj H
    go_wp2_with (first | ((with_reducible refine gate_callee (f:=84) rfl ?_);refine gl_ 20 Tryz.func84 #[.int .i64 (a0.size : Int),.int .i64 (a1.size : Int)] ?_;(with_reducible refine (cmp_Compare_int.calls (a0.size : Int) (a1.size : Int) t103 _ A8.out).mono ?_);rintro e w' ⟨rfl,⟨nd,rfl⟩⟩;refine ⟨_,rfl,?_⟩) | ((with_reducible refine gate_callee (f:=55) rfl ?_);refine gl_ 23 Tryz.func55 #[.string a0,.string a1] ?_;(with_reducible refine (strings_Compare.calls a0 a1 t104 _ A9.out).mono ?_);rintro e w' ⟨rfl,⟨nd,rfl⟩⟩;refine ⟨_,rfl,?_⟩) | ((with_reducible refine gate_dst (N:=24) rfl ?_);refine Kd.R_lit (Kd.int .i64) _ 3 ?hg (N:=24) ?hd (xs:=([t103,t104] : List Int)) (inner:=[.int .i64 t103,.int .i64 t104]) (ok:=fun _ => True) (okp:=fun _ => True) ?hr ?hp (fun _ hk => hk) trivial (Below.refl _ _) (Nat.le_refl _) q25_ ?_;(case hd => rfl);(case hg => rfl);(case hr => first | (go_simp;done) | (go_simp;rfl));(case hp => exact (Reps.one (show Kd.M (Kd.int .i64) _ _ _ t103 [.int .i64 t103] from rfl) (Reps.one (show Kd.M (Kd.int .i64) _ _ _ t104 [.int .i64 t104] from rfl) (Reps.none _ _))));intro v106 w11 ho12 hb hg_ hnew_;clear hg_ hnew_;(first | rw [← Ny105.out] at ho12 | (simp only [Int.reduceToNat] at ho12;rw [← Ny105.out] at ho12));have HO107:=Aside0.mk (Kd.R_lower ho12 (below_size bh_));replace HB:=Aside0.mk (below_step bh_ hb);clear hb ho12;obtain ⟨Ao13,co13,eo13⟩:=Kd.R_slice HO107.out;subst eo13) | ((with_reducible refine gate_callee (f:=83) rfl ?_);refine gl_ 25 Tryz.func83 #[.slice Ao13 y105.length co13] ?_;(with_reducible refine (cmp_Or_int.calls kj4 _ _ y105 t108 _ ?side1 ?side2 A10.out).mono ?_);(case side1 => repeat (first | exact (Kd.R_reads' HO107.out).2.2 | (with_reducible refine Kd.C_alloc ?_ _) | (with_reducible refine Kd.C_drewN ?_ _) | (with_reducible refine Kd.C_drew ?_)));(case side2 => exact (Kd.R_reads' HO107.out).2.1);rintro e w' ⟨rfl,⟨nd,rfl⟩⟩;refine ⟨_,rfl,?_⟩))
    go_ret
    exact ⟨q2_,bh_⟩
   ·replace c7:=Bool.eq_false_iff.mpr c7
    subst c7
    rw [if_neg (show ¬ (false = true) by decide)] at H
    by_cases c14 : t101 = true
    ·subst c14
     rw [if_pos rfl] at H
     obtain rfl:=Option.some.inj H
     go_wp2
     go_ret
     exact ⟨q2_,bh_⟩
    ·replace c14:=Bool.eq_false_iff.mpr c14
     subst c14
     rw [if_neg (show ¬ (false = true) by decide)] at H
     by_cases c15 : t102 = true
     ·subst c15
      rw [if_pos rfl] at H
      obtain rfl:=Option.some.inj H
      go_wp2
      go_ret
      exact ⟨q2_,bh_⟩
     ·replace c15:=Bool.eq_false_iff.mpr c15
      subst c15
      rw [if_neg (show ¬ (false = true) by decide)] at H
      obtain ⟨t109,A160,H⟩:=Option.bind_eq_some_iff.mp H
      have A16:=Aside0.mk A160
      clear A160
      obtain rfl:=Option.some.inj H
      go_wp2_with (first | ((with_reducible refine gate_callee (f:=55) rfl ?_);refine gl_ 32 Tryz.func55 #[.string a0,.string a1] ?_;(with_reducible refine (strings_Compare.calls a0 a1 t109 _ A16.out).mono ?_);rintro e w' ⟨rfl,⟨nd,rfl⟩⟩;refine ⟨_,rfl,?_⟩))
      go_ret
      exact ⟨q2_,bh_⟩
end Go.Proofs.YtennhpoemdaghaaGreatDoor.P
end
section
namespace Go.Proofs.YtennhpoemdaghaaGreatDoor.P
open Go Go.RowKit Go.Proofs.YtennhpoemdaghaaGreatDoorW.PrintWords
def wordCmp (x y : List UInt8) : Int :=
 if digitsB x && digitsB y then (if x.length < y.length then -1 else if y.length < x.length then 1 else Lib.compareBytes x y)
 else if digitsB x then -1 else if digitsB y then 1 else Lib.compareBytes x y
def wordsCmp : List (List UInt8) → List (List UInt8) → Int
 | [],[] => 0
 | [],_ :: _ => -1
 | _ :: _,[] => 1
 | x :: xs,y :: ys => if wordCmp x y = 0 then wordsCmp xs ys else wordCmp x y
def preCmp (a b : List UInt8) : Int :=
 if a = b then 0 else if a = [] then 1 else if b = [] then -1 else wordsCmp (splitL 46 a) (splitL 46 b)
theorem cmpInt_f (a b : Int) : cmp_Compare_int.f a b = some (if a < b then -1 else if a > b then 1 else 0):=by
 unfold cmp_Compare_int.f cmp_isNaN_int.f
 have h : ∀ x : Int,(x != x) = false:=fun x => by simp
 simp only [h,Option.bind_some,Bool.false_eq_true,if_false]
 split
 ·rfl
 ·split <;> rfl
theorem cmpOr_gen (l : List Int) (hl : l.length ≤ 4294967296) : ∀ d i : Nat,i ≤ l.length → l.length - i = d → ∀ k,d < k → cmp_Or_int.l0 k 0 l (l.length : Int) (i : Int) = some (((l.drop i).find? (· != 0)).getD 0):=by
 intro d
 induction d with
 | zero =>
  intro i hi hd k hk
  obtain ⟨k,rfl⟩ : ∃ m,k = m + 1:=⟨k - 1,by omega⟩
  rw [cmp_Or_int.l0,if_neg q5_,List.drop_eq_nil_of_le q5_]
  rfl
 | succ d ih =>
  intro i hi hd k hk
  obtain ⟨k,rfl⟩ : ∃ m,k = m + 1:=⟨k - 1,by omega⟩
  have h : i < l.length:=by omega
  have hr : rd l (i : Int) = l[i]:=by simp [rd,h]
  have hw : wrap64 ((i : Int) + 1) = ((i + 1 : Nat) : Int):=by unfold wrap64;omega
  rw [cmp_Or_int.l0,if_pos q5_,if_pos q5_,if_pos q5_,hr,hw,List.drop_eq_getElem_cons h,List.find?_cons]
  by_cases h0 : l[i] = 0
  ·rw [if_pos h0,ih (i + 1) q5_ q5_ k q5_]
   simp [h0]
  ·rw [if_neg h0]
   have h1 : (l[i] != 0) = true:=by simpa using h0
   rw [h1]
   rfl
theorem cmpOr_f (l : List Int) (hl : l.length ≤ 4294967296) (k : Nat) (hk : l.length < k) : cmp_Or_int.f k l = some ((l.find? (· != 0)).getD 0) :=
 cmpOr_gen l hl l.length 0 (Nat.zero_le _) rfl k hk
theorem cmpOr2_f (a b : Int) (k : Nat) (hk : 3 ≤ k) : cmp_Or_int.f k [a,b] = some (if a = 0 then b else a):=by
 rw [cmpOr_f [a,b] q25_ k (show 2 < k by omega)]
 by_cases h : a = 0
 ·by_cases h' : b = 0 <;> simp [h,h']
 ·simp [h]
theorem byWord_f (a b : ByteArray) (ha : a.size ≤ 140737488355328) (hb : b.size ≤ 140737488355328) (k : Nat) (h1 : a.size + 3 < k) (h2 : b.size + 3 < k) :
  ver_byWord.f k a b = some (wordCmp a.data.toList b.data.toList):=by
 obtain ⟨k,rfl⟩ : ∃ m,k = m + 1:=⟨k - 1,by omega⟩
 unfold ver_byWord.f wordCmp
 have hza : a.data.toList.length = a.size:=rfl
 have hzb : b.data.toList.length = b.size:=rfl
 rw [digits_f a ha _ q5_,digits_f b hb _ q5_,Option.bind_some,Option.bind_some,hza,hzb]
 cases hx : digitsB a.data.toList <;> cases hy : digitsB b.data.toList
 ·simp [ver_byWord.j0,strings_Compare.f]
 ·simp [ver_byWord.j0]
 ·simp [ver_byWord.j0]
 ·simp only [if_true,ver_byWord.j0,cmpInt_f,Option.bind_some,strings_Compare.f,cmpOr2_f _ _ k q5_,Bool.and_self]
  by_cases h : a.size < b.size
  ·simp [h]
  ·by_cases h' : b.size < a.size
   ·simp [h,h']
   ·simp [h,h']
theorem byWord_any (x y : ByteArray) (w : World) (hx : x.size ≤ 4294967281) (hy : y.size ≤ 4294967281) :
  Calls Tryz.prog 121 #[.string x,.string y] w fun e w' => e = .returned (.int .i64 (wordCmp x.data.toList y.data.toList)) ∧ Below w.heap.size w w' :=
 ver_byWord.calls _ _ _ _ w (byWord_f x y q5_ q5_ (x.size + y.size + 4) q5_ q5_)
theorem wordsCmp_at (xs ys : List ByteArray) (i : Nat) (h : i < xs.length) (h' : i < ys.length) : wordsCmp ((xs.drop i).map (·.data.toList)) ((ys.drop i).map (·.data.toList)) =
  if wordCmp (rdOf ByteArray.empty xs (i : Int)).data.toList (rdOf ByteArray.empty ys (i : Int)).data.toList = 0 then wordsCmp ((xs.drop (i + 1)).map (·.data.toList)) ((ys.drop (i + 1)).map (·.data.toList)) else wordCmp (rdOf ByteArray.empty xs (i : Int)).data.toList (rdOf ByteArray.empty ys (i : Int)).data.toList:=by
 have hr : ∀ (l : List ByteArray) (h : i < l.length),rdOf ByteArray.empty l (i : Int) = l[i]:=fun l h => by simp [rdOf,h]
 rw [hr xs h,hr ys h',List.drop_eq_getElem_cons h,List.drop_eq_getElem_cons h']
 rfl
set_option maxRecDepth 100000 in
set_option maxHeartbeats 4000000 in
theorem compareFunc_calls (A1 A2 : Option Addr) (c1 c2 : Nat) (xs ys : List ByteArray) (w : World) (hr1 : Kd.C Kd.string w A1 xs.length xs) (hr2 : Kd.C Kd.string w A2 ys.length ys) (hx1 : xs.length ≤ c1) (hx2 : ys.length ≤ c2)
  (hsx : ∀ x ∈ xs,x.size ≤ 4294967281) (hsy : ∀ y ∈ ys,y.size ≤ 4294967281) (hlx : xs.length ≤ 4294967290) (hly : ys.length ≤ 4294967290) :
  Calls Tryz.prog 120 #[.slice A1 xs.length c1,.slice A2 ys.length c2,.func (.func 121) #[] #[]] w fun e w' => e = .returned (.int .i64 (wordsCmp (xs.map (·.data.toList)) (ys.map (·.data.toList)))) ∧ Below w.heap.size w w':=by
 have HB:=Lib.hid (Below.refl w.heap.size w)
 go_enter Tryz.func120,Tryz.ntmps120
 go_wp2
 go_loopw [7,8,9,10,13] (fun _ _ _ _ v13 wr => ∃ i : Nat,i ≤ xs.length ∧ v13 = .int .i64 i ∧ i ≤ ys.length ∧ RowKit.Hid (wordsCmp (xs.map (·.data.toList)) (ys.map (·.data.toList)) = wordsCmp ((xs.drop i).map (·.data.toList)) ((ys.drop i).map (·.data.toList))) ∧ RowKit.Hid (Below w.heap.size w wr)) (fun _ _ _ _ v13 _ => xs.length - (intOf v13).toNat)
 case atStart => exact ⟨0,Nat.zero_le _,rfl,Nat.zero_le _,rfl,HB⟩
 case round =>
  obtain ⟨i,hi,rfl,hiy,HW,HB⟩:=hrel
  have hR1:=Kd.C_below hr1 HB.out
  have hR2:=Kd.C_below hr2 HB.out
  by_cases h : i < xs.length
  ·obtain ⟨a1,rfl,hq1⟩:=Kd.at_string hR1 (i : Int) q5_ q5_
   simp only [Int.toNat_natCast] at hq1
   have hg : ((i : Int) < (xs.length : Int)) = True:=eq_true q5_
   have hp : (0 ≤ (i : Int)) = True:=eq_true q5_
   by_cases h' : i < ys.length
   ·obtain ⟨a2,rfl,hq2⟩:=Kd.at_string hR2 (i : Int) q5_ q5_
    simp only [Int.toNat_natCast] at hq2
    have hg' : ((i : Int) < (ys.length : Int)) = True:=eq_true q5_
    have hge : ((ys.length : Int) ≤ (i : Int)) = False:=eq_false q5_
    have hzx : (rdOf ByteArray.empty xs (i : Int)).size ≤ 4294967281:=by
     have hr : rdOf ByteArray.empty xs (i : Int) = xs[i]:=by simp [rdOf,h]
     rw [hr];exact hsx _ (List.getElem_mem _)
    have hzy : (rdOf ByteArray.empty ys (i : Int)).size ≤ 4294967281:=by
     have hr : rdOf ByteArray.empty ys (i : Int) = ys[i]:=by simp [rdOf,h']
     rw [hr];exact hsy _ (List.getElem_mem _)
    have hat:=wordsCmp_at xs ys i h h'
    obtain ⟨c,hc⟩ : ∃ c,wordCmp (rdOf ByteArray.empty xs (i : Int)).data.toList (rdOf ByteArray.empty ys (i : Int)).data.toList = c:=⟨_,rfl⟩
    rw [hc] at hat
    by_cases h0 : c = 0
    ·subst h0
     rw [if_pos rfl] at hat
     go_wp2_with (go_at_call 121;refine (byWord_any _ _ _ hzx hzy).mono ?_;rintro e w' ⟨rfl,hb⟩;rw [hc])
     refine ⟨⟨i + 1,h,by simp,h',Lib.hid (HW.out.trans hat),Lib.hid (below_then HB.out HB.out.size hb)⟩,?_⟩
     simp only [intOf]
     omega
    ·have h00 : (c = 0) = False:=eq_false h0
     rw [if_neg h0] at hat
     go_wp2_with (go_at_call 121;refine (byWord_any _ _ _ hzx hzy).mono ?_;rintro e w' ⟨rfl,hb⟩;rw [hc])
     go_ret
     exact ⟨(by rw [HW.out,hat];rfl),below_then HB.out HB.out.size hb⟩
   ·have hge : ((ys.length : Int) ≤ (i : Int)) = True:=eq_true q5_
    go_wp2
    go_ret
    refine ⟨?_,HB.out⟩
    rw [HW.out,List.drop_eq_getElem_cons h,List.drop_eq_nil_of_le (show ys.length ≤ i by omega)]
    rfl
  ·have hg : ((i : Int) < (xs.length : Int)) = False:=eq_false q5_
   by_cases h' : xs.length < ys.length
   ·have hg' : ((xs.length : Int) < (ys.length : Int)) = True:=eq_true q5_
    go_wp2
    go_ret
    refine ⟨?_,HB.out⟩
    obtain rfl : i = xs.length:=by omega
    rw [HW.out,List.drop_eq_nil_of_le (Nat.le_refl xs.length),List.drop_eq_getElem_cons h']
    rfl
   ·have hg' : ((xs.length : Int) < (ys.length : Int)) = False:=eq_false q5_
    go_wp2
    go_ret
    refine ⟨?_,HB.out⟩
    obtain rfl : i = xs.length:=by omega
    rw [HW.out,List.drop_eq_nil_of_le (Nat.le_refl xs.length),List.drop_eq_nil_of_le (show ys.length ≤ xs.length by omega)]
    rfl
def ver_byPre.f (a0 : ByteArray) (a1 : ByteArray) : Option (Int):=if a0.size ≤ 4294967280 ∧ a1.size ≤ 4294967280 then some (preCmp a0.data.toList a1.data.toList) else none
set_option maxRecDepth 100000 in
set_option maxHeartbeats 4000000 in
theorem ver_byPre.calls (a0 : ByteArray) (a1 : ByteArray) (r : Int) (w : World) (h : ver_byPre.f a0 a1 = some r) (hG : Env w) :
  Calls Tryz.prog 85 #[.string a0,.string a1] w fun e w' => e = .returned (.int .i64 r) ∧ Below w.heap.size w w':=by
 unfold ver_byPre.f at h
 split at h
 case isFalse => exact absurd h q25_
 case isTrue hz =>
 obtain ⟨hz0,hz1⟩:=hz
 obtain rfl:=Option.some.inj h
 have HB:=Lib.hid (Below.refl w.heap.size w)
 have te : ∀ s : ByteArray,s.toList.isEmpty = (s.data.toList == []):=fun s => by rw [toList_eq];cases s.data.toList <;> rfl
 cases c1 : (a0.toList == a1.toList)
 ·have n1 : ¬ a0.data.toList = a1.data.toList:=by rw [toList_eq,toList_eq] at c1;simpa using c1
  cases c2 : a0.toList.isEmpty
  ·have n2 : ¬ a0.data.toList = []:=by rw [te] at c2;simpa using c2
   cases c3 : a1.toList.isEmpty
   ·have n3 : ¬ a1.data.toList = []:=by rw [te] at c3;simpa using c3
    have e0 : strings_Split.f a0 ⟨#[46]⟩ = some (splitS 46 a0):=by unfold strings_Split.f;rw [if_pos ⟨rfl,by omega⟩];rfl
    have e1 : strings_Split.f a1 ⟨#[46]⟩ = some (splitS 46 a1):=by unfold strings_Split.f;rw [if_pos ⟨rfl,by omega⟩];rfl
    have hl : ∀ s : ByteArray,(splitS 46 s).map (·.data.toList) = splitL 46 s.data.toList:=fun s => by unfold splitS;rw [List.map_map];exact (List.map_congr_left (fun x _ => rfl)).trans (List.map_id _)
    have hn : ∀ s : ByteArray,(splitS 46 s).length ≤ s.size + 1:=fun s => by unfold splitS;rw [List.length_map];exact splitL_length _ _
    unfold preCmp
    rw [if_neg n1,if_neg n2,if_neg n3]
    clear te
    go_enter Tryz.func85,Tryz.ntmps85
    go_wp2_with (first | (go_at_call 100;refine (strings_Split.calls a0 _ _ _ e0 hG).mono ?_;rintro e w1 ⟨v1,rfl,hv1,hb1⟩) | (go_at_call 100;refine (strings_Split.calls a1 _ _ _ e1 (hG.below hb1)).mono ?_;rintro e w2 ⟨v2,rfl,hv2,hb2⟩;obtain ⟨A1,c1,rfl,hc1,hr1⟩:=Kd.R_reads hv1;obtain ⟨A2,c2,rfl,hc2,hr2⟩:=Kd.R_reads hv2;replace hr1:=Kd.C_below hr1 hb2) | (go_at_call 120;refine (compareFunc_calls A1 A2 c1 c2 _ _ _ hr1 hr2 hc1 hc2 (fun x hx => Nat.le_trans (splitS_size 46 a0 x hx) (Nat.le_succ_of_le hz0)) (fun x hx => Nat.le_trans (splitS_size 46 a1 x hx) (Nat.le_succ_of_le hz1)) (Nat.le_trans (hn a0) q5_) (Nat.le_trans (hn a1) q5_)).mono ?_;rintro e w3 ⟨rfl,hb3⟩;rw [hl,hl]))
    go_ret
    exact ⟨rfl,below_then (below_then hb1 hb1.size hb2) (Nat.le_trans hb1.size hb2.size) hb3⟩
   ·have n3 : a1.data.toList = []:=by rw [te] at c3;simpa using c3
    unfold preCmp
    rw [if_neg n1,if_neg n2,if_pos n3]
    clear te
    go_enter Tryz.func85,Tryz.ntmps85
    go_wp2
    go_ret
    exact ⟨rfl,HB.out⟩
  ·have n2 : a0.data.toList = []:=by rw [te] at c2;simpa using c2
   unfold preCmp
   rw [if_neg n1,if_pos n2]
   clear te
   go_enter Tryz.func85,Tryz.ntmps85
   go_wp2
   go_ret
   exact ⟨rfl,HB.out⟩
 ·have n1 : a0.data.toList = a1.data.toList:=by rw [toList_eq,toList_eq] at c1;simpa using c1
  unfold preCmp
  rw [if_pos n1]
  clear te
  go_enter Tryz.func85,Tryz.ntmps85
  go_wp2
  go_ret
  exact ⟨rfl,HB.out⟩
end Go.Proofs.YtennhpoemdaghaaGreatDoor.P
end
section
namespace Go.Proofs.YtennhpoemdaghaaGreatDoor.P
open Go.RowKit Go.Proofs.YtennhpoemdaghaaGreatDoorW.PrintWords Go.Proofs.YtennhpoemdaghaaGreatDoorW.PrintLast Go.Proofs.YtennhpoemdaghaaGreatDoorW.PrintMore
def ver_Compare.j0 : Nat → Bool → Int → Int → Int → ByteArray → ByteArray → Int → Int → Int → ByteArray → ByteArray → Option (Int)
 | 0,_,_,_,_,_,_,_,_,_,_,_ => none
 | k + 1,x12,x102000,x102001,x102002,x102003,x102004,x103000,x103001,x103002,x103003,x103004 => if x12 = true then (some 0) else ((cmp_Compare_int.f x102000 x103000).bind fun t105 => ((cmp_Compare_int.f x102001 x103001).bind fun t106 => ((cmp_Compare_int.f x102002 x103002).bind fun t107 => ((ver_byPre.f x102003 x103003).bind fun t108 => ((cmp_Or_int.f k (([t105,t106,t107,t108] : List Int))).bind fun t112 => (some t112))))))
def ver_Compare.f (k : Nat) (a0_0 : Int) (a0_1 : Int) (a0_2 : Int) (a0_3 : ByteArray) (a0_4 : ByteArray) (a1_0 : Int) (a1_1 : Int) (a1_2 : Int) (a1_3 : ByteArray) (a1_4 : ByteArray) : Option (Int):=(ver_Check.f a0_0 a0_1 a0_2 a0_3 a0_4).bind fun t103 => (if t103 = true then ((ver_Check.f a1_0 a1_1 a1_2 a1_3 a1_4).bind fun t104 => (ver_Compare.j0 k (!t104) a0_0 a0_1 a0_2 a0_3 a0_4 a1_0 a1_1 a1_2 a1_3 a1_4)) else (ver_Compare.j0 k true a0_0 a0_1 a0_2 a0_3 a0_4 a1_0 a1_1 a1_2 a1_3 a1_4))
def ver_Compare.T3 : Bool × List (List Nat × List Nat):=(true,[([],[]),([0],[0]),([],[]),([2],[2]),([1,3],[1,3]),([],[]),([5],[5]),([],[]),([7],[7]),([6,8,4],[6,8]),([],[]),([10],[10]),([],[]),([12],[12]),([11,13,9],[11,13]),([],[]),([15],[15]),([],[]),([17],[17]),([16,18,14],[16,18]),([4,9,14,19],[4,9,14,19]),([20,19],[20]),([21,21,0,1,2,3,4,5,6,7,8,9,10,11,12,13,14,15,16,17,18,19,20,21],[21])])
def ver_Compare.B3 : List Nat:=[0,1,0,4,15,0,32,0,128,511,0,1024,0,4096,16383,0,32768,0,131072,524287,1048575,2097151,4194303]
theorem ver_Compare.tab3 : rtab .any (opsOf Tryz.f44 3) = ver_Compare.T3:=by kernel_rfl
theorem ver_Compare.bits3 : waitsOk ver_Compare.T3.2 ver_Compare.B3 = true:=by kernel_rfl
set_option maxHeartbeats 8000000 in
set_option maxRecDepth 100000 in
theorem ver_Compare.calls (k : Nat) (a0_0 : Int) (a0_1 : Int) (a0_2 : Int) (a0_3 : ByteArray) (a0_4 : ByteArray) (a1_0 : Int) (a1_1 : Int) (a1_2 : Int) (a1_3 : ByteArray) (a1_4 : ByteArray) (r : Int) (w : World) (h : ver_Compare.f k a0_0 a0_1 a0_2 a0_3 a0_4 a1_0 a1_1 a1_2 a1_3 a1_4 = some r) (hG : Env w) :
  Calls Tryz.prog 44 #[.agg #[.int .i64 a0_0,.int .i64 a0_1,.int .i64 a0_2,.string a0_3,.string a0_4],.agg #[.int .i64 a1_0,.int .i64 a1_1,.int .i64 a1_2,.string a1_3,.string a1_4]] w fun e w' => e = .returned (.int .i64 r) ∧ Below w.heap.size w w':=by
 have HG:=Aside0.mk hG
 clear hG
 have hu24:=Tryz.underlying24
 have HB:=Aside0.mk (Below.refl w.heap.size w)
 have H : ((ver_Check.f a0_0 a0_1 a0_2 a0_3 a0_4).bind fun t103 => (if t103 = true then ((ver_Check.f a1_0 a1_1 a1_2 a1_3 a1_4).bind fun t104 => (ver_Compare.j0 k (!t104) a0_0 a0_1 a0_2 a0_3 a0_4 a1_0 a1_1 a1_2 a1_3 a1_4)) else (ver_Compare.j0 k true a0_0 a0_1 a0_2 a0_3 a0_4 a1_0 a1_1 a1_2 a1_3 a1_4))) = some r:=h
 clear h
 have HC3:=Aside0.mk H
 clear H
 go_enter Tryz.func44,Tryz.ntmps44
 go_upto_region 1 with (first | ((with_reducible refine gate_dst (N:=2) rfl ?_);refine bx_ 2 24 #[.int .i64 a0_0,.int .i64 a0_1,.int .i64 a0_2,.string a0_3,.string a0_4] ?_;intro gb101 hg w4 hbox hb;have BK101:=Aside0.mk (hbox);have GW101:=Aside0.mk ((q17_ : w.heap.size ≤ gb101));have GE101:=Aside0.mk ((q17_ : w.heap.size ≤ gb101));replace HB:=Aside0.mk (below_step bh_ hb);clear hb hbox hg) | ((with_reducible refine gate_dst (N:=3) rfl ?_);refine bx_ 3 24 #[.int .i64 a1_0,.int .i64 a1_1,.int .i64 a1_2,.string a1_3,.string a1_4] ?_;intro gb102 hg w5 hbox hb;have BK102:=Aside0.mk (hbox);have GW102:=Aside0.mk ((q17_ : w.heap.size ≤ gb102));have GE102:=Aside0.mk ((q17_ : w.heap.size ≤ gb102));replace HB:=Aside0.mk (below_step bh_ hb);have NB101_102:=Aside0.mk ((q48_ : gb101 ≠ gb102));have NB102_101:=Aside0.mk ((q49_ : gb102 ≠ gb101));replace BK101:=Aside0.mk (blk_below bk101_ hb);clear hb hbox hg))
 (try simp only [Act.put,List.setIfInBounds_toArray,List.set_cons_zero,List.set_cons_succ])
 go_cut [12] (fun v12 wc => ∃ (kq : Nat) (x12_2 : Bool),v12 = .bool x12_2 ∧ Aside0 (ver_Compare.j0 kq x12_2 a0_0 a0_1 a0_2 a0_3 a0_4 a1_0 a1_1 a1_2 a1_3 a1_4 = some r) ∧ Aside0 (kq ≤ k) ∧ Aside0 (wc.heap[gb101]? = some (.cells #[.int .i64 a0_0,.int .i64 a0_1,.int .i64 a0_2,.string a0_3,.string a0_4] 24 (0,0))) ∧ Aside0 (wc.heap[gb102]? = some (.cells #[.int .i64 a1_0,.int .i64 a1_1,.int .i64 a1_2,.string a1_3,.string a1_4] 24 (0,0))) ∧ Aside0 (Below w.heap.size w wc))
 case first =>
  have H:=HC3.out
  clear HC3
  obtain ⟨t103,A60,H⟩:=Option.bind_eq_some_iff.mp H
  have A6:=Aside0.mk A60
  clear A60
  by_cases c7 : t103 = true
  ·subst c7
   rw [if_pos rfl] at H
   obtain ⟨t104,A80,H⟩:=Option.bind_eq_some_iff.mp H
   have A8:=Aside0.mk A80
   clear A80
   have H':=Aside0.mk H
   clear H
   have hnb9:=NB101_102.out
   have hnc9:=NB102_101.out
   have hcz10_0 : w5.cell? ⟨gb101,0,none⟩ = some (.int .i64 a0_0):=(blk_cell BK101.out 0).trans rfl
   have hcz10_1 : w5.cell? ⟨gb101,1,none⟩ = some (.int .i64 a0_1):=(blk_cell BK101.out 1).trans rfl
   have hcz10_2 : w5.cell? ⟨gb101,2,none⟩ = some (.int .i64 a0_2):=(blk_cell BK101.out 2).trans rfl
   have hcz10_3 : w5.cell? ⟨gb101,3,none⟩ = some (.string a0_3):=(blk_cell BK101.out 3).trans rfl
   have hcz10_4 : w5.cell? ⟨gb101,4,none⟩ = some (.string a0_4):=(blk_cell BK101.out 4).trans rfl
   have hfz10_0:=blk_frozen BK101.out 0
   have hfz10_1:=blk_frozen BK101.out 1
   have hfz10_2:=blk_frozen BK101.out 2
   have hfz10_3:=blk_frozen BK101.out 3
   have hfz10_4:=blk_frozen BK101.out 4
   go_wp2_with (first | ((with_reducible refine gate_callee (f:=74) rfl ?_);refine gl_ 6 Tryz.func74 #[.agg #[.int .i64 a0_0,.int .i64 a0_1,.int .i64 a0_2,.string a0_3,.string a0_4]] ?_;(with_reducible refine (ver_Check.calls a0_0 a0_1 a0_2 a0_3 a0_4 true _ A6.out).mono ?_);rintro e w11 ⟨rfl,hb⟩;refine ⟨_,rfl,?_⟩;replace BK101:=Aside0.mk (blk_below bk101_ hb);replace BK102:=Aside0.mk (blk_below bk102_ hb);replace HB:=Aside0.mk (below_step bh_ hb);(try clear hb);have hcz12_0 : w11.cell? ⟨gb102,0,none⟩ = some (.int .i64 a1_0):=(blk_cell BK102.out 0).trans rfl;have hcz12_1 : w11.cell? ⟨gb102,1,none⟩ = some (.int .i64 a1_1):=(blk_cell BK102.out 1).trans rfl;have hcz12_2 : w11.cell? ⟨gb102,2,none⟩ = some (.int .i64 a1_2):=(blk_cell BK102.out 2).trans rfl;have hcz12_3 : w11.cell? ⟨gb102,3,none⟩ = some (.string a1_3):=(blk_cell BK102.out 3).trans rfl;have hcz12_4 : w11.cell? ⟨gb102,4,none⟩ = some (.string a1_4):=(blk_cell BK102.out 4).trans rfl;have hfz12_0:=blk_frozen BK102.out 0;have hfz12_1:=blk_frozen BK102.out 1;have hfz12_2:=blk_frozen BK102.out 2;have hfz12_3:=blk_frozen BK102.out 3;have hfz12_4:=blk_frozen BK102.out 4) | (go_at_call 74;(with_reducible refine (ver_Check.calls a1_0 a1_1 a1_2 a1_3 a1_4 t104 _ A8.out).mono ?_);rintro e w13 ⟨rfl,hb⟩;replace BK101:=Aside0.mk (blk_below bk101_ hb);replace BK102:=Aside0.mk (blk_below bk102_ hb);replace HB:=Aside0.mk (below_step bh_ hb);(try clear hb)))
   go_meet
   case rel => exact ⟨_,(!t104),q12_,H',⟨by first | omega | exact Nat.le_refl _⟩,⟨by (with_reducible repeat (first | refine blk_drewN ?_ _ | refine blk_drew ?_ | refine blk_alloc ?_ _));exact BK101.out⟩,⟨by (with_reducible repeat (first | refine blk_drewN ?_ _ | refine blk_drew ?_ | refine blk_alloc ?_ _));exact BK102.out⟩,⟨by repeat (first | (with_reducible first | exact HB.out | apply below_alloc | apply pw_below_drewN | apply below_drew1 | refine below_set ?_ GE101.out | refine below_set ?_ GE102.out) | exact HB.out)⟩⟩
  ·replace c7:=Bool.eq_false_iff.mpr c7
   subst c7
   rw [if_neg (show ¬ (false = true) by decide)] at H
   have H':=Aside0.mk H
   clear H
   have hnb14:=NB101_102.out
   have hnc14:=NB102_101.out
   have hcz15_0 : w5.cell? ⟨gb101,0,none⟩ = some (.int .i64 a0_0):=(blk_cell BK101.out 0).trans rfl
   have hcz15_1 : w5.cell? ⟨gb101,1,none⟩ = some (.int .i64 a0_1):=(blk_cell BK101.out 1).trans rfl
   have hcz15_2 : w5.cell? ⟨gb101,2,none⟩ = some (.int .i64 a0_2):=(blk_cell BK101.out 2).trans rfl
   have hcz15_3 : w5.cell? ⟨gb101,3,none⟩ = some (.string a0_3):=(blk_cell BK101.out 3).trans rfl
   have hcz15_4 : w5.cell? ⟨gb101,4,none⟩ = some (.string a0_4):=(blk_cell BK101.out 4).trans rfl
   have hfz15_0:=blk_frozen BK101.out 0
   have hfz15_1:=blk_frozen BK101.out 1
   have hfz15_2:=blk_frozen BK101.out 2
   have hfz15_3:=blk_frozen BK101.out 3
   have hfz15_4:=blk_frozen BK101.out 4
   go_wp2_with (first | ((with_reducible refine gate_callee (f:=74) rfl ?_);refine gl_ 6 Tryz.func74 #[.agg #[.int .i64 a0_0,.int .i64 a0_1,.int .i64 a0_2,.string a0_3,.string a0_4]] ?_;(with_reducible refine (ver_Check.calls a0_0 a0_1 a0_2 a0_3 a0_4 false _ A6.out).mono ?_);rintro e w16 ⟨rfl,hb⟩;refine ⟨_,rfl,?_⟩;replace BK101:=Aside0.mk (blk_below bk101_ hb);replace BK102:=Aside0.mk (blk_below bk102_ hb);replace HB:=Aside0.mk (below_step bh_ hb);(try clear hb)))
   go_meet
   case rel => exact ⟨_,(true),q12_,H',⟨by first | omega | exact Nat.le_refl _⟩,⟨by (with_reducible repeat (first | refine blk_drewN ?_ _ | refine blk_drew ?_ | refine blk_alloc ?_ _));exact BK101.out⟩,⟨by (with_reducible repeat (first | refine blk_drewN ?_ _ | refine blk_drew ?_ | refine blk_alloc ?_ _));exact BK102.out⟩,⟨by repeat (first | (with_reducible first | exact HB.out | apply below_alloc | apply pw_below_drewN | apply below_drew1 | refine below_set ?_ GE101.out | refine below_set ?_ GE102.out) | exact HB.out)⟩⟩
 case rest =>
  clear HC3
  try clear c1
  try clear p2
  try clear c4
  try clear c7
  try clear c9
  try clear c14
  try clear hcz10_0
  try clear hcz10_1
  try clear hcz10_2
  try clear hcz10_3
  try clear hcz10_4
  try clear hcz12_0
  try clear hcz12_1
  try clear hcz12_2
  try clear hcz12_3
  try clear hcz12_4
  try clear hcz15_0
  try clear hcz15_1
  try clear hcz15_2
  try clear hcz15_3
  try clear hcz15_4
  try clear hfz10_0
  try clear hfz10_1
  try clear hfz10_2
  try clear hfz10_3
  try clear hfz10_4
  try clear hfz12_0
  try clear hfz12_1
  try clear hfz12_2
  try clear hfz12_3
  try clear hfz12_4
  try clear hfz15_0
  try clear hfz15_1
  try clear hfz15_2
  try clear hfz15_3
  try clear hfz15_4
  obtain ⟨kq,x12_2,rfl,HA,HJ2,BK101,BK102,HB⟩:=hcut
  cases kq with
  | zero => exact absurd HA.out (by simp [ver_Compare.j0])
  | succ kj2 =>
   have H:=HA.out
   clear HA
   simp only [ver_Compare.j0] at H
   by_cases c17 : x12_2 = true
   ·subst c17
    rw [if_pos rfl] at H
    obtain rfl:=Option.some.inj H
    go_wp2
    go_ret
    exact ⟨q2_,bh_⟩
   ·replace c17:=Bool.eq_false_iff.mpr c17
    subst c17
    rw [if_neg (show ¬ (false = true) by decide)] at H
    obtain ⟨t105,A180,H⟩:=Option.bind_eq_some_iff.mp H
    have A18:=Aside0.mk A180
    clear A180
    obtain ⟨t106,A190,H⟩:=Option.bind_eq_some_iff.mp H
    have A19:=Aside0.mk A190
    clear A190
    obtain ⟨t107,A200,H⟩:=Option.bind_eq_some_iff.mp H
    have A20:=Aside0.mk A200
    clear A200
    obtain ⟨t108,A210,H⟩:=Option.bind_eq_some_iff.mp H
    have A21:=Aside0.mk A210
    clear A210
    obtain ⟨y109,hy109⟩ : ∃ y_ : List Int,y_ = (([t105,t106,t107,t108] : List Int)):=⟨_,rfl⟩
    replace H : ((cmp_Or_int.f kj2 y109).bind fun t112 => (some t112)) = some r:=by first | (rw [hy109];with_reducible exact H) | (have H2_:=(Option.bind_some _ _).symm.trans H;rw [hy109];with_reducible exact H2_) | (have H2_:=(Option.bind_some _ _).symm.trans H;with_reducible exact H2_) | with_reducible exact H | (rw [hy109];exact H) | exact H
    have Ny109:=Aside0.mk hy109
    clear hy109
    obtain ⟨t112,A220,H⟩:=Option.bind_eq_some_iff.mp H
    have A22:=Aside0.mk A220
    clear A220
    obtain rfl:=Option.some.inj H
    try go_wp2
    replace BK101:=Aside0.mk (blk_drew BK101.out)
    replace BK102:=Aside0.mk (blk_drew BK102.out)
    replace HB:=Aside0.mk (below_drew1 HB.out)
    refine start_ (n:=23) (S:=fun w' => w'.cell? ⟨gb101,0,none⟩ = some (.int .i64 a0_0) ∧ w'.cell? ⟨gb101,1,none⟩ = some (.int .i64 a0_1) ∧ w'.cell? ⟨gb101,2,none⟩ = some (.int .i64 a0_2) ∧ w'.cell? ⟨gb101,3,none⟩ = some (.string a0_3) ∧ w'.cell? ⟨gb101,4,none⟩ = some (.string a0_4) ∧ w'.cell? ⟨gb102,0,none⟩ = some (.int .i64 a1_0) ∧ w'.cell? ⟨gb102,1,none⟩ = some (.int .i64 a1_1) ∧ w'.cell? ⟨gb102,2,none⟩ = some (.int .i64 a1_2) ∧ w'.cell? ⟨gb102,3,none⟩ = some (.string a1_3) ∧ w'.cell? ⟨gb102,4,none⟩ = some (.string a1_4)) (ds:=[]) #[false,false,false,false,false,false,false,false,false,false,false,false,false,false,false,false,false,false,false,false,false,false,false] q9_ rfl rfl ⟨(blk_cell BK101.out 0).trans rfl,(blk_cell BK101.out 1).trans rfl,(blk_cell BK101.out 2).trans rfl,(blk_cell BK101.out 3).trans rfl,(blk_cell BK101.out 4).trans rfl,(blk_cell BK102.out 0).trans rfl,(blk_cell BK102.out 1).trans rfl,(blk_cell BK102.out 2).trans rfl,(blk_cell BK102.out 3).trans rfl,(blk_cell BK102.out 4).trans rfl⟩ (fun hHeld => ?_);refine with_tabW ver_Compare.tab3 ver_Compare.bits3 (fun HT_ HW_ => ?_)
    generalize wc.drew = w23 at BK101 BK102 HB hHeld ⊢
    refine pu_ 0 13 ?_
    refine pu_ 2 15 ?_
    refine pu_ 5 18 ?_
    refine pu_ 7 20 ?_
    refine pu_ 10 23 ?_
    refine pu_ 12 25 ?_
    refine pu_ 15 28 ?_
    refine pu_ 17 30 ?_
    refine tk_ 1 14 hHeld ?_
    refine tk_ 3 16 hHeld ?_
    refine tk_ 6 19 hHeld ?_
    refine tk_ 8 21 hHeld ?_
    refine tk_ 11 24 hHeld ?_
    refine tk_ 13 26 hHeld ?_
    refine tk_ 16 29 hHeld ?_
    refine tk_ 18 31 hHeld ?_
    refine one_ (i:=4) (N:=some 17) #[true,true,true,true,true,true,true,true,true,false,true,true,true,true,false,true,true,true,true,false,false,false,false] rfl rfl (one_of HT_.out q9_) q30_ (fun K hK => ?_)
    refine goes_ Tryz.func84 q9_ rfl #[.int .i64 a0_0,.int .i64 a1_0] q55_ rfl rfl q21_ ?_
    with_reducible refine (cmp_Compare_int.calls a0_0 a1_0 t105 _ A18.out).mono ?_
    rintro e w' ⟨rfl,⟨nd,rfl⟩⟩
    refine ⟨_,rfl,?_⟩
    refine hK.out _ _ ⟨(blk_cell BK101.out 0).trans rfl,(blk_cell BK101.out 1).trans rfl,(blk_cell BK101.out 2).trans rfl,(blk_cell BK101.out 3).trans rfl,(blk_cell BK101.out 4).trans rfl,(blk_cell BK102.out 0).trans rfl,(blk_cell BK102.out 1).trans rfl,(blk_cell BK102.out 2).trans rfl,(blk_cell BK102.out 3).trans rfl,(blk_cell BK102.out 4).trans rfl⟩ (fun hHeld => ?_)
    clear hK K
    refine norm_ (a':=?_) ?_ ?_
    rotate_left
    ·show Act.put _ (some 17) _ = _
     simp only [Act.put,List.setIfInBounds_toArray,List.set_cons_zero,List.set_cons_succ,i64_w]
     rfl
    refine one_ (i:=9) (N:=some 22) #[true,true,true,true,true,true,true,true,true,true,true,true,true,true,false,true,true,true,true,false,false,false,false] rfl rfl (one_of HT_.out q9_) q30_ (fun K hK => ?_)
    refine goes_ Tryz.func84 q9_ rfl #[.int .i64 a0_1,.int .i64 a1_1] q55_ rfl rfl q21_ ?_
    with_reducible refine (cmp_Compare_int.calls a0_1 a1_1 t106 _ A19.out).mono ?_
    rintro e w' ⟨rfl,⟨nd,rfl⟩⟩
    refine ⟨_,rfl,?_⟩
    refine hK.out _ _ ⟨(blk_cell BK101.out 0).trans rfl,(blk_cell BK101.out 1).trans rfl,(blk_cell BK101.out 2).trans rfl,(blk_cell BK101.out 3).trans rfl,(blk_cell BK101.out 4).trans rfl,(blk_cell BK102.out 0).trans rfl,(blk_cell BK102.out 1).trans rfl,(blk_cell BK102.out 2).trans rfl,(blk_cell BK102.out 3).trans rfl,(blk_cell BK102.out 4).trans rfl⟩ (fun hHeld => ?_)
    clear hK K
    refine norm_ (a':=?_) ?_ ?_
    rotate_left
    ·show Act.put _ (some 22) _ = _
     simp only [Act.put,List.setIfInBounds_toArray,List.set_cons_zero,List.set_cons_succ,i64_w]
     rfl
    refine one_ (i:=14) (N:=some 27) #[true,true,true,true,true,true,true,true,true,true,true,true,true,true,true,true,true,true,true,false,false,false,false] rfl rfl (one_of HT_.out q9_) q30_ (fun K hK => ?_)
    refine goes_ Tryz.func84 q9_ rfl #[.int .i64 a0_2,.int .i64 a1_2] q55_ rfl rfl q21_ ?_
    with_reducible refine (cmp_Compare_int.calls a0_2 a1_2 t107 _ A20.out).mono ?_
    rintro e w' ⟨rfl,⟨nd,rfl⟩⟩
    refine ⟨_,rfl,?_⟩
    refine hK.out _ _ ⟨(blk_cell BK101.out 0).trans rfl,(blk_cell BK101.out 1).trans rfl,(blk_cell BK101.out 2).trans rfl,(blk_cell BK101.out 3).trans rfl,(blk_cell BK101.out 4).trans rfl,(blk_cell BK102.out 0).trans rfl,(blk_cell BK102.out 1).trans rfl,(blk_cell BK102.out 2).trans rfl,(blk_cell BK102.out 3).trans rfl,(blk_cell BK102.out 4).trans rfl⟩ (fun hHeld => ?_)
    clear hK K
    refine norm_ (a':=?_) ?_ ?_
    rotate_left
    ·show Act.put _ (some 27) _ = _
     simp only [Act.put,List.setIfInBounds_toArray,List.set_cons_zero,List.set_cons_succ,i64_w]
     rfl
    refine one_ (i:=19) (N:=some 32) #[true,true,true,true,true,true,true,true,true,true,true,true,true,true,true,true,true,true,true,true,false,false,false] rfl rfl (one_of HT_.out q9_) q30_ (fun K hK => ?_)
    refine goes_ Tryz.func85 q9_ rfl #[.string a0_3,.string a1_3] q55_ rfl rfl q21_ ?_
    with_reducible refine (ver_byPre.calls a0_3 a1_3 t108 _ A21.out ?sideG).mono ?_
    (case sideG => first | exact HG.out | exact Env.below HG.out bh_)
    rintro e w24 ⟨rfl,hb⟩
    refine ⟨_,rfl,?_⟩
    replace BK101:=Aside0.mk (blk_below bk101_ hb)
    replace BK102:=Aside0.mk (blk_below bk102_ hb)
    replace HB:=Aside0.mk (below_step bh_ hb)
    (try clear hb)
    refine hK.out _ _ ⟨(blk_cell BK101.out 0).trans rfl,(blk_cell BK101.out 1).trans rfl,(blk_cell BK101.out 2).trans rfl,(blk_cell BK101.out 3).trans rfl,(blk_cell BK101.out 4).trans rfl,(blk_cell BK102.out 0).trans rfl,(blk_cell BK102.out 1).trans rfl,(blk_cell BK102.out 2).trans rfl,(blk_cell BK102.out 3).trans rfl,(blk_cell BK102.out 4).trans rfl⟩ (fun hHeld => ?_)
    clear hK K
    refine norm_ (a':=?_) ?_ ?_
    rotate_left
    ·show Act.put _ (some 32) _ = _
     simp only [Act.put,List.setIfInBounds_toArray,List.set_cons_zero,List.set_cons_succ,i64_w]
     rfl
    refine one_ (i:=20) (N:=some 33) #[true,true,true,true,true,true,true,true,true,true,true,true,true,true,true,true,true,true,true,true,true,false,false] rfl rfl (one_of HT_.out q9_) q30_ (fun K hK => ?_)
    refine Kd.R_lit_step (Kd.int .i64) _ 3 ?hg (N:=33) ?hd (xs:=([t105,t106,t107,t108] : List Int)) (inner:=[.int .i64 t105,.int .i64 t106,.int .i64 t107,.int .i64 t108]) (ok:=fun _ => True) (okp:=fun _ => True) ?hr ?hp (fun _ hk => hk) trivial (Below.refl _ _) (Nat.le_refl _) q25_ ?_;(case hd => rfl);(case hg => rfl);(case hr => first | (go_simp;done) | (go_simp;rfl));(case hp => exact (Reps.one (show Kd.M (Kd.int .i64) _ _ _ t105 [.int .i64 t105] from rfl) (Reps.one (show Kd.M (Kd.int .i64) _ _ _ t106 [.int .i64 t106] from rfl) (Reps.one (show Kd.M (Kd.int .i64) _ _ _ t107 [.int .i64 t107] from rfl) (Reps.one (show Kd.M (Kd.int .i64) _ _ _ t108 [.int .i64 t108] from rfl) (Reps.none _ _))))))
    intro v110 w25 ho26 hb hg_ hnew_
    clear hg_ hnew_
    (first | rw [← Ny109.out] at ho26 | (simp only [Int.reduceToNat] at ho26;rw [← Ny109.out] at ho26))
    have HO111:=Aside0.mk (Kd.R_lower ho26 (below_size bh_))
    replace BK101:=Aside0.mk (blk_below bk101_ hb)
    replace BK102:=Aside0.mk (blk_below bk102_ hb)
    replace HB:=Aside0.mk (below_step bh_ hb)
    clear hb ho26
    obtain ⟨Ao27,co27,eo27⟩:=Kd.R_slice HO111.out
    (first | subst eo27 | (injection eo27 with f1_ f2_ f3_;have f4_:=f1_.symm;have f5_:=f3_.symm;clear f1_ f2_ f3_;subst f4_;subst f5_))
    refine hK.out _ _ ⟨(blk_cell BK101.out 0).trans rfl,(blk_cell BK101.out 1).trans rfl,(blk_cell BK101.out 2).trans rfl,(blk_cell BK101.out 3).trans rfl,(blk_cell BK101.out 4).trans rfl,(blk_cell BK102.out 0).trans rfl,(blk_cell BK102.out 1).trans rfl,(blk_cell BK102.out 2).trans rfl,(blk_cell BK102.out 3).trans rfl,(blk_cell BK102.out 4).trans rfl⟩ (fun hHeld => ?_)
    clear hK K
    refine norm_ (a':=?_) ?_ ?_
    rotate_left
    ·show Act.put _ (some 33) _ = _
     simp only [Act.put,List.setIfInBounds_toArray,List.set_cons_zero,List.set_cons_succ,i64_w]
     rfl
    refine one_ (i:=21) (N:=some 34) #[true,true,true,true,true,true,true,true,true,true,true,true,true,true,true,true,true,true,true,true,true,true,false] rfl rfl (one_of HT_.out q9_) q30_ (fun K hK => ?_)
    refine goes_ Tryz.func83 q9_ rfl #[.slice Ao27 y109.length co27] q55_ rfl rfl q21_ ?_
    with_reducible refine (cmp_Or_int.calls kj2 _ _ y109 t112 _ ?side1 ?side2 A22.out).mono ?_
    (case side1 => repeat (first | exact (Kd.R_reads' HO111.out).2.2 | (with_reducible refine Kd.C_alloc ?_ _) | (with_reducible refine Kd.C_drewN ?_ _) | (with_reducible refine Kd.C_drew ?_)))
    (case side2 => exact (Kd.R_reads' HO111.out).2.1)
    rintro e w' ⟨rfl,⟨nd,rfl⟩⟩
    refine ⟨_,rfl,?_⟩
    refine hK.out _ _ ⟨(blk_cell BK101.out 0).trans rfl,(blk_cell BK101.out 1).trans rfl,(blk_cell BK101.out 2).trans rfl,(blk_cell BK101.out 3).trans rfl,(blk_cell BK101.out 4).trans rfl,(blk_cell BK102.out 0).trans rfl,(blk_cell BK102.out 1).trans rfl,(blk_cell BK102.out 2).trans rfl,(blk_cell BK102.out 3).trans rfl,(blk_cell BK102.out 4).trans rfl⟩ (fun hHeld => ?_)
    clear hK K
    refine norm_ (a':=?_) ?_ ?_
    rotate_left
    ·show Act.put _ (some 34) _ = _
     simp only [Act.put,List.setIfInBounds_toArray,List.set_cons_zero,List.set_cons_succ,i64_w]
     rfl
    refine pu_ 22 4 ?_
    refine done_ (done_of HT_.out q9_) ?_
    try go_wp2
    go_ret
    exact ⟨q2_,bh_⟩
end Go.Proofs.YtennhpoemdaghaaGreatDoor.P
end
section
namespace Go.Proofs.YtennhpoemdaghaaGreatDoor.P
open Go Go.RowKit Go.Proofs.YtennhpoemdaghaaGreatDoorW.PrintWords Go.Proofs.YtennhpoemdaghaaGreatDoorW.PrintLast Go.Proofs.YtennhpoemdaghaaGreatDoorW.PrintMore
abbrev DW:=DataW Unit
def valR (r : Req) : Value:=.agg #[.string r.f0,.int .i64 r.f1.f0,.int .i64 r.f1.f1,.int .i64 r.f1.f2,.string r.f1.f3,.string r.f1.f4]
def datR (r : Req) : DW:=.agg [.lit (.string r.f0.data.toList),.lit (.int .i64 r.f1.f0),.lit (.int .i64 r.f1.f1),.lit (.int .i64 r.f1.f2),.lit (.string r.f1.f3.data.toList),.lit (.string r.f1.f4.data.toList)]
def cutR (l : List Value) : Option (DW × List MemPlace) :=
 match l with
 | [.string p,.int .i64 a,.int .i64 b,.int .i64 c,.string d,.string e] => some (datR ⟨p,a,b,c,d,e⟩,[])
 | _ => none
def reqR (v : Value) : Option (DW × List MemPlace) :=
 match v with
 | .agg cs => cutR cs.toList
 | _ => none
theorem reqR_mk (r : Req) : reqR (valR r) = some (datR r,[]):=rfl
theorem reqR_inv {v : Value} {y : DW × List MemPlace} (h : reqR v = some y) : ∃ r,v = valR r ∧ y = (datR r,[]):=by
 unfold reqR at h
 split at h
 ·rename_i cs
  unfold cutR at h
  split at h
  ·rename_i p a b c d e hl
   refine ⟨⟨p,a,b,c,d,e⟩,?_,(Option.some.inj h).symm⟩
   unfold valR
   congr 1
   apply Array.ext'
   rw [hl]
  ·exact absurd h q25_
 ·exact absurd h q25_
theorem bytes_inj {a b : ByteArray} (h : a.data.toList = b.data.toList) : a = b:=by
 obtain ⟨⟨a⟩⟩:=a
 obtain ⟨⟨b⟩⟩:=b
 simpa using h
theorem datR_inj {r x : Req} (h : datR r = datR x) : r = x:=by
 obtain ⟨p,a,b,c,d,e⟩:=r
 obtain ⟨p',a',b',c',d',e'⟩:=x
 unfold datR at h
 simp only [DataW.agg.injEq,List.cons.injEq,DataW.lit.injEq,Lit.string.injEq,Lit.int.injEq,and_true,true_and] at h
 obtain ⟨h1,h2,h3,h4,h5,h6⟩:=h
 rw [bytes_inj h1,h2,h3,h4,bytes_inj h5,bytes_inj h6]
def keyL (s : ByteArray) : Lit:=.string s.data.toList
theorem keyL_inj {a b : ByteArray} (h : keyL a = keyL b) : a = b:=bytes_inj (Lit.string.inj h)
theorem keyL_key (s : ByteArray) : WideAt.IsKeyLit (keyL s):=trivial
def sameP (p : ByteArray) (y : Req) : Bool:=y.f0.data.toList == p.data.toList
theorem sameP_iff {p : ByteArray} {y : Req} : sameP p y = true ↔ y.f0 = p:=⟨fun h => bytes_inj (by simpa [sameP] using h),fun h => by simp [sameP,h]⟩
structure BestD (D : DW) (L : List Req) : Prop where
 isMap : Maps.IsMap D
 has : ∀ s : ByteArray,Maps.has D (keyL s) = L.any (sameP s)
 at_ : ∀ x ∈ L,∀ zd,D.atKey (keyL x.f0) zd = datR x
 keys : ∀ kl,Maps.has D kl = true → ∃ x ∈ L,kl = keyL x.f0
 nodup : L.Pairwise (fun x y => x.f0 ≠ y.f0)
theorem BestD.nil : BestD (.map []) []:=⟨Maps.isMap_empty,fun s => rfl,fun x h => absurd h q25_,fun kl h => absurd h (by simp [Maps.has_eq]),List.Pairwise.nil⟩
theorem BestD.add {D : DW} {L : List Req} (h : BestD D L) {r : Req} (hn : L.find? (sameP r.f0) = none) : BestD (D.put (keyL r.f0) (datR r)) (L ++ [r]):=by
 have hne : ∀ x ∈ L,x.f0 ≠ r.f0:=fun x hx he => by
  have:=List.find?_eq_none.mp hn x hx
  exact this (sameP_iff.2 he)
 refine ⟨h.isMap.put _ _,fun s => ?_,fun x hx zd => ?_,fun kl hk => ?_,?_⟩
 ·by_cases hs : s = r.f0
  ·subst hs
   rw [Maps.has_put_same h.isMap (keyL_key _),List.any_append]
   simp [sameP]
  ·rw [Maps.has_put_other (fun e => hs (keyL_inj e)),h.has,List.any_append]
   have : sameP s r = false:=by
    cases hb : sameP s r
    ·rfl
    ·exact absurd (sameP_iff.1 hb).symm hs
   simp [this]
 ·rcases List.mem_append.1 hx with hx | hx
  ·rw [Maps.atKey_put_other (fun e => hne x hx (keyL_inj e)),h.at_ x hx]
  ·obtain rfl:=List.mem_singleton.1 hx
   exact Maps.atKey_put_same h.isMap (keyL_key _) _ _
 ·by_cases hk' : kl = keyL r.f0
  ·exact ⟨r,by simp,hk'⟩
  ·rw [Maps.has_put_other hk'] at hk
   obtain ⟨x,hx,he⟩:=h.keys kl hk
   exact ⟨x,by simp [hx],he⟩
 ·refine List.pairwise_append.2 ⟨h.nodup,List.pairwise_singleton _ _,fun a ha b hb => ?_⟩
  obtain rfl:=List.mem_singleton.1 hb
  exact hne a ha
def setL (L : List Req) (r : Req) : List Req:=L.map fun y => if sameP r.f0 y then r else y
theorem setL_path (L : List Req) (r : Req) : (setL L r).map (·.f0) = L.map (·.f0):=by
 unfold setL
 rw [List.map_map]
 refine List.map_congr_left (fun y _ => ?_)
 simp only [Function.comp]
 split
 ·rename_i h;exact (sameP_iff.1 h).symm
 ·rfl
theorem BestD.turn {D : DW} {L : List Req} (h : BestD D L) {r x : Req} (hs : L.find? (sameP r.f0) = some x) : BestD (D.put (keyL r.f0) (datR r)) (setL L r):=by
 have hx : x ∈ L:=List.mem_of_find?_eq_some hs
 have hxr : x.f0 = r.f0:=sameP_iff.1 (List.find?_some hs)
 have hany : ∀ (p : ByteArray) (M : List Req),M.any (sameP p) = (M.map (·.f0)).any (fun q => q.data.toList == p.data.toList):=fun p M => by rw [List.any_map];rfl
 refine ⟨h.isMap.put _ _,fun s => ?_,fun y hy zd => ?_,fun kl hk => ?_,?_⟩
 ·rw [hany,setL_path,← hany]
  by_cases hs' : s = r.f0
  ·subst hs'
   rw [Maps.has_put_same h.isMap (keyL_key _)]
   exact (List.any_eq_true.2 ⟨x,hx,sameP_iff.2 hxr⟩).symm
  ·rw [Maps.has_put_other (fun e => hs' (keyL_inj e)),h.has]
 ·unfold setL at hy
  obtain ⟨y',hy',rfl⟩:=List.mem_map.1 hy
  cases hsy : sameP r.f0 y'
  ·have hne : y'.f0 ≠ r.f0:=fun e => by rw [sameP_iff.2 e] at hsy;exact absurd hsy q25_
   simp only [Bool.false_eq_true,if_false]
   rw [Maps.atKey_put_other (fun e => hne (keyL_inj e)),h.at_ y' hy']
  ·simp only [if_true]
   exact Maps.atKey_put_same h.isMap (keyL_key _) _ _
 ·by_cases hk' : kl = keyL r.f0
  ·exact ⟨r,List.mem_map.2 ⟨x,hx,by rw [if_pos (sameP_iff.2 hxr)]⟩,hk'⟩
  ·rw [Maps.has_put_other hk'] at hk
   obtain ⟨y,hy,he⟩:=h.keys kl hk
   refine ⟨y,List.mem_map.2 ⟨y,hy,?_⟩,he⟩
   rw [if_neg]
   intro hsy
   exact hk' (by rw [he,sameP_iff.1 hsy])
 ·have h1 : (L.map (·.f0)).Pairwise (· ≠ ·):=List.pairwise_map.2 h.nodup
  rw [← setL_path L r] at h1
  exact List.pairwise_map.1 h1
theorem BestD.find {D : DW} {L : List Req} (h : BestD D L) (s : ByteArray) (zd : DW) : (L.find? (sameP s) = none ∧ Maps.has D (keyL s) = false ∧ D.atKey (keyL s) zd = zd) ∨ ∃ x,L.find? (sameP s) = some x ∧ Maps.has D (keyL s) = true ∧ D.atKey (keyL s) zd = datR x:=by
 cases hf : L.find? (sameP s) with
 | none =>
  have hh : Maps.has D (keyL s) = false:=by
   rw [h.has,List.any_eq_false]
   exact fun x hx => List.find?_eq_none.mp hf x hx
  exact .inl ⟨rfl,hh,Maps.atKey_of_not_has hh _⟩
 | some x =>
  have hx : x ∈ L:=List.mem_of_find?_eq_some hf
  have hxs : x.f0 = s:=sameP_iff.1 (List.find?_some hf)
  refine .inr ⟨x,rfl,?_,?_⟩
  ·rw [h.has];exact List.any_eq_true.2 ⟨x,hx,sameP_iff.2 hxs⟩
  ·rw [← hxs];exact h.at_ x hx zd
def cmpP (x y : Req) : Option Int:=ver_Compare.f fuelR x.f1.f0 x.f1.f1 x.f1.f2 x.f1.f3 x.f1.f4 y.f1.f0 y.f1.f1 y.f1.f2 y.f1.f3 y.f1.f4
def takeP (L : List Req) (r : Req) : Option (List Req) :=
 if r.f0.size ≤ 4294967280 then
  match L.find? (sameP r.f0) with
  | none => some (L ++ [r])
  | some x => (cmpP r x).bind fun c => some (if c > 0 then setL L r else L)
 else none
def eachP : List Req → List Req → Option (List Req)
 | L,[] => some L
 | L,r :: rs => (takeP L r).bind fun L' => eachP L' rs
def OwnB (w : World) (b n : Nat) (L : List Req) : Prop:=∃ D : DW,w.ownsMap Tryz.prog 9 reqR b n D ∧ BestD D L
theorem OwnB.kept {w w' : World} {b n : Nat} {L : List Req} {row : Option Nat} (h : OwnB w b n L) (hg : w.grownBy w' row) (hne : some b ≠ row) : OwnB w' b n L:=by
 obtain ⟨D,h1,h2⟩:=h
 exact ⟨D,h1.kept hg hne,h2⟩
theorem OwnB.lt {w : World} {b n : Nat} {L : List Req} (h : OwnB w b n L) : b < w.heap.size:=by
 obtain ⟨D,h1,h2⟩:=h
 exact h1.lt
theorem OwnB.below {w w' : World} {b n : Nat} {L : List Req} (h : OwnB w b n L) (hb : Below w.heap.size w w') : OwnB w' b n L :=
 h.kept (row:=none) ⟨hb.os,hb.tape,hb.output,hb.size,fun k hk _ => hb.block k hk⟩ q25_
theorem OwnB.mono {w : World} {b n m : Nat} {L : List Req} (h : OwnB w b n L) (hn : n ≤ m) : OwnB w b m L:=by
 obtain ⟨D,h1,h2⟩:=h
 exact ⟨D,h1.mono hn,h2⟩
end Go.Proofs.YtennhpoemdaghaaGreatDoor.P
end
section
namespace Go.Proofs.YtennhpoemdaghaaGreatDoor.P
open Go Go.RowKit Go.Proofs.YtennhpoemdaghaaGreatDoorW.PrintWords
def ordI (a b : Int) : Int:=if a < b then -1 else if a > b then 1 else 0
def verR (x : Req) : Bool:=verB x.f1.f0 x.f1.f1 x.f1.f2 x.f1.f3.data.toList x.f1.f4.data.toList
def cmpB (x y : Req) : Int :=
 if verR x && verR y then
  (if ordI x.f1.f0 y.f1.f0 ≠ 0 then ordI x.f1.f0 y.f1.f0 else if ordI x.f1.f1 y.f1.f1 ≠ 0 then ordI x.f1.f1 y.f1.f1 else if ordI x.f1.f2 y.f1.f2 ≠ 0 then ordI x.f1.f2 y.f1.f2 else preCmp x.f1.f3.data.toList y.f1.f3.data.toList)
 else 0
theorem verR_pre {x : Req} (h : verR x = true) : x.f1.f3.size ≤ 30:=by
 unfold verR verB at h
 simp only [Bool.and_eq_true] at h
 exact of_decide_eq_true h.1.1.1.2
theorem cmpP_eq (x y : Req) : cmpP x y = some (cmpB x y):=by
 unfold cmpP ver_Compare.f cmpB
 have e1 : ver_Check.f x.f1.f0 x.f1.f1 x.f1.f2 x.f1.f3 x.f1.f4 = some (verR x):=rfl
 have e2 : ver_Check.f y.f1.f0 y.f1.f1 y.f1.f2 y.f1.f3 y.f1.f4 = some (verR y):=rfl
 rw [e1,e2,Option.bind_some,Option.bind_some]
 obtain ⟨m,hm⟩ : ∃ m,fuelR = m + 1:=⟨fuelR - 1,rfl⟩
 have hm2 : 100 < m:=by have : fuelR = 100000:=rfl;omega
 rw [hm]
 cases hx : verR x with
 | false => rfl
 | true =>
  cases hy : verR y with
  | false => rfl
  | true =>
   have h1:=verR_pre hx
   have h2:=verR_pre hy
   rw [if_pos rfl,ver_Compare.j0,if_neg q30_,cmpInt_f,cmpInt_f,cmpInt_f,Option.bind_some,Option.bind_some,Option.bind_some]
   unfold ver_byPre.f
   rw [if_pos ⟨by omega,by omega⟩,Option.bind_some,cmpOr_f _ q25_ m (by show 4 < m;omega),Option.bind_some]
   show some ((List.find? (fun x => x != 0) [ordI x.f1.f0 y.f1.f0,ordI x.f1.f1 y.f1.f1,ordI x.f1.f2 y.f1.f2,preCmp x.f1.f3.data.toList y.f1.f3.data.toList]).getD 0) = _
   generalize ordI x.f1.f0 y.f1.f0 = a
   generalize ordI x.f1.f1 y.f1.f1 = b
   generalize ordI x.f1.f2 y.f1.f2 = c
   generalize preCmp x.f1.f3.data.toList y.f1.f3.data.toList = d
   by_cases ha : a = 0
   ·by_cases hb : b = 0
    ·by_cases hc : c = 0
     ·by_cases hd : d = 0 <;> simp [ha,hb,hc,hd]
     ·simp [ha,hb,hc]
    ·simp [ha,hb]
   ·simp [ha]
end Go.Proofs.YtennhpoemdaghaaGreatDoor.P
end
section
namespace Go.Proofs.YtennhpoemdaghaaGreatDoor.P
open Go Go.RowKit Go.Proofs.YtennhpoemdaghaaGreatDoorW.PrintWords Go.Proofs.YtennhpoemdaghaaGreatDoorW.PrintLast Go.Proofs.YtennhpoemdaghaaGreatDoorW.PrintMore
section
variable {P : Program} {ops : Array Oper} {rest : List Oper} {o : Oper} {a : Act} {Q : Exit → Act → World → Prop}
theorem store_event {W : World} (t : TypeId) (p x : Operand) (ho : o.op = .store t p x) (hN : o.dst = none) (hgd : o.guard = none) (off e : Nat) (cur new : Array Value) (u : Value) (seg : List Value) {g : Nat}
  (haddr : a.eval p = .pointer (some ⟨g,off,none⟩)) (hx : a.eval x = u) (hu : u.cells.toList = seg) (ht : (P.info? t).map (·.size) = some seg.length) (h1 : ∀ q ∈ seg,q.oneCell' = true)
  (hh : W.heap[g]? = some (.cells cur e (0,0))) (hfit : off + seg.length ≤ cur.size) (hnew : cur.toList.take off ++ seg ++ cur.toList.drop (off + seg.length) = new.toList)
  (h : ∀ w1,w1.heap[g]? = some (.cells new e (0,0)) → W.grownBy w1 (some g) → wpList P ops Q rest a w1) : wpList P ops Q (o :: rest) a W:=by
 obtain ⟨cur',h3,h4,h5⟩:=setCells_row seg off W cur hh hfit
 obtain ⟨s1,s2,s3,s4⟩:=setCells_same g seg off W
 have hfar : ∀ k,k ≠ g → (W.setCells g off seg).heap[k]? = W.heap[k]?:=fun k hk => setCells_far seg _ k hk
 have hn : cur' = new:=by
  apply Array.ext'
  rw [h5,hnew]
 subst hn
 refine wpList_plain hgd fun K hK => ?_
 have hrun : (Instr.storeAt t (.pointer (some ⟨g,off,none⟩)) u).run P W = .ok () (W.setCells g off seg):=run_store_run t u seg hh hu ht hfit h1
 unfold Oper.wp execOp
 simp only [ho,haddr,hx,Sem.run_bind,Sem.run_pure,Result.andThen_ok,hrun]
 show K (a.put o.dst undef) _
 rw [hN]
 exact hK a _ (h _ h3 ⟨s1,s2,s3,by rw [s4];exact Nat.le_refl _,fun k _ hk => hfar k (fun he => hk (by rw [he]))⟩)
theorem store_step {Kc : Act → World → Prop} {W : World} (hw : Region.wanted o (yielded ops a.tmps) = true) (t : TypeId) (p x : Operand) (ho : o.op = .store t p x) (hN : o.dst = none) (off e : Nat) (cur new : Array Value) (u : Value) (seg : List Value) {g : Nat} {N : Option Tmp}
  (haddr : a.eval p = .pointer (some ⟨g,off,none⟩)) (hx : a.eval x = u) (hu : u.cells.toList = seg) (ht : (P.info? t).map (·.size) = some seg.length) (h1 : ∀ q ∈ seg,q.oneCell' = true)
  (hh : W.heap[g]? = some (.cells cur e (0,0))) (hfit : off + seg.length ≤ cur.size) (hnew : cur.toList.take off ++ seg ++ cur.toList.drop (off + seg.length) = new.toList)
  (h : ∀ w1,w1.heap[g]? = some (.cells new e (0,0)) → W.grownBy w1 (some g) → Kc a w1) : if Region.wanted o (yielded ops a.tmps) = true then Oper.wp P o a W Kc Q else Kc (a.put N undef) W:=by
 rw [if_pos hw]
 obtain ⟨cur',h3,h4,h5⟩:=setCells_row seg off W cur hh hfit
 obtain ⟨s1,s2,s3,s4⟩:=setCells_same g seg off W
 have hfar : ∀ k,k ≠ g → (W.setCells g off seg).heap[k]? = W.heap[k]?:=fun k hk => setCells_far seg _ k hk
 have hn : cur' = new:=by
  apply Array.ext'
  rw [h5,hnew]
 subst hn
 have hrun : (Instr.storeAt t (.pointer (some ⟨g,off,none⟩)) u).run P W = .ok () (W.setCells g off seg):=run_store_run t u seg hh hu ht hfit h1
 unfold Oper.wp execOp
 simp only [ho,haddr,hx,Sem.run_bind,Sem.run_pure,Result.andThen_ok,hrun]
 show Kc (a.put o.dst undef) _
 rw [hN]
 exact h _ h3 ⟨s1,s2,s3,by rw [s4];exact Nat.le_refl _,fun k _ hk => hfar k (fun he => hk (by rw [he]))⟩
end
theorem below_grown {w0 W w1 : World} {base g : Nat} (h : Below base w0 W) (hg : W.grownBy w1 (some g)) (hb : base ≤ g) (hs : base ≤ W.heap.size) : Below base w0 w1 :=
 h.trans ⟨hg.os,hg.tape,hg.output,hg.size,fun k hk => hg.block k (Nat.lt_of_lt_of_le hk hs) (fun he => by injection he with he;omega)⟩
end Go.Proofs.YtennhpoemdaghaaGreatDoor.P
end
section
namespace Go.Proofs
open Go.Shelf
def Tryz.sortReq_ren : Go.Shelf.Ren:=⟨fun | 6 => 53 | 15 => 90 | 14 => 89 | 28 => 131 | 29 => 132 | 20 => 123 | 21 => 124 | 22 => 125 | 23 => 126 | 24 => 127 | 25 => 128 | 26 => 129 | 27 => 130 | 46 => 156 | 47 => 157 | 48 => 158 | 49 => 159 | 50 => 160 | 57 => 183 | n => n,fun | 22 => 38 | 24 => 41 | 25 => 85 | 3 => 3 | 39 => 121 | 0 => 0 | 53 => 155 | 55 => 157 | 4 => 4 | 46 => 149 | 45 => 148 | 50 => 135 | 5 => 5 | 9 => 9 | 66 => 171 | 70 => 162 | 76 => 188 | 77 => 189 | n => n,fun | n => n⟩
theorem Tryz.sortReq : Go.Proofs.SlLaysF0.n6 Tryz.prog Tryz.sortReq_ren:={
 mixed:=by kernel_rfl
 f6:=⟨Tryz.f53.name,by decide,Tryz.func53.trans (congrArg some q9_)⟩
 f14:=⟨Tryz.f89.name,by decide,Tryz.func89.trans (congrArg some q9_)⟩
 f15:=Tryz.func90.trans (congrArg some q9_)
 f20:=⟨Tryz.f123.name,by decide,Tryz.func123.trans (congrArg some q9_)⟩
 f21:=⟨Tryz.f124.name,by decide,Tryz.func124.trans (congrArg some q9_)⟩
 f22:=⟨Tryz.f125.name,by decide,Tryz.func125.trans (congrArg some q9_)⟩
 f23:=⟨Tryz.f126.name,by decide,Tryz.func126.trans (congrArg some q9_)⟩
 f24:=⟨Tryz.f127.name,by decide,Tryz.func127.trans (congrArg some q9_)⟩
 f25:=⟨Tryz.f128.name,by decide,Tryz.func128.trans (congrArg some q9_)⟩
 f26:=⟨Tryz.f129.name,by decide,Tryz.func129.trans (congrArg some q9_)⟩
 f27:=⟨Tryz.f130.name,by decide,Tryz.func130.trans (congrArg some q9_)⟩
 f28:=Tryz.func131.trans (congrArg some q9_)
 f29:=Tryz.func132.trans (congrArg some q9_)
 f46:=⟨Tryz.f156.name,by decide,Tryz.func156.trans (congrArg some q9_)⟩
 f47:=Tryz.func157.trans (congrArg some q9_)
 f48:=Tryz.func158.trans (congrArg some q9_)
 f49:=⟨Tryz.f159.name,by decide,Tryz.func159.trans (congrArg some q9_)⟩
 f50:=⟨Tryz.f160.name,by decide,Tryz.func160.trans (congrArg some q9_)⟩
 f57:=⟨Tryz.f183.name,by decide,Tryz.func183.trans (congrArg some q9_)⟩
 t0:=Tryz.underlying0
 a0:=Tryz.isAgg0
 z0:=Tryz.sizeOf0
 v0:=Tryz.zeroValue0
 t3:=Tryz.underlying3
 a3:=Tryz.isAgg3
 z3:=Tryz.sizeOf3
 v3:=Tryz.zeroValue3
 t4:=Tryz.underlying4
 a4:=Tryz.isAgg4
 z4:=Tryz.sizeOf4
 v4:=Tryz.zeroValue4
 t5:=Tryz.underlying5
 a5:=Tryz.isAgg5
 z5:=Tryz.sizeOf5
 v5:=Tryz.zeroValue5
 t9:=Tryz.underlying9
 a9:=Tryz.isAgg9
 z9:=Tryz.sizeOf9
 v9:=Tryz.zeroValue9
 t22:=Tryz.underlying38
 a22:=Tryz.isAgg38
 z22:=Tryz.sizeOf38
 v22:=Tryz.zeroValue38
 t25:=Tryz.underlying85
 a25:=Tryz.isAgg85
 z25:=Tryz.sizeOf85
 v25:=Tryz.zeroValue85
 t39:=Tryz.underlying121
 a39:=Tryz.isAgg121
 z39:=Tryz.sizeOf121
 v39:=Tryz.zeroValue121
 t45:=Tryz.underlying148
 a45:=Tryz.isAgg148
 z45:=Tryz.sizeOf148
 v45:=Tryz.zeroValue148
 t46:=Tryz.underlying149
 a46:=Tryz.isAgg149
 z46:=Tryz.sizeOf149
 v46:=Tryz.zeroValue149
 t50:=Tryz.underlying135
 a50:=Tryz.isAgg135
 z50:=Tryz.sizeOf135
 v50:=Tryz.zeroValue135
 t53:=Tryz.underlying155
 a53:=Tryz.isAgg155
 z53:=Tryz.sizeOf155
 v53:=Tryz.zeroValue155
 t55:=Tryz.underlying157
 a55:=Tryz.isAgg157
 z55:=Tryz.sizeOf157
 v55:=Tryz.zeroValue157
 t66:=Tryz.underlying171
 a66:=Tryz.isAgg171
 z66:=Tryz.sizeOf171
 v66:=Tryz.zeroValue171
 t70:=Tryz.underlying162
 a70:=Tryz.isAgg162
 z70:=Tryz.sizeOf162
 v70:=Tryz.zeroValue162
 t76:=Tryz.underlying188
 a76:=Tryz.isAgg188
 z76:=Tryz.sizeOf188
 v76:=Tryz.zeroValue188
 t77:=Tryz.underlying189
 a77:=Tryz.isAgg189
 z77:=Tryz.sizeOf189
 v77:=Tryz.zeroValue189 }
end Go.Proofs
end
section
namespace Go.Proofs.YtennhpoemdaghaaGreatDoor.P
open Go Go.RowKit Go.Sort Go.Shelf Go.Proofs.YtennhpoemdaghaaGreatDoorW.PrintWords Go.Proofs.YtennhpoemdaghaaGreatDoorW.PrintLast Go.Proofs.YtennhpoemdaghaaGreatDoorW.PrintMore
def encR (r : Req) : List Value:=[.string r.f0,.int .i64 r.f1.f0,.int .i64 r.f1.f1,.int .i64 r.f1.f2,.string r.f1.f3,.string r.f1.f4]
instance : Inhabited Req:=⟨⟨⟨#[]⟩,0,0,0,⟨#[]⟩,⟨#[]⟩⟩⟩
def cfR (x y : Req) : Int:=Lib.compareBytes x.f0.data.toList y.f0.data.toList
theorem cmpB_lt : ∀ a b : List UInt8,decide (Lib.compareBytes a b < 0) = decide (a < b)
 | [],[] => by simp [Lib.compareBytes]
 | [],_ :: _ => by simp [Lib.compareBytes]
 | _ :: _,[] => by simp [Lib.compareBytes]
 | x :: xs,y :: ys => by
  have ih:=cmpB_lt xs ys
  simp only [decide_eq_decide] at ih ⊢
  rw [Lib.compareBytes,List.cons_lt_cons_iff]
  by_cases h1 : x < y
  ·simp [h1]
  ·by_cases h2 : y < x
   ·have h3 : x ≠ y:=fun e => by subst e;exact h1 h2
    simp [h1,h2,h3]
   ·have h3 : x = y:=UInt8.le_antisymm (UInt8.not_lt.1 h2) (UInt8.not_lt.1 h1)
    subst h3
    simp [h1,ih]
theorem ltR (x y : Req) : ltOf cfR x y = decide (x.f0.data.toList < y.f0.data.toList):=cmpB_lt _ _
theorem swoR : SWO (ltOf cfR):=by
 refine ⟨fun x => ?_,fun x y z h1 h2 => ?_,fun x y z h1 h2 => ?_⟩
 ·rw [ltR];simp [List.lt_irrefl]
 ·rw [ltR] at *
  simp only [decide_eq_true_eq] at *
  exact List.lt_trans h1 h2
 ·rw [ltR] at *
  simp only [decide_eq_false_iff_not] at *
  exact List.not_lt.2 (List.le_trans (List.not_lt.1 h2) (List.not_lt.1 h1))
set_option maxHeartbeats 1000000 in
theorem closureR (x y : Req) (W : World) : Calls Tryz.prog 54 #[.agg (encR x).toArray,.agg (encR y).toArray] W fun e w' => e = .returned (.int .i64 (cfR x y)) ∧ ∃ q os',w' = grow (W.drewN q) os':=by
 obtain ⟨r,hr⟩ : ∃ r,cfR x y = r:=⟨_,rfl⟩
 rw [hr]
 unfold encR
 go_enter Tryz.func54,Tryz.ntmps54
 go_wp2_with (go_at_call 55;refine (strings_Compare.calls x.f0 y.f0 r _ (congrArg some hr)).mono ?_;rintro e w' ⟨rfl,⟨nd,rfl⟩⟩)
 go_ret
 exact ⟨rfl,nd,_,by rw [alloc_eq_grow,alloc_eq_grow,grow_grow];rfl⟩
theorem isAggR (w : World) : (isAgg 41).run Tryz.prog w = .ok true w:=by go_simp
theorem sizeOfR (w : World) : (Go.sizeOf 41).run Tryz.prog w = .ok 6 w:=by go_simp
theorem flat_get (d : Array Req) (j q : Nat) (hj : j < d.size) (hq : q < 6) : (flatK encR 6 d)[j * 6 + q]! = (encR d[j]!)[q]!:=by
 rw [get_flatK _ _ _ _ q5_]
 have h1 : (j * 6 + q) / 6 = j:=by omega
 have h2 : (j * 6 + q) % 6 = q:=by omega
 rw [h1,h2]
theorem reps_flat (ys : List Req) (w : World) (base : Nat) (ok : Nat → Prop) : Reps (k41.M w base ok) 6 ys (flatK encR 6 ys.toArray).toList:=by
 refine ⟨by simp,fun j p hp => ?_⟩
 have hj : j < ys.length:=by
  rcases Nat.lt_or_ge j ys.length with h | h
  ·exact h
  ·rw [List.getElem?_eq_none h] at hp;exact absurd hp q25_
 have hpj : ys[j] = p:=by rw [List.getElem?_eq_getElem hj] at hp;exact Option.some.inj hp
 have he : (((flatK encR 6 ys.toArray).toList.drop (j * 6)).take 6) = encR p:=by
  apply List.ext_getElem?
  intro q
  by_cases hq : q < 6
  ·rw [List.getElem?_take_of_lt hq,List.getElem?_drop,Array.getElem?_toList]
   have hsz : j * 6 + q < (flatK encR 6 ys.toArray).size:=by simp;omega
   have hg:=flat_get ys.toArray j q (by simpa using hj) hq
   rw [getElem!_pos (flatK encR 6 ys.toArray) (j * 6 + q) hsz] at hg
   rw [Array.getElem?_eq_getElem hsz,hg]
   have hyj : (ys.toArray)[j]! = p:=by rw [← hpj];simp [hj]
   rw [hyj]
   have hl : q < (encR p).length:=hq
   rw [List.getElem?_eq_getElem hl,getElem!_pos (encR p) q hl]
  ·rw [List.getElem?_eq_none q46_,List.getElem?_eq_none (show (encR p).length ≤ q from by show 6 ≤ q;omega)]
 rw [he]
 exact k41_mkM w base ok p
theorem flat_of_reps {xs : List Req} {inner : List Value} {w : World} {base : Nat} {ok : Nat → Prop} (h : Reps (k41.M w base ok) 6 xs inner) : inner = (flatK encR 6 xs.toArray).toList:=by
 obtain ⟨hl,hr⟩:=h
 apply List.ext_getElem?
 intro t
 by_cases ht : t < xs.length * 6
 ·have hj : t / 6 < xs.length:=by omega
  have hp:=hr (t / 6) xs[t / 6] (List.getElem?_eq_getElem hj)
  have ho:=k41_openM hp
  have h1 : ((inner.drop (t / 6 * 6)).take 6)[t % 6]? = inner[t]?:=by
   rw [List.getElem?_take_of_lt q5_,List.getElem?_drop]
   congr 1
   omega
  rw [← h1,ho]
  have hsz : t < (flatK encR 6 xs.toArray).size:=by simp;omega
  have hg:=get_flatK encR 6 xs.toArray t (by simpa using ht)
  rw [getElem!_pos (flatK encR 6 xs.toArray) t hsz] at hg
  have hR : (flatK encR 6 xs.toArray).toList[t]? = some ((flatK encR 6 xs.toArray)[t]'hsz):=by rw [Array.getElem?_toList,Array.getElem?_eq_getElem hsz]
  rw [hR,hg]
  have hx : (xs.toArray)[t / 6]! = xs[t / 6]:=by simp [hj]
  rw [hx]
  show (encR xs[t / 6])[t % 6]? = _
  have hq : t % 6 < (encR xs[t / 6]).length:=by show _ < 6;omega
  rw [List.getElem?_eq_getElem hq,getElem!_pos (encR xs[t / 6]) (t % 6) hq]
 ·rw [List.getElem?_eq_none q5_,List.getElem?_eq_none q46_]
theorem putCells_take (F cur : Array Value) (h : F.size ≤ cur.size) : (putCells id 0 F cur).toList.take F.size = F.toList:=by
 apply List.ext_getElem?
 intro j
 by_cases hj : j < F.size
 ·rw [List.getElem?_take_of_lt hj,Array.getElem?_toList]
  simp [putCells,hj,show j < cur.size by omega]
 ·rw [List.getElem?_take_eq_none q5_,List.getElem?_eq_none q46_]
theorem heap_sortedR {w : World} {g n : Nat} {os : Array Obj} {cur : Array Value} {e : TypeId} {fr : Nat × Nat} (F : Array Value) (hb : w.heap[g]? = some (.cells cur e fr)) :
  (grow (putRow id (Sort.ahead w n) g 0 F) os).heap[g]? = some (.cells (putCells id 0 F cur) e fr):=by
 have hg : g < w.heap.size:=(Array.getElem?_eq_some_iff.1 hb).1
 rw [heap_grow_old _ _ (by simpa using hg)]
 simp [putRow,mapBlock,Sort.ahead,Array.getElem?_modify,hb,onCells]
theorem grownBy_sortedR {w : World} {g n : Nat} {os : Array Obj} (F : Array Value) : w.grownBy (grow (putRow id (Sort.ahead w n) g 0 F) os) (some g):=by
 refine ⟨rfl,rfl,rfl,by simp,fun k hk hne => ?_⟩
 rw [heap_grow_old _ _ (by simpa using hk)]
 have : g ≠ k:=fun e => hne (by rw [e])
 simp [putRow,mapBlock,Sort.ahead,Array.getElem?_modify,this]
set_option maxRecDepth 100000 in
set_option maxHeartbeats 4000000 in
theorem sort_nil (w : World) : Calls Tryz.prog 53 #[.slice none 0 0,.func (.func 54) #[] #[]] w fun e w' => e = .returned (.tuple #[]) ∧ ∃ nd,w' = w.drewN nd:=by
 have hlen:=fun W => Any.bits_Len (SlLaysF0.n15.bits (P:=Tryz.prog) (ρ:=Tryz.sortReq_ren) { Tryz.sortReq with }) 0 W q5_ q5_
 change ∀ W,Calls Tryz.prog 90 _ _ _ at hlen
 have hins : ∀ W,Calls Tryz.prog 123 #[.slice none 0 0,.int .i64 0,.int .i64 0,.func (.func 54) #[] #[]] W fun e w' => e = .returned (.tuple #[]) ∧ w' = W:=by
  intro W
  go_enter Tryz.func123,Tryz.ntmps123
  go_wp2
  go_loopw [8] (fun v8 wr => v8 = .int .i64 1 ∧ wr = W) (fun _ _ => 0)
  case atStart => exact ⟨rfl,rfl⟩
  case round =>
   obtain ⟨rfl,rfl⟩:=hrel
   go_wp2
   go_end0
   exact ⟨rfl,rfl⟩
 have hpdq : ∀ W,Calls Tryz.prog 89 #[.slice none 0 0,.int .i64 0,.int .i64 0,.int .i64 0,.func (.func 54) #[] #[]] W fun e w' => e = .returned (.tuple #[]) ∧ w' = W:=by
  intro W
  go_enter Tryz.func89,Tryz.ntmps89
  go_wp2
  go_loopw [1,2] (fun v1 v2 wr => v1 = .int .i64 0 ∧ v2 = .int .i64 0 ∧ wr = W) (fun _ _ _ => 0)
  case atStart => exact ⟨rfl,rfl,rfl⟩
  case round =>
   obtain ⟨rfl,rfl,rfl⟩:=hrel
   go_wp2_with (go_at_call 123;refine (hins _).mono ?_;rintro e w' ⟨rfl,rfl⟩)
   refine bodyPost_ret (results_none rfl _ _ _) rfl ⟨rfl,rfl⟩
 go_enter Tryz.func53,Tryz.ntmps53
 go_wp2_with (first | (go_at_call 90;refine (hlen _).mono ?_;rintro e w' ⟨rfl,rfl⟩) | (go_at_call 89;refine (hpdq _).mono ?_;rintro e w' ⟨rfl,rfl⟩))
 go_end0
 exact ⟨rfl,0,rfl⟩
def SortedR (ys : List Req) : Prop:=ys.Pairwise fun a b => ¬ b.f0.data.toList < a.f0.data.toList
theorem sort_calls (v : Value) (xs : List Req) (base : Nat) (ok : Nat → Prop) (w : World) (hR : Kd.R k41 41 w base ok v xs) (hx : xs.length ≤ 1000000) :
  Calls Tryz.prog 53 #[v,.func (.func 54) #[] #[]] w fun e w' => e = .returned (.tuple #[]) ∧ ∃ ys,ys.Perm xs ∧ SortedR ys ∧ Kd.R k41 41 w' base ok v ys ∧ w.grownBy w' v.ownBlock:=by
 obtain ⟨h0,inner,⟨hl,ho⟩,hr⟩:=hR
 rcases ho with ⟨rfl,hn⟩ | ⟨g,cap,cur,rfl,hbg,hb,hnc,hcm,hcs,htk⟩
 ·obtain rfl:=List.eq_nil_of_length_eq_zero hn
  refine (sort_nil w).mono ?_
  rintro e w' ⟨rfl,nd,rfl⟩
  exact ⟨rfl,[],List.Perm.refl _,List.Pairwise.nil,⟨h0,inner,⟨hl,.inl ⟨rfl,rfl⟩⟩,hr⟩,⟨rfl,rfl,rfl,Nat.le_refl _,fun _ _ _ => rfl⟩⟩
 ·have hin:=flat_of_reps hr
  have hgs : g < w.heap.size:=(Array.getElem?_eq_some_iff.1 hb).1
  have hH : HoldsK encR 6 w g 0 xs.toArray:=by
   intro t ht
   have ht' : t < xs.length * 6:=by simpa using ht
   refine ⟨?_,by simp [World.frozen?,hb]⟩
   rw [Nat.zero_add,cell_of_row w g t cur 41 (0,0) hb,← Array.getElem?_toList]
   have h1 : (cur.toList.take (xs.length * 6))[t]? = inner[t]?:=by rw [show k41.sz = 6 from rfl] at htk;rw [htk]
   rw [List.getElem?_take_of_lt ht'] at h1
   rw [h1,hin,Array.getElem?_toList,getElem!_pos (flatK encR 6 xs.toArray) t ht,Array.getElem?_eq_getElem ht]
   rfl
  have hcon:=AnyQ.slices_SortFunc Tryz.sortReq 6 isAggR sizeOfR encR (fun _ => rfl) (fun x v hv => by simp [encR] at hv;rcases hv with rfl | rfl | rfl | rfl | rfl | rfl <;> rfl) cfR swoR 54 #[] g 0 cap xs.toArray w (enters_of Tryz.func54 q9_ rfl) (fun _ _ _ _ x y => closureR x y _) hH hgs q46_
  change Calls Tryz.prog 53 _ _ _ at hcon
  rw [show (xs.toArray).size = xs.length from by simp] at hcon
  refine hcon.mono ?_
  rintro e w' ⟨rfl,d',n,os,⟨hds,_,hperm⟩,hsort,rfl⟩
  have hd' : d'.size = xs.length:=by rw [hds];simp
  obtain ⟨ys,rfl⟩ : ∃ ys : List Req,d' = ys.toArray:=⟨d'.toList,by simp⟩
  have hyl : ys.length = xs.length:=by simpa using hd'
  have hp : ys.Perm xs:=by
   rw [show (ys.toArray.extract 0 xs.length).toList = ys from by simp [← hyl],show (xs.toArray.extract 0 xs.length).toList = xs from by simp] at hperm
   exact hperm
  refine ⟨rfl,ys,hp,?_,?_,grownBy_sortedR _⟩
  ·rw [SortedR,List.pairwise_iff_getElem]
   intro i j hi hj hij
   have h1:=hsort i j (Nat.zero_le _) hij q5_
   rw [ltR] at h1
   have e1 : (ys.toArray)[i]! = ys[i]:=by simp [hi]
   have e2 : (ys.toArray)[j]! = ys[j]:=by simp [hj]
   rw [e1,e2] at h1
   exact of_decide_eq_false h1
  ·refine ⟨h0,(flatK encR 6 ys.toArray).toList,⟨by simp;rfl,.inr ⟨g,cap,_,by rw [hyl],hbg,heap_sortedR _ hb,by omega,hcm,by simp [putCells,hcs],?_⟩⟩,reps_flat ys _ _ _⟩
   have hfs : (flatK encR 6 ys.toArray).size = ys.length * 6:=by simp
   rw [show k41.sz = 6 from rfl,← hfs]
   refine putCells_take _ cur ?_
   rw [hfs,hcs,show k41.sz = 6 from rfl,hyl]
   exact Nat.mul_le_mul_right _ hnc
end Go.Proofs.YtennhpoemdaghaaGreatDoor.P
end
section
namespace Go.Proofs.YtennhpoemdaghaaGreatDoor.P
open Go.RowKit Go.Proofs.YtennhpoemdaghaaGreatDoorW.PrintWords Go.Proofs.YtennhpoemdaghaaGreatDoorW.PrintLast Go.Proofs.YtennhpoemdaghaaGreatDoorW.PrintMore
def Rf07_order.f (a0 : Int) (a1 : Int) : Option (Int):=if a0 < a1 then (some (-1)) else (if a0 > a1 then (some 1) else (some 0))
set_option maxHeartbeats 8000000 in
set_option maxRecDepth 100000 in
theorem Rf07_order.calls (a0 : Int) (a1 : Int) (r : Int) (w : World) (h : Rf07_order.f a0 a1 = some r) :
  Calls Tryz.prog 68 #[.int .i64 a0,.int .i64 a1] w fun e w' => e = .returned (.int .i64 r) ∧ Drawn0 w w':=by
 have H : (if a0 < a1 then (some (-1)) else (if a0 > a1 then (some 1) else (some 0))) = some r:=h
 clear h
 by_cases c3 : a0 < a1
 ·rw [if_pos c3] at H
  have c3b0:=decide_eq_true c3
  clear c3
  obtain rfl:=Option.some.inj H
  go_enter Tryz.func68,Tryz.ntmps68
  go_wp2
  go_ret
  exact ⟨q3_,q4_⟩
 ·rw [if_neg c3] at H
  have c3b0:=decide_eq_false c3
  clear c3
  by_cases c4 : a0 > a1
  ·rw [if_pos c4] at H
   have c4b0 : decide (a1 < a0) = true:=decide_eq_true c4
   clear c4
   obtain rfl:=Option.some.inj H
   go_enter Tryz.func68,Tryz.ntmps68
   go_wp2
   go_ret
   exact ⟨q3_,q4_⟩
  ·rw [if_neg c4] at H
   have c4b0 : decide (a1 < a0) = false:=decide_eq_false c4
   clear c4
   obtain rfl:=Option.some.inj H
   go_enter Tryz.func68,Tryz.ntmps68
   go_wp2
   go_ret
   exact ⟨q3_,q4_⟩
def Rf07_one.f (a0 : Bool) : Option (Int):=if a0 = true then (some 1) else (some 0)
set_option maxHeartbeats 8000000 in
set_option maxRecDepth 100000 in
theorem Rf07_one.calls (a0 : Bool) (r : Int) (w : World) (h : Rf07_one.f a0 = some r) :
  Calls Tryz.prog 97 #[.bool a0] w fun e w' => e = .returned (.int .i64 r) ∧ Drawn0 w w':=by
 have H : (if a0 = true then (some 1) else (some 0)) = some r:=h
 clear h
 by_cases c2 : a0 = true
 ·subst c2
  rw [if_pos rfl] at H
  obtain rfl:=Option.some.inj H
  go_enter Tryz.func97,Tryz.ntmps97
  go_wp2
  go_ret
  exact ⟨q3_,q4_⟩
 ·replace c2:=Bool.eq_false_iff.mpr c2
  subst c2
  rw [if_neg (show ¬ (false = true) by decide)] at H
  obtain rfl:=Option.some.inj H
  go_enter Tryz.func97,Tryz.ntmps97
  go_wp2
  go_ret
  exact ⟨q3_,q4_⟩
end Go.Proofs.YtennhpoemdaghaaGreatDoor.P
end
section
namespace Go.Proofs.YtennhpoemdaghaaGreatDoor.P
open Go
theorem beq_nil_ (l : List UInt8) : (l == []) = l.isEmpty:=by cases l <;> rfl
theorem less_flip (a b : ByteArray) : (!(Op.bytesLess a.toList b.toList || a.toList == b.toList)) = Op.bytesLess b.toList a.toList:=by
 rw [Proofs.bytesLess_eq,Proofs.bytesLess_eq]
 by_cases h : a.toList < b.toList
 ·have h2 : ¬ b.toList < a.toList:=List.lt_asymm h
  simp [h,h2]
 ·by_cases h' : a.toList = b.toList
  ·simp [h,h',List.lt_irrefl]
  ·have h2 : b.toList < a.toList:=by
    rcases Decidable.em (b.toList < a.toList) with h3 | h3
    ·exact h3
    ·exact absurd (List.le_antisymm (List.not_lt.mp h3) (List.not_lt.mp h)) h'
   simp [h,h',h2]
@[go_sem high] theorem binOp_gtr_ (t : TypeId) (a b : ByteArray) : binOp .gtr t (.string a) (.string b) = pure (.bool (Op.bytesLess b.toList a.toList)):=by
 rw [binOp_string_gtr,less_flip]
end Go.Proofs.YtennhpoemdaghaaGreatDoor.P
end
section
namespace Go.Proofs.YtennhpoemdaghaaGreatDoor.P
open Go.RowKit Go.Proofs.YtennhpoemdaghaaGreatDoorW.PrintWords Go.Proofs.YtennhpoemdaghaaGreatDoorW.PrintLast Go.Proofs.YtennhpoemdaghaaGreatDoorW.PrintMore
mutual
def Rf07_words.j0 : Nat → ByteArray → ByteArray → Bool → Bool → Bool → Option (Int)
 | 0,_,_,_,_,_ => none
 | k + 1,x0,x1,x5,x6,x21 => if x21 = true then ((Rf07_order.f (x0.size : Int) (x1.size : Int)).bind fun t103 => (some t103)) else (if x5 = true then (Rf07_words.j1 k x0 x1 x5 x6 (!x6)) else (Rf07_words.j1 k x0 x1 x5 x6 false))
def Rf07_words.j1 : Nat → ByteArray → ByteArray → Bool → Bool → Bool → Option (Int)
 | 0,_,_,_,_,_ => none
 | k + 1,x0,x1,x5,x6,x31 => if x31 = true then (some (-1)) else (if x6 = true then (Rf07_words.j2 k x0 x1 (!x5)) else (Rf07_words.j2 k x0 x1 false))
def Rf07_words.j2 : Nat → ByteArray → ByteArray → Bool → Option (Int)
 | 0,_,_,_ => none
 | k + 1,x0,x1,x36 => if x36 = true then (some 1) else (if (Op.bytesLess x0.toList x1.toList) = true then (some (-1)) else (if (Op.bytesLess x1.toList x0.toList) = true then (some 1) else (some 0)))
end
def Rf07_words.f (k : Nat) (a0 : ByteArray) (a1 : ByteArray) : Option (Int):=(Rf07_digits.f k a0).bind fun t101 => ((Rf07_digits.f k a1).bind fun t102 => (if t101 = true then (if t102 = true then (Rf07_words.j0 k a0 a1 t101 t102 ((a0.size : Int) != (a1.size : Int))) else (Rf07_words.j0 k a0 a1 t101 t102 false)) else (Rf07_words.j0 k a0 a1 t101 t102 false)))
set_option maxHeartbeats 8000000 in
set_option maxRecDepth 100000 in
theorem Rf07_words.calls (k : Nat) (a0 : ByteArray) (a1 : ByteArray) (r : Int) (w : World) (h : Rf07_words.f k a0 a1 = some r) :
  Calls Tryz.prog 99 #[.string a0,.string a1] w fun e w' => e = .returned (.int .i64 r) ∧ Drawn0 w w':=by
 have H : ((Rf07_digits.f k a0).bind fun t101 => ((Rf07_digits.f k a1).bind fun t102 => (if t101 = true then (if t102 = true then (Rf07_words.j0 k a0 a1 t101 t102 ((a0.size : Int) != (a1.size : Int))) else (Rf07_words.j0 k a0 a1 t101 t102 false)) else (Rf07_words.j0 k a0 a1 t101 t102 false)))) = some r:=h
 clear h
 obtain ⟨t101,A30,H⟩:=Option.bind_eq_some_iff.mp H
 have A3:=Aside0.mk A30
 clear A30
 obtain ⟨t102,A40,H⟩:=Option.bind_eq_some_iff.mp H
 have A4:=Aside0.mk A40
 clear A40
 have HC5:=Aside0.mk H
 clear H
 go_enter Tryz.func99,Tryz.ntmps99
 go_upto_region 3 with (first | ((with_reducible refine gate_callee (f:=135) rfl ?_);refine gl_ 8 Tryz.func135 #[.string a0] ?_;(with_reducible refine (Rf07_digits.calls k a0 t101 _ A3.out).mono ?_);rintro e w' ⟨rfl,⟨nd,rfl⟩⟩;refine ⟨_,rfl,?_⟩) | ((with_reducible refine gate_callee (f:=135) rfl ?_);refine gl_ 10 Tryz.func135 #[.string a1] ?_;(with_reducible refine (Rf07_digits.calls k a1 t102 _ A4.out).mono ?_);rintro e w' ⟨rfl,⟨nd,rfl⟩⟩;refine ⟨_,rfl,?_⟩))
 (try simp only [Act.put,List.setIfInBounds_toArray,List.set_cons_zero,List.set_cons_succ])
 go_cut [21] (fun v21 wc => ∃ (kq : Nat) (x21_4 : Bool),v21 = .bool x21_4 ∧ Aside0 (Rf07_words.j0 kq a0 a1 t101 t102 x21_4 = some r) ∧ Aside0 (kq ≤ k) ∧ Drawn0 w wc)
 case first =>
  have H:=HC5.out
  clear HC5
  by_cases c6 : t101 = true
  ·subst c6
   rw [if_pos rfl] at H
   by_cases c7 : t102 = true
   ·subst c7
    rw [if_pos rfl] at H
    have H':=Aside0.mk H
    clear H
    go_wp2
    go_meet
    case rel => exact ⟨_,(((a0.size : Int) != (a1.size : Int))),q12_,H',⟨by first | omega | exact Nat.le_refl _⟩,by repeat (first | exact Drawn0.refl _ | apply Drawn0.step)⟩
   ·replace c7:=Bool.eq_false_iff.mpr c7
    subst c7
    rw [if_neg (show ¬ (false = true) by decide)] at H
    have H':=Aside0.mk H
    clear H
    go_wp2
    go_meet
    case rel => exact ⟨_,(false),q12_,H',⟨by first | omega | exact Nat.le_refl _⟩,by repeat (first | exact Drawn0.refl _ | apply Drawn0.step)⟩
  ·replace c6:=Bool.eq_false_iff.mpr c6
   subst c6
   rw [if_neg (show ¬ (false = true) by decide)] at H
   have H':=Aside0.mk H
   clear H
   go_wp2
   go_meet
   case rel => exact ⟨_,(false),q12_,H',⟨by first | omega | exact Nat.le_refl _⟩,by repeat (first | exact Drawn0.refl _ | apply Drawn0.step)⟩
 case rest =>
  clear HC5
  try clear c1
  try clear p2
  try clear c6
  try clear c7
  obtain ⟨kq,x21_4,rfl,HA,HJ4,⟨mc4,rfl⟩⟩:=hcut
  cases kq with
  | zero => exact absurd HA.out (by simp [Rf07_words.j0])
  | succ kj4 =>
   have H:=HA.out
   clear HA
   simp only [Rf07_words.j0] at H
   by_cases c8 : x21_4 = true
   ·subst c8
    rw [if_pos rfl] at H
    obtain ⟨t103,A90,H⟩:=Option.bind_eq_some_iff.mp H
    have A9:=Aside0.mk A90
    clear A90
    obtain rfl:=Option.some.inj H
    go_wp2_with (first | ((with_reducible refine gate_callee (f:=68) rfl ?_);refine gl_ 26 Tryz.func68 #[.int .i64 (a0.size : Int),.int .i64 (a1.size : Int)] ?_;(with_reducible refine (Rf07_order.calls (a0.size : Int) (a1.size : Int) t103 _ A9.out).mono ?_);rintro e w' ⟨rfl,⟨nd,rfl⟩⟩;refine ⟨_,rfl,?_⟩))
    go_ret
    exact ⟨q3_,q4_⟩
   ·replace c8:=Bool.eq_false_iff.mpr c8
    subst c8
    rw [if_neg (show ¬ (false = true) by decide)] at H
    have HC10:=Aside0.mk H
    clear H
    go_upto_region 5 with (fail)
    go_cut [31] (fun v31 wc => ∃ (kq : Nat) (x31_9 : Bool),v31 = .bool x31_9 ∧ Aside0 (Rf07_words.j1 kq a0 a1 t101 t102 x31_9 = some r) ∧ Aside0 (kq ≤ kj4) ∧ Drawn0 w wc)
    case first =>
     have H:=HC10.out
     clear HC10
     by_cases c11 : t101 = true
     ·subst c11
      rw [if_pos rfl] at H
      have H':=Aside0.mk H
      clear H
      go_wp2
      go_meet
      case rel => exact ⟨_,(!t102),q12_,H',⟨by have:=HJ4.out;first | omega | exact Nat.le_refl _⟩,by repeat (first | exact Drawn0.refl _ | apply Drawn0.step)⟩
     ·replace c11:=Bool.eq_false_iff.mpr c11
      subst c11
      rw [if_neg (show ¬ (false = true) by decide)] at H
      have H':=Aside0.mk H
      clear H
      go_wp2
      go_meet
      case rel => exact ⟨_,(false),q12_,H',⟨by have:=HJ4.out;first | omega | exact Nat.le_refl _⟩,by repeat (first | exact Drawn0.refl _ | apply Drawn0.step)⟩
    case rest =>
     clear HC10
     try clear c1
     try clear p2
     try clear c4
     try clear c6
     try clear c7
     try clear c8
     try clear c9
     try clear c11
     try clear p2
     obtain ⟨kq,x31_9,rfl,HA,HJ9,⟨mc9,rfl⟩⟩:=hcut
     cases kq with
     | zero => exact absurd HA.out (by simp [Rf07_words.j1])
     | succ kj9 =>
      have H:=HA.out
      clear HA
      simp only [Rf07_words.j1] at H
      by_cases c12 : x31_9 = true
      ·subst c12
       rw [if_pos rfl] at H
       obtain rfl:=Option.some.inj H
       go_wp2
       go_ret
       exact ⟨q3_,q4_⟩
      ·replace c12:=Bool.eq_false_iff.mpr c12
       subst c12
       rw [if_neg (show ¬ (false = true) by decide)] at H
       have HC13:=Aside0.mk H
       clear H
       go_upto_region 7 with (fail)
       go_cut [36] (fun v36 wc => ∃ (kq : Nat) (x36_12 : Bool),v36 = .bool x36_12 ∧ Aside0 (Rf07_words.j2 kq a0 a1 x36_12 = some r) ∧ Aside0 (kq ≤ kj9) ∧ Drawn0 w wc)
       case first =>
        have H:=HC13.out
        clear HC13
        by_cases c14 : t102 = true
        ·subst c14
         rw [if_pos rfl] at H
         have H':=Aside0.mk H
         clear H
         go_wp2
         go_meet
         case rel => exact ⟨_,(!t101),q12_,H',⟨by have:=HJ4.out;have:=HJ9.out;first | omega | exact Nat.le_refl _⟩,by repeat (first | exact Drawn0.refl _ | apply Drawn0.step)⟩
        ·replace c14:=Bool.eq_false_iff.mpr c14
         subst c14
         rw [if_neg (show ¬ (false = true) by decide)] at H
         have H':=Aside0.mk H
         clear H
         go_wp2
         go_meet
         case rel => exact ⟨_,(false),q12_,H',⟨by have:=HJ4.out;have:=HJ9.out;first | omega | exact Nat.le_refl _⟩,by repeat (first | exact Drawn0.refl _ | apply Drawn0.step)⟩
       case rest =>
        clear HC13
        try clear c1
        try clear p2
        try clear c4
        try clear c6
        try clear c7
        try clear c8
        try clear c9
        try clear c11
        try clear c12
        try clear c13
        try clear c14
        try clear p2
        obtain ⟨kq,x36_12,rfl,HA,HJ12,⟨mc12,rfl⟩⟩:=hcut
        cases kq with
        | zero => exact absurd HA.out (by simp [Rf07_words.j2])
        | succ kj12 =>
         have H:=HA.out
         clear HA
         simp only [Rf07_words.j2] at H
         by_cases c15 : x36_12 = true
         ·subst c15
          rw [if_pos rfl] at H
          obtain rfl:=Option.some.inj H
          go_wp2
          go_ret
          exact ⟨q3_,q4_⟩
         ·replace c15:=Bool.eq_false_iff.mpr c15
          subst c15
          rw [if_neg (show ¬ (false = true) by decide)] at H
          by_cases c16 : (Op.bytesLess a0.toList a1.toList) = true
          ·rw [if_pos c16] at H
           have c16b0 : (Op.bytesLess a0.toList a1.toList) = true:=c16
           clear c16
           obtain rfl:=Option.some.inj H
           go_wp2
           go_ret
           exact ⟨q3_,q4_⟩
          ·rw [if_neg c16] at H
           have c16b0 : (Op.bytesLess a0.toList a1.toList) = false:=by simpa using c16
           clear c16
           by_cases c17 : (Op.bytesLess a1.toList a0.toList) = true
           ·rw [if_pos c17] at H
            have c17b0 : (Op.bytesLess a1.toList a0.toList) = true:=c17
            clear c17
            obtain rfl:=Option.some.inj H
            go_wp2
            go_ret
            exact ⟨q3_,q4_⟩
           ·rw [if_neg c17] at H
            have c17b0 : (Op.bytesLess a1.toList a0.toList) = false:=by simpa using c17
            clear c17
            obtain rfl:=Option.some.inj H
            go_wp2
            go_ret
            exact ⟨q3_,q4_⟩
end Go.Proofs.YtennhpoemdaghaaGreatDoor.P
end
section
namespace Go.Proofs.YtennhpoemdaghaaGreatDoor.P
open Go.RowKit Go.Proofs.YtennhpoemdaghaaGreatDoorW.PrintWords Go.Proofs.YtennhpoemdaghaaGreatDoorW.PrintLast Go.Proofs.YtennhpoemdaghaaGreatDoorW.PrintMore
mutual
def Rf07_pre.j0 : Nat → ByteArray → ByteArray → Bool → Option (Int)
 | 0,_,_,_ => none
 | k + 1,x0,x1,x13 => if x13 = true then ((Rf07_one.f (x0.toList == ([] : List UInt8))).bind fun t101 => ((Rf07_one.f (x1.toList == ([] : List UInt8))).bind fun t102 => ((Rf07_order.f t101 t102).bind fun t103 => (some t103)))) else ((Rf05_Split.f k x0 46).bind fun t104 => ((Rf05_Split.f k x1 46).bind fun t107 => (Rf07_pre.l0 k t104 t107 0)))
def Rf07_pre.l0 : Nat → List ByteArray → List ByteArray → Int → Option (Int)
 | 0,_,_,_ => none
 | k + 1,x5,x6,x7 => if x7 < (x5.length : Int) then (Rf07_pre.j2 k x5 x6 x7 (decide (x7 < (x6.length : Int)))) else (Rf07_pre.j2 k x5 x6 x7 false)
def Rf07_pre.j2 : Nat → List ByteArray → List ByteArray → Int → Bool → Option (Int)
 | 0,_,_,_,_ => none
 | k + 1,x5,x6,x7,x34 => if x34 = true then (if 0 ≤ x7 then (if x7 < (x5.length : Int) then (if x7 < (x6.length : Int) then ((Rf07_words.f k (rdOf ByteArray.empty x5 x7) (rdOf ByteArray.empty x6 x7)).bind fun t113 => (if t113 = 0 then (Rf07_pre.l0 k x5 x6 (wrap64 (x7 + 1))) else ((Rf07_words.f k (rdOf ByteArray.empty x5 x7) (rdOf ByteArray.empty x6 x7)).bind fun t116 => (some t116)))) else (none)) else (none)) else (none)) else ((Rf07_order.f (x5.length : Int) (x6.length : Int)).bind fun t110 => (some t110))
end
def Rf07_pre.f (k : Nat) (a0 : ByteArray) (a1 : ByteArray) : Option (Int):=if a0.toList = ([] : List UInt8) then (Rf07_pre.j0 k a0 a1 true) else (Rf07_pre.j0 k a0 a1 (a1.toList == ([] : List UInt8)))
set_option maxHeartbeats 8000000 in
set_option maxRecDepth 100000 in
theorem Rf07_pre.calls (k : Nat) (a0 : ByteArray) (a1 : ByteArray) (r : Int) (w : World) (h : Rf07_pre.f k a0 a1 = some r) :
  Calls Tryz.prog 69 #[.string a0,.string a1] w fun e w' => e = .returned (.int .i64 r) ∧ Below w.heap.size w w':=by
 have HB:=Aside0.mk (Below.refl w.heap.size w)
 have H : (if a0.toList = ([] : List UInt8) then (Rf07_pre.j0 k a0 a1 true) else (Rf07_pre.j0 k a0 a1 (a1.toList == ([] : List UInt8)))) = some r:=h
 clear h
 have HC3:=Aside0.mk H
 clear H
 go_enter Tryz.func69,Tryz.ntmps69
 go_upto_region 1 with (fail)
 repeat (go_quiet (fail);go_upto_region 1 with (fail))
 go_cut [13] (fun v13 wc => ∃ (kq : Nat) (x13_2 : Bool),v13 = .bool x13_2 ∧ Aside0 (Rf07_pre.j0 kq a0 a1 x13_2 = some r) ∧ Aside0 (kq ≤ k) ∧ Aside0 (Below w.heap.size w wc))
 case first =>
  have H:=HC3.out
  clear HC3
  by_cases c4 : a0.toList = ([] : List UInt8)
  ·rw [if_pos c4] at H
   have c4b0:=beq_iff_eq.mpr c4
   have c4b1:=bne_eq_false_iff_eq.mpr c4
   clear c4
   (first | rw [c4b0] | (simp only [i64_w];rw [c4b0]) | skip)
   have H':=Aside0.mk H
   clear H
   go_wp2
   repeat (go_quiet (fail);try go_wp2)
   go_meet
   case rel => exact ⟨_,(true),q12_,H',⟨by first | omega | exact Nat.le_refl _⟩,⟨by repeat (first | (with_reducible first | exact HB.out | apply below_alloc | apply pw_below_drewN | apply below_drew1) | exact HB.out)⟩⟩
  ·rw [if_neg c4] at H
   have c4b0:=beq_eq_false_iff_ne.mpr c4
   have c4b1:=bne_iff_ne.mpr c4
   (first | rw [c4b0] | (simp only [i64_w];rw [c4b0]) | skip)
   have H':=Aside0.mk H
   clear H
   go_wp2
   repeat (go_quiet (fail);try go_wp2)
   go_meet
   case rel => exact ⟨_,((a1.toList == ([] : List UInt8))),q12_,H',⟨by first | omega | exact Nat.le_refl _⟩,⟨by repeat (first | (with_reducible first | exact HB.out | apply below_alloc | apply pw_below_drewN | apply below_drew1) | exact HB.out)⟩⟩
 case rest =>
  clear HC3
  try clear p2
  try clear c4
  try clear c4b0
  try clear c4b1
  obtain ⟨kq,x13_2,rfl,HA,HJ2,HB⟩:=hcut
  cases kq with
  | zero => exact absurd HA.out (by simp [Rf07_pre.j0])
  | succ kj2 =>
   have H:=HA.out
   clear HA
   simp only [Rf07_pre.j0] at H
   by_cases c5 : x13_2 = true
   ·subst c5
    rw [if_pos rfl] at H
    obtain ⟨t101,A60,H⟩:=Option.bind_eq_some_iff.mp H
    have A6:=Aside0.mk A60
    clear A60
    obtain ⟨t102,A70,H⟩:=Option.bind_eq_some_iff.mp H
    have A7:=Aside0.mk A70
    clear A70
    obtain ⟨t103,A80,H⟩:=Option.bind_eq_some_iff.mp H
    have A8:=Aside0.mk A80
    clear A80
    obtain rfl:=Option.some.inj H
    go_wp2_with (first | (go_at_call 97;(with_reducible refine (Rf07_one.calls (a0.toList.isEmpty) t101 _ q59_).mono ?_);rintro e w' ⟨rfl,⟨nd,rfl⟩⟩;(try first | exact ⟨rfl,_,World.drewN_drewN _ _ _⟩ | exact ⟨rfl,_,Eq.trans (World.drewN_drewN _ _ _) (congrArg (World.drewN _) (Nat.add_assoc _ _ _))⟩)) | (go_at_call 97;(with_reducible refine (Rf07_one.calls (a1.toList.isEmpty) t102 _ q58_).mono ?_);rintro e w' ⟨rfl,⟨nd,rfl⟩⟩;(try first | exact ⟨rfl,_,World.drewN_drewN _ _ _⟩ | exact ⟨rfl,_,Eq.trans (World.drewN_drewN _ _ _) (congrArg (World.drewN _) (Nat.add_assoc _ _ _))⟩)) | (go_at_call 68;(with_reducible refine (Rf07_order.calls t101 t102 t103 _ A8.out).mono ?_);rintro e w' ⟨rfl,⟨nd,rfl⟩⟩;(try first | exact ⟨rfl,_,World.drewN_drewN _ _ _⟩ | exact ⟨rfl,_,Eq.trans (World.drewN_drewN _ _ _) (congrArg (World.drewN _) (Nat.add_assoc _ _ _))⟩)))
    repeat (go_quiet (first | (go_at_call 97;(with_reducible refine (Rf07_one.calls (a0.toList.isEmpty) t101 _ q59_).mono ?_);rintro e w' ⟨rfl,⟨nd,rfl⟩⟩;(try first | exact ⟨rfl,_,World.drewN_drewN _ _ _⟩ | exact ⟨rfl,_,Eq.trans (World.drewN_drewN _ _ _) (congrArg (World.drewN _) (Nat.add_assoc _ _ _))⟩)) | (go_at_call 97;(with_reducible refine (Rf07_one.calls (a1.toList.isEmpty) t102 _ q58_).mono ?_);rintro e w' ⟨rfl,⟨nd,rfl⟩⟩;(try first | exact ⟨rfl,_,World.drewN_drewN _ _ _⟩ | exact ⟨rfl,_,Eq.trans (World.drewN_drewN _ _ _) (congrArg (World.drewN _) (Nat.add_assoc _ _ _))⟩)) | (go_at_call 68;(with_reducible refine (Rf07_order.calls t101 t102 t103 _ A8.out).mono ?_);rintro e w' ⟨rfl,⟨nd,rfl⟩⟩;(try first | exact ⟨rfl,_,World.drewN_drewN _ _ _⟩ | exact ⟨rfl,_,Eq.trans (World.drewN_drewN _ _ _) (congrArg (World.drewN _) (Nat.add_assoc _ _ _))⟩)));try go_wp2_with (first | (go_at_call 97;(with_reducible refine (Rf07_one.calls (a0.toList.isEmpty) t101 _ q59_).mono ?_);rintro e w' ⟨rfl,⟨nd,rfl⟩⟩;(try first | exact ⟨rfl,_,World.drewN_drewN _ _ _⟩ | exact ⟨rfl,_,Eq.trans (World.drewN_drewN _ _ _) (congrArg (World.drewN _) (Nat.add_assoc _ _ _))⟩)) | (go_at_call 97;(with_reducible refine (Rf07_one.calls (a1.toList.isEmpty) t102 _ q58_).mono ?_);rintro e w' ⟨rfl,⟨nd,rfl⟩⟩;(try first | exact ⟨rfl,_,World.drewN_drewN _ _ _⟩ | exact ⟨rfl,_,Eq.trans (World.drewN_drewN _ _ _) (congrArg (World.drewN _) (Nat.add_assoc _ _ _))⟩)) | (go_at_call 68;(with_reducible refine (Rf07_order.calls t101 t102 t103 _ A8.out).mono ?_);rintro e w' ⟨rfl,⟨nd,rfl⟩⟩;(try first | exact ⟨rfl,_,World.drewN_drewN _ _ _⟩ | exact ⟨rfl,_,Eq.trans (World.drewN_drewN _ _ _) (congrArg (World.drewN _) (Nat.add_assoc _ _ _))⟩))))
    go_ret
    exact ⟨q2_,bh_⟩
   ·replace c5:=Bool.eq_false_iff.mpr c5
    subst c5
    rw [if_neg (show ¬ (false = true) by decide)] at H
    obtain ⟨t104,A90,H⟩:=Option.bind_eq_some_iff.mp H
    have A9:=Aside0.mk A90
    clear A90
    obtain ⟨t107,A100,H⟩:=Option.bind_eq_some_iff.mp H
    have A10:=Aside0.mk A100
    clear A100
    have H':=Aside0.mk H
    clear H
    go_wp2_with (first | (go_at_call 98;(with_reducible refine (Rf05_Split.calls kj2 a0 46 t104 _ A9.out).mono ?_);rintro e w11 ⟨v105,rfl,ho0,hb⟩;have HO106:=Aside0.mk (Kd.R_lower ho0 (below_size bh_));replace HB:=Aside0.mk (below_step bh_ hb);(try clear hb);(try clear ho0)) | (go_at_call 98;(with_reducible refine (Rf05_Split.calls kj2 a1 46 t107 _ A10.out).mono ?_);rintro e w12 ⟨v108,rfl,ho0,hb⟩;have HO109:=Aside0.mk (Kd.R_lower (Kd.R_new' ho0 (Kd.R_lt q32_)) (below_size bh_));replace HO106:=Aside0.mk (Kd.R_elder' q32_ (Kd.R_base ho0) hb);replace HB:=Aside0.mk (below_step bh_ hb);(try clear hb);(try clear ho0)))
    repeat (go_quiet (first | (go_at_call 98;(with_reducible refine (Rf05_Split.calls kj2 a0 46 t104 _ A9.out).mono ?_);rintro e w11 ⟨v105,rfl,ho0,hb⟩;have HO106:=Aside0.mk (Kd.R_lower ho0 (below_size bh_));replace HB:=Aside0.mk (below_step bh_ hb);(try clear hb);(try clear ho0)) | (go_at_call 98;(with_reducible refine (Rf05_Split.calls kj2 a1 46 t107 _ A10.out).mono ?_);rintro e w12 ⟨v108,rfl,ho0,hb⟩;have HO109:=Aside0.mk (Kd.R_lower (Kd.R_new' ho0 (Kd.R_lt q32_)) (below_size bh_));replace HO106:=Aside0.mk (Kd.R_elder' q32_ (Kd.R_base ho0) hb);replace HB:=Aside0.mk (below_step bh_ hb);(try clear hb);(try clear ho0)));try go_wp2_with (first | (go_at_call 98;(with_reducible refine (Rf05_Split.calls kj2 a0 46 t104 _ A9.out).mono ?_);rintro e w11 ⟨v105,rfl,ho0,hb⟩;have HO106:=Aside0.mk (Kd.R_lower ho0 (below_size bh_));replace HB:=Aside0.mk (below_step bh_ hb);(try clear hb);(try clear ho0)) | (go_at_call 98;(with_reducible refine (Rf05_Split.calls kj2 a1 46 t107 _ A10.out).mono ?_);rintro e w12 ⟨v108,rfl,ho0,hb⟩;have HO109:=Aside0.mk (Kd.R_lower (Kd.R_new' ho0 (Kd.R_lt q32_)) (below_size bh_));replace HO106:=Aside0.mk (Kd.R_elder' q32_ (Kd.R_base ho0) hb);replace HB:=Aside0.mk (below_step bh_ hb);(try clear hb);(try clear ho0))))
    go_loopg [7] kj2 (fun kq v7 w' => ∃ (x7_2 : Int),v7 = .int .i64 x7_2 ∧ Aside0 (Rf07_pre.l0 kq t104 t107 x7_2 = some r) ∧ Aside0 (kq ≤ kj2) ∧ Aside0 (Kd.R Kd.string 9 w' w.heap.size (fun k_ => some k_ ≠ (v108 : Value).ownBlock) v105 t104) ∧ Aside0 (Kd.R Kd.string 9 w' w.heap.size (fun k_ => some k_ ≠ (v105 : Value).ownBlock) v108 t107) ∧ Aside0 (Below w.heap.size w w'))
    case atStart => exact ⟨(0),q12_,H',⟨Nat.le_refl _⟩,⟨by (with_reducible repeat (first | apply Kd.R_alloc | apply Kd.R_drewN | apply Kd.R_drew));exact Kd.R_mono HO106.out (fun _ hk => hk.2)⟩,⟨by (with_reducible repeat (first | apply Kd.R_alloc | apply Kd.R_drewN | apply Kd.R_drew));exact Kd.R_mono HO109.out (fun _ hk => hk.2)⟩,⟨by repeat (first | (with_reducible first | exact HB.out | apply below_alloc | apply pw_below_drewN | apply below_drew1) | exact HB.out)⟩⟩
    case round =>
     clear H'
     try clear p2
     try clear c4
     try clear c4b0
     try clear c4b1
     try clear c5
     try clear c6
     try clear p2
     obtain ⟨x7_2,rfl,HA,HK2,HO_5,HO_6,HB⟩:=hrel
     cases gk with
     | zero => exact absurd HA.out (by simp [Rf07_pre.l0])
     | succ k2 =>
      have H:=HA.out
      clear HA
      simp only [Rf07_pre.l0] at H
      have HC13:=Aside0.mk H
      clear H
      go_upto_region 6 with (fail)
      repeat (go_quiet (fail);go_upto_region 6 with (fail))
      go_cut [34] (fun v34 wc => ∃ (kq : Nat) (x34_12 : Bool),v34 = .bool x34_12 ∧ Aside0 (Rf07_pre.j2 kq t104 t107 x7_2 x34_12 = some r) ∧ Aside0 (kq ≤ k2) ∧ Aside0 (Kd.R Kd.string 9 wc w.heap.size (fun k_ => some k_ ≠ (v108 : Value).ownBlock) v105 t104) ∧ Aside0 (Kd.R Kd.string 9 wc w.heap.size (fun k_ => some k_ ≠ (v105 : Value).ownBlock) v108 t107) ∧ Aside0 (Below w.heap.size w wc))
      case first =>
       have H:=HC13.out
       clear HC13
       by_cases c14 : x7_2 < (t104.length : Int)
       ·rw [if_pos c14] at H
        have c14b0:=decide_eq_true c14
        clear c14
        (first | rw [c14b0] | (simp only [i64_w];rw [c14b0]) | skip)
        have H':=Aside0.mk H
        clear H
        obtain ⟨Ao15,co15,eo15⟩:=Kd.R_slice HO_5.out
        subst eo15
        obtain ⟨Ao16,co16,eo16⟩:=Kd.R_slice HO_6.out
        subst eo16
        go_wp2
        repeat (go_quiet (fail);try go_wp2)
        go_meet
        case rel => exact ⟨_,(decide (x7_2 < (t107.length : Int))),q12_,H',⟨by have:=HJ2.out;have:=HK2.out;first | omega | exact Nat.le_refl _⟩,⟨by (with_reducible repeat (first | apply Kd.R_alloc | apply Kd.R_drewN | apply Kd.R_drew));exact HO_5.out⟩,⟨by (with_reducible repeat (first | apply Kd.R_alloc | apply Kd.R_drewN | apply Kd.R_drew));exact HO_6.out⟩,⟨by repeat (first | (with_reducible first | exact HB.out | apply below_alloc | apply pw_below_drewN | apply below_drew1) | exact HB.out)⟩⟩
       ·rw [if_neg c14] at H
        have c14b0:=decide_eq_false c14
        clear c14
        (first | rw [c14b0] | (simp only [i64_w];rw [c14b0]) | skip)
        have H':=Aside0.mk H
        clear H
        obtain ⟨Ao17,co17,eo17⟩:=Kd.R_slice HO_5.out
        subst eo17
        go_wp2
        repeat (go_quiet (fail);try go_wp2)
        go_meet
        case rel => exact ⟨_,(false),q12_,H',⟨by have:=HJ2.out;have:=HK2.out;first | omega | exact Nat.le_refl _⟩,⟨by (with_reducible repeat (first | apply Kd.R_alloc | apply Kd.R_drewN | apply Kd.R_drew));exact HO_5.out⟩,⟨by (with_reducible repeat (first | apply Kd.R_alloc | apply Kd.R_drewN | apply Kd.R_drew));exact HO_6.out⟩,⟨by repeat (first | (with_reducible first | exact HB.out | apply below_alloc | apply pw_below_drewN | apply below_drew1) | exact HB.out)⟩⟩
      case rest =>
       clear HC13
       try clear c1
       try clear p2
       try clear c4
       try clear c4b0
       try clear c4b1
       try clear c5
       try clear c6
       try clear c14
       try clear c14b0
       try clear p2
       obtain ⟨kq,x34_12,rfl,HA,HJ12,HO_5,HO_6,HB⟩:=hcut
       cases kq with
       | zero => exact absurd HA.out (by simp [Rf07_pre.j2])
       | succ kj12 =>
        have H:=HA.out
        clear HA
        simp only [Rf07_pre.j2] at H
        by_cases c18 : x34_12 = true
        ·subst c18
         rw [if_pos rfl] at H
         by_cases c19 : 0 ≤ x7_2
         ·rw [if_pos c19] at H
          have c19b0:=decide_eq_true c19
          clear c19
          by_cases c20 : x7_2 < (t104.length : Int)
          ·rw [if_pos c20] at H
           have c20b0:=decide_eq_true c20
           clear c20
           by_cases c21 : x7_2 < (t107.length : Int)
           ·rw [if_pos c21] at H
            have c21b0:=decide_eq_true c21
            clear c21
            obtain ⟨t113,A220,H⟩:=Option.bind_eq_some_iff.mp H
            have A22:=Aside0.mk A220
            clear A220
            by_cases c23 : t113 = 0
            ·rw [if_pos c23] at H
             have c23b0:=beq_iff_eq.mpr c23
             have c23b1:=bne_eq_false_iff_eq.mpr c23
             clear c23
             have H':=Aside0.mk H
             clear H
             obtain ⟨Ao24,co24,eo24⟩:=Kd.R_slice HO_5.out
             subst eo24
             have p111 : 0 ≤ (x7_2 : Int):=of_decide_eq_true q1_
             have q111 : x7_2 < (t104.length : Int):=of_decide_eq_true q1_
             obtain ⟨ad111,e111,hx111_0⟩:=Kd.at_string (Kd.R_reads' HO_5.out).2.2 x7_2 p111 q111
             cases e111
             replace p111:=eq_true p111
             replace q111:=eq_true q111
             obtain ⟨Ao25,co25,eo25⟩:=Kd.R_slice HO_6.out
             subst eo25
             have p112 : 0 ≤ (x7_2 : Int):=of_decide_eq_true q1_
             have q112 : x7_2 < (t107.length : Int):=of_decide_eq_true q1_
             obtain ⟨ad112,e112,hx112_0⟩:=Kd.at_string (Kd.R_reads' HO_6.out).2.2 x7_2 p112 q112
             cases e112
             replace p112:=eq_true p112
             replace q112:=eq_true q112
             go_wp2_with (first | (go_at_call 99;(with_reducible refine (Rf07_words.calls kj12 (rdOf ByteArray.empty t104 x7_2) (rdOf ByteArray.empty t107 x7_2) t113 _ A22.out).mono ?_);rintro e w' ⟨rfl,⟨nd,rfl⟩⟩;(try first | exact ⟨rfl,_,World.drewN_drewN _ _ _⟩ | exact ⟨rfl,_,Eq.trans (World.drewN_drewN _ _ _) (congrArg (World.drewN _) (Nat.add_assoc _ _ _))⟩)))
             repeat (go_quiet (first | (go_at_call 99;(with_reducible refine (Rf07_words.calls kj12 (rdOf ByteArray.empty t104 x7_2) (rdOf ByteArray.empty t107 x7_2) t113 _ A22.out).mono ?_);rintro e w' ⟨rfl,⟨nd,rfl⟩⟩;(try first | exact ⟨rfl,_,World.drewN_drewN _ _ _⟩ | exact ⟨rfl,_,Eq.trans (World.drewN_drewN _ _ _) (congrArg (World.drewN _) (Nat.add_assoc _ _ _))⟩)));try go_wp2_with (first | (go_at_call 99;(with_reducible refine (Rf07_words.calls kj12 (rdOf ByteArray.empty t104 x7_2) (rdOf ByteArray.empty t107 x7_2) t113 _ A22.out).mono ?_);rintro e w' ⟨rfl,⟨nd,rfl⟩⟩;(try first | exact ⟨rfl,_,World.drewN_drewN _ _ _⟩ | exact ⟨rfl,_,Eq.trans (World.drewN_drewN _ _ _) (congrArg (World.drewN _) (Nat.add_assoc _ _ _))⟩))))
             go_roundg kj12
             case measure => have:=HJ2.out;have:=HK2.out;have:=HJ12.out;omega
             case rel => exact ⟨(wrap64 (x7_2 + 1)),q12_,H',⟨by have:=HJ2.out;have:=HK2.out;have:=HJ12.out;omega⟩,⟨by (with_reducible repeat (first | apply Kd.R_alloc | apply Kd.R_drewN | apply Kd.R_drew));exact HO_5.out⟩,⟨by (with_reducible repeat (first | apply Kd.R_alloc | apply Kd.R_drewN | apply Kd.R_drew));exact HO_6.out⟩,⟨by repeat (first | (with_reducible first | exact HB.out | apply below_alloc | apply pw_below_drewN | apply below_drew1) | exact HB.out)⟩⟩
            ·rw [if_neg c23] at H
             have c23b0:=beq_eq_false_iff_ne.mpr c23
             have c23b1:=bne_iff_ne.mpr c23
             obtain ⟨t116,A260,H⟩:=Option.bind_eq_some_iff.mp H
             have A26:=Aside0.mk A260
             clear A260
             obtain rfl : t113 = t116:=Option.some.inj (A22.out.symm.trans A26.out)
             obtain rfl:=Option.some.inj H
             obtain ⟨Ao27,co27,eo27⟩:=Kd.R_slice HO_5.out
             subst eo27
             have p111 : 0 ≤ (x7_2 : Int):=of_decide_eq_true q1_
             have q111 : x7_2 < (t104.length : Int):=of_decide_eq_true q1_
             obtain ⟨ad111,e111,hx111_0⟩:=Kd.at_string (Kd.R_reads' HO_5.out).2.2 x7_2 p111 q111
             cases e111
             replace p111:=eq_true p111
             replace q111:=eq_true q111
             obtain ⟨Ao28,co28,eo28⟩:=Kd.R_slice HO_6.out
             subst eo28
             have p112 : 0 ≤ (x7_2 : Int):=of_decide_eq_true q1_
             have q112 : x7_2 < (t107.length : Int):=of_decide_eq_true q1_
             obtain ⟨ad112,e112,hx112_0⟩:=Kd.at_string (Kd.R_reads' HO_6.out).2.2 x7_2 p112 q112
             cases e112
             replace p112:=eq_true p112
             replace q112:=eq_true q112
             go_wp2_with (first | (go_at_call 99;(with_reducible refine (Rf07_words.calls kj12 (rdOf ByteArray.empty t104 x7_2) (rdOf ByteArray.empty t107 x7_2) t113 _ A22.out).mono ?_);rintro e w' ⟨rfl,⟨nd,rfl⟩⟩;(try first | exact ⟨rfl,_,World.drewN_drewN _ _ _⟩ | exact ⟨rfl,_,Eq.trans (World.drewN_drewN _ _ _) (congrArg (World.drewN _) (Nat.add_assoc _ _ _))⟩);have p114 : 0 ≤ (x7_2 : Int):=of_decide_eq_true q1_;have q114 : x7_2 < (t104.length : Int):=of_decide_eq_true q1_;obtain ⟨ad114,e114,hx114_0⟩:=Kd.at_string (Kd.R_reads' HO_5.out).2.2 x7_2 p114 q114;obtain rfl : ad111 = ad114:=(by injection e114);replace p114:=eq_true p114;replace q114:=eq_true q114;have p115 : 0 ≤ (x7_2 : Int):=of_decide_eq_true q1_;have q115 : x7_2 < (t107.length : Int):=of_decide_eq_true q1_;obtain ⟨ad115,e115,hx115_0⟩:=Kd.at_string (Kd.R_reads' HO_6.out).2.2 x7_2 p115 q115;obtain rfl : ad112 = ad115:=(by injection e115);replace p115:=eq_true p115;replace q115:=eq_true q115) | (go_at_call 99;(with_reducible refine (Rf07_words.calls kj12 (rdOf ByteArray.empty t104 x7_2) (rdOf ByteArray.empty t107 x7_2) t116 _ A26.out).mono ?_);rintro e w' ⟨rfl,⟨nd,rfl⟩⟩;(try first | exact ⟨rfl,_,World.drewN_drewN _ _ _⟩ | exact ⟨rfl,_,Eq.trans (World.drewN_drewN _ _ _) (congrArg (World.drewN _) (Nat.add_assoc _ _ _))⟩)))
             repeat (go_quiet (first | (go_at_call 99;(with_reducible refine (Rf07_words.calls kj12 (rdOf ByteArray.empty t104 x7_2) (rdOf ByteArray.empty t107 x7_2) t113 _ A22.out).mono ?_);rintro e w' ⟨rfl,⟨nd,rfl⟩⟩;(try first | exact ⟨rfl,_,World.drewN_drewN _ _ _⟩ | exact ⟨rfl,_,Eq.trans (World.drewN_drewN _ _ _) (congrArg (World.drewN _) (Nat.add_assoc _ _ _))⟩);have p114 : 0 ≤ (x7_2 : Int):=of_decide_eq_true q1_;have q114 : x7_2 < (t104.length : Int):=of_decide_eq_true q1_;obtain ⟨ad114,e114,hx114_0⟩:=Kd.at_string (Kd.R_reads' HO_5.out).2.2 x7_2 p114 q114;obtain rfl : ad111 = ad114:=(by injection e114);replace p114:=eq_true p114;replace q114:=eq_true q114;have p115 : 0 ≤ (x7_2 : Int):=of_decide_eq_true q1_;have q115 : x7_2 < (t107.length : Int):=of_decide_eq_true q1_;obtain ⟨ad115,e115,hx115_0⟩:=Kd.at_string (Kd.R_reads' HO_6.out).2.2 x7_2 p115 q115;obtain rfl : ad112 = ad115:=(by injection e115);replace p115:=eq_true p115;replace q115:=eq_true q115) | (go_at_call 99;(with_reducible refine (Rf07_words.calls kj12 (rdOf ByteArray.empty t104 x7_2) (rdOf ByteArray.empty t107 x7_2) t116 _ A26.out).mono ?_);rintro e w' ⟨rfl,⟨nd,rfl⟩⟩;(try first | exact ⟨rfl,_,World.drewN_drewN _ _ _⟩ | exact ⟨rfl,_,Eq.trans (World.drewN_drewN _ _ _) (congrArg (World.drewN _) (Nat.add_assoc _ _ _))⟩)));try go_wp2_with (first | (go_at_call 99;(with_reducible refine (Rf07_words.calls kj12 (rdOf ByteArray.empty t104 x7_2) (rdOf ByteArray.empty t107 x7_2) t113 _ A22.out).mono ?_);rintro e w' ⟨rfl,⟨nd,rfl⟩⟩;(try first | exact ⟨rfl,_,World.drewN_drewN _ _ _⟩ | exact ⟨rfl,_,Eq.trans (World.drewN_drewN _ _ _) (congrArg (World.drewN _) (Nat.add_assoc _ _ _))⟩);have p114 : 0 ≤ (x7_2 : Int):=of_decide_eq_true q1_;have q114 : x7_2 < (t104.length : Int):=of_decide_eq_true q1_;obtain ⟨ad114,e114,hx114_0⟩:=Kd.at_string (Kd.R_reads' HO_5.out).2.2 x7_2 p114 q114;obtain rfl : ad111 = ad114:=(by injection e114);replace p114:=eq_true p114;replace q114:=eq_true q114;have p115 : 0 ≤ (x7_2 : Int):=of_decide_eq_true q1_;have q115 : x7_2 < (t107.length : Int):=of_decide_eq_true q1_;obtain ⟨ad115,e115,hx115_0⟩:=Kd.at_string (Kd.R_reads' HO_6.out).2.2 x7_2 p115 q115;obtain rfl : ad112 = ad115:=(by injection e115);replace p115:=eq_true p115;replace q115:=eq_true q115) | (go_at_call 99;(with_reducible refine (Rf07_words.calls kj12 (rdOf ByteArray.empty t104 x7_2) (rdOf ByteArray.empty t107 x7_2) t116 _ A26.out).mono ?_);rintro e w' ⟨rfl,⟨nd,rfl⟩⟩;(try first | exact ⟨rfl,_,World.drewN_drewN _ _ _⟩ | exact ⟨rfl,_,Eq.trans (World.drewN_drewN _ _ _) (congrArg (World.drewN _) (Nat.add_assoc _ _ _))⟩))))
             go_ret
             exact ⟨q2_,bh_⟩
           ·rw [if_neg c21] at H
            exact absurd H q25_
          ·rw [if_neg c20] at H
           exact absurd H q25_
         ·rw [if_neg c19] at H
          exact absurd H q25_
        ·replace c18:=Bool.eq_false_iff.mpr c18
         subst c18
         rw [if_neg (show ¬ (false = true) by decide)] at H
         obtain ⟨t110,A290,H⟩:=Option.bind_eq_some_iff.mp H
         have A29:=Aside0.mk A290
         clear A290
         obtain rfl:=Option.some.inj H
         obtain ⟨Ao30,co30,eo30⟩:=Kd.R_slice HO_5.out
         subst eo30
         obtain ⟨Ao31,co31,eo31⟩:=Kd.R_slice HO_6.out
         subst eo31
         go_wp2_with (first | (go_at_call 68;(with_reducible refine (Rf07_order.calls (t104.length : Int) (t107.length : Int) t110 _ A29.out).mono ?_);rintro e w' ⟨rfl,⟨nd,rfl⟩⟩;(try first | exact ⟨rfl,_,World.drewN_drewN _ _ _⟩ | exact ⟨rfl,_,Eq.trans (World.drewN_drewN _ _ _) (congrArg (World.drewN _) (Nat.add_assoc _ _ _))⟩)))
         repeat (go_quiet (first | (go_at_call 68;(with_reducible refine (Rf07_order.calls (t104.length : Int) (t107.length : Int) t110 _ A29.out).mono ?_);rintro e w' ⟨rfl,⟨nd,rfl⟩⟩;(try first | exact ⟨rfl,_,World.drewN_drewN _ _ _⟩ | exact ⟨rfl,_,Eq.trans (World.drewN_drewN _ _ _) (congrArg (World.drewN _) (Nat.add_assoc _ _ _))⟩)));try go_wp2_with (first | (go_at_call 68;(with_reducible refine (Rf07_order.calls (t104.length : Int) (t107.length : Int) t110 _ A29.out).mono ?_);rintro e w' ⟨rfl,⟨nd,rfl⟩⟩;(try first | exact ⟨rfl,_,World.drewN_drewN _ _ _⟩ | exact ⟨rfl,_,Eq.trans (World.drewN_drewN _ _ _) (congrArg (World.drewN _) (Nat.add_assoc _ _ _))⟩))))
         go_ret
         exact ⟨q2_,bh_⟩
end Go.Proofs.YtennhpoemdaghaaGreatDoor.P
end
section
namespace Go.Proofs.YtennhpoemdaghaaGreatDoor.P
open Go.RowKit Go.Proofs.YtennhpoemdaghaaGreatDoorW.PrintWords Go.Proofs.YtennhpoemdaghaaGreatDoorW.PrintLast Go.Proofs.YtennhpoemdaghaaGreatDoorW.PrintMore
def Rf07_Compare.j0 : Nat → Bool → Int → Int → Int → ByteArray → ByteArray → Int → Int → Int → ByteArray → ByteArray → Option (Int)
 | 0,_,_,_,_,_,_,_,_,_,_,_ => none
 | k + 1,x12,x102000,x102001,x102002,x102003,x102004,x103000,x103001,x103002,x103003,x103004 => if x12 = true then (some 0) else (if x102000 = x103000 then (if x102001 = x103001 then (if x102002 = x103002 then ((Rf07_pre.f k x102003 x103003).bind fun t107 => (some t107)) else ((Rf07_order.f x102002 x103002).bind fun t108 => (some t108))) else ((Rf07_order.f x102001 x103001).bind fun t106 => (some t106))) else ((Rf07_order.f x102000 x103000).bind fun t105 => (some t105)))
def Rf07_Compare.f (k : Nat) (a0_0 : Int) (a0_1 : Int) (a0_2 : Int) (a0_3 : ByteArray) (a0_4 : ByteArray) (a1_0 : Int) (a1_1 : Int) (a1_2 : Int) (a1_3 : ByteArray) (a1_4 : ByteArray) : Option (Int):=(Rf07_Check.f k a0_0 a0_1 a0_2 a0_3 a0_4).bind fun t103 => (if t103 = true then ((Rf07_Check.f k a1_0 a1_1 a1_2 a1_3 a1_4).bind fun t104 => (Rf07_Compare.j0 k (!t104) a0_0 a0_1 a0_2 a0_3 a0_4 a1_0 a1_1 a1_2 a1_3 a1_4)) else (Rf07_Compare.j0 k true a0_0 a0_1 a0_2 a0_3 a0_4 a1_0 a1_1 a1_2 a1_3 a1_4))
set_option maxHeartbeats 8000000 in
set_option maxRecDepth 100000 in
theorem Rf07_Compare.calls (k : Nat) (a0_0 : Int) (a0_1 : Int) (a0_2 : Int) (a0_3 : ByteArray) (a0_4 : ByteArray) (a1_0 : Int) (a1_1 : Int) (a1_2 : Int) (a1_3 : ByteArray) (a1_4 : ByteArray) (r : Int) (w : World) (h : Rf07_Compare.f k a0_0 a0_1 a0_2 a0_3 a0_4 a1_0 a1_1 a1_2 a1_3 a1_4 = some r) :
  Calls Tryz.prog 36 #[.agg #[.int .i64 a0_0,.int .i64 a0_1,.int .i64 a0_2,.string a0_3,.string a0_4],.agg #[.int .i64 a1_0,.int .i64 a1_1,.int .i64 a1_2,.string a1_3,.string a1_4]] w fun e w' => e = .returned (.int .i64 r) ∧ Below w.heap.size w w':=by
 have hu24:=Tryz.underlying24
 have HB:=Aside0.mk (Below.refl w.heap.size w)
 have H : ((Rf07_Check.f k a0_0 a0_1 a0_2 a0_3 a0_4).bind fun t103 => (if t103 = true then ((Rf07_Check.f k a1_0 a1_1 a1_2 a1_3 a1_4).bind fun t104 => (Rf07_Compare.j0 k (!t104) a0_0 a0_1 a0_2 a0_3 a0_4 a1_0 a1_1 a1_2 a1_3 a1_4)) else (Rf07_Compare.j0 k true a0_0 a0_1 a0_2 a0_3 a0_4 a1_0 a1_1 a1_2 a1_3 a1_4))) = some r:=h
 clear h
 have HC3:=Aside0.mk H
 clear H
 go_enter Tryz.func36,Tryz.ntmps36
 go_upto_region 1 with (first | ((with_reducible refine gate_dst (N:=2) rfl ?_);refine bx_ 2 24 #[.int .i64 a0_0,.int .i64 a0_1,.int .i64 a0_2,.string a0_3,.string a0_4] ?_;intro gb101 hg w4 hbox hb;have BK101:=Aside0.mk (hbox);have GW101:=Aside0.mk ((q17_ : w.heap.size ≤ gb101));have GE101:=Aside0.mk ((q17_ : w.heap.size ≤ gb101));replace HB:=Aside0.mk (below_step bh_ hb);clear hb hbox hg) | ((with_reducible refine gate_dst (N:=3) rfl ?_);refine bx_ 3 24 #[.int .i64 a1_0,.int .i64 a1_1,.int .i64 a1_2,.string a1_3,.string a1_4] ?_;intro gb102 hg w5 hbox hb;have BK102:=Aside0.mk (hbox);have GW102:=Aside0.mk ((q17_ : w.heap.size ≤ gb102));have GE102:=Aside0.mk ((q17_ : w.heap.size ≤ gb102));replace HB:=Aside0.mk (below_step bh_ hb);have NB101_102:=Aside0.mk ((q48_ : gb101 ≠ gb102));have NB102_101:=Aside0.mk ((q49_ : gb102 ≠ gb101));replace BK101:=Aside0.mk (blk_below bk101_ hb);clear hb hbox hg))
 (try simp only [Act.put,List.setIfInBounds_toArray,List.set_cons_zero,List.set_cons_succ])
 go_cut [12] (fun v12 wc => ∃ (kq : Nat) (x12_2 : Bool),v12 = .bool x12_2 ∧ Aside0 (Rf07_Compare.j0 kq x12_2 a0_0 a0_1 a0_2 a0_3 a0_4 a1_0 a1_1 a1_2 a1_3 a1_4 = some r) ∧ Aside0 (kq ≤ k) ∧ Aside0 (wc.heap[gb101]? = some (.cells #[.int .i64 a0_0,.int .i64 a0_1,.int .i64 a0_2,.string a0_3,.string a0_4] 24 (0,0))) ∧ Aside0 (wc.heap[gb102]? = some (.cells #[.int .i64 a1_0,.int .i64 a1_1,.int .i64 a1_2,.string a1_3,.string a1_4] 24 (0,0))) ∧ Aside0 (Below w.heap.size w wc))
 case first =>
  have H:=HC3.out
  clear HC3
  obtain ⟨t103,A60,H⟩:=Option.bind_eq_some_iff.mp H
  have A6:=Aside0.mk A60
  clear A60
  by_cases c7 : t103 = true
  ·subst c7
   rw [if_pos rfl] at H
   obtain ⟨t104,A80,H⟩:=Option.bind_eq_some_iff.mp H
   have A8:=Aside0.mk A80
   clear A80
   have H':=Aside0.mk H
   clear H
   have hnb9:=NB101_102.out
   have hnc9:=NB102_101.out
   have hcz10_0 : w5.cell? ⟨gb101,0,none⟩ = some (.int .i64 a0_0):=(blk_cell BK101.out 0).trans rfl
   have hcz10_1 : w5.cell? ⟨gb101,1,none⟩ = some (.int .i64 a0_1):=(blk_cell BK101.out 1).trans rfl
   have hcz10_2 : w5.cell? ⟨gb101,2,none⟩ = some (.int .i64 a0_2):=(blk_cell BK101.out 2).trans rfl
   have hcz10_3 : w5.cell? ⟨gb101,3,none⟩ = some (.string a0_3):=(blk_cell BK101.out 3).trans rfl
   have hcz10_4 : w5.cell? ⟨gb101,4,none⟩ = some (.string a0_4):=(blk_cell BK101.out 4).trans rfl
   have hfz10_0:=blk_frozen BK101.out 0
   have hfz10_1:=blk_frozen BK101.out 1
   have hfz10_2:=blk_frozen BK101.out 2
   have hfz10_3:=blk_frozen BK101.out 3
   have hfz10_4:=blk_frozen BK101.out 4
   go_wp2_with (first | ((with_reducible refine gate_callee (f:=67) rfl ?_);refine gl_ 6 Tryz.func67 #[.agg #[.int .i64 a0_0,.int .i64 a0_1,.int .i64 a0_2,.string a0_3,.string a0_4]] ?_;(with_reducible refine (Rf07_Check.calls k a0_0 a0_1 a0_2 a0_3 a0_4 true _ A6.out).mono ?_);rintro e w11 ⟨rfl,hb⟩;refine ⟨_,rfl,?_⟩;replace BK101:=Aside0.mk (blk_below bk101_ hb);replace BK102:=Aside0.mk (blk_below bk102_ hb);replace HB:=Aside0.mk (below_step bh_ hb);(try clear hb);have hcz12_0 : w11.cell? ⟨gb102,0,none⟩ = some (.int .i64 a1_0):=(blk_cell BK102.out 0).trans rfl;have hcz12_1 : w11.cell? ⟨gb102,1,none⟩ = some (.int .i64 a1_1):=(blk_cell BK102.out 1).trans rfl;have hcz12_2 : w11.cell? ⟨gb102,2,none⟩ = some (.int .i64 a1_2):=(blk_cell BK102.out 2).trans rfl;have hcz12_3 : w11.cell? ⟨gb102,3,none⟩ = some (.string a1_3):=(blk_cell BK102.out 3).trans rfl;have hcz12_4 : w11.cell? ⟨gb102,4,none⟩ = some (.string a1_4):=(blk_cell BK102.out 4).trans rfl;have hfz12_0:=blk_frozen BK102.out 0;have hfz12_1:=blk_frozen BK102.out 1;have hfz12_2:=blk_frozen BK102.out 2;have hfz12_3:=blk_frozen BK102.out 3;have hfz12_4:=blk_frozen BK102.out 4) | (go_at_call 67;(with_reducible refine (Rf07_Check.calls k a1_0 a1_1 a1_2 a1_3 a1_4 t104 _ A8.out).mono ?_);rintro e w13 ⟨rfl,hb⟩;replace BK101:=Aside0.mk (blk_below bk101_ hb);replace BK102:=Aside0.mk (blk_below bk102_ hb);replace HB:=Aside0.mk (below_step bh_ hb);(try clear hb)))
   go_meet
   case rel => exact ⟨_,(!t104),q12_,H',⟨by first | omega | exact Nat.le_refl _⟩,⟨by (with_reducible repeat (first | refine blk_drewN ?_ _ | refine blk_drew ?_ | refine blk_alloc ?_ _));exact BK101.out⟩,⟨by (with_reducible repeat (first | refine blk_drewN ?_ _ | refine blk_drew ?_ | refine blk_alloc ?_ _));exact BK102.out⟩,⟨by repeat (first | (with_reducible first | exact HB.out | apply below_alloc | apply pw_below_drewN | apply below_drew1 | refine below_set ?_ GE101.out | refine below_set ?_ GE102.out) | exact HB.out)⟩⟩
  ·replace c7:=Bool.eq_false_iff.mpr c7
   subst c7
   rw [if_neg (show ¬ (false = true) by decide)] at H
   have H':=Aside0.mk H
   clear H
   have hnb14:=NB101_102.out
   have hnc14:=NB102_101.out
   have hcz15_0 : w5.cell? ⟨gb101,0,none⟩ = some (.int .i64 a0_0):=(blk_cell BK101.out 0).trans rfl
   have hcz15_1 : w5.cell? ⟨gb101,1,none⟩ = some (.int .i64 a0_1):=(blk_cell BK101.out 1).trans rfl
   have hcz15_2 : w5.cell? ⟨gb101,2,none⟩ = some (.int .i64 a0_2):=(blk_cell BK101.out 2).trans rfl
   have hcz15_3 : w5.cell? ⟨gb101,3,none⟩ = some (.string a0_3):=(blk_cell BK101.out 3).trans rfl
   have hcz15_4 : w5.cell? ⟨gb101,4,none⟩ = some (.string a0_4):=(blk_cell BK101.out 4).trans rfl
   have hfz15_0:=blk_frozen BK101.out 0
   have hfz15_1:=blk_frozen BK101.out 1
   have hfz15_2:=blk_frozen BK101.out 2
   have hfz15_3:=blk_frozen BK101.out 3
   have hfz15_4:=blk_frozen BK101.out 4
   go_wp2_with (first | ((with_reducible refine gate_callee (f:=67) rfl ?_);refine gl_ 6 Tryz.func67 #[.agg #[.int .i64 a0_0,.int .i64 a0_1,.int .i64 a0_2,.string a0_3,.string a0_4]] ?_;(with_reducible refine (Rf07_Check.calls k a0_0 a0_1 a0_2 a0_3 a0_4 false _ A6.out).mono ?_);rintro e w16 ⟨rfl,hb⟩;refine ⟨_,rfl,?_⟩;replace BK101:=Aside0.mk (blk_below bk101_ hb);replace BK102:=Aside0.mk (blk_below bk102_ hb);replace HB:=Aside0.mk (below_step bh_ hb);(try clear hb)))
   go_meet
   case rel => exact ⟨_,(true),q12_,H',⟨by first | omega | exact Nat.le_refl _⟩,⟨by (with_reducible repeat (first | refine blk_drewN ?_ _ | refine blk_drew ?_ | refine blk_alloc ?_ _));exact BK101.out⟩,⟨by (with_reducible repeat (first | refine blk_drewN ?_ _ | refine blk_drew ?_ | refine blk_alloc ?_ _));exact BK102.out⟩,⟨by repeat (first | (with_reducible first | exact HB.out | apply below_alloc | apply pw_below_drewN | apply below_drew1 | refine below_set ?_ GE101.out | refine below_set ?_ GE102.out) | exact HB.out)⟩⟩
 case rest =>
  clear HC3
  try clear c1
  try clear p2
  try clear c3
  try clear c6
  try clear c7
  try clear c9
  try clear c14
  try clear hcz10_0
  try clear hcz10_1
  try clear hcz10_2
  try clear hcz10_3
  try clear hcz10_4
  try clear hcz12_0
  try clear hcz12_1
  try clear hcz12_2
  try clear hcz12_3
  try clear hcz12_4
  try clear hcz15_0
  try clear hcz15_1
  try clear hcz15_2
  try clear hcz15_3
  try clear hcz15_4
  try clear hfz10_0
  try clear hfz10_1
  try clear hfz10_2
  try clear hfz10_3
  try clear hfz10_4
  try clear hfz12_0
  try clear hfz12_1
  try clear hfz12_2
  try clear hfz12_3
  try clear hfz12_4
  try clear hfz15_0
  try clear hfz15_1
  try clear hfz15_2
  try clear hfz15_3
  try clear hfz15_4
  obtain ⟨kq,x12_2,rfl,HA,HJ2,BK101,BK102,HB⟩:=hcut
  cases kq with
  | zero => exact absurd HA.out (by simp [Rf07_Compare.j0])
  | succ kj2 =>
   have H:=HA.out
   clear HA
   simp only [Rf07_Compare.j0] at H
   by_cases c17 : x12_2 = true
   ·subst c17
    rw [if_pos rfl] at H
    obtain rfl:=Option.some.inj H
    go_wp2
    go_ret
    exact ⟨q2_,bh_⟩
   ·replace c17:=Bool.eq_false_iff.mpr c17
    subst c17
    rw [if_neg (show ¬ (false = true) by decide)] at H
    by_cases c18 : a0_0 = a1_0
    ·rw [if_pos c18] at H
     have c18b0:=beq_iff_eq.mpr c18
     have c18b1:=bne_eq_false_iff_eq.mpr c18
     clear c18
     by_cases c19 : a0_1 = a1_1
     ·rw [if_pos c19] at H
      have c19b0:=beq_iff_eq.mpr c19
      have c19b1:=bne_eq_false_iff_eq.mpr c19
      clear c19
      by_cases c20 : a0_2 = a1_2
      ·rw [if_pos c20] at H
       have c20b0:=beq_iff_eq.mpr c20
       have c20b1:=bne_eq_false_iff_eq.mpr c20
       clear c20
       obtain ⟨t107,A210,H⟩:=Option.bind_eq_some_iff.mp H
       have A21:=Aside0.mk A210
       clear A210
       obtain rfl:=Option.some.inj H
       have hnb22:=NB101_102.out
       have hnc22:=NB102_101.out
       have hcz23_0 : wc.cell? ⟨gb101,0,none⟩ = some (.int .i64 a0_0):=(blk_cell BK101.out 0).trans rfl
       have hcz23_1 : wc.cell? ⟨gb101,1,none⟩ = some (.int .i64 a0_1):=(blk_cell BK101.out 1).trans rfl
       have hcz23_2 : wc.cell? ⟨gb101,2,none⟩ = some (.int .i64 a0_2):=(blk_cell BK101.out 2).trans rfl
       have hcz23_3 : wc.cell? ⟨gb101,3,none⟩ = some (.string a0_3):=(blk_cell BK101.out 3).trans rfl
       have hcz23_4 : wc.cell? ⟨gb101,4,none⟩ = some (.string a0_4):=(blk_cell BK101.out 4).trans rfl
       have hfz23_0:=blk_frozen BK101.out 0
       have hfz23_1:=blk_frozen BK101.out 1
       have hfz23_2:=blk_frozen BK101.out 2
       have hfz23_3:=blk_frozen BK101.out 3
       have hfz23_4:=blk_frozen BK101.out 4
       have hcz24_0 : wc.cell? ⟨gb102,0,none⟩ = some (.int .i64 a1_0):=(blk_cell BK102.out 0).trans rfl
       have hcz24_1 : wc.cell? ⟨gb102,1,none⟩ = some (.int .i64 a1_1):=(blk_cell BK102.out 1).trans rfl
       have hcz24_2 : wc.cell? ⟨gb102,2,none⟩ = some (.int .i64 a1_2):=(blk_cell BK102.out 2).trans rfl
       have hcz24_3 : wc.cell? ⟨gb102,3,none⟩ = some (.string a1_3):=(blk_cell BK102.out 3).trans rfl
       have hcz24_4 : wc.cell? ⟨gb102,4,none⟩ = some (.string a1_4):=(blk_cell BK102.out 4).trans rfl
       have hfz24_0:=blk_frozen BK102.out 0
       have hfz24_1:=blk_frozen BK102.out 1
       have hfz24_2:=blk_frozen BK102.out 2
       have hfz24_3:=blk_frozen BK102.out 3
       have hfz24_4:=blk_frozen BK102.out 4
       go_wp2_with (first | ((with_reducible refine gate_callee (f:=69) rfl ?_);refine gl_ 47 Tryz.func69 #[.string a0_3,.string a1_3] ?_;(with_reducible refine (Rf07_pre.calls kj2 a0_3 a1_3 t107 _ A21.out).mono ?_);rintro e w25 ⟨rfl,hb⟩;refine ⟨_,rfl,?_⟩;replace BK101:=Aside0.mk (blk_below bk101_ hb);replace BK102:=Aside0.mk (blk_below bk102_ hb);replace HB:=Aside0.mk (below_step bh_ hb);(try clear hb)))
       go_ret
       exact ⟨q2_,bh_⟩
      ·rw [if_neg c20] at H
       have c20b0:=beq_eq_false_iff_ne.mpr c20
       have c20b1:=bne_iff_ne.mpr c20
       obtain ⟨t108,A260,H⟩:=Option.bind_eq_some_iff.mp H
       have A26:=Aside0.mk A260
       clear A260
       obtain rfl:=Option.some.inj H
       have hnb27:=NB101_102.out
       have hnc27:=NB102_101.out
       have hcz28_0 : wc.cell? ⟨gb101,0,none⟩ = some (.int .i64 a0_0):=(blk_cell BK101.out 0).trans rfl
       have hcz28_1 : wc.cell? ⟨gb101,1,none⟩ = some (.int .i64 a0_1):=(blk_cell BK101.out 1).trans rfl
       have hcz28_2 : wc.cell? ⟨gb101,2,none⟩ = some (.int .i64 a0_2):=(blk_cell BK101.out 2).trans rfl
       have hcz28_3 : wc.cell? ⟨gb101,3,none⟩ = some (.string a0_3):=(blk_cell BK101.out 3).trans rfl
       have hcz28_4 : wc.cell? ⟨gb101,4,none⟩ = some (.string a0_4):=(blk_cell BK101.out 4).trans rfl
       have hfz28_0:=blk_frozen BK101.out 0
       have hfz28_1:=blk_frozen BK101.out 1
       have hfz28_2:=blk_frozen BK101.out 2
       have hfz28_3:=blk_frozen BK101.out 3
       have hfz28_4:=blk_frozen BK101.out 4
       have hcz29_0 : wc.cell? ⟨gb102,0,none⟩ = some (.int .i64 a1_0):=(blk_cell BK102.out 0).trans rfl
       have hcz29_1 : wc.cell? ⟨gb102,1,none⟩ = some (.int .i64 a1_1):=(blk_cell BK102.out 1).trans rfl
       have hcz29_2 : wc.cell? ⟨gb102,2,none⟩ = some (.int .i64 a1_2):=(blk_cell BK102.out 2).trans rfl
       have hcz29_3 : wc.cell? ⟨gb102,3,none⟩ = some (.string a1_3):=(blk_cell BK102.out 3).trans rfl
       have hcz29_4 : wc.cell? ⟨gb102,4,none⟩ = some (.string a1_4):=(blk_cell BK102.out 4).trans rfl
       have hfz29_0:=blk_frozen BK102.out 0
       have hfz29_1:=blk_frozen BK102.out 1
       have hfz29_2:=blk_frozen BK102.out 2
       have hfz29_3:=blk_frozen BK102.out 3
       have hfz29_4:=blk_frozen BK102.out 4
       go_wp2_with (first | ((with_reducible refine gate_callee (f:=68) rfl ?_);refine gl_ 42 Tryz.func68 #[.int .i64 a0_2,.int .i64 a1_2] ?_;(with_reducible refine (Rf07_order.calls a0_2 a1_2 t108 _ A26.out).mono ?_);rintro e w' ⟨rfl,⟨nd,rfl⟩⟩;refine ⟨_,rfl,?_⟩))
       go_ret
       exact ⟨q2_,bh_⟩
     ·rw [if_neg c19] at H
      have c19b0:=beq_eq_false_iff_ne.mpr c19
      have c19b1:=bne_iff_ne.mpr c19
      obtain ⟨t106,A300,H⟩:=Option.bind_eq_some_iff.mp H
      have A30:=Aside0.mk A300
      clear A300
      obtain rfl:=Option.some.inj H
      have hnb31:=NB101_102.out
      have hnc31:=NB102_101.out
      have hcz32_0 : wc.cell? ⟨gb101,0,none⟩ = some (.int .i64 a0_0):=(blk_cell BK101.out 0).trans rfl
      have hcz32_1 : wc.cell? ⟨gb101,1,none⟩ = some (.int .i64 a0_1):=(blk_cell BK101.out 1).trans rfl
      have hcz32_2 : wc.cell? ⟨gb101,2,none⟩ = some (.int .i64 a0_2):=(blk_cell BK101.out 2).trans rfl
      have hcz32_3 : wc.cell? ⟨gb101,3,none⟩ = some (.string a0_3):=(blk_cell BK101.out 3).trans rfl
      have hcz32_4 : wc.cell? ⟨gb101,4,none⟩ = some (.string a0_4):=(blk_cell BK101.out 4).trans rfl
      have hfz32_0:=blk_frozen BK101.out 0
      have hfz32_1:=blk_frozen BK101.out 1
      have hfz32_2:=blk_frozen BK101.out 2
      have hfz32_3:=blk_frozen BK101.out 3
      have hfz32_4:=blk_frozen BK101.out 4
      have hcz33_0 : wc.cell? ⟨gb102,0,none⟩ = some (.int .i64 a1_0):=(blk_cell BK102.out 0).trans rfl
      have hcz33_1 : wc.cell? ⟨gb102,1,none⟩ = some (.int .i64 a1_1):=(blk_cell BK102.out 1).trans rfl
      have hcz33_2 : wc.cell? ⟨gb102,2,none⟩ = some (.int .i64 a1_2):=(blk_cell BK102.out 2).trans rfl
      have hcz33_3 : wc.cell? ⟨gb102,3,none⟩ = some (.string a1_3):=(blk_cell BK102.out 3).trans rfl
      have hcz33_4 : wc.cell? ⟨gb102,4,none⟩ = some (.string a1_4):=(blk_cell BK102.out 4).trans rfl
      have hfz33_0:=blk_frozen BK102.out 0
      have hfz33_1:=blk_frozen BK102.out 1
      have hfz33_2:=blk_frozen BK102.out 2
      have hfz33_3:=blk_frozen BK102.out 3
      have hfz33_4:=blk_frozen BK102.out 4
      go_wp2_with (first | ((with_reducible refine gate_callee (f:=68) rfl ?_);refine gl_ 32 Tryz.func68 #[.int .i64 a0_1,.int .i64 a1_1] ?_;(with_reducible refine (Rf07_order.calls a0_1 a1_1 t106 _ A30.out).mono ?_);rintro e w' ⟨rfl,⟨nd,rfl⟩⟩;refine ⟨_,rfl,?_⟩))
      go_ret
      exact ⟨q2_,bh_⟩
    ·rw [if_neg c18] at H
     have c18b0:=beq_eq_false_iff_ne.mpr c18
     have c18b1:=bne_iff_ne.mpr c18
     obtain ⟨t105,A340,H⟩:=Option.bind_eq_some_iff.mp H
     have A34:=Aside0.mk A340
     clear A340
     obtain rfl:=Option.some.inj H
     have hnb35:=NB101_102.out
     have hnc35:=NB102_101.out
     have hcz36_0 : wc.cell? ⟨gb101,0,none⟩ = some (.int .i64 a0_0):=(blk_cell BK101.out 0).trans rfl
     have hcz36_1 : wc.cell? ⟨gb101,1,none⟩ = some (.int .i64 a0_1):=(blk_cell BK101.out 1).trans rfl
     have hcz36_2 : wc.cell? ⟨gb101,2,none⟩ = some (.int .i64 a0_2):=(blk_cell BK101.out 2).trans rfl
     have hcz36_3 : wc.cell? ⟨gb101,3,none⟩ = some (.string a0_3):=(blk_cell BK101.out 3).trans rfl
     have hcz36_4 : wc.cell? ⟨gb101,4,none⟩ = some (.string a0_4):=(blk_cell BK101.out 4).trans rfl
     have hfz36_0:=blk_frozen BK101.out 0
     have hfz36_1:=blk_frozen BK101.out 1
     have hfz36_2:=blk_frozen BK101.out 2
     have hfz36_3:=blk_frozen BK101.out 3
     have hfz36_4:=blk_frozen BK101.out 4
     have hcz37_0 : wc.cell? ⟨gb102,0,none⟩ = some (.int .i64 a1_0):=(blk_cell BK102.out 0).trans rfl
     have hcz37_1 : wc.cell? ⟨gb102,1,none⟩ = some (.int .i64 a1_1):=(blk_cell BK102.out 1).trans rfl
     have hcz37_2 : wc.cell? ⟨gb102,2,none⟩ = some (.int .i64 a1_2):=(blk_cell BK102.out 2).trans rfl
     have hcz37_3 : wc.cell? ⟨gb102,3,none⟩ = some (.string a1_3):=(blk_cell BK102.out 3).trans rfl
     have hcz37_4 : wc.cell? ⟨gb102,4,none⟩ = some (.string a1_4):=(blk_cell BK102.out 4).trans rfl
     have hfz37_0:=blk_frozen BK102.out 0
     have hfz37_1:=blk_frozen BK102.out 1
     have hfz37_2:=blk_frozen BK102.out 2
     have hfz37_3:=blk_frozen BK102.out 3
     have hfz37_4:=blk_frozen BK102.out 4
     go_wp2_with (first | ((with_reducible refine gate_callee (f:=68) rfl ?_);refine gl_ 22 Tryz.func68 #[.int .i64 a0_0,.int .i64 a1_0] ?_;(with_reducible refine (Rf07_order.calls a0_0 a1_0 t105 _ A34.out).mono ?_);rintro e w' ⟨rfl,⟨nd,rfl⟩⟩;refine ⟨_,rfl,?_⟩))
     go_ret
     exact ⟨q2_,bh_⟩
end Go.Proofs.YtennhpoemdaghaaGreatDoor.P
end
section
namespace Go.Proofs.YtennhpoemdaghaaGreatDoor.P
open Go Go.RowKit Go.Proofs.YtennhpoemdaghaaGreatDoorW.PrintWords
theorem cmpBytes_eq : ∀ a b : List UInt8,Lib.compareBytes a b = if a < b then -1 else if b < a then 1 else 0
 | [],[] => by simp [Lib.compareBytes]
 | [],_ :: _ => by simp [Lib.compareBytes]
 | _ :: _,[] => by simp [Lib.compareBytes]
 | x :: xs,y :: ys => by
  have ih:=cmpBytes_eq xs ys
  rw [Lib.compareBytes]
  simp only [List.cons_lt_cons_iff]
  by_cases h1 : x < y
  ·simp [h1]
  ·by_cases h2 : y < x
   ·have h3 : x ≠ y:=fun e => by subst e;exact h1 h2
    simp [h1,h2,h3]
   ·have h3 : x = y:=UInt8.le_antisymm (UInt8.not_lt.1 h2) (UInt8.not_lt.1 h1)
    subst h3
    simp [h1,ih]
theorem order_f (a b : Int) : Rf07_order.f a b = some (ordI a b):=by
 unfold Rf07_order.f ordI
 split
 ·rfl
 ·split <;> rfl
theorem words_f (a b : ByteArray) (ha : a.size ≤ 4294967296) (hb : b.size ≤ 4294967296) (k : Nat) (h1 : a.size + 5 < k) (h2 : b.size + 5 < k) : Rf07_words.f k a b = some (wordCmp a.data.toList b.data.toList):=by
 obtain ⟨k,rfl⟩ : ∃ m,k = m + 4:=⟨k - 4,by omega⟩
 have hza : a.data.toList.length = a.size:=rfl
 have hzb : b.data.toList.length = b.size:=rfl
 have hj2 : ∀ k,Rf07_words.j2 (k + 1) a b false = some (Lib.compareBytes a.data.toList b.data.toList):=fun k => by
  rw [Rf07_words.j2,if_neg q30_,Proofs.bytesLess_eq,Proofs.bytesLess_eq,toList_eq,toList_eq,cmpBytes_eq]
  by_cases h : a.data.toList < b.data.toList
  ·simp [h]
  ·by_cases h' : b.data.toList < a.data.toList
   ·simp [h,h']
   ·simp [h,h']
 unfold Rf07_words.f wordCmp
 rw [refdigits_f a q5_ _ q5_,refdigits_f b q5_ _ q5_,Option.bind_some,Option.bind_some,hza,hzb]
 cases hx : digitsB a.data.toList <;> cases hy : digitsB b.data.toList
 ·simp [Rf07_words.j0,Rf07_words.j1,hj2]
 ·simp [Rf07_words.j0,Rf07_words.j1,Rf07_words.j2]
 ·simp [Rf07_words.j0,Rf07_words.j1]
 ·by_cases h : a.size = b.size
  ·have e : ((a.size : Int) != (b.size : Int)) = false:=by simp [h]
   simp [Rf07_words.j0,Rf07_words.j1,hj2,e,h]
  ·have e : ((a.size : Int) != (b.size : Int)) = true:=by
    have : ¬ ((a.size : Int) = (b.size : Int)):=by omega
    simpa using this
   simp only [if_true,e,Rf07_words.j0,order_f,Option.bind_some,Bool.and_self]
   unfold ordI
   by_cases h1 : a.size < b.size
   ·rw [if_pos q5_,if_pos h1]
   ·rw [if_neg q5_,if_pos q5_,if_neg h1,if_pos q5_]
theorem pre_gen (l m : List ByteArray) (M : Nat) (hl : ∀ p ∈ l,p.size ≤ M) (hm : ∀ p ∈ m,p.size ≤ M) (hM : M ≤ 4294967200) (hll : l.length ≤ 4294967296) (hlm : m.length ≤ 4294967296) : ∀ (d i k : Nat),i ≤ l.length → i ≤ m.length → l.length - i = d → M + 2 * d + 10 < k →
  Rf07_pre.l0 k l m (i : Int) = some (wordsCmp ((l.drop i).map (·.data.toList)) ((m.drop i).map (·.data.toList))):=by
 have hstop : ∀ (i k : Nat),i ≤ l.length → i ≤ m.length → (i = l.length ∨ i = m.length) → some (ordI (l.length : Int) (m.length : Int)) = some (wordsCmp ((l.drop i).map (·.data.toList)) ((m.drop i).map (·.data.toList))):=by
  intro i k h1 h2 h3
  congr 1
  unfold ordI
  by_cases e1 : i = l.length
  ·rw [List.drop_eq_nil_of_le (show l.length ≤ i by omega)]
   by_cases e2 : i = m.length
   ·rw [List.drop_eq_nil_of_le (show m.length ≤ i by omega),if_neg q5_,if_neg q5_];rfl
   ·rw [List.drop_eq_getElem_cons (show i < m.length by omega),if_pos q5_];rfl
  ·have e2 : i = m.length:=by omega
   rw [List.drop_eq_nil_of_le (show m.length ≤ i by omega),List.drop_eq_getElem_cons (show i < l.length by omega),if_neg q5_,if_pos q5_];rfl
 intro d
 induction d with
 | zero =>
  intro i k hi hi2 hd hk
  obtain ⟨k,rfl⟩ : ∃ q,k = q + 2:=⟨k - 2,by omega⟩
  rw [Rf07_pre.l0,if_neg q5_,Rf07_pre.j2,if_neg q30_,order_f,Option.bind_some]
  exact hstop i k hi hi2 (.inl q5_)
 | succ d ih =>
  intro i k hi hi2 hd hk
  obtain ⟨k,rfl⟩ : ∃ q,k = q + 2:=⟨k - 2,by omega⟩
  have h : i < l.length:=by omega
  rw [Rf07_pre.l0,if_pos q5_]
  by_cases h' : i < m.length
  ·have hw : wrap64 ((i : Int) + 1) = ((i + 1 : Nat) : Int):=by unfold wrap64;omega
   have hr : ∀ (q : List ByteArray) (hq : i < q.length),rdOf ByteArray.empty q (i : Int) = q[i]:=fun q hq => by simp [rdOf,hq]
   have s1:=hl _ (List.getElem_mem h)
   have s2:=hm _ (List.getElem_mem h')
   rw [decide_eq_true q5_,Rf07_pre.j2,if_pos rfl,if_pos q5_,if_pos q5_,if_pos q5_,hr l h,hr m h',words_f _ _ q5_ q5_ k q5_ q5_,Option.bind_some,hw,ih (i + 1) k q5_ q5_ q5_ q5_,List.drop_eq_getElem_cons h,List.drop_eq_getElem_cons h',List.map_cons,List.map_cons,wordsCmp]
   split <;> rfl
  ·rw [decide_eq_false q5_,Rf07_pre.j2,if_neg q30_,order_f,Option.bind_some]
   exact hstop i k hi hi2 (.inr q5_)
theorem wordCmp_self (x : List UInt8) : wordCmp x x = 0:=by
 have h : Lib.compareBytes x x = 0:=by rw [cmpBytes_eq,if_neg (List.lt_irrefl x),if_neg (List.lt_irrefl x)]
 unfold wordCmp
 rw [h,if_neg (Nat.lt_irrefl _),if_neg (Nat.lt_irrefl _)]
 cases digitsB x <;> rfl
theorem wordsCmp_self : ∀ l : List (List UInt8),wordsCmp l l = 0
 | [] => rfl
 | x :: l => by rw [wordsCmp,if_pos (wordCmp_self x)];exact wordsCmp_self l
theorem pre_f (a b : ByteArray) (ha : a.size ≤ 30) (hb : b.size ≤ 30) (k : Nat) (hk : 200 < k) : Rf07_pre.f k a b = some (preCmp a.data.toList b.data.toList):=by
 obtain ⟨k,rfl⟩ : ∃ m,k = m + 1:=⟨k - 1,by omega⟩
 unfold Rf07_pre.f preCmp
 rw [toList_eq,toList_eq]
 by_cases h0 : a.data.toList = []
 ·rw [if_pos h0,Rf07_pre.j0,if_pos rfl,toList_eq,toList_eq]
  by_cases h1 : b.data.toList = []
  ·rw [h0,h1];rfl
  ·have e : (b.data.toList == []) = false:=by simpa using h1
   have hne : ¬ a.data.toList = b.data.toList:=fun he => h1 (he ▸ h0)
   rw [if_neg hne,if_pos h0,h0,e];rfl
 ·rw [if_neg h0]
  by_cases h1 : b.data.toList = []
  ·have e : (a.data.toList == []) = false:=by simpa using h0
   have hne : ¬ a.data.toList = b.data.toList:=fun he => h0 (he.trans h1)
   rw [h1,show (([] : List UInt8) == []) = true from rfl,Rf07_pre.j0,if_pos rfl,toList_eq,toList_eq,h1,e,if_neg (by rw [← h1];exact hne),if_neg h0];rfl
  ·have e : (b.data.toList == []) = false:=by simpa using h1
   have hs1:=refSplit_f a 46 q5_ k q5_
   have hs2:=refSplit_f b 46 q5_ k q5_
   rw [show ((46 : UInt8).toNat : Int) = 46 from rfl] at hs1 hs2
   have hl1 : (splitS 46 a).length ≤ a.size + 1:=by unfold splitS;rw [List.length_map];exact splitL_length _ _
   have hl2 : (splitS 46 b).length ≤ b.size + 1:=by unfold splitS;rw [List.length_map];exact splitL_length _ _
   have hg:=pre_gen (splitS 46 a) (splitS 46 b) 30 (fun p hp => Nat.le_trans (splitS_size 46 a p hp) ha) (fun p hp => Nat.le_trans (splitS_size 46 b p hp) hb) q5_ q5_ q5_ (splitS 46 a).length 0 k (Nat.zero_le _) (Nat.zero_le _) rfl q5_
   rw [show ((0 : Nat) : Int) = 0 from rfl,List.drop_zero,List.drop_zero] at hg
   have hm : ∀ s : ByteArray,(splitS 46 s).map (·.data.toList) = splitL 46 s.data.toList:=fun s => by unfold splitS;rw [List.map_map];exact (List.map_congr_left (fun x _ => rfl)).trans (List.map_id _)
   rw [e,Rf07_pre.j0,if_neg q30_,hs1,hs2,Option.bind_some,Option.bind_some,hg,hm,hm,if_neg h0,if_neg h1]
   by_cases hab : a.data.toList = b.data.toList
   ·rw [if_pos hab,hab,wordsCmp_self]
   ·rw [if_neg hab]
theorem ordI_ne {a b : Int} (h : ¬ a = b) : ordI a b ≠ 0:=by
 unfold ordI
 split
 ·decide
 ·split
  ·decide
  ·omega
theorem ordI_self (a : Int) : ordI a a = 0:=by unfold ordI;rw [if_neg q5_,if_neg q5_]
theorem refCmp_eq (x y : Req) (k : Nat) (hk : 1300 < k) : Rf07_Compare.f k x.f1.f0 x.f1.f1 x.f1.f2 x.f1.f3 x.f1.f4 y.f1.f0 y.f1.f1 y.f1.f2 y.f1.f3 y.f1.f4 = some (cmpB x y):=by
 unfold Rf07_Compare.f cmpB
 rw [(show Rf07_Check.f k x.f1.f0 x.f1.f1 x.f1.f2 x.f1.f3 x.f1.f4 = some (verR x) from refVer_f _ _ _ _ _ k q5_),(show Rf07_Check.f k y.f1.f0 y.f1.f1 y.f1.f2 y.f1.f3 y.f1.f4 = some (verR y) from refVer_f _ _ _ _ _ k q5_),Option.bind_some,Option.bind_some]
 obtain ⟨k,rfl⟩ : ∃ m,k = m + 1:=⟨k - 1,by omega⟩
 cases hx : verR x with
 | false => rfl
 | true =>
  cases hy : verR y with
  | false => rfl
  | true =>
   have h1:=verR_pre hx
   have h2:=verR_pre hy
   rw [if_pos rfl,Rf07_Compare.j0,if_neg q30_,pre_f _ _ h1 h2 k q5_,order_f,order_f,order_f]
   simp only [Option.bind_some,Bool.and_self,if_true]
   by_cases ha : x.f1.f0 = y.f1.f0
   ·rw [if_pos ha,ha,ordI_self,if_neg (show ¬ ((0 : Int) ≠ 0) by decide)]
    by_cases hb : x.f1.f1 = y.f1.f1
    ·rw [if_pos hb,hb,ordI_self,if_neg (show ¬ ((0 : Int) ≠ 0) by decide)]
     by_cases hc : x.f1.f2 = y.f1.f2
     ·rw [if_pos hc,hc,ordI_self,if_neg (show ¬ ((0 : Int) ≠ 0) by decide)]
     ·rw [if_neg hc,if_pos (ordI_ne hc)]
    ·rw [if_neg hb,if_pos (ordI_ne hb)]
   ·rw [if_neg ha,if_pos (ordI_ne ha)]
end Go.Proofs.YtennhpoemdaghaaGreatDoor.P
end
section
namespace Go.Proofs.YtennhpoemdaghaaGreatDoor.P
open Go.RowKit Go.Proofs.YtennhpoemdaghaaGreatDoorW.PrintWords Go.Proofs.YtennhpoemdaghaaGreatDoorW.PrintLast Go.Proofs.YtennhpoemdaghaaGreatDoorW.PrintMore
def Rf17_few.l0 : Nat → List (S41) → Int → Option (Bool)
 | 0,_,_ => none
 | k + 1,x0,x3 => if x3 < (x0.length : Int) then (if 0 ≤ x3 then (if (((rd_T41 x0 x3).f0).size : Int) > 200 then (some false) else (if (((rd_T41 x0 x3).f1.f3).size : Int) > 200 then (some false) else (if (((rd_T41 x0 x3).f1.f4).size : Int) > 200 then (some false) else (Rf17_few.l0 k x0 (wrap64 (x3 + 1)))))) else (none)) else (some (decide ((x0.length : Int) ≤ 12)))
def Rf17_few.f (k : Nat) (l0 : List (S41)) : Option (Bool):=Rf17_few.l0 k l0 0
set_option maxHeartbeats 8000000 in
set_option maxRecDepth 100000 in
theorem Rf17_few.calls (k : Nat) (A0 : Option Addr) (c0 : Nat) (l0 : List (S41)) (r : Bool) (w : World) (hr0 : Kd.C k41 w A0 l0.length l0) (hc0 : l0.length ≤ c0) (h : Rf17_few.f k l0 = some r) :
  Calls Tryz.prog 45 #[.slice A0 l0.length c0] w fun e w' => e = .returned (.bool r) ∧ Drawn0 w w':=by
 have HR0:=Aside0.mk hr0
 have HC0:=Aside0.mk hc0
 clear hr0 hc0
 have H : (Rf17_few.l0 k l0 0) = some r:=h
 clear h
 have H':=Aside0.mk H
 clear H
 go_enter Tryz.func45,Tryz.ntmps45
 go_wp2
 go_loopg [3] k (fun kq v3 w' => ∃ (x3_1 : Int),v3 = .int .i64 x3_1 ∧ Aside0 (Rf17_few.l0 kq l0 x3_1 = some r) ∧ Aside0 (kq ≤ k) ∧ Drawn0 w w')
 case atStart => exact ⟨(0),q12_,H',⟨Nat.le_refl _⟩,by repeat (first | exact Drawn0.refl _ | apply Drawn0.step)⟩
 case round =>
  clear H'
  obtain ⟨x3_1,rfl,HA,HK1,⟨m1,rfl⟩⟩:=hrel
  cases gk with
  | zero => exact absurd HA.out (by simp [Rf17_few.l0])
  | succ k1 =>
   have H:=HA.out
   clear HA
   simp only [Rf17_few.l0] at H
   by_cases c2 : x3_1 < (l0.length : Int)
   ·rw [if_pos c2] at H
    have c2b0:=decide_eq_true c2
    clear c2
    by_cases c3 : 0 ≤ x3_1
    ·rw [if_pos c3] at H
     have c3b0:=decide_eq_true c3
     clear c3
     by_cases c4 : (((rd_T41 l0 x3_1).f0).size : Int) > 200
     ·rw [if_pos c4] at H
      have c4b0 : decide (200 < (((rd_T41 l0 x3_1).f0).size : Int)) = true:=decide_eq_true c4
      have c4b1 : decide (200 < ((rd_T41 l0 x3_1).f0).size) = true:=decide_eq_true q5_
      clear c4
      obtain rfl:=Option.some.inj H
      have p101 : 0 ≤ (x3_1 : Int):=of_decide_eq_true q1_
      have q101 : x3_1 < (l0.length : Int):=of_decide_eq_true q1_
      obtain ⟨ad101,e101,hx101_0,hx101_1,hx101_2,hx101_3,hx101_4,hx101_5⟩:=at_T41 HR0.out x3_1 p101 q101
      cases e101
      replace p101:=eq_true p101
      replace q101:=eq_true q101
      go_wp2
      go_ret
      exact ⟨q3_,q4_⟩
     ·rw [if_neg c4] at H
      have c4b0 : decide (200 < (((rd_T41 l0 x3_1).f0).size : Int)) = false:=decide_eq_false c4
      have c4b1 : decide (200 < ((rd_T41 l0 x3_1).f0).size) = false:=decide_eq_false q5_
      clear c4
      by_cases c5 : (((rd_T41 l0 x3_1).f1.f3).size : Int) > 200
      ·rw [if_pos c5] at H
       have c5b0 : decide (200 < (((rd_T41 l0 x3_1).f1.f3).size : Int)) = true:=decide_eq_true c5
       have c5b1 : decide (200 < ((rd_T41 l0 x3_1).f1.f3).size) = true:=decide_eq_true q5_
       clear c5
       obtain rfl:=Option.some.inj H
       have p101 : 0 ≤ (x3_1 : Int):=of_decide_eq_true q1_
       have q101 : x3_1 < (l0.length : Int):=of_decide_eq_true q1_
       obtain ⟨ad101,e101,hx101_0,hx101_1,hx101_2,hx101_3,hx101_4,hx101_5⟩:=at_T41 HR0.out x3_1 p101 q101
       cases e101
       replace p101:=eq_true p101
       replace q101:=eq_true q101
       have p102 : 0 ≤ (x3_1 : Int):=of_decide_eq_true q1_
       have q102 : x3_1 < (l0.length : Int):=of_decide_eq_true q1_
       obtain ⟨ad102,e102,hx102_0,hx102_1,hx102_2,hx102_3,hx102_4,hx102_5⟩:=at_T41 HR0.out x3_1 p102 q102
       obtain rfl : ad101 = ad102:=(by injection e102)
       replace p102:=eq_true p102
       replace q102:=eq_true q102
       go_wp2
       go_ret
       exact ⟨q3_,q4_⟩
      ·rw [if_neg c5] at H
       have c5b0 : decide (200 < (((rd_T41 l0 x3_1).f1.f3).size : Int)) = false:=decide_eq_false c5
       have c5b1 : decide (200 < ((rd_T41 l0 x3_1).f1.f3).size) = false:=decide_eq_false q5_
       clear c5
       by_cases c6 : (((rd_T41 l0 x3_1).f1.f4).size : Int) > 200
       ·rw [if_pos c6] at H
        have c6b0 : decide (200 < (((rd_T41 l0 x3_1).f1.f4).size : Int)) = true:=decide_eq_true c6
        have c6b1 : decide (200 < ((rd_T41 l0 x3_1).f1.f4).size) = true:=decide_eq_true q5_
        clear c6
        obtain rfl:=Option.some.inj H
        have p101 : 0 ≤ (x3_1 : Int):=of_decide_eq_true q1_
        have q101 : x3_1 < (l0.length : Int):=of_decide_eq_true q1_
        obtain ⟨ad101,e101,hx101_0,hx101_1,hx101_2,hx101_3,hx101_4,hx101_5⟩:=at_T41 HR0.out x3_1 p101 q101
        cases e101
        replace p101:=eq_true p101
        replace q101:=eq_true q101
        have p102 : 0 ≤ (x3_1 : Int):=of_decide_eq_true q1_
        have q102 : x3_1 < (l0.length : Int):=of_decide_eq_true q1_
        obtain ⟨ad102,e102,hx102_0,hx102_1,hx102_2,hx102_3,hx102_4,hx102_5⟩:=at_T41 HR0.out x3_1 p102 q102
        obtain rfl : ad101 = ad102:=(by injection e102)
        replace p102:=eq_true p102
        replace q102:=eq_true q102
        have p103 : 0 ≤ (x3_1 : Int):=of_decide_eq_true q1_
        have q103 : x3_1 < (l0.length : Int):=of_decide_eq_true q1_
        obtain ⟨ad103,e103,hx103_0,hx103_1,hx103_2,hx103_3,hx103_4,hx103_5⟩:=at_T41 HR0.out x3_1 p103 q103
        obtain rfl : ad101 = ad103:=(by injection e103)
        replace p103:=eq_true p103
        replace q103:=eq_true q103
        go_wp2
        go_ret
        exact ⟨q3_,q4_⟩
       ·rw [if_neg c6] at H
        have c6b0 : decide (200 < (((rd_T41 l0 x3_1).f1.f4).size : Int)) = false:=decide_eq_false c6
        have c6b1 : decide (200 < ((rd_T41 l0 x3_1).f1.f4).size) = false:=decide_eq_false q5_
        clear c6
        have H':=Aside0.mk H
        clear H
        have p101 : 0 ≤ (x3_1 : Int):=of_decide_eq_true q1_
        have q101 : x3_1 < (l0.length : Int):=of_decide_eq_true q1_
        obtain ⟨ad101,e101,hx101_0,hx101_1,hx101_2,hx101_3,hx101_4,hx101_5⟩:=at_T41 HR0.out x3_1 p101 q101
        cases e101
        replace p101:=eq_true p101
        replace q101:=eq_true q101
        have p102 : 0 ≤ (x3_1 : Int):=of_decide_eq_true q1_
        have q102 : x3_1 < (l0.length : Int):=of_decide_eq_true q1_
        obtain ⟨ad102,e102,hx102_0,hx102_1,hx102_2,hx102_3,hx102_4,hx102_5⟩:=at_T41 HR0.out x3_1 p102 q102
        obtain rfl : ad101 = ad102:=(by injection e102)
        replace p102:=eq_true p102
        replace q102:=eq_true q102
        have p103 : 0 ≤ (x3_1 : Int):=of_decide_eq_true q1_
        have q103 : x3_1 < (l0.length : Int):=of_decide_eq_true q1_
        obtain ⟨ad103,e103,hx103_0,hx103_1,hx103_2,hx103_3,hx103_4,hx103_5⟩:=at_T41 HR0.out x3_1 p103 q103
        obtain rfl : ad101 = ad103:=(by injection e103)
        replace p103:=eq_true p103
        replace q103:=eq_true q103
        go_wp2
        go_roundg k1
        case measure => have:=HK1.out;omega
        case rel => exact ⟨(wrap64 (x3_1 + 1)),q12_,H',⟨by have:=HK1.out;omega⟩,by repeat (first | exact Drawn0.refl _ | apply Drawn0.step)⟩
    ·rw [if_neg c3] at H
     exact absurd H q25_
   ·rw [if_neg c2] at H
    have c2b0:=decide_eq_false c2
    clear c2
    obtain rfl:=Option.some.inj H
    go_wp2
    go_ret
    exact ⟨q3_,q4_⟩
def Rf17_Small.l0 : Nat → List (S41) → List (S68) → Int → Option (Bool)
 | 0,_,_,_ => none
 | k + 1,x0,x1,x5 => if x5 < (x1.length : Int) then (if 0 ≤ x5 then ((Rf17_few.f k ((rd_T68 x1 x5).f1)).bind fun t103 => (if t103 = true then ((Rf17_few.f k (([(⟨(rd_T68 x1 x5).f0.f0,(⟨(rd_T68 x1 x5).f0.f1.f0,(rd_T68 x1 x5).f0.f1.f1,(rd_T68 x1 x5).f0.f1.f2,(rd_T68 x1 x5).f0.f1.f3,(rd_T68 x1 x5).f0.f1.f4⟩ : S24)⟩ : S41)] : List (S41)))).bind fun t108 => (if t108 = true then (Rf17_Small.l0 k x0 x1 (wrap64 (x5 + 1))) else (some false))) else (some false))) else (none)) else ((Rf17_few.f k x0).bind fun t101 => (if t101 = true then (some (decide ((x1.length : Int) ≤ 20))) else (some false)))
def Rf17_Small.f (k : Nat) (l0 : List (S41)) (l1 : List (S68)) : Option (Bool):=Rf17_Small.l0 k l0 l1 0
set_option maxHeartbeats 8000000 in
set_option maxRecDepth 100000 in
theorem Rf17_Small.calls (k : Nat) (A0 : Option Addr) (c0 : Nat) (l0 : List (S41)) (A1 : Option Addr) (c1 : Nat) (l1 : List (S68)) (r : Bool) (w : World) (hr0 : Kd.C k41 w A0 l0.length l0) (hc0 : l0.length ≤ c0) (hr1 : Kd.C k68 w A1 l1.length l1) (hc1 : l1.length ≤ c1) (h : Rf17_Small.f k l0 l1 = some r) :
  Calls Tryz.prog 21 #[.slice A0 l0.length c0,.slice A1 l1.length c1] w fun e w' => e = .returned (.bool r) ∧ Below w.heap.size w w':=by
 have hu41:=Tryz.underlying41
 have HR0:=Aside0.mk hr0
 have HC0:=Aside0.mk hc0
 clear hr0 hc0
 have HR1:=Aside0.mk hr1
 have HC1:=Aside0.mk hc1
 clear hr1 hc1
 have HB:=Aside0.mk (Below.refl w.heap.size w)
 have H : (Rf17_Small.l0 k l0 l1 0) = some r:=h
 clear h
 have H':=Aside0.mk H
 clear H
 go_enter Tryz.func21,Tryz.ntmps21
 go_wp2
 go_loopg [5] k (fun kq v5 w' => ∃ (x5_1 : Int),v5 = .int .i64 x5_1 ∧ Aside0 (Rf17_Small.l0 kq l0 l1 x5_1 = some r) ∧ Aside0 (kq ≤ k) ∧ Aside0 (Below w.heap.size w w'))
 case atStart => exact ⟨(0),q12_,H',⟨Nat.le_refl _⟩,⟨by repeat (first | (with_reducible first | exact HB.out | apply below_alloc | apply pw_below_drewN | apply below_drew1) | exact HB.out)⟩⟩
 case round =>
  clear H'
  try clear c1
  try clear c2
  try clear p2
  obtain ⟨x5_1,rfl,HA,HK1,HB⟩:=hrel
  cases gk with
  | zero => exact absurd HA.out (by simp [Rf17_Small.l0])
  | succ k1 =>
   have H:=HA.out
   clear HA
   simp only [Rf17_Small.l0] at H
   by_cases c3 : x5_1 < (l1.length : Int)
   ·rw [if_pos c3] at H
    have c3b0:=decide_eq_true c3
    clear c3
    by_cases c4 : 0 ≤ x5_1
    ·rw [if_pos c4] at H
     have c4b0:=decide_eq_true c4
     clear c4
     obtain ⟨t103,A50,H⟩:=Option.bind_eq_some_iff.mp H
     have A5:=Aside0.mk A50
     clear A50
     by_cases c6 : t103 = true
     ·subst c6
      rw [if_pos rfl] at H
      obtain ⟨y105,hy105⟩ : ∃ y_ : List (S41),y_ = (([(⟨(rd_T68 l1 x5_1).f0.f0,(⟨(rd_T68 l1 x5_1).f0.f1.f0,(rd_T68 l1 x5_1).f0.f1.f1,(rd_T68 l1 x5_1).f0.f1.f2,(rd_T68 l1 x5_1).f0.f1.f3,(rd_T68 l1 x5_1).f0.f1.f4⟩ : S24)⟩ : S41)] : List (S41))):=⟨_,rfl⟩
      replace H : ((Rf17_few.f k1 y105).bind fun t108 => (if t108 = true then (Rf17_Small.l0 k1 l0 l1 (wrap64 (x5_1 + 1))) else (some false))) = some r:=by first | (rw [hy105];with_reducible exact H) | (have H2_:=(Option.bind_some _ _).symm.trans H;rw [hy105];with_reducible exact H2_) | (have H2_:=(Option.bind_some _ _).symm.trans H;with_reducible exact H2_) | with_reducible exact H | (rw [hy105];exact H) | exact H
      have Ny105:=Aside0.mk hy105
      clear hy105
      obtain ⟨t108,A70,H⟩:=Option.bind_eq_some_iff.mp H
      have A7:=Aside0.mk A70
      clear A70
      by_cases c8 : t108 = true
      ·subst c8
       rw [if_pos rfl] at H
       have H':=Aside0.mk H
       clear H
       have p102 : 0 ≤ (x5_1 : Int):=of_decide_eq_true q1_
       have q102 : x5_1 < (l1.length : Int):=of_decide_eq_true q1_
       obtain ⟨ad102,A102_6,c102_6,e102,hx102_0,hx102_1,hx102_2,hx102_3,hx102_4,hx102_5,hx102_6,hl102_6,hi102_6⟩:=at_T68 HR1.out x5_1 p102 q102
       cases e102
       replace hx102_0:=cl_ HB.out hx102_0
       replace hx102_1:=cl_ HB.out hx102_1
       replace hx102_2:=cl_ HB.out hx102_2
       replace hx102_3:=cl_ HB.out hx102_3
       replace hx102_4:=cl_ HB.out hx102_4
       replace hx102_5:=cl_ HB.out hx102_5
       replace hx102_6:=cl_ HB.out hx102_6
       have HR102_6:=Aside0.mk hi102_6
       have HC102_6:=Aside0.mk hl102_6
       clear hi102_6 hl102_6
       replace p102:=eq_true p102
       replace q102:=eq_true q102
       go_wp2_with (first | ((with_reducible refine gate_callee (f:=45) rfl ?_);refine gl_ 17 Tryz.func45 #[.slice A102_6 ((rd_T68 l1 x5_1).f1).length c102_6] ?_;(with_reducible refine (Rf17_few.calls k1 _ _ ((rd_T68 l1 x5_1).f1) true _ ?side1 ?side2 A5.out).mono ?_);(case side1 => repeat (first | exact (Kd.C_below HR102_6.out HB.out) | (with_reducible refine Kd.C_alloc ?_ _) | (with_reducible refine Kd.C_drewN ?_ _) | (with_reducible refine Kd.C_drew ?_)));(case side2 => exact HC102_6.out);rintro e w' ⟨rfl,⟨nd,rfl⟩⟩;refine ⟨_,rfl,?_⟩;have p104 : 0 ≤ (x5_1 : Int):=of_decide_eq_true q1_;have q104 : x5_1 < (l1.length : Int):=of_decide_eq_true q1_;obtain ⟨ad104,A104_6,c104_6,e104,hx104_0,hx104_1,hx104_2,hx104_3,hx104_4,hx104_5,hx104_6,hl104_6,hi104_6⟩:=at_T68 HR1.out x5_1 p104 q104;obtain rfl : ad102 = ad104:=(by injection e104);replace hx104_0:=cl_ HB.out hx104_0;replace hx104_1:=cl_ HB.out hx104_1;replace hx104_2:=cl_ HB.out hx104_2;replace hx104_3:=cl_ HB.out hx104_3;replace hx104_4:=cl_ HB.out hx104_4;replace hx104_5:=cl_ HB.out hx104_5;replace hx104_6:=cl_ HB.out hx104_6;have HR104_6:=Aside0.mk hi104_6;have HC104_6:=Aside0.mk hl104_6;clear hi104_6 hl104_6;replace p104:=eq_true p104;replace q104:=eq_true q104;have ea_:=Option.some.inj (hx102_6.symm.trans hx104_6);injection ea_ with ea_ en_ ec_;subst ea_;subst ec_;clear en_) | ((with_reducible refine gate_dst (N:=25) rfl ?_);(try (refine gate_guard q55_ ?_;dsimp only));refine Kd.R_lit k41 _ 41 ?hg (N:=25) ?hd (xs:=([(⟨(rd_T68 l1 x5_1).f0.f0,(⟨(rd_T68 l1 x5_1).f0.f1.f0,(rd_T68 l1 x5_1).f0.f1.f1,(rd_T68 l1 x5_1).f0.f1.f2,(rd_T68 l1 x5_1).f0.f1.f3,(rd_T68 l1 x5_1).f0.f1.f4⟩ : S24)⟩ : S41)] : List (S41))) (inner:=[.string ((rd_T68 l1 x5_1).f0.f0),.int .i64 ((rd_T68 l1 x5_1).f0.f1.f0),.int .i64 ((rd_T68 l1 x5_1).f0.f1.f1),.int .i64 ((rd_T68 l1 x5_1).f0.f1.f2),.string ((rd_T68 l1 x5_1).f0.f1.f3),.string ((rd_T68 l1 x5_1).f0.f1.f4)]) (ok:=fun _ => True) (okp:=fun _ => True) ?hr ?hp (fun _ hk => hk) trivial (Below.refl _ _) (Nat.le_refl _) q25_ ?_;(case hd => rfl);(case hg => rfl);(case hr => first | (go_simp;done) | (go_simp;rfl));(case hp => exact (Reps.c6 (show Kd.M k41 _ _ _ (⟨(rd_T68 l1 x5_1).f0.f0,(⟨(rd_T68 l1 x5_1).f0.f1.f0,(rd_T68 l1 x5_1).f0.f1.f1,(rd_T68 l1 x5_1).f0.f1.f2,(rd_T68 l1 x5_1).f0.f1.f3,(rd_T68 l1 x5_1).f0.f1.f4⟩ : S24)⟩ : S41) [.string ((rd_T68 l1 x5_1).f0.f0),.int .i64 ((rd_T68 l1 x5_1).f0.f1.f0),.int .i64 ((rd_T68 l1 x5_1).f0.f1.f1),.int .i64 ((rd_T68 l1 x5_1).f0.f1.f2),.string ((rd_T68 l1 x5_1).f0.f1.f3),.string ((rd_T68 l1 x5_1).f0.f1.f4)] from (k41_mkM _ _ _ (⟨(rd_T68 l1 x5_1).f0.f0,(⟨(rd_T68 l1 x5_1).f0.f1.f0,(rd_T68 l1 x5_1).f0.f1.f1,(rd_T68 l1 x5_1).f0.f1.f2,(rd_T68 l1 x5_1).f0.f1.f3,(rd_T68 l1 x5_1).f0.f1.f4⟩ : S24)⟩ : S41) )) (Reps.none _ _)));intro v106 w9 ho10 hb hg_ hnew_;clear hg_ hnew_;(first | rw [← Ny105.out] at ho10 | (simp only [Int.reduceToNat] at ho10;rw [← Ny105.out] at ho10));have HO107:=Aside0.mk (Kd.R_lower ho10 (below_size bh_));replace HB:=Aside0.mk (below_step bh_ hb);clear hb ho10;obtain ⟨Ao11,co11,eo11⟩:=Kd.R_slice HO107.out;subst eo11) | (go_at_call 45;(with_reducible refine (Rf17_few.calls k1 _ _ y105 true _ ?side1 ?side2 A7.out).mono ?_);(case side1 => repeat (first | exact (Kd.R_reads' HO107.out).2.2 | (with_reducible refine Kd.C_alloc ?_ _) | (with_reducible refine Kd.C_drewN ?_ _) | (with_reducible refine Kd.C_drew ?_)));(case side2 => exact (Kd.R_reads' HO107.out).2.1);rintro e w' ⟨rfl,⟨nd,rfl⟩⟩))
       go_roundg k1
       case measure => have:=HK1.out;omega
       case rel => exact ⟨(wrap64 (x5_1 + 1)),q12_,H',⟨by have:=HK1.out;omega⟩,⟨by repeat (first | (with_reducible first | exact HB.out | apply below_alloc | apply pw_below_drewN | apply below_drew1) | exact HB.out)⟩⟩
      ·replace c8:=Bool.eq_false_iff.mpr c8
       subst c8
       rw [if_neg (show ¬ (false = true) by decide)] at H
       obtain rfl:=Option.some.inj H
       have p102 : 0 ≤ (x5_1 : Int):=of_decide_eq_true q1_
       have q102 : x5_1 < (l1.length : Int):=of_decide_eq_true q1_
       obtain ⟨ad102,A102_6,c102_6,e102,hx102_0,hx102_1,hx102_2,hx102_3,hx102_4,hx102_5,hx102_6,hl102_6,hi102_6⟩:=at_T68 HR1.out x5_1 p102 q102
       cases e102
       replace hx102_0:=cl_ HB.out hx102_0
       replace hx102_1:=cl_ HB.out hx102_1
       replace hx102_2:=cl_ HB.out hx102_2
       replace hx102_3:=cl_ HB.out hx102_3
       replace hx102_4:=cl_ HB.out hx102_4
       replace hx102_5:=cl_ HB.out hx102_5
       replace hx102_6:=cl_ HB.out hx102_6
       have HR102_6:=Aside0.mk hi102_6
       have HC102_6:=Aside0.mk hl102_6
       clear hi102_6 hl102_6
       replace p102:=eq_true p102
       replace q102:=eq_true q102
       go_wp2_with (first | ((with_reducible refine gate_callee (f:=45) rfl ?_);refine gl_ 17 Tryz.func45 #[.slice A102_6 ((rd_T68 l1 x5_1).f1).length c102_6] ?_;(with_reducible refine (Rf17_few.calls k1 _ _ ((rd_T68 l1 x5_1).f1) true _ ?side1 ?side2 A5.out).mono ?_);(case side1 => repeat (first | exact (Kd.C_below HR102_6.out HB.out) | (with_reducible refine Kd.C_alloc ?_ _) | (with_reducible refine Kd.C_drewN ?_ _) | (with_reducible refine Kd.C_drew ?_)));(case side2 => exact HC102_6.out);rintro e w' ⟨rfl,⟨nd,rfl⟩⟩;refine ⟨_,rfl,?_⟩;have p104 : 0 ≤ (x5_1 : Int):=of_decide_eq_true q1_;have q104 : x5_1 < (l1.length : Int):=of_decide_eq_true q1_;obtain ⟨ad104,A104_6,c104_6,e104,hx104_0,hx104_1,hx104_2,hx104_3,hx104_4,hx104_5,hx104_6,hl104_6,hi104_6⟩:=at_T68 HR1.out x5_1 p104 q104;obtain rfl : ad102 = ad104:=(by injection e104);replace hx104_0:=cl_ HB.out hx104_0;replace hx104_1:=cl_ HB.out hx104_1;replace hx104_2:=cl_ HB.out hx104_2;replace hx104_3:=cl_ HB.out hx104_3;replace hx104_4:=cl_ HB.out hx104_4;replace hx104_5:=cl_ HB.out hx104_5;replace hx104_6:=cl_ HB.out hx104_6;have HR104_6:=Aside0.mk hi104_6;have HC104_6:=Aside0.mk hl104_6;clear hi104_6 hl104_6;replace p104:=eq_true p104;replace q104:=eq_true q104;have ea_:=Option.some.inj (hx102_6.symm.trans hx104_6);injection ea_ with ea_ en_ ec_;subst ea_;subst ec_;clear en_) | ((with_reducible refine gate_dst (N:=25) rfl ?_);(try (refine gate_guard q55_ ?_;dsimp only));refine Kd.R_lit k41 _ 41 ?hg (N:=25) ?hd (xs:=([(⟨(rd_T68 l1 x5_1).f0.f0,(⟨(rd_T68 l1 x5_1).f0.f1.f0,(rd_T68 l1 x5_1).f0.f1.f1,(rd_T68 l1 x5_1).f0.f1.f2,(rd_T68 l1 x5_1).f0.f1.f3,(rd_T68 l1 x5_1).f0.f1.f4⟩ : S24)⟩ : S41)] : List (S41))) (inner:=[.string ((rd_T68 l1 x5_1).f0.f0),.int .i64 ((rd_T68 l1 x5_1).f0.f1.f0),.int .i64 ((rd_T68 l1 x5_1).f0.f1.f1),.int .i64 ((rd_T68 l1 x5_1).f0.f1.f2),.string ((rd_T68 l1 x5_1).f0.f1.f3),.string ((rd_T68 l1 x5_1).f0.f1.f4)]) (ok:=fun _ => True) (okp:=fun _ => True) ?hr ?hp (fun _ hk => hk) trivial (Below.refl _ _) (Nat.le_refl _) q25_ ?_;(case hd => rfl);(case hg => rfl);(case hr => first | (go_simp;done) | (go_simp;rfl));(case hp => exact (Reps.c6 (show Kd.M k41 _ _ _ (⟨(rd_T68 l1 x5_1).f0.f0,(⟨(rd_T68 l1 x5_1).f0.f1.f0,(rd_T68 l1 x5_1).f0.f1.f1,(rd_T68 l1 x5_1).f0.f1.f2,(rd_T68 l1 x5_1).f0.f1.f3,(rd_T68 l1 x5_1).f0.f1.f4⟩ : S24)⟩ : S41) [.string ((rd_T68 l1 x5_1).f0.f0),.int .i64 ((rd_T68 l1 x5_1).f0.f1.f0),.int .i64 ((rd_T68 l1 x5_1).f0.f1.f1),.int .i64 ((rd_T68 l1 x5_1).f0.f1.f2),.string ((rd_T68 l1 x5_1).f0.f1.f3),.string ((rd_T68 l1 x5_1).f0.f1.f4)] from (k41_mkM _ _ _ (⟨(rd_T68 l1 x5_1).f0.f0,(⟨(rd_T68 l1 x5_1).f0.f1.f0,(rd_T68 l1 x5_1).f0.f1.f1,(rd_T68 l1 x5_1).f0.f1.f2,(rd_T68 l1 x5_1).f0.f1.f3,(rd_T68 l1 x5_1).f0.f1.f4⟩ : S24)⟩ : S41) )) (Reps.none _ _)));intro v106 w12 ho13 hb hg_ hnew_;clear hg_ hnew_;(first | rw [← Ny105.out] at ho13 | (simp only [Int.reduceToNat] at ho13;rw [← Ny105.out] at ho13));have HO107:=Aside0.mk (Kd.R_lower ho13 (below_size bh_));replace HB:=Aside0.mk (below_step bh_ hb);clear hb ho13;obtain ⟨Ao14,co14,eo14⟩:=Kd.R_slice HO107.out;subst eo14) | (go_at_call 45;(with_reducible refine (Rf17_few.calls k1 _ _ y105 false _ ?side1 ?side2 A7.out).mono ?_);(case side1 => repeat (first | exact (Kd.R_reads' HO107.out).2.2 | (with_reducible refine Kd.C_alloc ?_ _) | (with_reducible refine Kd.C_drewN ?_ _) | (with_reducible refine Kd.C_drew ?_)));(case side2 => exact (Kd.R_reads' HO107.out).2.1);rintro e w' ⟨rfl,⟨nd,rfl⟩⟩))
       go_ret
       exact ⟨q2_,bh_⟩
     ·replace c6:=Bool.eq_false_iff.mpr c6
      subst c6
      rw [if_neg (show ¬ (false = true) by decide)] at H
      obtain rfl:=Option.some.inj H
      have p102 : 0 ≤ (x5_1 : Int):=of_decide_eq_true q1_
      have q102 : x5_1 < (l1.length : Int):=of_decide_eq_true q1_
      obtain ⟨ad102,A102_6,c102_6,e102,hx102_0,hx102_1,hx102_2,hx102_3,hx102_4,hx102_5,hx102_6,hl102_6,hi102_6⟩:=at_T68 HR1.out x5_1 p102 q102
      cases e102
      replace hx102_0:=cl_ HB.out hx102_0
      replace hx102_1:=cl_ HB.out hx102_1
      replace hx102_2:=cl_ HB.out hx102_2
      replace hx102_3:=cl_ HB.out hx102_3
      replace hx102_4:=cl_ HB.out hx102_4
      replace hx102_5:=cl_ HB.out hx102_5
      replace hx102_6:=cl_ HB.out hx102_6
      have HR102_6:=Aside0.mk hi102_6
      have HC102_6:=Aside0.mk hl102_6
      clear hi102_6 hl102_6
      replace p102:=eq_true p102
      replace q102:=eq_true q102
      go_wp2_with (first | ((with_reducible refine gate_callee (f:=45) rfl ?_);refine gl_ 17 Tryz.func45 #[.slice A102_6 ((rd_T68 l1 x5_1).f1).length c102_6] ?_;(with_reducible refine (Rf17_few.calls k1 _ _ ((rd_T68 l1 x5_1).f1) false _ ?side1 ?side2 A5.out).mono ?_);(case side1 => repeat (first | exact (Kd.C_below HR102_6.out HB.out) | (with_reducible refine Kd.C_alloc ?_ _) | (with_reducible refine Kd.C_drewN ?_ _) | (with_reducible refine Kd.C_drew ?_)));(case side2 => exact HC102_6.out);rintro e w' ⟨rfl,⟨nd,rfl⟩⟩;refine ⟨_,rfl,?_⟩))
      go_ret
      exact ⟨q2_,bh_⟩
    ·rw [if_neg c4] at H
     exact absurd H q25_
   ·rw [if_neg c3] at H
    have c3b0:=decide_eq_false c3
    clear c3
    obtain ⟨t101,A150,H⟩:=Option.bind_eq_some_iff.mp H
    have A15:=Aside0.mk A150
    clear A150
    by_cases c16 : t101 = true
    ·subst c16
     rw [if_pos rfl] at H
     obtain rfl:=Option.some.inj H
     go_wp2_with (first | ((with_reducible refine gate_callee (f:=45) rfl ?_);refine gl_ 30 Tryz.func45 #[.slice A0 l0.length c0] ?_;(with_reducible refine (Rf17_few.calls k1 _ _ l0 true _ ?side1 ?side2 A15.out).mono ?_);(case side1 => repeat (first | exact (Kd.C_below HR0.out HB.out) | (with_reducible refine Kd.C_alloc ?_ _) | (with_reducible refine Kd.C_drewN ?_ _) | (with_reducible refine Kd.C_drew ?_)));(case side2 => exact HC0.out);rintro e w' ⟨rfl,⟨nd,rfl⟩⟩;refine ⟨_,rfl,?_⟩))
     go_ret
     exact ⟨q2_,bh_⟩
    ·replace c16:=Bool.eq_false_iff.mpr c16
     subst c16
     rw [if_neg (show ¬ (false = true) by decide)] at H
     obtain rfl:=Option.some.inj H
     go_wp2_with (first | ((with_reducible refine gate_callee (f:=45) rfl ?_);refine gl_ 30 Tryz.func45 #[.slice A0 l0.length c0] ?_;(with_reducible refine (Rf17_few.calls k1 _ _ l0 false _ ?side1 ?side2 A15.out).mono ?_);(case side1 => repeat (first | exact (Kd.C_below HR0.out HB.out) | (with_reducible refine Kd.C_alloc ?_ _) | (with_reducible refine Kd.C_drewN ?_ _) | (with_reducible refine Kd.C_drew ?_)));(case side2 => exact HC0.out);rintro e w' ⟨rfl,⟨nd,rfl⟩⟩;refine ⟨_,rfl,?_⟩))
     go_ret
     exact ⟨q2_,bh_⟩
end Go.Proofs.YtennhpoemdaghaaGreatDoor.P
end
section
namespace Go.Proofs.YtennhpoemdaghaaGreatDoor.P
open Go Go.RowKit Go.Proofs.YtennhpoemdaghaaGreatDoorW.PrintWords
abbrev RNode:=S68
def littleB (r : Req) : Bool:=decide (r.f0.size ≤ 200) && decide (r.f1.f3.size ≤ 200) && decide (r.f1.f4.size ≤ 200)
def fewB (l : List Req) : Bool:=l.all littleB && decide (l.length ≤ 12)
def smallB (root : List Req) (l : List RNode) : Bool:=l.all (fun n => fewB n.f1 && fewB [n.f0]) && (fewB root && decide (l.length ≤ 20))
theorem few_gen (l : List Req) (hl : l.length ≤ 9223372036854775807) : ∀ (d i k : Nat),i ≤ l.length → l.length - i = d → d < k → Rf17_few.l0 k l (i : Int) = some ((l.drop i).all littleB && decide (l.length ≤ 12)):=by
 intro d
 induction d with
 | zero =>
  intro i k hi hd hk
  obtain ⟨k,rfl⟩ : ∃ m,k = m + 1:=⟨k - 1,by omega⟩
  rw [Rf17_few.l0,if_neg q5_,List.drop_eq_nil_of_le q5_]
  congr 1
  rw [List.all_nil,Bool.true_and,decide_eq_decide]
  omega
 | succ d ih =>
  intro i k hi hd hk
  obtain ⟨k,rfl⟩ : ∃ m,k = m + 1:=⟨k - 1,by omega⟩
  have h : i < l.length:=by omega
  have hr : rd_T41 l (i : Int) = l[i]:=by simp [rd_T41,h]
  have hw : wrap64 ((i : Int) + 1) = ((i + 1 : Nat) : Int):=by unfold wrap64;omega
  rw [Rf17_few.l0,if_pos q5_,if_pos q5_,hr,hw,ih (i + 1) k q5_ q5_ q5_,List.drop_eq_getElem_cons h,List.all_cons]
  unfold littleB
  by_cases h1 : l[i].f0.size ≤ 200
  ·rw [if_neg q5_,decide_eq_true h1]
   by_cases h2 : l[i].f1.f3.size ≤ 200
   ·rw [if_neg q5_,decide_eq_true h2]
    by_cases h3 : l[i].f1.f4.size ≤ 200
    ·rw [if_neg q5_,decide_eq_true h3];simp
    ·rw [if_pos q5_,decide_eq_false h3];simp
   ·rw [if_pos q5_,decide_eq_false h2];simp
  ·rw [if_pos q5_,decide_eq_false h1];simp
theorem few_f (l : List Req) (hl : l.length ≤ 9223372036854775807) (k : Nat) (hk : l.length < k) : Rf17_few.f k l = some (fewB l):=by
 have h:=few_gen l hl l.length 0 k (Nat.zero_le _) rfl hk
 rw [show ((0 : Nat) : Int) = 0 from rfl,List.drop_zero] at h
 exact h
theorem small_gen (root : List Req) (l : List RNode) (hr0 : root.length ≤ 9223372036854775807) (hl : l.length ≤ 9223372036854775807) (M : Nat) (hM : ∀ n ∈ l,n.f1.length ≤ M) (hM2 : M ≤ 9223372036854775807) : ∀ (d i k : Nat),i ≤ l.length → l.length - i = d → M + root.length + d + 3 < k →
  Rf17_Small.l0 k root l (i : Int) = some ((l.drop i).all (fun n => fewB n.f1 && fewB [n.f0]) && (fewB root && decide (l.length ≤ 20))):=by
 intro d
 induction d with
 | zero =>
  intro i k hi hd hk
  obtain ⟨k,rfl⟩ : ∃ m,k = m + 1:=⟨k - 1,by omega⟩
  rw [Rf17_Small.l0,if_neg q5_,List.drop_eq_nil_of_le q5_,few_f root hr0 k q5_,Option.bind_some]
  cases fewB root with
  | false => rfl
  | true =>
   rw [if_pos rfl]
   congr 1
   rw [List.all_nil,Bool.true_and,Bool.true_and,decide_eq_decide]
   omega
 | succ d ih =>
  intro i k hi hd hk
  obtain ⟨k,rfl⟩ : ∃ m,k = m + 1:=⟨k - 1,by omega⟩
  have h : i < l.length:=by omega
  have hr : rd_T68 l (i : Int) = l[i]:=by simp [rd_T68,h]
  have hw : wrap64 ((i : Int) + 1) = ((i + 1 : Nat) : Int):=by unfold wrap64;omega
  have hm:=hM _ (List.getElem_mem h)
  rw [Rf17_Small.l0,if_pos q5_,if_pos q5_,hr,hw,few_f l[i].f1 q5_ k q5_,Option.bind_some,ih (i + 1) k q5_ q5_ q5_,List.drop_eq_getElem_cons h,List.all_cons]
  cases fewB l[i].f1 with
  | false => rfl
  | true =>
   rw [if_pos rfl,(show Rf17_few.f k [(⟨l[i].f0.f0,⟨l[i].f0.f1.f0,l[i].f0.f1.f1,l[i].f0.f1.f2,l[i].f0.f1.f3,l[i].f0.f1.f4⟩⟩ : Req)] = some (fewB [l[i].f0]) from few_f [l[i].f0] q25_ k q46_),Option.bind_some]
   cases fewB [l[i].f0] <;> simp
theorem small_f (root : List Req) (l : List RNode) (hr0 : root.length ≤ 9223372036854775807) (hl : l.length ≤ 9223372036854775807) (hM2 : ∀ n ∈ l,n.f1.length ≤ 9223372036854775807) : ∃ K,∀ k,K ≤ k → Rf17_Small.f k root l = some (smallB root l):=by
 refine ⟨9223372036854775807 + root.length + l.length + 4,fun k hk => ?_⟩
 have h:=small_gen root l hr0 hl 9223372036854775807 hM2 (Nat.le_refl _) l.length 0 k (Nat.zero_le _) rfl q5_
 rw [show ((0 : Nat) : Int) = 0 from rfl,List.drop_zero] at h
 exact h
end Go.Proofs.YtennhpoemdaghaaGreatDoor.P
end
section
namespace Go.Proofs.YtennhpoemdaghaaGreatDoor.P
open Go Go.RowKit Go.Proofs.YtennhpoemdaghaaGreatDoorW.PrintWords Go.Proofs.YtennhpoemdaghaaGreatDoorW.PrintLast Go.Proofs.YtennhpoemdaghaaGreatDoorW.PrintMore
set_option maxRecDepth 100000 in
set_option maxHeartbeats 4000000 in
theorem more_calls (g : Nat) (v vn : Value) (all l r : List Req) (A : Option Addr) (c : Nat) (w0 w : World) (hb0 : Below w0.heap.size w0 w) (hgB : w0.heap.size ≤ g)
  (hg : w.heap[g]? = some (.cells #[v,vn] 73 (0,0))) (hv : Kd.R k41 41 w w0.heap.size (fun k => k ≠ g) v all)
  (hl : Kd.C k41 w0 A l.length l) (hc : l.length ≤ c) (hE : Env w0) (hr : moreP all l = some r) (hal : all.length ≤ 1000000) :
  Calls Tryz.prog 47 #[.pointer (some ⟨g,0,none⟩),.slice A l.length c] w fun e w' => e = .returned (.tuple #[]) ∧ ∃ v',w'.heap[g]? = some (.cells #[v',vn] 73 (0,0)) ∧
   Kd.R k41 41 w' w0.heap.size (fun k => k ≠ g) v' r ∧ Below w0.heap.size w0 w':=by
 have HL:=Aside0.mk hl
 have HC:=Aside0.mk hc
 have HE:=Aside0.mk hE
 have HB:=Aside0.mk hb0
 have BK:=Aside0.mk hg
 have HO:=Aside0.mk hv
 have GE:=Aside0.mk hgB
 have HH:=Aside0.mk hr
 clear hl hc hE hb0 hg hv hgB hr
 go_enter Tryz.func47,Tryz.ntmps47
 go_wp2
 go_loopw [8] (fun v8 wr => ∃ (i : Nat) (v' : Value) (all' : List Req),v8 = .int .i64 i ∧ i ≤ l.length ∧ Aside0 (moreP all' (l.drop i) = some r) ∧ Aside0 (all'.length ≤ 1000000) ∧ Aside0 (wr.heap[g]? = some (.cells #[v',vn] 73 (0,0))) ∧
   Aside0 (Kd.R k41 41 wr w0.heap.size (fun k => k ≠ g) v' all') ∧ Aside0 (Below w0.heap.size w0 wr)) (fun v8 _ => l.length - (intOf v8).toNat)
 case atStart => exact ⟨0,v,all,rfl,Nat.zero_le _,HH,⟨hal⟩,BK,HO,HB⟩
 case round =>
  clear BK HO HB HH
  obtain ⟨i,v',all',rfl,hi,HH,HA,BK,HO,HB⟩:=hrel
  obtain ⟨A',c',rfl⟩:=Kd.R_slice HO.out
  by_cases h : i < l.length
  ·have hg : ((i : Int) < (l.length : Int)) = True:=eq_true q5_
   have hp : (0 ≤ (i : Int)) = True:=eq_true q5_
   obtain ⟨ad,e1,hx0,hx1,hx2,hx3,hx4,hx5⟩:=at_T41 (Kd.C_below HL.out HB.out) (i : Int) q5_ q5_
   cases e1
   have hmax:=Kd.C_max HL.out
   have hw : wrap64 ((i : Int) + 1) = (i : Int) + 1:=by unfold wrap64;omega
   simp only [Int.toNat_natCast] at hx0 hx1 hx2 hx3 hx4 hx5
   obtain ⟨x,hx⟩ : ∃ x,rd_T41 l (i : Int) = x:=⟨_,rfl⟩
   rw [hx] at hx0 hx1 hx2 hx3 hx4 hx5
   have hlx : l.drop i = x :: l.drop (i + 1):=by rw [List.drop_eq_getElem_cons h,← hx];simp [rd_T41,h]
   have H:=HH.out
   rw [hlx,moreP] at H
   clear HH
   replace H:=Option.bind_eq_some_iff.mp H
   obtain ⟨b,hb,H⟩:=H
   replace hb : mvs_may.f fuelR x.f0 x.f1.f0 x.f1.f1 x.f1.f2 x.f1.f3 x.f1.f4 = some b:=hb
   cases b with
   | false =>
    replace H : moreP all' (l.drop (i + 1)) = some r:=H
    have HH:=Aside0.mk H
    clear H
    go_wp2_with (first | ((with_reducible refine gate_dst (N:=5) rfl ?_);refine bx_ 5 41 #[.string (⟨#[]⟩ : ByteArray),.int .i64 0,.int .i64 0,.int .i64 0,.string (⟨#[]⟩ : ByteArray),.string (⟨#[]⟩ : ByteArray)] ?_;intro g5 hg5 w1 hbox hb1;have n1:=Aside0.mk (blk_below BK.out hb1);have n3:=Aside0.mk (below_then HB.out HB.out.size hb1);have n4:=Aside0.mk hbox;have n5:=Aside0.mk ((by rw [hg5];exact HB.out.size) : w0.heap.size ≤ g5);have n6:=Aside0.mk (q61_ : g5 ≠ g);have n7:=Aside0.mk (Kd.R_below (Kd.R_mono (Kd.R_bound HO.out) (fun k hk => (⟨hk.1,by have:=hk.2.2.1;omega⟩ : k ≠ g ∧ k ≠ g5))) hb1);have n8:=Aside0.mk (Nat.le_trans HB.out.size hb1.size);clear BK HO HB hbox;have BK:=n1;have HO:=n7;have HB:=n3;have BK5:=n4;have GE5:=n5;have NE5:=n6;clear n1 n3 n4 n5 n6 n7 hb1 hg5) | ((with_reducible refine gate_ (.store 41 (.tmp 5) (.tmp 11)) rfl ?_);refine store_event 41 (.tmp 5) (.tmp 11) rfl rfl rfl 0 41 _ #[.string x.f0,.int .i64 x.f1.f0,.int .i64 x.f1.f1,.int .i64 x.f1.f2,.string x.f1.f3,.string x.f1.f4] _ [.string x.f0,.int .i64 x.f1.f0,.int .i64 x.f1.f1,.int .i64 x.f1.f2,.string x.f1.f3,.string x.f1.f4] rfl rfl rfl q9_ q44_ BK5.out (Nat.le_refl 6) q55_ ?_;intro w2 hh2 hgr2;replace BK:=Aside0.mk (blk_grown BK.out hgr2 (fun he => NE5.out (Option.some.inj he).symm));replace HO:=Aside0.mk (Kd.R_grown HO.out hgr2 (fun k hk he => hk.2 (Option.some.inj he)));replace HB:=Aside0.mk (below_grown HB.out hgr2 GE5.out HB.out.size);replace BK5:=Aside0.mk hh2;clear hh2 hgr2;have hz0 : w2.cell? ⟨g5,0,none⟩ = some _:=(blk_cell BK5.out 0).trans rfl;have hz1 : w2.cell? ⟨g5,1,none⟩ = some _:=(blk_cell BK5.out 1).trans rfl;have hz2 : w2.cell? ⟨g5,2,none⟩ = some _:=(blk_cell BK5.out 2).trans rfl;have hz3 : w2.cell? ⟨g5,3,none⟩ = some _:=(blk_cell BK5.out 3).trans rfl;have hz4 : w2.cell? ⟨g5,4,none⟩ = some _:=(blk_cell BK5.out 4).trans rfl;have hz5 : w2.cell? ⟨g5,5,none⟩ = some _:=(blk_cell BK5.out 5).trans rfl))
    replace BK:=Aside0.mk (blk_drew BK.out);replace HO:=Aside0.mk (Kd.R_drew HO.out);replace HB:=Aside0.mk (below_drew HB.out);replace BK5:=Aside0.mk (blk_drew BK5.out)
    refine start_ (n:=11) (S:=fun w' => w'.cell? ⟨g,0,none⟩ = some (.slice A' all'.length c') ∧ w'.cell? ⟨g,1,none⟩ = some vn ∧ w'.cell? ⟨g5,0,none⟩ = some (.string x.f0) ∧ w'.cell? ⟨g5,1,none⟩ = some (.int .i64 x.f1.f0) ∧ w'.cell? ⟨g5,2,none⟩ = some (.int .i64 x.f1.f1) ∧ w'.cell? ⟨g5,3,none⟩ = some (.int .i64 x.f1.f2) ∧ w'.cell? ⟨g5,4,none⟩ = some (.string x.f1.f3) ∧ w'.cell? ⟨g5,5,none⟩ = some (.string x.f1.f4)) (ds:=[]) #[false,false,false,false,false,false,false,false,false,false,false] q9_ rfl rfl ⟨(blk_cell BK.out 0).trans rfl,(blk_cell BK.out 1).trans rfl,(blk_cell BK5.out 0).trans rfl,(blk_cell BK5.out 1).trans rfl,(blk_cell BK5.out 2).trans rfl,(blk_cell BK5.out 3).trans rfl,(blk_cell BK5.out 4).trans rfl,(blk_cell BK5.out 5).trans rfl⟩ (fun hHeld => ?_)
    refine tk_ 0 12 hHeld ?_
    refine one_ (i:=1) (N:=some 13) #[true,true,false,false,false,false,false,false,false,false,false] rfl rfl q9_ q30_ (fun K hK => ?_)
    refine goes_ Tryz.func59 q9_ rfl #[.agg #[.string x.f0,.int .i64 x.f1.f0,.int .i64 x.f1.f1,.int .i64 x.f1.f2,.string x.f1.f3,.string x.f1.f4]] q55_ rfl rfl q43_ ?_
    (with_reducible refine (mvs_may.calls fuelR x.f0 x.f1.f0 x.f1.f1 x.f1.f2 x.f1.f3 x.f1.f4 false _ hb ?sideG).mono ?_)
    (case sideG => exact Env.below HE.out HB.out)
    rintro e wq ⟨rfl,hb_⟩
    refine ⟨_,rfl,?_⟩
    replace BK:=Aside0.mk (blk_below BK.out hb_);replace HO:=Aside0.mk (Kd.R_below HO.out hb_);replace HB:=Aside0.mk (below_then HB.out HB.out.size hb_);replace BK5:=Aside0.mk (blk_below BK5.out hb_);clear hb_
    refine hK.out _ _ ⟨(blk_cell BK.out 0).trans rfl,(blk_cell BK.out 1).trans rfl,(blk_cell BK5.out 0).trans rfl,(blk_cell BK5.out 1).trans rfl,(blk_cell BK5.out 2).trans rfl,(blk_cell BK5.out 3).trans rfl,(blk_cell BK5.out 4).trans rfl,(blk_cell BK5.out 5).trans rfl⟩ (fun hHeld => ?_)
    clear hK K
    refine norm_ (a':=?_) ?_ ?_
    rotate_left
    ·show Act.put _ _ _ = _
     simp only [Act.put,List.setIfInBounds_toArray,List.set_cons_zero,List.set_cons_succ]
     rfl
    refine pu_ 2 14 ?_
    refine pn_ 3 15 ?_
    refine pn_ 4 16 ?_
    refine pn_ 5 17 ?_
    refine pn_ 6 18 ?_
    refine pn_ 7 19 ?_
    refine pn_ 8 20 ?_
    refine pn_ 9 21 ?_
    refine pu_ 10 22 ?_
    refine done_ q9_ ?_
    all_goals (go_wp2;refine ⟨⟨i + 1,_,_,by simp [hw],h,HH,HA,BK,⟨Kd.R_mono HO.out (fun k hk => hk.1)⟩,HB⟩,?_⟩;simp only [intOf,hw];omega)
   | true =>
    cases hm : memR all' x with
    | true =>
     replace H : moreP all' (l.drop (i + 1)) = some r:=by rw [hm] at H;exact H
     have HH:=Aside0.mk H
     clear H
     go_wp2_with (first | ((with_reducible refine gate_dst (N:=5) rfl ?_);refine bx_ 5 41 #[.string (⟨#[]⟩ : ByteArray),.int .i64 0,.int .i64 0,.int .i64 0,.string (⟨#[]⟩ : ByteArray),.string (⟨#[]⟩ : ByteArray)] ?_;intro g5 hg5 w1 hbox hb1;have n1:=Aside0.mk (blk_below BK.out hb1);have n3:=Aside0.mk (below_then HB.out HB.out.size hb1);have n4:=Aside0.mk hbox;have n5:=Aside0.mk ((by rw [hg5];exact HB.out.size) : w0.heap.size ≤ g5);have n6:=Aside0.mk (q61_ : g5 ≠ g);have n7:=Aside0.mk (Kd.R_below (Kd.R_mono (Kd.R_bound HO.out) (fun k hk => (⟨hk.1,by have:=hk.2.2.1;omega⟩ : k ≠ g ∧ k ≠ g5))) hb1);have n8:=Aside0.mk (Nat.le_trans HB.out.size hb1.size);clear BK HO HB hbox;have BK:=n1;have HO:=n7;have HB:=n3;have BK5:=n4;have GE5:=n5;have NE5:=n6;clear n1 n3 n4 n5 n6 n7 hb1 hg5) | ((with_reducible refine gate_ (.store 41 (.tmp 5) (.tmp 11)) rfl ?_);refine store_event 41 (.tmp 5) (.tmp 11) rfl rfl rfl 0 41 _ #[.string x.f0,.int .i64 x.f1.f0,.int .i64 x.f1.f1,.int .i64 x.f1.f2,.string x.f1.f3,.string x.f1.f4] _ [.string x.f0,.int .i64 x.f1.f0,.int .i64 x.f1.f1,.int .i64 x.f1.f2,.string x.f1.f3,.string x.f1.f4] rfl rfl rfl q9_ q44_ BK5.out (Nat.le_refl 6) q55_ ?_;intro w2 hh2 hgr2;replace BK:=Aside0.mk (blk_grown BK.out hgr2 (fun he => NE5.out (Option.some.inj he).symm));replace HO:=Aside0.mk (Kd.R_grown HO.out hgr2 (fun k hk he => hk.2 (Option.some.inj he)));replace HB:=Aside0.mk (below_grown HB.out hgr2 GE5.out HB.out.size);replace BK5:=Aside0.mk hh2;clear hh2 hgr2;have hz0 : w2.cell? ⟨g5,0,none⟩ = some _:=(blk_cell BK5.out 0).trans rfl;have hz1 : w2.cell? ⟨g5,1,none⟩ = some _:=(blk_cell BK5.out 1).trans rfl;have hz2 : w2.cell? ⟨g5,2,none⟩ = some _:=(blk_cell BK5.out 2).trans rfl;have hz3 : w2.cell? ⟨g5,3,none⟩ = some _:=(blk_cell BK5.out 3).trans rfl;have hz4 : w2.cell? ⟨g5,4,none⟩ = some _:=(blk_cell BK5.out 4).trans rfl;have hz5 : w2.cell? ⟨g5,5,none⟩ = some _:=(blk_cell BK5.out 5).trans rfl))
     replace BK:=Aside0.mk (blk_drew BK.out);replace HO:=Aside0.mk (Kd.R_drew HO.out);replace HB:=Aside0.mk (below_drew HB.out);replace BK5:=Aside0.mk (blk_drew BK5.out)
     refine start_ (n:=11) (S:=fun w' => w'.cell? ⟨g,0,none⟩ = some (.slice A' all'.length c') ∧ w'.cell? ⟨g,1,none⟩ = some vn ∧ w'.cell? ⟨g5,0,none⟩ = some (.string x.f0) ∧ w'.cell? ⟨g5,1,none⟩ = some (.int .i64 x.f1.f0) ∧ w'.cell? ⟨g5,2,none⟩ = some (.int .i64 x.f1.f1) ∧ w'.cell? ⟨g5,3,none⟩ = some (.int .i64 x.f1.f2) ∧ w'.cell? ⟨g5,4,none⟩ = some (.string x.f1.f3) ∧ w'.cell? ⟨g5,5,none⟩ = some (.string x.f1.f4)) (ds:=[]) #[false,false,false,false,false,false,false,false,false,false,false] q9_ rfl rfl ⟨(blk_cell BK.out 0).trans rfl,(blk_cell BK.out 1).trans rfl,(blk_cell BK5.out 0).trans rfl,(blk_cell BK5.out 1).trans rfl,(blk_cell BK5.out 2).trans rfl,(blk_cell BK5.out 3).trans rfl,(blk_cell BK5.out 4).trans rfl,(blk_cell BK5.out 5).trans rfl⟩ (fun hHeld => ?_)
     refine tk_ 0 12 hHeld ?_
     refine one_ (i:=1) (N:=some 13) #[true,true,false,false,false,false,false,false,false,false,false] rfl rfl q9_ q30_ (fun K hK => ?_)
     refine goes_ Tryz.func59 q9_ rfl #[.agg #[.string x.f0,.int .i64 x.f1.f0,.int .i64 x.f1.f1,.int .i64 x.f1.f2,.string x.f1.f3,.string x.f1.f4]] q55_ rfl rfl q43_ ?_
     (with_reducible refine (mvs_may.calls fuelR x.f0 x.f1.f0 x.f1.f1 x.f1.f2 x.f1.f3 x.f1.f4 true _ hb ?sideG).mono ?_)
     (case sideG => exact Env.below HE.out HB.out)
     rintro e wq ⟨rfl,hb_⟩
     refine ⟨_,rfl,?_⟩
     replace BK:=Aside0.mk (blk_below BK.out hb_);replace HO:=Aside0.mk (Kd.R_below HO.out hb_);replace HB:=Aside0.mk (below_then HB.out HB.out.size hb_);replace BK5:=Aside0.mk (blk_below BK5.out hb_);clear hb_
     refine hK.out _ _ ⟨(blk_cell BK.out 0).trans rfl,(blk_cell BK.out 1).trans rfl,(blk_cell BK5.out 0).trans rfl,(blk_cell BK5.out 1).trans rfl,(blk_cell BK5.out 2).trans rfl,(blk_cell BK5.out 3).trans rfl,(blk_cell BK5.out 4).trans rfl,(blk_cell BK5.out 5).trans rfl⟩ (fun hHeld => ?_)
     clear hK K
     refine norm_ (a':=?_) ?_ ?_
     rotate_left
     ·show Act.put _ _ _ = _
      simp only [Act.put,List.setIfInBounds_toArray,List.set_cons_zero,List.set_cons_succ]
      rfl
     refine pu_ 2 14 ?_
     refine pu_ 3 15 ?_
     refine pu_ 4 16 ?_
     refine pu_ 5 17 ?_
     refine tk_ 6 18 hHeld ?_
     refine tk_ 7 19 hHeld ?_
     refine one_ (i:=8) (N:=some 20) #[true,true,true,true,true,true,true,true,true,false,false] rfl rfl q9_ q30_ (fun K hK => ?_)
     refine goes_ Tryz.func86 q9_ rfl #[.slice A' all'.length c',.agg #[.string x.f0,.int .i64 x.f1.f0,.int .i64 x.f1.f1,.int .i64 x.f1.f2,.string x.f1.f3,.string x.f1.f4]] q55_ rfl rfl q43_ ?_
     (with_reducible refine (slices_Contains_apiReq.calls (all'.length + 1) A' c' all' x.f0 x.f1.f0 x.f1.f1 x.f1.f2 x.f1.f3 x.f1.f4 true _ (Kd.R_reads' HO.out).2.2 (Kd.R_reads' HO.out).2.1 ?sideF).mono ?_)
     (case sideF => rw [contains_f _ _ HA.out _ (Nat.lt_succ_self _),hm])
     rintro e wq ⟨rfl,hb_⟩
     refine ⟨_,rfl,?_⟩
     replace BK:=Aside0.mk (blk_below BK.out hb_);replace HO:=Aside0.mk (Kd.R_below HO.out hb_);replace HB:=Aside0.mk (below_then HB.out HB.out.size hb_);replace BK5:=Aside0.mk (blk_below BK5.out hb_);clear hb_
     refine hK.out _ _ ⟨(blk_cell BK.out 0).trans rfl,(blk_cell BK.out 1).trans rfl,(blk_cell BK5.out 0).trans rfl,(blk_cell BK5.out 1).trans rfl,(blk_cell BK5.out 2).trans rfl,(blk_cell BK5.out 3).trans rfl,(blk_cell BK5.out 4).trans rfl,(blk_cell BK5.out 5).trans rfl⟩ (fun hHeld => ?_)
     clear hK K
     refine norm_ (a':=?_) ?_ ?_
     rotate_left
     ·show Act.put _ _ _ = _
      simp only [Act.put,List.setIfInBounds_toArray,List.set_cons_zero,List.set_cons_succ]
      rfl
     refine pu_ 9 21 ?_
     refine pu_ 10 22 ?_
     refine done_ q9_ ?_
     all_goals (go_wp2;refine ⟨⟨i + 1,_,_,by simp [hw],h,HH,HA,BK,⟨Kd.R_mono HO.out (fun k hk => hk.1)⟩,HB⟩,?_⟩;simp only [intOf,hw];omega)
    | false =>
     replace H : (if all'.length < 1000000 then moreP (all' ++ [x]) (l.drop (i + 1)) else none) = some r:=by rw [hm] at H;exact H
     by_cases hsz : all'.length < 1000000
     ·rw [if_pos hsz] at H
      have HH:=Aside0.mk H
      clear H
      go_wp2_with (first | ((with_reducible refine gate_dst (N:=5) rfl ?_);refine bx_ 5 41 #[.string (⟨#[]⟩ : ByteArray),.int .i64 0,.int .i64 0,.int .i64 0,.string (⟨#[]⟩ : ByteArray),.string (⟨#[]⟩ : ByteArray)] ?_;intro g5 hg5 w1 hbox hb1;have n1:=Aside0.mk (blk_below BK.out hb1);have n3:=Aside0.mk (below_then HB.out HB.out.size hb1);have n4:=Aside0.mk hbox;have n5:=Aside0.mk ((by rw [hg5];exact HB.out.size) : w0.heap.size ≤ g5);have n6:=Aside0.mk (q61_ : g5 ≠ g);have n7:=Aside0.mk (Kd.R_below (Kd.R_mono (Kd.R_bound HO.out) (fun k hk => (⟨hk.1,by have:=hk.2.2.1;omega⟩ : k ≠ g ∧ k ≠ g5))) hb1);have n8:=Aside0.mk (Nat.le_trans HB.out.size hb1.size);clear BK HO HB hbox;have BK:=n1;have HO:=n7;have HB:=n3;have BK5:=n4;have GE5:=n5;have NE5:=n6;clear n1 n3 n4 n5 n6 n7 hb1 hg5) | ((with_reducible refine gate_ (.store 41 (.tmp 5) (.tmp 11)) rfl ?_);refine store_event 41 (.tmp 5) (.tmp 11) rfl rfl rfl 0 41 _ #[.string x.f0,.int .i64 x.f1.f0,.int .i64 x.f1.f1,.int .i64 x.f1.f2,.string x.f1.f3,.string x.f1.f4] _ [.string x.f0,.int .i64 x.f1.f0,.int .i64 x.f1.f1,.int .i64 x.f1.f2,.string x.f1.f3,.string x.f1.f4] rfl rfl rfl q9_ q44_ BK5.out (Nat.le_refl 6) q55_ ?_;intro w2 hh2 hgr2;replace BK:=Aside0.mk (blk_grown BK.out hgr2 (fun he => NE5.out (Option.some.inj he).symm));replace HO:=Aside0.mk (Kd.R_grown HO.out hgr2 (fun k hk he => hk.2 (Option.some.inj he)));replace HB:=Aside0.mk (below_grown HB.out hgr2 GE5.out HB.out.size);replace BK5:=Aside0.mk hh2;clear hh2 hgr2;have hz0 : w2.cell? ⟨g5,0,none⟩ = some _:=(blk_cell BK5.out 0).trans rfl;have hz1 : w2.cell? ⟨g5,1,none⟩ = some _:=(blk_cell BK5.out 1).trans rfl;have hz2 : w2.cell? ⟨g5,2,none⟩ = some _:=(blk_cell BK5.out 2).trans rfl;have hz3 : w2.cell? ⟨g5,3,none⟩ = some _:=(blk_cell BK5.out 3).trans rfl;have hz4 : w2.cell? ⟨g5,4,none⟩ = some _:=(blk_cell BK5.out 4).trans rfl;have hz5 : w2.cell? ⟨g5,5,none⟩ = some _:=(blk_cell BK5.out 5).trans rfl))
      replace BK:=Aside0.mk (blk_drew BK.out);replace HO:=Aside0.mk (Kd.R_drew HO.out);replace HB:=Aside0.mk (below_drew HB.out);replace BK5:=Aside0.mk (blk_drew BK5.out)
      refine start_ (n:=11) (S:=fun w' => w'.cell? ⟨g,0,none⟩ = some (.slice A' all'.length c') ∧ w'.cell? ⟨g,1,none⟩ = some vn ∧ w'.cell? ⟨g5,0,none⟩ = some (.string x.f0) ∧ w'.cell? ⟨g5,1,none⟩ = some (.int .i64 x.f1.f0) ∧ w'.cell? ⟨g5,2,none⟩ = some (.int .i64 x.f1.f1) ∧ w'.cell? ⟨g5,3,none⟩ = some (.int .i64 x.f1.f2) ∧ w'.cell? ⟨g5,4,none⟩ = some (.string x.f1.f3) ∧ w'.cell? ⟨g5,5,none⟩ = some (.string x.f1.f4)) (ds:=[]) #[false,false,false,false,false,false,false,false,false,false,false] q9_ rfl rfl ⟨(blk_cell BK.out 0).trans rfl,(blk_cell BK.out 1).trans rfl,(blk_cell BK5.out 0).trans rfl,(blk_cell BK5.out 1).trans rfl,(blk_cell BK5.out 2).trans rfl,(blk_cell BK5.out 3).trans rfl,(blk_cell BK5.out 4).trans rfl,(blk_cell BK5.out 5).trans rfl⟩ (fun hHeld => ?_)
      refine tk_ 0 12 hHeld ?_
      refine one_ (i:=1) (N:=some 13) #[true,true,false,false,false,false,false,false,false,false,false] rfl rfl q9_ q30_ (fun K hK => ?_)
      refine goes_ Tryz.func59 q9_ rfl #[.agg #[.string x.f0,.int .i64 x.f1.f0,.int .i64 x.f1.f1,.int .i64 x.f1.f2,.string x.f1.f3,.string x.f1.f4]] q55_ rfl rfl q43_ ?_
      (with_reducible refine (mvs_may.calls fuelR x.f0 x.f1.f0 x.f1.f1 x.f1.f2 x.f1.f3 x.f1.f4 true _ hb ?sideG).mono ?_)
      (case sideG => exact Env.below HE.out HB.out)
      rintro e wq ⟨rfl,hb_⟩
      refine ⟨_,rfl,?_⟩
      replace BK:=Aside0.mk (blk_below BK.out hb_);replace HO:=Aside0.mk (Kd.R_below HO.out hb_);replace HB:=Aside0.mk (below_then HB.out HB.out.size hb_);replace BK5:=Aside0.mk (blk_below BK5.out hb_);clear hb_
      refine hK.out _ _ ⟨(blk_cell BK.out 0).trans rfl,(blk_cell BK.out 1).trans rfl,(blk_cell BK5.out 0).trans rfl,(blk_cell BK5.out 1).trans rfl,(blk_cell BK5.out 2).trans rfl,(blk_cell BK5.out 3).trans rfl,(blk_cell BK5.out 4).trans rfl,(blk_cell BK5.out 5).trans rfl⟩ (fun hHeld => ?_)
      clear hK K
      refine norm_ (a':=?_) ?_ ?_
      rotate_left
      ·show Act.put _ _ _ = _
       simp only [Act.put,List.setIfInBounds_toArray,List.set_cons_zero,List.set_cons_succ]
       rfl
      refine pu_ 2 14 ?_
      refine pu_ 3 15 ?_
      refine pu_ 4 16 ?_
      refine pu_ 5 17 ?_
      refine tk_ 6 18 hHeld ?_
      refine tk_ 7 19 hHeld ?_
      refine one_ (i:=8) (N:=some 20) #[true,true,true,true,true,true,true,true,true,false,false] rfl rfl q9_ q30_ (fun K hK => ?_)
      refine goes_ Tryz.func86 q9_ rfl #[.slice A' all'.length c',.agg #[.string x.f0,.int .i64 x.f1.f0,.int .i64 x.f1.f1,.int .i64 x.f1.f2,.string x.f1.f3,.string x.f1.f4]] q55_ rfl rfl q43_ ?_
      (with_reducible refine (slices_Contains_apiReq.calls (all'.length + 1) A' c' all' x.f0 x.f1.f0 x.f1.f1 x.f1.f2 x.f1.f3 x.f1.f4 false _ (Kd.R_reads' HO.out).2.2 (Kd.R_reads' HO.out).2.1 ?sideF).mono ?_)
      (case sideF => rw [contains_f _ _ HA.out _ (Nat.lt_succ_self _),hm])
      rintro e wq ⟨rfl,hb_⟩
      refine ⟨_,rfl,?_⟩
      replace BK:=Aside0.mk (blk_below BK.out hb_);replace HO:=Aside0.mk (Kd.R_below HO.out hb_);replace HB:=Aside0.mk (below_then HB.out HB.out.size hb_);replace BK5:=Aside0.mk (blk_below BK5.out hb_);clear hb_
      refine hK.out _ _ ⟨(blk_cell BK.out 0).trans rfl,(blk_cell BK.out 1).trans rfl,(blk_cell BK5.out 0).trans rfl,(blk_cell BK5.out 1).trans rfl,(blk_cell BK5.out 2).trans rfl,(blk_cell BK5.out 3).trans rfl,(blk_cell BK5.out 4).trans rfl,(blk_cell BK5.out 5).trans rfl⟩ (fun hHeld => ?_)
      clear hK K
      refine norm_ (a':=?_) ?_ ?_
      rotate_left
      ·show Act.put _ _ _ = _
       simp only [Act.put,List.setIfInBounds_toArray,List.set_cons_zero,List.set_cons_succ]
       rfl
      refine pu_ 9 21 ?_
      refine pu_ 10 22 ?_
      refine done_ q9_ ?_
      go_wp2
      replace BK:=Aside0.mk (blk_drew BK.out);replace HO:=Aside0.mk (Kd.R_drew HO.out);replace HB:=Aside0.mk (below_drew HB.out);replace BK5:=Aside0.mk (blk_drew BK5.out)
      refine start_ (n:=11) (S:=fun w' => w'.cell? ⟨g,0,none⟩ = some (.slice A' all'.length c') ∧ w'.cell? ⟨g,1,none⟩ = some vn ∧ w'.cell? ⟨g5,0,none⟩ = some (.string x.f0) ∧ w'.cell? ⟨g5,1,none⟩ = some (.int .i64 x.f1.f0) ∧ w'.cell? ⟨g5,2,none⟩ = some (.int .i64 x.f1.f1) ∧ w'.cell? ⟨g5,3,none⟩ = some (.int .i64 x.f1.f2) ∧ w'.cell? ⟨g5,4,none⟩ = some (.string x.f1.f3) ∧ w'.cell? ⟨g5,5,none⟩ = some (.string x.f1.f4)) (ds:=[10]) #[false,false,false,false,false,false,false,false,false,false,false] q9_ rfl rfl ⟨(blk_cell BK.out 0).trans rfl,(blk_cell BK.out 1).trans rfl,(blk_cell BK5.out 0).trans rfl,(blk_cell BK5.out 1).trans rfl,(blk_cell BK5.out 2).trans rfl,(blk_cell BK5.out 3).trans rfl,(blk_cell BK5.out 4).trans rfl,(blk_cell BK5.out 5).trans rfl⟩ (fun hHeld => ?_)
      refine pu_ 0 23 ?_
      refine pu_ 1 24 ?_
      refine pu_ 2 25 ?_
      refine pu_ 3 26 ?_
      refine tk_ 4 27 hHeld ?_
      refine tk_ 5 28 hHeld ?_
      refine one_ (i:=6) (N:=some 29) #[true,true,true,true,true,true,true,false,false,false,false] rfl rfl q9_ q30_ (fun K hK => ?_)
      rw [if_pos q55_]
      go_simp
      have n1:=Aside0.mk (blk_alloc BK.out (.cells #[.string x.f0,.int .i64 x.f1.f0,.int .i64 x.f1.f1,.int .i64 x.f1.f2,.string x.f1.f3,.string x.f1.f4] 41));have n4:=Aside0.mk (blk_alloc BK5.out (.cells #[.string x.f0,.int .i64 x.f1.f0,.int .i64 x.f1.f1,.int .i64 x.f1.f2,.string x.f1.f3,.string x.f1.f4] 41))
      refine hK.out _ _ ⟨(blk_cell n1.out 0).trans rfl,(blk_cell n1.out 1).trans rfl,(blk_cell n4.out 0).trans rfl,(blk_cell n4.out 1).trans rfl,(blk_cell n4.out 2).trans rfl,(blk_cell n4.out 3).trans rfl,(blk_cell n4.out 4).trans rfl,(blk_cell n4.out 5).trans rfl⟩ (fun hHeld => ?_)
      clear hK K n1 n4
      refine one_ (i:=7) (N:=some 30) #[true,true,true,true,true,true,true,true,false,false,false] rfl rfl q9_ q30_ (fun K hK => ?_)
      refine Kd.R_append_step k41 (w0:=w0) w0.heap.size q55_ (.tmp 27) (.tmp 29) 38 41 (.agg #[.string (⟨#[]⟩ : ByteArray),.int .i64 0,.int .i64 0,.int .i64 0,.string (⟨#[]⟩ : ByteArray),.string (⟨#[]⟩ : ByteArray)]) 72 rfl Tryz.underlying38 info41 rfl q30_ q5_ (.slice A' all'.length c') all' x [.string x.f0,.int .i64 x.f1.f0,.int .i64 x.f1.f1,.int .i64 x.f1.f2,.string x.f1.f3,.string x.f1.f4] (fun k => k ≠ g ∧ k ≠ g5) (fun k => (k ≠ g ∧ k ≠ g5) ∧ some k ≠ (Value.slice A' all'.length c').ownBlock) rfl rfl (k41_mkM _ _ _ x) (fun _ hk => hk) ?aF HO.out HB.out HB.out.size ?aL ?_
      case aF => exact fun k hk => ⟨fun he => by have:=blk_lt BK.out;omega,fun he => by have:=blk_lt BK5.out;omega⟩
      case aL => omega
      intro v1 w1 hR1 hB1 hg1 hat1
      have hne : ∀ q,q ≠ g ∧ q ≠ g5 ∨ some q ≠ (Value.slice A' all'.length c').ownBlock:=fun q => by rcases Decidable.em (some q = (Value.slice A' all'.length c').ownBlock) with he | he;exact .inl (HO.out.1 q he.symm);exact .inr he
      have n1:=Aside0.mk (blk_grown BK.out hg1 ((hne g).resolve_left (fun he => he.1 rfl)))
      have n4:=Aside0.mk (blk_grown BK5.out hg1 ((hne g5).resolve_left (fun he => he.2 rfl)))
      have n2:=Aside0.mk hR1
      have n3:=Aside0.mk hB1
      clear BK HO HB BK5 hR1 hB1 hg1 hat1 hne;have BK:=n1;have HO:=n2;have HB:=n3;have BK5:=n4;clear n1 n2 n3 n4
      refine hK.out _ _ ⟨(blk_cell BK.out 0).trans rfl,(blk_cell BK.out 1).trans rfl,(blk_cell BK5.out 0).trans rfl,(blk_cell BK5.out 1).trans rfl,(blk_cell BK5.out 2).trans rfl,(blk_cell BK5.out 3).trans rfl,(blk_cell BK5.out 4).trans rfl,(blk_cell BK5.out 5).trans rfl⟩ (fun hHeld => ?_)
      clear hK K
      refine norm_ (a':=?_) ?_ ?_
      rotate_left
      ·show Act.put _ _ _ = _
       simp only [Act.put,List.setIfInBounds_toArray,List.set_cons_zero,List.set_cons_succ]
       rfl
      refine pu_ 8 31 ?_
      refine pu_ 9 32 ?_
      refine last_ (i:=10) (N:=none) #[true,true,true,true,true,true,true,true,true,true,true] rfl rfl q9_ q30_ (fun K hK => ?_)
      refine store_step q55_ 38 (.tmp 32) (.tmp 30) rfl rfl 0 73 #[.slice A' all'.length c',vn] #[v1,vn] v1 [v1] rfl rfl ?sU q9_ ?s1 BK.out (by show 1 ≤ 2;omega) rfl ?_
      case sU => obtain ⟨A1,c1,rfl⟩:=Kd.R_slice HO.out;rfl
      case s1 => obtain ⟨A1,c1,rfl⟩:=Kd.R_slice HO.out;simp [Value.oneCell']
      intro w6 hh6 hg6
      have n1:=Aside0.mk hh6
      have n2:=Aside0.mk (Kd.R_grown HO.out hg6 (fun k hk he => hk.1 (Option.some.inj he)))
      have n3:=Aside0.mk (below_grown HB.out hg6 GE.out HB.out.size)
      clear BK HO HB BK5 hh6 hg6;have BK:=n1;have HO:=n2;have HB:=n3;clear n1 n2 n3
      refine hK.out _ _ ?_
      clear hK K
      refine done_ q9_ ?_
      go_wp2
      refine ⟨⟨i + 1,_,_,by simp [hw],h,HH,⟨by rw [List.length_append];exact hsz⟩,BK,⟨Kd.R_mono HO.out (fun k hk => hk.1)⟩,HB⟩,?_⟩
      simp only [intOf,hw]
      omega
     ·rw [if_neg hsz] at H
      exact absurd H q25_
  ·have hg : ((i : Int) < (l.length : Int)) = False:=eq_false q5_
   have hil : l.drop i = []:=List.drop_eq_nil_of_le q5_
   have hrr : all' = r:=by have H:=HH.out;rw [hil,moreP] at H;exact Option.some.inj H
   subst hrr
   go_wp2
   refine bodyPost_end (v:=.tuple #[]) ?_ rfl ⟨rfl,_,BK.out,HO.out,HB.out⟩
   simp [results,Tryz.results47,go_sem]
end Go.Proofs.YtennhpoemdaghaaGreatDoor.P
end
section
namespace Go.Proofs.YtennhpoemdaghaaGreatDoor.P
open Go Go.RowKit Go.Proofs.YtennhpoemdaghaaGreatDoorW.PrintWords Go.Proofs.YtennhpoemdaghaaGreatDoorW.PrintLast Go.Proofs.YtennhpoemdaghaaGreatDoorW.PrintMore
attribute [local go_sem high] eqA41
set_option maxRecDepth 100000 in
set_option maxHeartbeats 4000000 in
theorem requires1_calls (x : Node) (A6 : Option Addr) (c6 g3 : Nat) (r : Req) (w : World) (hb3 : w.heap[g3]? = some (.cells #[.string r.f0,.int .i64 r.f1.f0,.int .i64 r.f1.f1,.int .i64 r.f1.f2,.string r.f1.f3,.string r.f1.f4] 41 (0,0))) :
  Calls Tryz.prog 88 #[.agg #[.string x.f0.f0,.int .i64 x.f0.f1.f0,.int .i64 x.f0.f1.f1,.int .i64 x.f0.f1.f2,.string x.f0.f1.f3,.string x.f0.f1.f4,.slice A6 x.f1.length c6],.pointer (some ⟨g3,0,none⟩)] w fun e w' => e = .returned (.bool (eqR x.f0 r)) ∧ Below w.heap.size w w':=by
 have hu:=Tryz.underlying41
 have BK:=Aside0.mk hb3
 have HB:=Aside0.mk (Below.refl w.heap.size w)
 clear hb3
 unfold eqR
 go_enter Tryz.func88,Tryz.ntmps88
 go_wp2_with (first | ((with_reducible refine gate_dst (N:=2) rfl ?_);refine bx_ 2 70 #[.string x.f0.f0,.int .i64 x.f0.f1.f0,.int .i64 x.f0.f1.f1,.int .i64 x.f0.f1.f2,.string x.f0.f1.f3,.string x.f0.f1.f4,.slice A6 x.f1.length c6] ?_;intro g2 hg2 w1 hbox hb1;replace BK:=Aside0.mk (blk_below BK.out hb1);replace HB:=Aside0.mk (below_then HB.out HB.out.size hb1);have BK2:=Aside0.mk hbox;clear hbox hb1 hg2;have hz0 : w1.cell? ⟨g2,0,none⟩ = some _:=(blk_cell BK2.out 0).trans rfl;have hz1 : w1.cell? ⟨g2,1,none⟩ = some _:=(blk_cell BK2.out 1).trans rfl;have hz2 : w1.cell? ⟨g2,2,none⟩ = some _:=(blk_cell BK2.out 2).trans rfl;have hz3 : w1.cell? ⟨g2,3,none⟩ = some _:=(blk_cell BK2.out 3).trans rfl;have hz4 : w1.cell? ⟨g2,4,none⟩ = some _:=(blk_cell BK2.out 4).trans rfl;have hz5 : w1.cell? ⟨g2,5,none⟩ = some _:=(blk_cell BK2.out 5).trans rfl;have hz6 : w1.cell? ⟨g2,6,none⟩ = some _:=(blk_cell BK2.out 6).trans rfl;have hy0 : w1.cell? ⟨g3,0,none⟩ = some _:=(blk_cell BK.out 0).trans rfl;have hy1 : w1.cell? ⟨g3,1,none⟩ = some _:=(blk_cell BK.out 1).trans rfl;have hy2 : w1.cell? ⟨g3,2,none⟩ = some _:=(blk_cell BK.out 2).trans rfl;have hy3 : w1.cell? ⟨g3,3,none⟩ = some _:=(blk_cell BK.out 3).trans rfl;have hy4 : w1.cell? ⟨g3,4,none⟩ = some _:=(blk_cell BK.out 4).trans rfl;have hy5 : w1.cell? ⟨g3,5,none⟩ = some _:=(blk_cell BK.out 5).trans rfl))
 repeat (go_quiet (fail);try go_wp2)
 go_ret
 exact ⟨(by first | rfl | (simp;done)),HB.out⟩
theorem idx_reqs (nodes : List Node) (r : Req) : ∀ i : Nat,idxP (fun n => eqR n.f0 r) (nodes.drop i) i = -1 ∧ reqsP (nodes.drop i) r = [] ∨ ∃ j : Nat,i ≤ j ∧ j < nodes.length ∧ idxP (fun n => eqR n.f0 r) (nodes.drop i) i = j ∧ reqsP (nodes.drop i) r = (rd_T70 nodes j).f1:=by
 intro i
 by_cases h : i < nodes.length
 ·have hd:=List.drop_eq_getElem_cons h
  have hr : rd_T70 nodes (i : Int) = nodes[i]:=by simp [rd_T70,h]
  rw [hd,idxP,reqsP]
  cases he : eqR nodes[i].f0 r with
  | true => exact .inr ⟨i,Nat.le_refl _,h,by simp,by rw [hr];simp⟩
  | false =>
   rcases idx_reqs nodes r (i + 1) with ⟨h1,h2⟩ | ⟨j,hj,hl,h1,h2⟩
   ·exact .inl ⟨by simp [h1],by simp [h2]⟩
   ·exact .inr ⟨j,by omega,hl,by simp [h1],by simp [h2]⟩
 ·rw [List.drop_eq_nil_of_le q5_]
  exact .inl ⟨rfl,rfl⟩
termination_by i => nodes.length - i
set_option maxRecDepth 100000 in
set_option maxHeartbeats 4000000 in
theorem requires_calls (g : Nat) (v : Value) (A1 : Option Addr) (c1 : Nat) (nodes : List Node) (r : Req) (w0 w : World) (hw : Below w0.heap.size w0 w)
  (hg : w.heap[g]? = some (.cells #[v,.slice A1 nodes.length c1] 73 (0,0))) (hn : Kd.C k70 w0 A1 nodes.length nodes) (hc : nodes.length ≤ c1) :
  Calls Tryz.prog 48 #[.pointer (some ⟨g,0,none⟩),.agg #[.string r.f0,.int .i64 r.f1.f0,.int .i64 r.f1.f1,.int .i64 r.f1.f2,.string r.f1.f3,.string r.f1.f4]] w fun e w' => ∃ (A : Option Addr) (c : Nat),e = .returned (.slice A (reqsP nodes r).length c) ∧ (reqsP nodes r).length ≤ c ∧ Kd.C k41 w0 A (reqsP nodes r).length (reqsP nodes r) ∧ Below w.heap.size w w':=by
 have HW:=Aside0.mk hw
 have BK:=Aside0.mk hg
 have HN:=Aside0.mk hn
 have HC:=Aside0.mk hc
 have HB:=Aside0.mk (Below.refl w.heap.size w)
 clear hw hg hn hc
 have hid:=idx_reqs nodes r 0
 rw [List.drop_zero] at hid
 rcases hid with ⟨hix,hrq⟩ | ⟨j,_,hj,hix,hrq⟩
 ·rw [hrq]
  go_enter Tryz.func48,Tryz.ntmps48
  go_wp2_with (first | ((with_reducible refine gate_dst (N:=3) rfl ?_);refine bx_ 3 41 #[.string r.f0,.int .i64 r.f1.f0,.int .i64 r.f1.f1,.int .i64 r.f1.f2,.string r.f1.f3,.string r.f1.f4] ?_;intro g3 hg3 w1 hbox hb1;replace BK:=Aside0.mk (blk_below BK.out hb1);have HB:=Aside0.mk hb1;have BK3:=Aside0.mk hbox;clear hbox hb1 hg3;have hz0 : w1.cell? ⟨g,0,none⟩ = some _:=(blk_cell BK.out 0).trans rfl;have hz1 : w1.cell? ⟨g,1,none⟩ = some _:=(blk_cell BK.out 1).trans rfl) | (go_at_call 87;with_reducible refine (indexNode A1 c1 nodes g3 (fun n => eqR n.f0 r) _ (Kd.C_below HN.out (below_then HW.out HW.out.size HB.out)) HC.out ?cl).mono ?_;(case cl => exact fun x A6 c6 W hx hb => requires1_calls x A6 c6 g3 r W (blk_below BK3.out hb));rintro e w2 ⟨rfl,hb2⟩;replace BK:=Aside0.mk (blk_below BK.out hb2);replace HB:=Aside0.mk (below_then HB.out HB.out.size hb2);clear BK3 hb2;try rw [hix];have hy0 : w2.cell? ⟨g,0,none⟩ = some _:=(blk_cell BK.out 0).trans rfl;have hy1 : w2.cell? ⟨g,1,none⟩ = some _:=(blk_cell BK.out 1).trans rfl))
  go_ret
  exact ⟨none,0,rfl,Nat.le_refl _,Kd.C_nil _ _,HB.out⟩
 ·rw [hrq]
  have hg : ((j : Int) < (nodes.length : Int)) = True:=eq_true q5_
  have hp : (0 ≤ (j : Int)) = True:=eq_true q5_
  have hneg : ((j : Int) < 0) = False:=eq_false q5_
  obtain ⟨ad,A6,c6,e1,hx0,hx1,hx2,hx3,hx4,hx5,hx6,hl6,hC6⟩:=at_T70 HN.out (j : Int) q5_ q5_
  cases e1
  simp only [Int.toNat_natCast] at hx6
  have HX:=Aside0.mk hx6
  clear hx0 hx1 hx2 hx3 hx4 hx5 hx6
  go_enter Tryz.func48,Tryz.ntmps48
  go_wp2_with (first | ((with_reducible refine gate_dst (N:=3) rfl ?_);refine bx_ 3 41 #[.string r.f0,.int .i64 r.f1.f0,.int .i64 r.f1.f1,.int .i64 r.f1.f2,.string r.f1.f3,.string r.f1.f4] ?_;intro g3 hg3 w1 hbox hb1;replace BK:=Aside0.mk (blk_below BK.out hb1);have HB:=Aside0.mk hb1;have BK3:=Aside0.mk hbox;clear hbox hb1 hg3;have hz0 : w1.cell? ⟨g,0,none⟩ = some _:=(blk_cell BK.out 0).trans rfl;have hz1 : w1.cell? ⟨g,1,none⟩ = some _:=(blk_cell BK.out 1).trans rfl) | (go_at_call 87;with_reducible refine (indexNode (some ad) c1 nodes g3 (fun n => eqR n.f0 r) _ (Kd.C_below HN.out (below_then HW.out HW.out.size HB.out)) HC.out ?cl).mono ?_;(case cl => exact fun x A6 c6 W hx hb => requires1_calls x A6 c6 g3 r W (blk_below BK3.out hb));rintro e w2 ⟨rfl,hb2⟩;replace BK:=Aside0.mk (blk_below BK.out hb2);replace HB:=Aside0.mk (below_then HB.out HB.out.size hb2);clear BK3 hb2;try rw [hix];have hy0 : w2.cell? ⟨g,0,none⟩ = some _:=(blk_cell BK.out 0).trans rfl;have hy1 : w2.cell? ⟨g,1,none⟩ = some _:=(blk_cell BK.out 1).trans rfl;have hx6:=((below_then HW.out HW.out.size HB.out).cell (World.block_lt_of_cell? w0 _ HX.out)).trans HX.out))
  go_ret
  exact ⟨A6,c6,rfl,hl6,hC6,HB.out⟩
end Go.Proofs.YtennhpoemdaghaaGreatDoor.P
end
section
namespace Go.Proofs.YtennhpoemdaghaaGreatDoor.P
open Go Go.RowKit Go.Proofs.YtennhpoemdaghaaGreatDoorW.PrintWords Go.Proofs.YtennhpoemdaghaaGreatDoorW.PrintLast Go.Proofs.YtennhpoemdaghaaGreatDoorW.PrintMore
theorem moreP_len : ∀ (l all r : List Req),moreP all l = some r → all.length ≤ r.length ∧ (all.length ≤ 1000000 → r.length ≤ 1000000)
 | [],all,r,h => by
  obtain rfl:=Option.some.inj h
  exact ⟨Nat.le_refl _,id⟩
 | x :: l,all,r,h => by
  rw [moreP] at h
  obtain ⟨b,_,h⟩:=Option.bind_eq_some_iff.mp h
  split at h
  ·split at h
   ·have ih:=moreP_len l _ r h
    rw [List.length_append] at ih
    exact ⟨(by have:=ih.1;simp at this;omega),fun _ => ih.2 q46_⟩
   ·exact absurd h q25_
  ·exact moreP_len l all r h
theorem walkP_len (nodes : List Node) : ∀ (k i : Nat) (all r : List Req),walkP nodes k all i = some r → all.length ≤ r.length
 | 0,_,_,_,h => absurd h (by simp [walkP])
 | k + 1,i,all,r,h => by
  rw [walkP] at h
  split at h
  ·obtain ⟨a2,h1,h2⟩:=Option.bind_eq_some_iff.mp h
   exact Nat.le_trans (moreP_len _ _ _ h1).1 (walkP_len nodes k _ _ _ h2)
  ·obtain rfl:=Option.some.inj h
   exact Nat.le_refl _
def fuelW : Nat:=1000002
def mvs_Reached.f (l0 : List Req) (l1 : List Node) : Option (List Req):=(moreP [] l0).bind fun a => walkP l1 fuelW a 0
set_option maxRecDepth 100000 in
set_option maxHeartbeats 4000000 in
theorem mvs_Reached.calls (A0 : Option Addr) (c0 : Nat) (l0 : List Req) (A1 : Option Addr) (c1 : Nat) (l1 : List Node) (r : List Req) (w : World) (hr0 : Kd.C k41 w A0 l0.length l0) (hc0 : l0.length ≤ c0) (hr1 : Kd.C k70 w A1 l1.length l1) (hc1 : l1.length ≤ c1) (h : mvs_Reached.f l0 l1 = some r) (hG : Env w) :
  Calls Tryz.prog 25 #[.slice A0 l0.length c0,.slice A1 l1.length c1] w fun e w' => ∃ v0_ : Value,e = .returned (v0_) ∧ Kd.R k41 41 w' w.heap.size (fun _ => True) v0_ r ∧ Below w.heap.size w w':=by
 obtain ⟨a,hm,hwk⟩:=Option.bind_eq_some_iff.mp h
 have HK:=Aside0.mk hwk
 have hla : a.length ≤ 1000000:=(moreP_len _ _ _ hm).2 (Nat.zero_le _)
 replace hm:=Aside0.mk hm
 have HR0:=Aside0.mk hr0
 have HC0:=Aside0.mk hc0
 have HR1:=Aside0.mk hr1
 have HC1:=Aside0.mk hc1
 have HE:=Aside0.mk hG
 clear hr0 hc0 hr1 hc1 hG h hwk
 go_enter Tryz.func25,Tryz.ntmps25
 go_wp2_with (first | ((with_reducible refine gate_dst (N:=9) rfl ?_);refine bx_ 9 73 #[.slice none 0 0,.slice A1 l1.length c1] ?_;intro g hg w1 hbox hb1;have BK:=Aside0.mk hbox;have HB:=Aside0.mk hb1;have GE:=Aside0.mk ((by rw [hg];exact Nat.le_refl _) : w.heap.size ≤ g);clear hbox hb1 hg) | (go_at_call 47;with_reducible refine (more_calls g (.slice none 0 0) (.slice A1 l1.length c1) [] l0 a A0 c0 w _ HB.out GE.out BK.out (Kd.R_nil _ _ _ _ _) HR0.out HC0.out HE.out hm.out (Nat.zero_le _)).mono ?_;rintro e w2 ⟨rfl,v2,hg2,hR2,hB2⟩;clear BK HB;have BK:=Aside0.mk hg2;have HO:=Aside0.mk hR2;have HB:=Aside0.mk hB2;clear hg2 hR2 hB2))
 go_loopw [6] (fun v6 wr => ∃ (i k : Nat) (v' : Value) (all' : List Req),v6 = .int .i64 i ∧ i ≤ all'.length ∧ Aside0 (walkP l1 k all' i = some r) ∧ Aside0 (all'.length ≤ 1000000) ∧ Aside0 (wr.heap[g]? = some (.cells #[v',.slice A1 l1.length c1] 73 (0,0))) ∧
   Aside0 (Kd.R k41 41 wr w.heap.size (fun k => k ≠ g) v' all') ∧ Aside0 (Below w.heap.size w wr)) (fun v6 _ => r.length - (intOf v6).toNat)
 case atStart => exact ⟨0,fuelW,v2,a,rfl,Nat.zero_le _,HK,⟨hla⟩,BK,HO,HB⟩
 case round =>
  clear BK HO HB HK
  obtain ⟨i,k,v',all',rfl,hi,HK,HA,BK,HO,HB⟩:=hrel
  obtain ⟨A',c',rfl⟩:=Kd.R_slice HO.out
  have hk0 : wr.cell? ⟨g,0,none⟩ = some (.slice A' all'.length c'):=(blk_cell BK.out 0).trans rfl
  have hk1 : wr.cell? ⟨g,1,none⟩ = some (.slice A1 l1.length c1):=(blk_cell BK.out 1).trans rfl
  have hla':=HA.out
  obtain ⟨k,rfl⟩ : ∃ m,k = m + 1:=by
   cases k with
   | zero => exact absurd HK.out (by simp [walkP])
   | succ m => exact ⟨m,rfl⟩
  have H:=HK.out
  rw [walkP] at H
  clear HK
  by_cases h : i < all'.length
  ·rw [dif_pos h] at H
   obtain ⟨all2,hm2,H⟩:=Option.bind_eq_some_iff.mp H
   have HK:=Aside0.mk H
   have hlen:=Nat.le_trans (moreP_len _ _ _ hm2).1 (walkP_len _ _ _ _ _ H)
   have hla2:=(moreP_len _ _ _ hm2).2 hla'
   have hi2 : i + 1 ≤ all2.length:=Nat.le_trans h (moreP_len _ _ _ hm2).1
   clear H
   have hg : ((i : Int) < (all'.length : Int)) = True:=eq_true q5_
   have hp : (0 ≤ (i : Int)) = True:=eq_true q5_
   have hw : wrap64 ((i : Int) + 1) = (i : Int) + 1:=by unfold wrap64;omega
   obtain ⟨ad,e1,hx0,hx1,hx2,hx3,hx4,hx5⟩:=at_T41 (Kd.R_reads' HO.out).2.2 (i : Int) q5_ q5_
   cases e1
   simp only [Int.toNat_natCast] at hx0 hx1 hx2 hx3 hx4 hx5
   obtain ⟨x,hx⟩ : ∃ x,rd_T41 all' (i : Int) = x:=⟨_,rfl⟩
   rw [hx] at hx0 hx1 hx2 hx3 hx4 hx5
   have hxe : all'[i] = x:=by rw [← hx];simp [rd_T41,h]
   rw [hxe] at hm2
   replace hm2:=Aside0.mk hm2
   go_wp2_with (first | (go_at_call 48;with_reducible refine (requires_calls g (.slice (some ad) all'.length c') A1 c1 l1 x w _ HB.out BK.out HR1.out HC1.out).mono ?_;rintro e w2 ⟨A2,c2,rfl,hc2,hC2,hb2⟩;replace BK:=Aside0.mk (blk_below BK.out hb2);replace HO:=Aside0.mk (Kd.R_below HO.out hb2);replace HB:=Aside0.mk (below_then HB.out HB.out.size hb2);clear hb2) | (go_at_call 47;with_reducible refine (more_calls g (.slice (some ad) all'.length c') (.slice A1 l1.length c1) all' (reqsP l1 x) all2 A2 c2 w _ HB.out GE.out BK.out HO.out hC2 hc2 HE.out hm2.out HA.out).mono ?_;rintro e w3 ⟨rfl,v3,hg3,hR3,hB3⟩;clear BK HO HB hC2 hc2;have BK:=Aside0.mk hg3;have HO:=Aside0.mk hR3;have HB:=Aside0.mk hB3;clear hg3 hR3 hB3))
   refine ⟨⟨i + 1,k,_,all2,by simp [hw],hi2,HK,⟨hla2⟩,BK,HO,HB⟩,?_⟩
   simp only [intOf,hw]
   omega
  ·rw [dif_neg h] at H
   obtain rfl:=Option.some.inj H
   have hg : ((i : Int) < (all'.length : Int)) = False:=eq_false q5_
   go_wp2
   go_ret
   exact ⟨_,rfl,Kd.R_mono HO.out (fun _ _ => trivial),HB.out⟩
end Go.Proofs.YtennhpoemdaghaaGreatDoor.P
end
section
namespace Go.Proofs.YtennhpoemdaghaaGreatDoor.P
open Go Go.RowKit Go.Proofs.YtennhpoemdaghaaGreatDoorW.PrintWords
def addL : List Req → List Req → List Req
 | all,[] => all
 | all,r :: rs => if mayB r && !memR all r then addL (all ++ [r]) rs else addL all rs
theorem moreP_eq : ∀ (l all : List Req),all.length + l.length ≤ 1000000 → moreP all l = some (addL all l)
 | [],all,_ => rfl
 | r :: rs,all,h => by
  rw [List.length_cons] at h
  rw [moreP,mayP_eq,Option.bind_some,addL]
  split
  ·rw [if_pos q5_]
   exact moreP_eq rs _ (by rw [List.length_append,List.length_singleton];omega)
  ·exact moreP_eq rs _ q5_
theorem mayB_size {r : Req} (h : mayB r = true) : r.f0.size ≤ 60:=by
 unfold mayB fitsB at h
 simp only [Bool.and_eq_true] at h
 have hc:=h.1.1
 unfold chkB at hc
 rw [Bool.and_eq_true] at hc
 exact pathB_size hc.1
def takeL (L : List Req) (r : Req) : List Req :=
 match L.find? (sameP r.f0) with
 | none => L ++ [r]
 | some x => if cmpB r x > 0 then setL L r else L
theorem takeP_eq (L : List Req) (r : Req) (h : mayB r = true) : takeP L r = some (takeL L r):=by
 have hs:=mayB_size h
 unfold takeP takeL
 rw [if_pos q5_]
 cases L.find? (sameP r.f0) with
 | none => rfl
 | some x => simp only [cmpP_eq,Option.bind_some]
theorem eachP_eq : ∀ (l L : List Req),(∀ r ∈ l,mayB r = true) → eachP L l = some (l.foldl takeL L)
 | [],L,_ => rfl
 | r :: rs,L,h => by
  rw [eachP,takeP_eq L r (h r q25_),Option.bind_some,List.foldl_cons]
  exact eachP_eq rs _ (fun x hx => h x (by simp [hx]))
end Go.Proofs.YtennhpoemdaghaaGreatDoor.P
end
section
namespace Go.Proofs.YtennhpoemdaghaaGreatDoor.P
open Go.RowKit Go.Proofs.YtennhpoemdaghaaGreatDoorW.PrintWords Go.Proofs.YtennhpoemdaghaaGreatDoorW.PrintLast Go.Proofs.YtennhpoemdaghaaGreatDoorW.PrintMore
attribute [local go_sem high] eqA41
end Go.Proofs.YtennhpoemdaghaaGreatDoor.P
end
section
namespace Go.Proofs.YtennhpoemdaghaaGreatDoor.P
open Go Go.RowKit Go.Proofs.YtennhpoemdaghaaGreatDoorW.PrintWords
theorem eqR_iff {x y : Req} : eqR x y = true ↔ x = y:=by
 obtain ⟨p,a,b,c,d,e⟩:=x
 obtain ⟨p',a',b',c',d',e'⟩:=y
 unfold eqR
 simp only [Bool.and_eq_true,beq_iff_eq,toList_eq]
 constructor
 ·rintro ⟨h1,h2,h3,h4,h5,h6⟩
  rw [bytes_inj h1,h2,h3,h4,bytes_inj h5,bytes_inj h6]
 ·intro h
  cases h
  exact ⟨rfl,rfl,rfl,rfl,rfl,rfl⟩
theorem memR_iff {l : List Req} {r : Req} : memR l r = true ↔ r ∈ l:=by
 unfold memR
 rw [List.any_eq_true]
 constructor
 ·rintro ⟨x,hx,he⟩
  rw [eqR_iff.1 he]
  exact hx
 ·exact fun h => ⟨r,h,eqR_iff.2 rfl⟩
theorem addL_mem : ∀ (l all : List Req) (r : Req),r ∈ addL all l ↔ r ∈ all ∨ (r ∈ l ∧ mayB r = true)
 | [],all,r => by simp [addL]
 | x :: rs,all,r => by
  rw [addL]
  cases hm : mayB x
  ·simp only [Bool.false_and,Bool.false_eq_true,if_false]
   rw [addL_mem rs all r,List.mem_cons]
   constructor
   ·rintro (h | ⟨h1,h2⟩)
    ·exact .inl h
    ·exact .inr ⟨.inr h1,h2⟩
   ·rintro (h | ⟨rfl | h1,h2⟩)
    ·exact .inl h
    ·rw [hm] at h2;exact absurd h2 q30_
    ·exact .inr ⟨h1,h2⟩
  ·cases hx : memR all x
   ·simp only [Bool.not_false,Bool.and_self,if_true]
    rw [addL_mem rs _ r,List.mem_append,List.mem_singleton,List.mem_cons]
    constructor
    ·rintro ((h | rfl) | ⟨h1,h2⟩)
     ·exact .inl h
     ·exact .inr ⟨.inl rfl,hm⟩
     ·exact .inr ⟨.inr h1,h2⟩
    ·rintro (h | ⟨rfl | h1,h2⟩)
     ·exact .inl (.inl h)
     ·exact .inl (.inr rfl)
     ·exact .inr ⟨h1,h2⟩
   ·simp only [Bool.not_true,Bool.and_false,Bool.false_eq_true,if_false]
    rw [addL_mem rs all r,List.mem_cons]
    have hxa:=memR_iff.1 hx
    constructor
    ·rintro (h | ⟨h1,h2⟩)
     ·exact .inl h
     ·exact .inr ⟨.inr h1,h2⟩
    ·rintro (h | ⟨rfl | h1,h2⟩)
     ·exact .inl h
     ·exact .inl hxa
     ·exact .inr ⟨h1,h2⟩
theorem addL_nodup : ∀ (l all : List Req),all.Nodup → (addL all l).Nodup
 | [],all,h => h
 | x :: rs,all,h => by
  rw [addL]
  split
  ·rename_i hx
   rw [Bool.and_eq_true] at hx
   have hn : x ∉ all:=fun hm => by rw [memR_iff.2 hm] at hx;exact absurd hx.2 q30_
   refine addL_nodup rs _ (List.nodup_append.2 ⟨h,by simp,fun a ha b hb => ?_⟩)
   rw [List.mem_singleton.1 hb]
   exact fun e => hn (e ▸ ha)
  ·exact addL_nodup rs all h
theorem takeL_length (L : List Req) (r : Req) : (takeL L r).length ≤ L.length + 1:=by
 unfold takeL
 split
 ·simp
 ·split
  ·unfold setL;simp
  ·omega
theorem takes_length : ∀ (l L : List Req),(l.foldl takeL L).length ≤ L.length + l.length
 | [],L => Nat.le_refl _
 | r :: rs,L => by
  rw [List.foldl_cons,List.length_cons]
  have h1:=takes_length rs (takeL L r)
  have h2:=takeL_length L r
  omega
theorem rd_at (l : List Req) (i : Nat) (h : i < l.length) : rd_T41 l (i : Int) = l[i]:=by simp [rd_T41,h]
end Go.Proofs.YtennhpoemdaghaaGreatDoor.P
end
