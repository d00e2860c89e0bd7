/- MvsAgain: called with any requirements and nodes, the law returns true, and its arguments read behind the call as they read before. Proved of the given program, for every input that can be read as data; the package-level variables that the card lists begin as the program's text lays them (the card ties them to it); nothing else is assumed. -/
import Derived.Test.YtennhpoemdaghaaGreatDoorAgain3
import Derived.Test.YtennhpoemdaghaaGreatDoorRows
import Derived.Test.YtennhpoemdaghaaGreatDoorTie
import Derived.Test.YtennhpoemdaghaaGreatDoorCards
set_option linter.unusedVariables false
set_option linter.unusedSimpArgs false
section
namespace Go.Proofs.YtennhpoemdaghaaGreatDoor.P
open Go Go.RowKit Go.Proofs.YtennhpoemdaghaaGreatDoorW.PrintWords Go.Proofs.YtennhpoemdaghaaGreatDoorW.PrintLast Go.Proofs.YtennhpoemdaghaaGreatDoorW.PrintMore
def predO (b y : Req) : Option Bool:=if y.f0.toList == b.f0.toList then (cmpP y b).bind fun c => some (decide (c > 0)) else some false
set_option maxRecDepth 100000 in
set_option maxHeartbeats 4000000 in
theorem out1_calls (y b : Req) (vn : Value) (g2 : Nat) (p : Bool) (w0 w : World) (hb0 : Below w0.heap.size w0 w) (hE : Env w0) (hb2 : w.heap[g2]? = some (.cells #[.string b.f0,.int .i64 b.f1.f0,.int .i64 b.f1.f1,.int .i64 b.f1.f2,.string b.f1.f3,.string b.f1.f4,vn] 91 (0,0))) (hp : predO b y = some p) :
  Calls Tryz.prog 93 #[.agg #[.string y.f0,.int .i64 y.f1.f0,.int .i64 y.f1.f1,.int .i64 y.f1.f2,.string y.f1.f3,.string y.f1.f4],.pointer (some ⟨g2,0,none⟩)] w fun e w' => e = .returned (.bool p) ∧ Below w.heap.size w w':=by
 have BK:=Aside0.mk hb2
 have HB:=Aside0.mk hb0
 have HE:=Aside0.mk hE
 have HD:=Aside0.mk (Below.refl w.heap.size w)
 clear hb2 hb0 hE
 unfold predO at hp
 cases he : (y.f0.toList == b.f0.toList) with
 | false =>
  rw [he] at hp
  obtain rfl:=Option.some.inj hp
  go_enter Tryz.func93,Tryz.ntmps93
  go_wp2_with (first | ((with_reducible refine gate_dst (N:=2) rfl ?_);refine bx_ 2 41 #[.string y.f0,.int .i64 y.f1.f0,.int .i64 y.f1.f1,.int .i64 y.f1.f2,.string y.f1.f3,.string y.f1.f4] ?_;intro g3 hg_ w3 hbox hb_;clear hg_;replace BK:=Aside0.mk (blk_below BK.out hb_);replace HB:=Aside0.mk (below_then HB.out HB.out.size hb_);replace HD:=Aside0.mk (below_then HD.out HD.out.size hb_);have B3:=Aside0.mk hbox;clear hbox hb_;have hz0 : w3.cell? ⟨g2,0,none⟩ = some _:=(blk_cell BK.out 0).trans rfl;have hz1 : w3.cell? ⟨g2,1,none⟩ = some _:=(blk_cell BK.out 1).trans rfl;have hz2 : w3.cell? ⟨g2,2,none⟩ = some _:=(blk_cell BK.out 2).trans rfl;have hz3 : w3.cell? ⟨g2,3,none⟩ = some _:=(blk_cell BK.out 3).trans rfl;have hz4 : w3.cell? ⟨g2,4,none⟩ = some _:=(blk_cell BK.out 4).trans rfl;have hz5 : w3.cell? ⟨g2,5,none⟩ = some _:=(blk_cell BK.out 5).trans rfl;have hz6 : w3.cell? ⟨g2,6,none⟩ = some _:=(blk_cell BK.out 6).trans rfl;have hy0 : w3.cell? ⟨g3,0,none⟩ = some _:=(blk_cell B3.out 0).trans rfl;have hy1 : w3.cell? ⟨g3,1,none⟩ = some _:=(blk_cell B3.out 1).trans rfl;have hy2 : w3.cell? ⟨g3,2,none⟩ = some _:=(blk_cell B3.out 2).trans rfl;have hy3 : w3.cell? ⟨g3,3,none⟩ = some _:=(blk_cell B3.out 3).trans rfl;have hy4 : w3.cell? ⟨g3,4,none⟩ = some _:=(blk_cell B3.out 4).trans rfl;have hy5 : w3.cell? ⟨g3,5,none⟩ = some _:=(blk_cell B3.out 5).trans rfl))
  go_ret
  exact ⟨rfl,HD.out⟩
 | true =>
  rw [he] at hp
  obtain ⟨c,hc,hp⟩:=Option.bind_eq_some_iff.mp hp
  replace hc : ver_Compare.f fuelR y.f1.f0 y.f1.f1 y.f1.f2 y.f1.f3 y.f1.f4 b.f1.f0 b.f1.f1 b.f1.f2 b.f1.f3 b.f1.f4 = some c:=hc
  obtain rfl:=Option.some.inj hp
  go_enter Tryz.func93,Tryz.ntmps93
  go_wp2_with (first | ((with_reducible refine gate_dst (N:=2) rfl ?_);refine bx_ 2 41 #[.string y.f0,.int .i64 y.f1.f0,.int .i64 y.f1.f1,.int .i64 y.f1.f2,.string y.f1.f3,.string y.f1.f4] ?_;intro g3 hg_ w3 hbox hb_;clear hg_;replace BK:=Aside0.mk (blk_below BK.out hb_);replace HB:=Aside0.mk (below_then HB.out HB.out.size hb_);replace HD:=Aside0.mk (below_then HD.out HD.out.size hb_);have B3:=Aside0.mk hbox;clear hbox hb_;have hz0 : w3.cell? ⟨g2,0,none⟩ = some _:=(blk_cell BK.out 0).trans rfl;have hz1 : w3.cell? ⟨g2,1,none⟩ = some _:=(blk_cell BK.out 1).trans rfl;have hz2 : w3.cell? ⟨g2,2,none⟩ = some _:=(blk_cell BK.out 2).trans rfl;have hz3 : w3.cell? ⟨g2,3,none⟩ = some _:=(blk_cell BK.out 3).trans rfl;have hz4 : w3.cell? ⟨g2,4,none⟩ = some _:=(blk_cell BK.out 4).trans rfl;have hz5 : w3.cell? ⟨g2,5,none⟩ = some _:=(blk_cell BK.out 5).trans rfl;have hz6 : w3.cell? ⟨g2,6,none⟩ = some _:=(blk_cell BK.out 6).trans rfl;have hy0 : w3.cell? ⟨g3,0,none⟩ = some _:=(blk_cell B3.out 0).trans rfl;have hy1 : w3.cell? ⟨g3,1,none⟩ = some _:=(blk_cell B3.out 1).trans rfl;have hy2 : w3.cell? ⟨g3,2,none⟩ = some _:=(blk_cell B3.out 2).trans rfl;have hy3 : w3.cell? ⟨g3,3,none⟩ = some _:=(blk_cell B3.out 3).trans rfl;have hy4 : w3.cell? ⟨g3,4,none⟩ = some _:=(blk_cell B3.out 4).trans rfl;have hy5 : w3.cell? ⟨g3,5,none⟩ = some _:=(blk_cell B3.out 5).trans rfl) | (go_at_call 44;(with_reducible refine (ver_Compare.calls fuelR y.f1.f0 y.f1.f1 y.f1.f2 y.f1.f3 y.f1.f4 b.f1.f0 b.f1.f1 b.f1.f2 b.f1.f3 b.f1.f4 c _ hc ?sideG).mono ?_);(case sideG => exact Env.below HE.out HB.out);rintro e w6 ⟨rfl,hb6⟩;replace HD:=Aside0.mk (below_then HD.out HD.out.size hb6);clear hb6))
  go_ret
  exact ⟨rfl,HD.out⟩
theorem idxP_any {α : Type} (pred : α → Bool) : ∀ (l : List α) (i : Nat),decide (0 ≤ idxP pred l i) = l.any pred
 | [],_ => rfl
 | x :: xs,i => by
  rw [idxP,List.any_cons]
  cases h : pred x
  ·simpa using idxP_any pred xs (i + 1)
  ·simp
set_option maxRecDepth 100000 in
set_option maxHeartbeats 4000000 in
theorem containsOut (A : Option Addr) (c : Nat) (l : List Req) (g2 : Nat) (b : Req) (vn : Value) (w0 w : World) (hb0 : Below w0.heap.size w0 w) (hE : Env w0) (hb2 : w.heap[g2]? = some (.cells #[.string b.f0,.int .i64 b.f1.f0,.int .i64 b.f1.f1,.int .i64 b.f1.f2,.string b.f1.f3,.string b.f1.f4,vn] 91 (0,0)))
  (hr : Kd.C k41 w A l.length l) (hc : l.length ≤ c) (hall : l.all (fun y => (predO b y).isSome) = true) :
  Calls Tryz.prog 92 #[.slice A l.length c,.func (.func 93) #[] #[.pointer (some ⟨g2,0,none⟩)]] w fun e w' => e = .returned (.bool (l.any fun y => (predO b y).getD false)) ∧ Below w.heap.size w w':=by
 have hcon:=indexOut A c l g2 (fun y => (predO b y).getD false) w hr hc (fun y W hy hbW => by
  have hs:=List.all_eq_true.1 hall y hy
  obtain ⟨p,hp⟩:=Option.isSome_iff_exists.1 hs
  rw [hp]
  exact out1_calls y b vn g2 p w0 W (below_then hb0 hb0.size hbW) hE (blk_below hb2 hbW) hp)
 have hany:=idxP_any (fun y => (predO b y).getD false) l 0
 generalize idxP (fun y => (predO b y).getD false) l 0 = ix at hcon hany
 rw [← hany]
 clear hr hall hany hb2 hb0 hE
 go_enter Tryz.func92,Tryz.ntmps92
 go_wp2_with (go_at_call 60;(with_reducible refine hcon.mono ?_);rintro e w1 ⟨rfl,hb1⟩)
 go_ret
 exact ⟨rfl,hb1⟩
def outP (b : Req) (nodes : List Node) (x : Req) : Option Bool:=(mvs_List.f [x] nodes).bind fun L => if L.all (fun y => (predO b y).isSome) then some (L.any fun y => (predO b y).getD false) else none
set_option maxRecDepth 100000 in
set_option maxHeartbeats 4000000 in
theorem out_calls (b x : Req) (A1 : Option Addr) (c1 : Nat) (nodes : List Node) (r : Bool) (w : World) (hn : Kd.C k70 w A1 nodes.length nodes) (hc : nodes.length ≤ c1) (h : outP b nodes x = some r) (hG : Env w) :
  Calls Tryz.prog 62 #[.agg #[.string b.f0,.int .i64 b.f1.f0,.int .i64 b.f1.f1,.int .i64 b.f1.f2,.string b.f1.f3,.string b.f1.f4,.slice A1 nodes.length c1],.agg #[.string x.f0,.int .i64 x.f1.f0,.int .i64 x.f1.f1,.int .i64 x.f1.f2,.string x.f1.f3,.string x.f1.f4]] w fun e w' => e = .returned (.bool r) ∧ Below w.heap.size w w':=by
 obtain ⟨L,hL,h⟩:=Option.bind_eq_some_iff.mp h
 split at h
 case isFalse => exact absurd h q44_
 case isTrue hall =>
 obtain rfl:=Option.some.inj h
 have HN:=Aside0.mk hn
 have HC:=Aside0.mk hc
 have HE:=Aside0.mk hG
 clear hn hc hG h
 generalize hres : (L.any fun y => (predO b y).getD false) = res
 go_enter Tryz.func62,Tryz.ntmps62
 go_wp2_with (first | ((with_reducible refine gate_dst (N:=2) rfl ?_);refine bx_ 2 91 #[.string b.f0,.int .i64 b.f1.f0,.int .i64 b.f1.f1,.int .i64 b.f1.f2,.string b.f1.f3,.string b.f1.f4,.slice A1 nodes.length c1] ?_;intro g2 hg_ w2 hbox hb_;clear hg_;have HB:=Aside0.mk hb_;have B2:=Aside0.mk hbox;clear hbox hb_) | ((with_reducible refine gate_dst (N:=3) rfl ?_);refine bx_ 3 41 #[.string x.f0,.int .i64 x.f1.f0,.int .i64 x.f1.f1,.int .i64 x.f1.f2,.string x.f1.f3,.string x.f1.f4] ?_;intro g3 hg_ w3 hbox hb_;clear hg_;replace B2:=Aside0.mk (blk_below B2.out hb_);replace HB:=Aside0.mk (below_then HB.out HB.out.size hb_);have B3:=Aside0.mk hbox;clear hbox hb_;have hz0 : w3.cell? ⟨g2,0,none⟩ = some _:=(blk_cell B2.out 0).trans rfl;have hz1 : w3.cell? ⟨g2,1,none⟩ = some _:=(blk_cell B2.out 1).trans rfl;have hz2 : w3.cell? ⟨g2,2,none⟩ = some _:=(blk_cell B2.out 2).trans rfl;have hz3 : w3.cell? ⟨g2,3,none⟩ = some _:=(blk_cell B2.out 3).trans rfl;have hz4 : w3.cell? ⟨g2,4,none⟩ = some _:=(blk_cell B2.out 4).trans rfl;have hz5 : w3.cell? ⟨g2,5,none⟩ = some _:=(blk_cell B2.out 5).trans rfl;have hz6 : w3.cell? ⟨g2,6,none⟩ = some _:=(blk_cell B2.out 6).trans rfl;have hy0 : w3.cell? ⟨g3,0,none⟩ = some _:=(blk_cell B3.out 0).trans rfl;have hy1 : w3.cell? ⟨g3,1,none⟩ = some _:=(blk_cell B3.out 1).trans rfl;have hy2 : w3.cell? ⟨g3,2,none⟩ = some _:=(blk_cell B3.out 2).trans rfl;have hy3 : w3.cell? ⟨g3,3,none⟩ = some _:=(blk_cell B3.out 3).trans rfl;have hy4 : w3.cell? ⟨g3,4,none⟩ = some _:=(blk_cell B3.out 4).trans rfl;have hy5 : w3.cell? ⟨g3,5,none⟩ = some _:=(blk_cell B3.out 5).trans rfl) | ((with_reducible refine gate_dst (N:=6) rfl ?_);refine Kd.R_lit k41 _ 41 ?hg (N:=6) ?hd (xs:=[x]) (inner:=[.string x.f0,.int .i64 x.f1.f0,.int .i64 x.f1.f1,.int .i64 x.f1.f2,.string x.f1.f3,.string x.f1.f4]) (ok:=fun _ => True) (okp:=fun _ => True) ?hr ?hp (fun _ hk => hk) trivial (Below.refl _ _) (Nat.le_refl _) q44_ ?_;(case hd => rfl);(case hg => rfl);(case hr => first | (go_simp;done) | (go_simp;rfl));(case hp => exact (Reps.c6 (show Kd.M k41 _ _ _ x [.string x.f0,.int .i64 x.f1.f0,.int .i64 x.f1.f1,.int .i64 x.f1.f2,.string x.f1.f3,.string x.f1.f4] from (k41_mkM _ _ _ x)) (Reps.none _ _)));intro v6 w6 ho6 hb6 hg6_ hnew6;clear hg6_ hnew6;replace B2:=Aside0.mk (blk_below B2.out hb6);replace HB:=Aside0.mk (below_then HB.out HB.out.size hb6);clear B3 hb6;obtain ⟨A6,c6,rfl⟩:=Kd.R_slice ho6;have HO6:=Aside0.mk ho6;clear ho6;have hu0 : w6.cell? ⟨g2,0,none⟩ = some _:=(blk_cell B2.out 0).trans rfl;have hu1 : w6.cell? ⟨g2,1,none⟩ = some _:=(blk_cell B2.out 1).trans rfl;have hu2 : w6.cell? ⟨g2,2,none⟩ = some _:=(blk_cell B2.out 2).trans rfl;have hu3 : w6.cell? ⟨g2,3,none⟩ = some _:=(blk_cell B2.out 3).trans rfl;have hu4 : w6.cell? ⟨g2,4,none⟩ = some _:=(blk_cell B2.out 4).trans rfl;have hu5 : w6.cell? ⟨g2,5,none⟩ = some _:=(blk_cell B2.out 5).trans rfl;have hu6 : w6.cell? ⟨g2,6,none⟩ = some _:=(blk_cell B2.out 6).trans rfl) | (go_at_call 27;(refine (mvs_List.calls A6 c6 [x] A1 c1 nodes L _ (Kd.R_reads' HO6.out).2.2 (Kd.R_reads' HO6.out).2.1 (Kd.C_below HN.out HB.out) HC.out hL (Env.below HE.out HB.out)).mono ?_);rintro e w7 ⟨v7,rfl,hR7,hb7⟩;obtain ⟨A7,c7,rfl⟩:=Kd.R_slice hR7;replace B2:=Aside0.mk (blk_below B2.out hb7);replace HB:=Aside0.mk (below_then HB.out HB.out.size hb7);clear HO6 hb7;have HO7:=Aside0.mk hR7;clear hR7) | (go_at_call 92;(with_reducible refine (containsOut A7 c7 L g2 b (.slice A1 nodes.length c1) w _ HB.out HE.out B2.out (Kd.R_reads' HO7.out).2.2 (Kd.R_reads' HO7.out).2.1 hall).mono ?_);rintro e w8 ⟨rfl,hb8⟩;replace HB:=Aside0.mk (below_then HB.out HB.out.size hb8);clear hb8))
 go_ret
 exact ⟨(by rw [← hres];rfl),HB.out⟩
def mvs_bound_out.f (a0_0 : ByteArray) (a0_1 : Int) (a0_2 : Int) (a0_3 : Int) (a0_4 : ByteArray) (a0_5 : ByteArray) (l0_6 : List Node) (a1_0 : ByteArray) (a1_1 : Int) (a1_2 : Int) (a1_3 : Int) (a1_4 : ByteArray) (a1_5 : ByteArray) : Option Bool:=outP ⟨a0_0,a0_1,a0_2,a0_3,a0_4,a0_5⟩ l0_6 ⟨a1_0,a1_1,a1_2,a1_3,a1_4,a1_5⟩
theorem mvs_bound_out.calls (a0_0 : ByteArray) (a0_1 : Int) (a0_2 : Int) (a0_3 : Int) (a0_4 : ByteArray) (a0_5 : ByteArray) (A0_6 : Option Addr) (c0_6 : Nat) (l0_6 : List Node) (a1_0 : ByteArray) (a1_1 : Int) (a1_2 : Int) (a1_3 : Int) (a1_4 : ByteArray) (a1_5 : ByteArray) (r : Bool) (w : World) (hr0_6 : Kd.C k70 w A0_6 l0_6.length l0_6) (hc0_6 : l0_6.length ≤ c0_6) (h : mvs_bound_out.f a0_0 a0_1 a0_2 a0_3 a0_4 a0_5 l0_6 a1_0 a1_1 a1_2 a1_3 a1_4 a1_5 = some r) (hG : Env w) :
  Calls Tryz.prog 62 #[.agg #[.string a0_0,.int .i64 a0_1,.int .i64 a0_2,.int .i64 a0_3,.string a0_4,.string a0_5,.slice A0_6 l0_6.length c0_6],.agg #[.string a1_0,.int .i64 a1_1,.int .i64 a1_2,.int .i64 a1_3,.string a1_4,.string a1_5]] w fun e w' => e = .returned (.bool r) ∧ Below w.heap.size w w' :=
 out_calls ⟨a0_0,a0_1,a0_2,a0_3,a0_4,a0_5⟩ ⟨a1_0,a1_1,a1_2,a1_3,a1_4,a1_5⟩ A0_6 c0_6 l0_6 r w hr0_6 hc0_6 h hG
end Go.Proofs.YtennhpoemdaghaaGreatDoor.P
end
section
namespace Go.Proofs.YtennhpoemdaghaaGreatDoor.P
open Go Go.RowKit Go.Proofs.YtennhpoemdaghaaGreatDoorW.PrintWords Go.Proofs.YtennhpoemdaghaaGreatDoorW.PrintLast Go.Proofs.YtennhpoemdaghaaGreatDoorW.PrintMore
attribute [local go_sem] run_makeMap
def condP (b : Req) (nodes : List Node) (x y : Req) : Option Bool :=
 if y.f0.toList == x.f0.toList then (mayP y).bind fun m => if m then (cmpP y x).bind fun c => if c < 0 then (outP b nodes y).bind fun o => some (!o) else some false else some false else some false
def lowP (b : Req) (nodes : List Node) (x : Req) : List Req → List Node → Option (List Req)
 | L,[] => some L
 | L,n :: ns => (condP b nodes x n.f0).bind fun c => if c then (takeP L n.f0).bind fun L' => lowP b nodes x L' ns else lowP b nodes x L ns
def lowerP (b : Req) (nodes : List Node) (x : Req) : Option (Req × Bool) :=
 if x.f0.size ≤ 4294967280 ∧ nodes.length ≤ 1000000 then (lowP b nodes x [] nodes).bind fun L => some (match L.find? (sameP x.f0) with | none => (zR,false) | some y => (y,true)) else none
set_option maxRecDepth 100000 in
set_option maxHeartbeats 8000000 in
theorem lower_calls (b x : Req) (A1 : Option Addr) (c1 : Nat) (nodes : List Node) (r : Req) (is : Bool) (w : World) (hn : Kd.C k70 w A1 nodes.length nodes) (hc : nodes.length ≤ c1) (h : lowerP b nodes x = some (r,is)) (hG : Env w) :
  Calls Tryz.prog 63 #[.agg #[.string b.f0,.int .i64 b.f1.f0,.int .i64 b.f1.f1,.int .i64 b.f1.f2,.string b.f1.f3,.string b.f1.f4,.slice A1 nodes.length c1],.agg #[.string x.f0,.int .i64 x.f1.f0,.int .i64 x.f1.f1,.int .i64 x.f1.f2,.string x.f1.f3,.string x.f1.f4]] w fun e w' => e = .returned (.tuple #[.agg #[.string r.f0,.int .i64 r.f1.f0,.int .i64 r.f1.f1,.int .i64 r.f1.f2,.string r.f1.f3,.string r.f1.f4],.bool is]) ∧ Below w.heap.size w w':=by
 unfold lowerP at h
 split at h
 case isFalse => exact absurd h q44_
 case isTrue hsz =>
 obtain ⟨hsx,hsn⟩:=hsz
 obtain ⟨Lf,hLf,h⟩:=Option.bind_eq_some_iff.mp h
 have HRES:=Aside0.mk (Option.some.inj h)
 have HN:=Aside0.mk hn
 have HC:=Aside0.mk hc
 have HE:=Aside0.mk hG
 have HB:=Aside0.mk (Below.refl w.heap.size w)
 clear hn hc hG h
 go_enter Tryz.func63,Tryz.ntmps63
 go_wp2_with (first | ((with_reducible refine gate_dst (N:=2) rfl ?_);refine bx_ 2 91 #[.string b.f0,.int .i64 b.f1.f0,.int .i64 b.f1.f1,.int .i64 b.f1.f2,.string b.f1.f3,.string b.f1.f4,.slice A1 nodes.length c1] ?_;intro gB2 hg_ w2 hbox hb_;replace HB:=Aside0.mk (below_then HB.out HB.out.size hb_);have B2:=Aside0.mk hbox;clear hbox hb_ hg_) | ((with_reducible refine gate_dst (N:=3) rfl ?_);refine bx_ 3 41 #[.string x.f0,.int .i64 x.f1.f0,.int .i64 x.f1.f1,.int .i64 x.f1.f2,.string x.f1.f3,.string x.f1.f4] ?_;intro gB3 hg_ w3 hbox hb_;replace HB:=Aside0.mk (below_then HB.out HB.out.size hb_);replace B2:=Aside0.mk (blk_below B2.out hb_);have B3:=Aside0.mk hbox;clear hbox hb_ hg_) | ((with_reducible refine gate_dst (N:=4) rfl ?_);refine bx_ 4 41 #[.string (⟨#[]⟩ : ByteArray),.int .i64 0,.int .i64 0,.int .i64 0,.string (⟨#[]⟩ : ByteArray),.string (⟨#[]⟩ : ByteArray)] ?_;intro gB4 hg_ w4 hbox hb_;have GEB4:=Aside0.mk (q39_ : w.heap.size ≤ gB4);have NB2B4:=Aside0.mk (q25_ : gB2 ≠ gB4);have NB3B4:=Aside0.mk (q24_ : gB3 ≠ gB4);replace HB:=Aside0.mk (below_then HB.out HB.out.size hb_);replace B2:=Aside0.mk (blk_below B2.out hb_);replace B3:=Aside0.mk (blk_below B3.out hb_);have B4:=Aside0.mk hbox;clear hbox hb_ hg_) | ((with_reducible refine gate_dst (N:=6) rfl ?_);refine bx_ 6 80 #[.map none] ?_;intro gB6 hg_ w6 hbox hb1_;have hb_:=below_then (below_alloc (Below.refl _ w4) _) q44_ hb1_;have HM:=Aside0.mk (OwnB.below ⟨_,World.ownsMap_made w4 Tryz.prog 9 reqR,BestD.nil⟩ hb1_);have GE6:=Aside0.mk ((by rw [hg_];have h_:=HB.out.size;simp;omega) : w.heap.size ≤ gB6);have NMB6:=Aside0.mk ((by rw [hg_];simp) : w4.heap.size ≠ gB6);have NB26:=Aside0.mk ((by rw [hg_];have h_:=blk_lt B2.out;simp;omega) : gB2 ≠ gB6);have NB36:=Aside0.mk ((by rw [hg_];have h_:=blk_lt B3.out;simp;omega) : gB3 ≠ gB6);have NB46:=Aside0.mk ((by rw [hg_];have h_:=blk_lt B4.out;simp;omega) : gB4 ≠ gB6);have MB:=Aside0.mk HB.out.size;have M2:=Aside0.mk (Nat.ne_of_lt (blk_lt B2.out));have M3:=Aside0.mk (Nat.ne_of_lt (blk_lt B3.out));have M4:=Aside0.mk (Nat.ne_of_lt (blk_lt B4.out));clear hb1_;replace HB:=Aside0.mk (below_then HB.out HB.out.size hb_);replace B2:=Aside0.mk (blk_below B2.out hb_);replace B3:=Aside0.mk (blk_below B3.out hb_);replace B4:=Aside0.mk (blk_below B4.out hb_);have B6:=Aside0.mk hbox;clear hbox hb_ hg_) | ((with_reducible refine gate_ (.store 80 (.tmp 6) (.tmp 13)) rfl ?_);refine store_event 80 (.tmp 6) (.tmp 13) rfl rfl rfl 0 80 _ #[.map (some w4.heap.size)] _ [.map (some w4.heap.size)] rfl rfl rfl q10_ q26_ B6.out (Nat.le_refl 1) q46_ ?_;intro w61 hn_ hg_;replace HB:=Aside0.mk (below_grown HB.out hg_ GE6.out HB.out.size);replace HM:=Aside0.mk (HM.out.kept hg_ (fun he => NMB6.out (Option.some.inj he)));replace B2:=Aside0.mk (blk_grown B2.out hg_ (fun he => NB26.out (Option.some.inj he)));replace B3:=Aside0.mk (blk_grown B3.out hg_ (fun he => NB36.out (Option.some.inj he)));replace B4:=Aside0.mk (blk_grown B4.out hg_ (fun he => NB46.out (Option.some.inj he)));replace B6:=Aside0.mk hn_;clear hg_ hn_;have hB25_0 : w61.cell? ⟨gB2,0,none⟩ = some _:=(blk_cell B2.out 0).trans rfl;have hB25_1 : w61.cell? ⟨gB2,1,none⟩ = some _:=(blk_cell B2.out 1).trans rfl;have hB25_2 : w61.cell? ⟨gB2,2,none⟩ = some _:=(blk_cell B2.out 2).trans rfl;have hB25_3 : w61.cell? ⟨gB2,3,none⟩ = some _:=(blk_cell B2.out 3).trans rfl;have hB25_4 : w61.cell? ⟨gB2,4,none⟩ = some _:=(blk_cell B2.out 4).trans rfl;have hB25_5 : w61.cell? ⟨gB2,5,none⟩ = some _:=(blk_cell B2.out 5).trans rfl;have hB25_6 : w61.cell? ⟨gB2,6,none⟩ = some _:=(blk_cell B2.out 6).trans rfl;have hB65_0 : w61.cell? ⟨gB6,0,none⟩ = some _:=(blk_cell B6.out 0).trans rfl))
 try go_frame
 generalize hbm : w4.heap.size = bm at HM NMB6 MB M2 M3 M4 B6 ⊢
 clear hbm
 go_loopw [17] (fun v17 wr => ∃ (i : Nat) (L1 : List Req),v17 = .int .i64 i ∧ i ≤ nodes.length ∧ Aside0 (lowP b nodes x L1 (nodes.drop i) = some Lf) ∧ Aside0 (OwnB wr bm i L1) ∧ Aside0 (wr.heap[gB2]? = some (.cells #[.string b.f0,.int .i64 b.f1.f0,.int .i64 b.f1.f1,.int .i64 b.f1.f2,.string b.f1.f3,.string b.f1.f4,.slice A1 nodes.length c1] 91 (0,0))) ∧ Aside0 (wr.heap[gB3]? = some (.cells #[.string x.f0,.int .i64 x.f1.f0,.int .i64 x.f1.f1,.int .i64 x.f1.f2,.string x.f1.f3,.string x.f1.f4] 41 (0,0))) ∧ Aside0 (wr.heap[gB4]? = some (.cells #[.string (⟨#[]⟩ : ByteArray),.int .i64 0,.int .i64 0,.int .i64 0,.string (⟨#[]⟩ : ByteArray),.string (⟨#[]⟩ : ByteArray)] 41 (0,0))) ∧ Aside0 (wr.heap[gB6]? = some (.cells #[.map (some bm)] 80 (0,0))) ∧ Aside0 (Below w.heap.size w wr)) (fun v17 _ => nodes.length - (intOf v17).toNat)
 case atStart => exact ⟨0,[],rfl,Nat.zero_le _,⟨hLf⟩,HM,B2,B3,B4,B6,HB⟩
 case round =>
  clear HM B2 B3 B4 B6 HB
  obtain ⟨i,L1,rfl,hi,HH,HM,B2,B3,B4,B6,HB⟩:=hrel
  have H:=HH.out
  clear HH
  by_cases h : i < nodes.length
  ·have hg : ((i : Int) < (nodes.length : Int)) = True:=eq_true q8_
   have hp : (0 ≤ (i : Int)) = True:=eq_true q8_
   have hw : wrap64 ((i : Int) + 1) = (i : Int) + 1:=by unfold wrap64;omega
   have hni : i < maxLen:=by unfold maxLen;omega
   obtain ⟨ad,A6,c6,e1,hx0,hx1,hx2,hx3,hx4,hx5,hx6,hl6,hC6⟩:=at_T70 (Kd.C_below HN.out HB.out) (i : Int) q8_ q8_
   cases e1
   simp only [Int.toNat_natCast] at hx0 hx1 hx2 hx3 hx4 hx5 hx6
   have hd : nodes.drop i = rd_T70 nodes (i : Int) :: nodes.drop (i + 1):=by rw [List.drop_eq_getElem_cons h];simp [rd_T70,h]
   rw [hd,lowP] at H
   obtain ⟨y,hy⟩ : ∃ y,(rd_T70 nodes (i : Int)).f0 = y:=⟨_,rfl⟩
   obtain ⟨n1,hn1⟩ : ∃ n1,(rd_T70 nodes (i : Int)).f1 = n1:=⟨_,rfl⟩
   rw [hy] at hx0 hx1 hx2 hx3 hx4 hx5 H
   rw [hn1] at hx6
   clear hl6 hC6 hd
   obtain ⟨cb,hcb,H⟩:=Option.bind_eq_some_iff.mp H
   unfold condP at hcb
   cases hpath : (y.f0.toList == x.f0.toList) with
   | false =>
    rw [hpath] at hcb
    obtain rfl:=Option.some.inj hcb
    replace H : lowP b nodes x L1 (nodes.drop (i + 1)) = some Lf:=H
    go_wp2_with (first | ((with_reducible refine gate_dst (N:=8) rfl ?_);refine bx_ 8 70 #[.string (⟨#[]⟩ : ByteArray),.int .i64 0,.int .i64 0,.int .i64 0,.string (⟨#[]⟩ : ByteArray),.string (⟨#[]⟩ : ByteArray),.slice none 0 0] ?_;intro gB8 hg_ w8 hbox hb_;have GEB8:=Aside0.mk (q39_ : w.heap.size ≤ gB8);have NMB8:=Aside0.mk (q27_ : bm ≠ gB8);have NB2B8:=Aside0.mk (q25_ : gB2 ≠ gB8);have NB3B8:=Aside0.mk (q24_ : gB3 ≠ gB8);have NB4B8:=Aside0.mk (q32_ : gB4 ≠ gB8);have NB6B8:=Aside0.mk (q37_ : gB6 ≠ gB8);replace HB:=Aside0.mk (below_then HB.out HB.out.size hb_);replace HM:=Aside0.mk (HM.out.below hb_);replace B2:=Aside0.mk (blk_below B2.out hb_);replace B3:=Aside0.mk (blk_below B3.out hb_);replace B4:=Aside0.mk (blk_below B4.out hb_);replace B6:=Aside0.mk (blk_below B6.out hb_);have B8:=Aside0.mk hbox;clear hbox hb_ hg_) | ((with_reducible refine gate_ (.store 70 (.tmp 8) (.tmp 20)) rfl ?_);refine store_event 70 (.tmp 8) (.tmp 20) rfl rfl rfl 0 70 _ #[.string y.f0,.int .i64 y.f1.f0,.int .i64 y.f1.f1,.int .i64 y.f1.f2,.string y.f1.f3,.string y.f1.f4,.slice A6 n1.length c6] _ [.string y.f0,.int .i64 y.f1.f0,.int .i64 y.f1.f1,.int .i64 y.f1.f2,.string y.f1.f3,.string y.f1.f4,.slice A6 n1.length c6] rfl rfl rfl q10_ q26_ B8.out (Nat.le_refl 7) q46_ ?_;intro w81 hn_ hg_;replace HB:=Aside0.mk (below_grown HB.out hg_ GEB8.out HB.out.size);replace HM:=Aside0.mk (HM.out.kept hg_ (fun he => NMB8.out (Option.some.inj he)));replace B2:=Aside0.mk (blk_grown B2.out hg_ (fun he => NB2B8.out (Option.some.inj he)));replace B3:=Aside0.mk (blk_grown B3.out hg_ (fun he => NB3B8.out (Option.some.inj he)));replace B4:=Aside0.mk (blk_grown B4.out hg_ (fun he => NB4B8.out (Option.some.inj he)));replace B6:=Aside0.mk (blk_grown B6.out hg_ (fun he => NB6B8.out (Option.some.inj he)));replace B8:=Aside0.mk hn_;clear hg_ hn_;have hB82_0 : w81.cell? ⟨gB8,0,none⟩ = some _:=(blk_cell B8.out 0).trans rfl;have hB82_1 : w81.cell? ⟨gB8,1,none⟩ = some _:=(blk_cell B8.out 1).trans rfl;have hB82_2 : w81.cell? ⟨gB8,2,none⟩ = some _:=(blk_cell B8.out 2).trans rfl;have hB82_3 : w81.cell? ⟨gB8,3,none⟩ = some _:=(blk_cell B8.out 3).trans rfl;have hB82_4 : w81.cell? ⟨gB8,4,none⟩ = some _:=(blk_cell B8.out 4).trans rfl;have hB82_5 : w81.cell? ⟨gB8,5,none⟩ = some _:=(blk_cell B8.out 5).trans rfl;have hB82_6 : w81.cell? ⟨gB8,6,none⟩ = some _:=(blk_cell B8.out 6).trans rfl) | ((with_reducible refine gate_dst (N:=9) rfl ?_);refine bx_ 9 41 #[.string (⟨#[]⟩ : ByteArray),.int .i64 0,.int .i64 0,.int .i64 0,.string (⟨#[]⟩ : ByteArray),.string (⟨#[]⟩ : ByteArray)] ?_;intro gB9 hg_ w9 hbox hb_;have GEB9:=Aside0.mk (q39_ : w.heap.size ≤ gB9);have NMB9:=Aside0.mk (q27_ : bm ≠ gB9);have NB2B9:=Aside0.mk (q25_ : gB2 ≠ gB9);have NB3B9:=Aside0.mk (q24_ : gB3 ≠ gB9);have NB4B9:=Aside0.mk (q32_ : gB4 ≠ gB9);have NB6B9:=Aside0.mk (q37_ : gB6 ≠ gB9);have NB8B9:=Aside0.mk (q51_ : gB8 ≠ gB9);replace HB:=Aside0.mk (below_then HB.out HB.out.size hb_);replace HM:=Aside0.mk (HM.out.below hb_);replace B2:=Aside0.mk (blk_below B2.out hb_);replace B3:=Aside0.mk (blk_below B3.out hb_);replace B4:=Aside0.mk (blk_below B4.out hb_);replace B6:=Aside0.mk (blk_below B6.out hb_);replace B8:=Aside0.mk (blk_below B8.out hb_);have B9:=Aside0.mk hbox;clear hbox hb_ hg_) | ((with_reducible refine gate_ (.store 41 (.tmp 9) (.tmp 22)) rfl ?_);refine store_event 41 (.tmp 9) (.tmp 22) rfl rfl rfl 0 41 _ #[.string y.f0,.int .i64 y.f1.f0,.int .i64 y.f1.f1,.int .i64 y.f1.f2,.string y.f1.f3,.string y.f1.f4] _ [.string y.f0,.int .i64 y.f1.f0,.int .i64 y.f1.f1,.int .i64 y.f1.f2,.string y.f1.f3,.string y.f1.f4] rfl rfl rfl q10_ q26_ B9.out (Nat.le_refl 6) q46_ ?_;intro w91 hn_ hg_;replace HB:=Aside0.mk (below_grown HB.out hg_ GEB9.out HB.out.size);replace HM:=Aside0.mk (HM.out.kept hg_ (fun he => NMB9.out (Option.some.inj he)));replace B2:=Aside0.mk (blk_grown B2.out hg_ (fun he => NB2B9.out (Option.some.inj he)));replace B3:=Aside0.mk (blk_grown B3.out hg_ (fun he => NB3B9.out (Option.some.inj he)));replace B4:=Aside0.mk (blk_grown B4.out hg_ (fun he => NB4B9.out (Option.some.inj he)));replace B6:=Aside0.mk (blk_grown B6.out hg_ (fun he => NB6B9.out (Option.some.inj he)));replace B8:=Aside0.mk (blk_grown B8.out hg_ (fun he => NB8B9.out (Option.some.inj he)));replace B9:=Aside0.mk hn_;clear hg_ hn_;have hB24_0 : w91.cell? ⟨gB2,0,none⟩ = some _:=(blk_cell B2.out 0).trans rfl;have hB24_1 : w91.cell? ⟨gB2,1,none⟩ = some _:=(blk_cell B2.out 1).trans rfl;have hB24_2 : w91.cell? ⟨gB2,2,none⟩ = some _:=(blk_cell B2.out 2).trans rfl;have hB24_3 : w91.cell? ⟨gB2,3,none⟩ = some _:=(blk_cell B2.out 3).trans rfl;have hB24_4 : w91.cell? ⟨gB2,4,none⟩ = some _:=(blk_cell B2.out 4).trans rfl;have hB24_5 : w91.cell? ⟨gB2,5,none⟩ = some _:=(blk_cell B2.out 5).trans rfl;have hB24_6 : w91.cell? ⟨gB2,6,none⟩ = some _:=(blk_cell B2.out 6).trans rfl;have hB34_0 : w91.cell? ⟨gB3,0,none⟩ = some _:=(blk_cell B3.out 0).trans rfl;have hB34_1 : w91.cell? ⟨gB3,1,none⟩ = some _:=(blk_cell B3.out 1).trans rfl;have hB34_2 : w91.cell? ⟨gB3,2,none⟩ = some _:=(blk_cell B3.out 2).trans rfl;have hB34_3 : w91.cell? ⟨gB3,3,none⟩ = some _:=(blk_cell B3.out 3).trans rfl;have hB34_4 : w91.cell? ⟨gB3,4,none⟩ = some _:=(blk_cell B3.out 4).trans rfl;have hB34_5 : w91.cell? ⟨gB3,5,none⟩ = some _:=(blk_cell B3.out 5).trans rfl;have hB64_0 : w91.cell? ⟨gB6,0,none⟩ = some _:=(blk_cell B6.out 0).trans rfl;have hB94_0 : w91.cell? ⟨gB9,0,none⟩ = some _:=(blk_cell B9.out 0).trans rfl;have hB94_1 : w91.cell? ⟨gB9,1,none⟩ = some _:=(blk_cell B9.out 1).trans rfl;have hB94_2 : w91.cell? ⟨gB9,2,none⟩ = some _:=(blk_cell B9.out 2).trans rfl;have hB94_3 : w91.cell? ⟨gB9,3,none⟩ = some _:=(blk_cell B9.out 3).trans rfl;have hB94_4 : w91.cell? ⟨gB9,4,none⟩ = some _:=(blk_cell B9.out 4).trans rfl;have hB94_5 : w91.cell? ⟨gB9,5,none⟩ = some _:=(blk_cell B9.out 5).trans rfl))
    refine ⟨⟨i + 1,L1,by simp [hw],h,⟨H⟩,⟨HM.out.mono (Nat.le_succ _)⟩,B2,B3,B4,B6,HB⟩,?_⟩
    simp only [intOf,hw]
    omega
   | true =>
    rw [hpath,if_pos rfl] at hcb
    obtain ⟨m,hmay,hcb⟩:=Option.bind_eq_some_iff.mp hcb
    replace hmay : mvs_may.f fuelR y.f0 y.f1.f0 y.f1.f1 y.f1.f2 y.f1.f3 y.f1.f4 = some m:=hmay
    cases m with
    | false =>
     obtain rfl:=Option.some.inj hcb
     replace H : lowP b nodes x L1 (nodes.drop (i + 1)) = some Lf:=H
     go_wp2_with (first | ((with_reducible refine gate_dst (N:=8) rfl ?_);refine bx_ 8 70 #[.string (⟨#[]⟩ : ByteArray),.int .i64 0,.int .i64 0,.int .i64 0,.string (⟨#[]⟩ : ByteArray),.string (⟨#[]⟩ : ByteArray),.slice none 0 0] ?_;intro gB8 hg_ w8 hbox hb_;have GEB8:=Aside0.mk (q39_ : w.heap.size ≤ gB8);have NMB8:=Aside0.mk (q27_ : bm ≠ gB8);have NB2B8:=Aside0.mk (q25_ : gB2 ≠ gB8);have NB3B8:=Aside0.mk (q24_ : gB3 ≠ gB8);have NB4B8:=Aside0.mk (q32_ : gB4 ≠ gB8);have NB6B8:=Aside0.mk (q37_ : gB6 ≠ gB8);replace HB:=Aside0.mk (below_then HB.out HB.out.size hb_);replace HM:=Aside0.mk (HM.out.below hb_);replace B2:=Aside0.mk (blk_below B2.out hb_);replace B3:=Aside0.mk (blk_below B3.out hb_);replace B4:=Aside0.mk (blk_below B4.out hb_);replace B6:=Aside0.mk (blk_below B6.out hb_);have B8:=Aside0.mk hbox;clear hbox hb_ hg_) | ((with_reducible refine gate_ (.store 70 (.tmp 8) (.tmp 20)) rfl ?_);refine store_event 70 (.tmp 8) (.tmp 20) rfl rfl rfl 0 70 _ #[.string y.f0,.int .i64 y.f1.f0,.int .i64 y.f1.f1,.int .i64 y.f1.f2,.string y.f1.f3,.string y.f1.f4,.slice A6 n1.length c6] _ [.string y.f0,.int .i64 y.f1.f0,.int .i64 y.f1.f1,.int .i64 y.f1.f2,.string y.f1.f3,.string y.f1.f4,.slice A6 n1.length c6] rfl rfl rfl q10_ q26_ B8.out (Nat.le_refl 7) q46_ ?_;intro w81 hn_ hg_;replace HB:=Aside0.mk (below_grown HB.out hg_ GEB8.out HB.out.size);replace HM:=Aside0.mk (HM.out.kept hg_ (fun he => NMB8.out (Option.some.inj he)));replace B2:=Aside0.mk (blk_grown B2.out hg_ (fun he => NB2B8.out (Option.some.inj he)));replace B3:=Aside0.mk (blk_grown B3.out hg_ (fun he => NB3B8.out (Option.some.inj he)));replace B4:=Aside0.mk (blk_grown B4.out hg_ (fun he => NB4B8.out (Option.some.inj he)));replace B6:=Aside0.mk (blk_grown B6.out hg_ (fun he => NB6B8.out (Option.some.inj he)));replace B8:=Aside0.mk hn_;clear hg_ hn_;have hB82_0 : w81.cell? ⟨gB8,0,none⟩ = some _:=(blk_cell B8.out 0).trans rfl;have hB82_1 : w81.cell? ⟨gB8,1,none⟩ = some _:=(blk_cell B8.out 1).trans rfl;have hB82_2 : w81.cell? ⟨gB8,2,none⟩ = some _:=(blk_cell B8.out 2).trans rfl;have hB82_3 : w81.cell? ⟨gB8,3,none⟩ = some _:=(blk_cell B8.out 3).trans rfl;have hB82_4 : w81.cell? ⟨gB8,4,none⟩ = some _:=(blk_cell B8.out 4).trans rfl;have hB82_5 : w81.cell? ⟨gB8,5,none⟩ = some _:=(blk_cell B8.out 5).trans rfl;have hB82_6 : w81.cell? ⟨gB8,6,none⟩ = some _:=(blk_cell B8.out 6).trans rfl) | ((with_reducible refine gate_dst (N:=9) rfl ?_);refine bx_ 9 41 #[.string (⟨#[]⟩ : ByteArray),.int .i64 0,.int .i64 0,.int .i64 0,.string (⟨#[]⟩ : ByteArray),.string (⟨#[]⟩ : ByteArray)] ?_;intro gB9 hg_ w9 hbox hb_;have GEB9:=Aside0.mk (q39_ : w.heap.size ≤ gB9);have NMB9:=Aside0.mk (q27_ : bm ≠ gB9);have NB2B9:=Aside0.mk (q25_ : gB2 ≠ gB9);have NB3B9:=Aside0.mk (q24_ : gB3 ≠ gB9);have NB4B9:=Aside0.mk (q32_ : gB4 ≠ gB9);have NB6B9:=Aside0.mk (q37_ : gB6 ≠ gB9);have NB8B9:=Aside0.mk (q51_ : gB8 ≠ gB9);replace HB:=Aside0.mk (below_then HB.out HB.out.size hb_);replace HM:=Aside0.mk (HM.out.below hb_);replace B2:=Aside0.mk (blk_below B2.out hb_);replace B3:=Aside0.mk (blk_below B3.out hb_);replace B4:=Aside0.mk (blk_below B4.out hb_);replace B6:=Aside0.mk (blk_below B6.out hb_);replace B8:=Aside0.mk (blk_below B8.out hb_);have B9:=Aside0.mk hbox;clear hbox hb_ hg_) | ((with_reducible refine gate_ (.store 41 (.tmp 9) (.tmp 22)) rfl ?_);refine store_event 41 (.tmp 9) (.tmp 22) rfl rfl rfl 0 41 _ #[.string y.f0,.int .i64 y.f1.f0,.int .i64 y.f1.f1,.int .i64 y.f1.f2,.string y.f1.f3,.string y.f1.f4] _ [.string y.f0,.int .i64 y.f1.f0,.int .i64 y.f1.f1,.int .i64 y.f1.f2,.string y.f1.f3,.string y.f1.f4] rfl rfl rfl q10_ q26_ B9.out (Nat.le_refl 6) q46_ ?_;intro w91 hn_ hg_;replace HB:=Aside0.mk (below_grown HB.out hg_ GEB9.out HB.out.size);replace HM:=Aside0.mk (HM.out.kept hg_ (fun he => NMB9.out (Option.some.inj he)));replace B2:=Aside0.mk (blk_grown B2.out hg_ (fun he => NB2B9.out (Option.some.inj he)));replace B3:=Aside0.mk (blk_grown B3.out hg_ (fun he => NB3B9.out (Option.some.inj he)));replace B4:=Aside0.mk (blk_grown B4.out hg_ (fun he => NB4B9.out (Option.some.inj he)));replace B6:=Aside0.mk (blk_grown B6.out hg_ (fun he => NB6B9.out (Option.some.inj he)));replace B8:=Aside0.mk (blk_grown B8.out hg_ (fun he => NB8B9.out (Option.some.inj he)));replace B9:=Aside0.mk hn_;clear hg_ hn_;have hB24_0 : w91.cell? ⟨gB2,0,none⟩ = some _:=(blk_cell B2.out 0).trans rfl;have hB24_1 : w91.cell? ⟨gB2,1,none⟩ = some _:=(blk_cell B2.out 1).trans rfl;have hB24_2 : w91.cell? ⟨gB2,2,none⟩ = some _:=(blk_cell B2.out 2).trans rfl;have hB24_3 : w91.cell? ⟨gB2,3,none⟩ = some _:=(blk_cell B2.out 3).trans rfl;have hB24_4 : w91.cell? ⟨gB2,4,none⟩ = some _:=(blk_cell B2.out 4).trans rfl;have hB24_5 : w91.cell? ⟨gB2,5,none⟩ = some _:=(blk_cell B2.out 5).trans rfl;have hB24_6 : w91.cell? ⟨gB2,6,none⟩ = some _:=(blk_cell B2.out 6).trans rfl;have hB34_0 : w91.cell? ⟨gB3,0,none⟩ = some _:=(blk_cell B3.out 0).trans rfl;have hB34_1 : w91.cell? ⟨gB3,1,none⟩ = some _:=(blk_cell B3.out 1).trans rfl;have hB34_2 : w91.cell? ⟨gB3,2,none⟩ = some _:=(blk_cell B3.out 2).trans rfl;have hB34_3 : w91.cell? ⟨gB3,3,none⟩ = some _:=(blk_cell B3.out 3).trans rfl;have hB34_4 : w91.cell? ⟨gB3,4,none⟩ = some _:=(blk_cell B3.out 4).trans rfl;have hB34_5 : w91.cell? ⟨gB3,5,none⟩ = some _:=(blk_cell B3.out 5).trans rfl;have hB64_0 : w91.cell? ⟨gB6,0,none⟩ = some _:=(blk_cell B6.out 0).trans rfl;have hB94_0 : w91.cell? ⟨gB9,0,none⟩ = some _:=(blk_cell B9.out 0).trans rfl;have hB94_1 : w91.cell? ⟨gB9,1,none⟩ = some _:=(blk_cell B9.out 1).trans rfl;have hB94_2 : w91.cell? ⟨gB9,2,none⟩ = some _:=(blk_cell B9.out 2).trans rfl;have hB94_3 : w91.cell? ⟨gB9,3,none⟩ = some _:=(blk_cell B9.out 3).trans rfl;have hB94_4 : w91.cell? ⟨gB9,4,none⟩ = some _:=(blk_cell B9.out 4).trans rfl;have hB94_5 : w91.cell? ⟨gB9,5,none⟩ = some _:=(blk_cell B9.out 5).trans rfl) | (go_at_call 59;(with_reducible refine (mvs_may.calls fuelR y.f0 y.f1.f0 y.f1.f1 y.f1.f2 y.f1.f3 y.f1.f4 false _ hmay ?sideG).mono ?_);(case sideG => exact Env.below HE.out HB.out);rintro e wm ⟨rfl,hb_⟩;replace HB:=Aside0.mk (below_then HB.out HB.out.size hb_);replace HM:=Aside0.mk (HM.out.below hb_);replace B2:=Aside0.mk (blk_below B2.out hb_);replace B3:=Aside0.mk (blk_below B3.out hb_);replace B4:=Aside0.mk (blk_below B4.out hb_);replace B6:=Aside0.mk (blk_below B6.out hb_);replace B8:=Aside0.mk (blk_below B8.out hb_);replace B9:=Aside0.mk (blk_below B9.out hb_);clear hb_;have hB25_0 : wm.cell? ⟨gB2,0,none⟩ = some _:=(blk_cell B2.out 0).trans rfl;have hB25_1 : wm.cell? ⟨gB2,1,none⟩ = some _:=(blk_cell B2.out 1).trans rfl;have hB25_2 : wm.cell? ⟨gB2,2,none⟩ = some _:=(blk_cell B2.out 2).trans rfl;have hB25_3 : wm.cell? ⟨gB2,3,none⟩ = some _:=(blk_cell B2.out 3).trans rfl;have hB25_4 : wm.cell? ⟨gB2,4,none⟩ = some _:=(blk_cell B2.out 4).trans rfl;have hB25_5 : wm.cell? ⟨gB2,5,none⟩ = some _:=(blk_cell B2.out 5).trans rfl;have hB25_6 : wm.cell? ⟨gB2,6,none⟩ = some _:=(blk_cell B2.out 6).trans rfl;have hB35_0 : wm.cell? ⟨gB3,0,none⟩ = some _:=(blk_cell B3.out 0).trans rfl;have hB35_1 : wm.cell? ⟨gB3,1,none⟩ = some _:=(blk_cell B3.out 1).trans rfl;have hB35_2 : wm.cell? ⟨gB3,2,none⟩ = some _:=(blk_cell B3.out 2).trans rfl;have hB35_3 : wm.cell? ⟨gB3,3,none⟩ = some _:=(blk_cell B3.out 3).trans rfl;have hB35_4 : wm.cell? ⟨gB3,4,none⟩ = some _:=(blk_cell B3.out 4).trans rfl;have hB35_5 : wm.cell? ⟨gB3,5,none⟩ = some _:=(blk_cell B3.out 5).trans rfl;have hB65_0 : wm.cell? ⟨gB6,0,none⟩ = some _:=(blk_cell B6.out 0).trans rfl;have hB95_0 : wm.cell? ⟨gB9,0,none⟩ = some _:=(blk_cell B9.out 0).trans rfl;have hB95_1 : wm.cell? ⟨gB9,1,none⟩ = some _:=(blk_cell B9.out 1).trans rfl;have hB95_2 : wm.cell? ⟨gB9,2,none⟩ = some _:=(blk_cell B9.out 2).trans rfl;have hB95_3 : wm.cell? ⟨gB9,3,none⟩ = some _:=(blk_cell B9.out 3).trans rfl;have hB95_4 : wm.cell? ⟨gB9,4,none⟩ = some _:=(blk_cell B9.out 4).trans rfl;have hB95_5 : wm.cell? ⟨gB9,5,none⟩ = some _:=(blk_cell B9.out 5).trans rfl))
     refine ⟨⟨i + 1,L1,by simp [hw],h,⟨H⟩,⟨HM.out.mono (Nat.le_succ _)⟩,B2,B3,B4,B6,HB⟩,?_⟩
     simp only [intOf,hw]
     omega
    | true =>
     rw [if_pos rfl] at hcb
     obtain ⟨c,hcmp,hcb⟩:=Option.bind_eq_some_iff.mp hcb
     replace hcmp : ver_Compare.f fuelR y.f1.f0 y.f1.f1 y.f1.f2 y.f1.f3 y.f1.f4 x.f1.f0 x.f1.f1 x.f1.f2 x.f1.f3 x.f1.f4 = some c:=hcmp
     by_cases hc0 : c < 0
     ·have hcc : (c < 0) = True:=eq_true hc0
      rw [if_pos hc0] at hcb
      obtain ⟨o,hout,hcb⟩:=Option.bind_eq_some_iff.mp hcb
      cases o with
      | true =>
       obtain rfl:=Option.some.inj hcb
       replace H : lowP b nodes x L1 (nodes.drop (i + 1)) = some Lf:=H
       go_wp2_with (first | ((with_reducible refine gate_dst (N:=8) rfl ?_);refine bx_ 8 70 #[.string (⟨#[]⟩ : ByteArray),.int .i64 0,.int .i64 0,.int .i64 0,.string (⟨#[]⟩ : ByteArray),.string (⟨#[]⟩ : ByteArray),.slice none 0 0] ?_;intro gB8 hg_ w8 hbox hb_;have GEB8:=Aside0.mk (q39_ : w.heap.size ≤ gB8);have NMB8:=Aside0.mk (q27_ : bm ≠ gB8);have NB2B8:=Aside0.mk (q25_ : gB2 ≠ gB8);have NB3B8:=Aside0.mk (q24_ : gB3 ≠ gB8);have NB4B8:=Aside0.mk (q32_ : gB4 ≠ gB8);have NB6B8:=Aside0.mk (q37_ : gB6 ≠ gB8);replace HB:=Aside0.mk (below_then HB.out HB.out.size hb_);replace HM:=Aside0.mk (HM.out.below hb_);replace B2:=Aside0.mk (blk_below B2.out hb_);replace B3:=Aside0.mk (blk_below B3.out hb_);replace B4:=Aside0.mk (blk_below B4.out hb_);replace B6:=Aside0.mk (blk_below B6.out hb_);have B8:=Aside0.mk hbox;clear hbox hb_ hg_) | ((with_reducible refine gate_ (.store 70 (.tmp 8) (.tmp 20)) rfl ?_);refine store_event 70 (.tmp 8) (.tmp 20) rfl rfl rfl 0 70 _ #[.string y.f0,.int .i64 y.f1.f0,.int .i64 y.f1.f1,.int .i64 y.f1.f2,.string y.f1.f3,.string y.f1.f4,.slice A6 n1.length c6] _ [.string y.f0,.int .i64 y.f1.f0,.int .i64 y.f1.f1,.int .i64 y.f1.f2,.string y.f1.f3,.string y.f1.f4,.slice A6 n1.length c6] rfl rfl rfl q10_ q26_ B8.out (Nat.le_refl 7) q46_ ?_;intro w81 hn_ hg_;replace HB:=Aside0.mk (below_grown HB.out hg_ GEB8.out HB.out.size);replace HM:=Aside0.mk (HM.out.kept hg_ (fun he => NMB8.out (Option.some.inj he)));replace B2:=Aside0.mk (blk_grown B2.out hg_ (fun he => NB2B8.out (Option.some.inj he)));replace B3:=Aside0.mk (blk_grown B3.out hg_ (fun he => NB3B8.out (Option.some.inj he)));replace B4:=Aside0.mk (blk_grown B4.out hg_ (fun he => NB4B8.out (Option.some.inj he)));replace B6:=Aside0.mk (blk_grown B6.out hg_ (fun he => NB6B8.out (Option.some.inj he)));replace B8:=Aside0.mk hn_;clear hg_ hn_;have hB82_0 : w81.cell? ⟨gB8,0,none⟩ = some _:=(blk_cell B8.out 0).trans rfl;have hB82_1 : w81.cell? ⟨gB8,1,none⟩ = some _:=(blk_cell B8.out 1).trans rfl;have hB82_2 : w81.cell? ⟨gB8,2,none⟩ = some _:=(blk_cell B8.out 2).trans rfl;have hB82_3 : w81.cell? ⟨gB8,3,none⟩ = some _:=(blk_cell B8.out 3).trans rfl;have hB82_4 : w81.cell? ⟨gB8,4,none⟩ = some _:=(blk_cell B8.out 4).trans rfl;have hB82_5 : w81.cell? ⟨gB8,5,none⟩ = some _:=(blk_cell B8.out 5).trans rfl;have hB82_6 : w81.cell? ⟨gB8,6,none⟩ = some _:=(blk_cell B8.out 6).trans rfl) | ((with_reducible refine gate_dst (N:=9) rfl ?_);refine bx_ 9 41 #[.string (⟨#[]⟩ : ByteArray),.int .i64 0,.int .i64 0,.int .i64 0,.string (⟨#[]⟩ : ByteArray),.string (⟨#[]⟩ : ByteArray)] ?_;intro gB9 hg_ w9 hbox hb_;have GEB9:=Aside0.mk (q39_ : w.heap.size ≤ gB9);have NMB9:=Aside0.mk (q27_ : bm ≠ gB9);have NB2B9:=Aside0.mk (q25_ : gB2 ≠ gB9);have NB3B9:=Aside0.mk (q24_ : gB3 ≠ gB9);have NB4B9:=Aside0.mk (q32_ : gB4 ≠ gB9);have NB6B9:=Aside0.mk (q37_ : gB6 ≠ gB9);have NB8B9:=Aside0.mk (q51_ : gB8 ≠ gB9);replace HB:=Aside0.mk (below_then HB.out HB.out.size hb_);replace HM:=Aside0.mk (HM.out.below hb_);replace B2:=Aside0.mk (blk_below B2.out hb_);replace B3:=Aside0.mk (blk_below B3.out hb_);replace B4:=Aside0.mk (blk_below B4.out hb_);replace B6:=Aside0.mk (blk_below B6.out hb_);replace B8:=Aside0.mk (blk_below B8.out hb_);have B9:=Aside0.mk hbox;clear hbox hb_ hg_) | ((with_reducible refine gate_ (.store 41 (.tmp 9) (.tmp 22)) rfl ?_);refine store_event 41 (.tmp 9) (.tmp 22) rfl rfl rfl 0 41 _ #[.string y.f0,.int .i64 y.f1.f0,.int .i64 y.f1.f1,.int .i64 y.f1.f2,.string y.f1.f3,.string y.f1.f4] _ [.string y.f0,.int .i64 y.f1.f0,.int .i64 y.f1.f1,.int .i64 y.f1.f2,.string y.f1.f3,.string y.f1.f4] rfl rfl rfl q10_ q26_ B9.out (Nat.le_refl 6) q46_ ?_;intro w91 hn_ hg_;replace HB:=Aside0.mk (below_grown HB.out hg_ GEB9.out HB.out.size);replace HM:=Aside0.mk (HM.out.kept hg_ (fun he => NMB9.out (Option.some.inj he)));replace B2:=Aside0.mk (blk_grown B2.out hg_ (fun he => NB2B9.out (Option.some.inj he)));replace B3:=Aside0.mk (blk_grown B3.out hg_ (fun he => NB3B9.out (Option.some.inj he)));replace B4:=Aside0.mk (blk_grown B4.out hg_ (fun he => NB4B9.out (Option.some.inj he)));replace B6:=Aside0.mk (blk_grown B6.out hg_ (fun he => NB6B9.out (Option.some.inj he)));replace B8:=Aside0.mk (blk_grown B8.out hg_ (fun he => NB8B9.out (Option.some.inj he)));replace B9:=Aside0.mk hn_;clear hg_ hn_;have hB24_0 : w91.cell? ⟨gB2,0,none⟩ = some _:=(blk_cell B2.out 0).trans rfl;have hB24_1 : w91.cell? ⟨gB2,1,none⟩ = some _:=(blk_cell B2.out 1).trans rfl;have hB24_2 : w91.cell? ⟨gB2,2,none⟩ = some _:=(blk_cell B2.out 2).trans rfl;have hB24_3 : w91.cell? ⟨gB2,3,none⟩ = some _:=(blk_cell B2.out 3).trans rfl;have hB24_4 : w91.cell? ⟨gB2,4,none⟩ = some _:=(blk_cell B2.out 4).trans rfl;have hB24_5 : w91.cell? ⟨gB2,5,none⟩ = some _:=(blk_cell B2.out 5).trans rfl;have hB24_6 : w91.cell? ⟨gB2,6,none⟩ = some _:=(blk_cell B2.out 6).trans rfl;have hB34_0 : w91.cell? ⟨gB3,0,none⟩ = some _:=(blk_cell B3.out 0).trans rfl;have hB34_1 : w91.cell? ⟨gB3,1,none⟩ = some _:=(blk_cell B3.out 1).trans rfl;have hB34_2 : w91.cell? ⟨gB3,2,none⟩ = some _:=(blk_cell B3.out 2).trans rfl;have hB34_3 : w91.cell? ⟨gB3,3,none⟩ = some _:=(blk_cell B3.out 3).trans rfl;have hB34_4 : w91.cell? ⟨gB3,4,none⟩ = some _:=(blk_cell B3.out 4).trans rfl;have hB34_5 : w91.cell? ⟨gB3,5,none⟩ = some _:=(blk_cell B3.out 5).trans rfl;have hB64_0 : w91.cell? ⟨gB6,0,none⟩ = some _:=(blk_cell B6.out 0).trans rfl;have hB94_0 : w91.cell? ⟨gB9,0,none⟩ = some _:=(blk_cell B9.out 0).trans rfl;have hB94_1 : w91.cell? ⟨gB9,1,none⟩ = some _:=(blk_cell B9.out 1).trans rfl;have hB94_2 : w91.cell? ⟨gB9,2,none⟩ = some _:=(blk_cell B9.out 2).trans rfl;have hB94_3 : w91.cell? ⟨gB9,3,none⟩ = some _:=(blk_cell B9.out 3).trans rfl;have hB94_4 : w91.cell? ⟨gB9,4,none⟩ = some _:=(blk_cell B9.out 4).trans rfl;have hB94_5 : w91.cell? ⟨gB9,5,none⟩ = some _:=(blk_cell B9.out 5).trans rfl) | (go_at_call 59;(with_reducible refine (mvs_may.calls fuelR y.f0 y.f1.f0 y.f1.f1 y.f1.f2 y.f1.f3 y.f1.f4 true _ hmay ?sideG).mono ?_);(case sideG => exact Env.below HE.out HB.out);rintro e wm ⟨rfl,hb_⟩;replace HB:=Aside0.mk (below_then HB.out HB.out.size hb_);replace HM:=Aside0.mk (HM.out.below hb_);replace B2:=Aside0.mk (blk_below B2.out hb_);replace B3:=Aside0.mk (blk_below B3.out hb_);replace B4:=Aside0.mk (blk_below B4.out hb_);replace B6:=Aside0.mk (blk_below B6.out hb_);replace B8:=Aside0.mk (blk_below B8.out hb_);replace B9:=Aside0.mk (blk_below B9.out hb_);clear hb_;have hB25_0 : wm.cell? ⟨gB2,0,none⟩ = some _:=(blk_cell B2.out 0).trans rfl;have hB25_1 : wm.cell? ⟨gB2,1,none⟩ = some _:=(blk_cell B2.out 1).trans rfl;have hB25_2 : wm.cell? ⟨gB2,2,none⟩ = some _:=(blk_cell B2.out 2).trans rfl;have hB25_3 : wm.cell? ⟨gB2,3,none⟩ = some _:=(blk_cell B2.out 3).trans rfl;have hB25_4 : wm.cell? ⟨gB2,4,none⟩ = some _:=(blk_cell B2.out 4).trans rfl;have hB25_5 : wm.cell? ⟨gB2,5,none⟩ = some _:=(blk_cell B2.out 5).trans rfl;have hB25_6 : wm.cell? ⟨gB2,6,none⟩ = some _:=(blk_cell B2.out 6).trans rfl;have hB35_0 : wm.cell? ⟨gB3,0,none⟩ = some _:=(blk_cell B3.out 0).trans rfl;have hB35_1 : wm.cell? ⟨gB3,1,none⟩ = some _:=(blk_cell B3.out 1).trans rfl;have hB35_2 : wm.cell? ⟨gB3,2,none⟩ = some _:=(blk_cell B3.out 2).trans rfl;have hB35_3 : wm.cell? ⟨gB3,3,none⟩ = some _:=(blk_cell B3.out 3).trans rfl;have hB35_4 : wm.cell? ⟨gB3,4,none⟩ = some _:=(blk_cell B3.out 4).trans rfl;have hB35_5 : wm.cell? ⟨gB3,5,none⟩ = some _:=(blk_cell B3.out 5).trans rfl;have hB65_0 : wm.cell? ⟨gB6,0,none⟩ = some _:=(blk_cell B6.out 0).trans rfl;have hB95_0 : wm.cell? ⟨gB9,0,none⟩ = some _:=(blk_cell B9.out 0).trans rfl;have hB95_1 : wm.cell? ⟨gB9,1,none⟩ = some _:=(blk_cell B9.out 1).trans rfl;have hB95_2 : wm.cell? ⟨gB9,2,none⟩ = some _:=(blk_cell B9.out 2).trans rfl;have hB95_3 : wm.cell? ⟨gB9,3,none⟩ = some _:=(blk_cell B9.out 3).trans rfl;have hB95_4 : wm.cell? ⟨gB9,4,none⟩ = some _:=(blk_cell B9.out 4).trans rfl;have hB95_5 : wm.cell? ⟨gB9,5,none⟩ = some _:=(blk_cell B9.out 5).trans rfl) | (go_at_call 44;(with_reducible refine (ver_Compare.calls fuelR y.f1.f0 y.f1.f1 y.f1.f2 y.f1.f3 y.f1.f4 x.f1.f0 x.f1.f1 x.f1.f2 x.f1.f3 x.f1.f4 c _ hcmp ?sideG).mono ?_);(case sideG => exact Env.below HE.out HB.out);rintro e wk ⟨rfl,hb_⟩;replace HB:=Aside0.mk (below_then HB.out HB.out.size hb_);replace HM:=Aside0.mk (HM.out.below hb_);replace B2:=Aside0.mk (blk_below B2.out hb_);replace B3:=Aside0.mk (blk_below B3.out hb_);replace B4:=Aside0.mk (blk_below B4.out hb_);replace B6:=Aside0.mk (blk_below B6.out hb_);replace B8:=Aside0.mk (blk_below B8.out hb_);replace B9:=Aside0.mk (blk_below B9.out hb_);clear hb_;have hB26_0 : wk.cell? ⟨gB2,0,none⟩ = some _:=(blk_cell B2.out 0).trans rfl;have hB26_1 : wk.cell? ⟨gB2,1,none⟩ = some _:=(blk_cell B2.out 1).trans rfl;have hB26_2 : wk.cell? ⟨gB2,2,none⟩ = some _:=(blk_cell B2.out 2).trans rfl;have hB26_3 : wk.cell? ⟨gB2,3,none⟩ = some _:=(blk_cell B2.out 3).trans rfl;have hB26_4 : wk.cell? ⟨gB2,4,none⟩ = some _:=(blk_cell B2.out 4).trans rfl;have hB26_5 : wk.cell? ⟨gB2,5,none⟩ = some _:=(blk_cell B2.out 5).trans rfl;have hB26_6 : wk.cell? ⟨gB2,6,none⟩ = some _:=(blk_cell B2.out 6).trans rfl;have hB66_0 : wk.cell? ⟨gB6,0,none⟩ = some _:=(blk_cell B6.out 0).trans rfl;have hB96_0 : wk.cell? ⟨gB9,0,none⟩ = some _:=(blk_cell B9.out 0).trans rfl;have hB96_1 : wk.cell? ⟨gB9,1,none⟩ = some _:=(blk_cell B9.out 1).trans rfl;have hB96_2 : wk.cell? ⟨gB9,2,none⟩ = some _:=(blk_cell B9.out 2).trans rfl;have hB96_3 : wk.cell? ⟨gB9,3,none⟩ = some _:=(blk_cell B9.out 3).trans rfl;have hB96_4 : wk.cell? ⟨gB9,4,none⟩ = some _:=(blk_cell B9.out 4).trans rfl;have hB96_5 : wk.cell? ⟨gB9,5,none⟩ = some _:=(blk_cell B9.out 5).trans rfl) | (go_at_call 62;(with_reducible refine (out_calls b y (some ad) c1 nodes true _ (Kd.C_below HN.out HB.out) HC.out hout (Env.below HE.out HB.out)).mono ?_);rintro e wo ⟨rfl,hb_⟩;replace HB:=Aside0.mk (below_then HB.out HB.out.size hb_);replace HM:=Aside0.mk (HM.out.below hb_);replace B2:=Aside0.mk (blk_below B2.out hb_);replace B3:=Aside0.mk (blk_below B3.out hb_);replace B4:=Aside0.mk (blk_below B4.out hb_);replace B6:=Aside0.mk (blk_below B6.out hb_);replace B8:=Aside0.mk (blk_below B8.out hb_);replace B9:=Aside0.mk (blk_below B9.out hb_);clear hb_;have hB67_0 : wo.cell? ⟨gB6,0,none⟩ = some _:=(blk_cell B6.out 0).trans rfl;have hB97_0 : wo.cell? ⟨gB9,0,none⟩ = some _:=(blk_cell B9.out 0).trans rfl;have hB97_1 : wo.cell? ⟨gB9,1,none⟩ = some _:=(blk_cell B9.out 1).trans rfl;have hB97_2 : wo.cell? ⟨gB9,2,none⟩ = some _:=(blk_cell B9.out 2).trans rfl;have hB97_3 : wo.cell? ⟨gB9,3,none⟩ = some _:=(blk_cell B9.out 3).trans rfl;have hB97_4 : wo.cell? ⟨gB9,4,none⟩ = some _:=(blk_cell B9.out 4).trans rfl;have hB97_5 : wo.cell? ⟨gB9,5,none⟩ = some _:=(blk_cell B9.out 5).trans rfl))
       refine ⟨⟨i + 1,L1,by simp [hw],h,⟨H⟩,⟨HM.out.mono (Nat.le_succ _)⟩,B2,B3,B4,B6,HB⟩,?_⟩
       simp only [intOf,hw]
       omega
      | false =>
       obtain rfl:=Option.some.inj hcb
       rw [Bool.not_false,if_pos rfl] at H
       obtain ⟨L2,ht,H⟩:=Option.bind_eq_some_iff.mp H
       go_wp2_with (first | ((with_reducible refine gate_dst (N:=8) rfl ?_);refine bx_ 8 70 #[.string (⟨#[]⟩ : ByteArray),.int .i64 0,.int .i64 0,.int .i64 0,.string (⟨#[]⟩ : ByteArray),.string (⟨#[]⟩ : ByteArray),.slice none 0 0] ?_;intro gB8 hg_ w8 hbox hb_;have GEB8:=Aside0.mk (q39_ : w.heap.size ≤ gB8);have NMB8:=Aside0.mk (q27_ : bm ≠ gB8);have NB2B8:=Aside0.mk (q25_ : gB2 ≠ gB8);have NB3B8:=Aside0.mk (q24_ : gB3 ≠ gB8);have NB4B8:=Aside0.mk (q32_ : gB4 ≠ gB8);have NB6B8:=Aside0.mk (q37_ : gB6 ≠ gB8);replace HB:=Aside0.mk (below_then HB.out HB.out.size hb_);replace HM:=Aside0.mk (HM.out.below hb_);replace B2:=Aside0.mk (blk_below B2.out hb_);replace B3:=Aside0.mk (blk_below B3.out hb_);replace B4:=Aside0.mk (blk_below B4.out hb_);replace B6:=Aside0.mk (blk_below B6.out hb_);have B8:=Aside0.mk hbox;clear hbox hb_ hg_) | ((with_reducible refine gate_ (.store 70 (.tmp 8) (.tmp 20)) rfl ?_);refine store_event 70 (.tmp 8) (.tmp 20) rfl rfl rfl 0 70 _ #[.string y.f0,.int .i64 y.f1.f0,.int .i64 y.f1.f1,.int .i64 y.f1.f2,.string y.f1.f3,.string y.f1.f4,.slice A6 n1.length c6] _ [.string y.f0,.int .i64 y.f1.f0,.int .i64 y.f1.f1,.int .i64 y.f1.f2,.string y.f1.f3,.string y.f1.f4,.slice A6 n1.length c6] rfl rfl rfl q10_ q26_ B8.out (Nat.le_refl 7) q46_ ?_;intro w81 hn_ hg_;replace HB:=Aside0.mk (below_grown HB.out hg_ GEB8.out HB.out.size);replace HM:=Aside0.mk (HM.out.kept hg_ (fun he => NMB8.out (Option.some.inj he)));replace B2:=Aside0.mk (blk_grown B2.out hg_ (fun he => NB2B8.out (Option.some.inj he)));replace B3:=Aside0.mk (blk_grown B3.out hg_ (fun he => NB3B8.out (Option.some.inj he)));replace B4:=Aside0.mk (blk_grown B4.out hg_ (fun he => NB4B8.out (Option.some.inj he)));replace B6:=Aside0.mk (blk_grown B6.out hg_ (fun he => NB6B8.out (Option.some.inj he)));replace B8:=Aside0.mk hn_;clear hg_ hn_;have hB82_0 : w81.cell? ⟨gB8,0,none⟩ = some _:=(blk_cell B8.out 0).trans rfl;have hB82_1 : w81.cell? ⟨gB8,1,none⟩ = some _:=(blk_cell B8.out 1).trans rfl;have hB82_2 : w81.cell? ⟨gB8,2,none⟩ = some _:=(blk_cell B8.out 2).trans rfl;have hB82_3 : w81.cell? ⟨gB8,3,none⟩ = some _:=(blk_cell B8.out 3).trans rfl;have hB82_4 : w81.cell? ⟨gB8,4,none⟩ = some _:=(blk_cell B8.out 4).trans rfl;have hB82_5 : w81.cell? ⟨gB8,5,none⟩ = some _:=(blk_cell B8.out 5).trans rfl;have hB82_6 : w81.cell? ⟨gB8,6,none⟩ = some _:=(blk_cell B8.out 6).trans rfl) | ((with_reducible refine gate_dst (N:=9) rfl ?_);refine bx_ 9 41 #[.string (⟨#[]⟩ : ByteArray),.int .i64 0,.int .i64 0,.int .i64 0,.string (⟨#[]⟩ : ByteArray),.string (⟨#[]⟩ : ByteArray)] ?_;intro gB9 hg_ w9 hbox hb_;have GEB9:=Aside0.mk (q39_ : w.heap.size ≤ gB9);have NMB9:=Aside0.mk (q27_ : bm ≠ gB9);have NB2B9:=Aside0.mk (q25_ : gB2 ≠ gB9);have NB3B9:=Aside0.mk (q24_ : gB3 ≠ gB9);have NB4B9:=Aside0.mk (q32_ : gB4 ≠ gB9);have NB6B9:=Aside0.mk (q37_ : gB6 ≠ gB9);have NB8B9:=Aside0.mk (q51_ : gB8 ≠ gB9);replace HB:=Aside0.mk (below_then HB.out HB.out.size hb_);replace HM:=Aside0.mk (HM.out.below hb_);replace B2:=Aside0.mk (blk_below B2.out hb_);replace B3:=Aside0.mk (blk_below B3.out hb_);replace B4:=Aside0.mk (blk_below B4.out hb_);replace B6:=Aside0.mk (blk_below B6.out hb_);replace B8:=Aside0.mk (blk_below B8.out hb_);have B9:=Aside0.mk hbox;clear hbox hb_ hg_) | ((with_reducible refine gate_ (.store 41 (.tmp 9) (.tmp 22)) rfl ?_);refine store_event 41 (.tmp 9) (.tmp 22) rfl rfl rfl 0 41 _ #[.string y.f0,.int .i64 y.f1.f0,.int .i64 y.f1.f1,.int .i64 y.f1.f2,.string y.f1.f3,.string y.f1.f4] _ [.string y.f0,.int .i64 y.f1.f0,.int .i64 y.f1.f1,.int .i64 y.f1.f2,.string y.f1.f3,.string y.f1.f4] rfl rfl rfl q10_ q26_ B9.out (Nat.le_refl 6) q46_ ?_;intro w91 hn_ hg_;replace HB:=Aside0.mk (below_grown HB.out hg_ GEB9.out HB.out.size);replace HM:=Aside0.mk (HM.out.kept hg_ (fun he => NMB9.out (Option.some.inj he)));replace B2:=Aside0.mk (blk_grown B2.out hg_ (fun he => NB2B9.out (Option.some.inj he)));replace B3:=Aside0.mk (blk_grown B3.out hg_ (fun he => NB3B9.out (Option.some.inj he)));replace B4:=Aside0.mk (blk_grown B4.out hg_ (fun he => NB4B9.out (Option.some.inj he)));replace B6:=Aside0.mk (blk_grown B6.out hg_ (fun he => NB6B9.out (Option.some.inj he)));replace B8:=Aside0.mk (blk_grown B8.out hg_ (fun he => NB8B9.out (Option.some.inj he)));replace B9:=Aside0.mk hn_;clear hg_ hn_;have hB24_0 : w91.cell? ⟨gB2,0,none⟩ = some _:=(blk_cell B2.out 0).trans rfl;have hB24_1 : w91.cell? ⟨gB2,1,none⟩ = some _:=(blk_cell B2.out 1).trans rfl;have hB24_2 : w91.cell? ⟨gB2,2,none⟩ = some _:=(blk_cell B2.out 2).trans rfl;have hB24_3 : w91.cell? ⟨gB2,3,none⟩ = some _:=(blk_cell B2.out 3).trans rfl;have hB24_4 : w91.cell? ⟨gB2,4,none⟩ = some _:=(blk_cell B2.out 4).trans rfl;have hB24_5 : w91.cell? ⟨gB2,5,none⟩ = some _:=(blk_cell B2.out 5).trans rfl;have hB24_6 : w91.cell? ⟨gB2,6,none⟩ = some _:=(blk_cell B2.out 6).trans rfl;have hB34_0 : w91.cell? ⟨gB3,0,none⟩ = some _:=(blk_cell B3.out 0).trans rfl;have hB34_1 : w91.cell? ⟨gB3,1,none⟩ = some _:=(blk_cell B3.out 1).trans rfl;have hB34_2 : w91.cell? ⟨gB3,2,none⟩ = some _:=(blk_cell B3.out 2).trans rfl;have hB34_3 : w91.cell? ⟨gB3,3,none⟩ = some _:=(blk_cell B3.out 3).trans rfl;have hB34_4 : w91.cell? ⟨gB3,4,none⟩ = some _:=(blk_cell B3.out 4).trans rfl;have hB34_5 : w91.cell? ⟨gB3,5,none⟩ = some _:=(blk_cell B3.out 5).trans rfl;have hB64_0 : w91.cell? ⟨gB6,0,none⟩ = some _:=(blk_cell B6.out 0).trans rfl;have hB94_0 : w91.cell? ⟨gB9,0,none⟩ = some _:=(blk_cell B9.out 0).trans rfl;have hB94_1 : w91.cell? ⟨gB9,1,none⟩ = some _:=(blk_cell B9.out 1).trans rfl;have hB94_2 : w91.cell? ⟨gB9,2,none⟩ = some _:=(blk_cell B9.out 2).trans rfl;have hB94_3 : w91.cell? ⟨gB9,3,none⟩ = some _:=(blk_cell B9.out 3).trans rfl;have hB94_4 : w91.cell? ⟨gB9,4,none⟩ = some _:=(blk_cell B9.out 4).trans rfl;have hB94_5 : w91.cell? ⟨gB9,5,none⟩ = some _:=(blk_cell B9.out 5).trans rfl) | (go_at_call 59;(with_reducible refine (mvs_may.calls fuelR y.f0 y.f1.f0 y.f1.f1 y.f1.f2 y.f1.f3 y.f1.f4 true _ hmay ?sideG).mono ?_);(case sideG => exact Env.below HE.out HB.out);rintro e wm ⟨rfl,hb_⟩;replace HB:=Aside0.mk (below_then HB.out HB.out.size hb_);replace HM:=Aside0.mk (HM.out.below hb_);replace B2:=Aside0.mk (blk_below B2.out hb_);replace B3:=Aside0.mk (blk_below B3.out hb_);replace B4:=Aside0.mk (blk_below B4.out hb_);replace B6:=Aside0.mk (blk_below B6.out hb_);replace B8:=Aside0.mk (blk_below B8.out hb_);replace B9:=Aside0.mk (blk_below B9.out hb_);clear hb_;have hB25_0 : wm.cell? ⟨gB2,0,none⟩ = some _:=(blk_cell B2.out 0).trans rfl;have hB25_1 : wm.cell? ⟨gB2,1,none⟩ = some _:=(blk_cell B2.out 1).trans rfl;have hB25_2 : wm.cell? ⟨gB2,2,none⟩ = some _:=(blk_cell B2.out 2).trans rfl;have hB25_3 : wm.cell? ⟨gB2,3,none⟩ = some _:=(blk_cell B2.out 3).trans rfl;have hB25_4 : wm.cell? ⟨gB2,4,none⟩ = some _:=(blk_cell B2.out 4).trans rfl;have hB25_5 : wm.cell? ⟨gB2,5,none⟩ = some _:=(blk_cell B2.out 5).trans rfl;have hB25_6 : wm.cell? ⟨gB2,6,none⟩ = some _:=(blk_cell B2.out 6).trans rfl;have hB35_0 : wm.cell? ⟨gB3,0,none⟩ = some _:=(blk_cell B3.out 0).trans rfl;have hB35_1 : wm.cell? ⟨gB3,1,none⟩ = some _:=(blk_cell B3.out 1).trans rfl;have hB35_2 : wm.cell? ⟨gB3,2,none⟩ = some _:=(blk_cell B3.out 2).trans rfl;have hB35_3 : wm.cell? ⟨gB3,3,none⟩ = some _:=(blk_cell B3.out 3).trans rfl;have hB35_4 : wm.cell? ⟨gB3,4,none⟩ = some _:=(blk_cell B3.out 4).trans rfl;have hB35_5 : wm.cell? ⟨gB3,5,none⟩ = some _:=(blk_cell B3.out 5).trans rfl;have hB65_0 : wm.cell? ⟨gB6,0,none⟩ = some _:=(blk_cell B6.out 0).trans rfl;have hB95_0 : wm.cell? ⟨gB9,0,none⟩ = some _:=(blk_cell B9.out 0).trans rfl;have hB95_1 : wm.cell? ⟨gB9,1,none⟩ = some _:=(blk_cell B9.out 1).trans rfl;have hB95_2 : wm.cell? ⟨gB9,2,none⟩ = some _:=(blk_cell B9.out 2).trans rfl;have hB95_3 : wm.cell? ⟨gB9,3,none⟩ = some _:=(blk_cell B9.out 3).trans rfl;have hB95_4 : wm.cell? ⟨gB9,4,none⟩ = some _:=(blk_cell B9.out 4).trans rfl;have hB95_5 : wm.cell? ⟨gB9,5,none⟩ = some _:=(blk_cell B9.out 5).trans rfl) | (go_at_call 44;(with_reducible refine (ver_Compare.calls fuelR y.f1.f0 y.f1.f1 y.f1.f2 y.f1.f3 y.f1.f4 x.f1.f0 x.f1.f1 x.f1.f2 x.f1.f3 x.f1.f4 c _ hcmp ?sideG).mono ?_);(case sideG => exact Env.below HE.out HB.out);rintro e wk ⟨rfl,hb_⟩;replace HB:=Aside0.mk (below_then HB.out HB.out.size hb_);replace HM:=Aside0.mk (HM.out.below hb_);replace B2:=Aside0.mk (blk_below B2.out hb_);replace B3:=Aside0.mk (blk_below B3.out hb_);replace B4:=Aside0.mk (blk_below B4.out hb_);replace B6:=Aside0.mk (blk_below B6.out hb_);replace B8:=Aside0.mk (blk_below B8.out hb_);replace B9:=Aside0.mk (blk_below B9.out hb_);clear hb_;have hB26_0 : wk.cell? ⟨gB2,0,none⟩ = some _:=(blk_cell B2.out 0).trans rfl;have hB26_1 : wk.cell? ⟨gB2,1,none⟩ = some _:=(blk_cell B2.out 1).trans rfl;have hB26_2 : wk.cell? ⟨gB2,2,none⟩ = some _:=(blk_cell B2.out 2).trans rfl;have hB26_3 : wk.cell? ⟨gB2,3,none⟩ = some _:=(blk_cell B2.out 3).trans rfl;have hB26_4 : wk.cell? ⟨gB2,4,none⟩ = some _:=(blk_cell B2.out 4).trans rfl;have hB26_5 : wk.cell? ⟨gB2,5,none⟩ = some _:=(blk_cell B2.out 5).trans rfl;have hB26_6 : wk.cell? ⟨gB2,6,none⟩ = some _:=(blk_cell B2.out 6).trans rfl;have hB66_0 : wk.cell? ⟨gB6,0,none⟩ = some _:=(blk_cell B6.out 0).trans rfl;have hB96_0 : wk.cell? ⟨gB9,0,none⟩ = some _:=(blk_cell B9.out 0).trans rfl;have hB96_1 : wk.cell? ⟨gB9,1,none⟩ = some _:=(blk_cell B9.out 1).trans rfl;have hB96_2 : wk.cell? ⟨gB9,2,none⟩ = some _:=(blk_cell B9.out 2).trans rfl;have hB96_3 : wk.cell? ⟨gB9,3,none⟩ = some _:=(blk_cell B9.out 3).trans rfl;have hB96_4 : wk.cell? ⟨gB9,4,none⟩ = some _:=(blk_cell B9.out 4).trans rfl;have hB96_5 : wk.cell? ⟨gB9,5,none⟩ = some _:=(blk_cell B9.out 5).trans rfl) | (go_at_call 62;(with_reducible refine (out_calls b y (some ad) c1 nodes false _ (Kd.C_below HN.out HB.out) HC.out hout (Env.below HE.out HB.out)).mono ?_);rintro e wo ⟨rfl,hb_⟩;replace HB:=Aside0.mk (below_then HB.out HB.out.size hb_);replace HM:=Aside0.mk (HM.out.below hb_);replace B2:=Aside0.mk (blk_below B2.out hb_);replace B3:=Aside0.mk (blk_below B3.out hb_);replace B4:=Aside0.mk (blk_below B4.out hb_);replace B6:=Aside0.mk (blk_below B6.out hb_);replace B8:=Aside0.mk (blk_below B8.out hb_);replace B9:=Aside0.mk (blk_below B9.out hb_);clear hb_;have hB67_0 : wo.cell? ⟨gB6,0,none⟩ = some _:=(blk_cell B6.out 0).trans rfl;have hB97_0 : wo.cell? ⟨gB9,0,none⟩ = some _:=(blk_cell B9.out 0).trans rfl;have hB97_1 : wo.cell? ⟨gB9,1,none⟩ = some _:=(blk_cell B9.out 1).trans rfl;have hB97_2 : wo.cell? ⟨gB9,2,none⟩ = some _:=(blk_cell B9.out 2).trans rfl;have hB97_3 : wo.cell? ⟨gB9,3,none⟩ = some _:=(blk_cell B9.out 3).trans rfl;have hB97_4 : wo.cell? ⟨gB9,4,none⟩ = some _:=(blk_cell B9.out 4).trans rfl;have hB97_5 : wo.cell? ⟨gB9,5,none⟩ = some _:=(blk_cell B9.out 5).trans rfl) | (go_at_call 52;(with_reducible refine (take_calls bm i L1 L2 y w _ HB.out MB.out HE.out HM.out hni ht).mono ?_);rintro e wt ⟨rfl,hm_,hb_,hg_⟩;have n1:=Aside0.mk hm_;have n2:=Aside0.mk hb_;have nB2:=Aside0.mk (blk_grown B2.out hg_ (fun he => M2.out (Option.some.inj he)));have nB3:=Aside0.mk (blk_grown B3.out hg_ (fun he => M3.out (Option.some.inj he)));have nB4:=Aside0.mk (blk_grown B4.out hg_ (fun he => M4.out (Option.some.inj he)));have nB6:=Aside0.mk (blk_grown B6.out hg_ (fun he => NMB6.out (Option.some.inj he).symm));clear HM HB B2 B3 B4 B6 B8 B9 hm_ hb_ hg_;have HM:=n1;have HB:=n2;have B2:=nB2;have B3:=nB3;have B4:=nB4;have B6:=nB6;clear n1 n2 nB2 nB3 nB4 nB6))
       refine ⟨⟨i + 1,L2,by simp [hw],h,⟨H⟩,HM,B2,B3,B4,B6,HB⟩,?_⟩
       simp only [intOf,hw]
       omega
     ·have hcc : (c < 0) = False:=eq_false hc0
      rw [if_neg hc0] at hcb
      obtain rfl:=Option.some.inj hcb
      replace H : lowP b nodes x L1 (nodes.drop (i + 1)) = some Lf:=H
      go_wp2_with (first | ((with_reducible refine gate_dst (N:=8) rfl ?_);refine bx_ 8 70 #[.string (⟨#[]⟩ : ByteArray),.int .i64 0,.int .i64 0,.int .i64 0,.string (⟨#[]⟩ : ByteArray),.string (⟨#[]⟩ : ByteArray),.slice none 0 0] ?_;intro gB8 hg_ w8 hbox hb_;have GEB8:=Aside0.mk (q39_ : w.heap.size ≤ gB8);have NMB8:=Aside0.mk (q27_ : bm ≠ gB8);have NB2B8:=Aside0.mk (q25_ : gB2 ≠ gB8);have NB3B8:=Aside0.mk (q24_ : gB3 ≠ gB8);have NB4B8:=Aside0.mk (q32_ : gB4 ≠ gB8);have NB6B8:=Aside0.mk (q37_ : gB6 ≠ gB8);replace HB:=Aside0.mk (below_then HB.out HB.out.size hb_);replace HM:=Aside0.mk (HM.out.below hb_);replace B2:=Aside0.mk (blk_below B2.out hb_);replace B3:=Aside0.mk (blk_below B3.out hb_);replace B4:=Aside0.mk (blk_below B4.out hb_);replace B6:=Aside0.mk (blk_below B6.out hb_);have B8:=Aside0.mk hbox;clear hbox hb_ hg_) | ((with_reducible refine gate_ (.store 70 (.tmp 8) (.tmp 20)) rfl ?_);refine store_event 70 (.tmp 8) (.tmp 20) rfl rfl rfl 0 70 _ #[.string y.f0,.int .i64 y.f1.f0,.int .i64 y.f1.f1,.int .i64 y.f1.f2,.string y.f1.f3,.string y.f1.f4,.slice A6 n1.length c6] _ [.string y.f0,.int .i64 y.f1.f0,.int .i64 y.f1.f1,.int .i64 y.f1.f2,.string y.f1.f3,.string y.f1.f4,.slice A6 n1.length c6] rfl rfl rfl q10_ q26_ B8.out (Nat.le_refl 7) q46_ ?_;intro w81 hn_ hg_;replace HB:=Aside0.mk (below_grown HB.out hg_ GEB8.out HB.out.size);replace HM:=Aside0.mk (HM.out.kept hg_ (fun he => NMB8.out (Option.some.inj he)));replace B2:=Aside0.mk (blk_grown B2.out hg_ (fun he => NB2B8.out (Option.some.inj he)));replace B3:=Aside0.mk (blk_grown B3.out hg_ (fun he => NB3B8.out (Option.some.inj he)));replace B4:=Aside0.mk (blk_grown B4.out hg_ (fun he => NB4B8.out (Option.some.inj he)));replace B6:=Aside0.mk (blk_grown B6.out hg_ (fun he => NB6B8.out (Option.some.inj he)));replace B8:=Aside0.mk hn_;clear hg_ hn_;have hB82_0 : w81.cell? ⟨gB8,0,none⟩ = some _:=(blk_cell B8.out 0).trans rfl;have hB82_1 : w81.cell? ⟨gB8,1,none⟩ = some _:=(blk_cell B8.out 1).trans rfl;have hB82_2 : w81.cell? ⟨gB8,2,none⟩ = some _:=(blk_cell B8.out 2).trans rfl;have hB82_3 : w81.cell? ⟨gB8,3,none⟩ = some _:=(blk_cell B8.out 3).trans rfl;have hB82_4 : w81.cell? ⟨gB8,4,none⟩ = some _:=(blk_cell B8.out 4).trans rfl;have hB82_5 : w81.cell? ⟨gB8,5,none⟩ = some _:=(blk_cell B8.out 5).trans rfl;have hB82_6 : w81.cell? ⟨gB8,6,none⟩ = some _:=(blk_cell B8.out 6).trans rfl) | ((with_reducible refine gate_dst (N:=9) rfl ?_);refine bx_ 9 41 #[.string (⟨#[]⟩ : ByteArray),.int .i64 0,.int .i64 0,.int .i64 0,.string (⟨#[]⟩ : ByteArray),.string (⟨#[]⟩ : ByteArray)] ?_;intro gB9 hg_ w9 hbox hb_;have GEB9:=Aside0.mk (q39_ : w.heap.size ≤ gB9);have NMB9:=Aside0.mk (q27_ : bm ≠ gB9);have NB2B9:=Aside0.mk (q25_ : gB2 ≠ gB9);have NB3B9:=Aside0.mk (q24_ : gB3 ≠ gB9);have NB4B9:=Aside0.mk (q32_ : gB4 ≠ gB9);have NB6B9:=Aside0.mk (q37_ : gB6 ≠ gB9);have NB8B9:=Aside0.mk (q51_ : gB8 ≠ gB9);replace HB:=Aside0.mk (below_then HB.out HB.out.size hb_);replace HM:=Aside0.mk (HM.out.below hb_);replace B2:=Aside0.mk (blk_below B2.out hb_);replace B3:=Aside0.mk (blk_below B3.out hb_);replace B4:=Aside0.mk (blk_below B4.out hb_);replace B6:=Aside0.mk (blk_below B6.out hb_);replace B8:=Aside0.mk (blk_below B8.out hb_);have B9:=Aside0.mk hbox;clear hbox hb_ hg_) | ((with_reducible refine gate_ (.store 41 (.tmp 9) (.tmp 22)) rfl ?_);refine store_event 41 (.tmp 9) (.tmp 22) rfl rfl rfl 0 41 _ #[.string y.f0,.int .i64 y.f1.f0,.int .i64 y.f1.f1,.int .i64 y.f1.f2,.string y.f1.f3,.string y.f1.f4] _ [.string y.f0,.int .i64 y.f1.f0,.int .i64 y.f1.f1,.int .i64 y.f1.f2,.string y.f1.f3,.string y.f1.f4] rfl rfl rfl q10_ q26_ B9.out (Nat.le_refl 6) q46_ ?_;intro w91 hn_ hg_;replace HB:=Aside0.mk (below_grown HB.out hg_ GEB9.out HB.out.size);replace HM:=Aside0.mk (HM.out.kept hg_ (fun he => NMB9.out (Option.some.inj he)));replace B2:=Aside0.mk (blk_grown B2.out hg_ (fun he => NB2B9.out (Option.some.inj he)));replace B3:=Aside0.mk (blk_grown B3.out hg_ (fun he => NB3B9.out (Option.some.inj he)));replace B4:=Aside0.mk (blk_grown B4.out hg_ (fun he => NB4B9.out (Option.some.inj he)));replace B6:=Aside0.mk (blk_grown B6.out hg_ (fun he => NB6B9.out (Option.some.inj he)));replace B8:=Aside0.mk (blk_grown B8.out hg_ (fun he => NB8B9.out (Option.some.inj he)));replace B9:=Aside0.mk hn_;clear hg_ hn_;have hB24_0 : w91.cell? ⟨gB2,0,none⟩ = some _:=(blk_cell B2.out 0).trans rfl;have hB24_1 : w91.cell? ⟨gB2,1,none⟩ = some _:=(blk_cell B2.out 1).trans rfl;have hB24_2 : w91.cell? ⟨gB2,2,none⟩ = some _:=(blk_cell B2.out 2).trans rfl;have hB24_3 : w91.cell? ⟨gB2,3,none⟩ = some _:=(blk_cell B2.out 3).trans rfl;have hB24_4 : w91.cell? ⟨gB2,4,none⟩ = some _:=(blk_cell B2.out 4).trans rfl;have hB24_5 : w91.cell? ⟨gB2,5,none⟩ = some _:=(blk_cell B2.out 5).trans rfl;have hB24_6 : w91.cell? ⟨gB2,6,none⟩ = some _:=(blk_cell B2.out 6).trans rfl;have hB34_0 : w91.cell? ⟨gB3,0,none⟩ = some _:=(blk_cell B3.out 0).trans rfl;have hB34_1 : w91.cell? ⟨gB3,1,none⟩ = some _:=(blk_cell B3.out 1).trans rfl;have hB34_2 : w91.cell? ⟨gB3,2,none⟩ = some _:=(blk_cell B3.out 2).trans rfl;have hB34_3 : w91.cell? ⟨gB3,3,none⟩ = some _:=(blk_cell B3.out 3).trans rfl;have hB34_4 : w91.cell? ⟨gB3,4,none⟩ = some _:=(blk_cell B3.out 4).trans rfl;have hB34_5 : w91.cell? ⟨gB3,5,none⟩ = some _:=(blk_cell B3.out 5).trans rfl;have hB64_0 : w91.cell? ⟨gB6,0,none⟩ = some _:=(blk_cell B6.out 0).trans rfl;have hB94_0 : w91.cell? ⟨gB9,0,none⟩ = some _:=(blk_cell B9.out 0).trans rfl;have hB94_1 : w91.cell? ⟨gB9,1,none⟩ = some _:=(blk_cell B9.out 1).trans rfl;have hB94_2 : w91.cell? ⟨gB9,2,none⟩ = some _:=(blk_cell B9.out 2).trans rfl;have hB94_3 : w91.cell? ⟨gB9,3,none⟩ = some _:=(blk_cell B9.out 3).trans rfl;have hB94_4 : w91.cell? ⟨gB9,4,none⟩ = some _:=(blk_cell B9.out 4).trans rfl;have hB94_5 : w91.cell? ⟨gB9,5,none⟩ = some _:=(blk_cell B9.out 5).trans rfl) | (go_at_call 59;(with_reducible refine (mvs_may.calls fuelR y.f0 y.f1.f0 y.f1.f1 y.f1.f2 y.f1.f3 y.f1.f4 true _ hmay ?sideG).mono ?_);(case sideG => exact Env.below HE.out HB.out);rintro e wm ⟨rfl,hb_⟩;replace HB:=Aside0.mk (below_then HB.out HB.out.size hb_);replace HM:=Aside0.mk (HM.out.below hb_);replace B2:=Aside0.mk (blk_below B2.out hb_);replace B3:=Aside0.mk (blk_below B3.out hb_);replace B4:=Aside0.mk (blk_below B4.out hb_);replace B6:=Aside0.mk (blk_below B6.out hb_);replace B8:=Aside0.mk (blk_below B8.out hb_);replace B9:=Aside0.mk (blk_below B9.out hb_);clear hb_;have hB25_0 : wm.cell? ⟨gB2,0,none⟩ = some _:=(blk_cell B2.out 0).trans rfl;have hB25_1 : wm.cell? ⟨gB2,1,none⟩ = some _:=(blk_cell B2.out 1).trans rfl;have hB25_2 : wm.cell? ⟨gB2,2,none⟩ = some _:=(blk_cell B2.out 2).trans rfl;have hB25_3 : wm.cell? ⟨gB2,3,none⟩ = some _:=(blk_cell B2.out 3).trans rfl;have hB25_4 : wm.cell? ⟨gB2,4,none⟩ = some _:=(blk_cell B2.out 4).trans rfl;have hB25_5 : wm.cell? ⟨gB2,5,none⟩ = some _:=(blk_cell B2.out 5).trans rfl;have hB25_6 : wm.cell? ⟨gB2,6,none⟩ = some _:=(blk_cell B2.out 6).trans rfl;have hB35_0 : wm.cell? ⟨gB3,0,none⟩ = some _:=(blk_cell B3.out 0).trans rfl;have hB35_1 : wm.cell? ⟨gB3,1,none⟩ = some _:=(blk_cell B3.out 1).trans rfl;have hB35_2 : wm.cell? ⟨gB3,2,none⟩ = some _:=(blk_cell B3.out 2).trans rfl;have hB35_3 : wm.cell? ⟨gB3,3,none⟩ = some _:=(blk_cell B3.out 3).trans rfl;have hB35_4 : wm.cell? ⟨gB3,4,none⟩ = some _:=(blk_cell B3.out 4).trans rfl;have hB35_5 : wm.cell? ⟨gB3,5,none⟩ = some _:=(blk_cell B3.out 5).trans rfl;have hB65_0 : wm.cell? ⟨gB6,0,none⟩ = some _:=(blk_cell B6.out 0).trans rfl;have hB95_0 : wm.cell? ⟨gB9,0,none⟩ = some _:=(blk_cell B9.out 0).trans rfl;have hB95_1 : wm.cell? ⟨gB9,1,none⟩ = some _:=(blk_cell B9.out 1).trans rfl;have hB95_2 : wm.cell? ⟨gB9,2,none⟩ = some _:=(blk_cell B9.out 2).trans rfl;have hB95_3 : wm.cell? ⟨gB9,3,none⟩ = some _:=(blk_cell B9.out 3).trans rfl;have hB95_4 : wm.cell? ⟨gB9,4,none⟩ = some _:=(blk_cell B9.out 4).trans rfl;have hB95_5 : wm.cell? ⟨gB9,5,none⟩ = some _:=(blk_cell B9.out 5).trans rfl) | (go_at_call 44;(with_reducible refine (ver_Compare.calls fuelR y.f1.f0 y.f1.f1 y.f1.f2 y.f1.f3 y.f1.f4 x.f1.f0 x.f1.f1 x.f1.f2 x.f1.f3 x.f1.f4 c _ hcmp ?sideG).mono ?_);(case sideG => exact Env.below HE.out HB.out);rintro e wk ⟨rfl,hb_⟩;replace HB:=Aside0.mk (below_then HB.out HB.out.size hb_);replace HM:=Aside0.mk (HM.out.below hb_);replace B2:=Aside0.mk (blk_below B2.out hb_);replace B3:=Aside0.mk (blk_below B3.out hb_);replace B4:=Aside0.mk (blk_below B4.out hb_);replace B6:=Aside0.mk (blk_below B6.out hb_);replace B8:=Aside0.mk (blk_below B8.out hb_);replace B9:=Aside0.mk (blk_below B9.out hb_);clear hb_;have hB26_0 : wk.cell? ⟨gB2,0,none⟩ = some _:=(blk_cell B2.out 0).trans rfl;have hB26_1 : wk.cell? ⟨gB2,1,none⟩ = some _:=(blk_cell B2.out 1).trans rfl;have hB26_2 : wk.cell? ⟨gB2,2,none⟩ = some _:=(blk_cell B2.out 2).trans rfl;have hB26_3 : wk.cell? ⟨gB2,3,none⟩ = some _:=(blk_cell B2.out 3).trans rfl;have hB26_4 : wk.cell? ⟨gB2,4,none⟩ = some _:=(blk_cell B2.out 4).trans rfl;have hB26_5 : wk.cell? ⟨gB2,5,none⟩ = some _:=(blk_cell B2.out 5).trans rfl;have hB26_6 : wk.cell? ⟨gB2,6,none⟩ = some _:=(blk_cell B2.out 6).trans rfl;have hB66_0 : wk.cell? ⟨gB6,0,none⟩ = some _:=(blk_cell B6.out 0).trans rfl;have hB96_0 : wk.cell? ⟨gB9,0,none⟩ = some _:=(blk_cell B9.out 0).trans rfl;have hB96_1 : wk.cell? ⟨gB9,1,none⟩ = some _:=(blk_cell B9.out 1).trans rfl;have hB96_2 : wk.cell? ⟨gB9,2,none⟩ = some _:=(blk_cell B9.out 2).trans rfl;have hB96_3 : wk.cell? ⟨gB9,3,none⟩ = some _:=(blk_cell B9.out 3).trans rfl;have hB96_4 : wk.cell? ⟨gB9,4,none⟩ = some _:=(blk_cell B9.out 4).trans rfl;have hB96_5 : wk.cell? ⟨gB9,5,none⟩ = some _:=(blk_cell B9.out 5).trans rfl))
      refine ⟨⟨i + 1,L1,by simp [hw],h,⟨H⟩,⟨HM.out.mono (Nat.le_succ _)⟩,B2,B3,B4,B6,HB⟩,?_⟩
      simp only [intOf,hw]
      omega
  ·have hg : ((i : Int) < (nodes.length : Int)) = False:=eq_false q8_
   rw [List.drop_eq_nil_of_le q8_,lowP] at H
   obtain rfl:=Option.some.inj H
   have hkey : keyOf Tryz.prog 9 (.string x.f0) = some (keyL x.f0):=WideMaps.keyOf_string_mk Tryz.underlying9 (by unfold maxLen;omega)
   have hz3 : wr.cell? ⟨gB3,0,none⟩ = some _:=(blk_cell B3.out 0).trans rfl
   have hz6 : wr.cell? ⟨gB6,0,none⟩ = some _:=(blk_cell B6.out 0).trans rfl
   obtain ⟨D,ho,hbe⟩:=HM.out
   have NMB4:=Aside0.mk (fun e : bm = gB4 => M4.out e.symm)
   rcases hbe.find x.f0 (datR zR) with ⟨hf,hhas,hat⟩ | ⟨y,hf,hhas,hat⟩
   ·have hR:=HRES.out
    rw [hf] at hR
    obtain ⟨rfl,rfl⟩:=Prod.mk.inj hR
    go_wp2_with (first | ((with_reducible refine gate_dst (N:=55) rfl ?_);refine wpList_lookup_own_ok _ rfl (.tmp 52) (.tmp 54) 78 rfl 9 41 lawS Tryz.underlying78 reqR (zeroReq _) (datR zR) [] rfl bm i D rfl ho _ (keyL x.f0) rfl hkey ?_;intro v_ ps hv;obtain ⟨rv,hrv,hy_⟩:=reqR_inv hv;obtain rfl : zR = rv:=(datR_inj ((Prod.mk.inj hy_).1.symm.trans hat)).symm;subst hrv;rw [hhas];clear hv hy_) | ((with_reducible refine gate_dst (N:=10) rfl ?_);refine bx_ 10 41 #[.string (⟨#[]⟩ : ByteArray),.int .i64 0,.int .i64 0,.int .i64 0,.string (⟨#[]⟩ : ByteArray),.string (⟨#[]⟩ : ByteArray)] ?_;intro gB10 hg_ w10 hbox hb_;have GEB10:=Aside0.mk (q39_ : w.heap.size ≤ gB10);have NMB10:=Aside0.mk (q27_ : bm ≠ gB10);have NB4B10:=Aside0.mk (q32_ : gB4 ≠ gB10);replace HB:=Aside0.mk (below_then HB.out HB.out.size hb_);replace HM:=Aside0.mk (HM.out.below hb_);replace B4:=Aside0.mk (blk_below B4.out hb_);have B10:=Aside0.mk hbox;have NB104:=Aside0.mk ((fun e => NB4B10.out e.symm) : gB10 ≠ gB4);clear hbox hb_ hg_) | ((with_reducible refine gate_ (.store 41 (.tmp 10) (.tmp 56)) rfl ?_);refine store_event 41 (.tmp 10) (.tmp 56) rfl rfl rfl 0 41 _ #[.string zR.f0,.int .i64 zR.f1.f0,.int .i64 zR.f1.f1,.int .i64 zR.f1.f2,.string zR.f1.f3,.string zR.f1.f4] _ [.string zR.f0,.int .i64 zR.f1.f0,.int .i64 zR.f1.f1,.int .i64 zR.f1.f2,.string zR.f1.f3,.string zR.f1.f4] rfl rfl rfl q10_ q26_ B10.out (Nat.le_refl 6) q46_ ?_;intro w101 hn_ hg_;replace HB:=Aside0.mk (below_grown HB.out hg_ GEB10.out HB.out.size);replace HM:=Aside0.mk (HM.out.kept hg_ (fun he => NMB10.out (Option.some.inj he)));replace B4:=Aside0.mk (blk_grown B4.out hg_ (fun he => NB4B10.out (Option.some.inj he)));replace B10:=Aside0.mk hn_;clear hg_ hn_;have hB42_0 : w101.cell? ⟨gB4,0,none⟩ = some _:=(blk_cell B4.out 0).trans rfl;have hB42_1 : w101.cell? ⟨gB4,1,none⟩ = some _:=(blk_cell B4.out 1).trans rfl;have hB42_2 : w101.cell? ⟨gB4,2,none⟩ = some _:=(blk_cell B4.out 2).trans rfl;have hB42_3 : w101.cell? ⟨gB4,3,none⟩ = some _:=(blk_cell B4.out 3).trans rfl;have hB42_4 : w101.cell? ⟨gB4,4,none⟩ = some _:=(blk_cell B4.out 4).trans rfl;have hB42_5 : w101.cell? ⟨gB4,5,none⟩ = some _:=(blk_cell B4.out 5).trans rfl;have hB102_0 : w101.cell? ⟨gB10,0,none⟩ = some _:=(blk_cell B10.out 0).trans rfl;have hB102_1 : w101.cell? ⟨gB10,1,none⟩ = some _:=(blk_cell B10.out 1).trans rfl;have hB102_2 : w101.cell? ⟨gB10,2,none⟩ = some _:=(blk_cell B10.out 2).trans rfl;have hB102_3 : w101.cell? ⟨gB10,3,none⟩ = some _:=(blk_cell B10.out 3).trans rfl;have hB102_4 : w101.cell? ⟨gB10,4,none⟩ = some _:=(blk_cell B10.out 4).trans rfl;have hB102_5 : w101.cell? ⟨gB10,5,none⟩ = some _:=(blk_cell B10.out 5).trans rfl) | ((with_reducible refine gate_ (.store 41 (.tmp 4) (.tmp 58)) rfl ?_);refine store_event 41 (.tmp 4) (.tmp 58) rfl rfl rfl 0 41 _ #[.string zR.f0,.int .i64 zR.f1.f0,.int .i64 zR.f1.f1,.int .i64 zR.f1.f2,.string zR.f1.f3,.string zR.f1.f4] _ [.string zR.f0,.int .i64 zR.f1.f0,.int .i64 zR.f1.f1,.int .i64 zR.f1.f2,.string zR.f1.f3,.string zR.f1.f4] rfl rfl rfl q10_ q26_ B4.out (Nat.le_refl 6) q46_ ?_;intro w102 hn_ hg_;replace HB:=Aside0.mk (below_grown HB.out hg_ GEB4.out HB.out.size);replace HM:=Aside0.mk (HM.out.kept hg_ (fun he => NMB4.out (Option.some.inj he)));replace B4:=Aside0.mk hn_;replace B10:=Aside0.mk (blk_grown B10.out hg_ (fun he => NB104.out (Option.some.inj he)));clear hg_ hn_;have hB43_0 : w102.cell? ⟨gB4,0,none⟩ = some _:=(blk_cell B4.out 0).trans rfl;have hB43_1 : w102.cell? ⟨gB4,1,none⟩ = some _:=(blk_cell B4.out 1).trans rfl;have hB43_2 : w102.cell? ⟨gB4,2,none⟩ = some _:=(blk_cell B4.out 2).trans rfl;have hB43_3 : w102.cell? ⟨gB4,3,none⟩ = some _:=(blk_cell B4.out 3).trans rfl;have hB43_4 : w102.cell? ⟨gB4,4,none⟩ = some _:=(blk_cell B4.out 4).trans rfl;have hB43_5 : w102.cell? ⟨gB4,5,none⟩ = some _:=(blk_cell B4.out 5).trans rfl))
    refine bodyPost_ret (v:=.tuple #[.agg #[.string zR.f0,.int .i64 zR.f1.f0,.int .i64 zR.f1.f1,.int .i64 zR.f1.f2,.string zR.f1.f3,.string zR.f1.f4],.bool false]) ?_ rfl ⟨rfl,HB.out⟩
    simp only [results,Tryz.results63]
    go_simp
   ·have hR:=HRES.out
    rw [hf] at hR
    obtain ⟨rfl,rfl⟩:=Prod.mk.inj hR
    go_wp2_with (first | ((with_reducible refine gate_dst (N:=55) rfl ?_);refine wpList_lookup_own_ok _ rfl (.tmp 52) (.tmp 54) 78 rfl 9 41 lawS Tryz.underlying78 reqR (zeroReq _) (datR zR) [] rfl bm i D rfl ho _ (keyL x.f0) rfl hkey ?_;intro v_ ps hv;obtain ⟨rv,hrv,hy_⟩:=reqR_inv hv;obtain rfl : y = rv:=(datR_inj ((Prod.mk.inj hy_).1.symm.trans hat)).symm;subst hrv;rw [hhas];clear hv hy_) | ((with_reducible refine gate_dst (N:=10) rfl ?_);refine bx_ 10 41 #[.string (⟨#[]⟩ : ByteArray),.int .i64 0,.int .i64 0,.int .i64 0,.string (⟨#[]⟩ : ByteArray),.string (⟨#[]⟩ : ByteArray)] ?_;intro gB10 hg_ w10 hbox hb_;have GEB10:=Aside0.mk (q39_ : w.heap.size ≤ gB10);have NMB10:=Aside0.mk (q27_ : bm ≠ gB10);have NB4B10:=Aside0.mk (q32_ : gB4 ≠ gB10);replace HB:=Aside0.mk (below_then HB.out HB.out.size hb_);replace HM:=Aside0.mk (HM.out.below hb_);replace B4:=Aside0.mk (blk_below B4.out hb_);have B10:=Aside0.mk hbox;have NB104:=Aside0.mk ((fun e => NB4B10.out e.symm) : gB10 ≠ gB4);clear hbox hb_ hg_) | ((with_reducible refine gate_ (.store 41 (.tmp 10) (.tmp 56)) rfl ?_);refine store_event 41 (.tmp 10) (.tmp 56) rfl rfl rfl 0 41 _ #[.string y.f0,.int .i64 y.f1.f0,.int .i64 y.f1.f1,.int .i64 y.f1.f2,.string y.f1.f3,.string y.f1.f4] _ [.string y.f0,.int .i64 y.f1.f0,.int .i64 y.f1.f1,.int .i64 y.f1.f2,.string y.f1.f3,.string y.f1.f4] rfl rfl rfl q10_ q26_ B10.out (Nat.le_refl 6) q46_ ?_;intro w101 hn_ hg_;replace HB:=Aside0.mk (below_grown HB.out hg_ GEB10.out HB.out.size);replace HM:=Aside0.mk (HM.out.kept hg_ (fun he => NMB10.out (Option.some.inj he)));replace B4:=Aside0.mk (blk_grown B4.out hg_ (fun he => NB4B10.out (Option.some.inj he)));replace B10:=Aside0.mk hn_;clear hg_ hn_;have hB42_0 : w101.cell? ⟨gB4,0,none⟩ = some _:=(blk_cell B4.out 0).trans rfl;have hB42_1 : w101.cell? ⟨gB4,1,none⟩ = some _:=(blk_cell B4.out 1).trans rfl;have hB42_2 : w101.cell? ⟨gB4,2,none⟩ = some _:=(blk_cell B4.out 2).trans rfl;have hB42_3 : w101.cell? ⟨gB4,3,none⟩ = some _:=(blk_cell B4.out 3).trans rfl;have hB42_4 : w101.cell? ⟨gB4,4,none⟩ = some _:=(blk_cell B4.out 4).trans rfl;have hB42_5 : w101.cell? ⟨gB4,5,none⟩ = some _:=(blk_cell B4.out 5).trans rfl;have hB102_0 : w101.cell? ⟨gB10,0,none⟩ = some _:=(blk_cell B10.out 0).trans rfl;have hB102_1 : w101.cell? ⟨gB10,1,none⟩ = some _:=(blk_cell B10.out 1).trans rfl;have hB102_2 : w101.cell? ⟨gB10,2,none⟩ = some _:=(blk_cell B10.out 2).trans rfl;have hB102_3 : w101.cell? ⟨gB10,3,none⟩ = some _:=(blk_cell B10.out 3).trans rfl;have hB102_4 : w101.cell? ⟨gB10,4,none⟩ = some _:=(blk_cell B10.out 4).trans rfl;have hB102_5 : w101.cell? ⟨gB10,5,none⟩ = some _:=(blk_cell B10.out 5).trans rfl) | ((with_reducible refine gate_ (.store 41 (.tmp 4) (.tmp 58)) rfl ?_);refine store_event 41 (.tmp 4) (.tmp 58) rfl rfl rfl 0 41 _ #[.string y.f0,.int .i64 y.f1.f0,.int .i64 y.f1.f1,.int .i64 y.f1.f2,.string y.f1.f3,.string y.f1.f4] _ [.string y.f0,.int .i64 y.f1.f0,.int .i64 y.f1.f1,.int .i64 y.f1.f2,.string y.f1.f3,.string y.f1.f4] rfl rfl rfl q10_ q26_ B4.out (Nat.le_refl 6) q46_ ?_;intro w102 hn_ hg_;replace HB:=Aside0.mk (below_grown HB.out hg_ GEB4.out HB.out.size);replace HM:=Aside0.mk (HM.out.kept hg_ (fun he => NMB4.out (Option.some.inj he)));replace B4:=Aside0.mk hn_;replace B10:=Aside0.mk (blk_grown B10.out hg_ (fun he => NB104.out (Option.some.inj he)));clear hg_ hn_;have hB43_0 : w102.cell? ⟨gB4,0,none⟩ = some _:=(blk_cell B4.out 0).trans rfl;have hB43_1 : w102.cell? ⟨gB4,1,none⟩ = some _:=(blk_cell B4.out 1).trans rfl;have hB43_2 : w102.cell? ⟨gB4,2,none⟩ = some _:=(blk_cell B4.out 2).trans rfl;have hB43_3 : w102.cell? ⟨gB4,3,none⟩ = some _:=(blk_cell B4.out 3).trans rfl;have hB43_4 : w102.cell? ⟨gB4,4,none⟩ = some _:=(blk_cell B4.out 4).trans rfl;have hB43_5 : w102.cell? ⟨gB4,5,none⟩ = some _:=(blk_cell B4.out 5).trans rfl))
    refine bodyPost_ret (v:=.tuple #[.agg #[.string y.f0,.int .i64 y.f1.f0,.int .i64 y.f1.f1,.int .i64 y.f1.f2,.string y.f1.f3,.string y.f1.f4],.bool true]) ?_ rfl ⟨rfl,HB.out⟩
    simp only [results,Tryz.results63]
    go_simp
def mvs_bound_lower.f (a0_0 : ByteArray) (a0_1 : Int) (a0_2 : Int) (a0_3 : Int) (a0_4 : ByteArray) (a0_5 : ByteArray) (l0_6 : List Node) (a1_0 : ByteArray) (a1_1 : Int) (a1_2 : Int) (a1_3 : Int) (a1_4 : ByteArray) (a1_5 : ByteArray) : Option (ByteArray × Int × Int × Int × ByteArray × ByteArray × Bool) :=
 (lowerP ⟨a0_0,a0_1,a0_2,a0_3,a0_4,a0_5⟩ l0_6 ⟨a1_0,a1_1,a1_2,a1_3,a1_4,a1_5⟩).bind fun t => some (t.1.f0,t.1.f1.f0,t.1.f1.f1,t.1.f1.f2,t.1.f1.f3,t.1.f1.f4,t.2)
theorem mvs_bound_lower.calls (a0_0 : ByteArray) (a0_1 : Int) (a0_2 : Int) (a0_3 : Int) (a0_4 : ByteArray) (a0_5 : ByteArray) (A0_6 : Option Addr) (c0_6 : Nat) (l0_6 : List Node) (a1_0 : ByteArray) (a1_1 : Int) (a1_2 : Int) (a1_3 : Int) (a1_4 : ByteArray) (a1_5 : ByteArray) (r1 : ByteArray) (r2 : Int) (r3 : Int) (r4 : Int) (r5 : ByteArray) (r6 : ByteArray) (r7 : Bool) (w : World) (hr0_6 : Kd.C k70 w A0_6 l0_6.length l0_6) (hc0_6 : l0_6.length ≤ c0_6) (h : mvs_bound_lower.f a0_0 a0_1 a0_2 a0_3 a0_4 a0_5 l0_6 a1_0 a1_1 a1_2 a1_3 a1_4 a1_5 = some (r1,r2,r3,r4,r5,r6,r7)) (hG : Env w) :
  Calls Tryz.prog 63 #[.agg #[.string a0_0,.int .i64 a0_1,.int .i64 a0_2,.int .i64 a0_3,.string a0_4,.string a0_5,.slice A0_6 l0_6.length c0_6],.agg #[.string a1_0,.int .i64 a1_1,.int .i64 a1_2,.int .i64 a1_3,.string a1_4,.string a1_5]] w fun e w' => e = .returned (.tuple #[.agg #[.string r1,.int .i64 r2,.int .i64 r3,.int .i64 r4,.string r5,.string r6],.bool r7]) ∧ Below w.heap.size w w':=by
 obtain ⟨⟨r,is⟩,hl,he⟩:=Option.bind_eq_some_iff.mp h
 have he':=Option.some.inj he
 simp only [Prod.mk.injEq] at he'
 obtain ⟨rfl,rfl,rfl,rfl,rfl,rfl,rfl⟩:=he'
 exact lower_calls ⟨a0_0,a0_1,a0_2,a0_3,a0_4,a0_5⟩ ⟨a1_0,a1_1,a1_2,a1_3,a1_4,a1_5⟩ A0_6 c0_6 l0_6 r is w hr0_6 hc0_6 hl hG
end Go.Proofs.YtennhpoemdaghaaGreatDoor.P
end
section
namespace Go.Proofs.YtennhpoemdaghaaGreatDoor.P
open Go.RowKit Go.Proofs.YtennhpoemdaghaaGreatDoorW.PrintWords Go.Proofs.YtennhpoemdaghaaGreatDoorW.PrintLast Go.Proofs.YtennhpoemdaghaaGreatDoorW.PrintMore
def mvs_Downgrade.l0 : Nat → List (S41) → List (S41) → Int → Int → ByteArray → Int → Int → Int → ByteArray → ByteArray → List (S70) → Option ((List (S41)))
 | 0,_,_,_,_,_,_,_,_,_,_,_ => none
 | k + 1,x8,x20,x21,x22,x107000,x107001,x107002,x107003,x107004,x107005,x107006 => if x22 < x21 then (if 0 ≤ x22 then (if x22 < (x20.length : Int) then ((mvs_bound_out.f x107000 x107001 x107002 x107003 x107004 x107005 x107006 ((rd_T41 x20 x22).f0) ((rd_T41 x20 x22).f1.f0) ((rd_T41 x20 x22).f1.f1) ((rd_T41 x20 x22).f1.f2) ((rd_T41 x20 x22).f1.f3) ((rd_T41 x20 x22).f1.f4)).bind fun t109 => (if t109 = true then ((mvs_bound_lower.f x107000 x107001 x107002 x107003 x107004 x107005 x107006 ((rd_T41 x20 x22).f0) ((rd_T41 x20 x22).f1.f0) ((rd_T41 x20 x22).f1.f1) ((rd_T41 x20 x22).f1.f2) ((rd_T41 x20 x22).f1.f3) ((rd_T41 x20 x22).f1.f4)).bind fun bt110 => (if bt110.2.2.2.2.2.2 = true then (if x8.length < 1954687338268 then (mvs_Downgrade.l0 k (x8 ++ [(⟨bt110.1,(⟨bt110.2.1,bt110.2.2.1,bt110.2.2.2.1,bt110.2.2.2.2.1,bt110.2.2.2.2.2.1⟩ : S24)⟩ : S41)]) x20 x21 (wrap64 (x22 + 1)) x107000 x107001 x107002 x107003 x107004 x107005 x107006) else (none)) else (mvs_Downgrade.l0 k x8 x20 x21 (wrap64 (x22 + 1)) x107000 x107001 x107002 x107003 x107004 x107005 x107006))) else (if x8.length < 1954687338268 then (mvs_Downgrade.l0 k (x8 ++ [(⟨(rd_T41 x20 x22).f0,(⟨(rd_T41 x20 x22).f1.f0,(rd_T41 x20 x22).f1.f1,(rd_T41 x20 x22).f1.f2,(rd_T41 x20 x22).f1.f3,(rd_T41 x20 x22).f1.f4⟩ : S24)⟩ : S41)]) x20 x21 (wrap64 (x22 + 1)) x107000 x107001 x107002 x107003 x107004 x107005 x107006) else (none)))) else (none)) else (none)) else (some x8)
def mvs_Downgrade.f (k : Nat) (l0 : List (S41)) (l1 : List (S70)) (a2_0 : ByteArray) (a2_1 : Int) (a2_2 : Int) (a2_3 : Int) (a2_4 : ByteArray) (a2_5 : ByteArray) : Option ((List (S41))):=(mvs_may.f k a2_0 a2_1 a2_2 a2_3 a2_4 a2_5).bind fun t102 => (if t102 = true then (mvs_Downgrade.l0 k ([] : List (S41)) l0 (l0.length : Int) 0 a2_0 a2_1 a2_2 a2_3 a2_4 a2_5 l1) else ((slices_Clone_apiReq.f l0).bind fun t103 => (some t103)))
theorem mvs_Downgrade.mono_l : ∀ k,(∀ y0 y1 y2 y3 y4 y5 y6 y7 y8 y9 y10,LeO (mvs_Downgrade.l0 k y0 y1 y2 y3 y4 y5 y6 y7 y8 y9 y10) (mvs_Downgrade.l0 (k + 1) y0 y1 y2 y3 y4 y5 y6 y7 y8 y9 y10))
 | 0 => fun _ _ _ _ _ _ _ _ _ _ _ r h => by simp [mvs_Downgrade.l0] at h
 | k + 1 => by
  have ih0:=mvs_Downgrade.mono_l k
  ·intro y0 y1 y2 y3 y4 y5 y6 y7 y8 y9 y10
   unfold mvs_Downgrade.l0
   repeat' first
   | (with_reducible exact ih0 _ _ _ _ _ _ _ _ _ _ _)
   | (with_reducible exact mvs_may.mono _ _ _ _ _ _ _)
   | (with_reducible exact LeO.refl _)
   | (with_reducible exact LeO.none _)
   | (with_reducible refine LeO.ite ?_ ?_)
   | (with_reducible refine LeO.bind ?_ (fun _ => ?_))
   | exact ih0 _ _ _ _ _ _ _ _ _ _ _
   | exact mvs_may.mono _ _ _ _ _ _ _
   | exact LeO.none _
   | refine LeO.ite ?_ ?_
   | refine LeO.bind ?_ (fun _ => ?_)
theorem mvs_Downgrade.mono : ∀ a0 a1 a2 a3 a4 a5 a6 a7 k,LeO (mvs_Downgrade.f k a0 a1 a2 a3 a4 a5 a6 a7) (mvs_Downgrade.f (k + 1) a0 a1 a2 a3 a4 a5 a6 a7):=by
 intro a0 a1 a2 a3 a4 a5 a6 a7 k
 have ih0:=mvs_Downgrade.mono_l k
 unfold mvs_Downgrade.f
 repeat' first
   | (with_reducible exact ih0 _ _ _ _ _ _ _ _ _ _ _)
   | (with_reducible exact mvs_may.mono _ _ _ _ _ _ _)
   | (with_reducible exact LeO.refl _)
   | (with_reducible exact LeO.none _)
   | (with_reducible refine LeO.ite ?_ ?_)
   | (with_reducible refine LeO.bind ?_ (fun _ => ?_))
   | exact ih0 _ _ _ _ _ _ _ _ _ _ _
   | exact mvs_may.mono _ _ _ _ _ _ _
   | exact LeO.none _
   | refine LeO.ite ?_ ?_
   | refine LeO.bind ?_ (fun _ => ?_)
set_option maxHeartbeats 8000000 in
set_option maxRecDepth 100000 in
theorem mvs_Downgrade.calls (k : Nat) (A0 : Option Addr) (c0 : Nat) (l0 : List (S41)) (A1 : Option Addr) (c1 : Nat) (l1 : List (S70)) (a2_0 : ByteArray) (a2_1 : Int) (a2_2 : Int) (a2_3 : Int) (a2_4 : ByteArray) (a2_5 : ByteArray) (r : List (S41)) (w : World) (hr0 : Kd.C k41 w A0 l0.length l0) (hc0 : l0.length ≤ c0) (hr1 : Kd.C k70 w A1 l1.length l1) (hc1 : l1.length ≤ c1) (h : mvs_Downgrade.f k l0 l1 a2_0 a2_1 a2_2 a2_3 a2_4 a2_5 = some r) (hG : Env w) :
  Calls Tryz.prog 31 #[.slice A0 l0.length c0,.slice A1 l1.length c1,.agg #[.string a2_0,.int .i64 a2_1,.int .i64 a2_2,.int .i64 a2_3,.string a2_4,.string a2_5]] w fun e w' => ∃ v0_ : Value,e = .returned (v0_) ∧ Kd.R k41 41 w' w.heap.size (fun _ => True) v0_ r ∧ Below w.heap.size w w':=by
 have HG:=Aside0.mk hG
 clear hG
 have hu41:=Tryz.underlying41
 have hu91:=Tryz.underlying91
 have HR0:=Aside0.mk hr0
 have HC0:=Aside0.mk hc0
 clear hr0 hc0
 have HR1:=Aside0.mk hr1
 have HC1:=Aside0.mk hc1
 clear hr1 hc1
 have HB:=Aside0.mk (Below.refl w.heap.size w)
 have H : ((mvs_may.f k a2_0 a2_1 a2_2 a2_3 a2_4 a2_5).bind fun t102 => (if t102 = true then (mvs_Downgrade.l0 k ([] : List (S41)) l0 (l0.length : Int) 0 a2_0 a2_1 a2_2 a2_3 a2_4 a2_5 l1) else ((slices_Clone_apiReq.f l0).bind fun t103 => (some t103)))) = some r:=h
 clear h
 obtain ⟨t102,A40,H⟩:=Option.bind_eq_some_iff.mp H
 have A4:=Aside0.mk A40
 clear A40
 by_cases c5 : t102 = true
 ·subst c5
  rw [if_pos rfl] at H
  have H':=Aside0.mk H
  clear H
  go_enter Tryz.func31,Tryz.ntmps31
  go_wp2_with (first | ((with_reducible refine gate_dst (N:=5) rfl ?_);refine bx_ 5 41 #[.string a2_0,.int .i64 a2_1,.int .i64 a2_2,.int .i64 a2_3,.string a2_4,.string a2_5] ?_;intro gb101 hg w6 hbox hb;have BK101:=Aside0.mk (hbox);have GW101:=Aside0.mk ((q20_ : w.heap.size ≤ gb101));have GE101:=Aside0.mk ((q20_ : w.heap.size ≤ gb101));replace HB:=Aside0.mk (below_step bh_ hb);clear hb hbox hg;have hcz7_0 : w6.cell? ⟨gb101,0,none⟩ = some (.string a2_0):=(blk_cell BK101.out 0).trans rfl;have hcz7_1 : w6.cell? ⟨gb101,1,none⟩ = some (.int .i64 a2_1):=(blk_cell BK101.out 1).trans rfl;have hcz7_2 : w6.cell? ⟨gb101,2,none⟩ = some (.int .i64 a2_2):=(blk_cell BK101.out 2).trans rfl;have hcz7_3 : w6.cell? ⟨gb101,3,none⟩ = some (.int .i64 a2_3):=(blk_cell BK101.out 3).trans rfl;have hcz7_4 : w6.cell? ⟨gb101,4,none⟩ = some (.string a2_4):=(blk_cell BK101.out 4).trans rfl;have hcz7_5 : w6.cell? ⟨gb101,5,none⟩ = some (.string a2_5):=(blk_cell BK101.out 5).trans rfl;have hfz7_0:=blk_frozen BK101.out 0;have hfz7_1:=blk_frozen BK101.out 1;have hfz7_2:=blk_frozen BK101.out 2;have hfz7_3:=blk_frozen BK101.out 3;have hfz7_4:=blk_frozen BK101.out 4;have hfz7_5:=blk_frozen BK101.out 5) | ((with_reducible refine gate_callee (f:=59) rfl ?_);refine gl_ 13 Tryz.func59 #[.agg #[.string a2_0,.int .i64 a2_1,.int .i64 a2_2,.int .i64 a2_3,.string a2_4,.string a2_5]] ?_;(with_reducible refine (mvs_may.calls k a2_0 a2_1 a2_2 a2_3 a2_4 a2_5 true _ A4.out ?sideG).mono ?_);(case sideG => first | exact HG.out | exact Env.below HG.out bh_);rintro e w8 ⟨rfl,hb⟩;refine ⟨_,rfl,?_⟩;replace BK101:=Aside0.mk (blk_below bk101_ hb);replace HB:=Aside0.mk (below_step bh_ hb);(try clear hb);have hcz9_0 : w8.cell? ⟨gb101,0,none⟩ = some (.string a2_0):=(blk_cell BK101.out 0).trans rfl;have hcz9_1 : w8.cell? ⟨gb101,1,none⟩ = some (.int .i64 a2_1):=(blk_cell BK101.out 1).trans rfl;have hcz9_2 : w8.cell? ⟨gb101,2,none⟩ = some (.int .i64 a2_2):=(blk_cell BK101.out 2).trans rfl;have hcz9_3 : w8.cell? ⟨gb101,3,none⟩ = some (.int .i64 a2_3):=(blk_cell BK101.out 3).trans rfl;have hcz9_4 : w8.cell? ⟨gb101,4,none⟩ = some (.string a2_4):=(blk_cell BK101.out 4).trans rfl;have hcz9_5 : w8.cell? ⟨gb101,5,none⟩ = some (.string a2_5):=(blk_cell BK101.out 5).trans rfl;have hfz9_0:=blk_frozen BK101.out 0;have hfz9_1:=blk_frozen BK101.out 1;have hfz9_2:=blk_frozen BK101.out 2;have hfz9_3:=blk_frozen BK101.out 3;have hfz9_4:=blk_frozen BK101.out 4;have hfz9_5:=blk_frozen BK101.out 5) | ((with_reducible refine gate_dst (N:=7) rfl ?_);refine bx_ 7 91 #[.string (⟨#[]⟩ : ByteArray),.int .i64 0,.int .i64 0,.int .i64 0,.string (⟨#[]⟩ : ByteArray),.string (⟨#[]⟩ : ByteArray),.slice none 0 0] ?_;intro gb106 hg w10 hbox hb;have BK106:=Aside0.mk (hbox);have GW106:=Aside0.mk ((q20_ : w.heap.size ≤ gb106));have GE106:=Aside0.mk ((q20_ : w.heap.size ≤ gb106));replace HB:=Aside0.mk (below_step bh_ hb);have NB101_106:=Aside0.mk ((q47_ : gb101 ≠ gb106));have NB106_101:=Aside0.mk ((q48_ : gb106 ≠ gb101));replace BK101:=Aside0.mk (blk_below bk101_ hb);clear hb hbox hg;have hnb11:=NB106_101.out;have hnc11:=NB101_106.out;have hcz12_0 : w10.cell? ⟨gb106,0,none⟩ = some (.string (⟨#[]⟩ : ByteArray)):=(blk_cell BK106.out 0).trans rfl;have hcz12_1 : w10.cell? ⟨gb106,1,none⟩ = some (.int .i64 0):=(blk_cell BK106.out 1).trans rfl;have hcz12_2 : w10.cell? ⟨gb106,2,none⟩ = some (.int .i64 0):=(blk_cell BK106.out 2).trans rfl;have hcz12_3 : w10.cell? ⟨gb106,3,none⟩ = some (.int .i64 0):=(blk_cell BK106.out 3).trans rfl;have hcz12_4 : w10.cell? ⟨gb106,4,none⟩ = some (.string (⟨#[]⟩ : ByteArray)):=(blk_cell BK106.out 4).trans rfl;have hcz12_5 : w10.cell? ⟨gb106,5,none⟩ = some (.string (⟨#[]⟩ : ByteArray)):=(blk_cell BK106.out 5).trans rfl;have hcz12_6 : w10.cell? ⟨gb106,6,none⟩ = some (.slice none 0 0):=(blk_cell BK106.out 6).trans rfl;have hfz12_0:=blk_frozen BK106.out 0;have hfz12_1:=blk_frozen BK106.out 1;have hfz12_2:=blk_frozen BK106.out 2;have hfz12_3:=blk_frozen BK106.out 3;have hfz12_4:=blk_frozen BK106.out 4;have hfz12_5:=blk_frozen BK106.out 5;have hfz12_6:=blk_frozen BK106.out 6))
  go_loopg [8,22] k (fun kq v8 v22 w' => ∃ (x8_1 : List (S41)) (x22_1 : Int),v22 = .int .i64 x22_1 ∧ Aside0 (mvs_Downgrade.l0 kq x8_1 l0 (l0.length : Int) x22_1 a2_0 a2_1 a2_2 a2_3 a2_4 a2_5 l1 = some r) ∧ Aside0 (kq ≤ k) ∧ Aside0 (Kd.R k41 41 w' w.heap.size (fun k_ => k_ ≠ gb101) v8 x8_1) ∧ Aside0 (w'.heap[gb101]? = some (.cells #[.string a2_0,.int .i64 a2_1,.int .i64 a2_2,.int .i64 a2_3,.string a2_4,.string a2_5] 41 (0,0))) ∧ Aside0 (w'.heap[gb106]? = some (.cells #[.string a2_0,.int .i64 a2_1,.int .i64 a2_2,.int .i64 a2_3,.string a2_4,.string a2_5,(.slice A1 l1.length c1)] 91 (0,0))) ∧ Aside0 (Below w.heap.size w w'))
  case atStart => exact ⟨(([] : List (S41))),(0),q5_,H',⟨Nat.le_refl _⟩,⟨by first | exact Kd.R_nil _ _ _ _ _ | exact Kd.N_nil _ _ _ _ _ | exact Kd.V_nil _ _ _ _ _ | exact Kd.Q_nil _ _ _ _ _ | exact Kd.S_nil _ _ _ _ _⟩,⟨by (with_reducible repeat (first | refine blk_drewN ?_ _ | refine blk_drew ?_ | refine blk_alloc ?_ _));refine blk_far ?_ NB101_106.out _;(with_reducible repeat (first | refine blk_drewN ?_ _ | refine blk_drew ?_ | refine blk_alloc ?_ _));refine blk_far ?_ NB101_106.out _;(with_reducible repeat (first | refine blk_drewN ?_ _ | refine blk_drew ?_ | refine blk_alloc ?_ _));refine blk_far ?_ NB101_106.out _;(with_reducible repeat (first | refine blk_drewN ?_ _ | refine blk_drew ?_ | refine blk_alloc ?_ _));refine blk_far ?_ NB101_106.out _;(with_reducible repeat (first | refine blk_drewN ?_ _ | refine blk_drew ?_ | refine blk_alloc ?_ _));refine blk_far ?_ NB101_106.out _;(with_reducible repeat (first | refine blk_drewN ?_ _ | refine blk_drew ?_ | refine blk_alloc ?_ _));refine blk_far ?_ NB101_106.out _;(with_reducible repeat (first | refine blk_drewN ?_ _ | refine blk_drew ?_ | refine blk_alloc ?_ _));refine blk_far ?_ NB101_106.out _;(with_reducible repeat (first | refine blk_drewN ?_ _ | refine blk_drew ?_ | refine blk_alloc ?_ _));exact BK101.out⟩,⟨by (with_reducible repeat (first | refine blk_drewN ?_ _ | refine blk_drew ?_ | refine blk_alloc ?_ _));refine blk_put (cs:=#[.string a2_0,.int .i64 a2_1,.int .i64 a2_2,.int .i64 a2_3,.string a2_4,.string a2_5,.slice none 0 0]) ?_ 6 _ rfl;(with_reducible repeat (first | refine blk_drewN ?_ _ | refine blk_drew ?_ | refine blk_alloc ?_ _));refine blk_put (cs:=#[.string a2_0,.int .i64 a2_1,.int .i64 a2_2,.int .i64 a2_3,.string a2_4,.string (⟨#[]⟩ : ByteArray),.slice none 0 0]) ?_ 5 _ rfl;(with_reducible repeat (first | refine blk_drewN ?_ _ | refine blk_drew ?_ | refine blk_alloc ?_ _));refine blk_put (cs:=#[.string a2_0,.int .i64 a2_1,.int .i64 a2_2,.int .i64 a2_3,.string (⟨#[]⟩ : ByteArray),.string (⟨#[]⟩ : ByteArray),.slice none 0 0]) ?_ 4 _ rfl;(with_reducible repeat (first | refine blk_drewN ?_ _ | refine blk_drew ?_ | refine blk_alloc ?_ _));refine blk_put (cs:=#[.string a2_0,.int .i64 a2_1,.int .i64 a2_2,.int .i64 0,.string (⟨#[]⟩ : ByteArray),.string (⟨#[]⟩ : ByteArray),.slice none 0 0]) ?_ 3 _ rfl;(with_reducible repeat (first | refine blk_drewN ?_ _ | refine blk_drew ?_ | refine blk_alloc ?_ _));refine blk_put (cs:=#[.string a2_0,.int .i64 a2_1,.int .i64 0,.int .i64 0,.string (⟨#[]⟩ : ByteArray),.string (⟨#[]⟩ : ByteArray),.slice none 0 0]) ?_ 2 _ rfl;(with_reducible repeat (first | refine blk_drewN ?_ _ | refine blk_drew ?_ | refine blk_alloc ?_ _));refine blk_put (cs:=#[.string a2_0,.int .i64 0,.int .i64 0,.int .i64 0,.string (⟨#[]⟩ : ByteArray),.string (⟨#[]⟩ : ByteArray),.slice none 0 0]) ?_ 1 _ rfl;(with_reducible repeat (first | refine blk_drewN ?_ _ | refine blk_drew ?_ | refine blk_alloc ?_ _));refine blk_put (cs:=#[.string (⟨#[]⟩ : ByteArray),.int .i64 0,.int .i64 0,.int .i64 0,.string (⟨#[]⟩ : ByteArray),.string (⟨#[]⟩ : ByteArray),.slice none 0 0]) ?_ 0 _ rfl;(with_reducible repeat (first | refine blk_drewN ?_ _ | refine blk_drew ?_ | refine blk_alloc ?_ _));exact BK106.out⟩,⟨by repeat (first | (with_reducible first | exact HB.out | apply below_alloc | apply pw_below_drewN | apply below_drew1 | refine below_set ?_ GE101.out | refine below_set ?_ GE106.out) | exact HB.out)⟩⟩
  case round =>
   clear H'
   try clear c1
   try clear p2
   try clear c3
   try clear c5
   try clear c11
   try clear hcz12_0
   try clear hcz12_1
   try clear hcz12_2
   try clear hcz12_3
   try clear hcz12_4
   try clear hcz12_5
   try clear hcz12_6
   try clear hcz7_0
   try clear hcz7_1
   try clear hcz7_2
   try clear hcz7_3
   try clear hcz7_4
   try clear hcz7_5
   try clear hcz9_0
   try clear hcz9_1
   try clear hcz9_2
   try clear hcz9_3
   try clear hcz9_4
   try clear hcz9_5
   try clear hfz12_0
   try clear hfz12_1
   try clear hfz12_2
   try clear hfz12_3
   try clear hfz12_4
   try clear hfz12_5
   try clear hfz12_6
   try clear hfz7_0
   try clear hfz7_1
   try clear hfz7_2
   try clear hfz7_3
   try clear hfz7_4
   try clear hfz7_5
   try clear hfz9_0
   try clear hfz9_1
   try clear hfz9_2
   try clear hfz9_3
   try clear hfz9_4
   try clear hfz9_5
   obtain ⟨x8_1,x22_1,rfl,HA,HK1,HO_8,BK101,BK106,HB⟩:=hrel
   cases gk with
   | zero => exact absurd HA.out (by simp [mvs_Downgrade.l0])
   | succ k1 =>
    have H:=HA.out
    clear HA
    simp only [mvs_Downgrade.l0] at H
    by_cases c13 : x22_1 < (l0.length : Int)
    ·rw [if_pos c13] at H
     have c13b0:=decide_eq_true c13
     clear c13
     by_cases c14 : 0 ≤ x22_1
     ·rw [if_pos c14] at H
      have c14b0:=decide_eq_true c14
      clear c14
      by_cases c15 : x22_1 < (l0.length : Int)
      ·rw [if_pos c15] at H
       have c15b0:=decide_eq_true c15
       clear c15
       obtain ⟨t109,A160,H⟩:=Option.bind_eq_some_iff.mp H
       have A16:=Aside0.mk A160
       clear A160
       by_cases c17 : t109 = true
       ·subst c17
        rw [if_pos rfl] at H
        obtain ⟨⟨t110,t111,t112,t113,t114,t115,t116⟩,A180,H⟩:=Option.bind_eq_some_iff.mp H
        dsimp only at H
        have A18:=Aside0.mk A180
        clear A180
        by_cases c19 : t116 = true
        ·subst c19
         rw [if_pos rfl] at H
         by_cases c20 : x8_1.length < 1954687338268
         ·rw [if_pos c20] at H
          have LMc20:=Aside0.mk c20
          clear c20
          obtain ⟨y117,hy117⟩ : ∃ y_ : List (S41),y_ = (x8_1 ++ [(⟨t110,(⟨t111,t112,t113,t114,t115⟩ : S24)⟩ : S41)]):=⟨_,rfl⟩
          replace H : (mvs_Downgrade.l0 k1 y117 l0 (l0.length : Int) (wrap64 (x22_1 + 1)) a2_0 a2_1 a2_2 a2_3 a2_4 a2_5 l1) = some r:=by first | (rw [hy117];with_reducible exact H) | (have H2_:=(Option.bind_some _ _).symm.trans H;rw [hy117];with_reducible exact H2_) | (have H2_:=(Option.bind_some _ _).symm.trans H;with_reducible exact H2_) | with_reducible exact H | (rw [hy117];exact H) | exact H
          have Ny117:=Aside0.mk hy117
          clear hy117
          have H':=Aside0.mk H
          clear H
          have p107 : 0 ≤ (x22_1 : Int):=of_decide_eq_true q1_
          have q107 : x22_1 < (l0.length : Int):=of_decide_eq_true q1_
          obtain ⟨ad107,e107,hx107_0,hx107_1,hx107_2,hx107_3,hx107_4,hx107_5⟩:=at_T41 HR0.out x22_1 p107 q107
          cases e107
          replace hx107_0:=cl_ HB.out hx107_0
          replace hx107_1:=cl_ HB.out hx107_1
          replace hx107_2:=cl_ HB.out hx107_2
          replace hx107_3:=cl_ HB.out hx107_3
          replace hx107_4:=cl_ HB.out hx107_4
          replace hx107_5:=cl_ HB.out hx107_5
          replace p107:=eq_true p107
          replace q107:=eq_true q107
          go_wp2_with (first | ((with_reducible refine gate_dst (N:=10) rfl ?_);refine bx_ 10 41 #[.string (⟨#[]⟩ : ByteArray),.int .i64 0,.int .i64 0,.int .i64 0,.string (⟨#[]⟩ : ByteArray),.string (⟨#[]⟩ : ByteArray)] ?_;intro gb108 hg w21 hbox hb;replace HO_8:=Aside0.mk (Kd.R_below (Kd.R_elderB q31_ gb108 (Nat.le_of_eq hg.symm)) hb);have BK108:=Aside0.mk (hbox);have GW108:=Aside0.mk ((q20_ : w.heap.size ≤ gb108));have GE108:=Aside0.mk ((q20_ : w.heap.size ≤ gb108));replace HB:=Aside0.mk (below_step bh_ hb);have NB101_108:=Aside0.mk ((q47_ : gb101 ≠ gb108));have NB108_101:=Aside0.mk ((q48_ : gb108 ≠ gb101));replace BK101:=Aside0.mk (blk_below bk101_ hb);have NB106_108:=Aside0.mk ((q59_ : gb106 ≠ gb108));have NB108_106:=Aside0.mk ((q60_ : gb108 ≠ gb106));replace BK106:=Aside0.mk (blk_below bk106_ hb);clear hb hbox hg;have hnb22:=NB108_101.out;have hnc22:=NB101_108.out;have hnb23:=NB108_106.out;have hnc23:=NB106_108.out;have hcz24_0 : w21.cell? ⟨gb108,0,none⟩ = some (.string (⟨#[]⟩ : ByteArray)):=(blk_cell BK108.out 0).trans rfl;have hcz24_1 : w21.cell? ⟨gb108,1,none⟩ = some (.int .i64 0):=(blk_cell BK108.out 1).trans rfl;have hcz24_2 : w21.cell? ⟨gb108,2,none⟩ = some (.int .i64 0):=(blk_cell BK108.out 2).trans rfl;have hcz24_3 : w21.cell? ⟨gb108,3,none⟩ = some (.int .i64 0):=(blk_cell BK108.out 3).trans rfl;have hcz24_4 : w21.cell? ⟨gb108,4,none⟩ = some (.string (⟨#[]⟩ : ByteArray)):=(blk_cell BK108.out 4).trans rfl;have hcz24_5 : w21.cell? ⟨gb108,5,none⟩ = some (.string (⟨#[]⟩ : ByteArray)):=(blk_cell BK108.out 5).trans rfl;have hfz24_0:=blk_frozen BK108.out 0;have hfz24_1:=blk_frozen BK108.out 1;have hfz24_2:=blk_frozen BK108.out 2;have hfz24_3:=blk_frozen BK108.out 3;have hfz24_4:=blk_frozen BK108.out 4;have hfz24_5:=blk_frozen BK108.out 5;have hnb25:=NB106_101.out;have hnc25:=NB101_106.out;have hcz26_0 : w21.cell? ⟨gb106,0,none⟩ = some (.string a2_0):=(blk_cell BK106.out 0).trans rfl;have hcz26_1 : w21.cell? ⟨gb106,1,none⟩ = some (.int .i64 a2_1):=(blk_cell BK106.out 1).trans rfl;have hcz26_2 : w21.cell? ⟨gb106,2,none⟩ = some (.int .i64 a2_2):=(blk_cell BK106.out 2).trans rfl;have hcz26_3 : w21.cell? ⟨gb106,3,none⟩ = some (.int .i64 a2_3):=(blk_cell BK106.out 3).trans rfl;have hcz26_4 : w21.cell? ⟨gb106,4,none⟩ = some (.string a2_4):=(blk_cell BK106.out 4).trans rfl;have hcz26_5 : w21.cell? ⟨gb106,5,none⟩ = some (.string a2_5):=(blk_cell BK106.out 5).trans rfl;have hcz26_6 : w21.cell? ⟨gb106,6,none⟩ = some (.slice A1 l1.length c1):=(blk_cell BK106.out 6).trans rfl;have hfz26_0:=blk_frozen BK106.out 0;have hfz26_1:=blk_frozen BK106.out 1;have hfz26_2:=blk_frozen BK106.out 2;have hfz26_3:=blk_frozen BK106.out 3;have hfz26_4:=blk_frozen BK106.out 4;have hfz26_5:=blk_frozen BK106.out 5;have hfz26_6:=blk_frozen BK106.out 6) | ((with_reducible refine gate_callee (f:=62) rfl ?_);refine gl_ 28 Tryz.func62 #[.agg #[.string a2_0,.int .i64 a2_1,.int .i64 a2_2,.int .i64 a2_3,.string a2_4,.string a2_5,.slice A1 l1.length c1],.agg #[.string ((rd_T41 l0 x22_1).f0),.int .i64 ((rd_T41 l0 x22_1).f1.f0),.int .i64 ((rd_T41 l0 x22_1).f1.f1),.int .i64 ((rd_T41 l0 x22_1).f1.f2),.string ((rd_T41 l0 x22_1).f1.f3),.string ((rd_T41 l0 x22_1).f1.f4)]] ?_;(with_reducible refine (mvs_bound_out.calls a2_0 a2_1 a2_2 a2_3 a2_4 a2_5 _ _ l1 ((rd_T41 l0 x22_1).f0) ((rd_T41 l0 x22_1).f1.f0) ((rd_T41 l0 x22_1).f1.f1) ((rd_T41 l0 x22_1).f1.f2) ((rd_T41 l0 x22_1).f1.f3) ((rd_T41 l0 x22_1).f1.f4) true _ ?side1 ?side2 A16.out ?sideG).mono ?_);(case sideG => first | exact HG.out | exact Env.below HG.out bh_);(case side1 => exact Kd.C_below HR1.out bh_);(case side2 => exact HC1.out);rintro e w27 ⟨rfl,hb⟩;refine ⟨_,rfl,?_⟩;replace HO_8:=Aside0.mk (Kd.R_below q17_ hb);replace BK101:=Aside0.mk (blk_below (g:=gb101) (o:=.cells #[.string a2_0,.int .i64 a2_1,.int .i64 a2_2,.int .i64 a2_3,.string a2_4,.string a2_5] 41 (0,0)) q7_ hb);replace BK106:=Aside0.mk (blk_below (g:=gb106) (o:=.cells #[.string a2_0,.int .i64 a2_1,.int .i64 a2_2,.int .i64 a2_3,.string a2_4,.string a2_5,.slice A1 l1.length c1] 91 (0,0)) q11_ hb);replace BK108:=Aside0.mk (blk_below (g:=gb108) (o:=.cells #[.string ((rd_T41 l0 x22_1).f0),.int .i64 ((rd_T41 l0 x22_1).f1.f0),.int .i64 ((rd_T41 l0 x22_1).f1.f1),.int .i64 ((rd_T41 l0 x22_1).f1.f2),.string ((rd_T41 l0 x22_1).f1.f3),.string ((rd_T41 l0 x22_1).f1.f4)] 41 (0,0)) q6_ hb);replace HB:=Aside0.mk (below_step bh_ hb);(try clear hb);(try clear hb2);(try clear hk);(try clear hi);have hcz28_0 : w27.cell? ⟨gb106,0,none⟩ = some (.string a2_0):=(blk_cell BK106.out 0).trans rfl;have hcz28_1 : w27.cell? ⟨gb106,1,none⟩ = some (.int .i64 a2_1):=(blk_cell BK106.out 1).trans rfl;have hcz28_2 : w27.cell? ⟨gb106,2,none⟩ = some (.int .i64 a2_2):=(blk_cell BK106.out 2).trans rfl;have hcz28_3 : w27.cell? ⟨gb106,3,none⟩ = some (.int .i64 a2_3):=(blk_cell BK106.out 3).trans rfl;have hcz28_4 : w27.cell? ⟨gb106,4,none⟩ = some (.string a2_4):=(blk_cell BK106.out 4).trans rfl;have hcz28_5 : w27.cell? ⟨gb106,5,none⟩ = some (.string a2_5):=(blk_cell BK106.out 5).trans rfl;have hcz28_6 : w27.cell? ⟨gb106,6,none⟩ = some (.slice A1 l1.length c1):=(blk_cell BK106.out 6).trans rfl;have hfz28_0:=blk_frozen BK106.out 0;have hfz28_1:=blk_frozen BK106.out 1;have hfz28_2:=blk_frozen BK106.out 2;have hfz28_3:=blk_frozen BK106.out 3;have hfz28_4:=blk_frozen BK106.out 4;have hfz28_5:=blk_frozen BK106.out 5;have hfz28_6:=blk_frozen BK106.out 6;have hcz29_0 : w27.cell? ⟨gb108,0,none⟩ = some (.string ((rd_T41 l0 x22_1).f0)):=(blk_cell BK108.out 0).trans rfl;have hcz29_1 : w27.cell? ⟨gb108,1,none⟩ = some (.int .i64 ((rd_T41 l0 x22_1).f1.f0)):=(blk_cell BK108.out 1).trans rfl;have hcz29_2 : w27.cell? ⟨gb108,2,none⟩ = some (.int .i64 ((rd_T41 l0 x22_1).f1.f1)):=(blk_cell BK108.out 2).trans rfl;have hcz29_3 : w27.cell? ⟨gb108,3,none⟩ = some (.int .i64 ((rd_T41 l0 x22_1).f1.f2)):=(blk_cell BK108.out 3).trans rfl;have hcz29_4 : w27.cell? ⟨gb108,4,none⟩ = some (.string ((rd_T41 l0 x22_1).f1.f3)):=(blk_cell BK108.out 4).trans rfl;have hcz29_5 : w27.cell? ⟨gb108,5,none⟩ = some (.string ((rd_T41 l0 x22_1).f1.f4)):=(blk_cell BK108.out 5).trans rfl;have hfz29_0:=blk_frozen BK108.out 0;have hfz29_1:=blk_frozen BK108.out 1;have hfz29_2:=blk_frozen BK108.out 2;have hfz29_3:=blk_frozen BK108.out 3;have hfz29_4:=blk_frozen BK108.out 4;have hfz29_5:=blk_frozen BK108.out 5) | ((with_reducible refine gate_callee (f:=63) rfl ?_);refine gl_ 32 Tryz.func63 #[.agg #[.string a2_0,.int .i64 a2_1,.int .i64 a2_2,.int .i64 a2_3,.string a2_4,.string a2_5,.slice A1 l1.length c1],.agg #[.string ((rd_T41 l0 x22_1).f0),.int .i64 ((rd_T41 l0 x22_1).f1.f0),.int .i64 ((rd_T41 l0 x22_1).f1.f1),.int .i64 ((rd_T41 l0 x22_1).f1.f2),.string ((rd_T41 l0 x22_1).f1.f3),.string ((rd_T41 l0 x22_1).f1.f4)]] ?_;(with_reducible refine (mvs_bound_lower.calls a2_0 a2_1 a2_2 a2_3 a2_4 a2_5 _ _ l1 ((rd_T41 l0 x22_1).f0) ((rd_T41 l0 x22_1).f1.f0) ((rd_T41 l0 x22_1).f1.f1) ((rd_T41 l0 x22_1).f1.f2) ((rd_T41 l0 x22_1).f1.f3) ((rd_T41 l0 x22_1).f1.f4) t110 t111 t112 t113 t114 t115 true _ ?side1 ?side2 A18.out ?sideG).mono ?_);(case sideG => first | exact HG.out | exact Env.below HG.out bh_);(case side1 => repeat (first | exact (Kd.C_below HR1.out HB.out) | (with_reducible refine Kd.C_alloc ?_ _) | (with_reducible refine Kd.C_drewN ?_ _) | (with_reducible refine Kd.C_drew ?_)));(case side2 => exact HC1.out);rintro e w30 ⟨rfl,hb⟩;refine ⟨_,rfl,?_⟩;replace HO_8:=Aside0.mk (Kd.R_below q31_ hb);replace BK101:=Aside0.mk (blk_below bk101_ hb);replace BK106:=Aside0.mk (blk_below bk106_ hb);replace BK108:=Aside0.mk (blk_below bk108_ hb);replace HB:=Aside0.mk (below_step bh_ hb);(try clear hb);have hcz31_0 : w30.cell? ⟨gb108,0,none⟩ = some (.string ((rd_T41 l0 x22_1).f0)):=(blk_cell BK108.out 0).trans rfl;have hcz31_1 : w30.cell? ⟨gb108,1,none⟩ = some (.int .i64 ((rd_T41 l0 x22_1).f1.f0)):=(blk_cell BK108.out 1).trans rfl;have hcz31_2 : w30.cell? ⟨gb108,2,none⟩ = some (.int .i64 ((rd_T41 l0 x22_1).f1.f1)):=(blk_cell BK108.out 2).trans rfl;have hcz31_3 : w30.cell? ⟨gb108,3,none⟩ = some (.int .i64 ((rd_T41 l0 x22_1).f1.f2)):=(blk_cell BK108.out 3).trans rfl;have hcz31_4 : w30.cell? ⟨gb108,4,none⟩ = some (.string ((rd_T41 l0 x22_1).f1.f3)):=(blk_cell BK108.out 4).trans rfl;have hcz31_5 : w30.cell? ⟨gb108,5,none⟩ = some (.string ((rd_T41 l0 x22_1).f1.f4)):=(blk_cell BK108.out 5).trans rfl;have hfz31_0:=blk_frozen BK108.out 0;have hfz31_1:=blk_frozen BK108.out 1;have hfz31_2:=blk_frozen BK108.out 2;have hfz31_3:=blk_frozen BK108.out 3;have hfz31_4:=blk_frozen BK108.out 4;have hfz31_5:=blk_frozen BK108.out 5) | ((with_reducible refine gate_builtin (b:=.append) (xs:=#[.tmp 36,.tmp 38]) rfl ?_);at_builtin;refine Kd.R_append k41 (w0:=w) w.heap.size rfl (.tmp 36) (.tmp 38) 38 41 (.agg #[(.string ⟨#[]⟩),(.int .i64 0),(.int .i64 0),(.int .i64 0),(.string ⟨#[]⟩),(.string ⟨#[]⟩)]) 72 rfl Tryz.underlying38 info41 rfl q38_ q8_ u8 x8_1 (⟨t110,(⟨t111,t112,t113,t114,t115⟩ : S24)⟩ : S41) [.string t110,.int .i64 t111,.int .i64 t112,.int .i64 t113,.string t114,.string t115] (fun k_ => k_ ≠ gb101 ∧ k_ ≠ gb108) (fun _ => False) rfl (by first | (go_simp;done) | (go_simp;rfl)) ?aP (fun _ hk => hk.elim) ?aF ?aO ?aB ?aS ?aL ?_;(case aP => exact k41_mkM _ _ _ (⟨t110,(⟨t111,t112,t113,t114,t115⟩ : S24)⟩ : S41));(case aB => exact bh_);(case aF => exact (fun k_ hk => ⟨Kd.freshB (g:=gb101) (o:=.cells #[.string a2_0,.int .i64 a2_1,.int .i64 a2_2,.int .i64 a2_3,.string a2_4,.string a2_5] 41 (0,0)) q7_ k_ hk,Kd.freshB (g:=gb108) (o:=.cells #[.string t110,.int .i64 t111,.int .i64 t112,.int .i64 t113,.string t114,.string t115] 41 (0,0)) q16_ k_ hk⟩));(case aO => exact (by (with_reducible repeat (first | apply Kd.R_alloc | apply Kd.R_drewN | apply Kd.R_drew));exact Kd.R_mono (Kd.R_far (p:=⟨gb108,5,none⟩) (Kd.R_far (p:=⟨gb108,4,none⟩) (Kd.R_far (p:=⟨gb108,3,none⟩) (Kd.R_far (p:=⟨gb108,2,none⟩) (Kd.R_far (p:=⟨gb108,1,none⟩) (Kd.R_far (p:=⟨gb108,0,none⟩) (Kd.R_mono HO_8.out (fun k_ hk => (⟨hk,hk.2⟩ : _ ∧ k_ ≠ gb108))) (fun _ hk => hk.2) (.string t110)) (fun _ hk => hk.2) (.int .i64 t111)) (fun _ hk => hk.2) (.int .i64 t112)) (fun _ hk => hk.2) (.int .i64 t113)) (fun _ hk => hk.2) (.string t114)) (fun _ hk => hk.2) (.string t115)) (fun _ hk => ⟨hk.1.1,hk.1.2⟩)));(case aS => exact (below_size bh_));(case aL => have:=LMc20.out;omega);intro v118 w32 ho hb hg hat;rw [← Ny117.out] at ho;replace BK101:=Aside0.mk (blk_grown (g:=gb101) (o:=.cells #[.string a2_0,.int .i64 a2_1,.int .i64 a2_2,.int .i64 a2_3,.string a2_4,.string a2_5] 41 (0,0)) q7_ hg (Kd.R_away HO_8.out (fun _ hk => hk.1)));replace BK106:=Aside0.mk (blk_grown (g:=gb106) (o:=.cells #[.string a2_0,.int .i64 a2_1,.int .i64 a2_2,.int .i64 a2_3,.string a2_4,.string a2_5,.slice A1 l1.length c1] 91 (0,0)) q11_ hg (Kd.R_ne HO_8.out BK106.out q38_));replace BK108:=Aside0.mk (blk_grown (g:=gb108) (o:=.cells #[.string t110,.int .i64 t111,.int .i64 t112,.int .i64 t113,.string t114,.string t115] 41 (0,0)) q16_ hg (Kd.R_away HO_8.out (fun _ hk => hk.2)));replace HB:=Aside0.mk (hb);have HO119:=Aside0.mk (ho);clear HO_8;clear ho hb hg hat))
          go_roundg k1
          case measure => have:=HK1.out;omega
          case rel => exact ⟨(y117),(wrap64 (x22_1 + 1)),q5_,H',⟨by have:=HK1.out;omega⟩,⟨by (with_reducible repeat (first | apply Kd.R_alloc | apply Kd.R_drewN | apply Kd.R_drew));exact Kd.R_mono HO119.out (fun _ hk => hk.1)⟩,⟨by (with_reducible repeat (first | refine blk_drewN ?_ _ | refine blk_drew ?_ | refine blk_alloc ?_ _));exact BK101.out⟩,⟨by (with_reducible repeat (first | refine blk_drewN ?_ _ | refine blk_drew ?_ | refine blk_alloc ?_ _));exact BK106.out⟩,⟨by repeat (first | (with_reducible first | exact HB.out | apply below_alloc | apply pw_below_drewN | apply below_drew1 | refine below_set ?_ GE101.out | refine below_set ?_ GE106.out | refine below_set ?_ GE108.out) | exact HB.out)⟩⟩
         ·rw [if_neg c20] at H
          exact absurd H q44_
        ·replace c19:=Bool.eq_false_iff.mpr c19
         subst c19
         rw [if_neg (show ¬ (false = true) by decide)] at H
         have H':=Aside0.mk H
         clear H
         have p107 : 0 ≤ (x22_1 : Int):=of_decide_eq_true q1_
         have q107 : x22_1 < (l0.length : Int):=of_decide_eq_true q1_
         obtain ⟨ad107,e107,hx107_0,hx107_1,hx107_2,hx107_3,hx107_4,hx107_5⟩:=at_T41 HR0.out x22_1 p107 q107
         cases e107
         replace hx107_0:=cl_ HB.out hx107_0
         replace hx107_1:=cl_ HB.out hx107_1
         replace hx107_2:=cl_ HB.out hx107_2
         replace hx107_3:=cl_ HB.out hx107_3
         replace hx107_4:=cl_ HB.out hx107_4
         replace hx107_5:=cl_ HB.out hx107_5
         replace p107:=eq_true p107
         replace q107:=eq_true q107
         go_wp2_with (first | ((with_reducible refine gate_dst (N:=10) rfl ?_);refine bx_ 10 41 #[.string (⟨#[]⟩ : ByteArray),.int .i64 0,.int .i64 0,.int .i64 0,.string (⟨#[]⟩ : ByteArray),.string (⟨#[]⟩ : ByteArray)] ?_;intro gb108 hg w33 hbox hb;replace HO_8:=Aside0.mk (Kd.R_below (Kd.R_elderB q31_ gb108 (Nat.le_of_eq hg.symm)) hb);have BK108:=Aside0.mk (hbox);have GW108:=Aside0.mk ((q20_ : w.heap.size ≤ gb108));have GE108:=Aside0.mk ((q20_ : w.heap.size ≤ gb108));replace HB:=Aside0.mk (below_step bh_ hb);have NB101_108:=Aside0.mk ((q47_ : gb101 ≠ gb108));have NB108_101:=Aside0.mk ((q48_ : gb108 ≠ gb101));replace BK101:=Aside0.mk (blk_below bk101_ hb);have NB106_108:=Aside0.mk ((q59_ : gb106 ≠ gb108));have NB108_106:=Aside0.mk ((q60_ : gb108 ≠ gb106));replace BK106:=Aside0.mk (blk_below bk106_ hb);clear hb hbox hg;have hnb34:=NB108_101.out;have hnc34:=NB101_108.out;have hnb35:=NB108_106.out;have hnc35:=NB106_108.out;have hcz36_0 : w33.cell? ⟨gb108,0,none⟩ = some (.string (⟨#[]⟩ : ByteArray)):=(blk_cell BK108.out 0).trans rfl;have hcz36_1 : w33.cell? ⟨gb108,1,none⟩ = some (.int .i64 0):=(blk_cell BK108.out 1).trans rfl;have hcz36_2 : w33.cell? ⟨gb108,2,none⟩ = some (.int .i64 0):=(blk_cell BK108.out 2).trans rfl;have hcz36_3 : w33.cell? ⟨gb108,3,none⟩ = some (.int .i64 0):=(blk_cell BK108.out 3).trans rfl;have hcz36_4 : w33.cell? ⟨gb108,4,none⟩ = some (.string (⟨#[]⟩ : ByteArray)):=(blk_cell BK108.out 4).trans rfl;have hcz36_5 : w33.cell? ⟨gb108,5,none⟩ = some (.string (⟨#[]⟩ : ByteArray)):=(blk_cell BK108.out 5).trans rfl;have hfz36_0:=blk_frozen BK108.out 0;have hfz36_1:=blk_frozen BK108.out 1;have hfz36_2:=blk_frozen BK108.out 2;have hfz36_3:=blk_frozen BK108.out 3;have hfz36_4:=blk_frozen BK108.out 4;have hfz36_5:=blk_frozen BK108.out 5;have hnb37:=NB106_101.out;have hnc37:=NB101_106.out;have hcz38_0 : w33.cell? ⟨gb106,0,none⟩ = some (.string a2_0):=(blk_cell BK106.out 0).trans rfl;have hcz38_1 : w33.cell? ⟨gb106,1,none⟩ = some (.int .i64 a2_1):=(blk_cell BK106.out 1).trans rfl;have hcz38_2 : w33.cell? ⟨gb106,2,none⟩ = some (.int .i64 a2_2):=(blk_cell BK106.out 2).trans rfl;have hcz38_3 : w33.cell? ⟨gb106,3,none⟩ = some (.int .i64 a2_3):=(blk_cell BK106.out 3).trans rfl;have hcz38_4 : w33.cell? ⟨gb106,4,none⟩ = some (.string a2_4):=(blk_cell BK106.out 4).trans rfl;have hcz38_5 : w33.cell? ⟨gb106,5,none⟩ = some (.string a2_5):=(blk_cell BK106.out 5).trans rfl;have hcz38_6 : w33.cell? ⟨gb106,6,none⟩ = some (.slice A1 l1.length c1):=(blk_cell BK106.out 6).trans rfl;have hfz38_0:=blk_frozen BK106.out 0;have hfz38_1:=blk_frozen BK106.out 1;have hfz38_2:=blk_frozen BK106.out 2;have hfz38_3:=blk_frozen BK106.out 3;have hfz38_4:=blk_frozen BK106.out 4;have hfz38_5:=blk_frozen BK106.out 5;have hfz38_6:=blk_frozen BK106.out 6) | ((with_reducible refine gate_callee (f:=62) rfl ?_);refine gl_ 28 Tryz.func62 #[.agg #[.string a2_0,.int .i64 a2_1,.int .i64 a2_2,.int .i64 a2_3,.string a2_4,.string a2_5,.slice A1 l1.length c1],.agg #[.string ((rd_T41 l0 x22_1).f0),.int .i64 ((rd_T41 l0 x22_1).f1.f0),.int .i64 ((rd_T41 l0 x22_1).f1.f1),.int .i64 ((rd_T41 l0 x22_1).f1.f2),.string ((rd_T41 l0 x22_1).f1.f3),.string ((rd_T41 l0 x22_1).f1.f4)]] ?_;(with_reducible refine (mvs_bound_out.calls a2_0 a2_1 a2_2 a2_3 a2_4 a2_5 _ _ l1 ((rd_T41 l0 x22_1).f0) ((rd_T41 l0 x22_1).f1.f0) ((rd_T41 l0 x22_1).f1.f1) ((rd_T41 l0 x22_1).f1.f2) ((rd_T41 l0 x22_1).f1.f3) ((rd_T41 l0 x22_1).f1.f4) true _ ?side1 ?side2 A16.out ?sideG).mono ?_);(case sideG => first | exact HG.out | exact Env.below HG.out bh_);(case side1 => exact Kd.C_below HR1.out bh_);(case side2 => exact HC1.out);rintro e w39 ⟨rfl,hb⟩;refine ⟨_,rfl,?_⟩;replace HO_8:=Aside0.mk (Kd.R_below q17_ hb);replace BK101:=Aside0.mk (blk_below (g:=gb101) (o:=.cells #[.string a2_0,.int .i64 a2_1,.int .i64 a2_2,.int .i64 a2_3,.string a2_4,.string a2_5] 41 (0,0)) q7_ hb);replace BK106:=Aside0.mk (blk_below (g:=gb106) (o:=.cells #[.string a2_0,.int .i64 a2_1,.int .i64 a2_2,.int .i64 a2_3,.string a2_4,.string a2_5,.slice A1 l1.length c1] 91 (0,0)) q11_ hb);replace BK108:=Aside0.mk (blk_below (g:=gb108) (o:=.cells #[.string ((rd_T41 l0 x22_1).f0),.int .i64 ((rd_T41 l0 x22_1).f1.f0),.int .i64 ((rd_T41 l0 x22_1).f1.f1),.int .i64 ((rd_T41 l0 x22_1).f1.f2),.string ((rd_T41 l0 x22_1).f1.f3),.string ((rd_T41 l0 x22_1).f1.f4)] 41 (0,0)) q6_ hb);replace HB:=Aside0.mk (below_step bh_ hb);(try clear hb);(try clear hb2);(try clear hk);(try clear hi);have hcz40_0 : w39.cell? ⟨gb106,0,none⟩ = some (.string a2_0):=(blk_cell BK106.out 0).trans rfl;have hcz40_1 : w39.cell? ⟨gb106,1,none⟩ = some (.int .i64 a2_1):=(blk_cell BK106.out 1).trans rfl;have hcz40_2 : w39.cell? ⟨gb106,2,none⟩ = some (.int .i64 a2_2):=(blk_cell BK106.out 2).trans rfl;have hcz40_3 : w39.cell? ⟨gb106,3,none⟩ = some (.int .i64 a2_3):=(blk_cell BK106.out 3).trans rfl;have hcz40_4 : w39.cell? ⟨gb106,4,none⟩ = some (.string a2_4):=(blk_cell BK106.out 4).trans rfl;have hcz40_5 : w39.cell? ⟨gb106,5,none⟩ = some (.string a2_5):=(blk_cell BK106.out 5).trans rfl;have hcz40_6 : w39.cell? ⟨gb106,6,none⟩ = some (.slice A1 l1.length c1):=(blk_cell BK106.out 6).trans rfl;have hfz40_0:=blk_frozen BK106.out 0;have hfz40_1:=blk_frozen BK106.out 1;have hfz40_2:=blk_frozen BK106.out 2;have hfz40_3:=blk_frozen BK106.out 3;have hfz40_4:=blk_frozen BK106.out 4;have hfz40_5:=blk_frozen BK106.out 5;have hfz40_6:=blk_frozen BK106.out 6;have hcz41_0 : w39.cell? ⟨gb108,0,none⟩ = some (.string ((rd_T41 l0 x22_1).f0)):=(blk_cell BK108.out 0).trans rfl;have hcz41_1 : w39.cell? ⟨gb108,1,none⟩ = some (.int .i64 ((rd_T41 l0 x22_1).f1.f0)):=(blk_cell BK108.out 1).trans rfl;have hcz41_2 : w39.cell? ⟨gb108,2,none⟩ = some (.int .i64 ((rd_T41 l0 x22_1).f1.f1)):=(blk_cell BK108.out 2).trans rfl;have hcz41_3 : w39.cell? ⟨gb108,3,none⟩ = some (.int .i64 ((rd_T41 l0 x22_1).f1.f2)):=(blk_cell BK108.out 3).trans rfl;have hcz41_4 : w39.cell? ⟨gb108,4,none⟩ = some (.string ((rd_T41 l0 x22_1).f1.f3)):=(blk_cell BK108.out 4).trans rfl;have hcz41_5 : w39.cell? ⟨gb108,5,none⟩ = some (.string ((rd_T41 l0 x22_1).f1.f4)):=(blk_cell BK108.out 5).trans rfl;have hfz41_0:=blk_frozen BK108.out 0;have hfz41_1:=blk_frozen BK108.out 1;have hfz41_2:=blk_frozen BK108.out 2;have hfz41_3:=blk_frozen BK108.out 3;have hfz41_4:=blk_frozen BK108.out 4;have hfz41_5:=blk_frozen BK108.out 5) | ((with_reducible refine gate_callee (f:=63) rfl ?_);refine gl_ 32 Tryz.func63 #[.agg #[.string a2_0,.int .i64 a2_1,.int .i64 a2_2,.int .i64 a2_3,.string a2_4,.string a2_5,.slice A1 l1.length c1],.agg #[.string ((rd_T41 l0 x22_1).f0),.int .i64 ((rd_T41 l0 x22_1).f1.f0),.int .i64 ((rd_T41 l0 x22_1).f1.f1),.int .i64 ((rd_T41 l0 x22_1).f1.f2),.string ((rd_T41 l0 x22_1).f1.f3),.string ((rd_T41 l0 x22_1).f1.f4)]] ?_;(with_reducible refine (mvs_bound_lower.calls a2_0 a2_1 a2_2 a2_3 a2_4 a2_5 _ _ l1 ((rd_T41 l0 x22_1).f0) ((rd_T41 l0 x22_1).f1.f0) ((rd_T41 l0 x22_1).f1.f1) ((rd_T41 l0 x22_1).f1.f2) ((rd_T41 l0 x22_1).f1.f3) ((rd_T41 l0 x22_1).f1.f4) t110 t111 t112 t113 t114 t115 false _ ?side1 ?side2 A18.out ?sideG).mono ?_);(case sideG => first | exact HG.out | exact Env.below HG.out bh_);(case side1 => repeat (first | exact (Kd.C_below HR1.out HB.out) | (with_reducible refine Kd.C_alloc ?_ _) | (with_reducible refine Kd.C_drewN ?_ _) | (with_reducible refine Kd.C_drew ?_)));(case side2 => exact HC1.out);rintro e w42 ⟨rfl,hb⟩;refine ⟨_,rfl,?_⟩;replace HO_8:=Aside0.mk (Kd.R_below q31_ hb);replace BK101:=Aside0.mk (blk_below bk101_ hb);replace BK106:=Aside0.mk (blk_below bk106_ hb);replace BK108:=Aside0.mk (blk_below bk108_ hb);replace HB:=Aside0.mk (below_step bh_ hb);(try clear hb);have hcz43_0 : w42.cell? ⟨gb108,0,none⟩ = some (.string ((rd_T41 l0 x22_1).f0)):=(blk_cell BK108.out 0).trans rfl;have hcz43_1 : w42.cell? ⟨gb108,1,none⟩ = some (.int .i64 ((rd_T41 l0 x22_1).f1.f0)):=(blk_cell BK108.out 1).trans rfl;have hcz43_2 : w42.cell? ⟨gb108,2,none⟩ = some (.int .i64 ((rd_T41 l0 x22_1).f1.f1)):=(blk_cell BK108.out 2).trans rfl;have hcz43_3 : w42.cell? ⟨gb108,3,none⟩ = some (.int .i64 ((rd_T41 l0 x22_1).f1.f2)):=(blk_cell BK108.out 3).trans rfl;have hcz43_4 : w42.cell? ⟨gb108,4,none⟩ = some (.string ((rd_T41 l0 x22_1).f1.f3)):=(blk_cell BK108.out 4).trans rfl;have hcz43_5 : w42.cell? ⟨gb108,5,none⟩ = some (.string ((rd_T41 l0 x22_1).f1.f4)):=(blk_cell BK108.out 5).trans rfl;have hfz43_0:=blk_frozen BK108.out 0;have hfz43_1:=blk_frozen BK108.out 1;have hfz43_2:=blk_frozen BK108.out 2;have hfz43_3:=blk_frozen BK108.out 3;have hfz43_4:=blk_frozen BK108.out 4;have hfz43_5:=blk_frozen BK108.out 5))
         go_roundg k1
         case measure => have:=HK1.out;omega
         case rel => exact ⟨(x8_1),(wrap64 (x22_1 + 1)),q5_,H',⟨by have:=HK1.out;omega⟩,⟨by (with_reducible repeat (first | apply Kd.R_alloc | apply Kd.R_drewN | apply Kd.R_drew));exact Kd.R_mono (Kd.R_far (p:=⟨gb108,5,none⟩) (Kd.R_far (p:=⟨gb108,4,none⟩) (Kd.R_far (p:=⟨gb108,3,none⟩) (Kd.R_far (p:=⟨gb108,2,none⟩) (Kd.R_far (p:=⟨gb108,1,none⟩) (Kd.R_far (p:=⟨gb108,0,none⟩) (Kd.R_mono HO_8.out (fun k_ hk => (⟨hk,hk.2⟩ : _ ∧ k_ ≠ gb108))) (fun _ hk => hk.2) (.string t110)) (fun _ hk => hk.2) (.int .i64 t111)) (fun _ hk => hk.2) (.int .i64 t112)) (fun _ hk => hk.2) (.int .i64 t113)) (fun _ hk => hk.2) (.string t114)) (fun _ hk => hk.2) (.string t115)) (fun _ hk => hk.1.1)⟩,⟨by (with_reducible repeat (first | refine blk_drewN ?_ _ | refine blk_drew ?_ | refine blk_alloc ?_ _));refine blk_far ?_ NB101_108.out _;(with_reducible repeat (first | refine blk_drewN ?_ _ | refine blk_drew ?_ | refine blk_alloc ?_ _));refine blk_far ?_ NB101_108.out _;(with_reducible repeat (first | refine blk_drewN ?_ _ | refine blk_drew ?_ | refine blk_alloc ?_ _));refine blk_far ?_ NB101_108.out _;(with_reducible repeat (first | refine blk_drewN ?_ _ | refine blk_drew ?_ | refine blk_alloc ?_ _));refine blk_far ?_ NB101_108.out _;(with_reducible repeat (first | refine blk_drewN ?_ _ | refine blk_drew ?_ | refine blk_alloc ?_ _));refine blk_far ?_ NB101_108.out _;(with_reducible repeat (first | refine blk_drewN ?_ _ | refine blk_drew ?_ | refine blk_alloc ?_ _));refine blk_far ?_ NB101_108.out _;(with_reducible repeat (first | refine blk_drewN ?_ _ | refine blk_drew ?_ | refine blk_alloc ?_ _));exact BK101.out⟩,⟨by (with_reducible repeat (first | refine blk_drewN ?_ _ | refine blk_drew ?_ | refine blk_alloc ?_ _));refine blk_far ?_ NB106_108.out _;(with_reducible repeat (first | refine blk_drewN ?_ _ | refine blk_drew ?_ | refine blk_alloc ?_ _));refine blk_far ?_ NB106_108.out _;(with_reducible repeat (first | refine blk_drewN ?_ _ | refine blk_drew ?_ | refine blk_alloc ?_ _));refine blk_far ?_ NB106_108.out _;(with_reducible repeat (first | refine blk_drewN ?_ _ | refine blk_drew ?_ | refine blk_alloc ?_ _));refine blk_far ?_ NB106_108.out _;(with_reducible repeat (first | refine blk_drewN ?_ _ | refine blk_drew ?_ | refine blk_alloc ?_ _));refine blk_far ?_ NB106_108.out _;(with_reducible repeat (first | refine blk_drewN ?_ _ | refine blk_drew ?_ | refine blk_alloc ?_ _));refine blk_far ?_ NB106_108.out _;(with_reducible repeat (first | refine blk_drewN ?_ _ | refine blk_drew ?_ | refine blk_alloc ?_ _));exact BK106.out⟩,⟨by repeat (first | (with_reducible first | exact HB.out | apply below_alloc | apply pw_below_drewN | apply below_drew1 | refine below_set ?_ GE101.out | refine below_set ?_ GE106.out | refine below_set ?_ GE108.out) | exact HB.out)⟩⟩
       ·replace c17:=Bool.eq_false_iff.mpr c17
        subst c17
        rw [if_neg (show ¬ (false = true) by decide)] at H
        by_cases c44 : x8_1.length < 1954687338268
        ·rw [if_pos c44] at H
         have LMc44:=Aside0.mk c44
         clear c44
         obtain ⟨y120,hy120⟩ : ∃ y_ : List (S41),y_ = (x8_1 ++ [(⟨(rd_T41 l0 x22_1).f0,(⟨(rd_T41 l0 x22_1).f1.f0,(rd_T41 l0 x22_1).f1.f1,(rd_T41 l0 x22_1).f1.f2,(rd_T41 l0 x22_1).f1.f3,(rd_T41 l0 x22_1).f1.f4⟩ : S24)⟩ : S41)]):=⟨_,rfl⟩
         replace H : (mvs_Downgrade.l0 k1 y120 l0 (l0.length : Int) (wrap64 (x22_1 + 1)) a2_0 a2_1 a2_2 a2_3 a2_4 a2_5 l1) = some r:=by first | (rw [hy120];with_reducible exact H) | (have H2_:=(Option.bind_some _ _).symm.trans H;rw [hy120];with_reducible exact H2_) | (have H2_:=(Option.bind_some _ _).symm.trans H;with_reducible exact H2_) | with_reducible exact H | (rw [hy120];exact H) | exact H
         have Ny120:=Aside0.mk hy120
         clear hy120
         have H':=Aside0.mk H
         clear H
         have p107 : 0 ≤ (x22_1 : Int):=of_decide_eq_true q1_
         have q107 : x22_1 < (l0.length : Int):=of_decide_eq_true q1_
         obtain ⟨ad107,e107,hx107_0,hx107_1,hx107_2,hx107_3,hx107_4,hx107_5⟩:=at_T41 HR0.out x22_1 p107 q107
         cases e107
         replace hx107_0:=cl_ HB.out hx107_0
         replace hx107_1:=cl_ HB.out hx107_1
         replace hx107_2:=cl_ HB.out hx107_2
         replace hx107_3:=cl_ HB.out hx107_3
         replace hx107_4:=cl_ HB.out hx107_4
         replace hx107_5:=cl_ HB.out hx107_5
         replace p107:=eq_true p107
         replace q107:=eq_true q107
         go_wp2_with (first | ((with_reducible refine gate_dst (N:=10) rfl ?_);refine bx_ 10 41 #[.string (⟨#[]⟩ : ByteArray),.int .i64 0,.int .i64 0,.int .i64 0,.string (⟨#[]⟩ : ByteArray),.string (⟨#[]⟩ : ByteArray)] ?_;intro gb108 hg w45 hbox hb;replace HO_8:=Aside0.mk (Kd.R_below (Kd.R_elderB q31_ gb108 (Nat.le_of_eq hg.symm)) hb);have BK108:=Aside0.mk (hbox);have GW108:=Aside0.mk ((q20_ : w.heap.size ≤ gb108));have GE108:=Aside0.mk ((q20_ : w.heap.size ≤ gb108));replace HB:=Aside0.mk (below_step bh_ hb);have NB101_108:=Aside0.mk ((q47_ : gb101 ≠ gb108));have NB108_101:=Aside0.mk ((q48_ : gb108 ≠ gb101));replace BK101:=Aside0.mk (blk_below bk101_ hb);have NB106_108:=Aside0.mk ((q59_ : gb106 ≠ gb108));have NB108_106:=Aside0.mk ((q60_ : gb108 ≠ gb106));replace BK106:=Aside0.mk (blk_below bk106_ hb);clear hb hbox hg;have hnb46:=NB108_101.out;have hnc46:=NB101_108.out;have hnb47:=NB108_106.out;have hnc47:=NB106_108.out;have hcz48_0 : w45.cell? ⟨gb108,0,none⟩ = some (.string (⟨#[]⟩ : ByteArray)):=(blk_cell BK108.out 0).trans rfl;have hcz48_1 : w45.cell? ⟨gb108,1,none⟩ = some (.int .i64 0):=(blk_cell BK108.out 1).trans rfl;have hcz48_2 : w45.cell? ⟨gb108,2,none⟩ = some (.int .i64 0):=(blk_cell BK108.out 2).trans rfl;have hcz48_3 : w45.cell? ⟨gb108,3,none⟩ = some (.int .i64 0):=(blk_cell BK108.out 3).trans rfl;have hcz48_4 : w45.cell? ⟨gb108,4,none⟩ = some (.string (⟨#[]⟩ : ByteArray)):=(blk_cell BK108.out 4).trans rfl;have hcz48_5 : w45.cell? ⟨gb108,5,none⟩ = some (.string (⟨#[]⟩ : ByteArray)):=(blk_cell BK108.out 5).trans rfl;have hfz48_0:=blk_frozen BK108.out 0;have hfz48_1:=blk_frozen BK108.out 1;have hfz48_2:=blk_frozen BK108.out 2;have hfz48_3:=blk_frozen BK108.out 3;have hfz48_4:=blk_frozen BK108.out 4;have hfz48_5:=blk_frozen BK108.out 5;have hnb49:=NB106_101.out;have hnc49:=NB101_106.out;have hcz50_0 : w45.cell? ⟨gb106,0,none⟩ = some (.string a2_0):=(blk_cell BK106.out 0).trans rfl;have hcz50_1 : w45.cell? ⟨gb106,1,none⟩ = some (.int .i64 a2_1):=(blk_cell BK106.out 1).trans rfl;have hcz50_2 : w45.cell? ⟨gb106,2,none⟩ = some (.int .i64 a2_2):=(blk_cell BK106.out 2).trans rfl;have hcz50_3 : w45.cell? ⟨gb106,3,none⟩ = some (.int .i64 a2_3):=(blk_cell BK106.out 3).trans rfl;have hcz50_4 : w45.cell? ⟨gb106,4,none⟩ = some (.string a2_4):=(blk_cell BK106.out 4).trans rfl;have hcz50_5 : w45.cell? ⟨gb106,5,none⟩ = some (.string a2_5):=(blk_cell BK106.out 5).trans rfl;have hcz50_6 : w45.cell? ⟨gb106,6,none⟩ = some (.slice A1 l1.length c1):=(blk_cell BK106.out 6).trans rfl;have hfz50_0:=blk_frozen BK106.out 0;have hfz50_1:=blk_frozen BK106.out 1;have hfz50_2:=blk_frozen BK106.out 2;have hfz50_3:=blk_frozen BK106.out 3;have hfz50_4:=blk_frozen BK106.out 4;have hfz50_5:=blk_frozen BK106.out 5;have hfz50_6:=blk_frozen BK106.out 6) | ((with_reducible refine gate_callee (f:=62) rfl ?_);refine gl_ 28 Tryz.func62 #[.agg #[.string a2_0,.int .i64 a2_1,.int .i64 a2_2,.int .i64 a2_3,.string a2_4,.string a2_5,.slice A1 l1.length c1],.agg #[.string ((rd_T41 l0 x22_1).f0),.int .i64 ((rd_T41 l0 x22_1).f1.f0),.int .i64 ((rd_T41 l0 x22_1).f1.f1),.int .i64 ((rd_T41 l0 x22_1).f1.f2),.string ((rd_T41 l0 x22_1).f1.f3),.string ((rd_T41 l0 x22_1).f1.f4)]] ?_;(with_reducible refine (mvs_bound_out.calls a2_0 a2_1 a2_2 a2_3 a2_4 a2_5 _ _ l1 ((rd_T41 l0 x22_1).f0) ((rd_T41 l0 x22_1).f1.f0) ((rd_T41 l0 x22_1).f1.f1) ((rd_T41 l0 x22_1).f1.f2) ((rd_T41 l0 x22_1).f1.f3) ((rd_T41 l0 x22_1).f1.f4) false _ ?side1 ?side2 A16.out ?sideG).mono ?_);(case sideG => first | exact HG.out | exact Env.below HG.out bh_);(case side1 => exact Kd.C_below HR1.out bh_);(case side2 => exact HC1.out);rintro e w51 ⟨rfl,hb⟩;refine ⟨_,rfl,?_⟩;replace HO_8:=Aside0.mk (Kd.R_below q17_ hb);replace BK101:=Aside0.mk (blk_below (g:=gb101) (o:=.cells #[.string a2_0,.int .i64 a2_1,.int .i64 a2_2,.int .i64 a2_3,.string a2_4,.string a2_5] 41 (0,0)) q7_ hb);replace BK106:=Aside0.mk (blk_below (g:=gb106) (o:=.cells #[.string a2_0,.int .i64 a2_1,.int .i64 a2_2,.int .i64 a2_3,.string a2_4,.string a2_5,.slice A1 l1.length c1] 91 (0,0)) q11_ hb);replace BK108:=Aside0.mk (blk_below (g:=gb108) (o:=.cells #[.string ((rd_T41 l0 x22_1).f0),.int .i64 ((rd_T41 l0 x22_1).f1.f0),.int .i64 ((rd_T41 l0 x22_1).f1.f1),.int .i64 ((rd_T41 l0 x22_1).f1.f2),.string ((rd_T41 l0 x22_1).f1.f3),.string ((rd_T41 l0 x22_1).f1.f4)] 41 (0,0)) q6_ hb);replace HB:=Aside0.mk (below_step bh_ hb);(try clear hb);(try clear hb2);(try clear hk);(try clear hi);have hcz52_0 : w51.cell? ⟨gb108,0,none⟩ = some (.string ((rd_T41 l0 x22_1).f0)):=(blk_cell BK108.out 0).trans rfl;have hcz52_1 : w51.cell? ⟨gb108,1,none⟩ = some (.int .i64 ((rd_T41 l0 x22_1).f1.f0)):=(blk_cell BK108.out 1).trans rfl;have hcz52_2 : w51.cell? ⟨gb108,2,none⟩ = some (.int .i64 ((rd_T41 l0 x22_1).f1.f1)):=(blk_cell BK108.out 2).trans rfl;have hcz52_3 : w51.cell? ⟨gb108,3,none⟩ = some (.int .i64 ((rd_T41 l0 x22_1).f1.f2)):=(blk_cell BK108.out 3).trans rfl;have hcz52_4 : w51.cell? ⟨gb108,4,none⟩ = some (.string ((rd_T41 l0 x22_1).f1.f3)):=(blk_cell BK108.out 4).trans rfl;have hcz52_5 : w51.cell? ⟨gb108,5,none⟩ = some (.string ((rd_T41 l0 x22_1).f1.f4)):=(blk_cell BK108.out 5).trans rfl;have hfz52_0:=blk_frozen BK108.out 0;have hfz52_1:=blk_frozen BK108.out 1;have hfz52_2:=blk_frozen BK108.out 2;have hfz52_3:=blk_frozen BK108.out 3;have hfz52_4:=blk_frozen BK108.out 4;have hfz52_5:=blk_frozen BK108.out 5) | ((with_reducible refine gate_builtin (b:=.append) (xs:=#[.tmp 36,.tmp 38]) rfl ?_);at_builtin;refine Kd.R_append k41 (w0:=w) w.heap.size rfl (.tmp 36) (.tmp 38) 38 41 (.agg #[(.string ⟨#[]⟩),(.int .i64 0),(.int .i64 0),(.int .i64 0),(.string ⟨#[]⟩),(.string ⟨#[]⟩)]) 72 rfl Tryz.underlying38 info41 rfl q38_ q8_ u8 x8_1 (⟨(rd_T41 l0 x22_1).f0,(⟨(rd_T41 l0 x22_1).f1.f0,(rd_T41 l0 x22_1).f1.f1,(rd_T41 l0 x22_1).f1.f2,(rd_T41 l0 x22_1).f1.f3,(rd_T41 l0 x22_1).f1.f4⟩ : S24)⟩ : S41) [.string ((rd_T41 l0 x22_1).f0),.int .i64 ((rd_T41 l0 x22_1).f1.f0),.int .i64 ((rd_T41 l0 x22_1).f1.f1),.int .i64 ((rd_T41 l0 x22_1).f1.f2),.string ((rd_T41 l0 x22_1).f1.f3),.string ((rd_T41 l0 x22_1).f1.f4)] (fun k_ => k_ ≠ gb101 ∧ k_ ≠ gb108) (fun _ => False) rfl rfl ?aP (fun _ hk => hk.elim) ?aF ?aO ?aB ?aS ?aL ?_;(case aP => exact k41_mkM _ _ _ (⟨(rd_T41 l0 x22_1).f0,(⟨(rd_T41 l0 x22_1).f1.f0,(rd_T41 l0 x22_1).f1.f1,(rd_T41 l0 x22_1).f1.f2,(rd_T41 l0 x22_1).f1.f3,(rd_T41 l0 x22_1).f1.f4⟩ : S24)⟩ : S41));(case aB => exact bh_);(case aF => exact (fun k_ hk => ⟨Kd.freshB bk101_ k_ hk,Kd.freshB bk108_ k_ hk⟩));(case aO => exact q31_);(case aS => exact (below_size bh_));(case aL => have:=LMc44.out;omega);intro v121 w53 ho hb hg hat;rw [← Ny120.out] at ho;replace BK101:=Aside0.mk (blk_grown bk101_ hg (Kd.R_away HO_8.out (fun _ hk => hk.1)));replace BK106:=Aside0.mk (blk_grown bk106_ hg (Kd.R_ne HO_8.out BK106.out q38_));replace BK108:=Aside0.mk (blk_grown bk108_ hg (Kd.R_away HO_8.out (fun _ hk => hk.2)));replace HB:=Aside0.mk (hb);have HO122:=Aside0.mk (ho);clear HO_8;clear ho hb hg hat))
         go_roundg k1
         case measure => have:=HK1.out;omega
         case rel => exact ⟨(y120),(wrap64 (x22_1 + 1)),q5_,H',⟨by have:=HK1.out;omega⟩,⟨by (with_reducible repeat (first | apply Kd.R_alloc | apply Kd.R_drewN | apply Kd.R_drew));exact Kd.R_mono HO122.out (fun _ hk => hk.1)⟩,⟨by (with_reducible repeat (first | refine blk_drewN ?_ _ | refine blk_drew ?_ | refine blk_alloc ?_ _));exact BK101.out⟩,⟨by (with_reducible repeat (first | refine blk_drewN ?_ _ | refine blk_drew ?_ | refine blk_alloc ?_ _));exact BK106.out⟩,⟨by repeat (first | (with_reducible first | exact HB.out | apply below_alloc | apply pw_below_drewN | apply below_drew1 | refine below_set ?_ GE101.out | refine below_set ?_ GE106.out | refine below_set ?_ GE108.out) | exact HB.out)⟩⟩
        ·rw [if_neg c44] at H
         exact absurd H q44_
      ·rw [if_neg c15] at H
       exact absurd H q44_
     ·rw [if_neg c14] at H
      exact absurd H q44_
    ·rw [if_neg c13] at H
     have c13b0:=decide_eq_false c13
     clear c13
     obtain rfl:=Option.some.inj H
     go_wp2
     go_ret
     exact ⟨_,by first | rfl | (simp [] <;> rfl) | (simp [*] <;> rfl) | (simp [bne_nil_];done) | (simp [*,bne_nil_];done),by (with_reducible repeat (first | apply Kd.R_alloc | apply Kd.R_drewN | apply Kd.R_drew));exact Kd.R_mono HO_8.out (fun _ hk => trivial),by repeat (first | (with_reducible first | exact HB.out | apply below_alloc | apply pw_below_drewN | apply below_drew1 | refine below_set ?_ GE101.out | refine below_set ?_ GE106.out) | exact HB.out)⟩
 ·replace c5:=Bool.eq_false_iff.mpr c5
  subst c5
  rw [if_neg (show ¬ (false = true) by decide)] at H
  obtain ⟨t103,A540,H⟩:=Option.bind_eq_some_iff.mp H
  have A54:=Aside0.mk A540
  clear A540
  obtain rfl:=Option.some.inj H
  go_enter Tryz.func31,Tryz.ntmps31
  go_wp2_with (first | ((with_reducible refine gate_dst (N:=5) rfl ?_);refine bx_ 5 41 #[.string a2_0,.int .i64 a2_1,.int .i64 a2_2,.int .i64 a2_3,.string a2_4,.string a2_5] ?_;intro gb101 hg w55 hbox hb;have BK101:=Aside0.mk (hbox);have GW101:=Aside0.mk ((q20_ : w.heap.size ≤ gb101));have GE101:=Aside0.mk ((q20_ : w.heap.size ≤ gb101));replace HB:=Aside0.mk (below_step bh_ hb);clear hb hbox hg;have hcz56_0 : w55.cell? ⟨gb101,0,none⟩ = some (.string a2_0):=(blk_cell BK101.out 0).trans rfl;have hcz56_1 : w55.cell? ⟨gb101,1,none⟩ = some (.int .i64 a2_1):=(blk_cell BK101.out 1).trans rfl;have hcz56_2 : w55.cell? ⟨gb101,2,none⟩ = some (.int .i64 a2_2):=(blk_cell BK101.out 2).trans rfl;have hcz56_3 : w55.cell? ⟨gb101,3,none⟩ = some (.int .i64 a2_3):=(blk_cell BK101.out 3).trans rfl;have hcz56_4 : w55.cell? ⟨gb101,4,none⟩ = some (.string a2_4):=(blk_cell BK101.out 4).trans rfl;have hcz56_5 : w55.cell? ⟨gb101,5,none⟩ = some (.string a2_5):=(blk_cell BK101.out 5).trans rfl;have hfz56_0:=blk_frozen BK101.out 0;have hfz56_1:=blk_frozen BK101.out 1;have hfz56_2:=blk_frozen BK101.out 2;have hfz56_3:=blk_frozen BK101.out 3;have hfz56_4:=blk_frozen BK101.out 4;have hfz56_5:=blk_frozen BK101.out 5) | ((with_reducible refine gate_callee (f:=59) rfl ?_);refine gl_ 13 Tryz.func59 #[.agg #[.string a2_0,.int .i64 a2_1,.int .i64 a2_2,.int .i64 a2_3,.string a2_4,.string a2_5]] ?_;(with_reducible refine (mvs_may.calls k a2_0 a2_1 a2_2 a2_3 a2_4 a2_5 false _ A4.out ?sideG).mono ?_);(case sideG => first | exact HG.out | exact Env.below HG.out bh_);rintro e w57 ⟨rfl,hb⟩;refine ⟨_,rfl,?_⟩;replace BK101:=Aside0.mk (blk_below bk101_ hb);replace HB:=Aside0.mk (below_step bh_ hb);(try clear hb)) | ((with_reducible refine gate_callee (f:=58) rfl ?_);refine gl_ 16 Tryz.func58 #[.slice A0 l0.length c0] ?_;(with_reducible refine (slices_Clone_apiReq.calls _ _ l0 t103 _ ?side1 ?side2 A54.out).mono ?_);(case side1 => repeat (first | exact (Kd.C_below HR0.out HB.out) | (with_reducible refine Kd.C_alloc ?_ _) | (with_reducible refine Kd.C_drewN ?_ _) | (with_reducible refine Kd.C_drew ?_)));(case side2 => exact HC0.out);rintro e w58 ⟨v104,rfl,ho0,hb⟩;refine ⟨_,rfl,?_⟩;have HO105:=Aside0.mk (Kd.R_lower (Kd.R_newB ho0 bk101_) (below_size bh_));replace BK101:=Aside0.mk (blk_below bk101_ hb);replace HB:=Aside0.mk (below_step bh_ hb);(try clear hb);(try clear ho0)))
  go_ret
  exact ⟨_,by first | rfl | (simp [] <;> rfl) | (simp [*] <;> rfl) | (simp [bne_nil_];done) | (simp [*,bne_nil_];done),by (with_reducible repeat (first | apply Kd.R_alloc | apply Kd.R_drewN | apply Kd.R_drew));exact Kd.R_mono HO105.out (fun _ hk => trivial),by repeat (first | (with_reducible first | exact HB.out | apply below_alloc | apply pw_below_drewN | apply below_drew1 | refine below_set ?_ GE101.out) | exact HB.out)⟩
end Go.Proofs.YtennhpoemdaghaaGreatDoor.P
end
section
namespace Go.Proofs.YtennhpoemdaghaaGreatDoor.P
open Go Go.RowKit Go.Proofs.YtennhpoemdaghaaGreatDoorW.PrintWords Go.Proofs.YtennhpoemdaghaaGreatDoorW.PrintLast Go.Proofs.YtennhpoemdaghaaGreatDoorW.PrintMore
set_option maxRecDepth 100000 in
set_option maxHeartbeats 4000000 in
theorem up1_calls (y r : Req) (g3 : Nat) (w : World) (hb3 : w.heap[g3]? = some (.cells #[.string r.f0,.int .i64 r.f1.f0,.int .i64 r.f1.f1,.int .i64 r.f1.f2,.string r.f1.f3,.string r.f1.f4] 41 (0,0))) :
  Calls Tryz.prog 61 #[.agg #[.string y.f0,.int .i64 y.f1.f0,.int .i64 y.f1.f1,.int .i64 y.f1.f2,.string y.f1.f3,.string y.f1.f4],.pointer (some ⟨g3,0,none⟩)] w fun e w' => e = .returned (.bool (y.f0.toList == r.f0.toList)) ∧ Below w.heap.size w w':=by
 have BK:=Aside0.mk hb3
 have HB:=Aside0.mk (Below.refl w.heap.size w)
 clear hb3
 go_enter Tryz.func61,Tryz.ntmps61
 go_wp2_with (first | ((with_reducible refine gate_dst (N:=2) rfl ?_);refine bx_ 2 41 #[.string y.f0,.int .i64 y.f1.f0,.int .i64 y.f1.f1,.int .i64 y.f1.f2,.string y.f1.f3,.string y.f1.f4] ?_;intro g2 hg_ w2 hbox hb_;clear hg_;replace BK:=Aside0.mk (blk_below BK.out hb_);replace HB:=Aside0.mk (below_then HB.out HB.out.size hb_);have B2:=Aside0.mk hbox;clear hbox hb_;have hz0 : w2.cell? ⟨g3,0,none⟩ = some _:=(blk_cell BK.out 0).trans rfl;have hz1 : w2.cell? ⟨g3,1,none⟩ = some _:=(blk_cell BK.out 1).trans rfl;have hz2 : w2.cell? ⟨g3,2,none⟩ = some _:=(blk_cell BK.out 2).trans rfl;have hz3 : w2.cell? ⟨g3,3,none⟩ = some _:=(blk_cell BK.out 3).trans rfl;have hz4 : w2.cell? ⟨g3,4,none⟩ = some _:=(blk_cell BK.out 4).trans rfl;have hz5 : w2.cell? ⟨g3,5,none⟩ = some _:=(blk_cell BK.out 5).trans rfl;have hy0 : w2.cell? ⟨g2,0,none⟩ = some _:=(blk_cell B2.out 0).trans rfl;have hy1 : w2.cell? ⟨g2,1,none⟩ = some _:=(blk_cell B2.out 1).trans rfl;have hy2 : w2.cell? ⟨g2,2,none⟩ = some _:=(blk_cell B2.out 2).trans rfl;have hy3 : w2.cell? ⟨g2,3,none⟩ = some _:=(blk_cell B2.out 3).trans rfl;have hy4 : w2.cell? ⟨g2,4,none⟩ = some _:=(blk_cell B2.out 4).trans rfl;have hy5 : w2.cell? ⟨g2,5,none⟩ = some _:=(blk_cell B2.out 5).trans rfl))
 go_ret
 exact ⟨(by first | rfl | (simp;done)),HB.out⟩
def upP (root : List Req) (r : Req) : Option (List Req) :=
 if root.length ≤ 1000000 then (mayP r).bind fun m => if m then
  (match (idxP (fun y : Req => y.f0.toList == r.f0.toList) root 0) with
  | .negSucc _ => some (root ++ [r])
  | .ofNat j => if h : j < root.length then (mayP root[j]).bind fun mj => if mj then (cmpP root[j] r).bind fun c => some (if c < 0 then root.set j r else root) else some (root.set j r) else none)
  else some root
 else none
theorem idxP_cases {α : Type} (pred : α → Bool) : ∀ (l : List α) (i : Nat),idxP pred l i = -1 ∨ ∃ j : Nat,idxP pred l i = (j : Int)
 | [],_ => .inl rfl
 | x :: xs,i => by
  rw [idxP]
  cases pred x
  ·simpa using idxP_cases pred xs (i + 1)
  ·exact .inr ⟨i,by simp⟩
theorem elemZ {w : World} {ad : Addr} {l : List Req} {z : Req} (h : Kd.C k41 w (some ad) l.length l) (j : Nat) (hj : j < l.length) (hz : rd_T41 l (j : Int) = z) :
  w.cell? (ad.add (j * 6)) = some (.string z.f0) ∧ w.cell? ⟨(ad.add (j * 6)).block,(ad.add (j * 6)).off + 1,none⟩ = some (.int .i64 z.f1.f0) ∧ w.cell? ⟨(ad.add (j * 6)).block,(ad.add (j * 6)).off + 2,none⟩ = some (.int .i64 z.f1.f1) ∧ w.cell? ⟨(ad.add (j * 6)).block,(ad.add (j * 6)).off + 3,none⟩ = some (.int .i64 z.f1.f2) ∧ w.cell? ⟨(ad.add (j * 6)).block,(ad.add (j * 6)).off + 4,none⟩ = some (.string z.f1.f3) ∧ w.cell? ⟨(ad.add (j * 6)).block,(ad.add (j * 6)).off + 5,none⟩ = some (.string z.f1.f4):=by
 obtain ⟨ad',e1,h0,h1,h2,h3,h4,h5⟩:=at_T41 h (j : Int) q8_ q8_
 cases e1
 simp only [Int.toNat_natCast,hz] at h0 h1 h2 h3 h4 h5
 exact ⟨h0,h1,h2,h3,h4,h5⟩
theorem addr0 (gg n : Nat) : Addr.add ⟨gg,0,none⟩ n = ⟨gg,n,none⟩:=by
 cases n with
 | zero => rfl
 | succ n => simp [Addr.add]
set_option maxRecDepth 100000 in
set_option maxHeartbeats 8000000 in
theorem up_calls (A0 : Option Addr) (c0 : Nat) (l0 : List Req) (r : Req) (res : List Req) (w : World) (hr0 : Kd.C k41 w A0 l0.length l0) (hc0 : l0.length ≤ c0) (h : upP l0 r = some res) (hG : Env w) :
  Calls Tryz.prog 29 #[.slice A0 l0.length c0,.agg #[.string r.f0,.int .i64 r.f1.f0,.int .i64 r.f1.f1,.int .i64 r.f1.f2,.string r.f1.f3,.string r.f1.f4]] w fun e w' => ∃ v0_ : Value,e = .returned (v0_) ∧ Kd.R k41 41 w' w.heap.size (fun _ => True) v0_ res ∧ Below w.heap.size w w':=by
 unfold upP at h
 split at h
 case isFalse => exact absurd h q44_
 case isTrue hsz =>
 have HR0:=Aside0.mk hr0
 have HC0:=Aside0.mk hc0
 have HE:=Aside0.mk hG
 clear hr0 hc0 hG
 obtain ⟨m,hmay,h⟩:=Option.bind_eq_some_iff.mp h
 replace hmay : mvs_may.f fuelR r.f0 r.f1.f0 r.f1.f1 r.f1.f2 r.f1.f3 r.f1.f4 = some m:=hmay
 cases m with
 | false =>
  obtain rfl:=Option.some.inj h
  go_enter Tryz.func29,Tryz.ntmps29
  go_wp2_with (first | ((with_reducible refine gate_dst (N:=3) rfl ?_);refine bx_ 3 41 #[.string r.f0,.int .i64 r.f1.f0,.int .i64 r.f1.f1,.int .i64 r.f1.f2,.string r.f1.f3,.string r.f1.f4] ?_;intro g3 hg_ w3 hbox hb_;have G3:=Aside0.mk ((by rw [hg_];exact Nat.le_refl _) : w.heap.size ≤ g3);clear hg_;have HB:=Aside0.mk hb_;have BK:=Aside0.mk hbox;clear hbox hb_) | (go_at_call 58;refine (slices_Clone_apiReq.calls A0 c0 l0 l0 _ (Kd.C_below HR0.out HB.out) HC0.out (if_pos hsz)).mono ?_;rintro e w4 ⟨v4,rfl,hR4,hb4⟩;have HO:=Aside0.mk (Kd.R_lower (Kd.R_mono (Kd.R_bound hR4) (fun k hk => (by have h_:=hk.2.1;have h2_:=blk_lt BK.out;omega : k ≠ g3))) HB.out.size);replace BK:=Aside0.mk (blk_below BK.out hb4);replace HB:=Aside0.mk (below_then HB.out HB.out.size hb4);clear hR4 hb4;obtain ⟨A4,c4,rfl⟩:=Kd.R_slice HO.out;have hz0 : w4.cell? ⟨g3,0,none⟩ = some _:=(blk_cell BK.out 0).trans rfl;have hz1 : w4.cell? ⟨g3,1,none⟩ = some _:=(blk_cell BK.out 1).trans rfl;have hz2 : w4.cell? ⟨g3,2,none⟩ = some _:=(blk_cell BK.out 2).trans rfl;have hz3 : w4.cell? ⟨g3,3,none⟩ = some _:=(blk_cell BK.out 3).trans rfl;have hz4 : w4.cell? ⟨g3,4,none⟩ = some _:=(blk_cell BK.out 4).trans rfl;have hz5 : w4.cell? ⟨g3,5,none⟩ = some _:=(blk_cell BK.out 5).trans rfl) | (go_at_call 59;(with_reducible refine (mvs_may.calls fuelR r.f0 r.f1.f0 r.f1.f1 r.f1.f2 r.f1.f3 r.f1.f4 false _ hmay ?sideG).mono ?_);(case sideG => exact Env.below HE.out HB.out);rintro e wma ⟨rfl,hb_⟩;replace BK:=Aside0.mk (blk_below BK.out hb_);replace HO:=Aside0.mk (Kd.R_below HO.out hb_);replace HB:=Aside0.mk (below_then HB.out HB.out.size hb_);clear hb_;have hma0 : wma.cell? ⟨g3,0,none⟩ = some _:=(blk_cell BK.out 0).trans rfl;have hma1 : wma.cell? ⟨g3,1,none⟩ = some _:=(blk_cell BK.out 1).trans rfl;have hma2 : wma.cell? ⟨g3,2,none⟩ = some _:=(blk_cell BK.out 2).trans rfl;have hma3 : wma.cell? ⟨g3,3,none⟩ = some _:=(blk_cell BK.out 3).trans rfl;have hma4 : wma.cell? ⟨g3,4,none⟩ = some _:=(blk_cell BK.out 4).trans rfl;have hma5 : wma.cell? ⟨g3,5,none⟩ = some _:=(blk_cell BK.out 5).trans rfl))
  go_ret
  exact ⟨_,rfl,Kd.R_mono HO.out (fun _ _ => trivial),HB.out⟩
 | true =>
  rw [if_pos rfl] at h
  rcases idxP_cases (fun y : Req => y.f0.toList == r.f0.toList) l0 0 with hix | ⟨j,hix⟩
  ·rw [hix] at h
   obtain rfl:=Option.some.inj h
   go_enter Tryz.func29,Tryz.ntmps29
   go_wp2_with (first | ((with_reducible refine gate_dst (N:=3) rfl ?_);refine bx_ 3 41 #[.string r.f0,.int .i64 r.f1.f0,.int .i64 r.f1.f1,.int .i64 r.f1.f2,.string r.f1.f3,.string r.f1.f4] ?_;intro g3 hg_ w3 hbox hb_;have G3:=Aside0.mk ((by rw [hg_];exact Nat.le_refl _) : w.heap.size ≤ g3);clear hg_;have HB:=Aside0.mk hb_;have BK:=Aside0.mk hbox;clear hbox hb_) | (go_at_call 58;refine (slices_Clone_apiReq.calls A0 c0 l0 l0 _ (Kd.C_below HR0.out HB.out) HC0.out (if_pos hsz)).mono ?_;rintro e w4 ⟨v4,rfl,hR4,hb4⟩;have HO:=Aside0.mk (Kd.R_lower (Kd.R_mono (Kd.R_bound hR4) (fun k hk => (by have h_:=hk.2.1;have h2_:=blk_lt BK.out;omega : k ≠ g3))) HB.out.size);replace BK:=Aside0.mk (blk_below BK.out hb4);replace HB:=Aside0.mk (below_then HB.out HB.out.size hb4);clear hR4 hb4;obtain ⟨A4,c4,rfl⟩:=Kd.R_slice HO.out;have hz0 : w4.cell? ⟨g3,0,none⟩ = some _:=(blk_cell BK.out 0).trans rfl;have hz1 : w4.cell? ⟨g3,1,none⟩ = some _:=(blk_cell BK.out 1).trans rfl;have hz2 : w4.cell? ⟨g3,2,none⟩ = some _:=(blk_cell BK.out 2).trans rfl;have hz3 : w4.cell? ⟨g3,3,none⟩ = some _:=(blk_cell BK.out 3).trans rfl;have hz4 : w4.cell? ⟨g3,4,none⟩ = some _:=(blk_cell BK.out 4).trans rfl;have hz5 : w4.cell? ⟨g3,5,none⟩ = some _:=(blk_cell BK.out 5).trans rfl) | (go_at_call 59;(with_reducible refine (mvs_may.calls fuelR r.f0 r.f1.f0 r.f1.f1 r.f1.f2 r.f1.f3 r.f1.f4 true _ hmay ?sideG).mono ?_);(case sideG => exact Env.below HE.out HB.out);rintro e wma ⟨rfl,hb_⟩;replace BK:=Aside0.mk (blk_below BK.out hb_);replace HO:=Aside0.mk (Kd.R_below HO.out hb_);replace HB:=Aside0.mk (below_then HB.out HB.out.size hb_);clear hb_;have hma0 : wma.cell? ⟨g3,0,none⟩ = some _:=(blk_cell BK.out 0).trans rfl;have hma1 : wma.cell? ⟨g3,1,none⟩ = some _:=(blk_cell BK.out 1).trans rfl;have hma2 : wma.cell? ⟨g3,2,none⟩ = some _:=(blk_cell BK.out 2).trans rfl;have hma3 : wma.cell? ⟨g3,3,none⟩ = some _:=(blk_cell BK.out 3).trans rfl;have hma4 : wma.cell? ⟨g3,4,none⟩ = some _:=(blk_cell BK.out 4).trans rfl;have hma5 : wma.cell? ⟨g3,5,none⟩ = some _:=(blk_cell BK.out 5).trans rfl) | (go_at_call 60;(with_reducible refine (indexUp A4 c4 l0 g3 (fun y => y.f0.toList == r.f0.toList) _ (Kd.R_reads' HO.out).2.2 (Kd.R_reads' HO.out).2.1 ?cl).mono ?_);(case cl => exact fun y W hy hb => up1_calls y r g3 W (blk_below BK.out hb));rintro e w5 ⟨rfl,hb_⟩;replace BK:=Aside0.mk (blk_below BK.out hb_);replace HO:=Aside0.mk (Kd.R_below HO.out hb_);replace HB:=Aside0.mk (below_then HB.out HB.out.size hb_);clear hb_;rw [hix];have hi0 : w5.cell? ⟨g3,0,none⟩ = some _:=(blk_cell BK.out 0).trans rfl;have hi1 : w5.cell? ⟨g3,1,none⟩ = some _:=(blk_cell BK.out 1).trans rfl;have hi2 : w5.cell? ⟨g3,2,none⟩ = some _:=(blk_cell BK.out 2).trans rfl;have hi3 : w5.cell? ⟨g3,3,none⟩ = some _:=(blk_cell BK.out 3).trans rfl;have hi4 : w5.cell? ⟨g3,4,none⟩ = some _:=(blk_cell BK.out 4).trans rfl;have hi5 : w5.cell? ⟨g3,5,none⟩ = some _:=(blk_cell BK.out 5).trans rfl) | ((with_reducible refine gate_builtin (b:=.append) (xs:=#[.tmp 18,.tmp 20]) rfl ?_);at_builtin;refine Kd.R_append k41 (w0:=w) w.heap.size rfl (.tmp 18) (.tmp 20) 38 41 (.agg #[.string (⟨#[]⟩ : ByteArray),.int .i64 0,.int .i64 0,.int .i64 0,.string (⟨#[]⟩ : ByteArray),.string (⟨#[]⟩ : ByteArray)]) 72 rfl Tryz.underlying38 info41 rfl q38_ q8_ (.slice A4 l0.length c4) l0 r [.string r.f0,.int .i64 r.f1.f0,.int .i64 r.f1.f1,.int .i64 r.f1.f2,.string r.f1.f3,.string r.f1.f4] (fun k => k ≠ g3) (fun k => k ≠ g3 ∧ some k ≠ (Value.slice A4 l0.length c4).ownBlock) rfl rfl (k41_mkM _ _ _ r) (fun _ hk => hk) ?aF HO.out HB.out HB.out.size q8_ ?_;(case aF => exact fun k hk => (by have:=blk_lt BK.out;omega));intro v7 w7 hR7 hB7 hg7 hat7))
   go_ret
   exact ⟨_,rfl,Kd.R_mono hR7 (fun _ _ => trivial),hB7⟩
  ·rw [hix] at h
   replace h : (if h : j < l0.length then (mayP l0[j]).bind fun mj => if mj then (cmpP l0[j] r).bind fun c => some (if c < 0 then l0.set j r else l0) else some (l0.set j r) else none) = some res:=h
   split at h
   case isFalse => exact absurd h q44_
   case isTrue hj =>
   obtain ⟨mj,hmj,h⟩:=Option.bind_eq_some_iff.mp h
   obtain ⟨z,hz⟩ : ∃ z,rd_T41 l0 (j : Int) = z:=⟨_,rfl⟩
   have hlz : l0[j] = z:=by rw [← hz];simp [rd_T41,hj]
   rw [hlz] at h hmj
   replace hmj : mvs_may.f fuelR z.f0 z.f1.f0 z.f1.f1 z.f1.f2 z.f1.f3 z.f1.f4 = some mj:=hmj
   have hg1 : ((j : Int) < (l0.length : Int)) = True:=eq_true q8_
   have hp1 : (0 ≤ (j : Int)) = True:=eq_true q8_
   have hn1 : ((j : Int) < 0) = False:=eq_false q8_
   go_enter Tryz.func29,Tryz.ntmps29
   go_upto_region 7 with (first | ((with_reducible refine gate_dst (N:=3) rfl ?_);refine bx_ 3 41 #[.string r.f0,.int .i64 r.f1.f0,.int .i64 r.f1.f1,.int .i64 r.f1.f2,.string r.f1.f3,.string r.f1.f4] ?_;intro g3 hg_ w3 hbox hb_;have G3:=Aside0.mk ((by rw [hg_];exact Nat.le_refl _) : w.heap.size ≤ g3);clear hg_;have HB:=Aside0.mk hb_;have BK:=Aside0.mk hbox;clear hbox hb_) | (go_at_call 58;refine (slices_Clone_apiReq.calls A0 c0 l0 l0 _ (Kd.C_below HR0.out HB.out) HC0.out (if_pos hsz)).mono ?_;rintro e w4 ⟨v4,rfl,hR4,hb4⟩;have HO:=Aside0.mk (Kd.R_lower (Kd.R_mono (Kd.R_bound hR4) (fun k hk => (by have h_:=hk.2.1;have h2_:=blk_lt BK.out;omega : k ≠ g3))) HB.out.size);replace BK:=Aside0.mk (blk_below BK.out hb4);replace HB:=Aside0.mk (below_then HB.out HB.out.size hb4);clear hR4 hb4;obtain ⟨A4,c4,rfl⟩:=Kd.R_slice HO.out;have hz0 : w4.cell? ⟨g3,0,none⟩ = some _:=(blk_cell BK.out 0).trans rfl;have hz1 : w4.cell? ⟨g3,1,none⟩ = some _:=(blk_cell BK.out 1).trans rfl;have hz2 : w4.cell? ⟨g3,2,none⟩ = some _:=(blk_cell BK.out 2).trans rfl;have hz3 : w4.cell? ⟨g3,3,none⟩ = some _:=(blk_cell BK.out 3).trans rfl;have hz4 : w4.cell? ⟨g3,4,none⟩ = some _:=(blk_cell BK.out 4).trans rfl;have hz5 : w4.cell? ⟨g3,5,none⟩ = some _:=(blk_cell BK.out 5).trans rfl) | (go_at_call 59;(with_reducible refine (mvs_may.calls fuelR r.f0 r.f1.f0 r.f1.f1 r.f1.f2 r.f1.f3 r.f1.f4 true _ hmay ?sideG).mono ?_);(case sideG => exact Env.below HE.out HB.out);rintro e wma ⟨rfl,hb_⟩;replace BK:=Aside0.mk (blk_below BK.out hb_);replace HO:=Aside0.mk (Kd.R_below HO.out hb_);replace HB:=Aside0.mk (below_then HB.out HB.out.size hb_);clear hb_;have hma0 : wma.cell? ⟨g3,0,none⟩ = some _:=(blk_cell BK.out 0).trans rfl;have hma1 : wma.cell? ⟨g3,1,none⟩ = some _:=(blk_cell BK.out 1).trans rfl;have hma2 : wma.cell? ⟨g3,2,none⟩ = some _:=(blk_cell BK.out 2).trans rfl;have hma3 : wma.cell? ⟨g3,3,none⟩ = some _:=(blk_cell BK.out 3).trans rfl;have hma4 : wma.cell? ⟨g3,4,none⟩ = some _:=(blk_cell BK.out 4).trans rfl;have hma5 : wma.cell? ⟨g3,5,none⟩ = some _:=(blk_cell BK.out 5).trans rfl) | (go_at_call 60;(with_reducible refine (indexUp A4 c4 l0 g3 (fun y => y.f0.toList == r.f0.toList) _ (Kd.R_reads' HO.out).2.2 (Kd.R_reads' HO.out).2.1 ?cl).mono ?_);(case cl => exact fun y W hy hb => up1_calls y r g3 W (blk_below BK.out hb));rintro e w5 ⟨rfl,hb_⟩;replace BK:=Aside0.mk (blk_below BK.out hb_);replace HO:=Aside0.mk (Kd.R_below HO.out hb_);replace HB:=Aside0.mk (below_then HB.out HB.out.size hb_);clear hb_;rw [hix];have hi0 : w5.cell? ⟨g3,0,none⟩ = some _:=(blk_cell BK.out 0).trans rfl;have hi1 : w5.cell? ⟨g3,1,none⟩ = some _:=(blk_cell BK.out 1).trans rfl;have hi2 : w5.cell? ⟨g3,2,none⟩ = some _:=(blk_cell BK.out 2).trans rfl;have hi3 : w5.cell? ⟨g3,3,none⟩ = some _:=(blk_cell BK.out 3).trans rfl;have hi4 : w5.cell? ⟨g3,4,none⟩ = some _:=(blk_cell BK.out 4).trans rfl;have hi5 : w5.cell? ⟨g3,5,none⟩ = some _:=(blk_cell BK.out 5).trans rfl))
   obtain ⟨gg,hgg⟩ : ∃ gg,A4 = some ⟨gg,0,none⟩:=by
    obtain ⟨_,inner,⟨_,ho⟩,_⟩:=HO.out
    rcases ho with ⟨hv,hn⟩ | ⟨gg,cap,cur,hv,_⟩
    ·omega
    ·injection hv with h1 _ _
     exact ⟨gg,h1⟩
   obtain ⟨ad,had⟩ : ∃ ad : Addr,ad = ⟨gg,0,none⟩:=⟨_,rfl⟩
   rw [← had] at hgg
   subst hgg
   replace had:=Aside0.mk had
   try go_frame
   replace BK:=Aside0.mk (blk_drew BK.out);replace HO:=Aside0.mk (Kd.R_drew HO.out);replace HB:=Aside0.mk (below_drew HB.out)
   cases mj with
   | false =>
    obtain rfl:=Option.some.inj h
    clear h
    obtain ⟨y0,y1,y2,y3,y4,y5⟩:=elemZ (Kd.R_reads' HO.out).2.2 j hj hz
    refine start_ (n:=18) (S:=fun w' => w'.cell? ⟨g3,0,none⟩ = some (.string r.f0) ∧ w'.cell? ⟨g3,1,none⟩ = some (.int .i64 r.f1.f0) ∧ w'.cell? ⟨g3,2,none⟩ = some (.int .i64 r.f1.f1) ∧ w'.cell? ⟨g3,3,none⟩ = some (.int .i64 r.f1.f2) ∧ w'.cell? ⟨g3,4,none⟩ = some (.string r.f1.f3) ∧ w'.cell? ⟨g3,5,none⟩ = some (.string r.f1.f4) ∧ w'.cell? (ad.add (j * 6)) = some (.string z.f0) ∧ w'.cell? ⟨(ad.add (j * 6)).block,(ad.add (j * 6)).off + 1,none⟩ = some (.int .i64 z.f1.f0) ∧ w'.cell? ⟨(ad.add (j * 6)).block,(ad.add (j * 6)).off + 2,none⟩ = some (.int .i64 z.f1.f1) ∧ w'.cell? ⟨(ad.add (j * 6)).block,(ad.add (j * 6)).off + 3,none⟩ = some (.int .i64 z.f1.f2) ∧ w'.cell? ⟨(ad.add (j * 6)).block,(ad.add (j * 6)).off + 4,none⟩ = some (.string z.f1.f3) ∧ w'.cell? ⟨(ad.add (j * 6)).block,(ad.add (j * 6)).off + 5,none⟩ = some (.string z.f1.f4)) (ds:=[]) #[false,false,false,false,false,false,false,false,false,false,false,false,false,false,false,false,false,false] q10_ rfl rfl ⟨(blk_cell BK.out 0).trans rfl,(blk_cell BK.out 1).trans rfl,(blk_cell BK.out 2).trans rfl,(blk_cell BK.out 3).trans rfl,(blk_cell BK.out 4).trans rfl,(blk_cell BK.out 5).trans rfl,y0,y1,y2,y3,y4,y5⟩ (fun hHeld => ?_)
    clear y0 y1 y2 y3 y4 y5
    refine pu_ 0 23 ?_
    refine pu_ 1 24 ?_
    refine pu_ 2 25 ?_
    refine tk_ 3 26 hHeld ?_
    refine one_ (i:=4) (N:=some 27) #[true,true,true,true,true,false,false,false,false,false,false,false,false,false,false,false,false,false] rfl rfl q10_ q38_ (fun K hK => ?_)
    refine goes_ Tryz.func59 q10_ rfl #[.agg #[.string z.f0,.int .i64 z.f1.f0,.int .i64 z.f1.f1,.int .i64 z.f1.f2,.string z.f1.f3,.string z.f1.f4]] q46_ rfl rfl q28_ ?_
    (with_reducible refine (mvs_may.calls fuelR z.f0 z.f1.f0 z.f1.f1 z.f1.f2 z.f1.f3 z.f1.f4 false _ hmj ?sideG).mono ?_)
    (case sideG => exact Env.below HE.out HB.out)
    rintro e wq ⟨rfl,hb_⟩
    refine ⟨_,rfl,?_⟩
    replace BK:=Aside0.mk (blk_below BK.out hb_);replace HO:=Aside0.mk (Kd.R_below HO.out hb_);replace HB:=Aside0.mk (below_then HB.out HB.out.size hb_);clear hb_
    obtain ⟨y0,y1,y2,y3,y4,y5⟩:=elemZ (Kd.R_reads' HO.out).2.2 j hj hz
    refine hK.out _ _ ⟨(blk_cell BK.out 0).trans rfl,(blk_cell BK.out 1).trans rfl,(blk_cell BK.out 2).trans rfl,(blk_cell BK.out 3).trans rfl,(blk_cell BK.out 4).trans rfl,(blk_cell BK.out 5).trans rfl,y0,y1,y2,y3,y4,y5⟩ (fun hHeld => ?_)
    clear hK K y0 y1 y2 y3 y4 y5
    refine norm_ (a':=?_) ?_ ?_
    rotate_left
    ·show Act.put _ _ _ = _
     simp only [Act.put,List.setIfInBounds_toArray,List.set_cons_zero,List.set_cons_succ]
     rfl
    refine pu_ 5 28 ?_
    refine pu_ 6 29 ?_
    refine pn_ 7 30 ?_
    refine pn_ 8 31 ?_
    refine pn_ 9 32 ?_
    refine pn_ 10 33 ?_
    refine pn_ 11 34 ?_
    refine pn_ 12 35 ?_
    refine pn_ 13 36 ?_
    refine pn_ 14 37 ?_
    refine pn_ 15 38 ?_
    refine pu_ 16 39 ?_
    refine pu_ 17 22 ?_
    refine done_ q10_ ?_
    obtain rfl:=had.out
    obtain ⟨y0,y1,y2,y3,y4,y5⟩:=elemZ (Kd.R_reads' HO.out).2.2 j hj hz
    simp only [addr0] at y0 y1 y2 y3 y4 y5
    have hccZ : ∀ (q : Nat) (u : Value),[.string z.f0,.int .i64 z.f1.f0,.int .i64 z.f1.f1,.int .i64 z.f1.f2,.string z.f1.f3,.string z.f1.f4][q]? = some u → wq.cell? ⟨gg,(j : Int).toNat * 6 + q,none⟩ = some u:=by
     intro q u hq
     rw [Int.toNat_natCast]
     match q,hq with
     | 0,hq => exact y0.trans hq
     | 1,hq => exact y1.trans hq
     | 2,hq => exact y2.trans hq
     | 3,hq => exact y3.trans hq
     | 4,hq => exact y4.trans hq
     | 5,hq => exact y5.trans hq
     | q + 6,hq => exact absurd hq q44_
    have hs0 : wq.cell? ⟨g3,0,none⟩ = some _:=(blk_cell BK.out 0).trans rfl
    have hs1 : wq.cell? ⟨g3,1,none⟩ = some _:=(blk_cell BK.out 1).trans rfl
    have hs2 : wq.cell? ⟨g3,2,none⟩ = some _:=(blk_cell BK.out 2).trans rfl
    have hs3 : wq.cell? ⟨g3,3,none⟩ = some _:=(blk_cell BK.out 3).trans rfl
    have hs4 : wq.cell? ⟨g3,4,none⟩ = some _:=(blk_cell BK.out 4).trans rfl
    have hs5 : wq.cell? ⟨g3,5,none⟩ = some _:=(blk_cell BK.out 5).trans rfl
    clear y0 y1 y2 y3 y4 y5
    go_wp2_with (first | ((with_reducible refine gate_ (.store 41 (.tmp 43) (.tmp 42)) rfl ?_);refine Kd.R_store k41 (w0:=w) w.heap.size rfl rfl 41 (.tmp 43) (.tmp 42) rfl 41 (g:=gg) (o':=j * 6) (j : Int) 0 l0 r (.agg #[.string r.f0,.int .i64 r.f1.f0,.int .i64 r.f1.f1,.int .i64 r.f1.f2,.string r.f1.f3,.string r.f1.f4]) [.string r.f0,.int .i64 r.f1.f0,.int .i64 r.f1.f1,.int .i64 r.f1.f2,.string r.f1.f3,.string r.f1.f4] [.string z.f0,.int .i64 z.f1.f0,.int .i64 z.f1.f1,.int .i64 z.f1.f2,.string z.f1.f3,.string z.f1.f4] (fun k => k ≠ g3) (fun k => k ≠ g3 ∧ k ≠ gg) rfl (by show j * 6 = (j : Int).toNat * 6 + 0;omega) rfl rfl q10_ q26_ HO.out q8_ q8_ rfl ?hcc (Nat.le_refl 6) (k41_mkM _ _ _ r) (fun k hk => hk) HB.out ?_;(case hcc => exact hccZ);intro w9 hR9 hB9 hg9))
    go_ret
    exact ⟨_,rfl,Kd.R_mono hR9 (fun _ _ => trivial),hB9⟩
   | true =>
    rw [if_pos rfl] at h
    obtain ⟨c,hcmp,h⟩:=Option.bind_eq_some_iff.mp h
    replace hcmp : ver_Compare.f fuelR z.f1.f0 z.f1.f1 z.f1.f2 z.f1.f3 z.f1.f4 r.f1.f0 r.f1.f1 r.f1.f2 r.f1.f3 r.f1.f4 = some c:=hcmp
    by_cases hc0 : c < 0
    ·have hcc : (c < 0) = True:=eq_true hc0
     rw [if_pos hc0] at h
     obtain rfl:=Option.some.inj h
     clear h
     obtain ⟨y0,y1,y2,y3,y4,y5⟩:=elemZ (Kd.R_reads' HO.out).2.2 j hj hz
     refine start_ (n:=18) (S:=fun w' => w'.cell? ⟨g3,0,none⟩ = some (.string r.f0) ∧ w'.cell? ⟨g3,1,none⟩ = some (.int .i64 r.f1.f0) ∧ w'.cell? ⟨g3,2,none⟩ = some (.int .i64 r.f1.f1) ∧ w'.cell? ⟨g3,3,none⟩ = some (.int .i64 r.f1.f2) ∧ w'.cell? ⟨g3,4,none⟩ = some (.string r.f1.f3) ∧ w'.cell? ⟨g3,5,none⟩ = some (.string r.f1.f4) ∧ w'.cell? (ad.add (j * 6)) = some (.string z.f0) ∧ w'.cell? ⟨(ad.add (j * 6)).block,(ad.add (j * 6)).off + 1,none⟩ = some (.int .i64 z.f1.f0) ∧ w'.cell? ⟨(ad.add (j * 6)).block,(ad.add (j * 6)).off + 2,none⟩ = some (.int .i64 z.f1.f1) ∧ w'.cell? ⟨(ad.add (j * 6)).block,(ad.add (j * 6)).off + 3,none⟩ = some (.int .i64 z.f1.f2) ∧ w'.cell? ⟨(ad.add (j * 6)).block,(ad.add (j * 6)).off + 4,none⟩ = some (.string z.f1.f3) ∧ w'.cell? ⟨(ad.add (j * 6)).block,(ad.add (j * 6)).off + 5,none⟩ = some (.string z.f1.f4)) (ds:=[]) #[false,false,false,false,false,false,false,false,false,false,false,false,false,false,false,false,false,false] q10_ rfl rfl ⟨(blk_cell BK.out 0).trans rfl,(blk_cell BK.out 1).trans rfl,(blk_cell BK.out 2).trans rfl,(blk_cell BK.out 3).trans rfl,(blk_cell BK.out 4).trans rfl,(blk_cell BK.out 5).trans rfl,y0,y1,y2,y3,y4,y5⟩ (fun hHeld => ?_)
     clear y0 y1 y2 y3 y4 y5
     refine pu_ 0 23 ?_
     refine pu_ 1 24 ?_
     refine pu_ 2 25 ?_
     refine tk_ 3 26 hHeld ?_
     refine one_ (i:=4) (N:=some 27) #[true,true,true,true,true,false,false,false,false,false,false,false,false,false,false,false,false,false] rfl rfl q10_ q38_ (fun K hK => ?_)
     refine goes_ Tryz.func59 q10_ rfl #[.agg #[.string z.f0,.int .i64 z.f1.f0,.int .i64 z.f1.f1,.int .i64 z.f1.f2,.string z.f1.f3,.string z.f1.f4]] q46_ rfl rfl q28_ ?_
     (with_reducible refine (mvs_may.calls fuelR z.f0 z.f1.f0 z.f1.f1 z.f1.f2 z.f1.f3 z.f1.f4 true _ hmj ?sideG).mono ?_)
     (case sideG => exact Env.below HE.out HB.out)
     rintro e wq ⟨rfl,hb_⟩
     refine ⟨_,rfl,?_⟩
     replace BK:=Aside0.mk (blk_below BK.out hb_);replace HO:=Aside0.mk (Kd.R_below HO.out hb_);replace HB:=Aside0.mk (below_then HB.out HB.out.size hb_);clear hb_
     obtain ⟨y0,y1,y2,y3,y4,y5⟩:=elemZ (Kd.R_reads' HO.out).2.2 j hj hz
     refine hK.out _ _ ⟨(blk_cell BK.out 0).trans rfl,(blk_cell BK.out 1).trans rfl,(blk_cell BK.out 2).trans rfl,(blk_cell BK.out 3).trans rfl,(blk_cell BK.out 4).trans rfl,(blk_cell BK.out 5).trans rfl,y0,y1,y2,y3,y4,y5⟩ (fun hHeld => ?_)
     clear hK K y0 y1 y2 y3 y4 y5
     refine norm_ (a':=?_) ?_ ?_
     rotate_left
     ·show Act.put _ _ _ = _
      simp only [Act.put,List.setIfInBounds_toArray,List.set_cons_zero,List.set_cons_succ]
      rfl
     refine pu_ 5 28 ?_
     refine pu_ 6 29 ?_
     refine pu_ 7 30 ?_
     refine pu_ 8 31 ?_
     refine pu_ 9 32 ?_
     refine pu_ 10 33 ?_
     refine pu_ 12 35 ?_
     refine tk_ 11 34 hHeld ?_
     refine tk_ 13 36 hHeld ?_
     refine one_ (i:=14) (N:=some 37) #[true,true,true,true,true,true,true,true,true,true,true,true,true,true,true,false,false,false] rfl rfl q10_ q38_ (fun K hK => ?_)
     refine goes_ Tryz.func44 q10_ rfl #[.agg #[.int .i64 z.f1.f0,.int .i64 z.f1.f1,.int .i64 z.f1.f2,.string z.f1.f3,.string z.f1.f4],.agg #[.int .i64 r.f1.f0,.int .i64 r.f1.f1,.int .i64 r.f1.f2,.string r.f1.f3,.string r.f1.f4]] q46_ rfl rfl q28_ ?_
     (with_reducible refine (ver_Compare.calls fuelR z.f1.f0 z.f1.f1 z.f1.f2 z.f1.f3 z.f1.f4 r.f1.f0 r.f1.f1 r.f1.f2 r.f1.f3 r.f1.f4 c _ hcmp ?sideG).mono ?_)
     (case sideG => exact Env.below HE.out HB.out)
     rintro e wk ⟨rfl,hb_⟩
     refine ⟨_,rfl,?_⟩
     replace BK:=Aside0.mk (blk_below BK.out hb_);replace HO:=Aside0.mk (Kd.R_below HO.out hb_);replace HB:=Aside0.mk (below_then HB.out HB.out.size hb_);clear hb_
     obtain ⟨y0,y1,y2,y3,y4,y5⟩:=elemZ (Kd.R_reads' HO.out).2.2 j hj hz
     refine hK.out _ _ ⟨(blk_cell BK.out 0).trans rfl,(blk_cell BK.out 1).trans rfl,(blk_cell BK.out 2).trans rfl,(blk_cell BK.out 3).trans rfl,(blk_cell BK.out 4).trans rfl,(blk_cell BK.out 5).trans rfl,y0,y1,y2,y3,y4,y5⟩ (fun hHeld => ?_)
     clear hK K y0 y1 y2 y3 y4 y5
     refine norm_ (a':=?_) ?_ ?_
     rotate_left
     ·show Act.put _ _ _ = _
      simp only [Act.put,List.setIfInBounds_toArray,List.set_cons_zero,List.set_cons_succ]
      rfl
     refine pu_ 15 38 ?_
     refine pu_ 16 39 ?_
     refine pu_ 17 22 ?_
     refine done_ q10_ ?_
     obtain rfl:=had.out
     obtain ⟨y0,y1,y2,y3,y4,y5⟩:=elemZ (Kd.R_reads' HO.out).2.2 j hj hz
     simp only [addr0] at y0 y1 y2 y3 y4 y5
     have hccZ : ∀ (q : Nat) (u : Value),[.string z.f0,.int .i64 z.f1.f0,.int .i64 z.f1.f1,.int .i64 z.f1.f2,.string z.f1.f3,.string z.f1.f4][q]? = some u → wk.cell? ⟨gg,(j : Int).toNat * 6 + q,none⟩ = some u:=by
      intro q u hq
      rw [Int.toNat_natCast]
      match q,hq with
      | 0,hq => exact y0.trans hq
      | 1,hq => exact y1.trans hq
      | 2,hq => exact y2.trans hq
      | 3,hq => exact y3.trans hq
      | 4,hq => exact y4.trans hq
      | 5,hq => exact y5.trans hq
      | q + 6,hq => exact absurd hq q44_
     have hs0 : wk.cell? ⟨g3,0,none⟩ = some _:=(blk_cell BK.out 0).trans rfl
     have hs1 : wk.cell? ⟨g3,1,none⟩ = some _:=(blk_cell BK.out 1).trans rfl
     have hs2 : wk.cell? ⟨g3,2,none⟩ = some _:=(blk_cell BK.out 2).trans rfl
     have hs3 : wk.cell? ⟨g3,3,none⟩ = some _:=(blk_cell BK.out 3).trans rfl
     have hs4 : wk.cell? ⟨g3,4,none⟩ = some _:=(blk_cell BK.out 4).trans rfl
     have hs5 : wk.cell? ⟨g3,5,none⟩ = some _:=(blk_cell BK.out 5).trans rfl
     clear y0 y1 y2 y3 y4 y5
     go_wp2_with (first | ((with_reducible refine gate_ (.store 41 (.tmp 43) (.tmp 42)) rfl ?_);refine Kd.R_store k41 (w0:=w) w.heap.size rfl rfl 41 (.tmp 43) (.tmp 42) rfl 41 (g:=gg) (o':=j * 6) (j : Int) 0 l0 r (.agg #[.string r.f0,.int .i64 r.f1.f0,.int .i64 r.f1.f1,.int .i64 r.f1.f2,.string r.f1.f3,.string r.f1.f4]) [.string r.f0,.int .i64 r.f1.f0,.int .i64 r.f1.f1,.int .i64 r.f1.f2,.string r.f1.f3,.string r.f1.f4] [.string z.f0,.int .i64 z.f1.f0,.int .i64 z.f1.f1,.int .i64 z.f1.f2,.string z.f1.f3,.string z.f1.f4] (fun k => k ≠ g3) (fun k => k ≠ g3 ∧ k ≠ gg) rfl (by show j * 6 = (j : Int).toNat * 6 + 0;omega) rfl rfl q10_ q26_ HO.out q8_ q8_ rfl ?hcc (Nat.le_refl 6) (k41_mkM _ _ _ r) (fun k hk => hk) HB.out ?_;(case hcc => exact hccZ);intro w9 hR9 hB9 hg9))
     go_ret
     exact ⟨_,rfl,Kd.R_mono hR9 (fun _ _ => trivial),hB9⟩
    ·have hcc : (c < 0) = False:=eq_false hc0
     rw [if_neg hc0] at h
     obtain rfl:=Option.some.inj h
     clear h
     obtain ⟨y0,y1,y2,y3,y4,y5⟩:=elemZ (Kd.R_reads' HO.out).2.2 j hj hz
     refine start_ (n:=18) (S:=fun w' => w'.cell? ⟨g3,0,none⟩ = some (.string r.f0) ∧ w'.cell? ⟨g3,1,none⟩ = some (.int .i64 r.f1.f0) ∧ w'.cell? ⟨g3,2,none⟩ = some (.int .i64 r.f1.f1) ∧ w'.cell? ⟨g3,3,none⟩ = some (.int .i64 r.f1.f2) ∧ w'.cell? ⟨g3,4,none⟩ = some (.string r.f1.f3) ∧ w'.cell? ⟨g3,5,none⟩ = some (.string r.f1.f4) ∧ w'.cell? (ad.add (j * 6)) = some (.string z.f0) ∧ w'.cell? ⟨(ad.add (j * 6)).block,(ad.add (j * 6)).off + 1,none⟩ = some (.int .i64 z.f1.f0) ∧ w'.cell? ⟨(ad.add (j * 6)).block,(ad.add (j * 6)).off + 2,none⟩ = some (.int .i64 z.f1.f1) ∧ w'.cell? ⟨(ad.add (j * 6)).block,(ad.add (j * 6)).off + 3,none⟩ = some (.int .i64 z.f1.f2) ∧ w'.cell? ⟨(ad.add (j * 6)).block,(ad.add (j * 6)).off + 4,none⟩ = some (.string z.f1.f3) ∧ w'.cell? ⟨(ad.add (j * 6)).block,(ad.add (j * 6)).off + 5,none⟩ = some (.string z.f1.f4)) (ds:=[]) #[false,false,false,false,false,false,false,false,false,false,false,false,false,false,false,false,false,false] q10_ rfl rfl ⟨(blk_cell BK.out 0).trans rfl,(blk_cell BK.out 1).trans rfl,(blk_cell BK.out 2).trans rfl,(blk_cell BK.out 3).trans rfl,(blk_cell BK.out 4).trans rfl,(blk_cell BK.out 5).trans rfl,y0,y1,y2,y3,y4,y5⟩ (fun hHeld => ?_)
     clear y0 y1 y2 y3 y4 y5
     refine pu_ 0 23 ?_
     refine pu_ 1 24 ?_
     refine pu_ 2 25 ?_
     refine tk_ 3 26 hHeld ?_
     refine one_ (i:=4) (N:=some 27) #[true,true,true,true,true,false,false,false,false,false,false,false,false,false,false,false,false,false] rfl rfl q10_ q38_ (fun K hK => ?_)
     refine goes_ Tryz.func59 q10_ rfl #[.agg #[.string z.f0,.int .i64 z.f1.f0,.int .i64 z.f1.f1,.int .i64 z.f1.f2,.string z.f1.f3,.string z.f1.f4]] q46_ rfl rfl q28_ ?_
     (with_reducible refine (mvs_may.calls fuelR z.f0 z.f1.f0 z.f1.f1 z.f1.f2 z.f1.f3 z.f1.f4 true _ hmj ?sideG).mono ?_)
     (case sideG => exact Env.below HE.out HB.out)
     rintro e wq ⟨rfl,hb_⟩
     refine ⟨_,rfl,?_⟩
     replace BK:=Aside0.mk (blk_below BK.out hb_);replace HO:=Aside0.mk (Kd.R_below HO.out hb_);replace HB:=Aside0.mk (below_then HB.out HB.out.size hb_);clear hb_
     obtain ⟨y0,y1,y2,y3,y4,y5⟩:=elemZ (Kd.R_reads' HO.out).2.2 j hj hz
     refine hK.out _ _ ⟨(blk_cell BK.out 0).trans rfl,(blk_cell BK.out 1).trans rfl,(blk_cell BK.out 2).trans rfl,(blk_cell BK.out 3).trans rfl,(blk_cell BK.out 4).trans rfl,(blk_cell BK.out 5).trans rfl,y0,y1,y2,y3,y4,y5⟩ (fun hHeld => ?_)
     clear hK K y0 y1 y2 y3 y4 y5
     refine norm_ (a':=?_) ?_ ?_
     rotate_left
     ·show Act.put _ _ _ = _
      simp only [Act.put,List.setIfInBounds_toArray,List.set_cons_zero,List.set_cons_succ]
      rfl
     refine pu_ 5 28 ?_
     refine pu_ 6 29 ?_
     refine pu_ 7 30 ?_
     refine pu_ 8 31 ?_
     refine pu_ 9 32 ?_
     refine pu_ 10 33 ?_
     refine pu_ 12 35 ?_
     refine tk_ 11 34 hHeld ?_
     refine tk_ 13 36 hHeld ?_
     refine one_ (i:=14) (N:=some 37) #[true,true,true,true,true,true,true,true,true,true,true,true,true,true,true,false,false,false] rfl rfl q10_ q38_ (fun K hK => ?_)
     refine goes_ Tryz.func44 q10_ rfl #[.agg #[.int .i64 z.f1.f0,.int .i64 z.f1.f1,.int .i64 z.f1.f2,.string z.f1.f3,.string z.f1.f4],.agg #[.int .i64 r.f1.f0,.int .i64 r.f1.f1,.int .i64 r.f1.f2,.string r.f1.f3,.string r.f1.f4]] q46_ rfl rfl q28_ ?_
     (with_reducible refine (ver_Compare.calls fuelR z.f1.f0 z.f1.f1 z.f1.f2 z.f1.f3 z.f1.f4 r.f1.f0 r.f1.f1 r.f1.f2 r.f1.f3 r.f1.f4 c _ hcmp ?sideG).mono ?_)
     (case sideG => exact Env.below HE.out HB.out)
     rintro e wk ⟨rfl,hb_⟩
     refine ⟨_,rfl,?_⟩
     replace BK:=Aside0.mk (blk_below BK.out hb_);replace HO:=Aside0.mk (Kd.R_below HO.out hb_);replace HB:=Aside0.mk (below_then HB.out HB.out.size hb_);clear hb_
     obtain ⟨y0,y1,y2,y3,y4,y5⟩:=elemZ (Kd.R_reads' HO.out).2.2 j hj hz
     refine hK.out _ _ ⟨(blk_cell BK.out 0).trans rfl,(blk_cell BK.out 1).trans rfl,(blk_cell BK.out 2).trans rfl,(blk_cell BK.out 3).trans rfl,(blk_cell BK.out 4).trans rfl,(blk_cell BK.out 5).trans rfl,y0,y1,y2,y3,y4,y5⟩ (fun hHeld => ?_)
     clear hK K y0 y1 y2 y3 y4 y5
     refine norm_ (a':=?_) ?_ ?_
     rotate_left
     ·show Act.put _ _ _ = _
      simp only [Act.put,List.setIfInBounds_toArray,List.set_cons_zero,List.set_cons_succ]
      rfl
     refine pu_ 15 38 ?_
     refine pu_ 16 39 ?_
     refine pu_ 17 22 ?_
     refine done_ q10_ ?_
     go_wp2
     go_ret
     exact ⟨_,rfl,Kd.R_mono HO.out (fun _ _ => trivial),HB.out⟩
def mvs_Upgrade.f (l0 : List Req) (a1_0 : ByteArray) (a1_1 : Int) (a1_2 : Int) (a1_3 : Int) (a1_4 : ByteArray) (a1_5 : ByteArray) : Option (List Req):=upP l0 ⟨a1_0,a1_1,a1_2,a1_3,a1_4,a1_5⟩
theorem mvs_Upgrade.calls (A0 : Option Addr) (c0 : Nat) (l0 : List Req) (a1_0 : ByteArray) (a1_1 : Int) (a1_2 : Int) (a1_3 : Int) (a1_4 : ByteArray) (a1_5 : ByteArray) (r : List Req) (w : World) (hr0 : Kd.C k41 w A0 l0.length l0) (hc0 : l0.length ≤ c0) (h : mvs_Upgrade.f l0 a1_0 a1_1 a1_2 a1_3 a1_4 a1_5 = some r) (hG : Env w) :
  Calls Tryz.prog 29 #[.slice A0 l0.length c0,.agg #[.string a1_0,.int .i64 a1_1,.int .i64 a1_2,.int .i64 a1_3,.string a1_4,.string a1_5]] w fun e w' => ∃ v0_ : Value,e = .returned (v0_) ∧ Kd.R k41 41 w' w.heap.size (fun _ => True) v0_ r ∧ Below w.heap.size w w' :=
 up_calls A0 c0 l0 ⟨a1_0,a1_1,a1_2,a1_3,a1_4,a1_5⟩ r w hr0 hc0 h hG
end Go.Proofs.YtennhpoemdaghaaGreatDoor.P
end
section
namespace Go.Proofs.YtennhpoemdaghaaGreatDoor.P
open Go.RowKit Go.Proofs.YtennhpoemdaghaaGreatDoorW.PrintWords Go.Proofs.YtennhpoemdaghaaGreatDoorW.PrintLast Go.Proofs.YtennhpoemdaghaaGreatDoorW.PrintMore
def Lw17_live.f (k : Nat)  : Option (Bool):=(Lw17_req.f (⟨#[97]⟩ : ByteArray) 0).bind fun bt101 => ((Lw17_req.f (⟨#[99]⟩ : ByteArray) 1).bind fun bt107 => ((Lw17_req.f (⟨#[98]⟩ : ByteArray) 0).bind fun bt116 => ((Lw17_req.f (⟨#[99]⟩ : ByteArray) 2).bind fun bt122 => ((Lw17_req.f (⟨#[99]⟩ : ByteArray) 2).bind fun bt131 => ((Lw17_req.f (⟨#[100]⟩ : ByteArray) 0).bind fun bt137 => ((Lw17_req.f (⟨#[98]⟩ : ByteArray) (-1)).bind fun bt146 => ((some (([(⟨(⟨bt101.1,(⟨bt101.2.1,bt101.2.2.1,bt101.2.2.2.1,bt101.2.2.2.2.1,bt101.2.2.2.2.2⟩ : S24)⟩ : S41),(([(⟨bt107.1,(⟨bt107.2.1,bt107.2.2.1,bt107.2.2.2.1,bt107.2.2.2.2.1,bt107.2.2.2.2.2⟩ : S24)⟩ : S41)] : List (S41)))⟩ : S70),(⟨(⟨bt116.1,(⟨bt116.2.1,bt116.2.2.1,bt116.2.2.2.1,bt116.2.2.2.2.1,bt116.2.2.2.2.2⟩ : S24)⟩ : S41),(([(⟨bt122.1,(⟨bt122.2.1,bt122.2.2.1,bt122.2.2.2.1,bt122.2.2.2.2.1,bt122.2.2.2.2.2⟩ : S24)⟩ : S41)] : List (S41)))⟩ : S70),(⟨(⟨bt131.1,(⟨bt131.2.1,bt131.2.2.1,bt131.2.2.2.1,bt131.2.2.2.2.1,bt131.2.2.2.2.2⟩ : S24)⟩ : S41),(([(⟨bt137.1,(⟨bt137.2.1,bt137.2.2.1,bt137.2.2.2.1,bt137.2.2.2.2.1,bt137.2.2.2.2.2⟩ : S24)⟩ : S41)] : List (S41)))⟩ : S70),(⟨(⟨bt146.1,(⟨bt146.2.1,bt146.2.2.1,bt146.2.2.2.1,bt146.2.2.2.2.1,bt146.2.2.2.2.2⟩ : S24)⟩ : S41),([] : List (S41))⟩ : S70)] : List (S70)) : List (S70))).bind fun y152 => ((Lw17_req.f (⟨#[98]⟩ : ByteArray) 0).bind fun bt155 => ((Lw17_req.f (⟨#[97]⟩ : ByteArray) 0).bind fun bt161 => ((some (([(⟨bt155.1,(⟨bt155.2.1,bt155.2.2.1,bt155.2.2.2.1,bt155.2.2.2.2.1,bt155.2.2.2.2.2⟩ : S24)⟩ : S41),(⟨bt161.1,(⟨bt161.2.1,bt161.2.2.1,bt161.2.2.2.1,bt161.2.2.2.2.1,bt161.2.2.2.2.2⟩ : S24)⟩ : S41)] : List (S41)) : List (S41))).bind fun y167 => ((mvs_List.f y167 y152).bind fun t170 => ((Lw17_req.f (⟨#[97]⟩ : ByteArray) 3).bind fun bt173 => ((mvs_Upgrade.f y167 bt173.1 bt173.2.1 bt173.2.2.1 bt173.2.2.2.1 bt173.2.2.2.2.1 bt173.2.2.2.2.2).bind fun t179 => ((Lw17_req.f (⟨#[99]⟩ : ByteArray) 1).bind fun bt182 => ((mvs_Downgrade.f k y167 y152 bt182.1 bt182.2.1 bt182.2.2.1 bt182.2.2.2.1 bt182.2.2.2.2.1 bt182.2.2.2.2.2).bind fun t188 => ((Lw17_req.f (⟨#[97]⟩ : ByteArray) 0).bind fun bt191 => ((Lw17_req.f (⟨#[98]⟩ : ByteArray) 0).bind fun bt197 => ((Lw17_req.f (⟨#[99]⟩ : ByteArray) 2).bind fun bt203 => ((Lw17_req.f (⟨#[100]⟩ : ByteArray) 0).bind fun bt209 => ((Rf17_Same.f k t170 (([(⟨bt191.1,(⟨bt191.2.1,bt191.2.2.1,bt191.2.2.2.1,bt191.2.2.2.2.1,bt191.2.2.2.2.2⟩ : S24)⟩ : S41),(⟨bt197.1,(⟨bt197.2.1,bt197.2.2.1,bt197.2.2.2.1,bt197.2.2.2.2.1,bt197.2.2.2.2.2⟩ : S24)⟩ : S41),(⟨bt203.1,(⟨bt203.2.1,bt203.2.2.1,bt203.2.2.2.1,bt203.2.2.2.2.1,bt203.2.2.2.2.2⟩ : S24)⟩ : S41),(⟨bt209.1,(⟨bt209.2.1,bt209.2.2.1,bt209.2.2.2.1,bt209.2.2.2.2.1,bt209.2.2.2.2.2⟩ : S24)⟩ : S41)] : List (S41)))).bind fun t218 => (if t218 = true then ((mvs_Reached.f y167 y152).bind fun t219 => (if (t219.length : Int) = 5 then ((Lw17_req.f (⟨#[98]⟩ : ByteArray) 0).bind fun bt222 => ((Lw17_req.f (⟨#[97]⟩ : ByteArray) 3).bind fun bt228 => ((Rf17_Same.f k t179 (([(⟨bt222.1,(⟨bt222.2.1,bt222.2.2.1,bt222.2.2.2.1,bt222.2.2.2.2.1,bt222.2.2.2.2.2⟩ : S24)⟩ : S41),(⟨bt228.1,(⟨bt228.2.1,bt228.2.2.1,bt228.2.2.2.1,bt228.2.2.2.2.1,bt228.2.2.2.2.2⟩ : S24)⟩ : S41)] : List (S41)))).bind fun t237 => (if t237 = true then ((Lw17_req.f (⟨#[97]⟩ : ByteArray) 0).bind fun bt238 => ((Rf17_Same.f k t188 (([(⟨bt238.1,(⟨bt238.2.1,bt238.2.2.1,bt238.2.2.2.1,bt238.2.2.2.2.1,bt238.2.2.2.2.2⟩ : S24)⟩ : S41)] : List (S41)))).bind fun t247 => (if t247 = true then ((Lw17_req.f (⟨#[122]⟩ : ByteArray) 0).bind fun bt248 => ((mvs_Upgrade.f y167 bt248.1 bt248.2.1 bt248.2.2.1 bt248.2.2.2.1 bt248.2.2.2.2.1 bt248.2.2.2.2.2).bind fun t254 => (if (t254.length : Int) = 3 then ((Lw17_req.f (⟨#[122]⟩ : ByteArray) (-1)).bind fun bt257 => ((mvs_Upgrade.f y167 bt257.1 bt257.2.1 bt257.2.2.1 bt257.2.2.2.1 bt257.2.2.2.2.1 bt257.2.2.2.2.2).bind fun t263 => (some ((t263.length : Int) == 2)))) else (some false)))) else (some false)))) else (some false))))) else (some false))) else (some false))))))))))))))))))))))
theorem Lw17_live.mono : ∀ k,LeO (Lw17_live.f k ) (Lw17_live.f (k + 1) ):=by
 intro  k
 unfold Lw17_live.f
 repeat' first
   | (with_reducible exact Rf17_Same.mono _ _ _)
   | (with_reducible exact mvs_Downgrade.mono _ _ _ _ _ _ _ _ _)
   | (with_reducible exact LeO.refl _)
   | (with_reducible exact LeO.none _)
   | (with_reducible refine LeO.ite ?_ ?_)
   | (with_reducible refine LeO.bind ?_ (fun _ => ?_))
   | exact Rf17_Same.mono _ _ _
   | exact mvs_Downgrade.mono _ _ _ _ _ _ _ _ _
   | exact LeO.none _
   | refine LeO.ite ?_ ?_
   | refine LeO.bind ?_ (fun _ => ?_)
set_option maxHeartbeats 8000000 in
set_option maxRecDepth 100000 in
theorem Lw17_live.calls (k : Nat)  (r : Bool) (w : World) (h : Lw17_live.f k  = some r) (hr_ : r = true) (hG : Env w) :
  Calls Tryz.prog 22 #[] w fun e w' => e = .returned (.bool r) ∧ Below w.heap.size w w':=by
 have HG:=Aside0.mk hG
 clear hG
 have HR_:=Aside0.mk hr_
 clear hr_
 have hu70:=Tryz.underlying70
 have HB:=Aside0.mk (Below.refl w.heap.size w)
 have H : ((Lw17_req.f (⟨#[97]⟩ : ByteArray) 0).bind fun bt101 => ((Lw17_req.f (⟨#[99]⟩ : ByteArray) 1).bind fun bt107 => ((Lw17_req.f (⟨#[98]⟩ : ByteArray) 0).bind fun bt116 => ((Lw17_req.f (⟨#[99]⟩ : ByteArray) 2).bind fun bt122 => ((Lw17_req.f (⟨#[99]⟩ : ByteArray) 2).bind fun bt131 => ((Lw17_req.f (⟨#[100]⟩ : ByteArray) 0).bind fun bt137 => ((Lw17_req.f (⟨#[98]⟩ : ByteArray) (-1)).bind fun bt146 => ((some (([(⟨(⟨bt101.1,(⟨bt101.2.1,bt101.2.2.1,bt101.2.2.2.1,bt101.2.2.2.2.1,bt101.2.2.2.2.2⟩ : S24)⟩ : S41),(([(⟨bt107.1,(⟨bt107.2.1,bt107.2.2.1,bt107.2.2.2.1,bt107.2.2.2.2.1,bt107.2.2.2.2.2⟩ : S24)⟩ : S41)] : List (S41)))⟩ : S70),(⟨(⟨bt116.1,(⟨bt116.2.1,bt116.2.2.1,bt116.2.2.2.1,bt116.2.2.2.2.1,bt116.2.2.2.2.2⟩ : S24)⟩ : S41),(([(⟨bt122.1,(⟨bt122.2.1,bt122.2.2.1,bt122.2.2.2.1,bt122.2.2.2.2.1,bt122.2.2.2.2.2⟩ : S24)⟩ : S41)] : List (S41)))⟩ : S70),(⟨(⟨bt131.1,(⟨bt131.2.1,bt131.2.2.1,bt131.2.2.2.1,bt131.2.2.2.2.1,bt131.2.2.2.2.2⟩ : S24)⟩ : S41),(([(⟨bt137.1,(⟨bt137.2.1,bt137.2.2.1,bt137.2.2.2.1,bt137.2.2.2.2.1,bt137.2.2.2.2.2⟩ : S24)⟩ : S41)] : List (S41)))⟩ : S70),(⟨(⟨bt146.1,(⟨bt146.2.1,bt146.2.2.1,bt146.2.2.2.1,bt146.2.2.2.2.1,bt146.2.2.2.2.2⟩ : S24)⟩ : S41),([] : List (S41))⟩ : S70)] : List (S70)) : List (S70))).bind fun y152 => ((Lw17_req.f (⟨#[98]⟩ : ByteArray) 0).bind fun bt155 => ((Lw17_req.f (⟨#[97]⟩ : ByteArray) 0).bind fun bt161 => ((some (([(⟨bt155.1,(⟨bt155.2.1,bt155.2.2.1,bt155.2.2.2.1,bt155.2.2.2.2.1,bt155.2.2.2.2.2⟩ : S24)⟩ : S41),(⟨bt161.1,(⟨bt161.2.1,bt161.2.2.1,bt161.2.2.2.1,bt161.2.2.2.2.1,bt161.2.2.2.2.2⟩ : S24)⟩ : S41)] : List (S41)) : List (S41))).bind fun y167 => ((mvs_List.f y167 y152).bind fun t170 => ((Lw17_req.f (⟨#[97]⟩ : ByteArray) 3).bind fun bt173 => ((mvs_Upgrade.f y167 bt173.1 bt173.2.1 bt173.2.2.1 bt173.2.2.2.1 bt173.2.2.2.2.1 bt173.2.2.2.2.2).bind fun t179 => ((Lw17_req.f (⟨#[99]⟩ : ByteArray) 1).bind fun bt182 => ((mvs_Downgrade.f k y167 y152 bt182.1 bt182.2.1 bt182.2.2.1 bt182.2.2.2.1 bt182.2.2.2.2.1 bt182.2.2.2.2.2).bind fun t188 => ((Lw17_req.f (⟨#[97]⟩ : ByteArray) 0).bind fun bt191 => ((Lw17_req.f (⟨#[98]⟩ : ByteArray) 0).bind fun bt197 => ((Lw17_req.f (⟨#[99]⟩ : ByteArray) 2).bind fun bt203 => ((Lw17_req.f (⟨#[100]⟩ : ByteArray) 0).bind fun bt209 => ((Rf17_Same.f k t170 (([(⟨bt191.1,(⟨bt191.2.1,bt191.2.2.1,bt191.2.2.2.1,bt191.2.2.2.2.1,bt191.2.2.2.2.2⟩ : S24)⟩ : S41),(⟨bt197.1,(⟨bt197.2.1,bt197.2.2.1,bt197.2.2.2.1,bt197.2.2.2.2.1,bt197.2.2.2.2.2⟩ : S24)⟩ : S41),(⟨bt203.1,(⟨bt203.2.1,bt203.2.2.1,bt203.2.2.2.1,bt203.2.2.2.2.1,bt203.2.2.2.2.2⟩ : S24)⟩ : S41),(⟨bt209.1,(⟨bt209.2.1,bt209.2.2.1,bt209.2.2.2.1,bt209.2.2.2.2.1,bt209.2.2.2.2.2⟩ : S24)⟩ : S41)] : List (S41)))).bind fun t218 => (if t218 = true then ((mvs_Reached.f y167 y152).bind fun t219 => (if (t219.length : Int) = 5 then ((Lw17_req.f (⟨#[98]⟩ : ByteArray) 0).bind fun bt222 => ((Lw17_req.f (⟨#[97]⟩ : ByteArray) 3).bind fun bt228 => ((Rf17_Same.f k t179 (([(⟨bt222.1,(⟨bt222.2.1,bt222.2.2.1,bt222.2.2.2.1,bt222.2.2.2.2.1,bt222.2.2.2.2.2⟩ : S24)⟩ : S41),(⟨bt228.1,(⟨bt228.2.1,bt228.2.2.1,bt228.2.2.2.1,bt228.2.2.2.2.1,bt228.2.2.2.2.2⟩ : S24)⟩ : S41)] : List (S41)))).bind fun t237 => (if t237 = true then ((Lw17_req.f (⟨#[97]⟩ : ByteArray) 0).bind fun bt238 => ((Rf17_Same.f k t188 (([(⟨bt238.1,(⟨bt238.2.1,bt238.2.2.1,bt238.2.2.2.1,bt238.2.2.2.2.1,bt238.2.2.2.2.2⟩ : S24)⟩ : S41)] : List (S41)))).bind fun t247 => (if t247 = true then ((Lw17_req.f (⟨#[122]⟩ : ByteArray) 0).bind fun bt248 => ((mvs_Upgrade.f y167 bt248.1 bt248.2.1 bt248.2.2.1 bt248.2.2.2.1 bt248.2.2.2.2.1 bt248.2.2.2.2.2).bind fun t254 => (if (t254.length : Int) = 3 then ((Lw17_req.f (⟨#[122]⟩ : ByteArray) (-1)).bind fun bt257 => ((mvs_Upgrade.f y167 bt257.1 bt257.2.1 bt257.2.2.1 bt257.2.2.2.1 bt257.2.2.2.2.1 bt257.2.2.2.2.2).bind fun t263 => (some ((t263.length : Int) == 2)))) else (some false)))) else (some false)))) else (some false))))) else (some false))) else (some false))))))))))))))))))))))) = some r:=h
 clear h
 obtain ⟨⟨t101,t102,t103,t104,t105,t106⟩,A10,H⟩:=Option.bind_eq_some_iff.mp H
 dsimp only at H
 have A1:=Aside0.mk A10
 clear A10
 obtain ⟨⟨t107,t108,t109,t110,t111,t112⟩,A20,H⟩:=Option.bind_eq_some_iff.mp H
 dsimp only at H
 have A2:=Aside0.mk A20
 clear A20
 obtain ⟨y113,hy113⟩ : ∃ y_ : List (S41),y_ = (([(⟨t107,(⟨t108,t109,t110,t111,t112⟩ : S24)⟩ : S41)] : List (S41))):=⟨_,rfl⟩
 replace H : ((Lw17_req.f (⟨#[98]⟩ : ByteArray) 0).bind fun bt116 => ((Lw17_req.f (⟨#[99]⟩ : ByteArray) 2).bind fun bt122 => ((Lw17_req.f (⟨#[99]⟩ : ByteArray) 2).bind fun bt131 => ((Lw17_req.f (⟨#[100]⟩ : ByteArray) 0).bind fun bt137 => ((Lw17_req.f (⟨#[98]⟩ : ByteArray) (-1)).bind fun bt146 => ((some (([(⟨(⟨t101,(⟨t102,t103,t104,t105,t106⟩ : S24)⟩ : S41),y113⟩ : S70),(⟨(⟨bt116.1,(⟨bt116.2.1,bt116.2.2.1,bt116.2.2.2.1,bt116.2.2.2.2.1,bt116.2.2.2.2.2⟩ : S24)⟩ : S41),(([(⟨bt122.1,(⟨bt122.2.1,bt122.2.2.1,bt122.2.2.2.1,bt122.2.2.2.2.1,bt122.2.2.2.2.2⟩ : S24)⟩ : S41)] : List (S41)))⟩ : S70),(⟨(⟨bt131.1,(⟨bt131.2.1,bt131.2.2.1,bt131.2.2.2.1,bt131.2.2.2.2.1,bt131.2.2.2.2.2⟩ : S24)⟩ : S41),(([(⟨bt137.1,(⟨bt137.2.1,bt137.2.2.1,bt137.2.2.2.1,bt137.2.2.2.2.1,bt137.2.2.2.2.2⟩ : S24)⟩ : S41)] : List (S41)))⟩ : S70),(⟨(⟨bt146.1,(⟨bt146.2.1,bt146.2.2.1,bt146.2.2.2.1,bt146.2.2.2.2.1,bt146.2.2.2.2.2⟩ : S24)⟩ : S41),([] : List (S41))⟩ : S70)] : List (S70)) : List (S70))).bind fun y152 => ((Lw17_req.f (⟨#[98]⟩ : ByteArray) 0).bind fun bt155 => ((Lw17_req.f (⟨#[97]⟩ : ByteArray) 0).bind fun bt161 => ((some (([(⟨bt155.1,(⟨bt155.2.1,bt155.2.2.1,bt155.2.2.2.1,bt155.2.2.2.2.1,bt155.2.2.2.2.2⟩ : S24)⟩ : S41),(⟨bt161.1,(⟨bt161.2.1,bt161.2.2.1,bt161.2.2.2.1,bt161.2.2.2.2.1,bt161.2.2.2.2.2⟩ : S24)⟩ : S41)] : List (S41)) : List (S41))).bind fun y167 => ((mvs_List.f y167 y152).bind fun t170 => ((Lw17_req.f (⟨#[97]⟩ : ByteArray) 3).bind fun bt173 => ((mvs_Upgrade.f y167 bt173.1 bt173.2.1 bt173.2.2.1 bt173.2.2.2.1 bt173.2.2.2.2.1 bt173.2.2.2.2.2).bind fun t179 => ((Lw17_req.f (⟨#[99]⟩ : ByteArray) 1).bind fun bt182 => ((mvs_Downgrade.f k y167 y152 bt182.1 bt182.2.1 bt182.2.2.1 bt182.2.2.2.1 bt182.2.2.2.2.1 bt182.2.2.2.2.2).bind fun t188 => ((Lw17_req.f (⟨#[97]⟩ : ByteArray) 0).bind fun bt191 => ((Lw17_req.f (⟨#[98]⟩ : ByteArray) 0).bind fun bt197 => ((Lw17_req.f (⟨#[99]⟩ : ByteArray) 2).bind fun bt203 => ((Lw17_req.f (⟨#[100]⟩ : ByteArray) 0).bind fun bt209 => ((Rf17_Same.f k t170 (([(⟨bt191.1,(⟨bt191.2.1,bt191.2.2.1,bt191.2.2.2.1,bt191.2.2.2.2.1,bt191.2.2.2.2.2⟩ : S24)⟩ : S41),(⟨bt197.1,(⟨bt197.2.1,bt197.2.2.1,bt197.2.2.2.1,bt197.2.2.2.2.1,bt197.2.2.2.2.2⟩ : S24)⟩ : S41),(⟨bt203.1,(⟨bt203.2.1,bt203.2.2.1,bt203.2.2.2.1,bt203.2.2.2.2.1,bt203.2.2.2.2.2⟩ : S24)⟩ : S41),(⟨bt209.1,(⟨bt209.2.1,bt209.2.2.1,bt209.2.2.2.1,bt209.2.2.2.2.1,bt209.2.2.2.2.2⟩ : S24)⟩ : S41)] : List (S41)))).bind fun t218 => (if t218 = true then ((mvs_Reached.f y167 y152).bind fun t219 => (if (t219.length : Int) = 5 then ((Lw17_req.f (⟨#[98]⟩ : ByteArray) 0).bind fun bt222 => ((Lw17_req.f (⟨#[97]⟩ : ByteArray) 3).bind fun bt228 => ((Rf17_Same.f k t179 (([(⟨bt222.1,(⟨bt222.2.1,bt222.2.2.1,bt222.2.2.2.1,bt222.2.2.2.2.1,bt222.2.2.2.2.2⟩ : S24)⟩ : S41),(⟨bt228.1,(⟨bt228.2.1,bt228.2.2.1,bt228.2.2.2.1,bt228.2.2.2.2.1,bt228.2.2.2.2.2⟩ : S24)⟩ : S41)] : List (S41)))).bind fun t237 => (if t237 = true then ((Lw17_req.f (⟨#[97]⟩ : ByteArray) 0).bind fun bt238 => ((Rf17_Same.f k t188 (([(⟨bt238.1,(⟨bt238.2.1,bt238.2.2.1,bt238.2.2.2.1,bt238.2.2.2.2.1,bt238.2.2.2.2.2⟩ : S24)⟩ : S41)] : List (S41)))).bind fun t247 => (if t247 = true then ((Lw17_req.f (⟨#[122]⟩ : ByteArray) 0).bind fun bt248 => ((mvs_Upgrade.f y167 bt248.1 bt248.2.1 bt248.2.2.1 bt248.2.2.2.1 bt248.2.2.2.2.1 bt248.2.2.2.2.2).bind fun t254 => (if (t254.length : Int) = 3 then ((Lw17_req.f (⟨#[122]⟩ : ByteArray) (-1)).bind fun bt257 => ((mvs_Upgrade.f y167 bt257.1 bt257.2.1 bt257.2.2.1 bt257.2.2.2.1 bt257.2.2.2.2.1 bt257.2.2.2.2.2).bind fun t263 => (some ((t263.length : Int) == 2)))) else (some false)))) else (some false)))) else (some false))))) else (some false))) else (some false))))))))))))))))))))) = some r:=by first | (rw [hy113];with_reducible exact H) | (have H2_:=(Option.bind_some _ _).symm.trans H;rw [hy113];with_reducible exact H2_) | (have H2_:=(Option.bind_some _ _).symm.trans H;with_reducible exact H2_) | with_reducible exact H | (rw [hy113];exact H) | exact H
 have Ny113:=Aside0.mk hy113
 clear hy113
 obtain ⟨⟨t116,t117,t118,t119,t120,t121⟩,A30,H⟩:=Option.bind_eq_some_iff.mp H
 dsimp only at H
 have A3:=Aside0.mk A30
 clear A30
 obtain ⟨⟨t122,t123,t124,t125,t126,t127⟩,A40,H⟩:=Option.bind_eq_some_iff.mp H
 dsimp only at H
 have A4:=Aside0.mk A40
 clear A40
 obtain ⟨y128,hy128⟩ : ∃ y_ : List (S41),y_ = (([(⟨t122,(⟨t123,t124,t125,t126,t127⟩ : S24)⟩ : S41)] : List (S41))):=⟨_,rfl⟩
 replace H : ((Lw17_req.f (⟨#[99]⟩ : ByteArray) 2).bind fun bt131 => ((Lw17_req.f (⟨#[100]⟩ : ByteArray) 0).bind fun bt137 => ((Lw17_req.f (⟨#[98]⟩ : ByteArray) (-1)).bind fun bt146 => ((some (([(⟨(⟨t101,(⟨t102,t103,t104,t105,t106⟩ : S24)⟩ : S41),y113⟩ : S70),(⟨(⟨t116,(⟨t117,t118,t119,t120,t121⟩ : S24)⟩ : S41),y128⟩ : S70),(⟨(⟨bt131.1,(⟨bt131.2.1,bt131.2.2.1,bt131.2.2.2.1,bt131.2.2.2.2.1,bt131.2.2.2.2.2⟩ : S24)⟩ : S41),(([(⟨bt137.1,(⟨bt137.2.1,bt137.2.2.1,bt137.2.2.2.1,bt137.2.2.2.2.1,bt137.2.2.2.2.2⟩ : S24)⟩ : S41)] : List (S41)))⟩ : S70),(⟨(⟨bt146.1,(⟨bt146.2.1,bt146.2.2.1,bt146.2.2.2.1,bt146.2.2.2.2.1,bt146.2.2.2.2.2⟩ : S24)⟩ : S41),([] : List (S41))⟩ : S70)] : List (S70)) : List (S70))).bind fun y152 => ((Lw17_req.f (⟨#[98]⟩ : ByteArray) 0).bind fun bt155 => ((Lw17_req.f (⟨#[97]⟩ : ByteArray) 0).bind fun bt161 => ((some (([(⟨bt155.1,(⟨bt155.2.1,bt155.2.2.1,bt155.2.2.2.1,bt155.2.2.2.2.1,bt155.2.2.2.2.2⟩ : S24)⟩ : S41),(⟨bt161.1,(⟨bt161.2.1,bt161.2.2.1,bt161.2.2.2.1,bt161.2.2.2.2.1,bt161.2.2.2.2.2⟩ : S24)⟩ : S41)] : List (S41)) : List (S41))).bind fun y167 => ((mvs_List.f y167 y152).bind fun t170 => ((Lw17_req.f (⟨#[97]⟩ : ByteArray) 3).bind fun bt173 => ((mvs_Upgrade.f y167 bt173.1 bt173.2.1 bt173.2.2.1 bt173.2.2.2.1 bt173.2.2.2.2.1 bt173.2.2.2.2.2).bind fun t179 => ((Lw17_req.f (⟨#[99]⟩ : ByteArray) 1).bind fun bt182 => ((mvs_Downgrade.f k y167 y152 bt182.1 bt182.2.1 bt182.2.2.1 bt182.2.2.2.1 bt182.2.2.2.2.1 bt182.2.2.2.2.2).bind fun t188 => ((Lw17_req.f (⟨#[97]⟩ : ByteArray) 0).bind fun bt191 => ((Lw17_req.f (⟨#[98]⟩ : ByteArray) 0).bind fun bt197 => ((Lw17_req.f (⟨#[99]⟩ : ByteArray) 2).bind fun bt203 => ((Lw17_req.f (⟨#[100]⟩ : ByteArray) 0).bind fun bt209 => ((Rf17_Same.f k t170 (([(⟨bt191.1,(⟨bt191.2.1,bt191.2.2.1,bt191.2.2.2.1,bt191.2.2.2.2.1,bt191.2.2.2.2.2⟩ : S24)⟩ : S41),(⟨bt197.1,(⟨bt197.2.1,bt197.2.2.1,bt197.2.2.2.1,bt197.2.2.2.2.1,bt197.2.2.2.2.2⟩ : S24)⟩ : S41),(⟨bt203.1,(⟨bt203.2.1,bt203.2.2.1,bt203.2.2.2.1,bt203.2.2.2.2.1,bt203.2.2.2.2.2⟩ : S24)⟩ : S41),(⟨bt209.1,(⟨bt209.2.1,bt209.2.2.1,bt209.2.2.2.1,bt209.2.2.2.2.1,bt209.2.2.2.2.2⟩ : S24)⟩ : S41)] : List (S41)))).bind fun t218 => (if t218 = true then ((mvs_Reached.f y167 y152).bind fun t219 => (if (t219.length : Int) = 5 then ((Lw17_req.f (⟨#[98]⟩ : ByteArray) 0).bind fun bt222 => ((Lw17_req.f (⟨#[97]⟩ : ByteArray) 3).bind fun bt228 => ((Rf17_Same.f k t179 (([(⟨bt222.1,(⟨bt222.2.1,bt222.2.2.1,bt222.2.2.2.1,bt222.2.2.2.2.1,bt222.2.2.2.2.2⟩ : S24)⟩ : S41),(⟨bt228.1,(⟨bt228.2.1,bt228.2.2.1,bt228.2.2.2.1,bt228.2.2.2.2.1,bt228.2.2.2.2.2⟩ : S24)⟩ : S41)] : List (S41)))).bind fun t237 => (if t237 = true then ((Lw17_req.f (⟨#[97]⟩ : ByteArray) 0).bind fun bt238 => ((Rf17_Same.f k t188 (([(⟨bt238.1,(⟨bt238.2.1,bt238.2.2.1,bt238.2.2.2.1,bt238.2.2.2.2.1,bt238.2.2.2.2.2⟩ : S24)⟩ : S41)] : List (S41)))).bind fun t247 => (if t247 = true then ((Lw17_req.f (⟨#[122]⟩ : ByteArray) 0).bind fun bt248 => ((mvs_Upgrade.f y167 bt248.1 bt248.2.1 bt248.2.2.1 bt248.2.2.2.1 bt248.2.2.2.2.1 bt248.2.2.2.2.2).bind fun t254 => (if (t254.length : Int) = 3 then ((Lw17_req.f (⟨#[122]⟩ : ByteArray) (-1)).bind fun bt257 => ((mvs_Upgrade.f y167 bt257.1 bt257.2.1 bt257.2.2.1 bt257.2.2.2.1 bt257.2.2.2.2.1 bt257.2.2.2.2.2).bind fun t263 => (some ((t263.length : Int) == 2)))) else (some false)))) else (some false)))) else (some false))))) else (some false))) else (some false))))))))))))))))))) = some r:=by first | (rw [hy128];with_reducible exact H) | (have H2_:=(Option.bind_some _ _).symm.trans H;rw [hy128];with_reducible exact H2_) | (have H2_:=(Option.bind_some _ _).symm.trans H;with_reducible exact H2_) | with_reducible exact H | (rw [hy128];exact H) | exact H
 have Ny128:=Aside0.mk hy128
 clear hy128
 obtain ⟨⟨t131,t132,t133,t134,t135,t136⟩,A50,H⟩:=Option.bind_eq_some_iff.mp H
 dsimp only at H
 have A5:=Aside0.mk A50
 clear A50
 obtain ⟨⟨t137,t138,t139,t140,t141,t142⟩,A60,H⟩:=Option.bind_eq_some_iff.mp H
 dsimp only at H
 have A6:=Aside0.mk A60
 clear A60
 obtain ⟨y143,hy143⟩ : ∃ y_ : List (S41),y_ = (([(⟨t137,(⟨t138,t139,t140,t141,t142⟩ : S24)⟩ : S41)] : List (S41))):=⟨_,rfl⟩
 replace H : ((Lw17_req.f (⟨#[98]⟩ : ByteArray) (-1)).bind fun bt146 => ((some (([(⟨(⟨t101,(⟨t102,t103,t104,t105,t106⟩ : S24)⟩ : S41),y113⟩ : S70),(⟨(⟨t116,(⟨t117,t118,t119,t120,t121⟩ : S24)⟩ : S41),y128⟩ : S70),(⟨(⟨t131,(⟨t132,t133,t134,t135,t136⟩ : S24)⟩ : S41),y143⟩ : S70),(⟨(⟨bt146.1,(⟨bt146.2.1,bt146.2.2.1,bt146.2.2.2.1,bt146.2.2.2.2.1,bt146.2.2.2.2.2⟩ : S24)⟩ : S41),([] : List (S41))⟩ : S70)] : List (S70)) : List (S70))).bind fun y152 => ((Lw17_req.f (⟨#[98]⟩ : ByteArray) 0).bind fun bt155 => ((Lw17_req.f (⟨#[97]⟩ : ByteArray) 0).bind fun bt161 => ((some (([(⟨bt155.1,(⟨bt155.2.1,bt155.2.2.1,bt155.2.2.2.1,bt155.2.2.2.2.1,bt155.2.2.2.2.2⟩ : S24)⟩ : S41),(⟨bt161.1,(⟨bt161.2.1,bt161.2.2.1,bt161.2.2.2.1,bt161.2.2.2.2.1,bt161.2.2.2.2.2⟩ : S24)⟩ : S41)] : List (S41)) : List (S41))).bind fun y167 => ((mvs_List.f y167 y152).bind fun t170 => ((Lw17_req.f (⟨#[97]⟩ : ByteArray) 3).bind fun bt173 => ((mvs_Upgrade.f y167 bt173.1 bt173.2.1 bt173.2.2.1 bt173.2.2.2.1 bt173.2.2.2.2.1 bt173.2.2.2.2.2).bind fun t179 => ((Lw17_req.f (⟨#[99]⟩ : ByteArray) 1).bind fun bt182 => ((mvs_Downgrade.f k y167 y152 bt182.1 bt182.2.1 bt182.2.2.1 bt182.2.2.2.1 bt182.2.2.2.2.1 bt182.2.2.2.2.2).bind fun t188 => ((Lw17_req.f (⟨#[97]⟩ : ByteArray) 0).bind fun bt191 => ((Lw17_req.f (⟨#[98]⟩ : ByteArray) 0).bind fun bt197 => ((Lw17_req.f (⟨#[99]⟩ : ByteArray) 2).bind fun bt203 => ((Lw17_req.f (⟨#[100]⟩ : ByteArray) 0).bind fun bt209 => ((Rf17_Same.f k t170 (([(⟨bt191.1,(⟨bt191.2.1,bt191.2.2.1,bt191.2.2.2.1,bt191.2.2.2.2.1,bt191.2.2.2.2.2⟩ : S24)⟩ : S41),(⟨bt197.1,(⟨bt197.2.1,bt197.2.2.1,bt197.2.2.2.1,bt197.2.2.2.2.1,bt197.2.2.2.2.2⟩ : S24)⟩ : S41),(⟨bt203.1,(⟨bt203.2.1,bt203.2.2.1,bt203.2.2.2.1,bt203.2.2.2.2.1,bt203.2.2.2.2.2⟩ : S24)⟩ : S41),(⟨bt209.1,(⟨bt209.2.1,bt209.2.2.1,bt209.2.2.2.1,bt209.2.2.2.2.1,bt209.2.2.2.2.2⟩ : S24)⟩ : S41)] : List (S41)))).bind fun t218 => (if t218 = true then ((mvs_Reached.f y167 y152).bind fun t219 => (if (t219.length : Int) = 5 then ((Lw17_req.f (⟨#[98]⟩ : ByteArray) 0).bind fun bt222 => ((Lw17_req.f (⟨#[97]⟩ : ByteArray) 3).bind fun bt228 => ((Rf17_Same.f k t179 (([(⟨bt222.1,(⟨bt222.2.1,bt222.2.2.1,bt222.2.2.2.1,bt222.2.2.2.2.1,bt222.2.2.2.2.2⟩ : S24)⟩ : S41),(⟨bt228.1,(⟨bt228.2.1,bt228.2.2.1,bt228.2.2.2.1,bt228.2.2.2.2.1,bt228.2.2.2.2.2⟩ : S24)⟩ : S41)] : List (S41)))).bind fun t237 => (if t237 = true then ((Lw17_req.f (⟨#[97]⟩ : ByteArray) 0).bind fun bt238 => ((Rf17_Same.f k t188 (([(⟨bt238.1,(⟨bt238.2.1,bt238.2.2.1,bt238.2.2.2.1,bt238.2.2.2.2.1,bt238.2.2.2.2.2⟩ : S24)⟩ : S41)] : List (S41)))).bind fun t247 => (if t247 = true then ((Lw17_req.f (⟨#[122]⟩ : ByteArray) 0).bind fun bt248 => ((mvs_Upgrade.f y167 bt248.1 bt248.2.1 bt248.2.2.1 bt248.2.2.2.1 bt248.2.2.2.2.1 bt248.2.2.2.2.2).bind fun t254 => (if (t254.length : Int) = 3 then ((Lw17_req.f (⟨#[122]⟩ : ByteArray) (-1)).bind fun bt257 => ((mvs_Upgrade.f y167 bt257.1 bt257.2.1 bt257.2.2.1 bt257.2.2.2.1 bt257.2.2.2.2.1 bt257.2.2.2.2.2).bind fun t263 => (some ((t263.length : Int) == 2)))) else (some false)))) else (some false)))) else (some false))))) else (some false))) else (some false))))))))))))))))) = some r:=by first | (rw [hy143];with_reducible exact H) | (have H2_:=(Option.bind_some _ _).symm.trans H;rw [hy143];with_reducible exact H2_) | (have H2_:=(Option.bind_some _ _).symm.trans H;with_reducible exact H2_) | with_reducible exact H | (rw [hy143];exact H) | exact H
 have Ny143:=Aside0.mk hy143
 clear hy143
 obtain ⟨⟨t146,t147,t148,t149,t150,t151⟩,A70,H⟩:=Option.bind_eq_some_iff.mp H
 dsimp only at H
 have A7:=Aside0.mk A70
 clear A70
 obtain ⟨y152,hy152⟩ : ∃ y_ : List (S70),y_ = (([(⟨(⟨t101,(⟨t102,t103,t104,t105,t106⟩ : S24)⟩ : S41),y113⟩ : S70),(⟨(⟨t116,(⟨t117,t118,t119,t120,t121⟩ : S24)⟩ : S41),y128⟩ : S70),(⟨(⟨t131,(⟨t132,t133,t134,t135,t136⟩ : S24)⟩ : S41),y143⟩ : S70),(⟨(⟨t146,(⟨t147,t148,t149,t150,t151⟩ : S24)⟩ : S41),([] : List (S41))⟩ : S70)] : List (S70))):=⟨_,rfl⟩
 replace H : ((Lw17_req.f (⟨#[98]⟩ : ByteArray) 0).bind fun bt155 => ((Lw17_req.f (⟨#[97]⟩ : ByteArray) 0).bind fun bt161 => ((some (([(⟨bt155.1,(⟨bt155.2.1,bt155.2.2.1,bt155.2.2.2.1,bt155.2.2.2.2.1,bt155.2.2.2.2.2⟩ : S24)⟩ : S41),(⟨bt161.1,(⟨bt161.2.1,bt161.2.2.1,bt161.2.2.2.1,bt161.2.2.2.2.1,bt161.2.2.2.2.2⟩ : S24)⟩ : S41)] : List (S41)) : List (S41))).bind fun y167 => ((mvs_List.f y167 y152).bind fun t170 => ((Lw17_req.f (⟨#[97]⟩ : ByteArray) 3).bind fun bt173 => ((mvs_Upgrade.f y167 bt173.1 bt173.2.1 bt173.2.2.1 bt173.2.2.2.1 bt173.2.2.2.2.1 bt173.2.2.2.2.2).bind fun t179 => ((Lw17_req.f (⟨#[99]⟩ : ByteArray) 1).bind fun bt182 => ((mvs_Downgrade.f k y167 y152 bt182.1 bt182.2.1 bt182.2.2.1 bt182.2.2.2.1 bt182.2.2.2.2.1 bt182.2.2.2.2.2).bind fun t188 => ((Lw17_req.f (⟨#[97]⟩ : ByteArray) 0).bind fun bt191 => ((Lw17_req.f (⟨#[98]⟩ : ByteArray) 0).bind fun bt197 => ((Lw17_req.f (⟨#[99]⟩ : ByteArray) 2).bind fun bt203 => ((Lw17_req.f (⟨#[100]⟩ : ByteArray) 0).bind fun bt209 => ((Rf17_Same.f k t170 (([(⟨bt191.1,(⟨bt191.2.1,bt191.2.2.1,bt191.2.2.2.1,bt191.2.2.2.2.1,bt191.2.2.2.2.2⟩ : S24)⟩ : S41),(⟨bt197.1,(⟨bt197.2.1,bt197.2.2.1,bt197.2.2.2.1,bt197.2.2.2.2.1,bt197.2.2.2.2.2⟩ : S24)⟩ : S41),(⟨bt203.1,(⟨bt203.2.1,bt203.2.2.1,bt203.2.2.2.1,bt203.2.2.2.2.1,bt203.2.2.2.2.2⟩ : S24)⟩ : S41),(⟨bt209.1,(⟨bt209.2.1,bt209.2.2.1,bt209.2.2.2.1,bt209.2.2.2.2.1,bt209.2.2.2.2.2⟩ : S24)⟩ : S41)] : List (S41)))).bind fun t218 => (if t218 = true then ((mvs_Reached.f y167 y152).bind fun t219 => (if (t219.length : Int) = 5 then ((Lw17_req.f (⟨#[98]⟩ : ByteArray) 0).bind fun bt222 => ((Lw17_req.f (⟨#[97]⟩ : ByteArray) 3).bind fun bt228 => ((Rf17_Same.f k t179 (([(⟨bt222.1,(⟨bt222.2.1,bt222.2.2.1,bt222.2.2.2.1,bt222.2.2.2.2.1,bt222.2.2.2.2.2⟩ : S24)⟩ : S41),(⟨bt228.1,(⟨bt228.2.1,bt228.2.2.1,bt228.2.2.2.1,bt228.2.2.2.2.1,bt228.2.2.2.2.2⟩ : S24)⟩ : S41)] : List (S41)))).bind fun t237 => (if t237 = true then ((Lw17_req.f (⟨#[97]⟩ : ByteArray) 0).bind fun bt238 => ((Rf17_Same.f k t188 (([(⟨bt238.1,(⟨bt238.2.1,bt238.2.2.1,bt238.2.2.2.1,bt238.2.2.2.2.1,bt238.2.2.2.2.2⟩ : S24)⟩ : S41)] : List (S41)))).bind fun t247 => (if t247 = true then ((Lw17_req.f (⟨#[122]⟩ : ByteArray) 0).bind fun bt248 => ((mvs_Upgrade.f y167 bt248.1 bt248.2.1 bt248.2.2.1 bt248.2.2.2.1 bt248.2.2.2.2.1 bt248.2.2.2.2.2).bind fun t254 => (if (t254.length : Int) = 3 then ((Lw17_req.f (⟨#[122]⟩ : ByteArray) (-1)).bind fun bt257 => ((mvs_Upgrade.f y167 bt257.1 bt257.2.1 bt257.2.2.1 bt257.2.2.2.1 bt257.2.2.2.2.1 bt257.2.2.2.2.2).bind fun t263 => (some ((t263.length : Int) == 2)))) else (some false)))) else (some false)))) else (some false))))) else (some false))) else (some false))))))))))))))) = some r:=by first | (rw [hy152];with_reducible exact H) | (have H2_:=(Option.bind_some _ _).symm.trans H;rw [hy152];with_reducible exact H2_) | (have H2_:=(Option.bind_some _ _).symm.trans H;with_reducible exact H2_) | with_reducible exact H | (rw [hy152];exact H) | exact H
 have Ny152:=Aside0.mk hy152
 clear hy152
 obtain ⟨⟨t155,t156,t157,t158,t159,t160⟩,A80,H⟩:=Option.bind_eq_some_iff.mp H
 dsimp only at H
 have A8:=Aside0.mk A80
 clear A80
 obtain ⟨⟨t161,t162,t163,t164,t165,t166⟩,A90,H⟩:=Option.bind_eq_some_iff.mp H
 dsimp only at H
 have A9:=Aside0.mk A90
 clear A90
 obtain ⟨y167,hy167⟩ : ∃ y_ : List (S41),y_ = (([(⟨t155,(⟨t156,t157,t158,t159,t160⟩ : S24)⟩ : S41),(⟨t161,(⟨t162,t163,t164,t165,t166⟩ : S24)⟩ : S41)] : List (S41))):=⟨_,rfl⟩
 replace H : ((mvs_List.f y167 y152).bind fun t170 => ((Lw17_req.f (⟨#[97]⟩ : ByteArray) 3).bind fun bt173 => ((mvs_Upgrade.f y167 bt173.1 bt173.2.1 bt173.2.2.1 bt173.2.2.2.1 bt173.2.2.2.2.1 bt173.2.2.2.2.2).bind fun t179 => ((Lw17_req.f (⟨#[99]⟩ : ByteArray) 1).bind fun bt182 => ((mvs_Downgrade.f k y167 y152 bt182.1 bt182.2.1 bt182.2.2.1 bt182.2.2.2.1 bt182.2.2.2.2.1 bt182.2.2.2.2.2).bind fun t188 => ((Lw17_req.f (⟨#[97]⟩ : ByteArray) 0).bind fun bt191 => ((Lw17_req.f (⟨#[98]⟩ : ByteArray) 0).bind fun bt197 => ((Lw17_req.f (⟨#[99]⟩ : ByteArray) 2).bind fun bt203 => ((Lw17_req.f (⟨#[100]⟩ : ByteArray) 0).bind fun bt209 => ((Rf17_Same.f k t170 (([(⟨bt191.1,(⟨bt191.2.1,bt191.2.2.1,bt191.2.2.2.1,bt191.2.2.2.2.1,bt191.2.2.2.2.2⟩ : S24)⟩ : S41),(⟨bt197.1,(⟨bt197.2.1,bt197.2.2.1,bt197.2.2.2.1,bt197.2.2.2.2.1,bt197.2.2.2.2.2⟩ : S24)⟩ : S41),(⟨bt203.1,(⟨bt203.2.1,bt203.2.2.1,bt203.2.2.2.1,bt203.2.2.2.2.1,bt203.2.2.2.2.2⟩ : S24)⟩ : S41),(⟨bt209.1,(⟨bt209.2.1,bt209.2.2.1,bt209.2.2.2.1,bt209.2.2.2.2.1,bt209.2.2.2.2.2⟩ : S24)⟩ : S41)] : List (S41)))).bind fun t218 => (if t218 = true then ((mvs_Reached.f y167 y152).bind fun t219 => (if (t219.length : Int) = 5 then ((Lw17_req.f (⟨#[98]⟩ : ByteArray) 0).bind fun bt222 => ((Lw17_req.f (⟨#[97]⟩ : ByteArray) 3).bind fun bt228 => ((Rf17_Same.f k t179 (([(⟨bt222.1,(⟨bt222.2.1,bt222.2.2.1,bt222.2.2.2.1,bt222.2.2.2.2.1,bt222.2.2.2.2.2⟩ : S24)⟩ : S41),(⟨bt228.1,(⟨bt228.2.1,bt228.2.2.1,bt228.2.2.2.1,bt228.2.2.2.2.1,bt228.2.2.2.2.2⟩ : S24)⟩ : S41)] : List (S41)))).bind fun t237 => (if t237 = true then ((Lw17_req.f (⟨#[97]⟩ : ByteArray) 0).bind fun bt238 => ((Rf17_Same.f k t188 (([(⟨bt238.1,(⟨bt238.2.1,bt238.2.2.1,bt238.2.2.2.1,bt238.2.2.2.2.1,bt238.2.2.2.2.2⟩ : S24)⟩ : S41)] : List (S41)))).bind fun t247 => (if t247 = true then ((Lw17_req.f (⟨#[122]⟩ : ByteArray) 0).bind fun bt248 => ((mvs_Upgrade.f y167 bt248.1 bt248.2.1 bt248.2.2.1 bt248.2.2.2.1 bt248.2.2.2.2.1 bt248.2.2.2.2.2).bind fun t254 => (if (t254.length : Int) = 3 then ((Lw17_req.f (⟨#[122]⟩ : ByteArray) (-1)).bind fun bt257 => ((mvs_Upgrade.f y167 bt257.1 bt257.2.1 bt257.2.2.1 bt257.2.2.2.1 bt257.2.2.2.2.1 bt257.2.2.2.2.2).bind fun t263 => (some ((t263.length : Int) == 2)))) else (some false)))) else (some false)))) else (some false))))) else (some false))) else (some false)))))))))))) = some r:=by first | (rw [hy167];with_reducible exact H) | (have H2_:=(Option.bind_some _ _).symm.trans H;rw [hy167];with_reducible exact H2_) | (have H2_:=(Option.bind_some _ _).symm.trans H;with_reducible exact H2_) | with_reducible exact H | (rw [hy167];exact H) | exact H
 have Ny167:=Aside0.mk hy167
 clear hy167
 obtain ⟨t170,A100,H⟩:=Option.bind_eq_some_iff.mp H
 have A10:=Aside0.mk A100
 clear A100
 obtain ⟨⟨t173,t174,t175,t176,t177,t178⟩,A110,H⟩:=Option.bind_eq_some_iff.mp H
 dsimp only at H
 have A11:=Aside0.mk A110
 clear A110
 obtain ⟨t179,A120,H⟩:=Option.bind_eq_some_iff.mp H
 have A12:=Aside0.mk A120
 clear A120
 obtain ⟨⟨t182,t183,t184,t185,t186,t187⟩,A130,H⟩:=Option.bind_eq_some_iff.mp H
 dsimp only at H
 have A13:=Aside0.mk A130
 clear A130
 obtain ⟨t188,A140,H⟩:=Option.bind_eq_some_iff.mp H
 have A14:=Aside0.mk A140
 clear A140
 obtain ⟨⟨t191,t192,t193,t194,t195,t196⟩,A150,H⟩:=Option.bind_eq_some_iff.mp H
 dsimp only at H
 have A15:=Aside0.mk A150
 clear A150
 obtain ⟨⟨t197,t198,t199,t200,t201,t202⟩,A160,H⟩:=Option.bind_eq_some_iff.mp H
 dsimp only at H
 have A16:=Aside0.mk A160
 clear A160
 obtain ⟨⟨t203,t204,t205,t206,t207,t208⟩,A170,H⟩:=Option.bind_eq_some_iff.mp H
 dsimp only at H
 have A17:=Aside0.mk A170
 clear A170
 obtain ⟨⟨t209,t210,t211,t212,t213,t214⟩,A180,H⟩:=Option.bind_eq_some_iff.mp H
 dsimp only at H
 have A18:=Aside0.mk A180
 clear A180
 obtain ⟨y215,hy215⟩ : ∃ y_ : List (S41),y_ = (([(⟨t191,(⟨t192,t193,t194,t195,t196⟩ : S24)⟩ : S41),(⟨t197,(⟨t198,t199,t200,t201,t202⟩ : S24)⟩ : S41),(⟨t203,(⟨t204,t205,t206,t207,t208⟩ : S24)⟩ : S41),(⟨t209,(⟨t210,t211,t212,t213,t214⟩ : S24)⟩ : S41)] : List (S41))):=⟨_,rfl⟩
 replace H : ((Rf17_Same.f k t170 y215).bind fun t218 => (if t218 = true then ((mvs_Reached.f y167 y152).bind fun t219 => (if (t219.length : Int) = 5 then ((Lw17_req.f (⟨#[98]⟩ : ByteArray) 0).bind fun bt222 => ((Lw17_req.f (⟨#[97]⟩ : ByteArray) 3).bind fun bt228 => ((Rf17_Same.f k t179 (([(⟨bt222.1,(⟨bt222.2.1,bt222.2.2.1,bt222.2.2.2.1,bt222.2.2.2.2.1,bt222.2.2.2.2.2⟩ : S24)⟩ : S41),(⟨bt228.1,(⟨bt228.2.1,bt228.2.2.1,bt228.2.2.2.1,bt228.2.2.2.2.1,bt228.2.2.2.2.2⟩ : S24)⟩ : S41)] : List (S41)))).bind fun t237 => (if t237 = true then ((Lw17_req.f (⟨#[97]⟩ : ByteArray) 0).bind fun bt238 => ((Rf17_Same.f k t188 (([(⟨bt238.1,(⟨bt238.2.1,bt238.2.2.1,bt238.2.2.2.1,bt238.2.2.2.2.1,bt238.2.2.2.2.2⟩ : S24)⟩ : S41)] : List (S41)))).bind fun t247 => (if t247 = true then ((Lw17_req.f (⟨#[122]⟩ : ByteArray) 0).bind fun bt248 => ((mvs_Upgrade.f y167 bt248.1 bt248.2.1 bt248.2.2.1 bt248.2.2.2.1 bt248.2.2.2.2.1 bt248.2.2.2.2.2).bind fun t254 => (if (t254.length : Int) = 3 then ((Lw17_req.f (⟨#[122]⟩ : ByteArray) (-1)).bind fun bt257 => ((mvs_Upgrade.f y167 bt257.1 bt257.2.1 bt257.2.2.1 bt257.2.2.2.1 bt257.2.2.2.2.1 bt257.2.2.2.2.2).bind fun t263 => (some ((t263.length : Int) == 2)))) else (some false)))) else (some false)))) else (some false))))) else (some false))) else (some false))) = some r:=by first | (rw [hy215];with_reducible exact H) | (have H2_:=(Option.bind_some _ _).symm.trans H;rw [hy215];with_reducible exact H2_) | (have H2_:=(Option.bind_some _ _).symm.trans H;with_reducible exact H2_) | with_reducible exact H | (rw [hy215];exact H) | exact H
 have Ny215:=Aside0.mk hy215
 clear hy215
 obtain ⟨t218,A190,H⟩:=Option.bind_eq_some_iff.mp H
 have A19:=Aside0.mk A190
 clear A190
 by_cases c20 : t218 = true
 ·subst c20
  rw [if_pos rfl] at H
  obtain ⟨t219,A210,H⟩:=Option.bind_eq_some_iff.mp H
  have A21:=Aside0.mk A210
  clear A210
  by_cases c22 : (t219.length : Int) = 5
  ·rw [if_pos c22] at H
   have c22b0:=beq_iff_eq.mpr c22
   have c22b1:=bne_eq_false_iff_eq.mpr c22
   clear c22
   obtain ⟨⟨t222,t223,t224,t225,t226,t227⟩,A230,H⟩:=Option.bind_eq_some_iff.mp H
   dsimp only at H
   have A23:=Aside0.mk A230
   clear A230
   obtain ⟨⟨t228,t229,t230,t231,t232,t233⟩,A240,H⟩:=Option.bind_eq_some_iff.mp H
   dsimp only at H
   have A24:=Aside0.mk A240
   clear A240
   obtain ⟨y234,hy234⟩ : ∃ y_ : List (S41),y_ = (([(⟨t222,(⟨t223,t224,t225,t226,t227⟩ : S24)⟩ : S41),(⟨t228,(⟨t229,t230,t231,t232,t233⟩ : S24)⟩ : S41)] : List (S41))):=⟨_,rfl⟩
   replace H : ((Rf17_Same.f k t179 y234).bind fun t237 => (if t237 = true then ((Lw17_req.f (⟨#[97]⟩ : ByteArray) 0).bind fun bt238 => ((Rf17_Same.f k t188 (([(⟨bt238.1,(⟨bt238.2.1,bt238.2.2.1,bt238.2.2.2.1,bt238.2.2.2.2.1,bt238.2.2.2.2.2⟩ : S24)⟩ : S41)] : List (S41)))).bind fun t247 => (if t247 = true then ((Lw17_req.f (⟨#[122]⟩ : ByteArray) 0).bind fun bt248 => ((mvs_Upgrade.f y167 bt248.1 bt248.2.1 bt248.2.2.1 bt248.2.2.2.1 bt248.2.2.2.2.1 bt248.2.2.2.2.2).bind fun t254 => (if (t254.length : Int) = 3 then ((Lw17_req.f (⟨#[122]⟩ : ByteArray) (-1)).bind fun bt257 => ((mvs_Upgrade.f y167 bt257.1 bt257.2.1 bt257.2.2.1 bt257.2.2.2.1 bt257.2.2.2.2.1 bt257.2.2.2.2.2).bind fun t263 => (some ((t263.length : Int) == 2)))) else (some false)))) else (some false)))) else (some false))) = some r:=by first | (rw [hy234];with_reducible exact H) | (have H2_:=(Option.bind_some _ _).symm.trans H;rw [hy234];with_reducible exact H2_) | (have H2_:=(Option.bind_some _ _).symm.trans H;with_reducible exact H2_) | with_reducible exact H | (rw [hy234];exact H) | exact H
   have Ny234:=Aside0.mk hy234
   clear hy234
   obtain ⟨t237,A250,H⟩:=Option.bind_eq_some_iff.mp H
   have A25:=Aside0.mk A250
   clear A250
   by_cases c26 : t237 = true
   ·subst c26
    rw [if_pos rfl] at H
    obtain ⟨⟨t238,t239,t240,t241,t242,t243⟩,A270,H⟩:=Option.bind_eq_some_iff.mp H
    dsimp only at H
    have A27:=Aside0.mk A270
    clear A270
    obtain ⟨y244,hy244⟩ : ∃ y_ : List (S41),y_ = (([(⟨t238,(⟨t239,t240,t241,t242,t243⟩ : S24)⟩ : S41)] : List (S41))):=⟨_,rfl⟩
    replace H : ((Rf17_Same.f k t188 y244).bind fun t247 => (if t247 = true then ((Lw17_req.f (⟨#[122]⟩ : ByteArray) 0).bind fun bt248 => ((mvs_Upgrade.f y167 bt248.1 bt248.2.1 bt248.2.2.1 bt248.2.2.2.1 bt248.2.2.2.2.1 bt248.2.2.2.2.2).bind fun t254 => (if (t254.length : Int) = 3 then ((Lw17_req.f (⟨#[122]⟩ : ByteArray) (-1)).bind fun bt257 => ((mvs_Upgrade.f y167 bt257.1 bt257.2.1 bt257.2.2.1 bt257.2.2.2.1 bt257.2.2.2.2.1 bt257.2.2.2.2.2).bind fun t263 => (some ((t263.length : Int) == 2)))) else (some false)))) else (some false))) = some r:=by first | (rw [hy244];with_reducible exact H) | (have H2_:=(Option.bind_some _ _).symm.trans H;rw [hy244];with_reducible exact H2_) | (have H2_:=(Option.bind_some _ _).symm.trans H;with_reducible exact H2_) | with_reducible exact H | (rw [hy244];exact H) | exact H
    have Ny244:=Aside0.mk hy244
    clear hy244
    obtain ⟨t247,A280,H⟩:=Option.bind_eq_some_iff.mp H
    have A28:=Aside0.mk A280
    clear A280
    by_cases c29 : t247 = true
    ·subst c29
     rw [if_pos rfl] at H
     obtain ⟨⟨t248,t249,t250,t251,t252,t253⟩,A300,H⟩:=Option.bind_eq_some_iff.mp H
     dsimp only at H
     have A30:=Aside0.mk A300
     clear A300
     obtain ⟨t254,A310,H⟩:=Option.bind_eq_some_iff.mp H
     have A31:=Aside0.mk A310
     clear A310
     by_cases c32 : (t254.length : Int) = 3
     ·rw [if_pos c32] at H
      have c32b0:=beq_iff_eq.mpr c32
      have c32b1:=bne_eq_false_iff_eq.mpr c32
      clear c32
      obtain ⟨⟨t257,t258,t259,t260,t261,t262⟩,A330,H⟩:=Option.bind_eq_some_iff.mp H
      dsimp only at H
      have A33:=Aside0.mk A330
      clear A330
      obtain ⟨t263,A340,H⟩:=Option.bind_eq_some_iff.mp H
      have A34:=Aside0.mk A340
      clear A340
      obtain rfl:=Option.some.inj H
      go_enter Tryz.func22,Tryz.ntmps22
      go_wp2_with (first | ((with_reducible refine gate_callee (f:=46) rfl ?_);refine gl_ 6 Tryz.func46 #[.string (⟨#[97]⟩ : ByteArray),.int .i64 0] ?_;(with_reducible refine (Lw17_req.calls (⟨#[97]⟩ : ByteArray) 0 t101 t102 t103 t104 t105 t106 _ A1.out).mono ?_);rintro e w35 ⟨rfl,hb⟩;refine ⟨_,rfl,?_⟩;replace HB:=Aside0.mk (below_step bh_ hb);(try clear hb)) | ((with_reducible refine gate_callee (f:=46) rfl ?_);refine gl_ 7 Tryz.func46 #[.string (⟨#[99]⟩ : ByteArray),.int .i64 1] ?_;(with_reducible refine (Lw17_req.calls (⟨#[99]⟩ : ByteArray) 1 t107 t108 t109 t110 t111 t112 _ A2.out).mono ?_);rintro e w36 ⟨rfl,hb⟩;refine ⟨_,rfl,?_⟩;replace HB:=Aside0.mk (below_step bh_ hb);(try clear hb)) | ((with_reducible refine gate_dst (N:=8) rfl ?_);(try (refine gate_guard q46_ ?_;dsimp only));refine Kd.R_lit k41 _ 41 ?hg (N:=8) ?hd (xs:=([(⟨t107,(⟨t108,t109,t110,t111,t112⟩ : S24)⟩ : S41)] : List (S41))) (inner:=[.string t107,.int .i64 t108,.int .i64 t109,.int .i64 t110,.string t111,.string t112]) (ok:=fun _ => True) (okp:=fun _ => True) ?hr ?hp (fun _ hk => hk) trivial (Below.refl _ _) (Nat.le_refl _) q44_ ?_;(case hd => rfl);(case hg => rfl);(case hr => first | (go_simp;done) | (go_simp;rfl));(case hp => exact (Reps.c6 (show Kd.M k41 _ _ _ (⟨t107,(⟨t108,t109,t110,t111,t112⟩ : S24)⟩ : S41) [.string t107,.int .i64 t108,.int .i64 t109,.int .i64 t110,.string t111,.string t112] from (k41_mkM _ _ _ (⟨t107,(⟨t108,t109,t110,t111,t112⟩ : S24)⟩ : S41) )) (Reps.none _ _)));intro v114 w37 ho38 hb hg_ hnew_;clear hg_ hnew_;(first | rw [← Ny113.out] at ho38 | (simp only [Int.reduceToNat] at ho38;rw [← Ny113.out] at ho38));have HO115:=Aside0.mk (Kd.R_lower ho38 (below_size bh_));replace HB:=Aside0.mk (below_step bh_ hb);clear hb ho38;obtain ⟨Ao39,co39,eo39⟩:=Kd.R_slice HO115.out;subst eo39) | ((with_reducible refine gate_callee (f:=46) rfl ?_);refine gl_ 10 Tryz.func46 #[.string (⟨#[98]⟩ : ByteArray),.int .i64 0] ?_;(with_reducible refine (Lw17_req.calls (⟨#[98]⟩ : ByteArray) 0 t116 t117 t118 t119 t120 t121 _ A3.out).mono ?_);rintro e w40 ⟨rfl,hb⟩;refine ⟨_,rfl,?_⟩;replace HO115:=Aside0.mk (Kd.R_below q22_ hb);replace HB:=Aside0.mk (below_step bh_ hb);(try clear hb)) | ((with_reducible refine gate_callee (f:=46) rfl ?_);refine gl_ 11 Tryz.func46 #[.string (⟨#[99]⟩ : ByteArray),.int .i64 2] ?_;(with_reducible refine (Lw17_req.calls (⟨#[99]⟩ : ByteArray) 2 t122 t123 t124 t125 t126 t127 _ A4.out).mono ?_);rintro e w41 ⟨rfl,hb⟩;refine ⟨_,rfl,?_⟩;replace HO115:=Aside0.mk (Kd.R_below q22_ hb);replace HB:=Aside0.mk (below_step bh_ hb);(try clear hb)) | ((with_reducible refine gate_dst (N:=12) rfl ?_);(try (refine gate_guard q46_ ?_;dsimp only));refine Kd.R_lit k41 _ 41 ?hg (N:=12) ?hd (xs:=([(⟨t122,(⟨t123,t124,t125,t126,t127⟩ : S24)⟩ : S41)] : List (S41))) (inner:=[.string t122,.int .i64 t123,.int .i64 t124,.int .i64 t125,.string t126,.string t127]) (ok:=fun _ => True) (okp:=fun _ => True) ?hr ?hp (fun _ hk => hk) trivial (Below.refl _ _) (Nat.le_refl _) q44_ ?_;(case hd => rfl);(case hg => rfl);(case hr => first | (go_simp;done) | (go_simp;rfl));(case hp => exact (Reps.c6 (show Kd.M k41 _ _ _ (⟨t122,(⟨t123,t124,t125,t126,t127⟩ : S24)⟩ : S41) [.string t122,.int .i64 t123,.int .i64 t124,.int .i64 t125,.string t126,.string t127] from (k41_mkM _ _ _ (⟨t122,(⟨t123,t124,t125,t126,t127⟩ : S24)⟩ : S41) )) (Reps.none _ _)));intro v129 w42 ho43 hb hg_ hnew_;clear hg_ hnew_;(first | rw [← Ny128.out] at ho43 | (simp only [Int.reduceToNat] at ho43;rw [← Ny128.out] at ho43));have HO130:=Aside0.mk (Kd.R_lower (Kd.R_new' ho43 (Kd.R_lt q22_)) (below_size bh_));replace HO115:=Aside0.mk (Kd.R_elder' q22_ (Kd.R_base ho43) hb);replace HB:=Aside0.mk (below_step bh_ hb);clear hb ho43;obtain ⟨Ao44,co44,eo44⟩:=Kd.R_slice HO130.out;subst eo44) | ((with_reducible refine gate_callee (f:=46) rfl ?_);refine gl_ 14 Tryz.func46 #[.string (⟨#[99]⟩ : ByteArray),.int .i64 2] ?_;(with_reducible refine (Lw17_req.calls (⟨#[99]⟩ : ByteArray) 2 t131 t132 t133 t134 t135 t136 _ A5.out).mono ?_);rintro e w45 ⟨rfl,hb⟩;refine ⟨_,rfl,?_⟩;replace HO115:=Aside0.mk (Kd.R_below q22_ hb);replace HO130:=Aside0.mk (Kd.R_below q34_ hb);replace HB:=Aside0.mk (below_step bh_ hb);(try clear hb)) | ((with_reducible refine gate_callee (f:=46) rfl ?_);refine gl_ 15 Tryz.func46 #[.string (⟨#[100]⟩ : ByteArray),.int .i64 0] ?_;(with_reducible refine (Lw17_req.calls (⟨#[100]⟩ : ByteArray) 0 t137 t138 t139 t140 t141 t142 _ A6.out).mono ?_);rintro e w46 ⟨rfl,hb⟩;refine ⟨_,rfl,?_⟩;replace HO115:=Aside0.mk (Kd.R_below q22_ hb);replace HO130:=Aside0.mk (Kd.R_below q34_ hb);replace HB:=Aside0.mk (below_step bh_ hb);(try clear hb)) | ((with_reducible refine gate_dst (N:=16) rfl ?_);(try (refine gate_guard q46_ ?_;dsimp only));refine Kd.R_lit k41 _ 41 ?hg (N:=16) ?hd (xs:=([(⟨t137,(⟨t138,t139,t140,t141,t142⟩ : S24)⟩ : S41)] : List (S41))) (inner:=[.string t137,.int .i64 t138,.int .i64 t139,.int .i64 t140,.string t141,.string t142]) (ok:=fun _ => True) (okp:=fun _ => True) ?hr ?hp (fun _ hk => hk) trivial (Below.refl _ _) (Nat.le_refl _) q44_ ?_;(case hd => rfl);(case hg => rfl);(case hr => first | (go_simp;done) | (go_simp;rfl));(case hp => exact (Reps.c6 (show Kd.M k41 _ _ _ (⟨t137,(⟨t138,t139,t140,t141,t142⟩ : S24)⟩ : S41) [.string t137,.int .i64 t138,.int .i64 t139,.int .i64 t140,.string t141,.string t142] from (k41_mkM _ _ _ (⟨t137,(⟨t138,t139,t140,t141,t142⟩ : S24)⟩ : S41) )) (Reps.none _ _)));intro v144 w47 ho48 hb hg_ hnew_;clear hg_ hnew_;(first | rw [← Ny143.out] at ho48 | (simp only [Int.reduceToNat] at ho48;rw [← Ny143.out] at ho48));have HO145:=Aside0.mk (Kd.R_lower (Kd.R_new' (Kd.R_new' ho48 (Kd.R_lt q22_)) (Kd.R_lt q34_)) (below_size bh_));replace HO115:=Aside0.mk (Kd.R_elder' q22_ (Kd.R_base ho48) hb);replace HO130:=Aside0.mk (Kd.R_elder' q34_ (Kd.R_base ho48) hb);replace HB:=Aside0.mk (below_step bh_ hb);clear hb ho48;obtain ⟨Ao49,co49,eo49⟩:=Kd.R_slice HO145.out;subst eo49) | ((with_reducible refine gate_callee (f:=46) rfl ?_);refine gl_ 18 Tryz.func46 #[.string (⟨#[98]⟩ : ByteArray),.int .i64 (-1)] ?_;(with_reducible refine (Lw17_req.calls (⟨#[98]⟩ : ByteArray) (-1) t146 t147 t148 t149 t150 t151 _ A7.out).mono ?_);rintro e w50 ⟨rfl,hb⟩;refine ⟨_,rfl,?_⟩;replace HO115:=Aside0.mk (Kd.R_below q22_ hb);replace HO130:=Aside0.mk (Kd.R_below q34_ hb);replace HO145:=Aside0.mk (Kd.R_below (by (with_reducible repeat (first | apply Kd.R_alloc | apply Kd.R_drewN | apply Kd.R_drew));exact HO145.out) hb);replace HB:=Aside0.mk (below_step bh_ hb);(try clear hb)) | ((with_reducible refine gate_dst (N:=20) rfl ?_);(try (refine gate_guard q46_ ?_;dsimp only));refine Kd.N_lit k70 _ 70 ?hg (N':=20) ?hd (xs:=([(⟨(⟨t101,(⟨t102,t103,t104,t105,t106⟩ : S24)⟩ : S41),y113⟩ : S70),(⟨(⟨t116,(⟨t117,t118,t119,t120,t121⟩ : S24)⟩ : S41),y128⟩ : S70),(⟨(⟨t131,(⟨t132,t133,t134,t135,t136⟩ : S24)⟩ : S41),y143⟩ : S70),(⟨(⟨t146,(⟨t147,t148,t149,t150,t151⟩ : S24)⟩ : S41),([] : List (S41))⟩ : S70)] : List (S70))) (inner:=[.string t101,.int .i64 t102,.int .i64 t103,.int .i64 t104,.string t105,.string t106,.slice Ao39 y113.length co39,.string t116,.int .i64 t117,.int .i64 t118,.int .i64 t119,.string t120,.string t121,.slice Ao44 y128.length co44,.string t131,.int .i64 t132,.int .i64 t133,.int .i64 t134,.string t135,.string t136,.slice Ao49 y143.length co49,.string t146,.int .i64 t147,.int .i64 t148,.int .i64 t149,.string t150,.string t151,.slice none 0 0]) (ok:=(fun _ => True)) (okp:=(fun _ => True)) ?hr ?hp (fun _ hk => hk) ((show ∀ k_,w50.heap.size ≤ k_ → (fun _ => True) k_ from fun k_ hk => trivial) _ (Nat.le_refl _)) (Below.refl _ _) (Nat.le_refl _) q44_ ?_;(case hd => rfl);(case hg => rfl);(case hr => first | (go_simp;done) | (go_simp;rfl));(case hp => exact (Reps.c7 (show Kd.FK k70 _ _ (⟨(⟨t101,(⟨t102,t103,t104,t105,t106⟩ : S24)⟩ : S41),y113⟩ : S70) [.string t101,.int .i64 t102,.int .i64 t103,.int .i64 t104,.string t105,.string t106,.slice Ao39 y113.length co39] from (k70_mkF _ _ (⟨(⟨t101,(⟨t102,t103,t104,t105,t106⟩ : S24)⟩ : S41),y113⟩ : S70) (Kd.R_reads' (Kd.R_mono (ok':=(fun _ => True)) (HO115.out) (fun k_ hk => trivial))).2.1 (Kd.R_F (Kd.R_mono (ok':=(fun _ => True)) (HO115.out) (fun k_ hk => trivial))))) (Reps.c7 (show Kd.FK k70 _ _ (⟨(⟨t116,(⟨t117,t118,t119,t120,t121⟩ : S24)⟩ : S41),y128⟩ : S70) [.string t116,.int .i64 t117,.int .i64 t118,.int .i64 t119,.string t120,.string t121,.slice Ao44 y128.length co44] from (k70_mkF _ _ (⟨(⟨t116,(⟨t117,t118,t119,t120,t121⟩ : S24)⟩ : S41),y128⟩ : S70) (Kd.R_reads' (Kd.R_mono (ok':=(fun _ => True)) (HO130.out) (fun k_ hk => trivial))).2.1 (Kd.R_F (Kd.R_mono (ok':=(fun _ => True)) (HO130.out) (fun k_ hk => trivial))))) (Reps.c7 (show Kd.FK k70 _ _ (⟨(⟨t131,(⟨t132,t133,t134,t135,t136⟩ : S24)⟩ : S41),y143⟩ : S70) [.string t131,.int .i64 t132,.int .i64 t133,.int .i64 t134,.string t135,.string t136,.slice Ao49 y143.length co49] from (k70_mkF _ _ (⟨(⟨t131,(⟨t132,t133,t134,t135,t136⟩ : S24)⟩ : S41),y143⟩ : S70) (Kd.R_reads' (Kd.R_mono (ok':=(fun _ => True)) (HO145.out) (fun k_ hk => trivial))).2.1 (Kd.R_F (Kd.R_mono (ok':=(fun _ => True)) (HO145.out) (fun k_ hk => trivial))))) (Reps.c7 (show Kd.FK k70 _ _ (⟨(⟨t146,(⟨t147,t148,t149,t150,t151⟩ : S24)⟩ : S41),([] : List (S41))⟩ : S70) [.string t146,.int .i64 t147,.int .i64 t148,.int .i64 t149,.string t150,.string t151,.slice none 0 0] from (k70_mkF _ _ (⟨(⟨t146,(⟨t147,t148,t149,t150,t151⟩ : S24)⟩ : S41),([] : List (S41))⟩ : S70) (Nat.le_refl _) (Kd.F_nil _ _ _))) (Reps.none _ _))))));intro v153 w51 ho52 hb hg_ hnew_;clear hg_ hnew_;(first | rw [← Ny152.out] at ho52 | (simp only [Int.reduceToNat] at ho52;rw [← Ny152.out] at ho52));have HO154:=Aside0.mk (Kd.N_lower ho52 (below_size bh_));replace HB:=Aside0.mk (below_step bh_ hb);clear HO115 HO130 HO145;clear hb ho52) | ((with_reducible refine gate_callee (f:=46) rfl ?_);refine gl_ 21 Tryz.func46 #[.string (⟨#[98]⟩ : ByteArray),.int .i64 0] ?_;(with_reducible refine (Lw17_req.calls (⟨#[98]⟩ : ByteArray) 0 t155 t156 t157 t158 t159 t160 _ A8.out).mono ?_);rintro e w53 ⟨rfl,hb⟩;refine ⟨_,rfl,?_⟩;replace HO154:=Aside0.mk (Kd.N_below q14_ hb);replace HB:=Aside0.mk (below_step bh_ hb);(try clear hb)) | ((with_reducible refine gate_callee (f:=46) rfl ?_);refine gl_ 22 Tryz.func46 #[.string (⟨#[97]⟩ : ByteArray),.int .i64 0] ?_;(with_reducible refine (Lw17_req.calls (⟨#[97]⟩ : ByteArray) 0 t161 t162 t163 t164 t165 t166 _ A9.out).mono ?_);rintro e w54 ⟨rfl,hb⟩;refine ⟨_,rfl,?_⟩;replace HO154:=Aside0.mk (Kd.N_below q14_ hb);replace HB:=Aside0.mk (below_step bh_ hb);(try clear hb)) | ((with_reducible refine gate_dst (N:=23) rfl ?_);(try (refine gate_guard q46_ ?_;dsimp only));refine Kd.R_lit k41 _ 41 ?hg (N:=23) ?hd (xs:=([(⟨t155,(⟨t156,t157,t158,t159,t160⟩ : S24)⟩ : S41),(⟨t161,(⟨t162,t163,t164,t165,t166⟩ : S24)⟩ : S41)] : List (S41))) (inner:=[.string t155,.int .i64 t156,.int .i64 t157,.int .i64 t158,.string t159,.string t160,.string t161,.int .i64 t162,.int .i64 t163,.int .i64 t164,.string t165,.string t166]) (ok:=fun _ => True) (okp:=fun _ => True) ?hr ?hp (fun _ hk => hk) trivial (Below.refl _ _) (Nat.le_refl _) q44_ ?_;(case hd => rfl);(case hg => rfl);(case hr => first | (go_simp;done) | (go_simp;rfl));(case hp => exact (Reps.c6 (show Kd.M k41 _ _ _ (⟨t155,(⟨t156,t157,t158,t159,t160⟩ : S24)⟩ : S41) [.string t155,.int .i64 t156,.int .i64 t157,.int .i64 t158,.string t159,.string t160] from (k41_mkM _ _ _ (⟨t155,(⟨t156,t157,t158,t159,t160⟩ : S24)⟩ : S41) )) (Reps.c6 (show Kd.M k41 _ _ _ (⟨t161,(⟨t162,t163,t164,t165,t166⟩ : S24)⟩ : S41) [.string t161,.int .i64 t162,.int .i64 t163,.int .i64 t164,.string t165,.string t166] from (k41_mkM _ _ _ (⟨t161,(⟨t162,t163,t164,t165,t166⟩ : S24)⟩ : S41) )) (Reps.none _ _))));intro v168 w55 ho56 hb hg_ hnew_;clear hg_ hnew_;(first | rw [← Ny167.out] at ho56 | (simp only [Int.reduceToNat] at ho56;rw [← Ny167.out] at ho56));replace HO154:=Aside0.mk (Kd.N_elder' q14_ (Kd.R_base ho56) hb);have HO169:=Aside0.mk (Kd.R_lower ho56 (below_size bh_));replace HB:=Aside0.mk (below_step bh_ hb);clear hb ho56;obtain ⟨Ao57,co57,eo57⟩:=Kd.R_slice HO169.out;subst eo57;obtain ⟨Ao58,co58,eo58⟩:=Kd.N_slice HO154.out;subst eo58) | ((with_reducible refine gate_callee (f:=27) rfl ?_);refine gl_ 26 Tryz.func27 #[.slice Ao57 y167.length co57,.slice Ao58 y152.length co58] ?_;(with_reducible refine (mvs_List.calls _ _ y167 _ _ y152 t170 _ ?side1 ?side2 ?side3 ?side4 A10.out ?sideG).mono ?_);(case sideG => first | exact HG.out | exact Env.below HG.out bh_);(case side1 => repeat (first | exact (Kd.R_reads' HO169.out).2.2 | (with_reducible refine Kd.C_alloc ?_ _) | (with_reducible refine Kd.C_drewN ?_ _) | (with_reducible refine Kd.C_drew ?_)));(case side2 => exact (Kd.R_reads' HO169.out).2.1);(case side3 => repeat (first | exact (Kd.N_reads' HO154.out).2.2 | (with_reducible refine Kd.C_alloc ?_ _) | (with_reducible refine Kd.C_drewN ?_ _) | (with_reducible refine Kd.C_drew ?_)));(case side4 => exact (Kd.N_reads' HO154.out).2.1);rintro e w59 ⟨v171,rfl,ho0,hb⟩;refine ⟨_,rfl,?_⟩;replace HO154:=Aside0.mk (Kd.N_elder' q14_ (Kd.R_base ho0) hb);have HO172:=Aside0.mk (Kd.R_lower (Kd.R_new' ho0 (Kd.R_lt q9_)) (below_size bh_));replace HO169:=Aside0.mk (Kd.R_elder' q9_ (Kd.R_base ho0) hb);replace HB:=Aside0.mk (below_step bh_ hb);(try clear hb);(try clear ho0)) | ((with_reducible refine gate_callee (f:=46) rfl ?_);refine gl_ 28 Tryz.func46 #[.string (⟨#[97]⟩ : ByteArray),.int .i64 3] ?_;(with_reducible refine (Lw17_req.calls (⟨#[97]⟩ : ByteArray) 3 t173 t174 t175 t176 t177 t178 _ A11.out).mono ?_);rintro e w60 ⟨rfl,hb⟩;refine ⟨_,rfl,?_⟩;replace HO154:=Aside0.mk (Kd.N_below q14_ hb);replace HO169:=Aside0.mk (Kd.R_below q9_ hb);replace HO172:=Aside0.mk (Kd.R_below q12_ hb);replace HB:=Aside0.mk (below_step bh_ hb);(try clear hb)) | ((with_reducible refine gate_callee (f:=29) rfl ?_);refine gl_ 29 Tryz.func29 #[.slice Ao57 y167.length co57,.agg #[.string t173,.int .i64 t174,.int .i64 t175,.int .i64 t176,.string t177,.string t178]] ?_;(with_reducible refine (mvs_Upgrade.calls _ _ y167 t173 t174 t175 t176 t177 t178 t179 _ ?side1 ?side2 A12.out ?sideG).mono ?_);(case sideG => first | exact HG.out | exact Env.below HG.out bh_);(case side1 => repeat (first | exact (Kd.R_reads' HO169.out).2.2 | (with_reducible refine Kd.C_alloc ?_ _) | (with_reducible refine Kd.C_drewN ?_ _) | (with_reducible refine Kd.C_drew ?_)));(case side2 => exact (Kd.R_reads' HO169.out).2.1);rintro e w61 ⟨v180,rfl,ho0,hb⟩;refine ⟨_,rfl,?_⟩;replace HO154:=Aside0.mk (Kd.N_elder' q14_ (Kd.R_base ho0) hb);have HO181:=Aside0.mk (Kd.R_lower (Kd.R_new' (Kd.R_new' ho0 (Kd.R_lt q9_)) (Kd.R_lt q12_)) (below_size bh_));replace HO169:=Aside0.mk (Kd.R_elder' q9_ (Kd.R_base ho0) hb);replace HO172:=Aside0.mk (Kd.R_elder' q12_ (Kd.R_base ho0) hb);replace HB:=Aside0.mk (below_step bh_ hb);(try clear hb);(try clear ho0)) | ((with_reducible refine gate_callee (f:=46) rfl ?_);refine gl_ 32 Tryz.func46 #[.string (⟨#[99]⟩ : ByteArray),.int .i64 1] ?_;(with_reducible refine (Lw17_req.calls (⟨#[99]⟩ : ByteArray) 1 t182 t183 t184 t185 t186 t187 _ A13.out).mono ?_);rintro e w62 ⟨rfl,hb⟩;refine ⟨_,rfl,?_⟩;replace HO154:=Aside0.mk (Kd.N_below q14_ hb);replace HO169:=Aside0.mk (Kd.R_below q9_ hb);replace HO172:=Aside0.mk (Kd.R_below q12_ hb);replace HO181:=Aside0.mk (Kd.R_below q13_ hb);replace HB:=Aside0.mk (below_step bh_ hb);(try clear hb)) | ((with_reducible refine gate_callee (f:=31) rfl ?_);refine gl_ 33 Tryz.func31 #[.slice Ao57 y167.length co57,.slice Ao58 y152.length co58,.agg #[.string t182,.int .i64 t183,.int .i64 t184,.int .i64 t185,.string t186,.string t187]] ?_;(with_reducible refine (mvs_Downgrade.calls k _ _ y167 _ _ y152 t182 t183 t184 t185 t186 t187 t188 _ ?side1 ?side2 ?side3 ?side4 A14.out ?sideG).mono ?_);(case sideG => first | exact HG.out | exact Env.below HG.out bh_);(case side1 => repeat (first | exact (Kd.R_reads' HO169.out).2.2 | (with_reducible refine Kd.C_alloc ?_ _) | (with_reducible refine Kd.C_drewN ?_ _) | (with_reducible refine Kd.C_drew ?_)));(case side2 => exact (Kd.R_reads' HO169.out).2.1);(case side3 => repeat (first | exact (Kd.N_reads' HO154.out).2.2 | (with_reducible refine Kd.C_alloc ?_ _) | (with_reducible refine Kd.C_drewN ?_ _) | (with_reducible refine Kd.C_drew ?_)));(case side4 => exact (Kd.N_reads' HO154.out).2.1);rintro e w63 ⟨v189,rfl,ho0,hb⟩;refine ⟨_,rfl,?_⟩;replace HO154:=Aside0.mk (Kd.N_elder' q14_ (Kd.R_base ho0) hb);have HO190:=Aside0.mk (Kd.R_lower (Kd.R_new' (Kd.R_new' (Kd.R_new' ho0 (Kd.R_lt q9_)) (Kd.R_lt q12_)) (Kd.R_lt q13_)) (below_size bh_));replace HO169:=Aside0.mk (Kd.R_elder' q9_ (Kd.R_base ho0) hb);replace HO172:=Aside0.mk (Kd.R_elder' q12_ (Kd.R_base ho0) hb);replace HO181:=Aside0.mk (Kd.R_elder' q13_ (Kd.R_base ho0) hb);replace HB:=Aside0.mk (below_step bh_ hb);(try clear hb);(try clear ho0)) | ((with_reducible refine gate_callee (f:=46) rfl ?_);refine gl_ 35 Tryz.func46 #[.string (⟨#[97]⟩ : ByteArray),.int .i64 0] ?_;(with_reducible refine (Lw17_req.calls (⟨#[97]⟩ : ByteArray) 0 t191 t192 t193 t194 t195 t196 _ A15.out).mono ?_);rintro e w64 ⟨rfl,hb⟩;refine ⟨_,rfl,?_⟩;replace HO154:=Aside0.mk (Kd.N_below q14_ hb);replace HO169:=Aside0.mk (Kd.R_below q9_ hb);replace HO172:=Aside0.mk (Kd.R_below q12_ hb);replace HO181:=Aside0.mk (Kd.R_below q13_ hb);replace HO190:=Aside0.mk (Kd.R_below q15_ hb);replace HB:=Aside0.mk (below_step bh_ hb);(try clear hb)) | ((with_reducible refine gate_callee (f:=46) rfl ?_);refine gl_ 36 Tryz.func46 #[.string (⟨#[98]⟩ : ByteArray),.int .i64 0] ?_;(with_reducible refine (Lw17_req.calls (⟨#[98]⟩ : ByteArray) 0 t197 t198 t199 t200 t201 t202 _ A16.out).mono ?_);rintro e w65 ⟨rfl,hb⟩;refine ⟨_,rfl,?_⟩;replace HO154:=Aside0.mk (Kd.N_below q14_ hb);replace HO169:=Aside0.mk (Kd.R_below q9_ hb);replace HO172:=Aside0.mk (Kd.R_below q12_ hb);replace HO181:=Aside0.mk (Kd.R_below q13_ hb);replace HO190:=Aside0.mk (Kd.R_below q15_ hb);replace HB:=Aside0.mk (below_step bh_ hb);(try clear hb)) | ((with_reducible refine gate_callee (f:=46) rfl ?_);refine gl_ 37 Tryz.func46 #[.string (⟨#[99]⟩ : ByteArray),.int .i64 2] ?_;(with_reducible refine (Lw17_req.calls (⟨#[99]⟩ : ByteArray) 2 t203 t204 t205 t206 t207 t208 _ A17.out).mono ?_);rintro e w66 ⟨rfl,hb⟩;refine ⟨_,rfl,?_⟩;replace HO154:=Aside0.mk (Kd.N_below q14_ hb);replace HO169:=Aside0.mk (Kd.R_below q9_ hb);replace HO172:=Aside0.mk (Kd.R_below q12_ hb);replace HO181:=Aside0.mk (Kd.R_below q13_ hb);replace HO190:=Aside0.mk (Kd.R_below q15_ hb);replace HB:=Aside0.mk (below_step bh_ hb);(try clear hb)) | ((with_reducible refine gate_callee (f:=46) rfl ?_);refine gl_ 38 Tryz.func46 #[.string (⟨#[100]⟩ : ByteArray),.int .i64 0] ?_;(with_reducible refine (Lw17_req.calls (⟨#[100]⟩ : ByteArray) 0 t209 t210 t211 t212 t213 t214 _ A18.out).mono ?_);rintro e w67 ⟨rfl,hb⟩;refine ⟨_,rfl,?_⟩;replace HO154:=Aside0.mk (Kd.N_below q14_ hb);replace HO169:=Aside0.mk (Kd.R_below q9_ hb);replace HO172:=Aside0.mk (Kd.R_below q12_ hb);replace HO181:=Aside0.mk (Kd.R_below q13_ hb);replace HO190:=Aside0.mk (Kd.R_below q15_ hb);replace HB:=Aside0.mk (below_step bh_ hb);(try clear hb)) | ((with_reducible refine gate_dst (N:=39) rfl ?_);(try (refine gate_guard q46_ ?_;dsimp only));refine Kd.R_lit k41 _ 41 ?hg (N:=39) ?hd (xs:=([(⟨t191,(⟨t192,t193,t194,t195,t196⟩ : S24)⟩ : S41),(⟨t197,(⟨t198,t199,t200,t201,t202⟩ : S24)⟩ : S41),(⟨t203,(⟨t204,t205,t206,t207,t208⟩ : S24)⟩ : S41),(⟨t209,(⟨t210,t211,t212,t213,t214⟩ : S24)⟩ : S41)] : List (S41))) (inner:=[.string t191,.int .i64 t192,.int .i64 t193,.int .i64 t194,.string t195,.string t196,.string t197,.int .i64 t198,.int .i64 t199,.int .i64 t200,.string t201,.string t202,.string t203,.int .i64 t204,.int .i64 t205,.int .i64 t206,.string t207,.string t208,.string t209,.int .i64 t210,.int .i64 t211,.int .i64 t212,.string t213,.string t214]) (ok:=fun _ => True) (okp:=fun _ => True) ?hr ?hp (fun _ hk => hk) trivial (Below.refl _ _) (Nat.le_refl _) q44_ ?_;(case hd => rfl);(case hg => rfl);(case hr => first | (go_simp;done) | (go_simp;rfl));(case hp => exact (Reps.c6 (show Kd.M k41 _ _ _ (⟨t191,(⟨t192,t193,t194,t195,t196⟩ : S24)⟩ : S41) [.string t191,.int .i64 t192,.int .i64 t193,.int .i64 t194,.string t195,.string t196] from (k41_mkM _ _ _ (⟨t191,(⟨t192,t193,t194,t195,t196⟩ : S24)⟩ : S41) )) (Reps.c6 (show Kd.M k41 _ _ _ (⟨t197,(⟨t198,t199,t200,t201,t202⟩ : S24)⟩ : S41) [.string t197,.int .i64 t198,.int .i64 t199,.int .i64 t200,.string t201,.string t202] from (k41_mkM _ _ _ (⟨t197,(⟨t198,t199,t200,t201,t202⟩ : S24)⟩ : S41) )) (Reps.c6 (show Kd.M k41 _ _ _ (⟨t203,(⟨t204,t205,t206,t207,t208⟩ : S24)⟩ : S41) [.string t203,.int .i64 t204,.int .i64 t205,.int .i64 t206,.string t207,.string t208] from (k41_mkM _ _ _ (⟨t203,(⟨t204,t205,t206,t207,t208⟩ : S24)⟩ : S41) )) (Reps.c6 (show Kd.M k41 _ _ _ (⟨t209,(⟨t210,t211,t212,t213,t214⟩ : S24)⟩ : S41) [.string t209,.int .i64 t210,.int .i64 t211,.int .i64 t212,.string t213,.string t214] from (k41_mkM _ _ _ (⟨t209,(⟨t210,t211,t212,t213,t214⟩ : S24)⟩ : S41) )) (Reps.none _ _))))));intro v216 w68 ho69 hb hg_ hnew_;clear hg_ hnew_;(first | rw [← Ny215.out] at ho69 | (simp only [Int.reduceToNat] at ho69;rw [← Ny215.out] at ho69));replace HO154:=Aside0.mk (Kd.N_elder' q14_ (Kd.R_base ho69) hb);have HO217:=Aside0.mk (Kd.R_lower (Kd.R_new' (Kd.R_new' (Kd.R_new' (Kd.R_new' ho69 (Kd.R_lt q9_)) (Kd.R_lt q12_)) (Kd.R_lt q13_)) (Kd.R_lt q15_)) (below_size bh_));replace HO169:=Aside0.mk (Kd.R_elder' q9_ (Kd.R_base ho69) hb);replace HO172:=Aside0.mk (Kd.R_elder' q12_ (Kd.R_base ho69) hb);replace HO181:=Aside0.mk (Kd.R_elder' q13_ (Kd.R_base ho69) hb);replace HO190:=Aside0.mk (Kd.R_elder' q15_ (Kd.R_base ho69) hb);replace HB:=Aside0.mk (below_step bh_ hb);clear hb ho69;obtain ⟨Ao70,co70,eo70⟩:=Kd.R_slice HO172.out;subst eo70;obtain ⟨Ao71,co71,eo71⟩:=Kd.R_slice HO217.out;subst eo71) | ((with_reducible refine gate_callee (f:=24) rfl ?_);refine gl_ 40 Tryz.func24 #[.slice Ao70 t170.length co70,.slice Ao71 y215.length co71] ?_;(with_reducible refine (Rf17_Same.calls k _ _ t170 _ _ y215 true _ ?side1 ?side2 ?side3 ?side4 A19.out).mono ?_);(case side1 => repeat (first | exact (Kd.R_reads' HO172.out).2.2 | (with_reducible refine Kd.C_alloc ?_ _) | (with_reducible refine Kd.C_drewN ?_ _) | (with_reducible refine Kd.C_drew ?_)));(case side2 => exact (Kd.R_reads' HO172.out).2.1);(case side3 => repeat (first | exact (Kd.R_reads' HO217.out).2.2 | (with_reducible refine Kd.C_alloc ?_ _) | (with_reducible refine Kd.C_drewN ?_ _) | (with_reducible refine Kd.C_drew ?_)));(case side4 => exact (Kd.R_reads' HO217.out).2.1);rintro e w' ⟨rfl,⟨nd,rfl⟩⟩;refine ⟨_,rfl,?_⟩) | (go_at_call 25;(with_reducible refine (mvs_Reached.calls _ _ y167 _ _ y152 t219 _ ?side1 ?side2 ?side3 ?side4 A21.out ?sideG).mono ?_);(case sideG => first | exact HG.out | exact Env.below HG.out bh_);(case side1 => repeat (first | exact (Kd.R_reads' HO169.out).2.2 | (with_reducible refine Kd.C_alloc ?_ _) | (with_reducible refine Kd.C_drewN ?_ _) | (with_reducible refine Kd.C_drew ?_)));(case side2 => exact (Kd.R_reads' HO169.out).2.1);(case side3 => repeat (first | exact (Kd.N_reads' HO154.out).2.2 | (with_reducible refine Kd.C_alloc ?_ _) | (with_reducible refine Kd.C_drewN ?_ _) | (with_reducible refine Kd.C_drew ?_)));(case side4 => exact (Kd.N_reads' HO154.out).2.1);rintro e w72 ⟨v220,rfl,ho0,hb⟩;replace HO154:=Aside0.mk (Kd.N_elder' q14_ (Kd.R_base ho0) hb);have HO221:=Aside0.mk (Kd.R_lower (Kd.R_new' (Kd.R_new' (Kd.R_new' (Kd.R_new' (Kd.R_new' ho0 (Kd.R_lt q9_)) (Kd.R_lt q12_)) (Kd.R_lt q13_)) (Kd.R_lt q15_)) (Kd.R_lt q18_)) (below_size bh_));replace HO169:=Aside0.mk (Kd.R_elder' q9_ (Kd.R_base ho0) hb);replace HO172:=Aside0.mk (Kd.R_elder' q12_ (Kd.R_base ho0) hb);replace HO181:=Aside0.mk (Kd.R_elder' q13_ (Kd.R_base ho0) hb);replace HO190:=Aside0.mk (Kd.R_elder' q15_ (Kd.R_base ho0) hb);replace HO217:=Aside0.mk (Kd.R_elder' q18_ (Kd.R_base ho0) hb);replace HB:=Aside0.mk (below_step bh_ hb);(try clear hb);(try clear ho0);obtain ⟨Ao73,co73,eo73⟩:=Kd.R_slice HO221.out;subst eo73) | (go_at_call 46;(with_reducible refine (Lw17_req.calls (⟨#[98]⟩ : ByteArray) 0 t222 t223 t224 t225 t226 t227 _ A23.out).mono ?_);rintro e w74 ⟨rfl,hb⟩;replace HO154:=Aside0.mk (Kd.N_below q14_ hb);replace HO169:=Aside0.mk (Kd.R_below q9_ hb);replace HO172:=Aside0.mk (Kd.R_below q12_ hb);replace HO181:=Aside0.mk (Kd.R_below q13_ hb);replace HO190:=Aside0.mk (Kd.R_below q15_ hb);replace HO217:=Aside0.mk (Kd.R_below q18_ hb);replace HO221:=Aside0.mk (Kd.R_below q19_ hb);replace HB:=Aside0.mk (below_step bh_ hb);(try clear hb)) | (go_at_call 46;(with_reducible refine (Lw17_req.calls (⟨#[97]⟩ : ByteArray) 3 t228 t229 t230 t231 t232 t233 _ A24.out).mono ?_);rintro e w75 ⟨rfl,hb⟩;replace HO154:=Aside0.mk (Kd.N_below q14_ hb);replace HO169:=Aside0.mk (Kd.R_below q9_ hb);replace HO172:=Aside0.mk (Kd.R_below q12_ hb);replace HO181:=Aside0.mk (Kd.R_below q13_ hb);replace HO190:=Aside0.mk (Kd.R_below q15_ hb);replace HO217:=Aside0.mk (Kd.R_below q18_ hb);replace HO221:=Aside0.mk (Kd.R_below q19_ hb);replace HB:=Aside0.mk (below_step bh_ hb);(try clear hb)) | ((with_reducible refine gate_dst (N:=52) rfl ?_);(try (refine gate_guard q46_ ?_;dsimp only));refine Kd.R_lit k41 _ 41 ?hg (N:=52) ?hd (xs:=([(⟨t222,(⟨t223,t224,t225,t226,t227⟩ : S24)⟩ : S41),(⟨t228,(⟨t229,t230,t231,t232,t233⟩ : S24)⟩ : S41)] : List (S41))) (inner:=[.string t222,.int .i64 t223,.int .i64 t224,.int .i64 t225,.string t226,.string t227,.string t228,.int .i64 t229,.int .i64 t230,.int .i64 t231,.string t232,.string t233]) (ok:=fun _ => True) (okp:=fun _ => True) ?hr ?hp (fun _ hk => hk) trivial (Below.refl _ _) (Nat.le_refl _) q44_ ?_;(case hd => rfl);(case hg => rfl);(case hr => first | (go_simp;done) | (go_simp;rfl));(case hp => exact (Reps.c6 (show Kd.M k41 _ _ _ (⟨t222,(⟨t223,t224,t225,t226,t227⟩ : S24)⟩ : S41) [.string t222,.int .i64 t223,.int .i64 t224,.int .i64 t225,.string t226,.string t227] from (k41_mkM _ _ _ (⟨t222,(⟨t223,t224,t225,t226,t227⟩ : S24)⟩ : S41) )) (Reps.c6 (show Kd.M k41 _ _ _ (⟨t228,(⟨t229,t230,t231,t232,t233⟩ : S24)⟩ : S41) [.string t228,.int .i64 t229,.int .i64 t230,.int .i64 t231,.string t232,.string t233] from (k41_mkM _ _ _ (⟨t228,(⟨t229,t230,t231,t232,t233⟩ : S24)⟩ : S41) )) (Reps.none _ _))));intro v235 w76 ho77 hb hg_ hnew_;clear hg_ hnew_;(first | rw [← Ny234.out] at ho77 | (simp only [Int.reduceToNat] at ho77;rw [← Ny234.out] at ho77));replace HO154:=Aside0.mk (Kd.N_elder' q14_ (Kd.R_base ho77) hb);have HO236:=Aside0.mk (Kd.R_lower (Kd.R_new' (Kd.R_new' (Kd.R_new' (Kd.R_new' (Kd.R_new' (Kd.R_new' ho77 (Kd.R_lt q9_)) (Kd.R_lt q12_)) (Kd.R_lt q13_)) (Kd.R_lt q15_)) (Kd.R_lt q18_)) (Kd.R_lt q19_)) (below_size bh_));replace HO169:=Aside0.mk (Kd.R_elder' q9_ (Kd.R_base ho77) hb);replace HO172:=Aside0.mk (Kd.R_elder' q12_ (Kd.R_base ho77) hb);replace HO181:=Aside0.mk (Kd.R_elder' q13_ (Kd.R_base ho77) hb);replace HO190:=Aside0.mk (Kd.R_elder' q15_ (Kd.R_base ho77) hb);replace HO217:=Aside0.mk (Kd.R_elder' q18_ (Kd.R_base ho77) hb);replace HO221:=Aside0.mk (Kd.R_elder' q19_ (Kd.R_base ho77) hb);replace HB:=Aside0.mk (below_step bh_ hb);clear hb ho77;obtain ⟨Ao78,co78,eo78⟩:=Kd.R_slice HO181.out;subst eo78;obtain ⟨Ao79,co79,eo79⟩:=Kd.R_slice HO236.out;subst eo79) | (go_at_call 24;(with_reducible refine (Rf17_Same.calls k _ _ t179 _ _ y234 true _ ?side1 ?side2 ?side3 ?side4 A25.out).mono ?_);(case side1 => repeat (first | exact (Kd.R_reads' HO181.out).2.2 | (with_reducible refine Kd.C_alloc ?_ _) | (with_reducible refine Kd.C_drewN ?_ _) | (with_reducible refine Kd.C_drew ?_)));(case side2 => exact (Kd.R_reads' HO181.out).2.1);(case side3 => repeat (first | exact (Kd.R_reads' HO236.out).2.2 | (with_reducible refine Kd.C_alloc ?_ _) | (with_reducible refine Kd.C_drewN ?_ _) | (with_reducible refine Kd.C_drew ?_)));(case side4 => exact (Kd.R_reads' HO236.out).2.1);rintro e w' ⟨rfl,⟨nd,rfl⟩⟩) | (go_at_call 46;(with_reducible refine (Lw17_req.calls (⟨#[97]⟩ : ByteArray) 0 t238 t239 t240 t241 t242 t243 _ A27.out).mono ?_);rintro e w80 ⟨rfl,hb⟩;replace HO154:=Aside0.mk (Kd.N_below q14_ hb);replace HO169:=Aside0.mk (Kd.R_below q9_ hb);replace HO172:=Aside0.mk (Kd.R_below q12_ hb);replace HO181:=Aside0.mk (Kd.R_below q13_ hb);replace HO190:=Aside0.mk (Kd.R_below q15_ hb);replace HO217:=Aside0.mk (Kd.R_below q18_ hb);replace HO221:=Aside0.mk (Kd.R_below q19_ hb);replace HO236:=Aside0.mk (Kd.R_below q21_ hb);replace HB:=Aside0.mk (below_step bh_ hb);(try clear hb)) | ((with_reducible refine gate_dst (N:=58) rfl ?_);(try (refine gate_guard q46_ ?_;dsimp only));refine Kd.R_lit k41 _ 41 ?hg (N:=58) ?hd (xs:=([(⟨t238,(⟨t239,t240,t241,t242,t243⟩ : S24)⟩ : S41)] : List (S41))) (inner:=[.string t238,.int .i64 t239,.int .i64 t240,.int .i64 t241,.string t242,.string t243]) (ok:=fun _ => True) (okp:=fun _ => True) ?hr ?hp (fun _ hk => hk) trivial (Below.refl _ _) (Nat.le_refl _) q44_ ?_;(case hd => rfl);(case hg => rfl);(case hr => first | (go_simp;done) | (go_simp;rfl));(case hp => exact (Reps.c6 (show Kd.M k41 _ _ _ (⟨t238,(⟨t239,t240,t241,t242,t243⟩ : S24)⟩ : S41) [.string t238,.int .i64 t239,.int .i64 t240,.int .i64 t241,.string t242,.string t243] from (k41_mkM _ _ _ (⟨t238,(⟨t239,t240,t241,t242,t243⟩ : S24)⟩ : S41) )) (Reps.none _ _)));intro v245 w81 ho82 hb hg_ hnew_;clear hg_ hnew_;(first | rw [← Ny244.out] at ho82 | (simp only [Int.reduceToNat] at ho82;rw [← Ny244.out] at ho82));replace HO154:=Aside0.mk (Kd.N_elder' q14_ (Kd.R_base ho82) hb);have HO246:=Aside0.mk (Kd.R_lower (Kd.R_new' (Kd.R_new' (Kd.R_new' (Kd.R_new' (Kd.R_new' (Kd.R_new' (Kd.R_new' ho82 (Kd.R_lt q9_)) (Kd.R_lt q12_)) (Kd.R_lt q13_)) (Kd.R_lt q15_)) (Kd.R_lt q18_)) (Kd.R_lt q19_)) (Kd.R_lt q21_)) (below_size bh_));replace HO169:=Aside0.mk (Kd.R_elder' q9_ (Kd.R_base ho82) hb);replace HO172:=Aside0.mk (Kd.R_elder' q12_ (Kd.R_base ho82) hb);replace HO181:=Aside0.mk (Kd.R_elder' q13_ (Kd.R_base ho82) hb);replace HO190:=Aside0.mk (Kd.R_elder' q15_ (Kd.R_base ho82) hb);replace HO217:=Aside0.mk (Kd.R_elder' q18_ (Kd.R_base ho82) hb);replace HO221:=Aside0.mk (Kd.R_elder' q19_ (Kd.R_base ho82) hb);replace HO236:=Aside0.mk (Kd.R_elder' q21_ (Kd.R_base ho82) hb);replace HB:=Aside0.mk (below_step bh_ hb);clear hb ho82;obtain ⟨Ao83,co83,eo83⟩:=Kd.R_slice HO190.out;subst eo83;obtain ⟨Ao84,co84,eo84⟩:=Kd.R_slice HO246.out;subst eo84) | (go_at_call 24;(with_reducible refine (Rf17_Same.calls k _ _ t188 _ _ y244 true _ ?side1 ?side2 ?side3 ?side4 A28.out).mono ?_);(case side1 => repeat (first | exact (Kd.R_reads' HO190.out).2.2 | (with_reducible refine Kd.C_alloc ?_ _) | (with_reducible refine Kd.C_drewN ?_ _) | (with_reducible refine Kd.C_drew ?_)));(case side2 => exact (Kd.R_reads' HO190.out).2.1);(case side3 => repeat (first | exact (Kd.R_reads' HO246.out).2.2 | (with_reducible refine Kd.C_alloc ?_ _) | (with_reducible refine Kd.C_drewN ?_ _) | (with_reducible refine Kd.C_drew ?_)));(case side4 => exact (Kd.R_reads' HO246.out).2.1);rintro e w' ⟨rfl,⟨nd,rfl⟩⟩) | (go_at_call 46;(with_reducible refine (Lw17_req.calls (⟨#[122]⟩ : ByteArray) 0 t248 t249 t250 t251 t252 t253 _ A30.out).mono ?_);rintro e w85 ⟨rfl,hb⟩;replace HO154:=Aside0.mk (Kd.N_below q14_ hb);replace HO169:=Aside0.mk (Kd.R_below q9_ hb);replace HO172:=Aside0.mk (Kd.R_below q12_ hb);replace HO181:=Aside0.mk (Kd.R_below q13_ hb);replace HO190:=Aside0.mk (Kd.R_below q15_ hb);replace HO217:=Aside0.mk (Kd.R_below q18_ hb);replace HO221:=Aside0.mk (Kd.R_below q19_ hb);replace HO236:=Aside0.mk (Kd.R_below q21_ hb);replace HO246:=Aside0.mk (Kd.R_below q29_ hb);replace HB:=Aside0.mk (below_step bh_ hb);(try clear hb)) | (go_at_call 29;(with_reducible refine (mvs_Upgrade.calls _ _ y167 t248 t249 t250 t251 t252 t253 t254 _ ?side1 ?side2 A31.out ?sideG).mono ?_);(case sideG => first | exact HG.out | exact Env.below HG.out bh_);(case side1 => repeat (first | exact (Kd.R_reads' HO169.out).2.2 | (with_reducible refine Kd.C_alloc ?_ _) | (with_reducible refine Kd.C_drewN ?_ _) | (with_reducible refine Kd.C_drew ?_)));(case side2 => exact (Kd.R_reads' HO169.out).2.1);rintro e w86 ⟨v255,rfl,ho0,hb⟩;replace HO154:=Aside0.mk (Kd.N_elder' q14_ (Kd.R_base ho0) hb);have HO256:=Aside0.mk (Kd.R_lower (Kd.R_new' (Kd.R_new' (Kd.R_new' (Kd.R_new' (Kd.R_new' (Kd.R_new' (Kd.R_new' (Kd.R_new' ho0 (Kd.R_lt q9_)) (Kd.R_lt q12_)) (Kd.R_lt q13_)) (Kd.R_lt q15_)) (Kd.R_lt q18_)) (Kd.R_lt q19_)) (Kd.R_lt q21_)) (Kd.R_lt q29_)) (below_size bh_));replace HO169:=Aside0.mk (Kd.R_elder' q9_ (Kd.R_base ho0) hb);replace HO172:=Aside0.mk (Kd.R_elder' q12_ (Kd.R_base ho0) hb);replace HO181:=Aside0.mk (Kd.R_elder' q13_ (Kd.R_base ho0) hb);replace HO190:=Aside0.mk (Kd.R_elder' q15_ (Kd.R_base ho0) hb);replace HO217:=Aside0.mk (Kd.R_elder' q18_ (Kd.R_base ho0) hb);replace HO221:=Aside0.mk (Kd.R_elder' q19_ (Kd.R_base ho0) hb);replace HO236:=Aside0.mk (Kd.R_elder' q21_ (Kd.R_base ho0) hb);replace HO246:=Aside0.mk (Kd.R_elder' q29_ (Kd.R_base ho0) hb);replace HB:=Aside0.mk (below_step bh_ hb);(try clear hb);(try clear hb2);(try clear hk);(try clear hi);(try clear ho0);obtain ⟨Ao87,co87,eo87⟩:=Kd.R_slice HO256.out;subst eo87) | (go_at_call 46;(with_reducible refine (Lw17_req.calls (⟨#[122]⟩ : ByteArray) (-1) t257 t258 t259 t260 t261 t262 _ A33.out).mono ?_);rintro e w88 ⟨rfl,hb⟩;replace HO154:=Aside0.mk (Kd.N_below q14_ hb);replace HO169:=Aside0.mk (Kd.R_below q9_ hb);replace HO172:=Aside0.mk (Kd.R_below q12_ hb);replace HO181:=Aside0.mk (Kd.R_below q13_ hb);replace HO190:=Aside0.mk (Kd.R_below q15_ hb);replace HO217:=Aside0.mk (Kd.R_below q18_ hb);replace HO221:=Aside0.mk (Kd.R_below q19_ hb);replace HO236:=Aside0.mk (Kd.R_below q21_ hb);replace HO246:=Aside0.mk (Kd.R_below q29_ hb);replace HO256:=Aside0.mk (Kd.R_below q49_ hb);replace HB:=Aside0.mk (below_step bh_ hb);(try clear hb)) | (go_at_call 29;(with_reducible refine (mvs_Upgrade.calls _ _ y167 t257 t258 t259 t260 t261 t262 t263 _ ?side1 ?side2 A34.out ?sideG).mono ?_);(case sideG => first | exact HG.out | exact Env.below HG.out bh_);(case side1 => repeat (first | exact (Kd.R_reads' HO169.out).2.2 | (with_reducible refine Kd.C_alloc ?_ _) | (with_reducible refine Kd.C_drewN ?_ _) | (with_reducible refine Kd.C_drew ?_)));(case side2 => exact (Kd.R_reads' HO169.out).2.1);rintro e w89 ⟨v264,rfl,ho0,hb⟩;replace HO154:=Aside0.mk (Kd.N_elder' q14_ (Kd.R_base ho0) hb);have HO265:=Aside0.mk (Kd.R_lower (Kd.R_new' (Kd.R_new' (Kd.R_new' (Kd.R_new' (Kd.R_new' (Kd.R_new' (Kd.R_new' (Kd.R_new' (Kd.R_new' ho0 (Kd.R_lt q9_)) (Kd.R_lt q12_)) (Kd.R_lt q13_)) (Kd.R_lt q15_)) (Kd.R_lt q18_)) (Kd.R_lt q19_)) (Kd.R_lt q21_)) (Kd.R_lt q29_)) (Kd.R_lt q49_)) (below_size bh_));replace HO169:=Aside0.mk (Kd.R_elder' q9_ (Kd.R_base ho0) hb);replace HO172:=Aside0.mk (Kd.R_elder' q12_ (Kd.R_base ho0) hb);replace HO181:=Aside0.mk (Kd.R_elder' q13_ (Kd.R_base ho0) hb);replace HO190:=Aside0.mk (Kd.R_elder' q15_ (Kd.R_base ho0) hb);replace HO217:=Aside0.mk (Kd.R_elder' q18_ (Kd.R_base ho0) hb);replace HO221:=Aside0.mk (Kd.R_elder' q19_ (Kd.R_base ho0) hb);replace HO236:=Aside0.mk (Kd.R_elder' q21_ (Kd.R_base ho0) hb);replace HO246:=Aside0.mk (Kd.R_elder' q29_ (Kd.R_base ho0) hb);replace HO256:=Aside0.mk (Kd.R_elder' q49_ (Kd.R_base ho0) hb);replace HB:=Aside0.mk (below_step bh_ hb);(try clear hb);(try clear hb2);(try clear hk);(try clear hi);(try clear ho0);obtain ⟨Ao90,co90,eo90⟩:=Kd.R_slice HO265.out;subst eo90))
      go_ret
      exact ⟨q2_,bh_⟩
     ·rw [if_neg c32] at H
      exact absurd ((Option.some.inj H).trans HR_.out) q44_
    ·replace c29:=Bool.eq_false_iff.mpr c29
     subst c29
     rw [if_neg (show ¬ (false = true) by decide)] at H
     exact absurd ((Option.some.inj H).trans HR_.out) q44_
   ·replace c26:=Bool.eq_false_iff.mpr c26
    subst c26
    rw [if_neg (show ¬ (false = true) by decide)] at H
    exact absurd ((Option.some.inj H).trans HR_.out) q44_
  ·rw [if_neg c22] at H
   exact absurd ((Option.some.inj H).trans HR_.out) q44_
 ·replace c20:=Bool.eq_false_iff.mpr c20
  subst c20
  rw [if_neg (show ¬ (false = true) by decide)] at H
  exact absurd ((Option.some.inj H).trans HR_.out) q44_
end Go.Proofs.YtennhpoemdaghaaGreatDoor.P
end
section
namespace Go.Proofs.YtennhpoemdaghaaGreatDoor.P
open Go Go.RowKit Go.Proofs.YtennhpoemdaghaaGreatDoorW.PrintWords
theorem live_at : Lw17_live.f 200 = some true:=by decide +kernel
theorem live_f (k : Nat) (hk : 200 ≤ k) : Lw17_live.f k = some true:=by
 obtain ⟨d,rfl⟩ : ∃ d,k = 200 + d:=⟨k - 200,by omega⟩
 clear hk
 induction d with
 | zero => exact live_at
 | succ d ih => exact Lw17_live.mono (200 + d) _ ih
end Go.Proofs.YtennhpoemdaghaaGreatDoor.P
end
section
namespace Go.Proofs.YtennhpoemdaghaaGreatDoor.P
open Go.RowKit Go.Proofs.YtennhpoemdaghaaGreatDoorW.PrintWords Go.Proofs.YtennhpoemdaghaaGreatDoorW.PrintLast Go.Proofs.YtennhpoemdaghaaGreatDoorW.PrintMore
def Lw17_MvsAgain.l0 : Nat → List (S41) → List (S41) → Int → Option (Bool)
 | 0,_,_,_ => none
 | k + 1,x5,x6,x7 => if x7 < (x5.length : Int) then (if 0 ≤ x7 then ((Lw17_covers.f k x6 ((rd_T41 x5 x7).f0) ((rd_T41 x5 x7).f1.f0) ((rd_T41 x5 x7).f1.f1) ((rd_T41 x5 x7).f1.f2) ((rd_T41 x5 x7).f1.f3) ((rd_T41 x5 x7).f1.f4)).bind fun t117 => (if t117 = true then ((Lw17_same.f k x6 ((rd_T41 x5 x7).f0) ((rd_T41 x5 x7).f1.f0) ((rd_T41 x5 x7).f1.f1) ((rd_T41 x5 x7).f1.f2) ((rd_T41 x5 x7).f1.f3) ((rd_T41 x5 x7).f1.f4)).bind fun t119 => (if t119 = true then (Lw17_MvsAgain.l0 k x5 x6 (wrap64 (x7 + 1))) else (some false))) else (some false))) else (none)) else (if (x6.length : Int) = (x5.length : Int) then ((Lw17_live.f k).bind fun t115 => (some t115)) else (some false))
def Lw17_MvsAgain.f (k : Nat) (l0 : List (S41)) (l1 : List (S68)) : Option (Bool):=(Rf17_Small.f k l0 l1).bind fun t101 => (if t101 = true then ((Lw17_own.f k l1).bind fun t103 => ((mvs_List.f l0 t103).bind fun t106 => ((Lw17_own.f k l1).bind fun t109 => ((mvs_List.f t106 t109).bind fun t112 => (if (t112.length : Int) > (t106.length : Int) then (some false) else (Lw17_MvsAgain.l0 k t106 t112 0)))))) else ((Lw17_live.f k).bind fun t102 => (some t102)))
set_option maxHeartbeats 8000000 in
set_option maxRecDepth 100000 in
theorem Lw17_MvsAgain.calls (k : Nat) (A0 : Option Addr) (c0 : Nat) (l0 : List (S41)) (A1 : Option Addr) (c1 : Nat) (l1 : List (S68)) (r : Bool) (w : World) (hr0 : Kd.C k41 w A0 l0.length l0) (hc0 : l0.length ≤ c0) (hr1 : Kd.C k68 w A1 l1.length l1) (hc1 : l1.length ≤ c1) (h : Lw17_MvsAgain.f k l0 l1 = some r) (hr_ : r = true) (hG : Env w) :
  Calls Tryz.prog 9 #[.slice A0 l0.length c0,.slice A1 l1.length c1] w fun e w' => e = .returned (.bool r) ∧ Below w.heap.size w w':=by
 have HG:=Aside0.mk hG
 clear hG
 have HR_:=Aside0.mk hr_
 clear hr_
 have hu41:=Tryz.underlying41
 have HR0:=Aside0.mk hr0
 have HC0:=Aside0.mk hc0
 clear hr0 hc0
 have HR1:=Aside0.mk hr1
 have HC1:=Aside0.mk hc1
 clear hr1 hc1
 have HB:=Aside0.mk (Below.refl w.heap.size w)
 have H : ((Rf17_Small.f k l0 l1).bind fun t101 => (if t101 = true then ((Lw17_own.f k l1).bind fun t103 => ((mvs_List.f l0 t103).bind fun t106 => ((Lw17_own.f k l1).bind fun t109 => ((mvs_List.f t106 t109).bind fun t112 => (if (t112.length : Int) > (t106.length : Int) then (some false) else (Lw17_MvsAgain.l0 k t106 t112 0)))))) else ((Lw17_live.f k).bind fun t102 => (some t102)))) = some r:=h
 clear h
 obtain ⟨t101,A30,H⟩:=Option.bind_eq_some_iff.mp H
 have A3:=Aside0.mk A30
 clear A30
 by_cases c4 : t101 = true
 ·subst c4
  rw [if_pos rfl] at H
  obtain ⟨t103,A50,H⟩:=Option.bind_eq_some_iff.mp H
  have A5:=Aside0.mk A50
  clear A50
  obtain ⟨t106,A60,H⟩:=Option.bind_eq_some_iff.mp H
  have A6:=Aside0.mk A60
  clear A60
  obtain ⟨t109,A70,H⟩:=Option.bind_eq_some_iff.mp H
  have A7:=Aside0.mk A70
  clear A70
  obtain ⟨t112,A80,H⟩:=Option.bind_eq_some_iff.mp H
  have A8:=Aside0.mk A80
  clear A80
  by_cases c9 : (t112.length : Int) > (t106.length : Int)
  ·rw [if_pos c9] at H
   exact absurd ((Option.some.inj H).trans HR_.out) q44_
  ·rw [if_neg c9] at H
   have c9b0 : decide ((t106.length : Int) < (t112.length : Int)) = false:=decide_eq_false c9
   have c9b1 : decide (t106.length < t112.length) = false:=decide_eq_false (fun h => c9 (Int.ofNat_lt.mpr h))
   clear c9
   have H':=Aside0.mk H
   clear H
   go_enter Tryz.func9,Tryz.ntmps9
   go_wp2_with (first | ((with_reducible refine gate_callee (f:=21) rfl ?_);refine gl_ 10 Tryz.func21 #[.slice A0 l0.length c0,.slice A1 l1.length c1] ?_;(with_reducible refine (Rf17_Small.calls k _ _ l0 _ _ l1 true _ ?side1 ?side2 ?side3 ?side4 A3.out).mono ?_);(case side1 => repeat (first | exact HR0.out | (with_reducible refine Kd.C_alloc ?_ _) | (with_reducible refine Kd.C_drewN ?_ _) | (with_reducible refine Kd.C_drew ?_)));(case side2 => exact HC0.out);(case side3 => repeat (first | exact HR1.out | (with_reducible refine Kd.C_alloc ?_ _) | (with_reducible refine Kd.C_drewN ?_ _) | (with_reducible refine Kd.C_drew ?_)));(case side4 => exact HC1.out);rintro e w19 ⟨rfl,hb⟩;refine ⟨_,rfl,?_⟩;replace HB:=Aside0.mk (below_step bh_ hb);(try clear hb)) | ((with_reducible refine gate_callee (f:=23) rfl ?_);refine gl_ 15 Tryz.func23 #[.slice A1 l1.length c1] ?_;(with_reducible refine (Lw17_own.calls k (fun k_ => k_ < w.heap.size) _ _ l1 t103 _ ?side1 A5.out).mono ?_);(case side1 => exact Kd.V_mk HC1.out (Kd.F_below (Kd.C_F k68_heap HR1.out) bh_));rintro e w20 ⟨v104,rfl,ho0,hb⟩;refine ⟨_,rfl,?_⟩;have HO105:=Aside0.mk (Kd.N_lower (Kd.N_mono (ok':=fun k_ => True) ho0 (fun k_ hk_ => trivial)) (below_size bh_));replace HB:=Aside0.mk (below_step bh_ hb);(try clear hb);(try clear ho0);obtain ⟨Ao21,co21,eo21⟩:=Kd.N_slice HO105.out;subst eo21) | ((with_reducible refine gate_callee (f:=27) rfl ?_);refine gl_ 16 Tryz.func27 #[.slice A0 l0.length c0,.slice Ao21 t103.length co21] ?_;(with_reducible refine (mvs_List.calls _ _ l0 _ _ t103 t106 _ ?side1 ?side2 ?side3 ?side4 A6.out ?sideG).mono ?_);(case sideG => first | exact HG.out | exact Env.below HG.out bh_);(case side1 => repeat (first | exact (Kd.C_below HR0.out HB.out) | (with_reducible refine Kd.C_alloc ?_ _) | (with_reducible refine Kd.C_drewN ?_ _) | (with_reducible refine Kd.C_drew ?_)));(case side2 => exact HC0.out);(case side3 => repeat (first | exact (Kd.N_reads' HO105.out).2.2 | (with_reducible refine Kd.C_alloc ?_ _) | (with_reducible refine Kd.C_drewN ?_ _) | (with_reducible refine Kd.C_drew ?_)));(case side4 => exact (Kd.N_reads' HO105.out).2.1);rintro e w22 ⟨v107,rfl,ho0,hb⟩;refine ⟨_,rfl,?_⟩;replace HO105:=Aside0.mk (Kd.N_elder' q42_ (Kd.R_base ho0) hb);have HO108:=Aside0.mk (Kd.R_lower ho0 (below_size bh_));replace HB:=Aside0.mk (below_step bh_ hb);(try clear hb);(try clear ho0)) | ((with_reducible refine gate_callee (f:=23) rfl ?_);refine gl_ 19 Tryz.func23 #[.slice A1 l1.length c1] ?_;(with_reducible refine (Lw17_own.calls k (fun k_ => k_ < w.heap.size) _ _ l1 t109 _ ?side1 A7.out).mono ?_);(case side1 => exact Kd.V_mk HC1.out (Kd.F_below (Kd.C_F k68_heap HR1.out) bh_));rintro e w23 ⟨v110,rfl,ho0,hb⟩;refine ⟨_,rfl,?_⟩;have HO111:=Aside0.mk (Kd.N_lower (Kd.N_mono (ok':=fun k_ => some k_ ≠ (.slice Ao21 t103.length co21 : Value).ownBlock ∧ some k_ ≠ (v107 : Value).ownBlock) ho0 (fun k_ hk_ => ⟨Or.elim hk_ (fun hs_ => fun e_ => Nat.not_le.2 hs_ (Kd.N_base HO105.out k_ e_.symm)) (fun hn_ => (Kd.fresh' (Kd.N_lt q42_) k_ hn_)),Or.elim hk_ (fun hs_ => fun e_ => Nat.not_le.2 hs_ (Kd.R_base HO108.out k_ e_.symm)) (fun hn_ => (Kd.fresh' (Kd.R_lt q41_) k_ hn_))⟩)) (below_size bh_));replace HO105:=Aside0.mk (Kd.N_elder' q42_ (Kd.N_base ho0) hb);replace HO108:=Aside0.mk (Kd.R_below q41_ hb);replace HB:=Aside0.mk (below_step bh_ hb);(try clear hb);(try clear ho0);obtain ⟨Ao24,co24,eo24⟩:=Kd.R_slice HO108.out;subst eo24;obtain ⟨Ao25,co25,eo25⟩:=Kd.N_slice HO111.out;subst eo25) | ((with_reducible refine gate_callee (f:=27) rfl ?_);refine gl_ 20 Tryz.func27 #[.slice Ao24 t106.length co24,.slice Ao25 t109.length co25] ?_;(with_reducible refine (mvs_List.calls _ _ t106 _ _ t109 t112 _ ?side1 ?side2 ?side3 ?side4 A8.out ?sideG).mono ?_);(case sideG => first | exact HG.out | exact Env.below HG.out bh_);(case side1 => repeat (first | exact (Kd.R_reads' HO108.out).2.2 | (with_reducible refine Kd.C_alloc ?_ _) | (with_reducible refine Kd.C_drewN ?_ _) | (with_reducible refine Kd.C_drew ?_)));(case side2 => exact (Kd.R_reads' HO108.out).2.1);(case side3 => repeat (first | exact (Kd.N_reads' HO111.out).2.2 | (with_reducible refine Kd.C_alloc ?_ _) | (with_reducible refine Kd.C_drewN ?_ _) | (with_reducible refine Kd.C_drew ?_)));(case side4 => exact (Kd.N_reads' HO111.out).2.1);rintro e w26 ⟨v113,rfl,ho0,hb⟩;refine ⟨_,rfl,?_⟩;replace HO105:=Aside0.mk (Kd.N_elder' q42_ (Kd.R_base ho0) hb);replace HO111:=Aside0.mk (Kd.N_elder' (by (with_reducible repeat (first | apply Kd.N_alloc | apply Kd.N_drewN | apply Kd.N_drew));exact HO111.out) (Kd.R_base ho0) hb);have HO114:=Aside0.mk (Kd.R_lower (Kd.R_new' ho0 (Kd.R_lt q41_)) (below_size bh_));replace HO108:=Aside0.mk (Kd.R_elder' q41_ (Kd.R_base ho0) hb);replace HB:=Aside0.mk (below_step bh_ hb);(try clear hb);(try clear ho0);obtain ⟨Ao27,co27,eo27⟩:=Kd.R_slice HO114.out;subst eo27))
   go_loopg [7] k (fun kq v7 w' => ∃ (x7_1 : Int),v7 = .int .i64 x7_1 ∧ Aside0 (Lw17_MvsAgain.l0 kq t106 t112 x7_1 = some r) ∧ Aside0 (kq ≤ k) ∧ Aside0 (Kd.R k41 41 w' w.heap.size (fun k_ => some k_ ≠ ((.slice Ao27 t112.length co27) : Value).ownBlock) (.slice Ao24 t106.length co24) t106) ∧ Aside0 (Kd.R k41 41 w' w.heap.size (fun k_ => some k_ ≠ ((.slice Ao24 t106.length co24) : Value).ownBlock) (.slice Ao27 t112.length co27) t112) ∧ Aside0 (Below w.heap.size w w'))
   case atStart => exact ⟨(0),q5_,H',⟨Nat.le_refl _⟩,⟨by (with_reducible repeat (first | apply Kd.R_alloc | apply Kd.R_drewN | apply Kd.R_drew));exact Kd.R_mono HO108.out (fun _ hk => hk.2)⟩,⟨by (with_reducible repeat (first | apply Kd.R_alloc | apply Kd.R_drewN | apply Kd.R_drew));exact Kd.R_mono HO114.out (fun _ hk => hk.2)⟩,⟨by repeat (first | (with_reducible first | exact HB.out | apply below_alloc | apply pw_below_drewN | apply below_drew1) | exact HB.out)⟩⟩
   case round =>
    clear H'
    try clear c1
    try clear c2
    try clear p2
    try clear c4
    try clear c9
    try clear c9b0
    try clear c9b1
    try clear c21
    try clear c23
    try clear c27
    obtain ⟨x7_1,rfl,HA,HK1,HO_5,HO_6,HB⟩:=hrel
    cases gk with
    | zero => exact absurd HA.out (by simp [Lw17_MvsAgain.l0])
    | succ k1 =>
     have H:=HA.out
     clear HA
     simp only [Lw17_MvsAgain.l0] at H
     by_cases c28 : x7_1 < (t106.length : Int)
     ·rw [if_pos c28] at H
      have c28b0:=decide_eq_true c28
      clear c28
      by_cases c29 : 0 ≤ x7_1
      ·rw [if_pos c29] at H
       have c29b0:=decide_eq_true c29
       clear c29
       obtain ⟨t117,A300,H⟩:=Option.bind_eq_some_iff.mp H
       have A30:=Aside0.mk A300
       clear A300
       by_cases c31 : t117 = true
       ·subst c31
        rw [if_pos rfl] at H
        obtain ⟨t119,A320,H⟩:=Option.bind_eq_some_iff.mp H
        have A32:=Aside0.mk A320
        clear A320
        by_cases c33 : t119 = true
        ·subst c33
         rw [if_pos rfl] at H
         have H':=Aside0.mk H
         clear H
         have p116 : 0 ≤ (x7_1 : Int):=of_decide_eq_true q1_
         have q116 : x7_1 < (t106.length : Int):=of_decide_eq_true q1_
         obtain ⟨ad116,e116,hx116_0,hx116_1,hx116_2,hx116_3,hx116_4,hx116_5⟩:=at_T41 (Kd.R_reads' HO_5.out).2.2 x7_1 p116 q116
         cases e116
         replace p116:=eq_true p116
         replace q116:=eq_true q116
         go_wp2_with (first | ((with_reducible refine gate_callee (f:=34) rfl ?_);refine gl_ 37 Tryz.func34 #[.slice Ao27 t112.length co27,.agg #[.string ((rd_T41 t106 x7_1).f0),.int .i64 ((rd_T41 t106 x7_1).f1.f0),.int .i64 ((rd_T41 t106 x7_1).f1.f1),.int .i64 ((rd_T41 t106 x7_1).f1.f2),.string ((rd_T41 t106 x7_1).f1.f3),.string ((rd_T41 t106 x7_1).f1.f4)]] ?_;(with_reducible refine (Lw17_covers.calls k1 _ _ t112 ((rd_T41 t106 x7_1).f0) ((rd_T41 t106 x7_1).f1.f0) ((rd_T41 t106 x7_1).f1.f1) ((rd_T41 t106 x7_1).f1.f2) ((rd_T41 t106 x7_1).f1.f3) ((rd_T41 t106 x7_1).f1.f4) true _ ?side1 ?side2 A30.out).mono ?_);(case side1 => repeat (first | exact (Kd.R_reads' HO_6.out).2.2 | (with_reducible refine Kd.C_alloc ?_ _) | (with_reducible refine Kd.C_drewN ?_ _) | (with_reducible refine Kd.C_drew ?_)));(case side2 => exact (Kd.R_reads' HO_6.out).2.1);rintro e w34 ⟨rfl,hb⟩;refine ⟨_,rfl,?_⟩;replace HO_5:=Aside0.mk (Kd.R_below q35_ hb);replace HO_6:=Aside0.mk (Kd.R_below q50_ hb);replace HB:=Aside0.mk (below_step bh_ hb);(try clear hb);have p118 : 0 ≤ (x7_1 : Int):=of_decide_eq_true q1_;have q118 : x7_1 < (t106.length : Int):=of_decide_eq_true q1_;obtain ⟨ad118,e118,hx118_0,hx118_1,hx118_2,hx118_3,hx118_4,hx118_5⟩:=at_T41 (Kd.R_reads' HO_5.out).2.2 x7_1 p118 q118;obtain rfl : ad116 = ad118:=(by injection e118);replace p118:=eq_true p118;replace q118:=eq_true q118) | (go_at_call 37;(with_reducible refine (Lw17_same.calls k1 _ _ t112 ((rd_T41 t106 x7_1).f0) ((rd_T41 t106 x7_1).f1.f0) ((rd_T41 t106 x7_1).f1.f1) ((rd_T41 t106 x7_1).f1.f2) ((rd_T41 t106 x7_1).f1.f3) ((rd_T41 t106 x7_1).f1.f4) true _ ?side1 ?side2 A32.out).mono ?_);(case side1 => repeat (first | exact (Kd.R_reads' HO_6.out).2.2 | (with_reducible refine Kd.C_alloc ?_ _) | (with_reducible refine Kd.C_drewN ?_ _) | (with_reducible refine Kd.C_drew ?_)));(case side2 => exact (Kd.R_reads' HO_6.out).2.1);rintro e w35 ⟨rfl,hb⟩;replace HO_5:=Aside0.mk (Kd.R_below q35_ hb);replace HO_6:=Aside0.mk (Kd.R_below q50_ hb);replace HB:=Aside0.mk (below_step bh_ hb);(try clear hb)))
         go_roundg k1
         case measure => have:=HK1.out;omega
         case rel => exact ⟨(wrap64 (x7_1 + 1)),q5_,H',⟨by have:=HK1.out;omega⟩,⟨by (with_reducible repeat (first | apply Kd.R_alloc | apply Kd.R_drewN | apply Kd.R_drew));exact HO_5.out⟩,⟨by (with_reducible repeat (first | apply Kd.R_alloc | apply Kd.R_drewN | apply Kd.R_drew));exact HO_6.out⟩,⟨by repeat (first | (with_reducible first | exact HB.out | apply below_alloc | apply pw_below_drewN | apply below_drew1) | exact HB.out)⟩⟩
        ·replace c33:=Bool.eq_false_iff.mpr c33
         subst c33
         rw [if_neg (show ¬ (false = true) by decide)] at H
         exact absurd ((Option.some.inj H).trans HR_.out) q44_
       ·replace c31:=Bool.eq_false_iff.mpr c31
        subst c31
        rw [if_neg (show ¬ (false = true) by decide)] at H
        exact absurd ((Option.some.inj H).trans HR_.out) q44_
      ·rw [if_neg c29] at H
       exact absurd H q44_
     ·rw [if_neg c28] at H
      have c28b0:=decide_eq_false c28
      clear c28
      by_cases c39 : (t112.length : Int) = (t106.length : Int)
      ·rw [if_pos c39] at H
       have c39b0:=beq_iff_eq.mpr c39
       have c39b1:=bne_eq_false_iff_eq.mpr c39
       have c39b2 : (t112.length == t106.length) = true:=by first | simpa using c39 | (simp at c39 ⊢;omega)
       clear c39
       obtain ⟨t115,A400,H⟩:=Option.bind_eq_some_iff.mp H
       have A40:=Aside0.mk A400
       clear A400
       obtain rfl:=Option.some.inj H
       go_wp2_with (first | (go_at_call 22;(with_reducible refine (Lw17_live.calls k1  t115 _ A40.out HR_.out ?sideG).mono ?_);(case sideG => first | exact HG.out | exact Env.below HG.out bh_);rintro e w41 ⟨rfl,hb⟩;replace HO_5:=Aside0.mk (Kd.R_below q35_ hb);replace HO_6:=Aside0.mk (Kd.R_below q50_ hb);replace HB:=Aside0.mk (below_step bh_ hb);(try clear hb)))
       go_ret
       exact ⟨q2_,bh_⟩
      ·rw [if_neg c39] at H
       have c39b0:=beq_eq_false_iff_ne.mpr c39
       have c39b1:=bne_iff_ne.mpr c39
       have c39b2 : (t112.length == t106.length) = false:=by first | simpa using c39 | (simp at c39 ⊢;omega)
       obtain rfl:=Option.some.inj H
       go_wp2
       go_ret
       exact ⟨q2_,bh_⟩
 ·replace c4:=Bool.eq_false_iff.mpr c4
  subst c4
  rw [if_neg (show ¬ (false = true) by decide)] at H
  obtain ⟨t102,A420,H⟩:=Option.bind_eq_some_iff.mp H
  have A42:=Aside0.mk A420
  clear A420
  obtain rfl:=Option.some.inj H
  go_enter Tryz.func9,Tryz.ntmps9
  go_wp2_with (first | ((with_reducible refine gate_callee (f:=21) rfl ?_);refine gl_ 10 Tryz.func21 #[.slice A0 l0.length c0,.slice A1 l1.length c1] ?_;(with_reducible refine (Rf17_Small.calls k _ _ l0 _ _ l1 false _ ?side1 ?side2 ?side3 ?side4 A3.out).mono ?_);(case side1 => repeat (first | exact HR0.out | (with_reducible refine Kd.C_alloc ?_ _) | (with_reducible refine Kd.C_drewN ?_ _) | (with_reducible refine Kd.C_drew ?_)));(case side2 => exact HC0.out);(case side3 => repeat (first | exact HR1.out | (with_reducible refine Kd.C_alloc ?_ _) | (with_reducible refine Kd.C_drewN ?_ _) | (with_reducible refine Kd.C_drew ?_)));(case side4 => exact HC1.out);rintro e w43 ⟨rfl,hb⟩;refine ⟨_,rfl,?_⟩;replace HB:=Aside0.mk (below_step bh_ hb);(try clear hb)) | ((with_reducible refine gate_callee (f:=22) rfl ?_);refine gl_ 12 Tryz.func22 #[] ?_;(with_reducible refine (Lw17_live.calls k  t102 _ A42.out HR_.out ?sideG).mono ?_);(case sideG => first | exact HG.out | exact Env.below HG.out bh_);rintro e w44 ⟨rfl,hb⟩;refine ⟨_,rfl,?_⟩;replace HB:=Aside0.mk (below_step bh_ hb);(try clear hb)))
  go_ret
  exact ⟨q2_,bh_⟩
end Go.Proofs.YtennhpoemdaghaaGreatDoor.P
end
section
namespace Go.Proofs.YtennhpoemdaghaaGreatDoor.P
open Go Go.RowKit Go.Proofs.YtennhpoemdaghaaGreatDoorW.PrintWords
theorem again_f (root : List Req) (l : List RNode) (hr0 : root.length ≤ 9223372036854775807) (hl0 : l.length ≤ 9223372036854775807) (hM : ∀ n ∈ l,n.f1.length ≤ 9223372036854775807) :
  ∃ K,∀ k,K ≤ k → Lw17_MvsAgain.f k root l = some true:=by
 obtain ⟨K,hK⟩:=small_f root l hr0 hl0 hM
 refine ⟨K + 40000,fun k hk => ?_⟩
 have hlive : ∀ k,200 ≤ k → ((Lw17_live.f k).bind fun t => some t) = some true:=fun k hk => by rw [live_f k hk];rfl
 unfold Lw17_MvsAgain.f
 rw [hK k q8_,Option.bind_some]
 cases hs : smallB root l with
 | false => rw [if_neg q38_,hlive k q8_]
 | true =>
  have hr:=small_root hs
  have hf:=small_few hs
  have hfl:=hf.1
  have hU:=univ_le hf root
  have hU5 : (univ root (l.map ownN)).length ≤ 500000:=by omega
  have h2:=list_len hf (root:=root) q8_
  obtain ⟨hsp1,hsp2⟩:=listL_spec hU5
  have hstrict:=listL_strict root (l.map ownN)
  generalize hx : listL root (l.map ownN) = x at *
  have hUx:=univ_le hf x
  have hUx5 : (univ x (l.map ownN)).length ≤ 500000:=by omega
  have h3:=list_len hf (root:=x) q8_
  obtain ⟨hsy1,hsy2⟩:=listL_spec hUx5
  have hstrict2:=listL_strict x (l.map ownN)
  rw [if_pos rfl,own_f l q8_ k q8_,Option.bind_some,list_eq root _ hU5,Option.bind_some,Option.bind_some,hx,list_eq x _ hUx5,Option.bind_some]
  have hsub : ∀ r,Reach x (l.map ownN) r → Reach root (l.map ownN) r:=fun r hr => Reach.mono (fun z hz => .inl (hsp1 z hz).1) hr
  have hle : (listL x (l.map ownN)).length ≤ x.length:=paths_len (strict_paths hstrict2) (fun r hr => by
   obtain ⟨s,hs,he,_⟩:=hsp2 r (hsub r (hsy1 r hr).1)
   exact ⟨s,hs,he⟩)
  have hin : ∀ r ∈ x,Reach x (l.map ownN) r:=fun r hr => .root hr (hsp1 r hr).1.may
  have hge : x.length ≤ (listL x (l.map ownN)).length:=paths_len (strict_paths hstrict) (fun r hr => by
   obtain ⟨s,hs,he,_⟩:=hsy2 r (hin r hr)
   exact ⟨s,hs,he⟩)
  rw [if_neg q8_]
  refine loop_all (fun k i => Lw17_MvsAgain.l0 k x (listL x (l.map ownN)) i) x.length 30000 (some true) q8_ (fun k i hi hk => ?_) (fun k hk => ?_) k q8_
  ·show Lw17_MvsAgain.l0 (k + 1) x (listL x (l.map ownN)) (i : Int) = _
   have hm:=List.getElem_mem hi
   obtain ⟨s,hs,he,hc⟩:=hsy2 _ (hin _ hm)
   have hc2 : cmpB x[i] s ≥ 0:=(hsp1 _ hm).2 s (hsub s (hsy1 s hs).1) he
   have hcov : coversB (listL x (l.map ownN)) x[i] = true:=(covers_iff hstrict2).2 ⟨s,hs,he,hc⟩
   have m1:=(hsp1 _ hm).1.may
   have m2:=(hsy1 s hs).1.may
   have hsame : sameB (listL x (l.map ownN)) x[i] = true:=(same_iff hstrict2).2 ⟨s,hs,he,by
    rw [cmpB_may m2 m1] at hc ⊢
    rw [cmpB_may m1 m2] at hc2
    have:=vcmp_cmp.swap x[i] s
    omega⟩
   rw [Lw17_MvsAgain.l0,if_pos q8_,if_pos q8_,rd_at _ i hi,covers_f _ _ q8_ k q8_,Option.bind_some,hcov,if_pos rfl,same_f _ _ q8_ k q8_,Option.bind_some,hsame,if_pos rfl]
  ·show Lw17_MvsAgain.l0 (k + 1) x (listL x (l.map ownN)) (x.length : Int) = _
   rw [Lw17_MvsAgain.l0,if_neg q8_,if_pos q8_,hlive k q8_]
end Go.Proofs.YtennhpoemdaghaaGreatDoor.P
end
section
namespace Go.Proofs.YtennhpoemdaghaaGreatDoor.P
open Go Go.RowKit
set_option maxRecDepth 100000 in
theorem tab_of_laid {w : World} (h : laidMetH Tryz.prog Go.Proofs.YtennhpoemdaghaaGreatDoor.Rows.mvsAloneRow.laid w) : Lib.TabIs Tryz.prog w "internal/strconv.uint64pow10" .u64 Lib.pow10Tab:=by
 rw [MakeChecks.laidMetH_plain _ _ _ q10_] at h
 have h2:=h.filter (fun x => x.1 == "internal/strconv.uint64pow10")
 have e : (Go.Proofs.YtennhpoemdaghaaGreatDoor.Rows.mvsAloneRow.laid.filter fun x => x.1 == "internal/strconv.uint64pow10") = [("internal/strconv.uint64pow10", Lib.tabData .u64 Lib.pow10Tab)]:=by kernel_rfl
 rw [e] at h2
 exact Lib.tabIs_of_head (g:=5) (t:=225) (e:=157) (n:=20) q10_ q10_ q10_ q10_ q10_ q10_ h2
end Go.Proofs.YtennhpoemdaghaaGreatDoor.P
end
section
namespace Go.Proofs.YtennhpoemdaghaaGreatDoor.P
open Go Go.RowKit Go.Proofs.YtennhpoemdaghaaGreatDoorW.PrintWords
section
variable {H : Type} {enc : TypeId × Value → H} {w : World} {base : Nat} {spare : Nat → Bool} {held : Bool}
set_option maxRecDepth 100000 in
theorem trod_ver {fuel : Nat} {cs : List Value} {x : DataW H × List MemPlace} (h : DataW.trod enc Tryz.prog w base spare held fuel 24 cs = some x) :
  ∃ v : S24,cs = [.int .i64 v.f0,.int .i64 v.f1,.int .i64 v.f2,.string v.f3,.string v.f4]:=by
 obtain ⟨xs,n,_,_,hl,hlen,hf⟩:=DataW.trod_struct Tryz.underlying24 h
 have hc : Tryz.prog.cellsOf 24 = 5:=by kernel_rfl
 have hci : Tryz.prog.cellsOf 3 = 1:=by kernel_rfl
 have hcs : Tryz.prog.cellsOf 9 = 1:=by kernel_rfl
 rw [hc] at hl
 match cs,hl with
 | [c0,c1,c2,c3,c4],_ =>
  have g : ∀ i (hi : i < 5),∃ y,xs[i]? = some y:=fun i hi => ⟨xs[i]'(by rw [hlen];exact hi),List.getElem?_eq_getElem _⟩
  obtain ⟨y0,e0⟩:=g 0 q8_
  obtain ⟨y1,e1⟩:=g 1 q8_
  obtain ⟨y2,e2⟩:=g 2 q8_
  obtain ⟨y3,e3⟩:=g 3 q8_
  obtain ⟨y4,e4⟩:=g 4 q8_
  have h0:=hf 0 _ rfl
  have h1:=hf 1 _ rfl
  have h2:=hf 2 _ rfl
  have h3:=hf 3 _ rfl
  have h4:=hf 4 _ rfl
  simp only [e0,e1,e2,e3,e4] at h0 h1 h2 h3 h4
  obtain ⟨a,ha,_⟩:=DataW.trod_int Tryz.underlying3 h0
  obtain ⟨b,hb,_⟩:=DataW.trod_int Tryz.underlying3 h1
  obtain ⟨c,hc,_⟩:=DataW.trod_int Tryz.underlying3 h2
  obtain ⟨d,hd,_⟩:=DataW.trod_string Tryz.underlying9 h3
  obtain ⟨e,he,_⟩:=DataW.trod_string Tryz.underlying9 h4
  simp [hci,hcs] at ha hb hc hd he
  exact ⟨⟨a,b,c,d,e⟩,by rw [ha,hb,hc,hd,he]⟩
set_option maxRecDepth 100000 in
theorem trod_req {fuel : Nat} {cs : List Value} {x : DataW H × List MemPlace} (h : DataW.trod enc Tryz.prog w base spare held fuel 41 cs = some x) : ∃ r : Req,cs = encR r:=by
 obtain ⟨xs,n,_,_,hl,hlen,hf⟩:=DataW.trod_struct Tryz.underlying41 h
 have hc : Tryz.prog.cellsOf 41 = 6:=by kernel_rfl
 have hcv : Tryz.prog.cellsOf 24 = 5:=by kernel_rfl
 have hcs : Tryz.prog.cellsOf 9 = 1:=by kernel_rfl
 rw [hc] at hl
 match cs,hl with
 | [c0,c1,c2,c3,c4,c5],_ =>
  have g : ∀ i (hi : i < 2),∃ y,xs[i]? = some y:=fun i hi => ⟨xs[i]'(by rw [hlen];exact hi),List.getElem?_eq_getElem _⟩
  obtain ⟨y0,e0⟩:=g 0 q8_
  obtain ⟨y1,e1⟩:=g 1 q8_
  have h0:=hf 0 _ rfl
  have h1:=hf 1 _ rfl
  simp only [e0,e1] at h0 h1
  obtain ⟨p,hp,_⟩:=DataW.trod_string Tryz.underlying9 h0
  obtain ⟨v,hv⟩:=trod_ver h1
  simp [hcs,hcv] at hp hv
  obtain ⟨v0,v1,v2,v3,v4⟩:=hv
  exact ⟨⟨p,v⟩,by rw [hp,v0,v1,v2,v3,v4];rfl⟩
theorem open_reqs {fuel : Nat} {cs : List Value} {x : DataW H × List MemPlace} (h : DataW.trod enc Tryz.prog w base spare held fuel 38 cs = some x) :
  ∃ (A : Option Addr) (c : Nat) (l : List Req),cs = [.slice A l.length c] ∧ l.length ≤ c ∧ Kd.C k41 w A l.length l:=by
 have hc : Tryz.prog.cellsOf 41 = 6:=by kernel_rfl
 rcases Go.Deep.open_slice Tryz.underlying38 h with ⟨rfl,_⟩ | ⟨a,len,cap,m,n,D,Pl,rfl,hb,hl,hm,rfl,_,hel⟩
 ·exact ⟨none,0,[],rfl,Nat.le_refl _,Kd.C_nil _ _⟩
 ·have hlm : len ≤ (if spare a.block then cap else len):=by split <;> omega
  have hr : ∀ i,i < len → ∃ r : Req,w.cells? base (a.add (i * 6)) 6 = some (encR r):=fun i hi => by
   obtain ⟨cs',h1,h2⟩:=hel i q8_
   obtain ⟨r,rfl⟩:=trod_req h2
   rw [hc] at h1
   exact ⟨r,h1⟩
  refine ⟨some a,cap,(List.range len).map (fun i => if hi : i < len then (hr i hi).choose else default),by simp,by simpa using hl,?_⟩
  refine ⟨rfl,?_,fun _ => ⟨a,rfl,fun j p hp => ?_⟩⟩
  ·unfold maxLen at hm
   simp
   omega
  ·have hj : j < len:=by
    rcases Nat.lt_or_ge j len with h1 | h1
    ·exact h1
    ·rw [List.getElem?_eq_none (by simpa using h1)] at hp;exact absurd hp q44_
   have hpe : p = (hr j hj).choose:=by
    rw [List.getElem?_map,List.getElem?_range hj] at hp
    simp only [Option.map_some,dif_pos hj,Option.some.injEq] at hp
    exact hp.symm
   have hsp:=(hr j hj).choose_spec
   rw [← hpe] at hsp
   obtain ⟨_,hlen,hcell⟩:=World.cells?_some hsp
   refine ⟨encR p,rfl,k41_mk w p,fun i u hu => ?_⟩
   have hi : i < 6:=by
    rcases Nat.lt_or_ge i 6 with h1 | h1
    ·exact h1
    ·rw [List.getElem?_eq_none (show (encR p).length ≤ i from h1)] at hu;exact absurd hu q44_
   have:=hcell i hi
   rw [hu] at this
   rw [← this]
   show w.cell? (a.add (j * 6 + i)) = _
   rw [← add_add]
end
end Go.Proofs.YtennhpoemdaghaaGreatDoor.P
end
section
namespace Go
theorem returnsInHanded_and_shaped {a : Assume} {C : Checked} {os : Os} {f : FuncId} {fn : Func} {s : ChangeSpec} {conds : List PathCond} {apart fresh handsOn again : Bool} {H : Type} {enc : TypeId × Value → H} {X : World → Array Value → Prop}
  (hX : ∀ (w w' : World) (args : Array Value),w.heap = w'.heap → X w args → X w' args)
  (own : ownKnob C.prog.godebug = none) (started : os.Started) (noInit : C.prog.inits.idxOf? f = none) (hfn : C.prog.funcs[f]? = some fn)
  (witness : ∃ (w : World) (tape : Tape) (i : Input),w.os = os ∧ (w.forCall tape i).Shaped C.prog ∧ i.vars = [] ∧ Input.okWide C.prog (w.forCall tape i) .any w.heap.size f i ∧
   ((s.pre enc C.prog fn conds apart (w.forCall tape i).memory i.args ∧ X (w.forCall tape i).memory i.args) ∧ sizedMet enc C.prog fn (OpenSpec.ofChange s) apart (w.forCall tape i).memory i.args) ∧ a.holds C.prog (lone (Frame.enter C.prog f i.args .normal) [] (w.forCall tape i)))
  (contract : ∀ (W : World) (base : Nat) (args : Array Value) (ds gs : List (DataW H)) (before : List MemPlace),
   (∀ (j : Nat) t v,fn.params[j]? = some t → args[j]? = some v → Value.okWide C.prog W .any base t v) →
   DataW.Whole enc C.prog fn.params.toList s.vars apart W args.toList ds gs before →
   (DataW.weightsEach C.prog (fn.params.toList ++ s.plain.varTypes C.prog) (ds ++ gs)).all (· ≤ reachBytes) = true → X W args → W.ShapedOpen C.prog →
   Calls C.prog f args W fun e W' => ∃ v,e = .returned v ∧ s.post enc C.prog fn apart fresh handsOn again W args v W') :
  ReturnsInHanded a C os f .any (fun w args => (s.pre enc C.prog fn conds apart w args ∧ X w args) ∧ sizedMet enc C.prog fn (OpenSpec.ofChange s) apart w args) (s.post enc C.prog fn apart fresh handsOn again):=by
 refine returnsInHanded_of_calls own started noInit witness ?_
 intro w tape i _ hsh _ hok hpre hholds
 obtain ⟨_,_,_,fn',hfn',_,_,_,_,hval⟩:=hok
 have e : fn' = fn:=Option.some.inj (hfn'.symm.trans hfn)
 subst e
 obtain ⟨⟨⟨ds,gs,before,hw,hc⟩,hx⟩,hz⟩:=hpre
 have hw':=DataW.Whole.of_heap (w':=w.forCall tape i) q46_ hw
 refine (contract (w.forCall tape i) w.heap.size i.args ds gs before hval hw' (hz.weights hw) (hX _ _ _ q46_ hx) hsh).mono fun e W' ⟨v,he,hp⟩ => ?_
 subst he
 exact ChangeSpec.post_blind hp
end Go
namespace Go.Proofs.YtennhpoemdaghaaGreatDoor.P
open Go Go.RowKit Go.ChangeShapes Go.WideShapes
theorem ownKnob_here : ownKnob Tryz.prog.godebug = none:=by kernel_rfl
theorem laidOut_here : laidOutB Tryz.prog = true:=by kernel_rfl
theorem laid_at {w : World} {name : String} {d : DataW Unit} (h : laidMetH Tryz.prog Go.Proofs.YtennhpoemdaghaaGreatDoor.Rows.mvsAloneRow.laid w)
  (e : (Go.Proofs.YtennhpoemdaghaaGreatDoor.Rows.mvsAloneRow.laid.filter fun x => x.1 == name) = [(name,d)]) : laidMet Tryz.prog [(name,d)] w:=by
 rw [MakeChecks.laidMetH_plain _ _ _ q10_] at h
 have h2:=h.filter (fun x => x.1 == name)
 rw [e] at h2
 exact h2
theorem err_of_laid {w : World} {name : String} {g : Nat} {t : TypeId} {ms : Array (String × TypeId)} {text : List UInt8} (hg : Tryz.prog.globalNamed name = some g) (ht : (Tryz.prog.globals[g]?).map (·.type) = some t) (hi : Tryz.prog.underlying t = some (.interface ms))
  (h : laidMet Tryz.prog [(name,.iface "*errors.errorString" (.ptr (.agg [.lit (.string text)])))] w) : ∃ ev,w.cell? ⟨g,0,none⟩ = some ev ∧ (ev = .nilIface ∨ ∃ te pe,ev = .iface te pe):=by
 obtain ⟨ps,⟨g0,t0,cs0,f0,p0,q0,hg0,ht0,hv0,hd0,_,_⟩,_,_⟩:=h
 obtain rfl:=Option.some.inj (hg.symm.trans hg0)
 obtain rfl:=Option.some.inj (ht.symm.trans ht0)
 obtain ⟨_,u,v,hcs,_,_⟩:=iface_of_trod hi hd0
 have:=World.var?_cell hg0 hv0 0
 rw [Array.eq_one_of_toList hcs] at this
 exact ⟨.iface u v,by simpa using this,.inr ⟨u,v,rfl⟩⟩
set_option maxRecDepth 100000 in
theorem env_of_laid {w : World} (h : laidMetH Tryz.prog Go.Proofs.YtennhpoemdaghaaGreatDoor.Rows.mvsAloneRow.laid w) (hs : w.ShapedOpen Tryz.prog) : Env w:=by
 have ht:=tab_of_laid h
 refine ⟨?_,?_,?_,ht,?_⟩
 ·exact cell_of_shapedOpen_int (P:=Tryz.prog) (g:=0) (t:=3) (zero:=#[.int .i64 0]) hs (of_decide_eq_true q10_) q10_ rfl q10_ q10_ Tryz.underlying3
 ·exact err_of_laid (text:=[105,110,118,97,108,105,100,32,115,121,110,116,97,120]) q10_ q10_ Tryz.underlying111 (laid_at (name := "strconv.ErrSyntax") h q10_)
 ·exact err_of_laid (text:=[118,97,108,117,101,32,111,117,116,32,111,102,32,114,97,110,103,101]) q10_ q10_ Tryz.underlying111 (laid_at (name := "strconv.ErrRange") h q10_)
 ·have h1:=World.var?_cell (g:=5) q10_ ht 0
  exact Lib.lt_of_cell (v:=.int .u64 1) (h1.trans q10_)
end Go.Proofs.YtennhpoemdaghaaGreatDoor.P
end
section
namespace Go.Proofs.YtennhpoemdaghaaGreatDoor.P
open Go Go.RowKit Go.ChangeShapes Go.WideShapes Go.Proofs.YtennhpoemdaghaaGreatDoorW.PrintWords
section
variable {H : Type} {enc : TypeId × Value → H} {w : World} {base : Nat} {spare : Nat → Bool} {held : Bool}
theorem open_list {α : Type} [Inhabited α] (kd : Kd α) {t e : TypeId} (ht : Tryz.prog.underlying t = some (.slice e)) (hc : Tryz.prog.cellsOf e = kd.sz)
  (he : ∀ (fuel : Nat) (cs : List Value) (x : DataW H × List MemPlace),DataW.trod enc Tryz.prog w base spare held fuel e cs = some x → ∃ v : α,kd.K w v cs)
  {fuel : Nat} {cs : List Value} {x : DataW H × List MemPlace} (h : DataW.trod enc Tryz.prog w base spare held fuel t cs = some x) :
  ∃ (A : Option Addr) (c : Nat) (l : List α),cs = [.slice A l.length c] ∧ l.length ≤ c ∧ c ≤ maxLen ∧ Kd.C kd w A l.length l:=by
 rcases Go.Deep.open_slice ht h with ⟨rfl,_⟩ | ⟨a,len,cap,m,n,D,Pl,rfl,hb,hl,hm,rfl,_,hel⟩
 ·exact ⟨none,0,[],rfl,Nat.le_refl _,Nat.zero_le _,Kd.C_nil _ _⟩
 ·have hlm : len ≤ (if spare a.block then cap else len):=by split <;> omega
  have hr : ∀ i,i < len → ∃ (r : α) (cs' : List Value),w.cells? base (a.add (i * kd.sz)) kd.sz = some cs' ∧ kd.K w r cs':=fun i hi => by
   obtain ⟨cs',h1,h2⟩:=hel i q8_
   obtain ⟨r,hr⟩:=he _ _ _ h2
   rw [hc] at h1
   exact ⟨r,cs',h1,hr⟩
  refine ⟨some a,cap,(List.range len).map (fun i => if hi : i < len then (hr i hi).choose else default),by simp,by simpa using hl,hm,?_⟩
  refine ⟨rfl,?_,fun _ => ⟨a,rfl,fun j p hp => ?_⟩⟩
  ·unfold maxLen at hm
   simp
   omega
  ·have hj : j < len:=by
    rcases Nat.lt_or_ge j len with h1 | h1
    ·exact h1
    ·rw [List.getElem?_eq_none (by simpa using h1)] at hp;exact absurd hp q44_
   have hpe : p = (hr j hj).choose:=by
    rw [List.getElem?_map,List.getElem?_range hj] at hp
    simp only [Option.map_some,dif_pos hj,Option.some.injEq] at hp
    exact hp.symm
   have hsp:=(hr j hj).choose_spec
   rw [← hpe] at hsp
   obtain ⟨cs',hcs,hk⟩:=hsp
   obtain ⟨_,hlen,hcell⟩:=World.cells?_some hcs
   refine ⟨cs',hlen,hk,fun i u hu => ?_⟩
   have hi : i < kd.sz:=by
    rcases Nat.lt_or_ge i kd.sz with h1 | h1
    ·exact h1
    ·rw [List.getElem?_eq_none q8_] at hu;exact absurd hu q44_
   have:=hcell i hi
   rw [hu] at this
   rw [← this]
   show w.cell? (a.add (j * kd.sz + i)) = _
   rw [← add_add]
set_option maxRecDepth 100000 in
theorem trod_node {fuel : Nat} {cs : List Value} {x : DataW H × List MemPlace} (h : DataW.trod enc Tryz.prog w base spare held fuel 68 cs = some x) :
  ∃ v : S68,k68.K w v cs:=by
 obtain ⟨xs,n,_,_,hl,hlen,hf⟩:=DataW.trod_struct Tryz.underlying68 h
 have hc : Tryz.prog.cellsOf 68 = 7:=by kernel_rfl
 have hc1 : Tryz.prog.cellsOf 41 = 6:=by kernel_rfl
 have hc2 : Tryz.prog.cellsOf 38 = 1:=by kernel_rfl
 rw [hc] at hl
 match cs,hl with
 | [c0,c1,c2,c3,c4,c5,c6],_ =>
  have g : ∀ i (hi : i < 2),∃ y,xs[i]? = some y:=fun i hi => ⟨xs[i]'(by rw [hlen];exact hi),List.getElem?_eq_getElem _⟩
  obtain ⟨y0,e0⟩:=g 0 q8_
  obtain ⟨y1,e1⟩:=g 1 q8_
  have h0:=hf 0 _ rfl
  have h1:=hf 1 _ rfl
  simp only [e0,e1] at h0 h1
  obtain ⟨r,hr⟩:=trod_req h0
  obtain ⟨A,c,l,hv,hlc,hC⟩:=open_reqs h1
  simp [hc1,hc2,encR] at hr hv
  obtain ⟨r0,r1,r2,r3,r4,r5⟩:=hr
  refine ⟨⟨r,l⟩,?_⟩
  rw [r0,r1,r2,r3,r4,r5,hv]
  exact k68_mk w ⟨r,l⟩ hlc hC
instance : Inhabited S68:=⟨⟨default,[]⟩⟩
theorem open_nodes {fuel : Nat} {cs : List Value} {x : DataW H × List MemPlace} (h : DataW.trod enc Tryz.prog w base spare held fuel 39 cs = some x) :
  ∃ (A : Option Addr) (c : Nat) (l : List S68),cs = [.slice A l.length c] ∧ l.length ≤ c ∧ c ≤ maxLen ∧ Kd.C k68 w A l.length l :=
 open_list k68 Tryz.underlying39 q10_ (fun _ _ _ h => trod_node h) h
theorem nodes_len {A : Option Addr} {l : List S68} (h : Kd.C k68 w A l.length l) : ∀ n ∈ l,n.f1.length ≤ 9223372036854775807:=by
 intro n hn
 obtain ⟨j,hj,rfl⟩:=List.mem_iff_getElem.1 hn
 obtain ⟨a,_,hp⟩:=h.2.2 q8_
 obtain ⟨cs,_,hk,_⟩:=hp j l[j] (List.getElem?_eq_getElem hj)
 obtain ⟨A6,c6,_,_,hC⟩:=k68_open hk
 have:=hC.2.1
 omega
end
end Go.Proofs.YtennhpoemdaghaaGreatDoor.P
end
section
namespace Go.Proofs.YtennhpoemdaghaaGreatDoor.P
open Go Go.RowKit Go.ChangeShapes Go.WideShapes Go.ChangeAt
open Go.ChangeMaps (open_string shut_string)
set_option maxRecDepth 100000 in
theorem mvsAgain_lifted (os : Os) (started : os.Started) (H : Type) (enc : TypeId × Value → H) :
  ReturnsInHanded {} Tryz.checked os 9 .any (fun w args => (Rows.mvsAgainSpec.pre enc Tryz.prog Tryz.f9 [] false w args ∧ laidMetH Tryz.prog Rows.mvsAgainRow.laid w) ∧ sizedMet enc Tryz.prog Tryz.f9 (OpenSpec.ofChange Rows.mvsAgainSpec) false w args)
   (Rows.mvsAgainSpec.post enc Tryz.prog Tryz.f9 false true false false):=by
 refine returnsInHanded_and_shaped (C:=Tryz.checked) (X:=fun w _ => laidMetH Tryz.prog Rows.mvsAgainRow.laid w) (fun _ _ _ hh h => h.of_heap hh) ownKnob_here started q10_ Tryz.func9
  (ChangeSpec.witness_shaped (enc:=enc) (C:=Tryz.checked) (os:=os) (X:=fun w _ => laidMetH Tryz.prog Rows.mvsAgainRow.laid w) false (World.laidAll Tryz.prog os Rows.mvsAgainRow.laid) #[.slice none 0 0,.slice none 0 0] 8 (World.laidAll_os _ _ _)
   (World.shaped_of_ZipB q10_ q10_) q10_ q10_ q10_
   (by rw [MakeChecks.laidMetH_plain _ _ _ q10_];exact laidMet_laidAll _ q10_ q10_)) ?_
 intro W base args ds gs before hval0 hW hsz0 hL hsh
 have hE : Env W:=env_of_laid hL hsh
 have hval : ∀ (j : Nat) t v,Tryz.f9.params[j]? = some t → args[j]? = some v → Value.okWide Tryz.prog W .any base t v:=hval0
 have hW':=hW
 obtain ⟨p,q,hA0,hV,rfl,hfz,hnd⟩:=hW
 have hA : DataW.TrodAll enc Tryz.prog W 0 (fun _ => true) true Tryz.f9.params.toList args.toList ds p:=hA0
 rw [Tryz.params9] at hA hval
 obtain ⟨v0,vs0,d0,ds0,p0,q0,hargs,rfl,rfl,h0,r0⟩:=trodAll_cons hA
 obtain ⟨v1,vs1,d1,ds1,p1,q1,rfl,rfl,rfl,h1,r1⟩:=trodAll_cons r0
 obtain ⟨rfl,rfl,rfl⟩:=trodAll_nil r1
 obtain rfl : args = #[v0,v1]:=by cases args;simp_all
 obtain ⟨rfl,rfl⟩:=trodVars_none hV
 obtain ⟨a0,len0,cap0,rfl⟩:=okWide_slice Tryz.underlying38 (hval 0 38 v0 rfl rfl)
 have k0:=h0
 have lt0 : ∀ x ∈ p0,x.block < W.heap.size:=by obtain ⟨m,hm⟩:=k0;exact DataW.trod_lt m _ _ _ hm
 obtain ⟨fu0,hf0⟩:=h0
 obtain ⟨A0,c0,l0,hcs0,hc0,hC0⟩:=open_reqs hf0
 simp [Value.cells] at hcs0
 obtain ⟨rfl,rfl,rfl⟩:=hcs0
 obtain ⟨a1,len1,cap1,rfl⟩:=okWide_slice Tryz.underlying39 (hval 1 39 v1 rfl rfl)
 have k1:=h1
 have lt1 : ∀ x ∈ p1,x.block < W.heap.size:=by obtain ⟨m,hm⟩:=k1;exact DataW.trod_lt m _ _ _ hm
 obtain ⟨fu1,hf1⟩:=h1
 obtain ⟨A1,c1,l1,hcs1,hc1,_,hC1⟩:=open_nodes hf1
 simp [Value.cells] at hcs1
 obtain ⟨rfl,rfl,rfl⟩:=hcs1
 clear hA0 hval0 hsz0
 obtain ⟨K,hK⟩:=again_f l0 l1 hC0.2.1 hC1.2.1 (nodes_len hC1)
 refine (Lw17_MvsAgain.calls K _ _ l0 _ _ l1 true W hC0 hc0 hC1 hc1 (hK K (Nat.le_refl _)) rfl hE).mono fun e W' ⟨he,bel⟩ => ?_
 subst he
 exact ⟨_,rfl,_,_,_,[],_,[],hW',trodAll_mk1 (shut_bool Tryz.underlying4 _),(trodAll_cons_mk (Below.trod laidOut_here q10_ (of_decide_eq_true q10_) k0 bel lt0) (trodAll_cons_mk (Below.trod laidOut_here q10_ (of_decide_eq_true q10_) k1 bel lt1) trodAll_mk0)),rfl,bel.frame _,fun h => by cases h⟩
theorem mvsAgain_row : Rows.MvsAgainSaid :=
 OpenClaim.holds_of_wide 9 Tryz.f9 rfl rfl rfl rfl rfl rfl rfl ⟨rfl,rfl,rfl,rfl,rfl⟩ rfl rfl rfl rfl rfl q10_ Tryz.func9 q10_
  (of_decide_eq_true q10_) (by unfold Func.isWrapper;first | (rw [if_pos q56_];kernel_rfl) | (rw [if_neg q56_];exact ⟨rfl,rfl⟩))
  (fun os started H enc _ => mvsAgain_lifted os started H enc)
end Go.Proofs.YtennhpoemdaghaaGreatDoor.P
namespace Go.Proofs.YtennhpoemdaghaaGreatDoor
open Go
theorem mvsAgain_card : Rows.MvsAgainCardSaid :=
 Claim7.holds_tied_plain_at .later [] [.data,.data,.data,.data,.sentinel,.sentinel,.pinned] true (true, "6b7efa70bd55ada926e5eb756efdd62c05decfa7f1cf08258461f7006b2a8a09") true
  P.mvsAgain_row (fun _ h => by cases h) q10_ (fun _ h => by cases h) mvsAgain_row_tie rfl ⟨rfl,rfl⟩ q10_ rfl
  (fun f fn hf hfn => by
   obtain rfl : f = 9:=Option.some.inj ((show Tryz.prog.funcNamed "armada/armadalaw17.MvsAgain" = some 9 by kernel_rfl).symm.trans hf) |>.symm
   obtain rfl : fn = Tryz.f9:=(Option.some.inj (Tryz.func9.symm.trans hfn)).symm
   exact ⟨by kernel_rfl,fun j t ht => by
    rw [Tryz.params9] at ht
    have hm : t ∈ [38,39]:=by simpa using Array.mem_of_getElem? ht
    have hall : ([38,39].all fun u => !Tryz.prog.wantsStandIn u) = true:=by kernel_rfl
    exact (show Tryz.prog.wantsStandIn t = false by simpa using List.all_eq_true.1 hall t hm)⟩)
  q10_
end Go.Proofs.YtennhpoemdaghaaGreatDoor
end
