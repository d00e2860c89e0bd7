/- MvsRoots: called with any two lists of requirements and any nodes, the law returns true, and its arguments read behind the call as they read before. Proved of the given program, for every input that can be read as data; the package-level variables that the card lists begin as the program's text lays them (the card ties them to it); nothing else is assumed. -/
import Derived.Test.YtennhpoemdaghaaGreatDoorRoots4
import Derived.Test.YtennhpoemdaghaaGreatDoorRows
import Derived.Test.YtennhpoemdaghaaGreatDoorTie
import Derived.Test.YtennhpoemdaghaaGreatDoorCards
set_option linter.unusedVariables false
set_option linter.unusedSimpArgs false
section
namespace Go.Proofs.YtennhpoemdaghaaGreatDoor.P
open Go Go.RowKit Go.Proofs.YtennhpoemdaghaaGreatDoorW.PrintWords Go.Proofs.YtennhpoemdaghaaGreatDoorW.PrintLast Go.Proofs.YtennhpoemdaghaaGreatDoorW.PrintMore
set_option maxRecDepth 100000 in
set_option maxHeartbeats 4000000 in
theorem up1_calls (y r : Req) (g3 : Nat) (w : World) (hb3 : w.heap[g3]? = some (.cells #[.string r.f0,.int .i64 r.f1.f0,.int .i64 r.f1.f1,.int .i64 r.f1.f2,.string r.f1.f3,.string r.f1.f4] 41 (0,0))) :
  Calls Tryz.prog 61 #[.agg #[.string y.f0,.int .i64 y.f1.f0,.int .i64 y.f1.f1,.int .i64 y.f1.f2,.string y.f1.f3,.string y.f1.f4],.pointer (some ⟨g3,0,none⟩)] w fun e w' => e = .returned (.bool (y.f0.toList == r.f0.toList)) ∧ Below w.heap.size w w':=by
 have BK:=Aside0.mk hb3
 have HB:=Aside0.mk (Below.refl w.heap.size w)
 clear hb3
 go_enter Tryz.func61,Tryz.ntmps61
 go_wp2_with (first | ((with_reducible refine gate_dst (N:=2) rfl ?_);refine box_event ?hg (N:=2) ?hd (cs:=#[.string y.f0,.int .i64 y.f1.f0,.int .i64 y.f1.f1,.int .i64 y.f1.f2,.string y.f1.f3,.string y.f1.f4]) (t:=41) ?hr ?_;(case hd => rfl);(case hg => rfl);(case hr => first | (go_simp;done) | (go_simp;rfl));intro g2 hg_ w2 hbox hb_;clear hg_;replace BK:=Aside0.mk (blk_below BK.out hb_);replace HB:=Aside0.mk (below_then HB.out HB.out.size hb_);have B2:=Aside0.mk hbox;clear hbox hb_;have hz0 : w2.cell? ⟨g3,0,none⟩ = some _:=(blk_cell BK.out 0).trans rfl;have hz1 : w2.cell? ⟨g3,1,none⟩ = some _:=(blk_cell BK.out 1).trans rfl;have hz2 : w2.cell? ⟨g3,2,none⟩ = some _:=(blk_cell BK.out 2).trans rfl;have hz3 : w2.cell? ⟨g3,3,none⟩ = some _:=(blk_cell BK.out 3).trans rfl;have hz4 : w2.cell? ⟨g3,4,none⟩ = some _:=(blk_cell BK.out 4).trans rfl;have hz5 : w2.cell? ⟨g3,5,none⟩ = some _:=(blk_cell BK.out 5).trans rfl;have hy0 : w2.cell? ⟨g2,0,none⟩ = some _:=(blk_cell B2.out 0).trans rfl;have hy1 : w2.cell? ⟨g2,1,none⟩ = some _:=(blk_cell B2.out 1).trans rfl;have hy2 : w2.cell? ⟨g2,2,none⟩ = some _:=(blk_cell B2.out 2).trans rfl;have hy3 : w2.cell? ⟨g2,3,none⟩ = some _:=(blk_cell B2.out 3).trans rfl;have hy4 : w2.cell? ⟨g2,4,none⟩ = some _:=(blk_cell B2.out 4).trans rfl;have hy5 : w2.cell? ⟨g2,5,none⟩ = some _:=(blk_cell B2.out 5).trans rfl))
 go_ret
 exact ⟨by first | rfl | (simp;done),HB.out⟩
def upP (root : List Req) (r : Req) : Option (List Req) :=
 if root.length ≤ 1000000 then (mayP r).bind fun m => if m then
  (match (idxP (fun y : Req => y.f0.toList == r.f0.toList) root 0) with
  | .negSucc _ => some (root ++ [r])
  | .ofNat j => if h : j < root.length then (mayP root[j]).bind fun mj => if mj then (cmpP root[j] r).bind fun c => some (if c < 0 then root.set j r else root) else some (root.set j r) else none)
  else some root
 else none
theorem idxP_cases {α : Type} (pred : α → Bool) : ∀ (l : List α) (i : Nat),idxP pred l i = -1 ∨ ∃ j : Nat,idxP pred l i = (j : Int)
 | [],_ => .inl rfl
 | x :: xs,i => by
  rw [idxP]
  cases pred x
  ·simpa using idxP_cases pred xs (i + 1)
  ·exact .inr ⟨i,by simp⟩
theorem elemZ {w : World} {ad : Addr} {l : List Req} {z : Req} (h : Kd.C k41 w (some ad) l.length l) (j : Nat) (hj : j < l.length) (hz : rd_T41 l (j : Int) = z) :
  w.cell? (ad.add (j * 6)) = some (.string z.f0) ∧ w.cell? ⟨(ad.add (j * 6)).block,(ad.add (j * 6)).off + 1,none⟩ = some (.int .i64 z.f1.f0) ∧ w.cell? ⟨(ad.add (j * 6)).block,(ad.add (j * 6)).off + 2,none⟩ = some (.int .i64 z.f1.f1) ∧ w.cell? ⟨(ad.add (j * 6)).block,(ad.add (j * 6)).off + 3,none⟩ = some (.int .i64 z.f1.f2) ∧ w.cell? ⟨(ad.add (j * 6)).block,(ad.add (j * 6)).off + 4,none⟩ = some (.string z.f1.f3) ∧ w.cell? ⟨(ad.add (j * 6)).block,(ad.add (j * 6)).off + 5,none⟩ = some (.string z.f1.f4):=by
 obtain ⟨ad',e1,h0,h1,h2,h3,h4,h5⟩:=at_T41 h (j : Int) q7_ q7_
 cases e1
 simp only [Int.toNat_natCast,hz] at h0 h1 h2 h3 h4 h5
 exact ⟨h0,h1,h2,h3,h4,h5⟩
theorem addr0 (gg n : Nat) : Addr.add ⟨gg,0,none⟩ n = ⟨gg,n,none⟩:=by
 cases n with
 | zero => rfl
 | succ n => simp [Addr.add]
set_option maxRecDepth 100000 in
set_option maxHeartbeats 8000000 in
theorem up_calls (A0 : Option Addr) (c0 : Nat) (l0 : List Req) (r : Req) (res : List Req) (w : World) (hr0 : Kd.C k41 w A0 l0.length l0) (hc0 : l0.length ≤ c0) (h : upP l0 r = some res) (hG : Env w) :
  Calls Tryz.prog 29 #[.slice A0 l0.length c0,.agg #[.string r.f0,.int .i64 r.f1.f0,.int .i64 r.f1.f1,.int .i64 r.f1.f2,.string r.f1.f3,.string r.f1.f4]] w fun e w' => ∃ v0_ : Value,e = .returned (v0_) ∧ Kd.R k41 41 w' w.heap.size (fun _ => True) v0_ res ∧ Below w.heap.size w w':=by
 unfold upP at h
 split at h
 case isFalse => exact absurd h q28_
 case isTrue hsz =>
 have HR0:=Aside0.mk hr0
 have HC0:=Aside0.mk hc0
 have HE:=Aside0.mk hG
 clear hr0 hc0 hG
 obtain ⟨m,hmay,h⟩:=Option.bind_eq_some_iff.mp h
 replace hmay : mvs_may.f fuelR r.f0 r.f1.f0 r.f1.f1 r.f1.f2 r.f1.f3 r.f1.f4 = some m:=hmay
 cases m with
 | false =>
  obtain rfl:=Option.some.inj h
  go_enter Tryz.func29,Tryz.ntmps29
  go_wp2_with (first | ((with_reducible refine gate_dst (N:=3) rfl ?_);refine box_event ?hg (N:=3) ?hd (cs:=#[.string r.f0,.int .i64 r.f1.f0,.int .i64 r.f1.f1,.int .i64 r.f1.f2,.string r.f1.f3,.string r.f1.f4]) (t:=41) ?hr ?_;(case hd => rfl);(case hg => rfl);(case hr => first | (go_simp;done) | (go_simp;rfl));intro g3 hg_ w3 hbox hb_;have G3:=Aside0.mk ((by rw [hg_];exact Nat.le_refl _) : w.heap.size ≤ g3);clear hg_;have HB:=Aside0.mk hb_;have BK:=Aside0.mk hbox;clear hbox hb_) | (go_at_call 58;refine (slices_Clone_apiReq.calls A0 c0 l0 l0 _ (Kd.C_below HR0.out HB.out) HC0.out (if_pos hsz)).mono ?_;rintro e w4 ⟨v4,rfl,hR4,hb4⟩;have HO:=Aside0.mk (Kd.R_lower (Kd.R_mono (Kd.R_bound hR4) (fun k hk => (by have h_:=hk.2.1;have h2_:=blk_lt BK.out;omega : k ≠ g3))) HB.out.size);replace BK:=Aside0.mk (blk_below BK.out hb4);replace HB:=Aside0.mk (below_then HB.out HB.out.size hb4);clear hR4 hb4;obtain ⟨A4,c4,rfl⟩:=Kd.R_slice HO.out;have hz0 : w4.cell? ⟨g3,0,none⟩ = some _:=(blk_cell BK.out 0).trans rfl;have hz1 : w4.cell? ⟨g3,1,none⟩ = some _:=(blk_cell BK.out 1).trans rfl;have hz2 : w4.cell? ⟨g3,2,none⟩ = some _:=(blk_cell BK.out 2).trans rfl;have hz3 : w4.cell? ⟨g3,3,none⟩ = some _:=(blk_cell BK.out 3).trans rfl;have hz4 : w4.cell? ⟨g3,4,none⟩ = some _:=(blk_cell BK.out 4).trans rfl;have hz5 : w4.cell? ⟨g3,5,none⟩ = some _:=(blk_cell BK.out 5).trans rfl) | (go_at_call 59;(with_reducible refine (mvs_may.calls fuelR r.f0 r.f1.f0 r.f1.f1 r.f1.f2 r.f1.f3 r.f1.f4 false _ hmay ?sideG).mono ?_);(case sideG => exact Env.below HE.out HB.out);rintro e wma ⟨rfl,hb_⟩;replace BK:=Aside0.mk (blk_below BK.out hb_);replace HO:=Aside0.mk (Kd.R_below HO.out hb_);replace HB:=Aside0.mk (below_then HB.out HB.out.size hb_);clear hb_;have hma0 : wma.cell? ⟨g3,0,none⟩ = some _:=(blk_cell BK.out 0).trans rfl;have hma1 : wma.cell? ⟨g3,1,none⟩ = some _:=(blk_cell BK.out 1).trans rfl;have hma2 : wma.cell? ⟨g3,2,none⟩ = some _:=(blk_cell BK.out 2).trans rfl;have hma3 : wma.cell? ⟨g3,3,none⟩ = some _:=(blk_cell BK.out 3).trans rfl;have hma4 : wma.cell? ⟨g3,4,none⟩ = some _:=(blk_cell BK.out 4).trans rfl;have hma5 : wma.cell? ⟨g3,5,none⟩ = some _:=(blk_cell BK.out 5).trans rfl))
  go_ret
  exact ⟨_,rfl,Kd.R_mono HO.out (fun _ _ => trivial),HB.out⟩
 | true =>
  rw [if_pos rfl] at h
  rcases idxP_cases (fun y : Req => y.f0.toList == r.f0.toList) l0 0 with hix | ⟨j,hix⟩
  ·rw [hix] at h
   obtain rfl:=Option.some.inj h
   go_enter Tryz.func29,Tryz.ntmps29
   go_wp2_with (first | ((with_reducible refine gate_dst (N:=3) rfl ?_);refine box_event ?hg (N:=3) ?hd (cs:=#[.string r.f0,.int .i64 r.f1.f0,.int .i64 r.f1.f1,.int .i64 r.f1.f2,.string r.f1.f3,.string r.f1.f4]) (t:=41) ?hr ?_;(case hd => rfl);(case hg => rfl);(case hr => first | (go_simp;done) | (go_simp;rfl));intro g3 hg_ w3 hbox hb_;have G3:=Aside0.mk ((by rw [hg_];exact Nat.le_refl _) : w.heap.size ≤ g3);clear hg_;have HB:=Aside0.mk hb_;have BK:=Aside0.mk hbox;clear hbox hb_) | (go_at_call 58;refine (slices_Clone_apiReq.calls A0 c0 l0 l0 _ (Kd.C_below HR0.out HB.out) HC0.out (if_pos hsz)).mono ?_;rintro e w4 ⟨v4,rfl,hR4,hb4⟩;have HO:=Aside0.mk (Kd.R_lower (Kd.R_mono (Kd.R_bound hR4) (fun k hk => (by have h_:=hk.2.1;have h2_:=blk_lt BK.out;omega : k ≠ g3))) HB.out.size);replace BK:=Aside0.mk (blk_below BK.out hb4);replace HB:=Aside0.mk (below_then HB.out HB.out.size hb4);clear hR4 hb4;obtain ⟨A4,c4,rfl⟩:=Kd.R_slice HO.out;have hz0 : w4.cell? ⟨g3,0,none⟩ = some _:=(blk_cell BK.out 0).trans rfl;have hz1 : w4.cell? ⟨g3,1,none⟩ = some _:=(blk_cell BK.out 1).trans rfl;have hz2 : w4.cell? ⟨g3,2,none⟩ = some _:=(blk_cell BK.out 2).trans rfl;have hz3 : w4.cell? ⟨g3,3,none⟩ = some _:=(blk_cell BK.out 3).trans rfl;have hz4 : w4.cell? ⟨g3,4,none⟩ = some _:=(blk_cell BK.out 4).trans rfl;have hz5 : w4.cell? ⟨g3,5,none⟩ = some _:=(blk_cell BK.out 5).trans rfl) | (go_at_call 59;(with_reducible refine (mvs_may.calls fuelR r.f0 r.f1.f0 r.f1.f1 r.f1.f2 r.f1.f3 r.f1.f4 true _ hmay ?sideG).mono ?_);(case sideG => exact Env.below HE.out HB.out);rintro e wma ⟨rfl,hb_⟩;replace BK:=Aside0.mk (blk_below BK.out hb_);replace HO:=Aside0.mk (Kd.R_below HO.out hb_);replace HB:=Aside0.mk (below_then HB.out HB.out.size hb_);clear hb_;have hma0 : wma.cell? ⟨g3,0,none⟩ = some _:=(blk_cell BK.out 0).trans rfl;have hma1 : wma.cell? ⟨g3,1,none⟩ = some _:=(blk_cell BK.out 1).trans rfl;have hma2 : wma.cell? ⟨g3,2,none⟩ = some _:=(blk_cell BK.out 2).trans rfl;have hma3 : wma.cell? ⟨g3,3,none⟩ = some _:=(blk_cell BK.out 3).trans rfl;have hma4 : wma.cell? ⟨g3,4,none⟩ = some _:=(blk_cell BK.out 4).trans rfl;have hma5 : wma.cell? ⟨g3,5,none⟩ = some _:=(blk_cell BK.out 5).trans rfl) | (go_at_call 60;(with_reducible refine (indexUp A4 c4 l0 g3 (fun y => y.f0.toList == r.f0.toList) _ (Kd.R_reads' HO.out).2.2 (Kd.R_reads' HO.out).2.1 ?cl).mono ?_);(case cl => exact fun y W hy hb => up1_calls y r g3 W (blk_below BK.out hb));rintro e w5 ⟨rfl,hb_⟩;replace BK:=Aside0.mk (blk_below BK.out hb_);replace HO:=Aside0.mk (Kd.R_below HO.out hb_);replace HB:=Aside0.mk (below_then HB.out HB.out.size hb_);clear hb_;rw [hix];have hi0 : w5.cell? ⟨g3,0,none⟩ = some _:=(blk_cell BK.out 0).trans rfl;have hi1 : w5.cell? ⟨g3,1,none⟩ = some _:=(blk_cell BK.out 1).trans rfl;have hi2 : w5.cell? ⟨g3,2,none⟩ = some _:=(blk_cell BK.out 2).trans rfl;have hi3 : w5.cell? ⟨g3,3,none⟩ = some _:=(blk_cell BK.out 3).trans rfl;have hi4 : w5.cell? ⟨g3,4,none⟩ = some _:=(blk_cell BK.out 4).trans rfl;have hi5 : w5.cell? ⟨g3,5,none⟩ = some _:=(blk_cell BK.out 5).trans rfl) | ((with_reducible refine gate_builtin (b:=.append) (xs:=#[.tmp 18,.tmp 20]) rfl ?_);at_builtin;refine Kd.R_append k41 (w0:=w) w.heap.size rfl (.tmp 18) (.tmp 20) 38 41 (.agg #[.string (⟨#[]⟩ : ByteArray),.int .i64 0,.int .i64 0,.int .i64 0,.string (⟨#[]⟩ : ByteArray),.string (⟨#[]⟩ : ByteArray)]) 72 rfl Tryz.underlying38 info41 rfl q35_ q7_ (.slice A4 l0.length c4) l0 r [.string r.f0,.int .i64 r.f1.f0,.int .i64 r.f1.f1,.int .i64 r.f1.f2,.string r.f1.f3,.string r.f1.f4] (fun k => k ≠ g3) (fun k => k ≠ g3 ∧ some k ≠ (Value.slice A4 l0.length c4).ownBlock) rfl rfl (k41_mkM _ _ _ r) (fun _ hk => hk) ?aF HO.out HB.out HB.out.size q7_ ?_;(case aF => exact fun k hk => (by have:=blk_lt BK.out;omega));intro v7 w7 hR7 hB7 hg7 hat7))
   go_ret
   exact ⟨_,rfl,Kd.R_mono hR7 (fun _ _ => trivial),hB7⟩
  ·rw [hix] at h
   replace h : (if h : j < l0.length then (mayP l0[j]).bind fun mj => if mj then (cmpP l0[j] r).bind fun c => some (if c < 0 then l0.set j r else l0) else some (l0.set j r) else none) = some res:=h
   split at h
   case isFalse => exact absurd h q28_
   case isTrue hj =>
   obtain ⟨mj,hmj,h⟩:=Option.bind_eq_some_iff.mp h
   obtain ⟨z,hz⟩ : ∃ z,rd_T41 l0 (j : Int) = z:=⟨_,rfl⟩
   have hlz : l0[j] = z:=by rw [← hz];simp [rd_T41,hj]
   rw [hlz] at h hmj
   replace hmj : mvs_may.f fuelR z.f0 z.f1.f0 z.f1.f1 z.f1.f2 z.f1.f3 z.f1.f4 = some mj:=hmj
   have hg1 : ((j : Int) < (l0.length : Int)) = True:=eq_true q7_
   have hp1 : (0 ≤ (j : Int)) = True:=eq_true q7_
   have hn1 : ((j : Int) < 0) = False:=eq_false q7_
   go_enter Tryz.func29,Tryz.ntmps29
   go_upto_region 7 with (first | ((with_reducible refine gate_dst (N:=3) rfl ?_);refine box_event ?hg (N:=3) ?hd (cs:=#[.string r.f0,.int .i64 r.f1.f0,.int .i64 r.f1.f1,.int .i64 r.f1.f2,.string r.f1.f3,.string r.f1.f4]) (t:=41) ?hr ?_;(case hd => rfl);(case hg => rfl);(case hr => first | (go_simp;done) | (go_simp;rfl));intro g3 hg_ w3 hbox hb_;have G3:=Aside0.mk ((by rw [hg_];exact Nat.le_refl _) : w.heap.size ≤ g3);clear hg_;have HB:=Aside0.mk hb_;have BK:=Aside0.mk hbox;clear hbox hb_) | (go_at_call 58;refine (slices_Clone_apiReq.calls A0 c0 l0 l0 _ (Kd.C_below HR0.out HB.out) HC0.out (if_pos hsz)).mono ?_;rintro e w4 ⟨v4,rfl,hR4,hb4⟩;have HO:=Aside0.mk (Kd.R_lower (Kd.R_mono (Kd.R_bound hR4) (fun k hk => (by have h_:=hk.2.1;have h2_:=blk_lt BK.out;omega : k ≠ g3))) HB.out.size);replace BK:=Aside0.mk (blk_below BK.out hb4);replace HB:=Aside0.mk (below_then HB.out HB.out.size hb4);clear hR4 hb4;obtain ⟨A4,c4,rfl⟩:=Kd.R_slice HO.out;have hz0 : w4.cell? ⟨g3,0,none⟩ = some _:=(blk_cell BK.out 0).trans rfl;have hz1 : w4.cell? ⟨g3,1,none⟩ = some _:=(blk_cell BK.out 1).trans rfl;have hz2 : w4.cell? ⟨g3,2,none⟩ = some _:=(blk_cell BK.out 2).trans rfl;have hz3 : w4.cell? ⟨g3,3,none⟩ = some _:=(blk_cell BK.out 3).trans rfl;have hz4 : w4.cell? ⟨g3,4,none⟩ = some _:=(blk_cell BK.out 4).trans rfl;have hz5 : w4.cell? ⟨g3,5,none⟩ = some _:=(blk_cell BK.out 5).trans rfl) | (go_at_call 59;(with_reducible refine (mvs_may.calls fuelR r.f0 r.f1.f0 r.f1.f1 r.f1.f2 r.f1.f3 r.f1.f4 true _ hmay ?sideG).mono ?_);(case sideG => exact Env.below HE.out HB.out);rintro e wma ⟨rfl,hb_⟩;replace BK:=Aside0.mk (blk_below BK.out hb_);replace HO:=Aside0.mk (Kd.R_below HO.out hb_);replace HB:=Aside0.mk (below_then HB.out HB.out.size hb_);clear hb_;have hma0 : wma.cell? ⟨g3,0,none⟩ = some _:=(blk_cell BK.out 0).trans rfl;have hma1 : wma.cell? ⟨g3,1,none⟩ = some _:=(blk_cell BK.out 1).trans rfl;have hma2 : wma.cell? ⟨g3,2,none⟩ = some _:=(blk_cell BK.out 2).trans rfl;have hma3 : wma.cell? ⟨g3,3,none⟩ = some _:=(blk_cell BK.out 3).trans rfl;have hma4 : wma.cell? ⟨g3,4,none⟩ = some _:=(blk_cell BK.out 4).trans rfl;have hma5 : wma.cell? ⟨g3,5,none⟩ = some _:=(blk_cell BK.out 5).trans rfl) | (go_at_call 60;(with_reducible refine (indexUp A4 c4 l0 g3 (fun y => y.f0.toList == r.f0.toList) _ (Kd.R_reads' HO.out).2.2 (Kd.R_reads' HO.out).2.1 ?cl).mono ?_);(case cl => exact fun y W hy hb => up1_calls y r g3 W (blk_below BK.out hb));rintro e w5 ⟨rfl,hb_⟩;replace BK:=Aside0.mk (blk_below BK.out hb_);replace HO:=Aside0.mk (Kd.R_below HO.out hb_);replace HB:=Aside0.mk (below_then HB.out HB.out.size hb_);clear hb_;rw [hix];have hi0 : w5.cell? ⟨g3,0,none⟩ = some _:=(blk_cell BK.out 0).trans rfl;have hi1 : w5.cell? ⟨g3,1,none⟩ = some _:=(blk_cell BK.out 1).trans rfl;have hi2 : w5.cell? ⟨g3,2,none⟩ = some _:=(blk_cell BK.out 2).trans rfl;have hi3 : w5.cell? ⟨g3,3,none⟩ = some _:=(blk_cell BK.out 3).trans rfl;have hi4 : w5.cell? ⟨g3,4,none⟩ = some _:=(blk_cell BK.out 4).trans rfl;have hi5 : w5.cell? ⟨g3,5,none⟩ = some _:=(blk_cell BK.out 5).trans rfl))
   obtain ⟨gg,hgg⟩ : ∃ gg,A4 = some ⟨gg,0,none⟩:=by
    obtain ⟨_,inner,⟨_,ho⟩,_⟩:=HO.out
    rcases ho with ⟨hv,hn⟩ | ⟨gg,cap,cur,hv,_⟩
    ·omega
    ·injection hv with h1 _ _
     exact ⟨gg,h1⟩
   obtain ⟨ad,had⟩ : ∃ ad : Addr,ad = ⟨gg,0,none⟩:=⟨_,rfl⟩
   rw [← had] at hgg
   subst hgg
   replace had:=Aside0.mk had
   try go_frame
   replace BK:=Aside0.mk (blk_drew BK.out);replace HO:=Aside0.mk (Kd.R_drew HO.out);replace HB:=Aside0.mk (below_drew HB.out)
   cases mj with
   | false =>
    obtain rfl:=Option.some.inj h
    clear h
    obtain ⟨y0,y1,y2,y3,y4,y5⟩:=elemZ (Kd.R_reads' HO.out).2.2 j hj hz
    refine start_ (n:=18) (S:=fun w' => w'.cell? ⟨g3,0,none⟩ = some (.string r.f0) ∧ w'.cell? ⟨g3,1,none⟩ = some (.int .i64 r.f1.f0) ∧ w'.cell? ⟨g3,2,none⟩ = some (.int .i64 r.f1.f1) ∧ w'.cell? ⟨g3,3,none⟩ = some (.int .i64 r.f1.f2) ∧ w'.cell? ⟨g3,4,none⟩ = some (.string r.f1.f3) ∧ w'.cell? ⟨g3,5,none⟩ = some (.string r.f1.f4) ∧ w'.cell? (ad.add (j * 6)) = some (.string z.f0) ∧ w'.cell? ⟨(ad.add (j * 6)).block,(ad.add (j * 6)).off + 1,none⟩ = some (.int .i64 z.f1.f0) ∧ w'.cell? ⟨(ad.add (j * 6)).block,(ad.add (j * 6)).off + 2,none⟩ = some (.int .i64 z.f1.f1) ∧ w'.cell? ⟨(ad.add (j * 6)).block,(ad.add (j * 6)).off + 3,none⟩ = some (.int .i64 z.f1.f2) ∧ w'.cell? ⟨(ad.add (j * 6)).block,(ad.add (j * 6)).off + 4,none⟩ = some (.string z.f1.f3) ∧ w'.cell? ⟨(ad.add (j * 6)).block,(ad.add (j * 6)).off + 5,none⟩ = some (.string z.f1.f4)) (ds:=[]) #[false,false,false,false,false,false,false,false,false,false,false,false,false,false,false,false,false,false] q3_ rfl rfl ⟨(blk_cell BK.out 0).trans rfl,(blk_cell BK.out 1).trans rfl,(blk_cell BK.out 2).trans rfl,(blk_cell BK.out 3).trans rfl,(blk_cell BK.out 4).trans rfl,(blk_cell BK.out 5).trans rfl,y0,y1,y2,y3,y4,y5⟩ (fun hHeld => ?_)
    clear y0 y1 y2 y3 y4 y5
    refine pure_ (i:=0) (N:=some 23) (v:=?_) (a':=?_) #[true,false,false,false,false,false,false,false,false,false,false,false,false,false,false,false,false,false] rfl rfl q3_ (fun _ _ _ h => h) (Or.inl ⟨by rfl,?_⟩) ?_ ?_
    rotate_left
    ·intro w'
     go_simp
     with_reducible rfl
    rotate_left
    ·simp only [Act.put,List.setIfInBounds_toArray,List.set_cons_zero,List.set_cons_succ]
     rfl
    refine pure_ (i:=1) (N:=some 24) (v:=?_) (a':=?_) #[true,true,false,false,false,false,false,false,false,false,false,false,false,false,false,false,false,false] rfl rfl q3_ (fun _ _ _ h => h) (Or.inl ⟨by rfl,?_⟩) ?_ ?_
    rotate_left
    ·intro w'
     go_simp
     with_reducible rfl
    rotate_left
    ·simp only [Act.put,List.setIfInBounds_toArray,List.set_cons_zero,List.set_cons_succ]
     rfl
    refine pure_ (i:=2) (N:=some 25) (v:=?_) (a':=?_) #[true,true,true,false,false,false,false,false,false,false,false,false,false,false,false,false,false,false] rfl rfl q3_ (fun _ _ _ h => h) (Or.inl ⟨by rfl,?_⟩) ?_ ?_
    rotate_left
    ·intro w'
     go_simp
     with_reducible rfl
    rotate_left
    ·simp only [Act.put,List.setIfInBounds_toArray,List.set_cons_zero,List.set_cons_succ]
     rfl
    refine take_ (i:=3) (N:=some 26) (v:=?_) (a':=?_) #[true,true,true,true,false,false,false,false,false,false,false,false,false,false,false,false,false,false] rfl rfl q3_ (fun _ _ _ h => h) (Or.inl ⟨by rfl,?_⟩) hHeld ?_ ?_
    rotate_left
    ·rintro w' ⟨s0,s1,s2,s3,s4,s5,s6,s7,s8,s9,s10,s11⟩
     go_simp
     with_reducible rfl
    rotate_left
    ·simp only [Act.put,List.setIfInBounds_toArray,List.set_cons_zero,List.set_cons_succ]
     rfl
    refine one_ (i:=4) (N:=some 27) #[true,true,true,true,true,false,false,false,false,false,false,false,false,false,false,false,false,false] rfl rfl q3_ q35_ (fun K hK => ?_)
    refine goes_ Tryz.func59 q3_ rfl #[.agg #[.string z.f0,.int .i64 z.f1.f0,.int .i64 z.f1.f1,.int .i64 z.f1.f2,.string z.f1.f3,.string z.f1.f4]] q45_ rfl rfl q21_ ?_
    (with_reducible refine (mvs_may.calls fuelR z.f0 z.f1.f0 z.f1.f1 z.f1.f2 z.f1.f3 z.f1.f4 false _ hmj ?sideG).mono ?_)
    (case sideG => exact Env.below HE.out HB.out)
    rintro e wq ⟨rfl,hb_⟩
    refine ⟨_,rfl,?_⟩
    replace BK:=Aside0.mk (blk_below BK.out hb_);replace HO:=Aside0.mk (Kd.R_below HO.out hb_);replace HB:=Aside0.mk (below_then HB.out HB.out.size hb_);clear hb_
    obtain ⟨y0,y1,y2,y3,y4,y5⟩:=elemZ (Kd.R_reads' HO.out).2.2 j hj hz
    refine hK.out _ _ ⟨(blk_cell BK.out 0).trans rfl,(blk_cell BK.out 1).trans rfl,(blk_cell BK.out 2).trans rfl,(blk_cell BK.out 3).trans rfl,(blk_cell BK.out 4).trans rfl,(blk_cell BK.out 5).trans rfl,y0,y1,y2,y3,y4,y5⟩ (fun hHeld => ?_)
    clear hK K y0 y1 y2 y3 y4 y5
    refine norm_ (a':=?_) ?_ ?_
    rotate_left
    ·show Act.put _ _ _ = _
     simp only [Act.put,List.setIfInBounds_toArray,List.set_cons_zero,List.set_cons_succ]
     rfl
    refine pure_ (i:=5) (N:=some 28) (v:=?_) (a':=?_) #[true,true,true,true,true,true,false,false,false,false,false,false,false,false,false,false,false,false] rfl rfl q3_ (fun _ _ _ h => h) (Or.inl ⟨by rfl,?_⟩) ?_ ?_
    rotate_left
    ·intro w'
     go_simp
     with_reducible rfl
    rotate_left
    ·simp only [Act.put,List.setIfInBounds_toArray,List.set_cons_zero,List.set_cons_succ]
     rfl
    refine pure_ (i:=6) (N:=some 29) (v:=?_) (a':=?_) #[true,true,true,true,true,true,true,false,false,false,false,false,false,false,false,false,false,false] rfl rfl q3_ (fun _ _ _ h => h) (Or.inl ⟨by rfl,?_⟩) ?_ ?_
    rotate_left
    ·intro w'
     go_simp
     with_reducible rfl
    rotate_left
    ·simp only [Act.put,List.setIfInBounds_toArray,List.set_cons_zero,List.set_cons_succ]
     rfl
    refine pure_ (i:=7) (N:=some 30) (v:=undef) (a':=?_) #[true,true,true,true,true,true,true,true,false,false,false,false,false,false,false,false,false,false] rfl rfl q3_ (fun _ _ _ h => h) (Or.inr ⟨by rfl,rfl⟩) ?_ ?_
    rotate_left
    ·simp only [Act.put,List.setIfInBounds_toArray,List.set_cons_zero,List.set_cons_succ]
     rfl
    refine pure_ (i:=8) (N:=some 31) (v:=undef) (a':=?_) #[true,true,true,true,true,true,true,true,true,false,false,false,false,false,false,false,false,false] rfl rfl q3_ (fun _ _ _ h => h) (Or.inr ⟨by rfl,rfl⟩) ?_ ?_
    rotate_left
    ·simp only [Act.put,List.setIfInBounds_toArray,List.set_cons_zero,List.set_cons_succ]
     rfl
    refine pure_ (i:=9) (N:=some 32) (v:=undef) (a':=?_) #[true,true,true,true,true,true,true,true,true,true,false,false,false,false,false,false,false,false] rfl rfl q3_ (fun _ _ _ h => h) (Or.inr ⟨by rfl,rfl⟩) ?_ ?_
    rotate_left
    ·simp only [Act.put,List.setIfInBounds_toArray,List.set_cons_zero,List.set_cons_succ]
     rfl
    refine pure_ (i:=10) (N:=some 33) (v:=undef) (a':=?_) #[true,true,true,true,true,true,true,true,true,true,true,false,false,false,false,false,false,false] rfl rfl q3_ (fun _ _ _ h => h) (Or.inr ⟨by rfl,rfl⟩) ?_ ?_
    rotate_left
    ·simp only [Act.put,List.setIfInBounds_toArray,List.set_cons_zero,List.set_cons_succ]
     rfl
    refine pure_ (i:=11) (N:=some 34) (v:=undef) (a':=?_) #[true,true,true,true,true,true,true,true,true,true,true,true,false,false,false,false,false,false] rfl rfl q3_ (fun _ _ _ h => h) (Or.inr ⟨by rfl,rfl⟩) ?_ ?_
    rotate_left
    ·simp only [Act.put,List.setIfInBounds_toArray,List.set_cons_zero,List.set_cons_succ]
     rfl
    refine pure_ (i:=12) (N:=some 35) (v:=undef) (a':=?_) #[true,true,true,true,true,true,true,true,true,true,true,true,true,false,false,false,false,false] rfl rfl q3_ (fun _ _ _ h => h) (Or.inr ⟨by rfl,rfl⟩) ?_ ?_
    rotate_left
    ·simp only [Act.put,List.setIfInBounds_toArray,List.set_cons_zero,List.set_cons_succ]
     rfl
    refine pure_ (i:=13) (N:=some 36) (v:=undef) (a':=?_) #[true,true,true,true,true,true,true,true,true,true,true,true,true,true,false,false,false,false] rfl rfl q3_ (fun _ _ _ h => h) (Or.inr ⟨by rfl,rfl⟩) ?_ ?_
    rotate_left
    ·simp only [Act.put,List.setIfInBounds_toArray,List.set_cons_zero,List.set_cons_succ]
     rfl
    refine pure_ (i:=14) (N:=some 37) (v:=undef) (a':=?_) #[true,true,true,true,true,true,true,true,true,true,true,true,true,true,true,false,false,false] rfl rfl q3_ (fun _ _ _ h => h) (Or.inr ⟨by rfl,rfl⟩) ?_ ?_
    rotate_left
    ·simp only [Act.put,List.setIfInBounds_toArray,List.set_cons_zero,List.set_cons_succ]
     rfl
    refine pure_ (i:=15) (N:=some 38) (v:=undef) (a':=?_) #[true,true,true,true,true,true,true,true,true,true,true,true,true,true,true,true,false,false] rfl rfl q3_ (fun _ _ _ h => h) (Or.inr ⟨by rfl,rfl⟩) ?_ ?_
    rotate_left
    ·simp only [Act.put,List.setIfInBounds_toArray,List.set_cons_zero,List.set_cons_succ]
     rfl
    refine pure_ (i:=16) (N:=some 39) (v:=?_) (a':=?_) #[true,true,true,true,true,true,true,true,true,true,true,true,true,true,true,true,true,false] rfl rfl q3_ (fun _ _ _ h => h) (Or.inl ⟨by rfl,?_⟩) ?_ ?_
    rotate_left
    ·intro w'
     go_simp
     with_reducible rfl
    rotate_left
    ·simp only [Act.put,List.setIfInBounds_toArray,List.set_cons_zero,List.set_cons_succ]
     rfl
    refine pure_ (i:=17) (N:=some 22) (v:=?_) (a':=?_) #[true,true,true,true,true,true,true,true,true,true,true,true,true,true,true,true,true,true] rfl rfl q3_ (fun _ _ _ h => h) (Or.inl ⟨by rfl,?_⟩) ?_ ?_
    rotate_left
    ·intro w'
     go_simp
     with_reducible rfl
    rotate_left
    ·simp only [Act.put,List.setIfInBounds_toArray,List.set_cons_zero,List.set_cons_succ]
     rfl
    refine done_ q3_ ?_
    obtain rfl:=had.out
    obtain ⟨y0,y1,y2,y3,y4,y5⟩:=elemZ (Kd.R_reads' HO.out).2.2 j hj hz
    simp only [addr0] at y0 y1 y2 y3 y4 y5
    have hccZ : ∀ (q : Nat) (u : Value),[.string z.f0,.int .i64 z.f1.f0,.int .i64 z.f1.f1,.int .i64 z.f1.f2,.string z.f1.f3,.string z.f1.f4][q]? = some u → wq.cell? ⟨gg,(j : Int).toNat * 6 + q,none⟩ = some u:=by
     intro q u hq
     rw [Int.toNat_natCast]
     match q,hq with
     | 0,hq => exact y0.trans hq
     | 1,hq => exact y1.trans hq
     | 2,hq => exact y2.trans hq
     | 3,hq => exact y3.trans hq
     | 4,hq => exact y4.trans hq
     | 5,hq => exact y5.trans hq
     | q + 6,hq => exact absurd hq q28_
    have hs0 : wq.cell? ⟨g3,0,none⟩ = some _:=(blk_cell BK.out 0).trans rfl
    have hs1 : wq.cell? ⟨g3,1,none⟩ = some _:=(blk_cell BK.out 1).trans rfl
    have hs2 : wq.cell? ⟨g3,2,none⟩ = some _:=(blk_cell BK.out 2).trans rfl
    have hs3 : wq.cell? ⟨g3,3,none⟩ = some _:=(blk_cell BK.out 3).trans rfl
    have hs4 : wq.cell? ⟨g3,4,none⟩ = some _:=(blk_cell BK.out 4).trans rfl
    have hs5 : wq.cell? ⟨g3,5,none⟩ = some _:=(blk_cell BK.out 5).trans rfl
    clear y0 y1 y2 y3 y4 y5
    go_wp2_with (first | ((with_reducible refine gate_ (.store 41 (.tmp 43) (.tmp 42)) rfl ?_);refine Kd.R_store k41 (w0:=w) w.heap.size rfl rfl 41 (.tmp 43) (.tmp 42) rfl 41 (g:=gg) (o':=j * 6) (j : Int) 0 l0 r (.agg #[.string r.f0,.int .i64 r.f1.f0,.int .i64 r.f1.f1,.int .i64 r.f1.f2,.string r.f1.f3,.string r.f1.f4]) [.string r.f0,.int .i64 r.f1.f0,.int .i64 r.f1.f1,.int .i64 r.f1.f2,.string r.f1.f3,.string r.f1.f4] [.string z.f0,.int .i64 z.f1.f0,.int .i64 z.f1.f1,.int .i64 z.f1.f2,.string z.f1.f3,.string z.f1.f4] (fun k => k ≠ g3) (fun k => k ≠ g3 ∧ k ≠ gg) rfl (by show j * 6 = (j : Int).toNat * 6 + 0;omega) rfl rfl q3_ q26_ HO.out q7_ q7_ rfl ?hcc (Nat.le_refl 6) (k41_mkM _ _ _ r) (fun k hk => hk) HB.out ?_;(case hcc => exact hccZ);intro w9 hR9 hB9 hg9))
    go_ret
    exact ⟨_,rfl,Kd.R_mono hR9 (fun _ _ => trivial),hB9⟩
   | true =>
    rw [if_pos rfl] at h
    obtain ⟨c,hcmp,h⟩:=Option.bind_eq_some_iff.mp h
    replace hcmp : ver_Compare.f fuelR z.f1.f0 z.f1.f1 z.f1.f2 z.f1.f3 z.f1.f4 r.f1.f0 r.f1.f1 r.f1.f2 r.f1.f3 r.f1.f4 = some c:=hcmp
    by_cases hc0 : c < 0
    ·have hcc : (c < 0) = True:=eq_true hc0
     rw [if_pos hc0] at h
     obtain rfl:=Option.some.inj h
     clear h
     obtain ⟨y0,y1,y2,y3,y4,y5⟩:=elemZ (Kd.R_reads' HO.out).2.2 j hj hz
     refine start_ (n:=18) (S:=fun w' => w'.cell? ⟨g3,0,none⟩ = some (.string r.f0) ∧ w'.cell? ⟨g3,1,none⟩ = some (.int .i64 r.f1.f0) ∧ w'.cell? ⟨g3,2,none⟩ = some (.int .i64 r.f1.f1) ∧ w'.cell? ⟨g3,3,none⟩ = some (.int .i64 r.f1.f2) ∧ w'.cell? ⟨g3,4,none⟩ = some (.string r.f1.f3) ∧ w'.cell? ⟨g3,5,none⟩ = some (.string r.f1.f4) ∧ w'.cell? (ad.add (j * 6)) = some (.string z.f0) ∧ w'.cell? ⟨(ad.add (j * 6)).block,(ad.add (j * 6)).off + 1,none⟩ = some (.int .i64 z.f1.f0) ∧ w'.cell? ⟨(ad.add (j * 6)).block,(ad.add (j * 6)).off + 2,none⟩ = some (.int .i64 z.f1.f1) ∧ w'.cell? ⟨(ad.add (j * 6)).block,(ad.add (j * 6)).off + 3,none⟩ = some (.int .i64 z.f1.f2) ∧ w'.cell? ⟨(ad.add (j * 6)).block,(ad.add (j * 6)).off + 4,none⟩ = some (.string z.f1.f3) ∧ w'.cell? ⟨(ad.add (j * 6)).block,(ad.add (j * 6)).off + 5,none⟩ = some (.string z.f1.f4)) (ds:=[]) #[false,false,false,false,false,false,false,false,false,false,false,false,false,false,false,false,false,false] q3_ rfl rfl ⟨(blk_cell BK.out 0).trans rfl,(blk_cell BK.out 1).trans rfl,(blk_cell BK.out 2).trans rfl,(blk_cell BK.out 3).trans rfl,(blk_cell BK.out 4).trans rfl,(blk_cell BK.out 5).trans rfl,y0,y1,y2,y3,y4,y5⟩ (fun hHeld => ?_)
     clear y0 y1 y2 y3 y4 y5
     refine pure_ (i:=0) (N:=some 23) (v:=?_) (a':=?_) #[true,false,false,false,false,false,false,false,false,false,false,false,false,false,false,false,false,false] rfl rfl q3_ (fun _ _ _ h => h) (Or.inl ⟨by rfl,?_⟩) ?_ ?_
     rotate_left
     ·intro w'
      go_simp
      with_reducible rfl
     rotate_left
     ·simp only [Act.put,List.setIfInBounds_toArray,List.set_cons_zero,List.set_cons_succ]
      rfl
     refine pure_ (i:=1) (N:=some 24) (v:=?_) (a':=?_) #[true,true,false,false,false,false,false,false,false,false,false,false,false,false,false,false,false,false] rfl rfl q3_ (fun _ _ _ h => h) (Or.inl ⟨by rfl,?_⟩) ?_ ?_
     rotate_left
     ·intro w'
      go_simp
      with_reducible rfl
     rotate_left
     ·simp only [Act.put,List.setIfInBounds_toArray,List.set_cons_zero,List.set_cons_succ]
      rfl
     refine pure_ (i:=2) (N:=some 25) (v:=?_) (a':=?_) #[true,true,true,false,false,false,false,false,false,false,false,false,false,false,false,false,false,false] rfl rfl q3_ (fun _ _ _ h => h) (Or.inl ⟨by rfl,?_⟩) ?_ ?_
     rotate_left
     ·intro w'
      go_simp
      with_reducible rfl
     rotate_left
     ·simp only [Act.put,List.setIfInBounds_toArray,List.set_cons_zero,List.set_cons_succ]
      rfl
     refine take_ (i:=3) (N:=some 26) (v:=?_) (a':=?_) #[true,true,true,true,false,false,false,false,false,false,false,false,false,false,false,false,false,false] rfl rfl q3_ (fun _ _ _ h => h) (Or.inl ⟨by rfl,?_⟩) hHeld ?_ ?_
     rotate_left
     ·rintro w' ⟨s0,s1,s2,s3,s4,s5,s6,s7,s8,s9,s10,s11⟩
      go_simp
      with_reducible rfl
     rotate_left
     ·simp only [Act.put,List.setIfInBounds_toArray,List.set_cons_zero,List.set_cons_succ]
      rfl
     refine one_ (i:=4) (N:=some 27) #[true,true,true,true,true,false,false,false,false,false,false,false,false,false,false,false,false,false] rfl rfl q3_ q35_ (fun K hK => ?_)
     refine goes_ Tryz.func59 q3_ rfl #[.agg #[.string z.f0,.int .i64 z.f1.f0,.int .i64 z.f1.f1,.int .i64 z.f1.f2,.string z.f1.f3,.string z.f1.f4]] q45_ rfl rfl q21_ ?_
     (with_reducible refine (mvs_may.calls fuelR z.f0 z.f1.f0 z.f1.f1 z.f1.f2 z.f1.f3 z.f1.f4 true _ hmj ?sideG).mono ?_)
     (case sideG => exact Env.below HE.out HB.out)
     rintro e wq ⟨rfl,hb_⟩
     refine ⟨_,rfl,?_⟩
     replace BK:=Aside0.mk (blk_below BK.out hb_);replace HO:=Aside0.mk (Kd.R_below HO.out hb_);replace HB:=Aside0.mk (below_then HB.out HB.out.size hb_);clear hb_
     obtain ⟨y0,y1,y2,y3,y4,y5⟩:=elemZ (Kd.R_reads' HO.out).2.2 j hj hz
     refine hK.out _ _ ⟨(blk_cell BK.out 0).trans rfl,(blk_cell BK.out 1).trans rfl,(blk_cell BK.out 2).trans rfl,(blk_cell BK.out 3).trans rfl,(blk_cell BK.out 4).trans rfl,(blk_cell BK.out 5).trans rfl,y0,y1,y2,y3,y4,y5⟩ (fun hHeld => ?_)
     clear hK K y0 y1 y2 y3 y4 y5
     refine norm_ (a':=?_) ?_ ?_
     rotate_left
     ·show Act.put _ _ _ = _
      simp only [Act.put,List.setIfInBounds_toArray,List.set_cons_zero,List.set_cons_succ]
      rfl
     refine pure_ (i:=5) (N:=some 28) (v:=?_) (a':=?_) #[true,true,true,true,true,true,false,false,false,false,false,false,false,false,false,false,false,false] rfl rfl q3_ (fun _ _ _ h => h) (Or.inl ⟨by rfl,?_⟩) ?_ ?_
     rotate_left
     ·intro w'
      go_simp
      with_reducible rfl
     rotate_left
     ·simp only [Act.put,List.setIfInBounds_toArray,List.set_cons_zero,List.set_cons_succ]
      rfl
     refine pure_ (i:=6) (N:=some 29) (v:=?_) (a':=?_) #[true,true,true,true,true,true,true,false,false,false,false,false,false,false,false,false,false,false] rfl rfl q3_ (fun _ _ _ h => h) (Or.inl ⟨by rfl,?_⟩) ?_ ?_
     rotate_left
     ·intro w'
      go_simp
      with_reducible rfl
     rotate_left
     ·simp only [Act.put,List.setIfInBounds_toArray,List.set_cons_zero,List.set_cons_succ]
      rfl
     refine pure_ (i:=7) (N:=some 30) (v:=?_) (a':=?_) #[true,true,true,true,true,true,true,true,false,false,false,false,false,false,false,false,false,false] rfl rfl q3_ (fun _ _ _ h => h) (Or.inl ⟨by rfl,?_⟩) ?_ ?_
     rotate_left
     ·intro w'
      go_simp
      with_reducible rfl
     rotate_left
     ·simp only [Act.put,List.setIfInBounds_toArray,List.set_cons_zero,List.set_cons_succ]
      rfl
     refine pure_ (i:=8) (N:=some 31) (v:=?_) (a':=?_) #[true,true,true,true,true,true,true,true,true,false,false,false,false,false,false,false,false,false] rfl rfl q3_ (fun _ _ _ h => h) (Or.inl ⟨by rfl,?_⟩) ?_ ?_
     rotate_left
     ·intro w'
      go_simp
      with_reducible rfl
     rotate_left
     ·simp only [Act.put,List.setIfInBounds_toArray,List.set_cons_zero,List.set_cons_succ]
      rfl
     refine pure_ (i:=9) (N:=some 32) (v:=?_) (a':=?_) #[true,true,true,true,true,true,true,true,true,true,false,false,false,false,false,false,false,false] rfl rfl q3_ (fun _ _ _ h => h) (Or.inl ⟨by rfl,?_⟩) ?_ ?_
     rotate_left
     ·intro w'
      go_simp
      with_reducible rfl
     rotate_left
     ·simp only [Act.put,List.setIfInBounds_toArray,List.set_cons_zero,List.set_cons_succ]
      rfl
     refine pure_ (i:=10) (N:=some 33) (v:=?_) (a':=?_) #[true,true,true,true,true,true,true,true,true,true,true,false,false,false,false,false,false,false] rfl rfl q3_ (fun _ _ _ h => h) (Or.inl ⟨by rfl,?_⟩) ?_ ?_
     rotate_left
     ·intro w'
      go_simp
      with_reducible rfl
     rotate_left
     ·simp only [Act.put,List.setIfInBounds_toArray,List.set_cons_zero,List.set_cons_succ]
      rfl
     refine pure_ (i:=12) (N:=some 35) (v:=?_) (a':=?_) #[true,true,true,true,true,true,true,true,true,true,true,false,true,false,false,false,false,false] rfl rfl q3_ (fun _ _ _ h => h) (Or.inl ⟨by rfl,?_⟩) ?_ ?_
     rotate_left
     ·intro w'
      go_simp
      with_reducible rfl
     rotate_left
     ·simp only [Act.put,List.setIfInBounds_toArray,List.set_cons_zero,List.set_cons_succ]
      rfl
     refine take_ (i:=11) (N:=some 34) (v:=?_) (a':=?_) #[true,true,true,true,true,true,true,true,true,true,true,true,true,false,false,false,false,false] rfl rfl q3_ (fun _ _ _ h => h) (Or.inl ⟨by rfl,?_⟩) hHeld ?_ ?_
     rotate_left
     ·rintro w' ⟨s0,s1,s2,s3,s4,s5,s6,s7,s8,s9,s10,s11⟩
      go_simp
      with_reducible rfl
     rotate_left
     ·simp only [Act.put,List.setIfInBounds_toArray,List.set_cons_zero,List.set_cons_succ]
      rfl
     refine take_ (i:=13) (N:=some 36) (v:=?_) (a':=?_) #[true,true,true,true,true,true,true,true,true,true,true,true,true,true,false,false,false,false] rfl rfl q3_ (fun _ _ _ h => h) (Or.inl ⟨by rfl,?_⟩) hHeld ?_ ?_
     rotate_left
     ·rintro w' ⟨s0,s1,s2,s3,s4,s5,s6,s7,s8,s9,s10,s11⟩
      go_simp
      with_reducible rfl
     rotate_left
     ·simp only [Act.put,List.setIfInBounds_toArray,List.set_cons_zero,List.set_cons_succ]
      rfl
     refine one_ (i:=14) (N:=some 37) #[true,true,true,true,true,true,true,true,true,true,true,true,true,true,true,false,false,false] rfl rfl q3_ q35_ (fun K hK => ?_)
     refine goes_ Tryz.func44 q3_ rfl #[.agg #[.int .i64 z.f1.f0,.int .i64 z.f1.f1,.int .i64 z.f1.f2,.string z.f1.f3,.string z.f1.f4],.agg #[.int .i64 r.f1.f0,.int .i64 r.f1.f1,.int .i64 r.f1.f2,.string r.f1.f3,.string r.f1.f4]] q45_ rfl rfl q21_ ?_
     (with_reducible refine (ver_Compare.calls fuelR z.f1.f0 z.f1.f1 z.f1.f2 z.f1.f3 z.f1.f4 r.f1.f0 r.f1.f1 r.f1.f2 r.f1.f3 r.f1.f4 c _ hcmp ?sideG).mono ?_)
     (case sideG => exact Env.below HE.out HB.out)
     rintro e wk ⟨rfl,hb_⟩
     refine ⟨_,rfl,?_⟩
     replace BK:=Aside0.mk (blk_below BK.out hb_);replace HO:=Aside0.mk (Kd.R_below HO.out hb_);replace HB:=Aside0.mk (below_then HB.out HB.out.size hb_);clear hb_
     obtain ⟨y0,y1,y2,y3,y4,y5⟩:=elemZ (Kd.R_reads' HO.out).2.2 j hj hz
     refine hK.out _ _ ⟨(blk_cell BK.out 0).trans rfl,(blk_cell BK.out 1).trans rfl,(blk_cell BK.out 2).trans rfl,(blk_cell BK.out 3).trans rfl,(blk_cell BK.out 4).trans rfl,(blk_cell BK.out 5).trans rfl,y0,y1,y2,y3,y4,y5⟩ (fun hHeld => ?_)
     clear hK K y0 y1 y2 y3 y4 y5
     refine norm_ (a':=?_) ?_ ?_
     rotate_left
     ·show Act.put _ _ _ = _
      simp only [Act.put,List.setIfInBounds_toArray,List.set_cons_zero,List.set_cons_succ]
      rfl
     refine pure_ (i:=15) (N:=some 38) (v:=?_) (a':=?_) #[true,true,true,true,true,true,true,true,true,true,true,true,true,true,true,true,false,false] rfl rfl q3_ (fun _ _ _ h => h) (Or.inl ⟨by rfl,?_⟩) ?_ ?_
     rotate_left
     ·intro w'
      go_simp
      with_reducible rfl
     rotate_left
     ·simp only [Act.put,List.setIfInBounds_toArray,List.set_cons_zero,List.set_cons_succ]
      rfl
     refine pure_ (i:=16) (N:=some 39) (v:=?_) (a':=?_) #[true,true,true,true,true,true,true,true,true,true,true,true,true,true,true,true,true,false] rfl rfl q3_ (fun _ _ _ h => h) (Or.inl ⟨by rfl,?_⟩) ?_ ?_
     rotate_left
     ·intro w'
      go_simp
      with_reducible rfl
     rotate_left
     ·simp only [Act.put,List.setIfInBounds_toArray,List.set_cons_zero,List.set_cons_succ]
      rfl
     refine pure_ (i:=17) (N:=some 22) (v:=?_) (a':=?_) #[true,true,true,true,true,true,true,true,true,true,true,true,true,true,true,true,true,true] rfl rfl q3_ (fun _ _ _ h => h) (Or.inl ⟨by rfl,?_⟩) ?_ ?_
     rotate_left
     ·intro w'
      go_simp
      with_reducible rfl
     rotate_left
     ·simp only [Act.put,List.setIfInBounds_toArray,List.set_cons_zero,List.set_cons_succ]
      rfl
     refine done_ q3_ ?_
     obtain rfl:=had.out
     obtain ⟨y0,y1,y2,y3,y4,y5⟩:=elemZ (Kd.R_reads' HO.out).2.2 j hj hz
     simp only [addr0] at y0 y1 y2 y3 y4 y5
     have hccZ : ∀ (q : Nat) (u : Value),[.string z.f0,.int .i64 z.f1.f0,.int .i64 z.f1.f1,.int .i64 z.f1.f2,.string z.f1.f3,.string z.f1.f4][q]? = some u → wk.cell? ⟨gg,(j : Int).toNat * 6 + q,none⟩ = some u:=by
      intro q u hq
      rw [Int.toNat_natCast]
      match q,hq with
      | 0,hq => exact y0.trans hq
      | 1,hq => exact y1.trans hq
      | 2,hq => exact y2.trans hq
      | 3,hq => exact y3.trans hq
      | 4,hq => exact y4.trans hq
      | 5,hq => exact y5.trans hq
      | q + 6,hq => exact absurd hq q28_
     have hs0 : wk.cell? ⟨g3,0,none⟩ = some _:=(blk_cell BK.out 0).trans rfl
     have hs1 : wk.cell? ⟨g3,1,none⟩ = some _:=(blk_cell BK.out 1).trans rfl
     have hs2 : wk.cell? ⟨g3,2,none⟩ = some _:=(blk_cell BK.out 2).trans rfl
     have hs3 : wk.cell? ⟨g3,3,none⟩ = some _:=(blk_cell BK.out 3).trans rfl
     have hs4 : wk.cell? ⟨g3,4,none⟩ = some _:=(blk_cell BK.out 4).trans rfl
     have hs5 : wk.cell? ⟨g3,5,none⟩ = some _:=(blk_cell BK.out 5).trans rfl
     clear y0 y1 y2 y3 y4 y5
     go_wp2_with (first | ((with_reducible refine gate_ (.store 41 (.tmp 43) (.tmp 42)) rfl ?_);refine Kd.R_store k41 (w0:=w) w.heap.size rfl rfl 41 (.tmp 43) (.tmp 42) rfl 41 (g:=gg) (o':=j * 6) (j : Int) 0 l0 r (.agg #[.string r.f0,.int .i64 r.f1.f0,.int .i64 r.f1.f1,.int .i64 r.f1.f2,.string r.f1.f3,.string r.f1.f4]) [.string r.f0,.int .i64 r.f1.f0,.int .i64 r.f1.f1,.int .i64 r.f1.f2,.string r.f1.f3,.string r.f1.f4] [.string z.f0,.int .i64 z.f1.f0,.int .i64 z.f1.f1,.int .i64 z.f1.f2,.string z.f1.f3,.string z.f1.f4] (fun k => k ≠ g3) (fun k => k ≠ g3 ∧ k ≠ gg) rfl (by show j * 6 = (j : Int).toNat * 6 + 0;omega) rfl rfl q3_ q26_ HO.out q7_ q7_ rfl ?hcc (Nat.le_refl 6) (k41_mkM _ _ _ r) (fun k hk => hk) HB.out ?_;(case hcc => exact hccZ);intro w9 hR9 hB9 hg9))
     go_ret
     exact ⟨_,rfl,Kd.R_mono hR9 (fun _ _ => trivial),hB9⟩
    ·have hcc : (c < 0) = False:=eq_false hc0
     rw [if_neg hc0] at h
     obtain rfl:=Option.some.inj h
     clear h
     obtain ⟨y0,y1,y2,y3,y4,y5⟩:=elemZ (Kd.R_reads' HO.out).2.2 j hj hz
     refine start_ (n:=18) (S:=fun w' => w'.cell? ⟨g3,0,none⟩ = some (.string r.f0) ∧ w'.cell? ⟨g3,1,none⟩ = some (.int .i64 r.f1.f0) ∧ w'.cell? ⟨g3,2,none⟩ = some (.int .i64 r.f1.f1) ∧ w'.cell? ⟨g3,3,none⟩ = some (.int .i64 r.f1.f2) ∧ w'.cell? ⟨g3,4,none⟩ = some (.string r.f1.f3) ∧ w'.cell? ⟨g3,5,none⟩ = some (.string r.f1.f4) ∧ w'.cell? (ad.add (j * 6)) = some (.string z.f0) ∧ w'.cell? ⟨(ad.add (j * 6)).block,(ad.add (j * 6)).off + 1,none⟩ = some (.int .i64 z.f1.f0) ∧ w'.cell? ⟨(ad.add (j * 6)).block,(ad.add (j * 6)).off + 2,none⟩ = some (.int .i64 z.f1.f1) ∧ w'.cell? ⟨(ad.add (j * 6)).block,(ad.add (j * 6)).off + 3,none⟩ = some (.int .i64 z.f1.f2) ∧ w'.cell? ⟨(ad.add (j * 6)).block,(ad.add (j * 6)).off + 4,none⟩ = some (.string z.f1.f3) ∧ w'.cell? ⟨(ad.add (j * 6)).block,(ad.add (j * 6)).off + 5,none⟩ = some (.string z.f1.f4)) (ds:=[]) #[false,false,false,false,false,false,false,false,false,false,false,false,false,false,false,false,false,false] q3_ rfl rfl ⟨(blk_cell BK.out 0).trans rfl,(blk_cell BK.out 1).trans rfl,(blk_cell BK.out 2).trans rfl,(blk_cell BK.out 3).trans rfl,(blk_cell BK.out 4).trans rfl,(blk_cell BK.out 5).trans rfl,y0,y1,y2,y3,y4,y5⟩ (fun hHeld => ?_)
     clear y0 y1 y2 y3 y4 y5
     refine pure_ (i:=0) (N:=some 23) (v:=?_) (a':=?_) #[true,false,false,false,false,false,false,false,false,false,false,false,false,false,false,false,false,false] rfl rfl q3_ (fun _ _ _ h => h) (Or.inl ⟨by rfl,?_⟩) ?_ ?_
     rotate_left
     ·intro w'
      go_simp
      with_reducible rfl
     rotate_left
     ·simp only [Act.put,List.setIfInBounds_toArray,List.set_cons_zero,List.set_cons_succ]
      rfl
     refine pure_ (i:=1) (N:=some 24) (v:=?_) (a':=?_) #[true,true,false,false,false,false,false,false,false,false,false,false,false,false,false,false,false,false] rfl rfl q3_ (fun _ _ _ h => h) (Or.inl ⟨by rfl,?_⟩) ?_ ?_
     rotate_left
     ·intro w'
      go_simp
      with_reducible rfl
     rotate_left
     ·simp only [Act.put,List.setIfInBounds_toArray,List.set_cons_zero,List.set_cons_succ]
      rfl
     refine pure_ (i:=2) (N:=some 25) (v:=?_) (a':=?_) #[true,true,true,false,false,false,false,false,false,false,false,false,false,false,false,false,false,false] rfl rfl q3_ (fun _ _ _ h => h) (Or.inl ⟨by rfl,?_⟩) ?_ ?_
     rotate_left
     ·intro w'
      go_simp
      with_reducible rfl
     rotate_left
     ·simp only [Act.put,List.setIfInBounds_toArray,List.set_cons_zero,List.set_cons_succ]
      rfl
     refine take_ (i:=3) (N:=some 26) (v:=?_) (a':=?_) #[true,true,true,true,false,false,false,false,false,false,false,false,false,false,false,false,false,false] rfl rfl q3_ (fun _ _ _ h => h) (Or.inl ⟨by rfl,?_⟩) hHeld ?_ ?_
     rotate_left
     ·rintro w' ⟨s0,s1,s2,s3,s4,s5,s6,s7,s8,s9,s10,s11⟩
      go_simp
      with_reducible rfl
     rotate_left
     ·simp only [Act.put,List.setIfInBounds_toArray,List.set_cons_zero,List.set_cons_succ]
      rfl
     refine one_ (i:=4) (N:=some 27) #[true,true,true,true,true,false,false,false,false,false,false,false,false,false,false,false,false,false] rfl rfl q3_ q35_ (fun K hK => ?_)
     refine goes_ Tryz.func59 q3_ rfl #[.agg #[.string z.f0,.int .i64 z.f1.f0,.int .i64 z.f1.f1,.int .i64 z.f1.f2,.string z.f1.f3,.string z.f1.f4]] q45_ rfl rfl q21_ ?_
     (with_reducible refine (mvs_may.calls fuelR z.f0 z.f1.f0 z.f1.f1 z.f1.f2 z.f1.f3 z.f1.f4 true _ hmj ?sideG).mono ?_)
     (case sideG => exact Env.below HE.out HB.out)
     rintro e wq ⟨rfl,hb_⟩
     refine ⟨_,rfl,?_⟩
     replace BK:=Aside0.mk (blk_below BK.out hb_);replace HO:=Aside0.mk (Kd.R_below HO.out hb_);replace HB:=Aside0.mk (below_then HB.out HB.out.size hb_);clear hb_
     obtain ⟨y0,y1,y2,y3,y4,y5⟩:=elemZ (Kd.R_reads' HO.out).2.2 j hj hz
     refine hK.out _ _ ⟨(blk_cell BK.out 0).trans rfl,(blk_cell BK.out 1).trans rfl,(blk_cell BK.out 2).trans rfl,(blk_cell BK.out 3).trans rfl,(blk_cell BK.out 4).trans rfl,(blk_cell BK.out 5).trans rfl,y0,y1,y2,y3,y4,y5⟩ (fun hHeld => ?_)
     clear hK K y0 y1 y2 y3 y4 y5
     refine norm_ (a':=?_) ?_ ?_
     rotate_left
     ·show Act.put _ _ _ = _
      simp only [Act.put,List.setIfInBounds_toArray,List.set_cons_zero,List.set_cons_succ]
      rfl
     refine pure_ (i:=5) (N:=some 28) (v:=?_) (a':=?_) #[true,true,true,true,true,true,false,false,false,false,false,false,false,false,false,false,false,false] rfl rfl q3_ (fun _ _ _ h => h) (Or.inl ⟨by rfl,?_⟩) ?_ ?_
     rotate_left
     ·intro w'
      go_simp
      with_reducible rfl
     rotate_left
     ·simp only [Act.put,List.setIfInBounds_toArray,List.set_cons_zero,List.set_cons_succ]
      rfl
     refine pure_ (i:=6) (N:=some 29) (v:=?_) (a':=?_) #[true,true,true,true,true,true,true,false,false,false,false,false,false,false,false,false,false,false] rfl rfl q3_ (fun _ _ _ h => h) (Or.inl ⟨by rfl,?_⟩) ?_ ?_
     rotate_left
     ·intro w'
      go_simp
      with_reducible rfl
     rotate_left
     ·simp only [Act.put,List.setIfInBounds_toArray,List.set_cons_zero,List.set_cons_succ]
      rfl
     refine pure_ (i:=7) (N:=some 30) (v:=?_) (a':=?_) #[true,true,true,true,true,true,true,true,false,false,false,false,false,false,false,false,false,false] rfl rfl q3_ (fun _ _ _ h => h) (Or.inl ⟨by rfl,?_⟩) ?_ ?_
     rotate_left
     ·intro w'
      go_simp
      with_reducible rfl
     rotate_left
     ·simp only [Act.put,List.setIfInBounds_toArray,List.set_cons_zero,List.set_cons_succ]
      rfl
     refine pure_ (i:=8) (N:=some 31) (v:=?_) (a':=?_) #[true,true,true,true,true,true,true,true,true,false,false,false,false,false,false,false,false,false] rfl rfl q3_ (fun _ _ _ h => h) (Or.inl ⟨by rfl,?_⟩) ?_ ?_
     rotate_left
     ·intro w'
      go_simp
      with_reducible rfl
     rotate_left
     ·simp only [Act.put,List.setIfInBounds_toArray,List.set_cons_zero,List.set_cons_succ]
      rfl
     refine pure_ (i:=9) (N:=some 32) (v:=?_) (a':=?_) #[true,true,true,true,true,true,true,true,true,true,false,false,false,false,false,false,false,false] rfl rfl q3_ (fun _ _ _ h => h) (Or.inl ⟨by rfl,?_⟩) ?_ ?_
     rotate_left
     ·intro w'
      go_simp
      with_reducible rfl
     rotate_left
     ·simp only [Act.put,List.setIfInBounds_toArray,List.set_cons_zero,List.set_cons_succ]
      rfl
     refine pure_ (i:=10) (N:=some 33) (v:=?_) (a':=?_) #[true,true,true,true,true,true,true,true,true,true,true,false,false,false,false,false,false,false] rfl rfl q3_ (fun _ _ _ h => h) (Or.inl ⟨by rfl,?_⟩) ?_ ?_
     rotate_left
     ·intro w'
      go_simp
      with_reducible rfl
     rotate_left
     ·simp only [Act.put,List.setIfInBounds_toArray,List.set_cons_zero,List.set_cons_succ]
      rfl
     refine pure_ (i:=12) (N:=some 35) (v:=?_) (a':=?_) #[true,true,true,true,true,true,true,true,true,true,true,false,true,false,false,false,false,false] rfl rfl q3_ (fun _ _ _ h => h) (Or.inl ⟨by rfl,?_⟩) ?_ ?_
     rotate_left
     ·intro w'
      go_simp
      with_reducible rfl
     rotate_left
     ·simp only [Act.put,List.setIfInBounds_toArray,List.set_cons_zero,List.set_cons_succ]
      rfl
     refine take_ (i:=11) (N:=some 34) (v:=?_) (a':=?_) #[true,true,true,true,true,true,true,true,true,true,true,true,true,false,false,false,false,false] rfl rfl q3_ (fun _ _ _ h => h) (Or.inl ⟨by rfl,?_⟩) hHeld ?_ ?_
     rotate_left
     ·rintro w' ⟨s0,s1,s2,s3,s4,s5,s6,s7,s8,s9,s10,s11⟩
      go_simp
      with_reducible rfl
     rotate_left
     ·simp only [Act.put,List.setIfInBounds_toArray,List.set_cons_zero,List.set_cons_succ]
      rfl
     refine take_ (i:=13) (N:=some 36) (v:=?_) (a':=?_) #[true,true,true,true,true,true,true,true,true,true,true,true,true,true,false,false,false,false] rfl rfl q3_ (fun _ _ _ h => h) (Or.inl ⟨by rfl,?_⟩) hHeld ?_ ?_
     rotate_left
     ·rintro w' ⟨s0,s1,s2,s3,s4,s5,s6,s7,s8,s9,s10,s11⟩
      go_simp
      with_reducible rfl
     rotate_left
     ·simp only [Act.put,List.setIfInBounds_toArray,List.set_cons_zero,List.set_cons_succ]
      rfl
     refine one_ (i:=14) (N:=some 37) #[true,true,true,true,true,true,true,true,true,true,true,true,true,true,true,false,false,false] rfl rfl q3_ q35_ (fun K hK => ?_)
     refine goes_ Tryz.func44 q3_ rfl #[.agg #[.int .i64 z.f1.f0,.int .i64 z.f1.f1,.int .i64 z.f1.f2,.string z.f1.f3,.string z.f1.f4],.agg #[.int .i64 r.f1.f0,.int .i64 r.f1.f1,.int .i64 r.f1.f2,.string r.f1.f3,.string r.f1.f4]] q45_ rfl rfl q21_ ?_
     (with_reducible refine (ver_Compare.calls fuelR z.f1.f0 z.f1.f1 z.f1.f2 z.f1.f3 z.f1.f4 r.f1.f0 r.f1.f1 r.f1.f2 r.f1.f3 r.f1.f4 c _ hcmp ?sideG).mono ?_)
     (case sideG => exact Env.below HE.out HB.out)
     rintro e wk ⟨rfl,hb_⟩
     refine ⟨_,rfl,?_⟩
     replace BK:=Aside0.mk (blk_below BK.out hb_);replace HO:=Aside0.mk (Kd.R_below HO.out hb_);replace HB:=Aside0.mk (below_then HB.out HB.out.size hb_);clear hb_
     obtain ⟨y0,y1,y2,y3,y4,y5⟩:=elemZ (Kd.R_reads' HO.out).2.2 j hj hz
     refine hK.out _ _ ⟨(blk_cell BK.out 0).trans rfl,(blk_cell BK.out 1).trans rfl,(blk_cell BK.out 2).trans rfl,(blk_cell BK.out 3).trans rfl,(blk_cell BK.out 4).trans rfl,(blk_cell BK.out 5).trans rfl,y0,y1,y2,y3,y4,y5⟩ (fun hHeld => ?_)
     clear hK K y0 y1 y2 y3 y4 y5
     refine norm_ (a':=?_) ?_ ?_
     rotate_left
     ·show Act.put _ _ _ = _
      simp only [Act.put,List.setIfInBounds_toArray,List.set_cons_zero,List.set_cons_succ]
      rfl
     refine pure_ (i:=15) (N:=some 38) (v:=?_) (a':=?_) #[true,true,true,true,true,true,true,true,true,true,true,true,true,true,true,true,false,false] rfl rfl q3_ (fun _ _ _ h => h) (Or.inl ⟨by rfl,?_⟩) ?_ ?_
     rotate_left
     ·intro w'
      go_simp
      with_reducible rfl
     rotate_left
     ·simp only [Act.put,List.setIfInBounds_toArray,List.set_cons_zero,List.set_cons_succ]
      rfl
     refine pure_ (i:=16) (N:=some 39) (v:=?_) (a':=?_) #[true,true,true,true,true,true,true,true,true,true,true,true,true,true,true,true,true,false] rfl rfl q3_ (fun _ _ _ h => h) (Or.inl ⟨by rfl,?_⟩) ?_ ?_
     rotate_left
     ·intro w'
      go_simp
      with_reducible rfl
     rotate_left
     ·simp only [Act.put,List.setIfInBounds_toArray,List.set_cons_zero,List.set_cons_succ]
      rfl
     refine pure_ (i:=17) (N:=some 22) (v:=?_) (a':=?_) #[true,true,true,true,true,true,true,true,true,true,true,true,true,true,true,true,true,true] rfl rfl q3_ (fun _ _ _ h => h) (Or.inl ⟨by rfl,?_⟩) ?_ ?_
     rotate_left
     ·intro w'
      go_simp
      with_reducible rfl
     rotate_left
     ·simp only [Act.put,List.setIfInBounds_toArray,List.set_cons_zero,List.set_cons_succ]
      rfl
     refine done_ q3_ ?_
     go_wp2
     go_ret
     exact ⟨_,rfl,Kd.R_mono HO.out (fun _ _ => trivial),HB.out⟩
def mvs_Upgrade.f (l0 : List Req) (a1_0 : ByteArray) (a1_1 : Int) (a1_2 : Int) (a1_3 : Int) (a1_4 : ByteArray) (a1_5 : ByteArray) : Option (List Req):=upP l0 ⟨a1_0,a1_1,a1_2,a1_3,a1_4,a1_5⟩
theorem mvs_Upgrade.calls (A0 : Option Addr) (c0 : Nat) (l0 : List Req) (a1_0 : ByteArray) (a1_1 : Int) (a1_2 : Int) (a1_3 : Int) (a1_4 : ByteArray) (a1_5 : ByteArray) (r : List Req) (w : World) (hr0 : Kd.C k41 w A0 l0.length l0) (hc0 : l0.length ≤ c0) (h : mvs_Upgrade.f l0 a1_0 a1_1 a1_2 a1_3 a1_4 a1_5 = some r) (hG : Env w) :
  Calls Tryz.prog 29 #[.slice A0 l0.length c0,.agg #[.string a1_0,.int .i64 a1_1,.int .i64 a1_2,.int .i64 a1_3,.string a1_4,.string a1_5]] w fun e w' => ∃ v0_ : Value,e = .returned (v0_) ∧ Kd.R k41 41 w' w.heap.size (fun _ => True) v0_ r ∧ Below w.heap.size w w' :=
 up_calls A0 c0 l0 ⟨a1_0,a1_1,a1_2,a1_3,a1_4,a1_5⟩ r w hr0 hc0 h hG
end Go.Proofs.YtennhpoemdaghaaGreatDoor.P
end
section
namespace Go.Proofs.YtennhpoemdaghaaGreatDoor.P
open Go.RowKit Go.Proofs.YtennhpoemdaghaaGreatDoorW.PrintWords Go.Proofs.YtennhpoemdaghaaGreatDoorW.PrintLast Go.Proofs.YtennhpoemdaghaaGreatDoorW.PrintMore
def Lw17_live.f (k : Nat)  : Option (Bool):=(Lw17_req.f (⟨#[97]⟩ : ByteArray) 0).bind fun bt101 => ((Lw17_req.f (⟨#[99]⟩ : ByteArray) 1).bind fun bt107 => ((Lw17_req.f (⟨#[98]⟩ : ByteArray) 0).bind fun bt116 => ((Lw17_req.f (⟨#[99]⟩ : ByteArray) 2).bind fun bt122 => ((Lw17_req.f (⟨#[99]⟩ : ByteArray) 2).bind fun bt131 => ((Lw17_req.f (⟨#[100]⟩ : ByteArray) 0).bind fun bt137 => ((Lw17_req.f (⟨#[98]⟩ : ByteArray) (-1)).bind fun bt146 => ((some (([(⟨(⟨bt101.1,(⟨bt101.2.1,bt101.2.2.1,bt101.2.2.2.1,bt101.2.2.2.2.1,bt101.2.2.2.2.2⟩ : S24)⟩ : S41),(([(⟨bt107.1,(⟨bt107.2.1,bt107.2.2.1,bt107.2.2.2.1,bt107.2.2.2.2.1,bt107.2.2.2.2.2⟩ : S24)⟩ : S41)] : List (S41)))⟩ : S70),(⟨(⟨bt116.1,(⟨bt116.2.1,bt116.2.2.1,bt116.2.2.2.1,bt116.2.2.2.2.1,bt116.2.2.2.2.2⟩ : S24)⟩ : S41),(([(⟨bt122.1,(⟨bt122.2.1,bt122.2.2.1,bt122.2.2.2.1,bt122.2.2.2.2.1,bt122.2.2.2.2.2⟩ : S24)⟩ : S41)] : List (S41)))⟩ : S70),(⟨(⟨bt131.1,(⟨bt131.2.1,bt131.2.2.1,bt131.2.2.2.1,bt131.2.2.2.2.1,bt131.2.2.2.2.2⟩ : S24)⟩ : S41),(([(⟨bt137.1,(⟨bt137.2.1,bt137.2.2.1,bt137.2.2.2.1,bt137.2.2.2.2.1,bt137.2.2.2.2.2⟩ : S24)⟩ : S41)] : List (S41)))⟩ : S70),(⟨(⟨bt146.1,(⟨bt146.2.1,bt146.2.2.1,bt146.2.2.2.1,bt146.2.2.2.2.1,bt146.2.2.2.2.2⟩ : S24)⟩ : S41),([] : List (S41))⟩ : S70)] : List (S70)) : List (S70))).bind fun y152 => ((Lw17_req.f (⟨#[98]⟩ : ByteArray) 0).bind fun bt155 => ((Lw17_req.f (⟨#[97]⟩ : ByteArray) 0).bind fun bt161 => ((some (([(⟨bt155.1,(⟨bt155.2.1,bt155.2.2.1,bt155.2.2.2.1,bt155.2.2.2.2.1,bt155.2.2.2.2.2⟩ : S24)⟩ : S41),(⟨bt161.1,(⟨bt161.2.1,bt161.2.2.1,bt161.2.2.2.1,bt161.2.2.2.2.1,bt161.2.2.2.2.2⟩ : S24)⟩ : S41)] : List (S41)) : List (S41))).bind fun y167 => ((mvs_List.f y167 y152).bind fun t170 => ((Lw17_req.f (⟨#[97]⟩ : ByteArray) 3).bind fun bt173 => ((mvs_Upgrade.f y167 bt173.1 bt173.2.1 bt173.2.2.1 bt173.2.2.2.1 bt173.2.2.2.2.1 bt173.2.2.2.2.2).bind fun t179 => ((Lw17_req.f (⟨#[99]⟩ : ByteArray) 1).bind fun bt182 => ((mvs_Downgrade.f k y167 y152 bt182.1 bt182.2.1 bt182.2.2.1 bt182.2.2.2.1 bt182.2.2.2.2.1 bt182.2.2.2.2.2).bind fun t188 => ((Lw17_req.f (⟨#[97]⟩ : ByteArray) 0).bind fun bt191 => ((Lw17_req.f (⟨#[98]⟩ : ByteArray) 0).bind fun bt197 => ((Lw17_req.f (⟨#[99]⟩ : ByteArray) 2).bind fun bt203 => ((Lw17_req.f (⟨#[100]⟩ : ByteArray) 0).bind fun bt209 => ((Rf17_Same.f k t170 (([(⟨bt191.1,(⟨bt191.2.1,bt191.2.2.1,bt191.2.2.2.1,bt191.2.2.2.2.1,bt191.2.2.2.2.2⟩ : S24)⟩ : S41),(⟨bt197.1,(⟨bt197.2.1,bt197.2.2.1,bt197.2.2.2.1,bt197.2.2.2.2.1,bt197.2.2.2.2.2⟩ : S24)⟩ : S41),(⟨bt203.1,(⟨bt203.2.1,bt203.2.2.1,bt203.2.2.2.1,bt203.2.2.2.2.1,bt203.2.2.2.2.2⟩ : S24)⟩ : S41),(⟨bt209.1,(⟨bt209.2.1,bt209.2.2.1,bt209.2.2.2.1,bt209.2.2.2.2.1,bt209.2.2.2.2.2⟩ : S24)⟩ : S41)] : List (S41)))).bind fun t218 => (if t218 = true then ((mvs_Reached.f y167 y152).bind fun t219 => (if (t219.length : Int) = 5 then ((Lw17_req.f (⟨#[98]⟩ : ByteArray) 0).bind fun bt222 => ((Lw17_req.f (⟨#[97]⟩ : ByteArray) 3).bind fun bt228 => ((Rf17_Same.f k t179 (([(⟨bt222.1,(⟨bt222.2.1,bt222.2.2.1,bt222.2.2.2.1,bt222.2.2.2.2.1,bt222.2.2.2.2.2⟩ : S24)⟩ : S41),(⟨bt228.1,(⟨bt228.2.1,bt228.2.2.1,bt228.2.2.2.1,bt228.2.2.2.2.1,bt228.2.2.2.2.2⟩ : S24)⟩ : S41)] : List (S41)))).bind fun t237 => (if t237 = true then ((Lw17_req.f (⟨#[97]⟩ : ByteArray) 0).bind fun bt238 => ((Rf17_Same.f k t188 (([(⟨bt238.1,(⟨bt238.2.1,bt238.2.2.1,bt238.2.2.2.1,bt238.2.2.2.2.1,bt238.2.2.2.2.2⟩ : S24)⟩ : S41)] : List (S41)))).bind fun t247 => (if t247 = true then ((Lw17_req.f (⟨#[122]⟩ : ByteArray) 0).bind fun bt248 => ((mvs_Upgrade.f y167 bt248.1 bt248.2.1 bt248.2.2.1 bt248.2.2.2.1 bt248.2.2.2.2.1 bt248.2.2.2.2.2).bind fun t254 => (if (t254.length : Int) = 3 then ((Lw17_req.f (⟨#[122]⟩ : ByteArray) (-1)).bind fun bt257 => ((mvs_Upgrade.f y167 bt257.1 bt257.2.1 bt257.2.2.1 bt257.2.2.2.1 bt257.2.2.2.2.1 bt257.2.2.2.2.2).bind fun t263 => (some ((t263.length : Int) == 2)))) else (some false)))) else (some false)))) else (some false))))) else (some false))) else (some false))))))))))))))))))))))
theorem Lw17_live.mono : ∀ k,LeO (Lw17_live.f k ) (Lw17_live.f (k + 1) ):=by
 intro  k
 unfold Lw17_live.f
 repeat' first
   | (with_reducible exact Rf17_Same.mono _ _ _)
   | (with_reducible exact mvs_Downgrade.mono _ _ _ _ _ _ _ _ _)
   | (with_reducible exact LeO.refl _)
   | (with_reducible exact LeO.none _)
   | (with_reducible refine LeO.ite ?_ ?_)
   | (with_reducible refine LeO.bind ?_ (fun _ => ?_))
   | exact Rf17_Same.mono _ _ _
   | exact mvs_Downgrade.mono _ _ _ _ _ _ _ _ _
   | exact LeO.none _
   | refine LeO.ite ?_ ?_
   | refine LeO.bind ?_ (fun _ => ?_)
set_option maxHeartbeats 8000000 in
set_option maxRecDepth 100000 in
theorem Lw17_live.calls (k : Nat)  (r : Bool) (w : World) (h : Lw17_live.f k  = some r) (hr_ : r = true) (hG : Env w) :
  Calls Tryz.prog 22 #[] w fun e w' => e = .returned (.bool r) ∧ Below w.heap.size w w':=by
 have HG:=Aside0.mk hG
 clear hG
 have HR_:=Aside0.mk hr_
 clear hr_
 have hu70:=Tryz.underlying70
 have HB:=Aside0.mk (Below.refl w.heap.size w)
 have H : ((Lw17_req.f (⟨#[97]⟩ : ByteArray) 0).bind fun bt101 => ((Lw17_req.f (⟨#[99]⟩ : ByteArray) 1).bind fun bt107 => ((Lw17_req.f (⟨#[98]⟩ : ByteArray) 0).bind fun bt116 => ((Lw17_req.f (⟨#[99]⟩ : ByteArray) 2).bind fun bt122 => ((Lw17_req.f (⟨#[99]⟩ : ByteArray) 2).bind fun bt131 => ((Lw17_req.f (⟨#[100]⟩ : ByteArray) 0).bind fun bt137 => ((Lw17_req.f (⟨#[98]⟩ : ByteArray) (-1)).bind fun bt146 => ((some (([(⟨(⟨bt101.1,(⟨bt101.2.1,bt101.2.2.1,bt101.2.2.2.1,bt101.2.2.2.2.1,bt101.2.2.2.2.2⟩ : S24)⟩ : S41),(([(⟨bt107.1,(⟨bt107.2.1,bt107.2.2.1,bt107.2.2.2.1,bt107.2.2.2.2.1,bt107.2.2.2.2.2⟩ : S24)⟩ : S41)] : List (S41)))⟩ : S70),(⟨(⟨bt116.1,(⟨bt116.2.1,bt116.2.2.1,bt116.2.2.2.1,bt116.2.2.2.2.1,bt116.2.2.2.2.2⟩ : S24)⟩ : S41),(([(⟨bt122.1,(⟨bt122.2.1,bt122.2.2.1,bt122.2.2.2.1,bt122.2.2.2.2.1,bt122.2.2.2.2.2⟩ : S24)⟩ : S41)] : List (S41)))⟩ : S70),(⟨(⟨bt131.1,(⟨bt131.2.1,bt131.2.2.1,bt131.2.2.2.1,bt131.2.2.2.2.1,bt131.2.2.2.2.2⟩ : S24)⟩ : S41),(([(⟨bt137.1,(⟨bt137.2.1,bt137.2.2.1,bt137.2.2.2.1,bt137.2.2.2.2.1,bt137.2.2.2.2.2⟩ : S24)⟩ : S41)] : List (S41)))⟩ : S70),(⟨(⟨bt146.1,(⟨bt146.2.1,bt146.2.2.1,bt146.2.2.2.1,bt146.2.2.2.2.1,bt146.2.2.2.2.2⟩ : S24)⟩ : S41),([] : List (S41))⟩ : S70)] : List (S70)) : List (S70))).bind fun y152 => ((Lw17_req.f (⟨#[98]⟩ : ByteArray) 0).bind fun bt155 => ((Lw17_req.f (⟨#[97]⟩ : ByteArray) 0).bind fun bt161 => ((some (([(⟨bt155.1,(⟨bt155.2.1,bt155.2.2.1,bt155.2.2.2.1,bt155.2.2.2.2.1,bt155.2.2.2.2.2⟩ : S24)⟩ : S41),(⟨bt161.1,(⟨bt161.2.1,bt161.2.2.1,bt161.2.2.2.1,bt161.2.2.2.2.1,bt161.2.2.2.2.2⟩ : S24)⟩ : S41)] : List (S41)) : List (S41))).bind fun y167 => ((mvs_List.f y167 y152).bind fun t170 => ((Lw17_req.f (⟨#[97]⟩ : ByteArray) 3).bind fun bt173 => ((mvs_Upgrade.f y167 bt173.1 bt173.2.1 bt173.2.2.1 bt173.2.2.2.1 bt173.2.2.2.2.1 bt173.2.2.2.2.2).bind fun t179 => ((Lw17_req.f (⟨#[99]⟩ : ByteArray) 1).bind fun bt182 => ((mvs_Downgrade.f k y167 y152 bt182.1 bt182.2.1 bt182.2.2.1 bt182.2.2.2.1 bt182.2.2.2.2.1 bt182.2.2.2.2.2).bind fun t188 => ((Lw17_req.f (⟨#[97]⟩ : ByteArray) 0).bind fun bt191 => ((Lw17_req.f (⟨#[98]⟩ : ByteArray) 0).bind fun bt197 => ((Lw17_req.f (⟨#[99]⟩ : ByteArray) 2).bind fun bt203 => ((Lw17_req.f (⟨#[100]⟩ : ByteArray) 0).bind fun bt209 => ((Rf17_Same.f k t170 (([(⟨bt191.1,(⟨bt191.2.1,bt191.2.2.1,bt191.2.2.2.1,bt191.2.2.2.2.1,bt191.2.2.2.2.2⟩ : S24)⟩ : S41),(⟨bt197.1,(⟨bt197.2.1,bt197.2.2.1,bt197.2.2.2.1,bt197.2.2.2.2.1,bt197.2.2.2.2.2⟩ : S24)⟩ : S41),(⟨bt203.1,(⟨bt203.2.1,bt203.2.2.1,bt203.2.2.2.1,bt203.2.2.2.2.1,bt203.2.2.2.2.2⟩ : S24)⟩ : S41),(⟨bt209.1,(⟨bt209.2.1,bt209.2.2.1,bt209.2.2.2.1,bt209.2.2.2.2.1,bt209.2.2.2.2.2⟩ : S24)⟩ : S41)] : List (S41)))).bind fun t218 => (if t218 = true then ((mvs_Reached.f y167 y152).bind fun t219 => (if (t219.length : Int) = 5 then ((Lw17_req.f (⟨#[98]⟩ : ByteArray) 0).bind fun bt222 => ((Lw17_req.f (⟨#[97]⟩ : ByteArray) 3).bind fun bt228 => ((Rf17_Same.f k t179 (([(⟨bt222.1,(⟨bt222.2.1,bt222.2.2.1,bt222.2.2.2.1,bt222.2.2.2.2.1,bt222.2.2.2.2.2⟩ : S24)⟩ : S41),(⟨bt228.1,(⟨bt228.2.1,bt228.2.2.1,bt228.2.2.2.1,bt228.2.2.2.2.1,bt228.2.2.2.2.2⟩ : S24)⟩ : S41)] : List (S41)))).bind fun t237 => (if t237 = true then ((Lw17_req.f (⟨#[97]⟩ : ByteArray) 0).bind fun bt238 => ((Rf17_Same.f k t188 (([(⟨bt238.1,(⟨bt238.2.1,bt238.2.2.1,bt238.2.2.2.1,bt238.2.2.2.2.1,bt238.2.2.2.2.2⟩ : S24)⟩ : S41)] : List (S41)))).bind fun t247 => (if t247 = true then ((Lw17_req.f (⟨#[122]⟩ : ByteArray) 0).bind fun bt248 => ((mvs_Upgrade.f y167 bt248.1 bt248.2.1 bt248.2.2.1 bt248.2.2.2.1 bt248.2.2.2.2.1 bt248.2.2.2.2.2).bind fun t254 => (if (t254.length : Int) = 3 then ((Lw17_req.f (⟨#[122]⟩ : ByteArray) (-1)).bind fun bt257 => ((mvs_Upgrade.f y167 bt257.1 bt257.2.1 bt257.2.2.1 bt257.2.2.2.1 bt257.2.2.2.2.1 bt257.2.2.2.2.2).bind fun t263 => (some ((t263.length : Int) == 2)))) else (some false)))) else (some false)))) else (some false))))) else (some false))) else (some false))))))))))))))))))))))) = some r:=h
 clear h
 obtain ⟨⟨t101,t102,t103,t104,t105,t106⟩,A10,H⟩:=Option.bind_eq_some_iff.mp H
 dsimp only at H
 have A1:=Aside0.mk A10
 clear A10
 obtain ⟨⟨t107,t108,t109,t110,t111,t112⟩,A20,H⟩:=Option.bind_eq_some_iff.mp H
 dsimp only at H
 have A2:=Aside0.mk A20
 clear A20
 obtain ⟨y113,hy113⟩ : ∃ y_ : List (S41),y_ = (([(⟨t107,(⟨t108,t109,t110,t111,t112⟩ : S24)⟩ : S41)] : List (S41))):=⟨_,rfl⟩
 replace H : ((Lw17_req.f (⟨#[98]⟩ : ByteArray) 0).bind fun bt116 => ((Lw17_req.f (⟨#[99]⟩ : ByteArray) 2).bind fun bt122 => ((Lw17_req.f (⟨#[99]⟩ : ByteArray) 2).bind fun bt131 => ((Lw17_req.f (⟨#[100]⟩ : ByteArray) 0).bind fun bt137 => ((Lw17_req.f (⟨#[98]⟩ : ByteArray) (-1)).bind fun bt146 => ((some (([(⟨(⟨t101,(⟨t102,t103,t104,t105,t106⟩ : S24)⟩ : S41),y113⟩ : S70),(⟨(⟨bt116.1,(⟨bt116.2.1,bt116.2.2.1,bt116.2.2.2.1,bt116.2.2.2.2.1,bt116.2.2.2.2.2⟩ : S24)⟩ : S41),(([(⟨bt122.1,(⟨bt122.2.1,bt122.2.2.1,bt122.2.2.2.1,bt122.2.2.2.2.1,bt122.2.2.2.2.2⟩ : S24)⟩ : S41)] : List (S41)))⟩ : S70),(⟨(⟨bt131.1,(⟨bt131.2.1,bt131.2.2.1,bt131.2.2.2.1,bt131.2.2.2.2.1,bt131.2.2.2.2.2⟩ : S24)⟩ : S41),(([(⟨bt137.1,(⟨bt137.2.1,bt137.2.2.1,bt137.2.2.2.1,bt137.2.2.2.2.1,bt137.2.2.2.2.2⟩ : S24)⟩ : S41)] : List (S41)))⟩ : S70),(⟨(⟨bt146.1,(⟨bt146.2.1,bt146.2.2.1,bt146.2.2.2.1,bt146.2.2.2.2.1,bt146.2.2.2.2.2⟩ : S24)⟩ : S41),([] : List (S41))⟩ : S70)] : List (S70)) : List (S70))).bind fun y152 => ((Lw17_req.f (⟨#[98]⟩ : ByteArray) 0).bind fun bt155 => ((Lw17_req.f (⟨#[97]⟩ : ByteArray) 0).bind fun bt161 => ((some (([(⟨bt155.1,(⟨bt155.2.1,bt155.2.2.1,bt155.2.2.2.1,bt155.2.2.2.2.1,bt155.2.2.2.2.2⟩ : S24)⟩ : S41),(⟨bt161.1,(⟨bt161.2.1,bt161.2.2.1,bt161.2.2.2.1,bt161.2.2.2.2.1,bt161.2.2.2.2.2⟩ : S24)⟩ : S41)] : List (S41)) : List (S41))).bind fun y167 => ((mvs_List.f y167 y152).bind fun t170 => ((Lw17_req.f (⟨#[97]⟩ : ByteArray) 3).bind fun bt173 => ((mvs_Upgrade.f y167 bt173.1 bt173.2.1 bt173.2.2.1 bt173.2.2.2.1 bt173.2.2.2.2.1 bt173.2.2.2.2.2).bind fun t179 => ((Lw17_req.f (⟨#[99]⟩ : ByteArray) 1).bind fun bt182 => ((mvs_Downgrade.f k y167 y152 bt182.1 bt182.2.1 bt182.2.2.1 bt182.2.2.2.1 bt182.2.2.2.2.1 bt182.2.2.2.2.2).bind fun t188 => ((Lw17_req.f (⟨#[97]⟩ : ByteArray) 0).bind fun bt191 => ((Lw17_req.f (⟨#[98]⟩ : ByteArray) 0).bind fun bt197 => ((Lw17_req.f (⟨#[99]⟩ : ByteArray) 2).bind fun bt203 => ((Lw17_req.f (⟨#[100]⟩ : ByteArray) 0).bind fun bt209 => ((Rf17_Same.f k t170 (([(⟨bt191.1,(⟨bt191.2.1,bt191.2.2.1,bt191.2.2.2.1,bt191.2.2.2.2.1,bt191.2.2.2.2.2⟩ : S24)⟩ : S41),(⟨bt197.1,(⟨bt197.2.1,bt197.2.2.1,bt197.2.2.2.1,bt197.2.2.2.2.1,bt197.2.2.2.2.2⟩ : S24)⟩ : S41),(⟨bt203.1,(⟨bt203.2.1,bt203.2.2.1,bt203.2.2.2.1,bt203.2.2.2.2.1,bt203.2.2.2.2.2⟩ : S24)⟩ : S41),(⟨bt209.1,(⟨bt209.2.1,bt209.2.2.1,bt209.2.2.2.1,bt209.2.2.2.2.1,bt209.2.2.2.2.2⟩ : S24)⟩ : S41)] : List (S41)))).bind fun t218 => (if t218 = true then ((mvs_Reached.f y167 y152).bind fun t219 => (if (t219.length : Int) = 5 then ((Lw17_req.f (⟨#[98]⟩ : ByteArray) 0).bind fun bt222 => ((Lw17_req.f (⟨#[97]⟩ : ByteArray) 3).bind fun bt228 => ((Rf17_Same.f k t179 (([(⟨bt222.1,(⟨bt222.2.1,bt222.2.2.1,bt222.2.2.2.1,bt222.2.2.2.2.1,bt222.2.2.2.2.2⟩ : S24)⟩ : S41),(⟨bt228.1,(⟨bt228.2.1,bt228.2.2.1,bt228.2.2.2.1,bt228.2.2.2.2.1,bt228.2.2.2.2.2⟩ : S24)⟩ : S41)] : List (S41)))).bind fun t237 => (if t237 = true then ((Lw17_req.f (⟨#[97]⟩ : ByteArray) 0).bind fun bt238 => ((Rf17_Same.f k t188 (([(⟨bt238.1,(⟨bt238.2.1,bt238.2.2.1,bt238.2.2.2.1,bt238.2.2.2.2.1,bt238.2.2.2.2.2⟩ : S24)⟩ : S41)] : List (S41)))).bind fun t247 => (if t247 = true then ((Lw17_req.f (⟨#[122]⟩ : ByteArray) 0).bind fun bt248 => ((mvs_Upgrade.f y167 bt248.1 bt248.2.1 bt248.2.2.1 bt248.2.2.2.1 bt248.2.2.2.2.1 bt248.2.2.2.2.2).bind fun t254 => (if (t254.length : Int) = 3 then ((Lw17_req.f (⟨#[122]⟩ : ByteArray) (-1)).bind fun bt257 => ((mvs_Upgrade.f y167 bt257.1 bt257.2.1 bt257.2.2.1 bt257.2.2.2.1 bt257.2.2.2.2.1 bt257.2.2.2.2.2).bind fun t263 => (some ((t263.length : Int) == 2)))) else (some false)))) else (some false)))) else (some false))))) else (some false))) else (some false))))))))))))))))))))) = some r:=by first | (rw [hy113];with_reducible exact H) | (have H2_:=(Option.bind_some _ _).symm.trans H;rw [hy113];with_reducible exact H2_) | (have H2_:=(Option.bind_some _ _).symm.trans H;with_reducible exact H2_) | with_reducible exact H | (rw [hy113];exact H) | exact H
 have Ny113:=Aside0.mk hy113
 clear hy113
 obtain ⟨⟨t116,t117,t118,t119,t120,t121⟩,A30,H⟩:=Option.bind_eq_some_iff.mp H
 dsimp only at H
 have A3:=Aside0.mk A30
 clear A30
 obtain ⟨⟨t122,t123,t124,t125,t126,t127⟩,A40,H⟩:=Option.bind_eq_some_iff.mp H
 dsimp only at H
 have A4:=Aside0.mk A40
 clear A40
 obtain ⟨y128,hy128⟩ : ∃ y_ : List (S41),y_ = (([(⟨t122,(⟨t123,t124,t125,t126,t127⟩ : S24)⟩ : S41)] : List (S41))):=⟨_,rfl⟩
 replace H : ((Lw17_req.f (⟨#[99]⟩ : ByteArray) 2).bind fun bt131 => ((Lw17_req.f (⟨#[100]⟩ : ByteArray) 0).bind fun bt137 => ((Lw17_req.f (⟨#[98]⟩ : ByteArray) (-1)).bind fun bt146 => ((some (([(⟨(⟨t101,(⟨t102,t103,t104,t105,t106⟩ : S24)⟩ : S41),y113⟩ : S70),(⟨(⟨t116,(⟨t117,t118,t119,t120,t121⟩ : S24)⟩ : S41),y128⟩ : S70),(⟨(⟨bt131.1,(⟨bt131.2.1,bt131.2.2.1,bt131.2.2.2.1,bt131.2.2.2.2.1,bt131.2.2.2.2.2⟩ : S24)⟩ : S41),(([(⟨bt137.1,(⟨bt137.2.1,bt137.2.2.1,bt137.2.2.2.1,bt137.2.2.2.2.1,bt137.2.2.2.2.2⟩ : S24)⟩ : S41)] : List (S41)))⟩ : S70),(⟨(⟨bt146.1,(⟨bt146.2.1,bt146.2.2.1,bt146.2.2.2.1,bt146.2.2.2.2.1,bt146.2.2.2.2.2⟩ : S24)⟩ : S41),([] : List (S41))⟩ : S70)] : List (S70)) : List (S70))).bind fun y152 => ((Lw17_req.f (⟨#[98]⟩ : ByteArray) 0).bind fun bt155 => ((Lw17_req.f (⟨#[97]⟩ : ByteArray) 0).bind fun bt161 => ((some (([(⟨bt155.1,(⟨bt155.2.1,bt155.2.2.1,bt155.2.2.2.1,bt155.2.2.2.2.1,bt155.2.2.2.2.2⟩ : S24)⟩ : S41),(⟨bt161.1,(⟨bt161.2.1,bt161.2.2.1,bt161.2.2.2.1,bt161.2.2.2.2.1,bt161.2.2.2.2.2⟩ : S24)⟩ : S41)] : List (S41)) : List (S41))).bind fun y167 => ((mvs_List.f y167 y152).bind fun t170 => ((Lw17_req.f (⟨#[97]⟩ : ByteArray) 3).bind fun bt173 => ((mvs_Upgrade.f y167 bt173.1 bt173.2.1 bt173.2.2.1 bt173.2.2.2.1 bt173.2.2.2.2.1 bt173.2.2.2.2.2).bind fun t179 => ((Lw17_req.f (⟨#[99]⟩ : ByteArray) 1).bind fun bt182 => ((mvs_Downgrade.f k y167 y152 bt182.1 bt182.2.1 bt182.2.2.1 bt182.2.2.2.1 bt182.2.2.2.2.1 bt182.2.2.2.2.2).bind fun t188 => ((Lw17_req.f (⟨#[97]⟩ : ByteArray) 0).bind fun bt191 => ((Lw17_req.f (⟨#[98]⟩ : ByteArray) 0).bind fun bt197 => ((Lw17_req.f (⟨#[99]⟩ : ByteArray) 2).bind fun bt203 => ((Lw17_req.f (⟨#[100]⟩ : ByteArray) 0).bind fun bt209 => ((Rf17_Same.f k t170 (([(⟨bt191.1,(⟨bt191.2.1,bt191.2.2.1,bt191.2.2.2.1,bt191.2.2.2.2.1,bt191.2.2.2.2.2⟩ : S24)⟩ : S41),(⟨bt197.1,(⟨bt197.2.1,bt197.2.2.1,bt197.2.2.2.1,bt197.2.2.2.2.1,bt197.2.2.2.2.2⟩ : S24)⟩ : S41),(⟨bt203.1,(⟨bt203.2.1,bt203.2.2.1,bt203.2.2.2.1,bt203.2.2.2.2.1,bt203.2.2.2.2.2⟩ : S24)⟩ : S41),(⟨bt209.1,(⟨bt209.2.1,bt209.2.2.1,bt209.2.2.2.1,bt209.2.2.2.2.1,bt209.2.2.2.2.2⟩ : S24)⟩ : S41)] : List (S41)))).bind fun t218 => (if t218 = true then ((mvs_Reached.f y167 y152).bind fun t219 => (if (t219.length : Int) = 5 then ((Lw17_req.f (⟨#[98]⟩ : ByteArray) 0).bind fun bt222 => ((Lw17_req.f (⟨#[97]⟩ : ByteArray) 3).bind fun bt228 => ((Rf17_Same.f k t179 (([(⟨bt222.1,(⟨bt222.2.1,bt222.2.2.1,bt222.2.2.2.1,bt222.2.2.2.2.1,bt222.2.2.2.2.2⟩ : S24)⟩ : S41),(⟨bt228.1,(⟨bt228.2.1,bt228.2.2.1,bt228.2.2.2.1,bt228.2.2.2.2.1,bt228.2.2.2.2.2⟩ : S24)⟩ : S41)] : List (S41)))).bind fun t237 => (if t237 = true then ((Lw17_req.f (⟨#[97]⟩ : ByteArray) 0).bind fun bt238 => ((Rf17_Same.f k t188 (([(⟨bt238.1,(⟨bt238.2.1,bt238.2.2.1,bt238.2.2.2.1,bt238.2.2.2.2.1,bt238.2.2.2.2.2⟩ : S24)⟩ : S41)] : List (S41)))).bind fun t247 => (if t247 = true then ((Lw17_req.f (⟨#[122]⟩ : ByteArray) 0).bind fun bt248 => ((mvs_Upgrade.f y167 bt248.1 bt248.2.1 bt248.2.2.1 bt248.2.2.2.1 bt248.2.2.2.2.1 bt248.2.2.2.2.2).bind fun t254 => (if (t254.length : Int) = 3 then ((Lw17_req.f (⟨#[122]⟩ : ByteArray) (-1)).bind fun bt257 => ((mvs_Upgrade.f y167 bt257.1 bt257.2.1 bt257.2.2.1 bt257.2.2.2.1 bt257.2.2.2.2.1 bt257.2.2.2.2.2).bind fun t263 => (some ((t263.length : Int) == 2)))) else (some false)))) else (some false)))) else (some false))))) else (some false))) else (some false))))))))))))))))))) = some r:=by first | (rw [hy128];with_reducible exact H) | (have H2_:=(Option.bind_some _ _).symm.trans H;rw [hy128];with_reducible exact H2_) | (have H2_:=(Option.bind_some _ _).symm.trans H;with_reducible exact H2_) | with_reducible exact H | (rw [hy128];exact H) | exact H
 have Ny128:=Aside0.mk hy128
 clear hy128
 obtain ⟨⟨t131,t132,t133,t134,t135,t136⟩,A50,H⟩:=Option.bind_eq_some_iff.mp H
 dsimp only at H
 have A5:=Aside0.mk A50
 clear A50
 obtain ⟨⟨t137,t138,t139,t140,t141,t142⟩,A60,H⟩:=Option.bind_eq_some_iff.mp H
 dsimp only at H
 have A6:=Aside0.mk A60
 clear A60
 obtain ⟨y143,hy143⟩ : ∃ y_ : List (S41),y_ = (([(⟨t137,(⟨t138,t139,t140,t141,t142⟩ : S24)⟩ : S41)] : List (S41))):=⟨_,rfl⟩
 replace H : ((Lw17_req.f (⟨#[98]⟩ : ByteArray) (-1)).bind fun bt146 => ((some (([(⟨(⟨t101,(⟨t102,t103,t104,t105,t106⟩ : S24)⟩ : S41),y113⟩ : S70),(⟨(⟨t116,(⟨t117,t118,t119,t120,t121⟩ : S24)⟩ : S41),y128⟩ : S70),(⟨(⟨t131,(⟨t132,t133,t134,t135,t136⟩ : S24)⟩ : S41),y143⟩ : S70),(⟨(⟨bt146.1,(⟨bt146.2.1,bt146.2.2.1,bt146.2.2.2.1,bt146.2.2.2.2.1,bt146.2.2.2.2.2⟩ : S24)⟩ : S41),([] : List (S41))⟩ : S70)] : List (S70)) : List (S70))).bind fun y152 => ((Lw17_req.f (⟨#[98]⟩ : ByteArray) 0).bind fun bt155 => ((Lw17_req.f (⟨#[97]⟩ : ByteArray) 0).bind fun bt161 => ((some (([(⟨bt155.1,(⟨bt155.2.1,bt155.2.2.1,bt155.2.2.2.1,bt155.2.2.2.2.1,bt155.2.2.2.2.2⟩ : S24)⟩ : S41),(⟨bt161.1,(⟨bt161.2.1,bt161.2.2.1,bt161.2.2.2.1,bt161.2.2.2.2.1,bt161.2.2.2.2.2⟩ : S24)⟩ : S41)] : List (S41)) : List (S41))).bind fun y167 => ((mvs_List.f y167 y152).bind fun t170 => ((Lw17_req.f (⟨#[97]⟩ : ByteArray) 3).bind fun bt173 => ((mvs_Upgrade.f y167 bt173.1 bt173.2.1 bt173.2.2.1 bt173.2.2.2.1 bt173.2.2.2.2.1 bt173.2.2.2.2.2).bind fun t179 => ((Lw17_req.f (⟨#[99]⟩ : ByteArray) 1).bind fun bt182 => ((mvs_Downgrade.f k y167 y152 bt182.1 bt182.2.1 bt182.2.2.1 bt182.2.2.2.1 bt182.2.2.2.2.1 bt182.2.2.2.2.2).bind fun t188 => ((Lw17_req.f (⟨#[97]⟩ : ByteArray) 0).bind fun bt191 => ((Lw17_req.f (⟨#[98]⟩ : ByteArray) 0).bind fun bt197 => ((Lw17_req.f (⟨#[99]⟩ : ByteArray) 2).bind fun bt203 => ((Lw17_req.f (⟨#[100]⟩ : ByteArray) 0).bind fun bt209 => ((Rf17_Same.f k t170 (([(⟨bt191.1,(⟨bt191.2.1,bt191.2.2.1,bt191.2.2.2.1,bt191.2.2.2.2.1,bt191.2.2.2.2.2⟩ : S24)⟩ : S41),(⟨bt197.1,(⟨bt197.2.1,bt197.2.2.1,bt197.2.2.2.1,bt197.2.2.2.2.1,bt197.2.2.2.2.2⟩ : S24)⟩ : S41),(⟨bt203.1,(⟨bt203.2.1,bt203.2.2.1,bt203.2.2.2.1,bt203.2.2.2.2.1,bt203.2.2.2.2.2⟩ : S24)⟩ : S41),(⟨bt209.1,(⟨bt209.2.1,bt209.2.2.1,bt209.2.2.2.1,bt209.2.2.2.2.1,bt209.2.2.2.2.2⟩ : S24)⟩ : S41)] : List (S41)))).bind fun t218 => (if t218 = true then ((mvs_Reached.f y167 y152).bind fun t219 => (if (t219.length : Int) = 5 then ((Lw17_req.f (⟨#[98]⟩ : ByteArray) 0).bind fun bt222 => ((Lw17_req.f (⟨#[97]⟩ : ByteArray) 3).bind fun bt228 => ((Rf17_Same.f k t179 (([(⟨bt222.1,(⟨bt222.2.1,bt222.2.2.1,bt222.2.2.2.1,bt222.2.2.2.2.1,bt222.2.2.2.2.2⟩ : S24)⟩ : S41),(⟨bt228.1,(⟨bt228.2.1,bt228.2.2.1,bt228.2.2.2.1,bt228.2.2.2.2.1,bt228.2.2.2.2.2⟩ : S24)⟩ : S41)] : List (S41)))).bind fun t237 => (if t237 = true then ((Lw17_req.f (⟨#[97]⟩ : ByteArray) 0).bind fun bt238 => ((Rf17_Same.f k t188 (([(⟨bt238.1,(⟨bt238.2.1,bt238.2.2.1,bt238.2.2.2.1,bt238.2.2.2.2.1,bt238.2.2.2.2.2⟩ : S24)⟩ : S41)] : List (S41)))).bind fun t247 => (if t247 = true then ((Lw17_req.f (⟨#[122]⟩ : ByteArray) 0).bind fun bt248 => ((mvs_Upgrade.f y167 bt248.1 bt248.2.1 bt248.2.2.1 bt248.2.2.2.1 bt248.2.2.2.2.1 bt248.2.2.2.2.2).bind fun t254 => (if (t254.length : Int) = 3 then ((Lw17_req.f (⟨#[122]⟩ : ByteArray) (-1)).bind fun bt257 => ((mvs_Upgrade.f y167 bt257.1 bt257.2.1 bt257.2.2.1 bt257.2.2.2.1 bt257.2.2.2.2.1 bt257.2.2.2.2.2).bind fun t263 => (some ((t263.length : Int) == 2)))) else (some false)))) else (some false)))) else (some false))))) else (some false))) else (some false))))))))))))))))) = some r:=by first | (rw [hy143];with_reducible exact H) | (have H2_:=(Option.bind_some _ _).symm.trans H;rw [hy143];with_reducible exact H2_) | (have H2_:=(Option.bind_some _ _).symm.trans H;with_reducible exact H2_) | with_reducible exact H | (rw [hy143];exact H) | exact H
 have Ny143:=Aside0.mk hy143
 clear hy143
 obtain ⟨⟨t146,t147,t148,t149,t150,t151⟩,A70,H⟩:=Option.bind_eq_some_iff.mp H
 dsimp only at H
 have A7:=Aside0.mk A70
 clear A70
 obtain ⟨y152,hy152⟩ : ∃ y_ : List (S70),y_ = (([(⟨(⟨t101,(⟨t102,t103,t104,t105,t106⟩ : S24)⟩ : S41),y113⟩ : S70),(⟨(⟨t116,(⟨t117,t118,t119,t120,t121⟩ : S24)⟩ : S41),y128⟩ : S70),(⟨(⟨t131,(⟨t132,t133,t134,t135,t136⟩ : S24)⟩ : S41),y143⟩ : S70),(⟨(⟨t146,(⟨t147,t148,t149,t150,t151⟩ : S24)⟩ : S41),([] : List (S41))⟩ : S70)] : List (S70))):=⟨_,rfl⟩
 replace H : ((Lw17_req.f (⟨#[98]⟩ : ByteArray) 0).bind fun bt155 => ((Lw17_req.f (⟨#[97]⟩ : ByteArray) 0).bind fun bt161 => ((some (([(⟨bt155.1,(⟨bt155.2.1,bt155.2.2.1,bt155.2.2.2.1,bt155.2.2.2.2.1,bt155.2.2.2.2.2⟩ : S24)⟩ : S41),(⟨bt161.1,(⟨bt161.2.1,bt161.2.2.1,bt161.2.2.2.1,bt161.2.2.2.2.1,bt161.2.2.2.2.2⟩ : S24)⟩ : S41)] : List (S41)) : List (S41))).bind fun y167 => ((mvs_List.f y167 y152).bind fun t170 => ((Lw17_req.f (⟨#[97]⟩ : ByteArray) 3).bind fun bt173 => ((mvs_Upgrade.f y167 bt173.1 bt173.2.1 bt173.2.2.1 bt173.2.2.2.1 bt173.2.2.2.2.1 bt173.2.2.2.2.2).bind fun t179 => ((Lw17_req.f (⟨#[99]⟩ : ByteArray) 1).bind fun bt182 => ((mvs_Downgrade.f k y167 y152 bt182.1 bt182.2.1 bt182.2.2.1 bt182.2.2.2.1 bt182.2.2.2.2.1 bt182.2.2.2.2.2).bind fun t188 => ((Lw17_req.f (⟨#[97]⟩ : ByteArray) 0).bind fun bt191 => ((Lw17_req.f (⟨#[98]⟩ : ByteArray) 0).bind fun bt197 => ((Lw17_req.f (⟨#[99]⟩ : ByteArray) 2).bind fun bt203 => ((Lw17_req.f (⟨#[100]⟩ : ByteArray) 0).bind fun bt209 => ((Rf17_Same.f k t170 (([(⟨bt191.1,(⟨bt191.2.1,bt191.2.2.1,bt191.2.2.2.1,bt191.2.2.2.2.1,bt191.2.2.2.2.2⟩ : S24)⟩ : S41),(⟨bt197.1,(⟨bt197.2.1,bt197.2.2.1,bt197.2.2.2.1,bt197.2.2.2.2.1,bt197.2.2.2.2.2⟩ : S24)⟩ : S41),(⟨bt203.1,(⟨bt203.2.1,bt203.2.2.1,bt203.2.2.2.1,bt203.2.2.2.2.1,bt203.2.2.2.2.2⟩ : S24)⟩ : S41),(⟨bt209.1,(⟨bt209.2.1,bt209.2.2.1,bt209.2.2.2.1,bt209.2.2.2.2.1,bt209.2.2.2.2.2⟩ : S24)⟩ : S41)] : List (S41)))).bind fun t218 => (if t218 = true then ((mvs_Reached.f y167 y152).bind fun t219 => (if (t219.length : Int) = 5 then ((Lw17_req.f (⟨#[98]⟩ : ByteArray) 0).bind fun bt222 => ((Lw17_req.f (⟨#[97]⟩ : ByteArray) 3).bind fun bt228 => ((Rf17_Same.f k t179 (([(⟨bt222.1,(⟨bt222.2.1,bt222.2.2.1,bt222.2.2.2.1,bt222.2.2.2.2.1,bt222.2.2.2.2.2⟩ : S24)⟩ : S41),(⟨bt228.1,(⟨bt228.2.1,bt228.2.2.1,bt228.2.2.2.1,bt228.2.2.2.2.1,bt228.2.2.2.2.2⟩ : S24)⟩ : S41)] : List (S41)))).bind fun t237 => (if t237 = true then ((Lw17_req.f (⟨#[97]⟩ : ByteArray) 0).bind fun bt238 => ((Rf17_Same.f k t188 (([(⟨bt238.1,(⟨bt238.2.1,bt238.2.2.1,bt238.2.2.2.1,bt238.2.2.2.2.1,bt238.2.2.2.2.2⟩ : S24)⟩ : S41)] : List (S41)))).bind fun t247 => (if t247 = true then ((Lw17_req.f (⟨#[122]⟩ : ByteArray) 0).bind fun bt248 => ((mvs_Upgrade.f y167 bt248.1 bt248.2.1 bt248.2.2.1 bt248.2.2.2.1 bt248.2.2.2.2.1 bt248.2.2.2.2.2).bind fun t254 => (if (t254.length : Int) = 3 then ((Lw17_req.f (⟨#[122]⟩ : ByteArray) (-1)).bind fun bt257 => ((mvs_Upgrade.f y167 bt257.1 bt257.2.1 bt257.2.2.1 bt257.2.2.2.1 bt257.2.2.2.2.1 bt257.2.2.2.2.2).bind fun t263 => (some ((t263.length : Int) == 2)))) else (some false)))) else (some false)))) else (some false))))) else (some false))) else (some false))))))))))))))) = some r:=by first | (rw [hy152];with_reducible exact H) | (have H2_:=(Option.bind_some _ _).symm.trans H;rw [hy152];with_reducible exact H2_) | (have H2_:=(Option.bind_some _ _).symm.trans H;with_reducible exact H2_) | with_reducible exact H | (rw [hy152];exact H) | exact H
 have Ny152:=Aside0.mk hy152
 clear hy152
 obtain ⟨⟨t155,t156,t157,t158,t159,t160⟩,A80,H⟩:=Option.bind_eq_some_iff.mp H
 dsimp only at H
 have A8:=Aside0.mk A80
 clear A80
 obtain ⟨⟨t161,t162,t163,t164,t165,t166⟩,A90,H⟩:=Option.bind_eq_some_iff.mp H
 dsimp only at H
 have A9:=Aside0.mk A90
 clear A90
 obtain ⟨y167,hy167⟩ : ∃ y_ : List (S41),y_ = (([(⟨t155,(⟨t156,t157,t158,t159,t160⟩ : S24)⟩ : S41),(⟨t161,(⟨t162,t163,t164,t165,t166⟩ : S24)⟩ : S41)] : List (S41))):=⟨_,rfl⟩
 replace H : ((mvs_List.f y167 y152).bind fun t170 => ((Lw17_req.f (⟨#[97]⟩ : ByteArray) 3).bind fun bt173 => ((mvs_Upgrade.f y167 bt173.1 bt173.2.1 bt173.2.2.1 bt173.2.2.2.1 bt173.2.2.2.2.1 bt173.2.2.2.2.2).bind fun t179 => ((Lw17_req.f (⟨#[99]⟩ : ByteArray) 1).bind fun bt182 => ((mvs_Downgrade.f k y167 y152 bt182.1 bt182.2.1 bt182.2.2.1 bt182.2.2.2.1 bt182.2.2.2.2.1 bt182.2.2.2.2.2).bind fun t188 => ((Lw17_req.f (⟨#[97]⟩ : ByteArray) 0).bind fun bt191 => ((Lw17_req.f (⟨#[98]⟩ : ByteArray) 0).bind fun bt197 => ((Lw17_req.f (⟨#[99]⟩ : ByteArray) 2).bind fun bt203 => ((Lw17_req.f (⟨#[100]⟩ : ByteArray) 0).bind fun bt209 => ((Rf17_Same.f k t170 (([(⟨bt191.1,(⟨bt191.2.1,bt191.2.2.1,bt191.2.2.2.1,bt191.2.2.2.2.1,bt191.2.2.2.2.2⟩ : S24)⟩ : S41),(⟨bt197.1,(⟨bt197.2.1,bt197.2.2.1,bt197.2.2.2.1,bt197.2.2.2.2.1,bt197.2.2.2.2.2⟩ : S24)⟩ : S41),(⟨bt203.1,(⟨bt203.2.1,bt203.2.2.1,bt203.2.2.2.1,bt203.2.2.2.2.1,bt203.2.2.2.2.2⟩ : S24)⟩ : S41),(⟨bt209.1,(⟨bt209.2.1,bt209.2.2.1,bt209.2.2.2.1,bt209.2.2.2.2.1,bt209.2.2.2.2.2⟩ : S24)⟩ : S41)] : List (S41)))).bind fun t218 => (if t218 = true then ((mvs_Reached.f y167 y152).bind fun t219 => (if (t219.length : Int) = 5 then ((Lw17_req.f (⟨#[98]⟩ : ByteArray) 0).bind fun bt222 => ((Lw17_req.f (⟨#[97]⟩ : ByteArray) 3).bind fun bt228 => ((Rf17_Same.f k t179 (([(⟨bt222.1,(⟨bt222.2.1,bt222.2.2.1,bt222.2.2.2.1,bt222.2.2.2.2.1,bt222.2.2.2.2.2⟩ : S24)⟩ : S41),(⟨bt228.1,(⟨bt228.2.1,bt228.2.2.1,bt228.2.2.2.1,bt228.2.2.2.2.1,bt228.2.2.2.2.2⟩ : S24)⟩ : S41)] : List (S41)))).bind fun t237 => (if t237 = true then ((Lw17_req.f (⟨#[97]⟩ : ByteArray) 0).bind fun bt238 => ((Rf17_Same.f k t188 (([(⟨bt238.1,(⟨bt238.2.1,bt238.2.2.1,bt238.2.2.2.1,bt238.2.2.2.2.1,bt238.2.2.2.2.2⟩ : S24)⟩ : S41)] : List (S41)))).bind fun t247 => (if t247 = true then ((Lw17_req.f (⟨#[122]⟩ : ByteArray) 0).bind fun bt248 => ((mvs_Upgrade.f y167 bt248.1 bt248.2.1 bt248.2.2.1 bt248.2.2.2.1 bt248.2.2.2.2.1 bt248.2.2.2.2.2).bind fun t254 => (if (t254.length : Int) = 3 then ((Lw17_req.f (⟨#[122]⟩ : ByteArray) (-1)).bind fun bt257 => ((mvs_Upgrade.f y167 bt257.1 bt257.2.1 bt257.2.2.1 bt257.2.2.2.1 bt257.2.2.2.2.1 bt257.2.2.2.2.2).bind fun t263 => (some ((t263.length : Int) == 2)))) else (some false)))) else (some false)))) else (some false))))) else (some false))) else (some false)))))))))))) = some r:=by first | (rw [hy167];with_reducible exact H) | (have H2_:=(Option.bind_some _ _).symm.trans H;rw [hy167];with_reducible exact H2_) | (have H2_:=(Option.bind_some _ _).symm.trans H;with_reducible exact H2_) | with_reducible exact H | (rw [hy167];exact H) | exact H
 have Ny167:=Aside0.mk hy167
 clear hy167
 obtain ⟨t170,A100,H⟩:=Option.bind_eq_some_iff.mp H
 have A10:=Aside0.mk A100
 clear A100
 obtain ⟨⟨t173,t174,t175,t176,t177,t178⟩,A110,H⟩:=Option.bind_eq_some_iff.mp H
 dsimp only at H
 have A11:=Aside0.mk A110
 clear A110
 obtain ⟨t179,A120,H⟩:=Option.bind_eq_some_iff.mp H
 have A12:=Aside0.mk A120
 clear A120
 obtain ⟨⟨t182,t183,t184,t185,t186,t187⟩,A130,H⟩:=Option.bind_eq_some_iff.mp H
 dsimp only at H
 have A13:=Aside0.mk A130
 clear A130
 obtain ⟨t188,A140,H⟩:=Option.bind_eq_some_iff.mp H
 have A14:=Aside0.mk A140
 clear A140
 obtain ⟨⟨t191,t192,t193,t194,t195,t196⟩,A150,H⟩:=Option.bind_eq_some_iff.mp H
 dsimp only at H
 have A15:=Aside0.mk A150
 clear A150
 obtain ⟨⟨t197,t198,t199,t200,t201,t202⟩,A160,H⟩:=Option.bind_eq_some_iff.mp H
 dsimp only at H
 have A16:=Aside0.mk A160
 clear A160
 obtain ⟨⟨t203,t204,t205,t206,t207,t208⟩,A170,H⟩:=Option.bind_eq_some_iff.mp H
 dsimp only at H
 have A17:=Aside0.mk A170
 clear A170
 obtain ⟨⟨t209,t210,t211,t212,t213,t214⟩,A180,H⟩:=Option.bind_eq_some_iff.mp H
 dsimp only at H
 have A18:=Aside0.mk A180
 clear A180
 obtain ⟨y215,hy215⟩ : ∃ y_ : List (S41),y_ = (([(⟨t191,(⟨t192,t193,t194,t195,t196⟩ : S24)⟩ : S41),(⟨t197,(⟨t198,t199,t200,t201,t202⟩ : S24)⟩ : S41),(⟨t203,(⟨t204,t205,t206,t207,t208⟩ : S24)⟩ : S41),(⟨t209,(⟨t210,t211,t212,t213,t214⟩ : S24)⟩ : S41)] : List (S41))):=⟨_,rfl⟩
 replace H : ((Rf17_Same.f k t170 y215).bind fun t218 => (if t218 = true then ((mvs_Reached.f y167 y152).bind fun t219 => (if (t219.length : Int) = 5 then ((Lw17_req.f (⟨#[98]⟩ : ByteArray) 0).bind fun bt222 => ((Lw17_req.f (⟨#[97]⟩ : ByteArray) 3).bind fun bt228 => ((Rf17_Same.f k t179 (([(⟨bt222.1,(⟨bt222.2.1,bt222.2.2.1,bt222.2.2.2.1,bt222.2.2.2.2.1,bt222.2.2.2.2.2⟩ : S24)⟩ : S41),(⟨bt228.1,(⟨bt228.2.1,bt228.2.2.1,bt228.2.2.2.1,bt228.2.2.2.2.1,bt228.2.2.2.2.2⟩ : S24)⟩ : S41)] : List (S41)))).bind fun t237 => (if t237 = true then ((Lw17_req.f (⟨#[97]⟩ : ByteArray) 0).bind fun bt238 => ((Rf17_Same.f k t188 (([(⟨bt238.1,(⟨bt238.2.1,bt238.2.2.1,bt238.2.2.2.1,bt238.2.2.2.2.1,bt238.2.2.2.2.2⟩ : S24)⟩ : S41)] : List (S41)))).bind fun t247 => (if t247 = true then ((Lw17_req.f (⟨#[122]⟩ : ByteArray) 0).bind fun bt248 => ((mvs_Upgrade.f y167 bt248.1 bt248.2.1 bt248.2.2.1 bt248.2.2.2.1 bt248.2.2.2.2.1 bt248.2.2.2.2.2).bind fun t254 => (if (t254.length : Int) = 3 then ((Lw17_req.f (⟨#[122]⟩ : ByteArray) (-1)).bind fun bt257 => ((mvs_Upgrade.f y167 bt257.1 bt257.2.1 bt257.2.2.1 bt257.2.2.2.1 bt257.2.2.2.2.1 bt257.2.2.2.2.2).bind fun t263 => (some ((t263.length : Int) == 2)))) else (some false)))) else (some false)))) else (some false))))) else (some false))) else (some false))) = some r:=by first | (rw [hy215];with_reducible exact H) | (have H2_:=(Option.bind_some _ _).symm.trans H;rw [hy215];with_reducible exact H2_) | (have H2_:=(Option.bind_some _ _).symm.trans H;with_reducible exact H2_) | with_reducible exact H | (rw [hy215];exact H) | exact H
 have Ny215:=Aside0.mk hy215
 clear hy215
 obtain ⟨t218,A190,H⟩:=Option.bind_eq_some_iff.mp H
 have A19:=Aside0.mk A190
 clear A190
 by_cases c20 : t218 = true
 ·subst c20
  rw [if_pos rfl] at H
  obtain ⟨t219,A210,H⟩:=Option.bind_eq_some_iff.mp H
  have A21:=Aside0.mk A210
  clear A210
  by_cases c22 : (t219.length : Int) = 5
  ·rw [if_pos c22] at H
   have c22b0 : ((t219.length : Int) == 5) = true:=beq_iff_eq.mpr c22
   have c22b1 : ((t219.length : Int) != 5) = false:=bne_eq_false_iff_eq.mpr c22
   clear c22
   obtain ⟨⟨t222,t223,t224,t225,t226,t227⟩,A230,H⟩:=Option.bind_eq_some_iff.mp H
   dsimp only at H
   have A23:=Aside0.mk A230
   clear A230
   obtain ⟨⟨t228,t229,t230,t231,t232,t233⟩,A240,H⟩:=Option.bind_eq_some_iff.mp H
   dsimp only at H
   have A24:=Aside0.mk A240
   clear A240
   obtain ⟨y234,hy234⟩ : ∃ y_ : List (S41),y_ = (([(⟨t222,(⟨t223,t224,t225,t226,t227⟩ : S24)⟩ : S41),(⟨t228,(⟨t229,t230,t231,t232,t233⟩ : S24)⟩ : S41)] : List (S41))):=⟨_,rfl⟩
   replace H : ((Rf17_Same.f k t179 y234).bind fun t237 => (if t237 = true then ((Lw17_req.f (⟨#[97]⟩ : ByteArray) 0).bind fun bt238 => ((Rf17_Same.f k t188 (([(⟨bt238.1,(⟨bt238.2.1,bt238.2.2.1,bt238.2.2.2.1,bt238.2.2.2.2.1,bt238.2.2.2.2.2⟩ : S24)⟩ : S41)] : List (S41)))).bind fun t247 => (if t247 = true then ((Lw17_req.f (⟨#[122]⟩ : ByteArray) 0).bind fun bt248 => ((mvs_Upgrade.f y167 bt248.1 bt248.2.1 bt248.2.2.1 bt248.2.2.2.1 bt248.2.2.2.2.1 bt248.2.2.2.2.2).bind fun t254 => (if (t254.length : Int) = 3 then ((Lw17_req.f (⟨#[122]⟩ : ByteArray) (-1)).bind fun bt257 => ((mvs_Upgrade.f y167 bt257.1 bt257.2.1 bt257.2.2.1 bt257.2.2.2.1 bt257.2.2.2.2.1 bt257.2.2.2.2.2).bind fun t263 => (some ((t263.length : Int) == 2)))) else (some false)))) else (some false)))) else (some false))) = some r:=by first | (rw [hy234];with_reducible exact H) | (have H2_:=(Option.bind_some _ _).symm.trans H;rw [hy234];with_reducible exact H2_) | (have H2_:=(Option.bind_some _ _).symm.trans H;with_reducible exact H2_) | with_reducible exact H | (rw [hy234];exact H) | exact H
   have Ny234:=Aside0.mk hy234
   clear hy234
   obtain ⟨t237,A250,H⟩:=Option.bind_eq_some_iff.mp H
   have A25:=Aside0.mk A250
   clear A250
   by_cases c26 : t237 = true
   ·subst c26
    rw [if_pos rfl] at H
    obtain ⟨⟨t238,t239,t240,t241,t242,t243⟩,A270,H⟩:=Option.bind_eq_some_iff.mp H
    dsimp only at H
    have A27:=Aside0.mk A270
    clear A270
    obtain ⟨y244,hy244⟩ : ∃ y_ : List (S41),y_ = (([(⟨t238,(⟨t239,t240,t241,t242,t243⟩ : S24)⟩ : S41)] : List (S41))):=⟨_,rfl⟩
    replace H : ((Rf17_Same.f k t188 y244).bind fun t247 => (if t247 = true then ((Lw17_req.f (⟨#[122]⟩ : ByteArray) 0).bind fun bt248 => ((mvs_Upgrade.f y167 bt248.1 bt248.2.1 bt248.2.2.1 bt248.2.2.2.1 bt248.2.2.2.2.1 bt248.2.2.2.2.2).bind fun t254 => (if (t254.length : Int) = 3 then ((Lw17_req.f (⟨#[122]⟩ : ByteArray) (-1)).bind fun bt257 => ((mvs_Upgrade.f y167 bt257.1 bt257.2.1 bt257.2.2.1 bt257.2.2.2.1 bt257.2.2.2.2.1 bt257.2.2.2.2.2).bind fun t263 => (some ((t263.length : Int) == 2)))) else (some false)))) else (some false))) = some r:=by first | (rw [hy244];with_reducible exact H) | (have H2_:=(Option.bind_some _ _).symm.trans H;rw [hy244];with_reducible exact H2_) | (have H2_:=(Option.bind_some _ _).symm.trans H;with_reducible exact H2_) | with_reducible exact H | (rw [hy244];exact H) | exact H
    have Ny244:=Aside0.mk hy244
    clear hy244
    obtain ⟨t247,A280,H⟩:=Option.bind_eq_some_iff.mp H
    have A28:=Aside0.mk A280
    clear A280
    by_cases c29 : t247 = true
    ·subst c29
     rw [if_pos rfl] at H
     obtain ⟨⟨t248,t249,t250,t251,t252,t253⟩,A300,H⟩:=Option.bind_eq_some_iff.mp H
     dsimp only at H
     have A30:=Aside0.mk A300
     clear A300
     obtain ⟨t254,A310,H⟩:=Option.bind_eq_some_iff.mp H
     have A31:=Aside0.mk A310
     clear A310
     by_cases c32 : (t254.length : Int) = 3
     ·rw [if_pos c32] at H
      have c32b0 : ((t254.length : Int) == 3) = true:=beq_iff_eq.mpr c32
      have c32b1 : ((t254.length : Int) != 3) = false:=bne_eq_false_iff_eq.mpr c32
      clear c32
      obtain ⟨⟨t257,t258,t259,t260,t261,t262⟩,A330,H⟩:=Option.bind_eq_some_iff.mp H
      dsimp only at H
      have A33:=Aside0.mk A330
      clear A330
      obtain ⟨t263,A340,H⟩:=Option.bind_eq_some_iff.mp H
      have A34:=Aside0.mk A340
      clear A340
      obtain rfl:=Option.some.inj H
      go_enter Tryz.func22,Tryz.ntmps22
      go_wp2_with (first | ((with_reducible refine gate_callee (f:=46) rfl ?_);refine goesL_ (some 6) rfl rfl Tryz.func46 q3_ rfl #[.string (⟨#[97]⟩ : ByteArray),.int .i64 0] rfl q1_ ?_;(with_reducible refine (Lw17_req.calls (⟨#[97]⟩ : ByteArray) 0 t101 t102 t103 t104 t105 t106 _ A1.out).mono ?_);rintro e w35 ⟨rfl,hb⟩;refine ⟨_,rfl,?_⟩;replace HB:=Aside0.mk (below_step bh_ hb);(try clear hb);(try clear hb2);(try clear hk);(try clear hi)) | ((with_reducible refine gate_callee (f:=46) rfl ?_);refine goesL_ (some 7) rfl rfl Tryz.func46 q3_ rfl #[.string (⟨#[99]⟩ : ByteArray),.int .i64 1] rfl q1_ ?_;(with_reducible refine (Lw17_req.calls (⟨#[99]⟩ : ByteArray) 1 t107 t108 t109 t110 t111 t112 _ A2.out).mono ?_);rintro e w36 ⟨rfl,hb⟩;refine ⟨_,rfl,?_⟩;replace HB:=Aside0.mk (below_step bh_ hb);(try clear hb);(try clear hb2);(try clear hk);(try clear hi)) | ((with_reducible refine gate_dst (N:=8) rfl ?_);(try (refine gate_guard q45_ ?_;dsimp only));refine Kd.R_lit k41 _ 41 ?hg (N:=8) ?hd (xs:=([(⟨t107,(⟨t108,t109,t110,t111,t112⟩ : S24)⟩ : S41)] : List (S41))) (inner:=[.string t107,.int .i64 t108,.int .i64 t109,.int .i64 t110,.string t111,.string t112]) (ok:=fun _ => True) (okp:=fun _ => True) ?hr ?hp (fun _ hk => hk) trivial (Below.refl _ _) (Nat.le_refl _) q28_ ?_;(case hd => rfl);(case hg => rfl);(case hr => first | (go_simp;done) | (go_simp;rfl));(case hp => exact (Reps.c6 (show Kd.M k41 _ _ _ (⟨t107,(⟨t108,t109,t110,t111,t112⟩ : S24)⟩ : S41) [.string t107,.int .i64 t108,.int .i64 t109,.int .i64 t110,.string t111,.string t112] from (k41_mkM _ _ _ (⟨t107,(⟨t108,t109,t110,t111,t112⟩ : S24)⟩ : S41) )) (Reps.none _ _)));intro v114 w37 ho38 hb hg_ hnew_;clear hg_ hnew_;(first | rw [← Ny113.out] at ho38 | (simp only [Int.reduceToNat] at ho38;rw [← Ny113.out] at ho38));have HO115:=Aside0.mk (Kd.R_lower ho38 (below_size bh_));replace HB:=Aside0.mk (below_step bh_ hb);clear hb ho38;obtain ⟨Ao39,co39,eo39⟩:=Kd.R_slice HO115.out;subst eo39) | ((with_reducible refine gate_callee (f:=46) rfl ?_);refine goesL_ (some 10) rfl rfl Tryz.func46 q3_ rfl #[.string (⟨#[98]⟩ : ByteArray),.int .i64 0] rfl q1_ ?_;(with_reducible refine (Lw17_req.calls (⟨#[98]⟩ : ByteArray) 0 t116 t117 t118 t119 t120 t121 _ A3.out).mono ?_);rintro e w40 ⟨rfl,hb⟩;refine ⟨_,rfl,?_⟩;replace HO115:=Aside0.mk (Kd.R_below q18_ hb);replace HB:=Aside0.mk (below_step bh_ hb);(try clear hb);(try clear hb2);(try clear hk);(try clear hi)) | ((with_reducible refine gate_callee (f:=46) rfl ?_);refine goesL_ (some 11) rfl rfl Tryz.func46 q3_ rfl #[.string (⟨#[99]⟩ : ByteArray),.int .i64 2] rfl q1_ ?_;(with_reducible refine (Lw17_req.calls (⟨#[99]⟩ : ByteArray) 2 t122 t123 t124 t125 t126 t127 _ A4.out).mono ?_);rintro e w41 ⟨rfl,hb⟩;refine ⟨_,rfl,?_⟩;replace HO115:=Aside0.mk (Kd.R_below q18_ hb);replace HB:=Aside0.mk (below_step bh_ hb);(try clear hb);(try clear hb2);(try clear hk);(try clear hi)) | ((with_reducible refine gate_dst (N:=12) rfl ?_);(try (refine gate_guard q45_ ?_;dsimp only));refine Kd.R_lit k41 _ 41 ?hg (N:=12) ?hd (xs:=([(⟨t122,(⟨t123,t124,t125,t126,t127⟩ : S24)⟩ : S41)] : List (S41))) (inner:=[.string t122,.int .i64 t123,.int .i64 t124,.int .i64 t125,.string t126,.string t127]) (ok:=fun _ => True) (okp:=fun _ => True) ?hr ?hp (fun _ hk => hk) trivial (Below.refl _ _) (Nat.le_refl _) q28_ ?_;(case hd => rfl);(case hg => rfl);(case hr => first | (go_simp;done) | (go_simp;rfl));(case hp => exact (Reps.c6 (show Kd.M k41 _ _ _ (⟨t122,(⟨t123,t124,t125,t126,t127⟩ : S24)⟩ : S41) [.string t122,.int .i64 t123,.int .i64 t124,.int .i64 t125,.string t126,.string t127] from (k41_mkM _ _ _ (⟨t122,(⟨t123,t124,t125,t126,t127⟩ : S24)⟩ : S41) )) (Reps.none _ _)));intro v129 w42 ho43 hb hg_ hnew_;clear hg_ hnew_;(first | rw [← Ny128.out] at ho43 | (simp only [Int.reduceToNat] at ho43;rw [← Ny128.out] at ho43));have HO130:=Aside0.mk (Kd.R_lower (Kd.R_new' ho43 (Kd.R_lt q18_)) (below_size bh_));replace HO115:=Aside0.mk (Kd.R_elder' q18_ (Kd.R_base ho43) hb);replace HB:=Aside0.mk (below_step bh_ hb);clear hb ho43;obtain ⟨Ao44,co44,eo44⟩:=Kd.R_slice HO130.out;subst eo44) | ((with_reducible refine gate_callee (f:=46) rfl ?_);refine goesL_ (some 14) rfl rfl Tryz.func46 q3_ rfl #[.string (⟨#[99]⟩ : ByteArray),.int .i64 2] rfl q1_ ?_;(with_reducible refine (Lw17_req.calls (⟨#[99]⟩ : ByteArray) 2 t131 t132 t133 t134 t135 t136 _ A5.out).mono ?_);rintro e w45 ⟨rfl,hb⟩;refine ⟨_,rfl,?_⟩;replace HO115:=Aside0.mk (Kd.R_below q18_ hb);replace HO130:=Aside0.mk (Kd.R_below q37_ hb);replace HB:=Aside0.mk (below_step bh_ hb);(try clear hb);(try clear hb2);(try clear hk);(try clear hi)) | ((with_reducible refine gate_callee (f:=46) rfl ?_);refine goesL_ (some 15) rfl rfl Tryz.func46 q3_ rfl #[.string (⟨#[100]⟩ : ByteArray),.int .i64 0] rfl q1_ ?_;(with_reducible refine (Lw17_req.calls (⟨#[100]⟩ : ByteArray) 0 t137 t138 t139 t140 t141 t142 _ A6.out).mono ?_);rintro e w46 ⟨rfl,hb⟩;refine ⟨_,rfl,?_⟩;replace HO115:=Aside0.mk (Kd.R_below q18_ hb);replace HO130:=Aside0.mk (Kd.R_below q37_ hb);replace HB:=Aside0.mk (below_step bh_ hb);(try clear hb);(try clear hb2);(try clear hk);(try clear hi)) | ((with_reducible refine gate_dst (N:=16) rfl ?_);(try (refine gate_guard q45_ ?_;dsimp only));refine Kd.R_lit k41 _ 41 ?hg (N:=16) ?hd (xs:=([(⟨t137,(⟨t138,t139,t140,t141,t142⟩ : S24)⟩ : S41)] : List (S41))) (inner:=[.string t137,.int .i64 t138,.int .i64 t139,.int .i64 t140,.string t141,.string t142]) (ok:=fun _ => True) (okp:=fun _ => True) ?hr ?hp (fun _ hk => hk) trivial (Below.refl _ _) (Nat.le_refl _) q28_ ?_;(case hd => rfl);(case hg => rfl);(case hr => first | (go_simp;done) | (go_simp;rfl));(case hp => exact (Reps.c6 (show Kd.M k41 _ _ _ (⟨t137,(⟨t138,t139,t140,t141,t142⟩ : S24)⟩ : S41) [.string t137,.int .i64 t138,.int .i64 t139,.int .i64 t140,.string t141,.string t142] from (k41_mkM _ _ _ (⟨t137,(⟨t138,t139,t140,t141,t142⟩ : S24)⟩ : S41) )) (Reps.none _ _)));intro v144 w47 ho48 hb hg_ hnew_;clear hg_ hnew_;(first | rw [← Ny143.out] at ho48 | (simp only [Int.reduceToNat] at ho48;rw [← Ny143.out] at ho48));have HO145:=Aside0.mk (Kd.R_lower (Kd.R_new' (Kd.R_new' ho48 (Kd.R_lt q18_)) (Kd.R_lt q37_)) (below_size bh_));replace HO115:=Aside0.mk (Kd.R_elder' q18_ (Kd.R_base ho48) hb);replace HO130:=Aside0.mk (Kd.R_elder' q37_ (Kd.R_base ho48) hb);replace HB:=Aside0.mk (below_step bh_ hb);clear hb ho48;obtain ⟨Ao49,co49,eo49⟩:=Kd.R_slice HO145.out;subst eo49) | ((with_reducible refine gate_callee (f:=46) rfl ?_);refine goesL_ (some 18) rfl rfl Tryz.func46 q3_ rfl #[.string (⟨#[98]⟩ : ByteArray),.int .i64 (-1)] rfl q1_ ?_;(with_reducible refine (Lw17_req.calls (⟨#[98]⟩ : ByteArray) (-1) t146 t147 t148 t149 t150 t151 _ A7.out).mono ?_);rintro e w50 ⟨rfl,hb⟩;refine ⟨_,rfl,?_⟩;replace HO115:=Aside0.mk (Kd.R_below q18_ hb);replace HO130:=Aside0.mk (Kd.R_below q37_ hb);replace HO145:=Aside0.mk (Kd.R_below (by (with_reducible repeat (first | apply Kd.R_alloc | apply Kd.R_drewN | apply Kd.R_drew));exact HO145.out) hb);replace HB:=Aside0.mk (below_step bh_ hb);(try clear hb);(try clear hb2);(try clear hk);(try clear hi)) | ((with_reducible refine gate_dst (N:=20) rfl ?_);(try (refine gate_guard q45_ ?_;dsimp only));refine Kd.N_lit k70 _ 70 ?hg (N':=20) ?hd (xs:=([(⟨(⟨t101,(⟨t102,t103,t104,t105,t106⟩ : S24)⟩ : S41),y113⟩ : S70),(⟨(⟨t116,(⟨t117,t118,t119,t120,t121⟩ : S24)⟩ : S41),y128⟩ : S70),(⟨(⟨t131,(⟨t132,t133,t134,t135,t136⟩ : S24)⟩ : S41),y143⟩ : S70),(⟨(⟨t146,(⟨t147,t148,t149,t150,t151⟩ : S24)⟩ : S41),([] : List (S41))⟩ : S70)] : List (S70))) (inner:=[.string t101,.int .i64 t102,.int .i64 t103,.int .i64 t104,.string t105,.string t106,.slice Ao39 y113.length co39,.string t116,.int .i64 t117,.int .i64 t118,.int .i64 t119,.string t120,.string t121,.slice Ao44 y128.length co44,.string t131,.int .i64 t132,.int .i64 t133,.int .i64 t134,.string t135,.string t136,.slice Ao49 y143.length co49,.string t146,.int .i64 t147,.int .i64 t148,.int .i64 t149,.string t150,.string t151,.slice none 0 0]) (ok:=(fun _ => True)) (okp:=(fun _ => True)) ?hr ?hp (fun _ hk => hk) ((show ∀ k_,w50.heap.size ≤ k_ → (fun _ => True) k_ from fun k_ hk => trivial) _ (Nat.le_refl _)) (Below.refl _ _) (Nat.le_refl _) q28_ ?_;(case hd => rfl);(case hg => rfl);(case hr => first | (go_simp;done) | (go_simp;rfl));(case hp => exact (Reps.c7 (show Kd.FK k70 _ _ (⟨(⟨t101,(⟨t102,t103,t104,t105,t106⟩ : S24)⟩ : S41),y113⟩ : S70) [.string t101,.int .i64 t102,.int .i64 t103,.int .i64 t104,.string t105,.string t106,.slice Ao39 y113.length co39] from (k70_mkF _ _ (⟨(⟨t101,(⟨t102,t103,t104,t105,t106⟩ : S24)⟩ : S41),y113⟩ : S70) (Kd.R_reads' (Kd.R_mono (ok':=(fun _ => True)) (HO115.out) (fun k_ hk => trivial))).2.1 (Kd.R_F (Kd.R_mono (ok':=(fun _ => True)) (HO115.out) (fun k_ hk => trivial))))) (Reps.c7 (show Kd.FK k70 _ _ (⟨(⟨t116,(⟨t117,t118,t119,t120,t121⟩ : S24)⟩ : S41),y128⟩ : S70) [.string t116,.int .i64 t117,.int .i64 t118,.int .i64 t119,.string t120,.string t121,.slice Ao44 y128.length co44] from (k70_mkF _ _ (⟨(⟨t116,(⟨t117,t118,t119,t120,t121⟩ : S24)⟩ : S41),y128⟩ : S70) (Kd.R_reads' (Kd.R_mono (ok':=(fun _ => True)) (HO130.out) (fun k_ hk => trivial))).2.1 (Kd.R_F (Kd.R_mono (ok':=(fun _ => True)) (HO130.out) (fun k_ hk => trivial))))) (Reps.c7 (show Kd.FK k70 _ _ (⟨(⟨t131,(⟨t132,t133,t134,t135,t136⟩ : S24)⟩ : S41),y143⟩ : S70) [.string t131,.int .i64 t132,.int .i64 t133,.int .i64 t134,.string t135,.string t136,.slice Ao49 y143.length co49] from (k70_mkF _ _ (⟨(⟨t131,(⟨t132,t133,t134,t135,t136⟩ : S24)⟩ : S41),y143⟩ : S70) (Kd.R_reads' (Kd.R_mono (ok':=(fun _ => True)) (HO145.out) (fun k_ hk => trivial))).2.1 (Kd.R_F (Kd.R_mono (ok':=(fun _ => True)) (HO145.out) (fun k_ hk => trivial))))) (Reps.c7 (show Kd.FK k70 _ _ (⟨(⟨t146,(⟨t147,t148,t149,t150,t151⟩ : S24)⟩ : S41),([] : List (S41))⟩ : S70) [.string t146,.int .i64 t147,.int .i64 t148,.int .i64 t149,.string t150,.string t151,.slice none 0 0] from (k70_mkF _ _ (⟨(⟨t146,(⟨t147,t148,t149,t150,t151⟩ : S24)⟩ : S41),([] : List (S41))⟩ : S70) (Nat.le_refl _) (Kd.F_nil _ _ _))) (Reps.none _ _))))));intro v153 w51 ho52 hb hg_ hnew_;clear hg_ hnew_;(first | rw [← Ny152.out] at ho52 | (simp only [Int.reduceToNat] at ho52;rw [← Ny152.out] at ho52));have HO154:=Aside0.mk (Kd.N_lower ho52 (below_size bh_));replace HB:=Aside0.mk (below_step bh_ hb);clear HO115 HO130 HO145;clear hb ho52) | ((with_reducible refine gate_callee (f:=46) rfl ?_);refine goesL_ (some 21) rfl rfl Tryz.func46 q3_ rfl #[.string (⟨#[98]⟩ : ByteArray),.int .i64 0] rfl q1_ ?_;(with_reducible refine (Lw17_req.calls (⟨#[98]⟩ : ByteArray) 0 t155 t156 t157 t158 t159 t160 _ A8.out).mono ?_);rintro e w53 ⟨rfl,hb⟩;refine ⟨_,rfl,?_⟩;replace HO154:=Aside0.mk (Kd.N_below q12_ hb);replace HB:=Aside0.mk (below_step bh_ hb);(try clear hb);(try clear hb2);(try clear hk);(try clear hi)) | ((with_reducible refine gate_callee (f:=46) rfl ?_);refine goesL_ (some 22) rfl rfl Tryz.func46 q3_ rfl #[.string (⟨#[97]⟩ : ByteArray),.int .i64 0] rfl q1_ ?_;(with_reducible refine (Lw17_req.calls (⟨#[97]⟩ : ByteArray) 0 t161 t162 t163 t164 t165 t166 _ A9.out).mono ?_);rintro e w54 ⟨rfl,hb⟩;refine ⟨_,rfl,?_⟩;replace HO154:=Aside0.mk (Kd.N_below q12_ hb);replace HB:=Aside0.mk (below_step bh_ hb);(try clear hb);(try clear hb2);(try clear hk);(try clear hi)) | ((with_reducible refine gate_dst (N:=23) rfl ?_);(try (refine gate_guard q45_ ?_;dsimp only));refine Kd.R_lit k41 _ 41 ?hg (N:=23) ?hd (xs:=([(⟨t155,(⟨t156,t157,t158,t159,t160⟩ : S24)⟩ : S41),(⟨t161,(⟨t162,t163,t164,t165,t166⟩ : S24)⟩ : S41)] : List (S41))) (inner:=[.string t155,.int .i64 t156,.int .i64 t157,.int .i64 t158,.string t159,.string t160,.string t161,.int .i64 t162,.int .i64 t163,.int .i64 t164,.string t165,.string t166]) (ok:=fun _ => True) (okp:=fun _ => True) ?hr ?hp (fun _ hk => hk) trivial (Below.refl _ _) (Nat.le_refl _) q28_ ?_;(case hd => rfl);(case hg => rfl);(case hr => first | (go_simp;done) | (go_simp;rfl));(case hp => exact (Reps.c6 (show Kd.M k41 _ _ _ (⟨t155,(⟨t156,t157,t158,t159,t160⟩ : S24)⟩ : S41) [.string t155,.int .i64 t156,.int .i64 t157,.int .i64 t158,.string t159,.string t160] from (k41_mkM _ _ _ (⟨t155,(⟨t156,t157,t158,t159,t160⟩ : S24)⟩ : S41) )) (Reps.c6 (show Kd.M k41 _ _ _ (⟨t161,(⟨t162,t163,t164,t165,t166⟩ : S24)⟩ : S41) [.string t161,.int .i64 t162,.int .i64 t163,.int .i64 t164,.string t165,.string t166] from (k41_mkM _ _ _ (⟨t161,(⟨t162,t163,t164,t165,t166⟩ : S24)⟩ : S41) )) (Reps.none _ _))));intro v168 w55 ho56 hb hg_ hnew_;clear hg_ hnew_;(first | rw [← Ny167.out] at ho56 | (simp only [Int.reduceToNat] at ho56;rw [← Ny167.out] at ho56));replace HO154:=Aside0.mk (Kd.N_elder' q12_ (Kd.R_base ho56) hb);have HO169:=Aside0.mk (Kd.R_lower ho56 (below_size bh_));replace HB:=Aside0.mk (below_step bh_ hb);clear hb ho56;obtain ⟨Ao57,co57,eo57⟩:=Kd.R_slice HO169.out;subst eo57;obtain ⟨Ao58,co58,eo58⟩:=Kd.N_slice HO154.out;subst eo58) | ((with_reducible refine gate_callee (f:=27) rfl ?_);refine goesL_ (some 26) rfl rfl Tryz.func27 q3_ rfl #[.slice Ao57 y167.length co57,.slice Ao58 y152.length co58] rfl q1_ ?_;(with_reducible refine (mvs_List.calls _ _ y167 _ _ y152 t170 _ ?side1 ?side2 ?side3 ?side4 A10.out ?sideG).mono ?_);(case sideG => first | exact HG.out | exact Env.below HG.out bh_);(case side1 => repeat (first | exact (Kd.R_reads' HO169.out).2.2 | (with_reducible refine Kd.C_alloc ?_ _) | (with_reducible refine Kd.C_drewN ?_ _) | (with_reducible refine Kd.C_drew ?_)));(case side2 => exact (Kd.R_reads' HO169.out).2.1);(case side3 => repeat (first | exact (Kd.N_reads' HO154.out).2.2 | (with_reducible refine Kd.C_alloc ?_ _) | (with_reducible refine Kd.C_drewN ?_ _) | (with_reducible refine Kd.C_drew ?_)));(case side4 => exact (Kd.N_reads' HO154.out).2.1);rintro e w59 ⟨v171,rfl,ho0,hb⟩;refine ⟨_,rfl,?_⟩;replace HO154:=Aside0.mk (Kd.N_elder' q12_ (Kd.R_base ho0) hb);have HO172:=Aside0.mk (Kd.R_lower (Kd.R_new' ho0 (Kd.R_lt q8_)) (below_size bh_));replace HO169:=Aside0.mk (Kd.R_elder' q8_ (Kd.R_base ho0) hb);replace HB:=Aside0.mk (below_step bh_ hb);(try clear hb);(try clear hb2);(try clear hk);(try clear hi);(try clear ho0)) | ((with_reducible refine gate_callee (f:=46) rfl ?_);refine goesL_ (some 28) rfl rfl Tryz.func46 q3_ rfl #[.string (⟨#[97]⟩ : ByteArray),.int .i64 3] rfl q1_ ?_;(with_reducible refine (Lw17_req.calls (⟨#[97]⟩ : ByteArray) 3 t173 t174 t175 t176 t177 t178 _ A11.out).mono ?_);rintro e w60 ⟨rfl,hb⟩;refine ⟨_,rfl,?_⟩;replace HO154:=Aside0.mk (Kd.N_below q12_ hb);replace HO169:=Aside0.mk (Kd.R_below q8_ hb);replace HO172:=Aside0.mk (Kd.R_below q10_ hb);replace HB:=Aside0.mk (below_step bh_ hb);(try clear hb);(try clear hb2);(try clear hk);(try clear hi)) | ((with_reducible refine gate_callee (f:=29) rfl ?_);refine goesL_ (some 29) rfl rfl Tryz.func29 q3_ rfl #[.slice Ao57 y167.length co57,.agg #[.string t173,.int .i64 t174,.int .i64 t175,.int .i64 t176,.string t177,.string t178]] rfl q1_ ?_;(with_reducible refine (mvs_Upgrade.calls _ _ y167 t173 t174 t175 t176 t177 t178 t179 _ ?side1 ?side2 A12.out ?sideG).mono ?_);(case sideG => first | exact HG.out | exact Env.below HG.out bh_);(case side1 => repeat (first | exact (Kd.R_reads' HO169.out).2.2 | (with_reducible refine Kd.C_alloc ?_ _) | (with_reducible refine Kd.C_drewN ?_ _) | (with_reducible refine Kd.C_drew ?_)));(case side2 => exact (Kd.R_reads' HO169.out).2.1);rintro e w61 ⟨v180,rfl,ho0,hb⟩;refine ⟨_,rfl,?_⟩;replace HO154:=Aside0.mk (Kd.N_elder' q12_ (Kd.R_base ho0) hb);have HO181:=Aside0.mk (Kd.R_lower (Kd.R_new' (Kd.R_new' ho0 (Kd.R_lt q8_)) (Kd.R_lt q10_)) (below_size bh_));replace HO169:=Aside0.mk (Kd.R_elder' q8_ (Kd.R_base ho0) hb);replace HO172:=Aside0.mk (Kd.R_elder' q10_ (Kd.R_base ho0) hb);replace HB:=Aside0.mk (below_step bh_ hb);(try clear hb);(try clear hb2);(try clear hk);(try clear hi);(try clear ho0)) | ((with_reducible refine gate_callee (f:=46) rfl ?_);refine goesL_ (some 32) rfl rfl Tryz.func46 q3_ rfl #[.string (⟨#[99]⟩ : ByteArray),.int .i64 1] rfl q1_ ?_;(with_reducible refine (Lw17_req.calls (⟨#[99]⟩ : ByteArray) 1 t182 t183 t184 t185 t186 t187 _ A13.out).mono ?_);rintro e w62 ⟨rfl,hb⟩;refine ⟨_,rfl,?_⟩;replace HO154:=Aside0.mk (Kd.N_below q12_ hb);replace HO169:=Aside0.mk (Kd.R_below q8_ hb);replace HO172:=Aside0.mk (Kd.R_below q10_ hb);replace HO181:=Aside0.mk (Kd.R_below q11_ hb);replace HB:=Aside0.mk (below_step bh_ hb);(try clear hb);(try clear hb2);(try clear hk);(try clear hi)) | ((with_reducible refine gate_callee (f:=31) rfl ?_);refine goesL_ (some 33) rfl rfl Tryz.func31 q3_ rfl #[.slice Ao57 y167.length co57,.slice Ao58 y152.length co58,.agg #[.string t182,.int .i64 t183,.int .i64 t184,.int .i64 t185,.string t186,.string t187]] rfl q1_ ?_;(with_reducible refine (mvs_Downgrade.calls k _ _ y167 _ _ y152 t182 t183 t184 t185 t186 t187 t188 _ ?side1 ?side2 ?side3 ?side4 A14.out ?sideG).mono ?_);(case sideG => first | exact HG.out | exact Env.below HG.out bh_);(case side1 => repeat (first | exact (Kd.R_reads' HO169.out).2.2 | (with_reducible refine Kd.C_alloc ?_ _) | (with_reducible refine Kd.C_drewN ?_ _) | (with_reducible refine Kd.C_drew ?_)));(case side2 => exact (Kd.R_reads' HO169.out).2.1);(case side3 => repeat (first | exact (Kd.N_reads' HO154.out).2.2 | (with_reducible refine Kd.C_alloc ?_ _) | (with_reducible refine Kd.C_drewN ?_ _) | (with_reducible refine Kd.C_drew ?_)));(case side4 => exact (Kd.N_reads' HO154.out).2.1);rintro e w63 ⟨v189,rfl,ho0,hb⟩;refine ⟨_,rfl,?_⟩;replace HO154:=Aside0.mk (Kd.N_elder' q12_ (Kd.R_base ho0) hb);have HO190:=Aside0.mk (Kd.R_lower (Kd.R_new' (Kd.R_new' (Kd.R_new' ho0 (Kd.R_lt q8_)) (Kd.R_lt q10_)) (Kd.R_lt q11_)) (below_size bh_));replace HO169:=Aside0.mk (Kd.R_elder' q8_ (Kd.R_base ho0) hb);replace HO172:=Aside0.mk (Kd.R_elder' q10_ (Kd.R_base ho0) hb);replace HO181:=Aside0.mk (Kd.R_elder' q11_ (Kd.R_base ho0) hb);replace HB:=Aside0.mk (below_step bh_ hb);(try clear hb);(try clear hb2);(try clear hk);(try clear hi);(try clear ho0)) | ((with_reducible refine gate_callee (f:=46) rfl ?_);refine goesL_ (some 35) rfl rfl Tryz.func46 q3_ rfl #[.string (⟨#[97]⟩ : ByteArray),.int .i64 0] rfl q1_ ?_;(with_reducible refine (Lw17_req.calls (⟨#[97]⟩ : ByteArray) 0 t191 t192 t193 t194 t195 t196 _ A15.out).mono ?_);rintro e w64 ⟨rfl,hb⟩;refine ⟨_,rfl,?_⟩;replace HO154:=Aside0.mk (Kd.N_below q12_ hb);replace HO169:=Aside0.mk (Kd.R_below q8_ hb);replace HO172:=Aside0.mk (Kd.R_below q10_ hb);replace HO181:=Aside0.mk (Kd.R_below q11_ hb);replace HO190:=Aside0.mk (Kd.R_below q13_ hb);replace HB:=Aside0.mk (below_step bh_ hb);(try clear hb);(try clear hb2);(try clear hk);(try clear hi)) | ((with_reducible refine gate_callee (f:=46) rfl ?_);refine goesL_ (some 36) rfl rfl Tryz.func46 q3_ rfl #[.string (⟨#[98]⟩ : ByteArray),.int .i64 0] rfl q1_ ?_;(with_reducible refine (Lw17_req.calls (⟨#[98]⟩ : ByteArray) 0 t197 t198 t199 t200 t201 t202 _ A16.out).mono ?_);rintro e w65 ⟨rfl,hb⟩;refine ⟨_,rfl,?_⟩;replace HO154:=Aside0.mk (Kd.N_below q12_ hb);replace HO169:=Aside0.mk (Kd.R_below q8_ hb);replace HO172:=Aside0.mk (Kd.R_below q10_ hb);replace HO181:=Aside0.mk (Kd.R_below q11_ hb);replace HO190:=Aside0.mk (Kd.R_below q13_ hb);replace HB:=Aside0.mk (below_step bh_ hb);(try clear hb);(try clear hb2);(try clear hk);(try clear hi)) | ((with_reducible refine gate_callee (f:=46) rfl ?_);refine goesL_ (some 37) rfl rfl Tryz.func46 q3_ rfl #[.string (⟨#[99]⟩ : ByteArray),.int .i64 2] rfl q1_ ?_;(with_reducible refine (Lw17_req.calls (⟨#[99]⟩ : ByteArray) 2 t203 t204 t205 t206 t207 t208 _ A17.out).mono ?_);rintro e w66 ⟨rfl,hb⟩;refine ⟨_,rfl,?_⟩;replace HO154:=Aside0.mk (Kd.N_below q12_ hb);replace HO169:=Aside0.mk (Kd.R_below q8_ hb);replace HO172:=Aside0.mk (Kd.R_below q10_ hb);replace HO181:=Aside0.mk (Kd.R_below q11_ hb);replace HO190:=Aside0.mk (Kd.R_below q13_ hb);replace HB:=Aside0.mk (below_step bh_ hb);(try clear hb);(try clear hb2);(try clear hk);(try clear hi)) | ((with_reducible refine gate_callee (f:=46) rfl ?_);refine goesL_ (some 38) rfl rfl Tryz.func46 q3_ rfl #[.string (⟨#[100]⟩ : ByteArray),.int .i64 0] rfl q1_ ?_;(with_reducible refine (Lw17_req.calls (⟨#[100]⟩ : ByteArray) 0 t209 t210 t211 t212 t213 t214 _ A18.out).mono ?_);rintro e w67 ⟨rfl,hb⟩;refine ⟨_,rfl,?_⟩;replace HO154:=Aside0.mk (Kd.N_below q12_ hb);replace HO169:=Aside0.mk (Kd.R_below q8_ hb);replace HO172:=Aside0.mk (Kd.R_below q10_ hb);replace HO181:=Aside0.mk (Kd.R_below q11_ hb);replace HO190:=Aside0.mk (Kd.R_below q13_ hb);replace HB:=Aside0.mk (below_step bh_ hb);(try clear hb);(try clear hb2);(try clear hk);(try clear hi)) | ((with_reducible refine gate_dst (N:=39) rfl ?_);(try (refine gate_guard q45_ ?_;dsimp only));refine Kd.R_lit k41 _ 41 ?hg (N:=39) ?hd (xs:=([(⟨t191,(⟨t192,t193,t194,t195,t196⟩ : S24)⟩ : S41),(⟨t197,(⟨t198,t199,t200,t201,t202⟩ : S24)⟩ : S41),(⟨t203,(⟨t204,t205,t206,t207,t208⟩ : S24)⟩ : S41),(⟨t209,(⟨t210,t211,t212,t213,t214⟩ : S24)⟩ : S41)] : List (S41))) (inner:=[.string t191,.int .i64 t192,.int .i64 t193,.int .i64 t194,.string t195,.string t196,.string t197,.int .i64 t198,.int .i64 t199,.int .i64 t200,.string t201,.string t202,.string t203,.int .i64 t204,.int .i64 t205,.int .i64 t206,.string t207,.string t208,.string t209,.int .i64 t210,.int .i64 t211,.int .i64 t212,.string t213,.string t214]) (ok:=fun _ => True) (okp:=fun _ => True) ?hr ?hp (fun _ hk => hk) trivial (Below.refl _ _) (Nat.le_refl _) q28_ ?_;(case hd => rfl);(case hg => rfl);(case hr => first | (go_simp;done) | (go_simp;rfl));(case hp => exact (Reps.c6 (show Kd.M k41 _ _ _ (⟨t191,(⟨t192,t193,t194,t195,t196⟩ : S24)⟩ : S41) [.string t191,.int .i64 t192,.int .i64 t193,.int .i64 t194,.string t195,.string t196] from (k41_mkM _ _ _ (⟨t191,(⟨t192,t193,t194,t195,t196⟩ : S24)⟩ : S41) )) (Reps.c6 (show Kd.M k41 _ _ _ (⟨t197,(⟨t198,t199,t200,t201,t202⟩ : S24)⟩ : S41) [.string t197,.int .i64 t198,.int .i64 t199,.int .i64 t200,.string t201,.string t202] from (k41_mkM _ _ _ (⟨t197,(⟨t198,t199,t200,t201,t202⟩ : S24)⟩ : S41) )) (Reps.c6 (show Kd.M k41 _ _ _ (⟨t203,(⟨t204,t205,t206,t207,t208⟩ : S24)⟩ : S41) [.string t203,.int .i64 t204,.int .i64 t205,.int .i64 t206,.string t207,.string t208] from (k41_mkM _ _ _ (⟨t203,(⟨t204,t205,t206,t207,t208⟩ : S24)⟩ : S41) )) (Reps.c6 (show Kd.M k41 _ _ _ (⟨t209,(⟨t210,t211,t212,t213,t214⟩ : S24)⟩ : S41) [.string t209,.int .i64 t210,.int .i64 t211,.int .i64 t212,.string t213,.string t214] from (k41_mkM _ _ _ (⟨t209,(⟨t210,t211,t212,t213,t214⟩ : S24)⟩ : S41) )) (Reps.none _ _))))));intro v216 w68 ho69 hb hg_ hnew_;clear hg_ hnew_;(first | rw [← Ny215.out] at ho69 | (simp only [Int.reduceToNat] at ho69;rw [← Ny215.out] at ho69));replace HO154:=Aside0.mk (Kd.N_elder' q12_ (Kd.R_base ho69) hb);have HO217:=Aside0.mk (Kd.R_lower (Kd.R_new' (Kd.R_new' (Kd.R_new' (Kd.R_new' ho69 (Kd.R_lt q8_)) (Kd.R_lt q10_)) (Kd.R_lt q11_)) (Kd.R_lt q13_)) (below_size bh_));replace HO169:=Aside0.mk (Kd.R_elder' q8_ (Kd.R_base ho69) hb);replace HO172:=Aside0.mk (Kd.R_elder' q10_ (Kd.R_base ho69) hb);replace HO181:=Aside0.mk (Kd.R_elder' q11_ (Kd.R_base ho69) hb);replace HO190:=Aside0.mk (Kd.R_elder' q13_ (Kd.R_base ho69) hb);replace HB:=Aside0.mk (below_step bh_ hb);clear hb ho69;obtain ⟨Ao70,co70,eo70⟩:=Kd.R_slice HO172.out;subst eo70;obtain ⟨Ao71,co71,eo71⟩:=Kd.R_slice HO217.out;subst eo71) | ((with_reducible refine gate_callee (f:=24) rfl ?_);refine goesL_ (some 40) rfl rfl Tryz.func24 q3_ rfl #[.slice Ao70 t170.length co70,.slice Ao71 y215.length co71] rfl q1_ ?_;(with_reducible refine (Rf17_Same.calls k _ _ t170 _ _ y215 true _ ?side1 ?side2 ?side3 ?side4 A19.out).mono ?_);(case side1 => repeat (first | exact (Kd.R_reads' HO172.out).2.2 | (with_reducible refine Kd.C_alloc ?_ _) | (with_reducible refine Kd.C_drewN ?_ _) | (with_reducible refine Kd.C_drew ?_)));(case side2 => exact (Kd.R_reads' HO172.out).2.1);(case side3 => repeat (first | exact (Kd.R_reads' HO217.out).2.2 | (with_reducible refine Kd.C_alloc ?_ _) | (with_reducible refine Kd.C_drewN ?_ _) | (with_reducible refine Kd.C_drew ?_)));(case side4 => exact (Kd.R_reads' HO217.out).2.1);rintro e w' ⟨rfl,⟨nd,rfl⟩⟩;refine ⟨_,rfl,?_⟩) | (go_at_call 25;(with_reducible refine (mvs_Reached.calls _ _ y167 _ _ y152 t219 _ ?side1 ?side2 ?side3 ?side4 A21.out ?sideG).mono ?_);(case sideG => first | exact HG.out | exact Env.below HG.out bh_);(case side1 => repeat (first | exact (Kd.R_reads' HO169.out).2.2 | (with_reducible refine Kd.C_alloc ?_ _) | (with_reducible refine Kd.C_drewN ?_ _) | (with_reducible refine Kd.C_drew ?_)));(case side2 => exact (Kd.R_reads' HO169.out).2.1);(case side3 => repeat (first | exact (Kd.N_reads' HO154.out).2.2 | (with_reducible refine Kd.C_alloc ?_ _) | (with_reducible refine Kd.C_drewN ?_ _) | (with_reducible refine Kd.C_drew ?_)));(case side4 => exact (Kd.N_reads' HO154.out).2.1);rintro e w72 ⟨v220,rfl,ho0,hb⟩;replace HO154:=Aside0.mk (Kd.N_elder' q12_ (Kd.R_base ho0) hb);have HO221:=Aside0.mk (Kd.R_lower (Kd.R_new' (Kd.R_new' (Kd.R_new' (Kd.R_new' (Kd.R_new' ho0 (Kd.R_lt q8_)) (Kd.R_lt q10_)) (Kd.R_lt q11_)) (Kd.R_lt q13_)) (Kd.R_lt q16_)) (below_size bh_));replace HO169:=Aside0.mk (Kd.R_elder' q8_ (Kd.R_base ho0) hb);replace HO172:=Aside0.mk (Kd.R_elder' q10_ (Kd.R_base ho0) hb);replace HO181:=Aside0.mk (Kd.R_elder' q11_ (Kd.R_base ho0) hb);replace HO190:=Aside0.mk (Kd.R_elder' q13_ (Kd.R_base ho0) hb);replace HO217:=Aside0.mk (Kd.R_elder' q16_ (Kd.R_base ho0) hb);replace HB:=Aside0.mk (below_step bh_ hb);(try clear hb);(try clear hb2);(try clear hk);(try clear hi);(try clear ho0);obtain ⟨Ao73,co73,eo73⟩:=Kd.R_slice HO221.out;subst eo73) | (go_at_call 46;(with_reducible refine (Lw17_req.calls (⟨#[98]⟩ : ByteArray) 0 t222 t223 t224 t225 t226 t227 _ A23.out).mono ?_);rintro e w74 ⟨rfl,hb⟩;replace HO154:=Aside0.mk (Kd.N_below q12_ hb);replace HO169:=Aside0.mk (Kd.R_below q8_ hb);replace HO172:=Aside0.mk (Kd.R_below q10_ hb);replace HO181:=Aside0.mk (Kd.R_below q11_ hb);replace HO190:=Aside0.mk (Kd.R_below q13_ hb);replace HO217:=Aside0.mk (Kd.R_below q16_ hb);replace HO221:=Aside0.mk (Kd.R_below q17_ hb);replace HB:=Aside0.mk (below_step bh_ hb);(try clear hb);(try clear hb2);(try clear hk);(try clear hi)) | (go_at_call 46;(with_reducible refine (Lw17_req.calls (⟨#[97]⟩ : ByteArray) 3 t228 t229 t230 t231 t232 t233 _ A24.out).mono ?_);rintro e w75 ⟨rfl,hb⟩;replace HO154:=Aside0.mk (Kd.N_below q12_ hb);replace HO169:=Aside0.mk (Kd.R_below q8_ hb);replace HO172:=Aside0.mk (Kd.R_below q10_ hb);replace HO181:=Aside0.mk (Kd.R_below q11_ hb);replace HO190:=Aside0.mk (Kd.R_below q13_ hb);replace HO217:=Aside0.mk (Kd.R_below q16_ hb);replace HO221:=Aside0.mk (Kd.R_below q17_ hb);replace HB:=Aside0.mk (below_step bh_ hb);(try clear hb);(try clear hb2);(try clear hk);(try clear hi)) | ((with_reducible refine gate_dst (N:=52) rfl ?_);(try (refine gate_guard q45_ ?_;dsimp only));refine Kd.R_lit k41 _ 41 ?hg (N:=52) ?hd (xs:=([(⟨t222,(⟨t223,t224,t225,t226,t227⟩ : S24)⟩ : S41),(⟨t228,(⟨t229,t230,t231,t232,t233⟩ : S24)⟩ : S41)] : List (S41))) (inner:=[.string t222,.int .i64 t223,.int .i64 t224,.int .i64 t225,.string t226,.string t227,.string t228,.int .i64 t229,.int .i64 t230,.int .i64 t231,.string t232,.string t233]) (ok:=fun _ => True) (okp:=fun _ => True) ?hr ?hp (fun _ hk => hk) trivial (Below.refl _ _) (Nat.le_refl _) q28_ ?_;(case hd => rfl);(case hg => rfl);(case hr => first | (go_simp;done) | (go_simp;rfl));(case hp => exact (Reps.c6 (show Kd.M k41 _ _ _ (⟨t222,(⟨t223,t224,t225,t226,t227⟩ : S24)⟩ : S41) [.string t222,.int .i64 t223,.int .i64 t224,.int .i64 t225,.string t226,.string t227] from (k41_mkM _ _ _ (⟨t222,(⟨t223,t224,t225,t226,t227⟩ : S24)⟩ : S41) )) (Reps.c6 (show Kd.M k41 _ _ _ (⟨t228,(⟨t229,t230,t231,t232,t233⟩ : S24)⟩ : S41) [.string t228,.int .i64 t229,.int .i64 t230,.int .i64 t231,.string t232,.string t233] from (k41_mkM _ _ _ (⟨t228,(⟨t229,t230,t231,t232,t233⟩ : S24)⟩ : S41) )) (Reps.none _ _))));intro v235 w76 ho77 hb hg_ hnew_;clear hg_ hnew_;(first | rw [← Ny234.out] at ho77 | (simp only [Int.reduceToNat] at ho77;rw [← Ny234.out] at ho77));replace HO154:=Aside0.mk (Kd.N_elder' q12_ (Kd.R_base ho77) hb);have HO236:=Aside0.mk (Kd.R_lower (Kd.R_new' (Kd.R_new' (Kd.R_new' (Kd.R_new' (Kd.R_new' (Kd.R_new' ho77 (Kd.R_lt q8_)) (Kd.R_lt q10_)) (Kd.R_lt q11_)) (Kd.R_lt q13_)) (Kd.R_lt q16_)) (Kd.R_lt q17_)) (below_size bh_));replace HO169:=Aside0.mk (Kd.R_elder' q8_ (Kd.R_base ho77) hb);replace HO172:=Aside0.mk (Kd.R_elder' q10_ (Kd.R_base ho77) hb);replace HO181:=Aside0.mk (Kd.R_elder' q11_ (Kd.R_base ho77) hb);replace HO190:=Aside0.mk (Kd.R_elder' q13_ (Kd.R_base ho77) hb);replace HO217:=Aside0.mk (Kd.R_elder' q16_ (Kd.R_base ho77) hb);replace HO221:=Aside0.mk (Kd.R_elder' q17_ (Kd.R_base ho77) hb);replace HB:=Aside0.mk (below_step bh_ hb);clear hb ho77;obtain ⟨Ao78,co78,eo78⟩:=Kd.R_slice HO181.out;subst eo78;obtain ⟨Ao79,co79,eo79⟩:=Kd.R_slice HO236.out;subst eo79) | (go_at_call 24;(with_reducible refine (Rf17_Same.calls k _ _ t179 _ _ y234 true _ ?side1 ?side2 ?side3 ?side4 A25.out).mono ?_);(case side1 => repeat (first | exact (Kd.R_reads' HO181.out).2.2 | (with_reducible refine Kd.C_alloc ?_ _) | (with_reducible refine Kd.C_drewN ?_ _) | (with_reducible refine Kd.C_drew ?_)));(case side2 => exact (Kd.R_reads' HO181.out).2.1);(case side3 => repeat (first | exact (Kd.R_reads' HO236.out).2.2 | (with_reducible refine Kd.C_alloc ?_ _) | (with_reducible refine Kd.C_drewN ?_ _) | (with_reducible refine Kd.C_drew ?_)));(case side4 => exact (Kd.R_reads' HO236.out).2.1);rintro e w' ⟨rfl,⟨nd,rfl⟩⟩) | (go_at_call 46;(with_reducible refine (Lw17_req.calls (⟨#[97]⟩ : ByteArray) 0 t238 t239 t240 t241 t242 t243 _ A27.out).mono ?_);rintro e w80 ⟨rfl,hb⟩;replace HO154:=Aside0.mk (Kd.N_below q12_ hb);replace HO169:=Aside0.mk (Kd.R_below q8_ hb);replace HO172:=Aside0.mk (Kd.R_below q10_ hb);replace HO181:=Aside0.mk (Kd.R_below q11_ hb);replace HO190:=Aside0.mk (Kd.R_below q13_ hb);replace HO217:=Aside0.mk (Kd.R_below q16_ hb);replace HO221:=Aside0.mk (Kd.R_below q17_ hb);replace HO236:=Aside0.mk (Kd.R_below q20_ hb);replace HB:=Aside0.mk (below_step bh_ hb);(try clear hb);(try clear hb2);(try clear hk);(try clear hi)) | ((with_reducible refine gate_dst (N:=58) rfl ?_);(try (refine gate_guard q45_ ?_;dsimp only));refine Kd.R_lit k41 _ 41 ?hg (N:=58) ?hd (xs:=([(⟨t238,(⟨t239,t240,t241,t242,t243⟩ : S24)⟩ : S41)] : List (S41))) (inner:=[.string t238,.int .i64 t239,.int .i64 t240,.int .i64 t241,.string t242,.string t243]) (ok:=fun _ => True) (okp:=fun _ => True) ?hr ?hp (fun _ hk => hk) trivial (Below.refl _ _) (Nat.le_refl _) q28_ ?_;(case hd => rfl);(case hg => rfl);(case hr => first | (go_simp;done) | (go_simp;rfl));(case hp => exact (Reps.c6 (show Kd.M k41 _ _ _ (⟨t238,(⟨t239,t240,t241,t242,t243⟩ : S24)⟩ : S41) [.string t238,.int .i64 t239,.int .i64 t240,.int .i64 t241,.string t242,.string t243] from (k41_mkM _ _ _ (⟨t238,(⟨t239,t240,t241,t242,t243⟩ : S24)⟩ : S41) )) (Reps.none _ _)));intro v245 w81 ho82 hb hg_ hnew_;clear hg_ hnew_;(first | rw [← Ny244.out] at ho82 | (simp only [Int.reduceToNat] at ho82;rw [← Ny244.out] at ho82));replace HO154:=Aside0.mk (Kd.N_elder' q12_ (Kd.R_base ho82) hb);have HO246:=Aside0.mk (Kd.R_lower (Kd.R_new' (Kd.R_new' (Kd.R_new' (Kd.R_new' (Kd.R_new' (Kd.R_new' (Kd.R_new' ho82 (Kd.R_lt q8_)) (Kd.R_lt q10_)) (Kd.R_lt q11_)) (Kd.R_lt q13_)) (Kd.R_lt q16_)) (Kd.R_lt q17_)) (Kd.R_lt q20_)) (below_size bh_));replace HO169:=Aside0.mk (Kd.R_elder' q8_ (Kd.R_base ho82) hb);replace HO172:=Aside0.mk (Kd.R_elder' q10_ (Kd.R_base ho82) hb);replace HO181:=Aside0.mk (Kd.R_elder' q11_ (Kd.R_base ho82) hb);replace HO190:=Aside0.mk (Kd.R_elder' q13_ (Kd.R_base ho82) hb);replace HO217:=Aside0.mk (Kd.R_elder' q16_ (Kd.R_base ho82) hb);replace HO221:=Aside0.mk (Kd.R_elder' q17_ (Kd.R_base ho82) hb);replace HO236:=Aside0.mk (Kd.R_elder' q20_ (Kd.R_base ho82) hb);replace HB:=Aside0.mk (below_step bh_ hb);clear hb ho82;obtain ⟨Ao83,co83,eo83⟩:=Kd.R_slice HO190.out;subst eo83;obtain ⟨Ao84,co84,eo84⟩:=Kd.R_slice HO246.out;subst eo84) | (go_at_call 24;(with_reducible refine (Rf17_Same.calls k _ _ t188 _ _ y244 true _ ?side1 ?side2 ?side3 ?side4 A28.out).mono ?_);(case side1 => repeat (first | exact (Kd.R_reads' HO190.out).2.2 | (with_reducible refine Kd.C_alloc ?_ _) | (with_reducible refine Kd.C_drewN ?_ _) | (with_reducible refine Kd.C_drew ?_)));(case side2 => exact (Kd.R_reads' HO190.out).2.1);(case side3 => repeat (first | exact (Kd.R_reads' HO246.out).2.2 | (with_reducible refine Kd.C_alloc ?_ _) | (with_reducible refine Kd.C_drewN ?_ _) | (with_reducible refine Kd.C_drew ?_)));(case side4 => exact (Kd.R_reads' HO246.out).2.1);rintro e w' ⟨rfl,⟨nd,rfl⟩⟩) | (go_at_call 46;(with_reducible refine (Lw17_req.calls (⟨#[122]⟩ : ByteArray) 0 t248 t249 t250 t251 t252 t253 _ A30.out).mono ?_);rintro e w85 ⟨rfl,hb⟩;replace HO154:=Aside0.mk (Kd.N_below q12_ hb);replace HO169:=Aside0.mk (Kd.R_below q8_ hb);replace HO172:=Aside0.mk (Kd.R_below q10_ hb);replace HO181:=Aside0.mk (Kd.R_below q11_ hb);replace HO190:=Aside0.mk (Kd.R_below q13_ hb);replace HO217:=Aside0.mk (Kd.R_below q16_ hb);replace HO221:=Aside0.mk (Kd.R_below q17_ hb);replace HO236:=Aside0.mk (Kd.R_below q20_ hb);replace HO246:=Aside0.mk (Kd.R_below q29_ hb);replace HB:=Aside0.mk (below_step bh_ hb);(try clear hb);(try clear hb2);(try clear hk);(try clear hi)) | (go_at_call 29;(with_reducible refine (mvs_Upgrade.calls _ _ y167 t248 t249 t250 t251 t252 t253 t254 _ ?side1 ?side2 A31.out ?sideG).mono ?_);(case sideG => first | exact HG.out | exact Env.below HG.out bh_);(case side1 => repeat (first | exact (Kd.R_reads' HO169.out).2.2 | (with_reducible refine Kd.C_alloc ?_ _) | (with_reducible refine Kd.C_drewN ?_ _) | (with_reducible refine Kd.C_drew ?_)));(case side2 => exact (Kd.R_reads' HO169.out).2.1);rintro e w86 ⟨v255,rfl,ho0,hb⟩;replace HO154:=Aside0.mk (Kd.N_elder' q12_ (Kd.R_base ho0) hb);have HO256:=Aside0.mk (Kd.R_lower (Kd.R_new' (Kd.R_new' (Kd.R_new' (Kd.R_new' (Kd.R_new' (Kd.R_new' (Kd.R_new' (Kd.R_new' ho0 (Kd.R_lt q8_)) (Kd.R_lt q10_)) (Kd.R_lt q11_)) (Kd.R_lt q13_)) (Kd.R_lt q16_)) (Kd.R_lt q17_)) (Kd.R_lt q20_)) (Kd.R_lt q29_)) (below_size bh_));replace HO169:=Aside0.mk (Kd.R_elder' q8_ (Kd.R_base ho0) hb);replace HO172:=Aside0.mk (Kd.R_elder' q10_ (Kd.R_base ho0) hb);replace HO181:=Aside0.mk (Kd.R_elder' q11_ (Kd.R_base ho0) hb);replace HO190:=Aside0.mk (Kd.R_elder' q13_ (Kd.R_base ho0) hb);replace HO217:=Aside0.mk (Kd.R_elder' q16_ (Kd.R_base ho0) hb);replace HO221:=Aside0.mk (Kd.R_elder' q17_ (Kd.R_base ho0) hb);replace HO236:=Aside0.mk (Kd.R_elder' q20_ (Kd.R_base ho0) hb);replace HO246:=Aside0.mk (Kd.R_elder' q29_ (Kd.R_base ho0) hb);replace HB:=Aside0.mk (below_step bh_ hb);(try clear hb);(try clear hb2);(try clear hk);(try clear hi);(try clear ho0);obtain ⟨Ao87,co87,eo87⟩:=Kd.R_slice HO256.out;subst eo87) | (go_at_call 46;(with_reducible refine (Lw17_req.calls (⟨#[122]⟩ : ByteArray) (-1) t257 t258 t259 t260 t261 t262 _ A33.out).mono ?_);rintro e w88 ⟨rfl,hb⟩;replace HO154:=Aside0.mk (Kd.N_below q12_ hb);replace HO169:=Aside0.mk (Kd.R_below q8_ hb);replace HO172:=Aside0.mk (Kd.R_below q10_ hb);replace HO181:=Aside0.mk (Kd.R_below q11_ hb);replace HO190:=Aside0.mk (Kd.R_below q13_ hb);replace HO217:=Aside0.mk (Kd.R_below q16_ hb);replace HO221:=Aside0.mk (Kd.R_below q17_ hb);replace HO236:=Aside0.mk (Kd.R_below q20_ hb);replace HO246:=Aside0.mk (Kd.R_below q29_ hb);replace HO256:=Aside0.mk (Kd.R_below q48_ hb);replace HB:=Aside0.mk (below_step bh_ hb);(try clear hb);(try clear hb2);(try clear hk);(try clear hi)) | (go_at_call 29;(with_reducible refine (mvs_Upgrade.calls _ _ y167 t257 t258 t259 t260 t261 t262 t263 _ ?side1 ?side2 A34.out ?sideG).mono ?_);(case sideG => first | exact HG.out | exact Env.below HG.out bh_);(case side1 => repeat (first | exact (Kd.R_reads' HO169.out).2.2 | (with_reducible refine Kd.C_alloc ?_ _) | (with_reducible refine Kd.C_drewN ?_ _) | (with_reducible refine Kd.C_drew ?_)));(case side2 => exact (Kd.R_reads' HO169.out).2.1);rintro e w89 ⟨v264,rfl,ho0,hb⟩;replace HO154:=Aside0.mk (Kd.N_elder' q12_ (Kd.R_base ho0) hb);have HO265:=Aside0.mk (Kd.R_lower (Kd.R_new' (Kd.R_new' (Kd.R_new' (Kd.R_new' (Kd.R_new' (Kd.R_new' (Kd.R_new' (Kd.R_new' (Kd.R_new' ho0 (Kd.R_lt q8_)) (Kd.R_lt q10_)) (Kd.R_lt q11_)) (Kd.R_lt q13_)) (Kd.R_lt q16_)) (Kd.R_lt q17_)) (Kd.R_lt q20_)) (Kd.R_lt q29_)) (Kd.R_lt q48_)) (below_size bh_));replace HO169:=Aside0.mk (Kd.R_elder' q8_ (Kd.R_base ho0) hb);replace HO172:=Aside0.mk (Kd.R_elder' q10_ (Kd.R_base ho0) hb);replace HO181:=Aside0.mk (Kd.R_elder' q11_ (Kd.R_base ho0) hb);replace HO190:=Aside0.mk (Kd.R_elder' q13_ (Kd.R_base ho0) hb);replace HO217:=Aside0.mk (Kd.R_elder' q16_ (Kd.R_base ho0) hb);replace HO221:=Aside0.mk (Kd.R_elder' q17_ (Kd.R_base ho0) hb);replace HO236:=Aside0.mk (Kd.R_elder' q20_ (Kd.R_base ho0) hb);replace HO246:=Aside0.mk (Kd.R_elder' q29_ (Kd.R_base ho0) hb);replace HO256:=Aside0.mk (Kd.R_elder' q48_ (Kd.R_base ho0) hb);replace HB:=Aside0.mk (below_step bh_ hb);(try clear hb);(try clear hb2);(try clear hk);(try clear hi);(try clear ho0);obtain ⟨Ao90,co90,eo90⟩:=Kd.R_slice HO265.out;subst eo90))
      go_ret
      exact ⟨by first | rfl | (simp [] <;> rfl) | (simp [*] <;> rfl) | (simp [bne_nil_];done) | (simp [*,bne_nil_];done),by repeat (first | (with_reducible first | exact HB.out | apply below_alloc | apply pw_below_drewN | apply below_drew1) | exact HB.out)⟩
     ·rw [if_neg c32] at H
      exact absurd ((Option.some.inj H).trans HR_.out) q28_
    ·replace c29:=Bool.eq_false_iff.mpr c29
     subst c29
     rw [if_neg (show ¬ (false = true) by decide)] at H
     exact absurd ((Option.some.inj H).trans HR_.out) q28_
   ·replace c26:=Bool.eq_false_iff.mpr c26
    subst c26
    rw [if_neg (show ¬ (false = true) by decide)] at H
    exact absurd ((Option.some.inj H).trans HR_.out) q28_
  ·rw [if_neg c22] at H
   exact absurd ((Option.some.inj H).trans HR_.out) q28_
 ·replace c20:=Bool.eq_false_iff.mpr c20
  subst c20
  rw [if_neg (show ¬ (false = true) by decide)] at H
  exact absurd ((Option.some.inj H).trans HR_.out) q28_
end Go.Proofs.YtennhpoemdaghaaGreatDoor.P
end
section
namespace Go.Proofs.YtennhpoemdaghaaGreatDoor.P
open Go Go.RowKit Go.Proofs.YtennhpoemdaghaaGreatDoorW.PrintWords
theorem live_at : Lw17_live.f 200 = some true:=by decide +kernel
theorem live_f (k : Nat) (hk : 200 ≤ k) : Lw17_live.f k = some true:=by
 obtain ⟨d,rfl⟩ : ∃ d,k = 200 + d:=⟨k - 200,by omega⟩
 clear hk
 induction d with
 | zero => exact live_at
 | succ d ih => exact Lw17_live.mono (200 + d) _ ih
end Go.Proofs.YtennhpoemdaghaaGreatDoor.P
end
section
namespace Go.Proofs.YtennhpoemdaghaaGreatDoor.P
open Go.RowKit Go.Proofs.YtennhpoemdaghaaGreatDoorW.PrintWords Go.Proofs.YtennhpoemdaghaaGreatDoorW.PrintLast Go.Proofs.YtennhpoemdaghaaGreatDoorW.PrintMore
mutual
def Lw17_MvsRoots.j0 : Nat → List (S41) → List (S41) → List (S68) → Bool → Option (Bool)
 | 0,_,_,_,_ => none
 | k + 1,x0,x1,x2,x33 => if x33 = true then ((Lw17_live.f k).bind fun t103 => (some t103)) else ((Lw17_own.f k x2).bind fun t104 => (if ([] : List (S41)).length + x0.length < 1954687338268 then ((some (([] : List (S41)) ++ x0 : List (S41))).bind fun y107 => (if y107.length + x1.length < 1954687338268 then ((mvs_List.f x0 t104).bind fun t113 => ((mvs_List.f x1 t104).bind fun t116 => ((mvs_List.f (y107 ++ x1) t104).bind fun t119 => (Lw17_MvsRoots.l0 k t113 t116 t119 0)))) else (none))) else (none)))
def Lw17_MvsRoots.l0 : Nat → List (S41) → List (S41) → List (S41) → Int → Option (Bool)
 | 0,_,_,_,_ => none
 | k + 1,x9,x10,x11,x12 => if x12 < (x11.length : Int) then (if 0 ≤ x12 then ((Lw17_covers.f k x11 ((rd_T41 x11 x12).f0) ((rd_T41 x11 x12).f1.f0) ((rd_T41 x11 x12).f1.f1) ((rd_T41 x11 x12).f1.f2) ((rd_T41 x11 x12).f1.f3) ((rd_T41 x11 x12).f1.f4)).bind fun t123 => (if t123 = true then ((Lw17_same.f k x9 ((rd_T41 x11 x12).f0) ((rd_T41 x11 x12).f1.f0) ((rd_T41 x11 x12).f1.f1) ((rd_T41 x11 x12).f1.f2) ((rd_T41 x11 x12).f1.f3) ((rd_T41 x11 x12).f1.f4)).bind fun t125 => (if t125 = true then (Lw17_MvsRoots.l0 k x9 x10 x11 (wrap64 (x12 + 1))) else ((Lw17_same.f k x10 ((rd_T41 x11 x12).f0) ((rd_T41 x11 x12).f1.f0) ((rd_T41 x11 x12).f1.f1) ((rd_T41 x11 x12).f1.f2) ((rd_T41 x11 x12).f1.f3) ((rd_T41 x11 x12).f1.f4)).bind fun t127 => (if t127 = true then (Lw17_MvsRoots.l0 k x9 x10 x11 (wrap64 (x12 + 1))) else (some false))))) else (some false))) else (none)) else (Lw17_MvsRoots.l1 k x9 x10 x11 0)
def Lw17_MvsRoots.l1 : Nat → List (S41) → List (S41) → List (S41) → Int → Option (Bool)
 | 0,_,_,_,_ => none
 | k + 1,x9,x10,x11,x13 => if x13 < (x9.length : Int) then (if 0 ≤ x13 then ((Lw17_covers.f k x11 ((rd_T41 x9 x13).f0) ((rd_T41 x9 x13).f1.f0) ((rd_T41 x9 x13).f1.f1) ((rd_T41 x9 x13).f1.f2) ((rd_T41 x9 x13).f1.f3) ((rd_T41 x9 x13).f1.f4)).bind fun t129 => (if t129 = true then (Lw17_MvsRoots.l1 k x9 x10 x11 (wrap64 (x13 + 1))) else (some false))) else (none)) else (Lw17_MvsRoots.l2 k x10 x11 0)
def Lw17_MvsRoots.l2 : Nat → List (S41) → List (S41) → Int → Option (Bool)
 | 0,_,_,_ => none
 | k + 1,x10,x11,x14 => if x14 < (x10.length : Int) then (if 0 ≤ x14 then ((Lw17_covers.f k x11 ((rd_T41 x10 x14).f0) ((rd_T41 x10 x14).f1.f0) ((rd_T41 x10 x14).f1.f1) ((rd_T41 x10 x14).f1.f2) ((rd_T41 x10 x14).f1.f3) ((rd_T41 x10 x14).f1.f4)).bind fun t131 => (if t131 = true then (Lw17_MvsRoots.l2 k x10 x11 (wrap64 (x14 + 1))) else (some false))) else (none)) else ((Lw17_live.f k).bind fun t132 => (some t132))
end
def Lw17_MvsRoots.f (k : Nat) (l0 : List (S41)) (l1 : List (S41)) (l2 : List (S68)) : Option (Bool):=(Rf17_Small.f k l0 l2).bind fun t101 => (if t101 = true then ((Rf17_Small.f k l1 ([] : List (S68))).bind fun t102 => (if t102 = true then (if (l0.length : Int) > 6 then (Lw17_MvsRoots.j0 k l0 l1 l2 true) else (Lw17_MvsRoots.j0 k l0 l1 l2 (decide ((l1.length : Int) > 6)))) else (Lw17_MvsRoots.j0 k l0 l1 l2 true))) else (Lw17_MvsRoots.j0 k l0 l1 l2 true))
set_option maxHeartbeats 8000000 in
set_option maxRecDepth 100000 in
theorem Lw17_MvsRoots.calls (k : Nat) (A0 : Option Addr) (c0 : Nat) (l0 : List (S41)) (A1 : Option Addr) (c1 : Nat) (l1 : List (S41)) (A2 : Option Addr) (c2 : Nat) (l2 : List (S68)) (r : Bool) (w : World) (hr0 : Kd.C k41 w A0 l0.length l0) (hc0 : l0.length ≤ c0) (hr1 : Kd.C k41 w A1 l1.length l1) (hc1 : l1.length ≤ c1) (hr2 : Kd.C k68 w A2 l2.length l2) (hc2 : l2.length ≤ c2) (h : Lw17_MvsRoots.f k l0 l1 l2 = some r) (hr_ : r = true) (hG : Env w) :
  Calls Tryz.prog 8 #[.slice A0 l0.length c0,.slice A1 l1.length c1,.slice A2 l2.length c2] w fun e w' => e = .returned (.bool r) ∧ Below w.heap.size w w':=by
 have HG:=Aside0.mk hG
 clear hG
 have HR_:=Aside0.mk hr_
 clear hr_
 have hu41:=Tryz.underlying41
 have HR0:=Aside0.mk hr0
 have HC0:=Aside0.mk hc0
 clear hr0 hc0
 have HR1:=Aside0.mk hr1
 have HC1:=Aside0.mk hc1
 clear hr1 hc1
 have HR2:=Aside0.mk hr2
 have HC2:=Aside0.mk hc2
 clear hr2 hc2
 have HB:=Aside0.mk (Below.refl w.heap.size w)
 have H : ((Rf17_Small.f k l0 l2).bind fun t101 => (if t101 = true then ((Rf17_Small.f k l1 ([] : List (S68))).bind fun t102 => (if t102 = true then (if (l0.length : Int) > 6 then (Lw17_MvsRoots.j0 k l0 l1 l2 true) else (Lw17_MvsRoots.j0 k l0 l1 l2 (decide ((l1.length : Int) > 6)))) else (Lw17_MvsRoots.j0 k l0 l1 l2 true))) else (Lw17_MvsRoots.j0 k l0 l1 l2 true))) = some r:=h
 clear h
 have HC4:=Aside0.mk H
 clear H
 go_enter Tryz.func8,Tryz.ntmps8
 go_upto_region 1 with (fail)
 go_cut [33] (fun v33 wc => ∃ (kq : Nat) (x33_3 : Bool),v33 = .bool x33_3 ∧ Aside0 (Lw17_MvsRoots.j0 kq l0 l1 l2 x33_3 = some r) ∧ Aside0 (kq ≤ k) ∧ Aside0 (Below w.heap.size w wc))
 case first =>
  have H:=HC4.out
  clear HC4
  obtain ⟨t101,A50,H⟩:=Option.bind_eq_some_iff.mp H
  have A5:=Aside0.mk A50
  clear A50
  by_cases c6 : t101 = true
  ·subst c6
   rw [if_pos rfl] at H
   obtain ⟨t102,A70,H⟩:=Option.bind_eq_some_iff.mp H
   have A7:=Aside0.mk A70
   clear A70
   by_cases c8 : t102 = true
   ·subst c8
    rw [if_pos rfl] at H
    by_cases c9 : (l0.length : Int) > 6
    ·rw [if_pos c9] at H
     have c9b0 : decide (6 < (l0.length : Int)) = true:=decide_eq_true c9
     have c9b1 : decide (6 < l0.length) = true:=decide_eq_true q7_
     clear c9
     (first | rw [c9b0] | (simp only [];rw [c9b0]) | skip)
     have H':=Aside0.mk H
     clear H
     go_wp2_with (first | ((with_reducible refine gate_callee (f:=21) rfl ?_);refine goesL_ (some 17) rfl rfl Tryz.func21 q3_ rfl #[.slice A0 l0.length c0,.slice A2 l2.length c2] rfl q1_ ?_;(with_reducible refine (Rf17_Small.calls k _ _ l0 _ _ l2 true _ ?side1 ?side2 ?side3 ?side4 A5.out).mono ?_);(case side1 => repeat (first | exact (Kd.C_below HR0.out HB.out) | (with_reducible refine Kd.C_alloc ?_ _) | (with_reducible refine Kd.C_drewN ?_ _) | (with_reducible refine Kd.C_drew ?_)));(case side2 => exact HC0.out);(case side3 => repeat (first | exact (Kd.C_below HR2.out HB.out) | (with_reducible refine Kd.C_alloc ?_ _) | (with_reducible refine Kd.C_drewN ?_ _) | (with_reducible refine Kd.C_drew ?_)));(case side4 => exact HC2.out);rintro e w10 ⟨rfl,hb⟩;refine ⟨_,rfl,?_⟩;replace HB:=Aside0.mk (below_step bh_ hb);(try clear hb);(try clear hb2);(try clear hk);(try clear hi)) | (go_at_call 21;(refine (Rf17_Small.calls k _ _ l1 _ _ ([] : List (S68)) true _ ?side1 ?side2 ?side3 ?side4 A7.out).mono ?_);(case side1 => repeat (first | exact (Kd.C_below HR1.out HB.out) | (with_reducible refine Kd.C_alloc ?_ _) | (with_reducible refine Kd.C_drewN ?_ _) | (with_reducible refine Kd.C_drew ?_)));(case side2 => exact HC1.out);(case side3 => exact Kd.C_nil _ _);(case side4 => exact Nat.le_refl _);rintro e w11 ⟨rfl,hb⟩;replace HB:=Aside0.mk (below_step bh_ hb);(try clear hb);(try clear hb2);(try clear hk);(try clear hi)))
     go_meet
     case rel => exact ⟨_,(true),q4_,H',⟨by first | omega | exact Nat.le_refl _⟩,⟨by repeat (first | (with_reducible first | exact HB.out | apply below_alloc | apply pw_below_drewN | apply below_drew1) | exact HB.out)⟩⟩
    ·rw [if_neg c9] at H
     have c9b0 : decide (6 < (l0.length : Int)) = false:=decide_eq_false c9
     have c9b1 : decide (6 < l0.length) = false:=decide_eq_false q7_
     clear c9
     (first | rw [c9b0] | (simp only [];rw [c9b0]) | skip)
     have H':=Aside0.mk H
     clear H
     go_wp2_with (first | ((with_reducible refine gate_callee (f:=21) rfl ?_);refine goesL_ (some 17) rfl rfl Tryz.func21 q3_ rfl #[.slice A0 l0.length c0,.slice A2 l2.length c2] rfl q1_ ?_;(with_reducible refine (Rf17_Small.calls k _ _ l0 _ _ l2 true _ ?side1 ?side2 ?side3 ?side4 A5.out).mono ?_);(case side1 => repeat (first | exact (Kd.C_below HR0.out HB.out) | (with_reducible refine Kd.C_alloc ?_ _) | (with_reducible refine Kd.C_drewN ?_ _) | (with_reducible refine Kd.C_drew ?_)));(case side2 => exact HC0.out);(case side3 => repeat (first | exact (Kd.C_below HR2.out HB.out) | (with_reducible refine Kd.C_alloc ?_ _) | (with_reducible refine Kd.C_drewN ?_ _) | (with_reducible refine Kd.C_drew ?_)));(case side4 => exact HC2.out);rintro e w12 ⟨rfl,hb⟩;refine ⟨_,rfl,?_⟩;replace HB:=Aside0.mk (below_step bh_ hb);(try clear hb);(try clear hb2);(try clear hk);(try clear hi)) | (go_at_call 21;(refine (Rf17_Small.calls k _ _ l1 _ _ ([] : List (S68)) true _ ?side1 ?side2 ?side3 ?side4 A7.out).mono ?_);(case side1 => repeat (first | exact (Kd.C_below HR1.out HB.out) | (with_reducible refine Kd.C_alloc ?_ _) | (with_reducible refine Kd.C_drewN ?_ _) | (with_reducible refine Kd.C_drew ?_)));(case side2 => exact HC1.out);(case side3 => exact Kd.C_nil _ _);(case side4 => exact Nat.le_refl _);rintro e w13 ⟨rfl,hb⟩;replace HB:=Aside0.mk (below_step bh_ hb);(try clear hb);(try clear hb2);(try clear hk);(try clear hi)))
     go_meet
     case rel => exact ⟨_,(decide ((l1.length : Int) > 6)),q4_,H',⟨by first | omega | exact Nat.le_refl _⟩,⟨by repeat (first | (with_reducible first | exact HB.out | apply below_alloc | apply pw_below_drewN | apply below_drew1) | exact HB.out)⟩⟩
   ·replace c8:=Bool.eq_false_iff.mpr c8
    subst c8
    rw [if_neg (show ¬ (false = true) by decide)] at H
    have H':=Aside0.mk H
    clear H
    go_wp2_with (first | ((with_reducible refine gate_callee (f:=21) rfl ?_);refine goesL_ (some 17) rfl rfl Tryz.func21 q3_ rfl #[.slice A0 l0.length c0,.slice A2 l2.length c2] rfl q1_ ?_;(with_reducible refine (Rf17_Small.calls k _ _ l0 _ _ l2 true _ ?side1 ?side2 ?side3 ?side4 A5.out).mono ?_);(case side1 => repeat (first | exact (Kd.C_below HR0.out HB.out) | (with_reducible refine Kd.C_alloc ?_ _) | (with_reducible refine Kd.C_drewN ?_ _) | (with_reducible refine Kd.C_drew ?_)));(case side2 => exact HC0.out);(case side3 => repeat (first | exact (Kd.C_below HR2.out HB.out) | (with_reducible refine Kd.C_alloc ?_ _) | (with_reducible refine Kd.C_drewN ?_ _) | (with_reducible refine Kd.C_drew ?_)));(case side4 => exact HC2.out);rintro e w14 ⟨rfl,hb⟩;refine ⟨_,rfl,?_⟩;replace HB:=Aside0.mk (below_step bh_ hb);(try clear hb);(try clear hb2);(try clear hk);(try clear hi)) | (go_at_call 21;(refine (Rf17_Small.calls k _ _ l1 _ _ ([] : List (S68)) false _ ?side1 ?side2 ?side3 ?side4 A7.out).mono ?_);(case side1 => repeat (first | exact (Kd.C_below HR1.out HB.out) | (with_reducible refine Kd.C_alloc ?_ _) | (with_reducible refine Kd.C_drewN ?_ _) | (with_reducible refine Kd.C_drew ?_)));(case side2 => exact HC1.out);(case side3 => exact Kd.C_nil _ _);(case side4 => exact Nat.le_refl _);rintro e w15 ⟨rfl,hb⟩;replace HB:=Aside0.mk (below_step bh_ hb);(try clear hb);(try clear hb2);(try clear hk);(try clear hi)))
    go_meet
    case rel => exact ⟨_,(true),q4_,H',⟨by first | omega | exact Nat.le_refl _⟩,⟨by repeat (first | (with_reducible first | exact HB.out | apply below_alloc | apply pw_below_drewN | apply below_drew1) | exact HB.out)⟩⟩
  ·replace c6:=Bool.eq_false_iff.mpr c6
   subst c6
   rw [if_neg (show ¬ (false = true) by decide)] at H
   have H':=Aside0.mk H
   clear H
   go_wp2_with (first | ((with_reducible refine gate_callee (f:=21) rfl ?_);refine goesL_ (some 17) rfl rfl Tryz.func21 q3_ rfl #[.slice A0 l0.length c0,.slice A2 l2.length c2] rfl q1_ ?_;(with_reducible refine (Rf17_Small.calls k _ _ l0 _ _ l2 false _ ?side1 ?side2 ?side3 ?side4 A5.out).mono ?_);(case side1 => repeat (first | exact (Kd.C_below HR0.out HB.out) | (with_reducible refine Kd.C_alloc ?_ _) | (with_reducible refine Kd.C_drewN ?_ _) | (with_reducible refine Kd.C_drew ?_)));(case side2 => exact HC0.out);(case side3 => repeat (first | exact (Kd.C_below HR2.out HB.out) | (with_reducible refine Kd.C_alloc ?_ _) | (with_reducible refine Kd.C_drewN ?_ _) | (with_reducible refine Kd.C_drew ?_)));(case side4 => exact HC2.out);rintro e w16 ⟨rfl,hb⟩;refine ⟨_,rfl,?_⟩;replace HB:=Aside0.mk (below_step bh_ hb);(try clear hb);(try clear hb2);(try clear hk);(try clear hi)))
   go_meet
   case rel => exact ⟨_,(true),q4_,H',⟨by first | omega | exact Nat.le_refl _⟩,⟨by repeat (first | (with_reducible first | exact HB.out | apply below_alloc | apply pw_below_drewN | apply below_drew1) | exact HB.out)⟩⟩
 case rest =>
  clear HC4
  try clear c1
  try clear c2
  try clear p2
  try clear c6
  try clear c8
  try clear c9
  try clear c9b0
  try clear c9b1
  obtain ⟨kq,x33_3,rfl,HA,HJ3,HB⟩:=hcut
  cases kq with
  | zero => exact absurd HA.out (by simp [Lw17_MvsRoots.j0])
  | succ kj3 =>
   have H:=HA.out
   clear HA
   simp only [Lw17_MvsRoots.j0] at H
   by_cases c17 : x33_3 = true
   ·subst c17
    rw [if_pos rfl] at H
    obtain ⟨t103,A180,H⟩:=Option.bind_eq_some_iff.mp H
    have A18:=Aside0.mk A180
    clear A180
    obtain rfl:=Option.some.inj H
    go_wp2_with (first | ((with_reducible refine gate_callee (f:=22) rfl ?_);refine goesL_ (some 34) rfl rfl Tryz.func22 q3_ rfl #[] rfl q1_ ?_;(with_reducible refine (Lw17_live.calls kj3  t103 _ A18.out HR_.out ?sideG).mono ?_);(case sideG => first | exact HG.out | exact Env.below HG.out bh_);rintro e w19 ⟨rfl,hb⟩;refine ⟨_,rfl,?_⟩;replace HB:=Aside0.mk (below_step bh_ hb);(try clear hb);(try clear hb2);(try clear hk);(try clear hi)))
    go_ret
    exact ⟨by first | rfl | (simp [] <;> rfl) | (simp [*] <;> rfl) | (simp [bne_nil_];done) | (simp [*,bne_nil_];done),by repeat (first | (with_reducible first | exact HB.out | apply below_alloc | apply pw_below_drewN | apply below_drew1) | exact HB.out)⟩
   ·replace c17:=Bool.eq_false_iff.mpr c17
    subst c17
    rw [if_neg (show ¬ (false = true) by decide)] at H
    obtain ⟨t104,A200,H⟩:=Option.bind_eq_some_iff.mp H
    have A20:=Aside0.mk A200
    clear A200
    by_cases c21 : ([] : List (S41)).length + l0.length < 1954687338268
    ·rw [if_pos c21] at H
     have LMc21:=Aside0.mk c21
     clear c21
     obtain ⟨y107,hy107⟩ : ∃ y_ : List (S41),y_ = (([] : List (S41)) ++ l0):=⟨_,rfl⟩
     replace H : (if y107.length + l1.length < 1954687338268 then ((mvs_List.f l0 t104).bind fun t113 => ((mvs_List.f l1 t104).bind fun t116 => ((mvs_List.f (y107 ++ l1) t104).bind fun t119 => (Lw17_MvsRoots.l0 kj3 t113 t116 t119 0)))) else (none)) = some r:=by first | (rw [hy107];with_reducible exact H) | (have H2_:=(Option.bind_some _ _).symm.trans H;rw [hy107];with_reducible exact H2_) | (have H2_:=(Option.bind_some _ _).symm.trans H;with_reducible exact H2_) | with_reducible exact H | (rw [hy107];exact H) | exact H
     have Ny107:=Aside0.mk hy107
     clear hy107
     by_cases c22 : y107.length + l1.length < 1954687338268
     ·rw [if_pos c22] at H
      have LMc22:=Aside0.mk c22
      clear c22
      obtain ⟨y110,hy110⟩ : ∃ y_ : List (S41),y_ = (y107 ++ l1):=⟨_,rfl⟩
      replace H : ((mvs_List.f l0 t104).bind fun t113 => ((mvs_List.f l1 t104).bind fun t116 => ((mvs_List.f y110 t104).bind fun t119 => (Lw17_MvsRoots.l0 kj3 t113 t116 t119 0)))) = some r:=by first | (rw [hy110];with_reducible exact H) | (have H2_:=(Option.bind_some _ _).symm.trans H;rw [hy110];with_reducible exact H2_) | (have H2_:=(Option.bind_some _ _).symm.trans H;with_reducible exact H2_) | with_reducible exact H | (rw [hy110];exact H) | exact H
      have Ny110:=Aside0.mk hy110
      clear hy110
      obtain ⟨t113,A230,H⟩:=Option.bind_eq_some_iff.mp H
      have A23:=Aside0.mk A230
      clear A230
      obtain ⟨t116,A240,H⟩:=Option.bind_eq_some_iff.mp H
      have A24:=Aside0.mk A240
      clear A240
      obtain ⟨t119,A250,H⟩:=Option.bind_eq_some_iff.mp H
      have A25:=Aside0.mk A250
      clear A250
      have H':=Aside0.mk H
      clear H
      go_wp2_with (first | ((with_reducible refine gate_callee (f:=23) rfl ?_);refine goesL_ (some 36) rfl rfl Tryz.func23 q3_ rfl #[.slice A2 l2.length c2] rfl q1_ ?_;(with_reducible refine (Lw17_own.calls kj3 (fun k_ => k_ < w.heap.size) _ _ l2 t104 _ ?side1 A20.out).mono ?_);(case side1 => exact Kd.V_mk HC2.out (Kd.F_below (Kd.C_F k68_heap HR2.out) bh_));rintro e w26 ⟨v105,rfl,ho0,hb⟩;refine ⟨_,rfl,?_⟩;have HO106:=Aside0.mk (Kd.N_lower (Kd.N_mono (ok':=fun k_ => True) ho0 (fun k_ hk_ => trivial)) (below_size bh_));replace HB:=Aside0.mk (below_step bh_ hb);(try clear hb);(try clear hb2);(try clear hk);(try clear hi);(try clear ho0)) | ((with_reducible refine gate_builtin (b:=.append) (xs:=#[.tmp 37,.tmp 38]) rfl ?_);(try (refine gate_guard q45_ ?_;dsimp only));at_builtin;refine Kd.R_append_rows k41 (w0:=w) w.heap.size rfl (.tmp 37) (.tmp 38) 38 41 (.agg #[(.string ⟨#[]⟩),(.int .i64 0),(.int .i64 0),(.int .i64 0),(.string ⟨#[]⟩),(.string ⟨#[]⟩)]) 72 rfl Tryz.underlying38 info41 rfl q35_ q7_ (.slice none 0 0) ([] : List (S41)) l0 _ _ _ (fun _ => True) (fun _ => False) rfl rfl ?aO ?aR (fun _ _ h => h) (fun _ h => h.elim) ?aF ?aB ?aS ?aL ?_;(case aR => repeat (first | exact (Kd.C_below HR0.out HB.out) | (with_reducible refine Kd.C_alloc ?_ _) | (with_reducible refine Kd.C_drewN ?_ _) | (with_reducible refine Kd.C_drew ?_)));(case aB => exact bh_);(case aF => exact (fun _ _ => trivial));(case aO => exact ((Kd.R_nil _ _ _ _ (fun _ => True))));(case aS => exact (below_size bh_));(case aL => have:=LMc21.out;omega);intro v108 w27 ho hb hg hat;rw [← Ny107.out] at ho;replace HO106:=Aside0.mk (Kd.N_afterv (Kd.N_apart_nil q38_) hg hat);replace HB:=Aside0.mk (hb);have HO109:=Aside0.mk (ho);clear ho hb hg hat) | ((with_reducible refine gate_builtin (b:=.append) (xs:=#[.tmp 40,.tmp 41]) rfl ?_);(try (refine gate_guard q45_ ?_;dsimp only));at_builtin;refine Kd.R_append_rows k41 (w0:=w) w.heap.size rfl (.tmp 40) (.tmp 41) 38 41 (.agg #[(.string ⟨#[]⟩),(.int .i64 0),(.int .i64 0),(.int .i64 0),(.string ⟨#[]⟩),(.string ⟨#[]⟩)]) 72 rfl Tryz.underlying38 info41 rfl q35_ q7_ v108 y107 l1 _ _ _ (fun _ => True) (fun _ => False) rfl rfl ?aO ?aR (fun _ _ h => h) (fun _ h => h.elim) ?aF ?aB ?aS ?aL ?_;(case aR => repeat (first | exact (Kd.C_below HR1.out HB.out) | (with_reducible refine Kd.C_alloc ?_ _) | (with_reducible refine Kd.C_drewN ?_ _) | (with_reducible refine Kd.C_drew ?_)));(case aB => exact bh_);(case aF => exact (fun _ _ => trivial));(case aO => exact (by (with_reducible repeat (first | apply Kd.R_alloc | apply Kd.R_drewN | apply Kd.R_drew));exact HO109.out));(case aS => exact (below_size bh_));(case aL => have:=LMc22.out;omega);intro v111 w28 ho hb hg hat;rw [← Ny110.out] at ho;replace HO106:=Aside0.mk (Kd.N_afterv (ok:=(fun _ => True)) q38_ hg hat);replace HB:=Aside0.mk (hb);have HO112:=Aside0.mk (ho);clear HO109;clear ho hb hg hat;obtain ⟨Ao29,co29,eo29⟩:=Kd.N_slice HO106.out;subst eo29) | ((with_reducible refine gate_callee (f:=27) rfl ?_);refine goesL_ (some 45) rfl rfl Tryz.func27 q3_ rfl #[.slice A0 l0.length c0,.slice Ao29 t104.length co29] rfl q1_ ?_;(with_reducible refine (mvs_List.calls _ _ l0 _ _ t104 t113 _ ?side1 ?side2 ?side3 ?side4 A23.out ?sideG).mono ?_);(case sideG => first | exact HG.out | exact Env.below HG.out bh_);(case side1 => repeat (first | exact (Kd.C_below HR0.out HB.out) | (with_reducible refine Kd.C_alloc ?_ _) | (with_reducible refine Kd.C_drewN ?_ _) | (with_reducible refine Kd.C_drew ?_)));(case side2 => exact HC0.out);(case side3 => repeat (first | exact (Kd.N_reads' HO106.out).2.2 | (with_reducible refine Kd.C_alloc ?_ _) | (with_reducible refine Kd.C_drewN ?_ _) | (with_reducible refine Kd.C_drew ?_)));(case side4 => exact (Kd.N_reads' HO106.out).2.1);rintro e w30 ⟨v114,rfl,ho0,hb⟩;refine ⟨_,rfl,?_⟩;replace HO106:=Aside0.mk (Kd.N_elder' q38_ (Kd.R_base ho0) hb);have HO115:=Aside0.mk (Kd.R_lower (Kd.R_new' ho0 (Kd.R_lt q30_)) (below_size bh_));replace HO112:=Aside0.mk (Kd.R_elder' q30_ (Kd.R_base ho0) hb);replace HB:=Aside0.mk (below_step bh_ hb);(try clear hb);(try clear hb2);(try clear hk);(try clear hi);(try clear ho0)) | ((with_reducible refine gate_callee (f:=27) rfl ?_);refine goesL_ (some 48) rfl rfl Tryz.func27 q3_ rfl #[.slice A1 l1.length c1,.slice Ao29 t104.length co29] rfl q1_ ?_;(with_reducible refine (mvs_List.calls _ _ l1 _ _ t104 t116 _ ?side1 ?side2 ?side3 ?side4 A24.out ?sideG).mono ?_);(case sideG => first | exact HG.out | exact Env.below HG.out bh_);(case side1 => repeat (first | exact (Kd.C_below HR1.out HB.out) | (with_reducible refine Kd.C_alloc ?_ _) | (with_reducible refine Kd.C_drewN ?_ _) | (with_reducible refine Kd.C_drew ?_)));(case side2 => exact HC1.out);(case side3 => repeat (first | exact (Kd.N_reads' HO106.out).2.2 | (with_reducible refine Kd.C_alloc ?_ _) | (with_reducible refine Kd.C_drewN ?_ _) | (with_reducible refine Kd.C_drew ?_)));(case side4 => exact (Kd.N_reads' HO106.out).2.1);rintro e w31 ⟨v117,rfl,ho0,hb⟩;refine ⟨_,rfl,?_⟩;replace HO106:=Aside0.mk (Kd.N_elder' q38_ (Kd.R_base ho0) hb);have HO118:=Aside0.mk (Kd.R_lower (Kd.R_new' (Kd.R_new' ho0 (Kd.R_lt q30_)) (Kd.R_lt q18_)) (below_size bh_));replace HO112:=Aside0.mk (Kd.R_elder' q30_ (Kd.R_base ho0) hb);replace HO115:=Aside0.mk (Kd.R_elder' q18_ (Kd.R_base ho0) hb);replace HB:=Aside0.mk (below_step bh_ hb);(try clear hb);(try clear hb2);(try clear hk);(try clear hi);(try clear ho0);obtain ⟨Ao32,co32,eo32⟩:=Kd.R_slice HO112.out;subst eo32) | ((with_reducible refine gate_callee (f:=27) rfl ?_);refine goesL_ (some 51) rfl rfl Tryz.func27 q3_ rfl #[.slice Ao32 y110.length co32,.slice Ao29 t104.length co29] rfl q1_ ?_;(with_reducible refine (mvs_List.calls _ _ y110 _ _ t104 t119 _ ?side1 ?side2 ?side3 ?side4 A25.out ?sideG).mono ?_);(case sideG => first | exact HG.out | exact Env.below HG.out bh_);(case side1 => repeat (first | exact (Kd.R_reads' HO112.out).2.2 | (with_reducible refine Kd.C_alloc ?_ _) | (with_reducible refine Kd.C_drewN ?_ _) | (with_reducible refine Kd.C_drew ?_)));(case side2 => exact (Kd.R_reads' HO112.out).2.1);(case side3 => repeat (first | exact (Kd.N_reads' HO106.out).2.2 | (with_reducible refine Kd.C_alloc ?_ _) | (with_reducible refine Kd.C_drewN ?_ _) | (with_reducible refine Kd.C_drew ?_)));(case side4 => exact (Kd.N_reads' HO106.out).2.1);rintro e w33 ⟨v120,rfl,ho0,hb⟩;refine ⟨_,rfl,?_⟩;replace HO106:=Aside0.mk (Kd.N_elder' q38_ (Kd.R_base ho0) hb);have HO121:=Aside0.mk (Kd.R_lower (Kd.R_new' (Kd.R_new' (Kd.R_new' ho0 (Kd.R_lt q30_)) (Kd.R_lt q18_)) (Kd.R_lt q55_)) (below_size bh_));replace HO112:=Aside0.mk (Kd.R_elder' q30_ (Kd.R_base ho0) hb);replace HO115:=Aside0.mk (Kd.R_elder' q18_ (Kd.R_base ho0) hb);replace HO118:=Aside0.mk (Kd.R_elder' q55_ (Kd.R_base ho0) hb);replace HB:=Aside0.mk (below_step bh_ hb);(try clear hb);(try clear hb2);(try clear hk);(try clear hi);(try clear ho0)))
      go_loopg [12] kj3 (fun kq v12 w' => ∃ (x12_2 : Int),v12 = .int .i64 x12_2 ∧ Aside0 (Lw17_MvsRoots.l0 kq t113 t116 t119 x12_2 = some r) ∧ Aside0 (kq ≤ kj3) ∧ Aside0 (Kd.R k41 41 w' w.heap.size (fun k_ => some k_ ≠ (v117 : Value).ownBlock ∧ some k_ ≠ (v120 : Value).ownBlock) v114 t113) ∧ Aside0 (Kd.R k41 41 w' w.heap.size (fun k_ => some k_ ≠ (v114 : Value).ownBlock ∧ some k_ ≠ (v120 : Value).ownBlock) v117 t116) ∧ Aside0 (Kd.R k41 41 w' w.heap.size (fun k_ => some k_ ≠ (v114 : Value).ownBlock ∧ some k_ ≠ (v117 : Value).ownBlock) v120 t119) ∧ Aside0 (Below w.heap.size w w'))
      case atStart => exact ⟨(0),q4_,H',⟨Nat.le_refl _⟩,⟨by (with_reducible repeat (first | apply Kd.R_alloc | apply Kd.R_drewN | apply Kd.R_drew));exact Kd.R_mono HO115.out (fun _ hk => ⟨hk.1.2,hk.2⟩)⟩,⟨by (with_reducible repeat (first | apply Kd.R_alloc | apply Kd.R_drewN | apply Kd.R_drew));exact Kd.R_mono HO118.out (fun _ hk => ⟨hk.1.2,hk.2⟩)⟩,⟨by (with_reducible repeat (first | apply Kd.R_alloc | apply Kd.R_drewN | apply Kd.R_drew));exact Kd.R_mono HO121.out (fun _ hk => ⟨hk.1.2,hk.2⟩)⟩,⟨by repeat (first | (with_reducible first | exact HB.out | apply below_alloc | apply pw_below_drewN | apply below_drew1) | exact HB.out)⟩⟩
      case round =>
       clear H'
       try clear c1
       try clear c2
       try clear p2
       try clear c6
       try clear c8
       try clear c9
       try clear c9b0
       try clear c9b1
       try clear c17
       try clear c21
       try clear c22
       try clear c23
       try clear c27
       try clear p2
       obtain ⟨x12_2,rfl,HA,HK2,HO_9,HO_10,HO_11,HB⟩:=hrel
       cases gk with
       | zero => exact absurd HA.out (by simp [Lw17_MvsRoots.l0])
       | succ k2 =>
        have H:=HA.out
        clear HA
        simp only [Lw17_MvsRoots.l0] at H
        by_cases c34 : x12_2 < (t119.length : Int)
        ·rw [if_pos c34] at H
         have c34b0 : decide (x12_2 < (t119.length : Int)) = true:=decide_eq_true c34
         clear c34
         by_cases c35 : 0 ≤ x12_2
         ·rw [if_pos c35] at H
          have c35b0 : decide (0 ≤ x12_2) = true:=decide_eq_true c35
          clear c35
          obtain ⟨t123,A360,H⟩:=Option.bind_eq_some_iff.mp H
          have A36:=Aside0.mk A360
          clear A360
          by_cases c37 : t123 = true
          ·subst c37
           rw [if_pos rfl] at H
           obtain ⟨t125,A380,H⟩:=Option.bind_eq_some_iff.mp H
           have A38:=Aside0.mk A380
           clear A380
           by_cases c39 : t125 = true
           ·subst c39
            rw [if_pos rfl] at H
            have H':=Aside0.mk H
            clear H
            obtain ⟨Ao40,co40,eo40⟩:=Kd.R_slice HO_11.out
            subst eo40
            have p122 : 0 ≤ (x12_2 : Int):=of_decide_eq_true q2_
            have q122 : x12_2 < (t119.length : Int):=of_decide_eq_true q2_
            obtain ⟨ad122,e122,hx122_0,hx122_1,hx122_2,hx122_3,hx122_4,hx122_5⟩:=at_T41 (Kd.R_reads' HO_11.out).2.2 x12_2 p122 q122
            cases e122
            replace p122:=eq_true p122
            replace q122:=eq_true q122
            go_wp2_with (first | ((with_reducible refine gate_callee (f:=34) rfl ?_);refine goesL_ (some 63) rfl rfl Tryz.func34 q3_ rfl #[.slice (some ad122) t119.length co40,.agg #[.string ((rd_T41 t119 x12_2).f0),.int .i64 ((rd_T41 t119 x12_2).f1.f0),.int .i64 ((rd_T41 t119 x12_2).f1.f1),.int .i64 ((rd_T41 t119 x12_2).f1.f2),.string ((rd_T41 t119 x12_2).f1.f3),.string ((rd_T41 t119 x12_2).f1.f4)]] rfl q1_ ?_;(with_reducible refine (Lw17_covers.calls k2 _ _ t119 ((rd_T41 t119 x12_2).f0) ((rd_T41 t119 x12_2).f1.f0) ((rd_T41 t119 x12_2).f1.f1) ((rd_T41 t119 x12_2).f1.f2) ((rd_T41 t119 x12_2).f1.f3) ((rd_T41 t119 x12_2).f1.f4) true _ ?side1 ?side2 A36.out).mono ?_);(case side1 => repeat (first | exact (Kd.R_reads' HO_11.out).2.2 | (with_reducible refine Kd.C_alloc ?_ _) | (with_reducible refine Kd.C_drewN ?_ _) | (with_reducible refine Kd.C_drew ?_)));(case side2 => exact (Kd.R_reads' HO_11.out).2.1);rintro e w41 ⟨rfl,hb⟩;refine ⟨_,rfl,?_⟩;replace HO_9:=Aside0.mk (Kd.R_below q32_ hb);replace HO_10:=Aside0.mk (Kd.R_below q23_ hb);replace HO_11:=Aside0.mk (Kd.R_below q22_ hb);replace HB:=Aside0.mk (below_step bh_ hb);(try clear hb);(try clear hb2);(try clear hk);(try clear hi);have p124 : 0 ≤ (x12_2 : Int):=of_decide_eq_true q2_;have q124 : x12_2 < (t119.length : Int):=of_decide_eq_true q2_;obtain ⟨ad124,e124,hx124_0,hx124_1,hx124_2,hx124_3,hx124_4,hx124_5⟩:=at_T41 (Kd.R_reads' HO_11.out).2.2 x12_2 p124 q124;obtain rfl : ad122 = ad124:=(by injection e124);replace p124:=eq_true p124;replace q124:=eq_true q124;obtain ⟨Ao42,co42,eo42⟩:=Kd.R_slice HO_9.out;subst eo42) | (go_at_call 37;(with_reducible refine (Lw17_same.calls k2 _ _ t113 ((rd_T41 t119 x12_2).f0) ((rd_T41 t119 x12_2).f1.f0) ((rd_T41 t119 x12_2).f1.f1) ((rd_T41 t119 x12_2).f1.f2) ((rd_T41 t119 x12_2).f1.f3) ((rd_T41 t119 x12_2).f1.f4) true _ ?side1 ?side2 A38.out).mono ?_);(case side1 => repeat (first | exact (Kd.R_reads' HO_9.out).2.2 | (with_reducible refine Kd.C_alloc ?_ _) | (with_reducible refine Kd.C_drewN ?_ _) | (with_reducible refine Kd.C_drew ?_)));(case side2 => exact (Kd.R_reads' HO_9.out).2.1);rintro e w43 ⟨rfl,hb⟩;replace HO_9:=Aside0.mk (Kd.R_below q32_ hb);replace HO_10:=Aside0.mk (Kd.R_below q23_ hb);replace HO_11:=Aside0.mk (Kd.R_below q22_ hb);replace HB:=Aside0.mk (below_step bh_ hb);(try clear hb);(try clear hb2);(try clear hk);(try clear hi)))
            go_roundg k2
            case measure => have:=HJ3.out;have:=HK2.out;omega
            case rel => exact ⟨(wrap64 (x12_2 + 1)),q4_,H',⟨by have:=HJ3.out;have:=HK2.out;omega⟩,⟨by (with_reducible repeat (first | apply Kd.R_alloc | apply Kd.R_drewN | apply Kd.R_drew));exact HO_9.out⟩,⟨by (with_reducible repeat (first | apply Kd.R_alloc | apply Kd.R_drewN | apply Kd.R_drew));exact HO_10.out⟩,⟨by (with_reducible repeat (first | apply Kd.R_alloc | apply Kd.R_drewN | apply Kd.R_drew));exact HO_11.out⟩,⟨by repeat (first | (with_reducible first | exact HB.out | apply below_alloc | apply pw_below_drewN | apply below_drew1) | exact HB.out)⟩⟩
           ·replace c39:=Bool.eq_false_iff.mpr c39
            subst c39
            rw [if_neg (show ¬ (false = true) by decide)] at H
            obtain ⟨t127,A440,H⟩:=Option.bind_eq_some_iff.mp H
            have A44:=Aside0.mk A440
            clear A440
            by_cases c45 : t127 = true
            ·subst c45
             rw [if_pos rfl] at H
             have H':=Aside0.mk H
             clear H
             obtain ⟨Ao46,co46,eo46⟩:=Kd.R_slice HO_11.out
             subst eo46
             have p122 : 0 ≤ (x12_2 : Int):=of_decide_eq_true q2_
             have q122 : x12_2 < (t119.length : Int):=of_decide_eq_true q2_
             obtain ⟨ad122,e122,hx122_0,hx122_1,hx122_2,hx122_3,hx122_4,hx122_5⟩:=at_T41 (Kd.R_reads' HO_11.out).2.2 x12_2 p122 q122
             cases e122
             replace p122:=eq_true p122
             replace q122:=eq_true q122
             go_wp2_with (first | ((with_reducible refine gate_callee (f:=34) rfl ?_);refine goesL_ (some 63) rfl rfl Tryz.func34 q3_ rfl #[.slice (some ad122) t119.length co46,.agg #[.string ((rd_T41 t119 x12_2).f0),.int .i64 ((rd_T41 t119 x12_2).f1.f0),.int .i64 ((rd_T41 t119 x12_2).f1.f1),.int .i64 ((rd_T41 t119 x12_2).f1.f2),.string ((rd_T41 t119 x12_2).f1.f3),.string ((rd_T41 t119 x12_2).f1.f4)]] rfl q1_ ?_;(with_reducible refine (Lw17_covers.calls k2 _ _ t119 ((rd_T41 t119 x12_2).f0) ((rd_T41 t119 x12_2).f1.f0) ((rd_T41 t119 x12_2).f1.f1) ((rd_T41 t119 x12_2).f1.f2) ((rd_T41 t119 x12_2).f1.f3) ((rd_T41 t119 x12_2).f1.f4) true _ ?side1 ?side2 A36.out).mono ?_);(case side1 => repeat (first | exact (Kd.R_reads' HO_11.out).2.2 | (with_reducible refine Kd.C_alloc ?_ _) | (with_reducible refine Kd.C_drewN ?_ _) | (with_reducible refine Kd.C_drew ?_)));(case side2 => exact (Kd.R_reads' HO_11.out).2.1);rintro e w47 ⟨rfl,hb⟩;refine ⟨_,rfl,?_⟩;replace HO_9:=Aside0.mk (Kd.R_below q32_ hb);replace HO_10:=Aside0.mk (Kd.R_below q23_ hb);replace HO_11:=Aside0.mk (Kd.R_below q22_ hb);replace HB:=Aside0.mk (below_step bh_ hb);(try clear hb);(try clear hb2);(try clear hk);(try clear hi);have p124 : 0 ≤ (x12_2 : Int):=of_decide_eq_true q2_;have q124 : x12_2 < (t119.length : Int):=of_decide_eq_true q2_;obtain ⟨ad124,e124,hx124_0,hx124_1,hx124_2,hx124_3,hx124_4,hx124_5⟩:=at_T41 (Kd.R_reads' HO_11.out).2.2 x12_2 p124 q124;obtain rfl : ad122 = ad124:=(by injection e124);replace p124:=eq_true p124;replace q124:=eq_true q124;obtain ⟨Ao48,co48,eo48⟩:=Kd.R_slice HO_9.out;subst eo48) | (go_at_call 37;(with_reducible refine (Lw17_same.calls k2 _ _ t113 ((rd_T41 t119 x12_2).f0) ((rd_T41 t119 x12_2).f1.f0) ((rd_T41 t119 x12_2).f1.f1) ((rd_T41 t119 x12_2).f1.f2) ((rd_T41 t119 x12_2).f1.f3) ((rd_T41 t119 x12_2).f1.f4) false _ ?side1 ?side2 A38.out).mono ?_);(case side1 => repeat (first | exact (Kd.R_reads' HO_9.out).2.2 | (with_reducible refine Kd.C_alloc ?_ _) | (with_reducible refine Kd.C_drewN ?_ _) | (with_reducible refine Kd.C_drew ?_)));(case side2 => exact (Kd.R_reads' HO_9.out).2.1);rintro e w49 ⟨rfl,hb⟩;replace HO_9:=Aside0.mk (Kd.R_below q32_ hb);replace HO_10:=Aside0.mk (Kd.R_below q23_ hb);replace HO_11:=Aside0.mk (Kd.R_below q22_ hb);replace HB:=Aside0.mk (below_step bh_ hb);(try clear hb);(try clear hb2);(try clear hk);(try clear hi);have p126 : 0 ≤ (x12_2 : Int):=of_decide_eq_true q2_;have q126 : x12_2 < (t119.length : Int):=of_decide_eq_true q2_;obtain ⟨ad126,e126,hx126_0,hx126_1,hx126_2,hx126_3,hx126_4,hx126_5⟩:=at_T41 (Kd.R_reads' HO_11.out).2.2 x12_2 p126 q126;obtain rfl : ad122 = ad126:=(by injection e126);replace p126:=eq_true p126;replace q126:=eq_true q126;obtain ⟨Ao50,co50,eo50⟩:=Kd.R_slice HO_10.out;subst eo50) | (go_at_call 37;(with_reducible refine (Lw17_same.calls k2 _ _ t116 ((rd_T41 t119 x12_2).f0) ((rd_T41 t119 x12_2).f1.f0) ((rd_T41 t119 x12_2).f1.f1) ((rd_T41 t119 x12_2).f1.f2) ((rd_T41 t119 x12_2).f1.f3) ((rd_T41 t119 x12_2).f1.f4) true _ ?side1 ?side2 A44.out).mono ?_);(case side1 => repeat (first | exact (Kd.R_reads' HO_10.out).2.2 | (with_reducible refine Kd.C_alloc ?_ _) | (with_reducible refine Kd.C_drewN ?_ _) | (with_reducible refine Kd.C_drew ?_)));(case side2 => exact (Kd.R_reads' HO_10.out).2.1);rintro e w51 ⟨rfl,hb⟩;replace HO_9:=Aside0.mk (Kd.R_below q32_ hb);replace HO_10:=Aside0.mk (Kd.R_below q23_ hb);replace HO_11:=Aside0.mk (Kd.R_below q22_ hb);replace HB:=Aside0.mk (below_step bh_ hb);(try clear hb);(try clear hb2);(try clear hk);(try clear hi)))
             go_roundg k2
             case measure => have:=HJ3.out;have:=HK2.out;omega
             case rel => exact ⟨(wrap64 (x12_2 + 1)),q4_,H',⟨by have:=HJ3.out;have:=HK2.out;omega⟩,⟨by (with_reducible repeat (first | apply Kd.R_alloc | apply Kd.R_drewN | apply Kd.R_drew));exact HO_9.out⟩,⟨by (with_reducible repeat (first | apply Kd.R_alloc | apply Kd.R_drewN | apply Kd.R_drew));exact HO_10.out⟩,⟨by (with_reducible repeat (first | apply Kd.R_alloc | apply Kd.R_drewN | apply Kd.R_drew));exact HO_11.out⟩,⟨by repeat (first | (with_reducible first | exact HB.out | apply below_alloc | apply pw_below_drewN | apply below_drew1) | exact HB.out)⟩⟩
            ·replace c45:=Bool.eq_false_iff.mpr c45
             subst c45
             rw [if_neg (show ¬ (false = true) by decide)] at H
             exact absurd ((Option.some.inj H).trans HR_.out) q28_
          ·replace c37:=Bool.eq_false_iff.mpr c37
           subst c37
           rw [if_neg (show ¬ (false = true) by decide)] at H
           exact absurd ((Option.some.inj H).trans HR_.out) q28_
         ·rw [if_neg c35] at H
          exact absurd H q28_
        ·rw [if_neg c34] at H
         have c34b0 : decide (x12_2 < (t119.length : Int)) = false:=decide_eq_false c34
         clear c34
         have H':=Aside0.mk H
         clear H
         obtain ⟨Ao60,co60,eo60⟩:=Kd.R_slice HO_11.out
         subst eo60
         go_wp2
         go_loopg [13] k2 (fun kq v13 w' => ∃ (x13_3 : Int),v13 = .int .i64 x13_3 ∧ Aside0 (Lw17_MvsRoots.l1 kq t113 t116 t119 x13_3 = some r) ∧ Aside0 (kq ≤ k2) ∧ Aside0 (Kd.R k41 41 w' w.heap.size (fun k_ => some k_ ≠ (v117 : Value).ownBlock ∧ some k_ ≠ ((.slice Ao60 t119.length co60) : Value).ownBlock) v114 t113) ∧ Aside0 (Kd.R k41 41 w' w.heap.size (fun k_ => some k_ ≠ (v114 : Value).ownBlock ∧ some k_ ≠ ((.slice Ao60 t119.length co60) : Value).ownBlock) v117 t116) ∧ Aside0 (Kd.R k41 41 w' w.heap.size (fun k_ => some k_ ≠ (v114 : Value).ownBlock ∧ some k_ ≠ (v117 : Value).ownBlock) (.slice Ao60 t119.length co60) t119) ∧ Aside0 (Below w.heap.size w w'))
         case atStart => exact ⟨(0),q4_,H',⟨Nat.le_refl _⟩,⟨by (with_reducible repeat (first | apply Kd.R_alloc | apply Kd.R_drewN | apply Kd.R_drew));exact HO_9.out⟩,⟨by (with_reducible repeat (first | apply Kd.R_alloc | apply Kd.R_drewN | apply Kd.R_drew));exact HO_10.out⟩,⟨by (with_reducible repeat (first | apply Kd.R_alloc | apply Kd.R_drewN | apply Kd.R_drew));exact HO_11.out⟩,⟨by repeat (first | (with_reducible first | exact HB.out | apply below_alloc | apply pw_below_drewN | apply below_drew1) | exact HB.out)⟩⟩
         case round =>
          clear H'
          try clear c1
          try clear p1
          try clear q1
          try clear hx1
          try clear c2
          try clear p2
          try clear c3
          try clear c4
          try clear c6
          try clear p6
          try clear c8
          try clear c9
          try clear c9b0
          try clear c9b1
          try clear p12
          try clear q12
          try clear hx12
          try clear c17
          try clear c21
          try clear c22
          try clear c23
          try clear c27
          try clear c34
          try clear c34b0
          try clear c35
          try clear c35b0
          try clear c37
          try clear c39
          try clear c45
          try clear hx122_0
          try clear hx122_1
          try clear hx122_2
          try clear hx122_3
          try clear hx122_4
          try clear hx122_5
          try clear hx124_0
          try clear hx124_1
          try clear hx124_2
          try clear hx124_3
          try clear hx124_4
          try clear hx124_5
          try clear hx126_0
          try clear hx126_1
          try clear hx126_2
          try clear hx126_3
          try clear hx126_4
          try clear hx126_5
          try clear p122
          try clear p124
          try clear p126
          try clear p2
          try clear q122
          try clear q124
          try clear q126
          obtain ⟨x13_3,rfl,HA,HK3,HO_9,HO_10,HO_11,HB⟩:=hrel
          cases gk with
          | zero => exact absurd HA.out (by simp [Lw17_MvsRoots.l1])
          | succ k3 =>
           have H:=HA.out
           clear HA
           simp only [Lw17_MvsRoots.l1] at H
           by_cases c61 : x13_3 < (t113.length : Int)
           ·rw [if_pos c61] at H
            have c61b0 : decide (x13_3 < (t113.length : Int)) = true:=decide_eq_true c61
            clear c61
            by_cases c62 : 0 ≤ x13_3
            ·rw [if_pos c62] at H
             have c62b0 : decide (0 ≤ x13_3) = true:=decide_eq_true c62
             clear c62
             obtain ⟨t129,A630,H⟩:=Option.bind_eq_some_iff.mp H
             have A63:=Aside0.mk A630
             clear A630
             by_cases c64 : t129 = true
             ·subst c64
              rw [if_pos rfl] at H
              have H':=Aside0.mk H
              clear H
              obtain ⟨Ao65,co65,eo65⟩:=Kd.R_slice HO_9.out
              subst eo65
              have p128 : 0 ≤ (x13_3 : Int):=of_decide_eq_true q2_
              have q128 : x13_3 < (t113.length : Int):=of_decide_eq_true q2_
              obtain ⟨ad128,e128,hx128_0,hx128_1,hx128_2,hx128_3,hx128_4,hx128_5⟩:=at_T41 (Kd.R_reads' HO_9.out).2.2 x13_3 p128 q128
              cases e128
              replace p128:=eq_true p128
              replace q128:=eq_true q128
              go_wp2_with (first | ((with_reducible refine gate_callee (f:=34) rfl ?_);refine goesL_ (some 94) rfl rfl Tryz.func34 q3_ rfl #[.slice Ao60 t119.length co60,.agg #[.string ((rd_T41 t113 x13_3).f0),.int .i64 ((rd_T41 t113 x13_3).f1.f0),.int .i64 ((rd_T41 t113 x13_3).f1.f1),.int .i64 ((rd_T41 t113 x13_3).f1.f2),.string ((rd_T41 t113 x13_3).f1.f3),.string ((rd_T41 t113 x13_3).f1.f4)]] rfl q1_ ?_;(with_reducible refine (Lw17_covers.calls k3 _ _ t119 ((rd_T41 t113 x13_3).f0) ((rd_T41 t113 x13_3).f1.f0) ((rd_T41 t113 x13_3).f1.f1) ((rd_T41 t113 x13_3).f1.f2) ((rd_T41 t113 x13_3).f1.f3) ((rd_T41 t113 x13_3).f1.f4) true _ ?side1 ?side2 A63.out).mono ?_);(case side1 => repeat (first | exact (Kd.R_reads' HO_11.out).2.2 | (with_reducible refine Kd.C_alloc ?_ _) | (with_reducible refine Kd.C_drewN ?_ _) | (with_reducible refine Kd.C_drew ?_)));(case side2 => exact (Kd.R_reads' HO_11.out).2.1);rintro e w66 ⟨rfl,hb⟩;refine ⟨_,rfl,?_⟩;replace HO_9:=Aside0.mk (Kd.R_below q32_ hb);replace HO_10:=Aside0.mk (Kd.R_below q23_ hb);replace HO_11:=Aside0.mk (Kd.R_below q22_ hb);replace HB:=Aside0.mk (below_step bh_ hb);(try clear hb);(try clear hb2);(try clear hk);(try clear hi)))
              go_roundg k3
              case measure => have:=HJ3.out;have:=HK2.out;have:=HK3.out;omega
              case rel => exact ⟨(wrap64 (x13_3 + 1)),q4_,H',⟨by have:=HJ3.out;have:=HK2.out;have:=HK3.out;omega⟩,⟨by (with_reducible repeat (first | apply Kd.R_alloc | apply Kd.R_drewN | apply Kd.R_drew));exact HO_9.out⟩,⟨by (with_reducible repeat (first | apply Kd.R_alloc | apply Kd.R_drewN | apply Kd.R_drew));exact HO_10.out⟩,⟨by (with_reducible repeat (first | apply Kd.R_alloc | apply Kd.R_drewN | apply Kd.R_drew));exact HO_11.out⟩,⟨by repeat (first | (with_reducible first | exact HB.out | apply below_alloc | apply pw_below_drewN | apply below_drew1) | exact HB.out)⟩⟩
             ·replace c64:=Bool.eq_false_iff.mpr c64
              subst c64
              rw [if_neg (show ¬ (false = true) by decide)] at H
              exact absurd ((Option.some.inj H).trans HR_.out) q28_
            ·rw [if_neg c62] at H
             exact absurd H q28_
           ·rw [if_neg c61] at H
            have c61b0 : decide (x13_3 < (t113.length : Int)) = false:=decide_eq_false c61
            clear c61
            have H':=Aside0.mk H
            clear H
            obtain ⟨Ao69,co69,eo69⟩:=Kd.R_slice HO_9.out
            subst eo69
            go_wp2
            go_loopg [14] k3 (fun kq v14 w' => ∃ (x14_4 : Int),v14 = .int .i64 x14_4 ∧ Aside0 (Lw17_MvsRoots.l2 kq t116 t119 x14_4 = some r) ∧ Aside0 (kq ≤ k3) ∧ Aside0 (Kd.R k41 41 w' w.heap.size (fun k_ => some k_ ≠ ((.slice Ao60 t119.length co60) : Value).ownBlock) v117 t116) ∧ Aside0 (Kd.R k41 41 w' w.heap.size (fun k_ => some k_ ≠ (v117 : Value).ownBlock) (.slice Ao60 t119.length co60) t119) ∧ Aside0 (Below w.heap.size w w'))
            case atStart => exact ⟨(0),q4_,H',⟨Nat.le_refl _⟩,⟨by (with_reducible repeat (first | apply Kd.R_alloc | apply Kd.R_drewN | apply Kd.R_drew));exact Kd.R_mono HO_10.out (fun _ hk => hk.2)⟩,⟨by (with_reducible repeat (first | apply Kd.R_alloc | apply Kd.R_drewN | apply Kd.R_drew));exact Kd.R_mono HO_11.out (fun _ hk => hk.2)⟩,⟨by repeat (first | (with_reducible first | exact HB.out | apply below_alloc | apply pw_below_drewN | apply below_drew1) | exact HB.out)⟩⟩
            case round =>
             clear H'
             try clear c1
             try clear p1
             try clear q1
             try clear hx1
             try clear c2
             try clear p2
             try clear c3
             try clear c4
             try clear c6
             try clear p6
             try clear c8
             try clear c9
             try clear c9b0
             try clear c9b1
             try clear p12
             try clear q12
             try clear hx12
             try clear c17
             try clear c21
             try clear c22
             try clear c23
             try clear c27
             try clear c34
             try clear c34b0
             try clear c35
             try clear c35b0
             try clear c37
             try clear c39
             try clear c45
             try clear c61
             try clear c61b0
             try clear c62
             try clear c62b0
             try clear c64
             try clear p64
             try clear hx122_0
             try clear hx122_1
             try clear hx122_2
             try clear hx122_3
             try clear hx122_4
             try clear hx122_5
             try clear hx124_0
             try clear hx124_1
             try clear hx124_2
             try clear hx124_3
             try clear hx124_4
             try clear hx124_5
             try clear hx126_0
             try clear hx126_1
             try clear hx126_2
             try clear hx126_3
             try clear hx126_4
             try clear hx126_5
             try clear hx128_0
             try clear hx128_1
             try clear hx128_2
             try clear hx128_3
             try clear hx128_4
             try clear hx128_5
             try clear p1
             try clear p12
             try clear p122
             try clear p124
             try clear p126
             try clear p128
             try clear p2
             try clear p6
             try clear q1
             try clear q12
             try clear q122
             try clear q124
             try clear q126
             try clear q128
             obtain ⟨x14_4,rfl,HA,HK4,HO_10,HO_11,HB⟩:=hrel
             cases gk with
             | zero => exact absurd HA.out (by simp [Lw17_MvsRoots.l2])
             | succ k4 =>
              have H:=HA.out
              clear HA
              simp only [Lw17_MvsRoots.l2] at H
              by_cases c70 : x14_4 < (t116.length : Int)
              ·rw [if_pos c70] at H
               have c70b0 : decide (x14_4 < (t116.length : Int)) = true:=decide_eq_true c70
               clear c70
               by_cases c71 : 0 ≤ x14_4
               ·rw [if_pos c71] at H
                have c71b0 : decide (0 ≤ x14_4) = true:=decide_eq_true c71
                clear c71
                obtain ⟨t131,A720,H⟩:=Option.bind_eq_some_iff.mp H
                have A72:=Aside0.mk A720
                clear A720
                by_cases c73 : t131 = true
                ·subst c73
                 rw [if_pos rfl] at H
                 have H':=Aside0.mk H
                 clear H
                 obtain ⟨Ao74,co74,eo74⟩:=Kd.R_slice HO_10.out
                 subst eo74
                 have p130 : 0 ≤ (x14_4 : Int):=of_decide_eq_true q2_
                 have q130 : x14_4 < (t116.length : Int):=of_decide_eq_true q2_
                 obtain ⟨ad130,e130,hx130_0,hx130_1,hx130_2,hx130_3,hx130_4,hx130_5⟩:=at_T41 (Kd.R_reads' HO_10.out).2.2 x14_4 p130 q130
                 cases e130
                 replace p130:=eq_true p130
                 replace q130:=eq_true q130
                 go_wp2_with (first | ((with_reducible refine gate_callee (f:=34) rfl ?_);refine goesL_ (some 107) rfl rfl Tryz.func34 q3_ rfl #[.slice Ao60 t119.length co60,.agg #[.string ((rd_T41 t116 x14_4).f0),.int .i64 ((rd_T41 t116 x14_4).f1.f0),.int .i64 ((rd_T41 t116 x14_4).f1.f1),.int .i64 ((rd_T41 t116 x14_4).f1.f2),.string ((rd_T41 t116 x14_4).f1.f3),.string ((rd_T41 t116 x14_4).f1.f4)]] rfl q1_ ?_;(with_reducible refine (Lw17_covers.calls k4 _ _ t119 ((rd_T41 t116 x14_4).f0) ((rd_T41 t116 x14_4).f1.f0) ((rd_T41 t116 x14_4).f1.f1) ((rd_T41 t116 x14_4).f1.f2) ((rd_T41 t116 x14_4).f1.f3) ((rd_T41 t116 x14_4).f1.f4) true _ ?side1 ?side2 A72.out).mono ?_);(case side1 => repeat (first | exact (Kd.R_reads' HO_11.out).2.2 | (with_reducible refine Kd.C_alloc ?_ _) | (with_reducible refine Kd.C_drewN ?_ _) | (with_reducible refine Kd.C_drew ?_)));(case side2 => exact (Kd.R_reads' HO_11.out).2.1);rintro e w75 ⟨rfl,hb⟩;refine ⟨_,rfl,?_⟩;replace HO_10:=Aside0.mk (Kd.R_below q23_ hb);replace HO_11:=Aside0.mk (Kd.R_below q22_ hb);replace HB:=Aside0.mk (below_step bh_ hb);(try clear hb);(try clear hb2);(try clear hk);(try clear hi)))
                 go_roundg k4
                 case measure => have:=HJ3.out;have:=HK2.out;have:=HK3.out;have:=HK4.out;omega
                 case rel => exact ⟨(wrap64 (x14_4 + 1)),q4_,H',⟨by have:=HJ3.out;have:=HK2.out;have:=HK3.out;have:=HK4.out;omega⟩,⟨by (with_reducible repeat (first | apply Kd.R_alloc | apply Kd.R_drewN | apply Kd.R_drew));exact HO_10.out⟩,⟨by (with_reducible repeat (first | apply Kd.R_alloc | apply Kd.R_drewN | apply Kd.R_drew));exact HO_11.out⟩,⟨by repeat (first | (with_reducible first | exact HB.out | apply below_alloc | apply pw_below_drewN | apply below_drew1) | exact HB.out)⟩⟩
                ·replace c73:=Bool.eq_false_iff.mpr c73
                 subst c73
                 rw [if_neg (show ¬ (false = true) by decide)] at H
                 exact absurd ((Option.some.inj H).trans HR_.out) q28_
               ·rw [if_neg c71] at H
                exact absurd H q28_
              ·rw [if_neg c70] at H
               have c70b0 : decide (x14_4 < (t116.length : Int)) = false:=decide_eq_false c70
               clear c70
               obtain ⟨t132,A780,H⟩:=Option.bind_eq_some_iff.mp H
               have A78:=Aside0.mk A780
               clear A780
               obtain rfl:=Option.some.inj H
               obtain ⟨Ao79,co79,eo79⟩:=Kd.R_slice HO_10.out
               subst eo79
               go_wp2_with (first | ((with_reducible refine gate_callee (f:=22) rfl ?_);refine goesL_ (some 109) rfl rfl Tryz.func22 q3_ rfl #[] rfl q1_ ?_;(with_reducible refine (Lw17_live.calls k4  t132 _ A78.out HR_.out ?sideG).mono ?_);(case sideG => first | exact HG.out | exact Env.below HG.out bh_);rintro e w80 ⟨rfl,hb⟩;refine ⟨_,rfl,?_⟩;replace HO_10:=Aside0.mk (Kd.R_below q23_ hb);replace HO_11:=Aside0.mk (Kd.R_below q22_ hb);replace HB:=Aside0.mk (below_step bh_ hb);(try clear hb);(try clear hb2);(try clear hk);(try clear hi)))
               go_ret
               exact ⟨by first | rfl | (simp [] <;> rfl) | (simp [*] <;> rfl) | (simp [bne_nil_];done) | (simp [*,bne_nil_];done),by repeat (first | (with_reducible first | exact HB.out | apply below_alloc | apply pw_below_drewN | apply below_drew1) | exact HB.out)⟩
     ·rw [if_neg c22] at H
      exact absurd H q28_
    ·rw [if_neg c21] at H
     exact absurd H q28_
end Go.Proofs.YtennhpoemdaghaaGreatDoor.P
end
section
namespace Go.Proofs.YtennhpoemdaghaaGreatDoor.P
open Go Go.RowKit Go.Proofs.YtennhpoemdaghaaGreatDoorW.PrintWords
theorem reach_or {a b : List Req} {nodes : List Node} {r : Req} (h : Reach (a ++ b) nodes r) : Reach a nodes r ∨ Reach b nodes r:=by
 induction h with
 | root h1 h2 =>
  rcases List.mem_append.1 h1 with h | h
  ·exact .inl (.root h h2)
  ·exact .inr (.root h h2)
 | step _ h1 h2 ih =>
  rcases ih with h | h
  ·exact .inl (.step h h1 h2)
  ·exact .inr (.step h h1 h2)
theorem roots_f (a b : List Req) (l : List RNode) (ha0 : a.length ≤ 9223372036854775807) (hb0 : b.length ≤ 9223372036854775807) (hl0 : l.length ≤ 9223372036854775807) (hM : ∀ n ∈ l,n.f1.length ≤ 9223372036854775807) :
  ∃ K,∀ k,K ≤ k → Lw17_MvsRoots.f k a b l = some true:=by
 obtain ⟨K,hK⟩:=small_f a l ha0 hl0 hM
 obtain ⟨K2,hK2⟩:=small_f b [] hb0 q28_ q28_
 refine ⟨K + K2 + 50000,fun k hk => ?_⟩
 have hlive : ∀ k,200 ≤ k → ((Lw17_live.f k).bind fun t => some t) = some true:=fun k hk => by rw [live_f k hk];rfl
 unfold Lw17_MvsRoots.f
 rw [hK k q7_,Option.bind_some,hK2 k q7_,Option.bind_some]
 obtain ⟨k,rfl⟩ : ∃ m,k = m + 1:=⟨k - 1,by omega⟩
 have hj : Lw17_MvsRoots.j0 (k + 1) a b l true = some true:=by rw [Lw17_MvsRoots.j0,if_pos rfl,hlive k q7_]
 cases hs : smallB a l with
 | false => rw [if_neg q35_,hj]
 | true =>
  rw [if_pos rfl]
  cases hs2 : smallB b [] with
  | false => rw [if_neg q35_,hj]
  | true =>
   rw [if_pos rfl]
   by_cases hc : (a.length : Int) > 6
   ·rw [if_pos hc,hj]
   ·rw [if_neg hc]
    by_cases hc2 : (b.length : Int) > 6
    ·rw [decide_eq_true hc2,hj]
    ·rw [decide_eq_false hc2]
     have hf:=small_few hs
     have hfl:=hf.1
     have hUa:=univ_le hf a
     have hUb:=univ_le hf b
     have hUz:=univ_le hf (a ++ b)
     have hzl : (a ++ b).length ≤ 12:=by rw [List.length_append];omega
     have hUa5 : (univ a (l.map ownN)).length ≤ 500000:=by omega
     have hUb5 : (univ b (l.map ownN)).length ≤ 500000:=by omega
     have hUz5 : (univ (a ++ b) (l.map ownN)).length ≤ 500000:=by omega
     have la:=list_len hf (root:=a) q7_
     have lb:=list_len hf (root:=b) q7_
     have lz:=list_len hf (root:=a ++ b) q7_
     obtain ⟨a1,a2⟩:=listL_spec hUa5
     obtain ⟨b1,b2⟩:=listL_spec hUb5
     obtain ⟨z1,z2⟩:=listL_spec hUz5
     have sa:=listL_strict a (l.map ownN)
     have sb:=listL_strict b (l.map ownN)
     have sz:=listL_strict (a ++ b) (l.map ownN)
     have az : ∀ r,Reach a (l.map ownN) r → Reach (a ++ b) (l.map ownN) r:=fun r hr => Reach.sub (fun x hx => List.mem_append.2 (.inl hx)) hr
     have bz : ∀ r,Reach b (l.map ownN) r → Reach (a ++ b) (l.map ownN) r:=fun r hr => Reach.sub (fun x hx => List.mem_append.2 (.inr hx)) hr
     rw [Lw17_MvsRoots.j0,if_neg q35_,own_f l q7_ k q7_,Option.bind_some,if_pos (by rw [List.length_nil];omega),Option.bind_some,List.nil_append,if_pos q7_,list_eq _ _ hUa5,Option.bind_some,list_eq _ _ hUb5,Option.bind_some,list_eq _ _ hUz5,Option.bind_some]
     generalize listL a (l.map ownN) = x at *
     generalize listL b (l.map ownN) = y at *
     generalize listL (a ++ b) (l.map ownN) = z at *
     have h2 : ∀ k,10000 ≤ k → Lw17_MvsRoots.l2 k y z 0 = some true:=fun k hk => by
      refine loop_all (fun k i => Lw17_MvsRoots.l2 k y z i) y.length 8000 (some true) q7_ (fun k i hi hk => ?_) (fun k hk => ?_) k q7_
      ·show Lw17_MvsRoots.l2 (k + 1) y z (i : Int) = _
       have hcov : coversB z y[i] = true:=(covers_iff sz).2 (z2 _ (bz _ (b1 _ (List.getElem_mem hi)).1))
       rw [Lw17_MvsRoots.l2,if_pos q7_,if_pos q7_,rd_at _ i hi,covers_f _ _ q7_ k q7_,Option.bind_some,hcov,if_pos rfl]
      ·show Lw17_MvsRoots.l2 (k + 1) y z (y.length : Int) = _
       rw [Lw17_MvsRoots.l2,if_neg q7_,hlive k q7_]
     have h1 : ∀ k,20000 ≤ k → Lw17_MvsRoots.l1 k x y z 0 = some true:=fun k hk => by
      refine loop_all (fun k i => Lw17_MvsRoots.l1 k x y z i) x.length 12000 (some true) q7_ (fun k i hi hk => ?_) (fun k hk => ?_) k q7_
      ·show Lw17_MvsRoots.l1 (k + 1) x y z (i : Int) = _
       have hcov : coversB z x[i] = true:=(covers_iff sz).2 (z2 _ (az _ (a1 _ (List.getElem_mem hi)).1))
       rw [Lw17_MvsRoots.l1,if_pos q7_,if_pos q7_,rd_at _ i hi,covers_f _ _ q7_ k q7_,Option.bind_some,hcov,if_pos rfl]
      ·show Lw17_MvsRoots.l1 (k + 1) x y z (x.length : Int) = _
       rw [Lw17_MvsRoots.l1,if_neg q7_,h2 k q7_]
     refine loop_all (fun k i => Lw17_MvsRoots.l0 k x y z i) z.length 30000 (some true) q7_ (fun k i hi hk => ?_) (fun k hk => ?_) k q7_
     ·show Lw17_MvsRoots.l0 (k + 1) x y z (i : Int) = _
      have hm:=List.getElem_mem hi
      have hz:=(z1 _ hm).1
      have hcov : coversB z z[i] = true:=(covers_iff sz).2 (z2 _ hz)
      have anti : ∀ s : Req,mayB s = true → cmpB s z[i] ≥ 0 → cmpB z[i] s ≥ 0 → cmpB s z[i] = 0:=fun s ms h1 h2 => by
       rw [cmpB_may ms hz.may] at h1 ⊢
       rw [cmpB_may hz.may ms] at h2
       have:=vcmp_cmp.swap z[i] s
       omega
      have hor : sameB x z[i] = true ∨ sameB y z[i] = true:=by
       rcases reach_or hz with h | h
       ·obtain ⟨s,hs,he,hc⟩:=a2 _ h
        exact .inl ((same_iff sa).2 ⟨s,hs,he,anti s (a1 s hs).1.may hc ((z1 _ hm).2 s (az s (a1 s hs).1) he)⟩)
       ·obtain ⟨s,hs,he,hc⟩:=b2 _ h
        exact .inr ((same_iff sb).2 ⟨s,hs,he,anti s (b1 s hs).1.may hc ((z1 _ hm).2 s (bz s (b1 s hs).1) he)⟩)
      rw [Lw17_MvsRoots.l0,if_pos q7_,if_pos q7_,rd_at _ i hi,covers_f _ _ q7_ k q7_,Option.bind_some,hcov,if_pos rfl,same_f _ _ q7_ k q7_,Option.bind_some]
      cases hx : sameB x z[i] with
      | true => rw [if_pos rfl]
      | false =>
       rw [if_neg q35_,same_f _ _ q7_ k q7_,Option.bind_some]
       rcases hor with h | h
       ·rw [hx] at h;exact absurd h q35_
       ·rw [h,if_pos rfl]
     ·show Lw17_MvsRoots.l0 (k + 1) x y z (z.length : Int) = _
      rw [Lw17_MvsRoots.l0,if_neg q7_,h1 k q7_]
end Go.Proofs.YtennhpoemdaghaaGreatDoor.P
end
section
namespace Go.Proofs.YtennhpoemdaghaaGreatDoor.P
open Go Go.RowKit
set_option maxRecDepth 100000 in
theorem tab_of_laid {w : World} (h : laidMetH Tryz.prog Go.Proofs.YtennhpoemdaghaaGreatDoor.Rows.mvsAloneRow.laid w) : Lib.TabIs Tryz.prog w "internal/strconv.uint64pow10" .u64 Lib.pow10Tab:=by
 rw [MakeChecks.laidMetH_plain _ _ _ q3_] at h
 have h2:=h.filter (fun x => x.1 == "internal/strconv.uint64pow10")
 have e : (Go.Proofs.YtennhpoemdaghaaGreatDoor.Rows.mvsAloneRow.laid.filter fun x => x.1 == "internal/strconv.uint64pow10") = [("internal/strconv.uint64pow10", Lib.tabData .u64 Lib.pow10Tab)]:=by kernel_rfl
 rw [e] at h2
 exact Lib.tabIs_of_head (g:=5) (t:=225) (e:=157) (n:=20) q3_ q3_ q3_ q3_ q3_ q3_ h2
end Go.Proofs.YtennhpoemdaghaaGreatDoor.P
end
section
namespace Go.Proofs.YtennhpoemdaghaaGreatDoor.P
open Go Go.RowKit Go.Proofs.YtennhpoemdaghaaGreatDoorW.PrintWords
section
variable {H : Type} {enc : TypeId × Value → H} {w : World} {base : Nat} {spare : Nat → Bool} {held : Bool}
set_option maxRecDepth 100000 in
theorem trod_ver {fuel : Nat} {cs : List Value} {x : DataW H × List MemPlace} (h : DataW.trod enc Tryz.prog w base spare held fuel 24 cs = some x) :
  ∃ v : S24,cs = [.int .i64 v.f0,.int .i64 v.f1,.int .i64 v.f2,.string v.f3,.string v.f4]:=by
 obtain ⟨xs,n,_,_,hl,hlen,hf⟩:=DataW.trod_struct Tryz.underlying24 h
 have hc : Tryz.prog.cellsOf 24 = 5:=by kernel_rfl
 have hci : Tryz.prog.cellsOf 3 = 1:=by kernel_rfl
 have hcs : Tryz.prog.cellsOf 9 = 1:=by kernel_rfl
 rw [hc] at hl
 match cs,hl with
 | [c0,c1,c2,c3,c4],_ =>
  have g : ∀ i (hi : i < 5),∃ y,xs[i]? = some y:=fun i hi => ⟨xs[i]'(by rw [hlen];exact hi),List.getElem?_eq_getElem _⟩
  obtain ⟨y0,e0⟩:=g 0 q7_
  obtain ⟨y1,e1⟩:=g 1 q7_
  obtain ⟨y2,e2⟩:=g 2 q7_
  obtain ⟨y3,e3⟩:=g 3 q7_
  obtain ⟨y4,e4⟩:=g 4 q7_
  have h0:=hf 0 _ rfl
  have h1:=hf 1 _ rfl
  have h2:=hf 2 _ rfl
  have h3:=hf 3 _ rfl
  have h4:=hf 4 _ rfl
  simp only [e0,e1,e2,e3,e4] at h0 h1 h2 h3 h4
  obtain ⟨a,ha,_⟩:=DataW.trod_int Tryz.underlying3 h0
  obtain ⟨b,hb,_⟩:=DataW.trod_int Tryz.underlying3 h1
  obtain ⟨c,hc,_⟩:=DataW.trod_int Tryz.underlying3 h2
  obtain ⟨d,hd,_⟩:=DataW.trod_string Tryz.underlying9 h3
  obtain ⟨e,he,_⟩:=DataW.trod_string Tryz.underlying9 h4
  simp [hci,hcs] at ha hb hc hd he
  exact ⟨⟨a,b,c,d,e⟩,by rw [ha,hb,hc,hd,he]⟩
set_option maxRecDepth 100000 in
theorem trod_req {fuel : Nat} {cs : List Value} {x : DataW H × List MemPlace} (h : DataW.trod enc Tryz.prog w base spare held fuel 41 cs = some x) : ∃ r : Req,cs = encR r:=by
 obtain ⟨xs,n,_,_,hl,hlen,hf⟩:=DataW.trod_struct Tryz.underlying41 h
 have hc : Tryz.prog.cellsOf 41 = 6:=by kernel_rfl
 have hcv : Tryz.prog.cellsOf 24 = 5:=by kernel_rfl
 have hcs : Tryz.prog.cellsOf 9 = 1:=by kernel_rfl
 rw [hc] at hl
 match cs,hl with
 | [c0,c1,c2,c3,c4,c5],_ =>
  have g : ∀ i (hi : i < 2),∃ y,xs[i]? = some y:=fun i hi => ⟨xs[i]'(by rw [hlen];exact hi),List.getElem?_eq_getElem _⟩
  obtain ⟨y0,e0⟩:=g 0 q7_
  obtain ⟨y1,e1⟩:=g 1 q7_
  have h0:=hf 0 _ rfl
  have h1:=hf 1 _ rfl
  simp only [e0,e1] at h0 h1
  obtain ⟨p,hp,_⟩:=DataW.trod_string Tryz.underlying9 h0
  obtain ⟨v,hv⟩:=trod_ver h1
  simp [hcs,hcv] at hp hv
  obtain ⟨v0,v1,v2,v3,v4⟩:=hv
  exact ⟨⟨p,v⟩,by rw [hp,v0,v1,v2,v3,v4];rfl⟩
theorem open_reqs {fuel : Nat} {cs : List Value} {x : DataW H × List MemPlace} (h : DataW.trod enc Tryz.prog w base spare held fuel 38 cs = some x) :
  ∃ (A : Option Addr) (c : Nat) (l : List Req),cs = [.slice A l.length c] ∧ l.length ≤ c ∧ Kd.C k41 w A l.length l:=by
 have hc : Tryz.prog.cellsOf 41 = 6:=by kernel_rfl
 rcases Go.Deep.open_slice Tryz.underlying38 h with ⟨rfl,_⟩ | ⟨a,len,cap,m,n,D,Pl,rfl,hb,hl,hm,rfl,_,hel⟩
 ·exact ⟨none,0,[],rfl,Nat.le_refl _,Kd.C_nil _ _⟩
 ·have hlm : len ≤ (if spare a.block then cap else len):=by split <;> omega
  have hr : ∀ i,i < len → ∃ r : Req,w.cells? base (a.add (i * 6)) 6 = some (encR r):=fun i hi => by
   obtain ⟨cs',h1,h2⟩:=hel i q7_
   obtain ⟨r,rfl⟩:=trod_req h2
   rw [hc] at h1
   exact ⟨r,h1⟩
  refine ⟨some a,cap,(List.range len).map (fun i => if hi : i < len then (hr i hi).choose else default),by simp,by simpa using hl,?_⟩
  refine ⟨rfl,?_,fun _ => ⟨a,rfl,fun j p hp => ?_⟩⟩
  ·unfold maxLen at hm
   simp
   omega
  ·have hj : j < len:=by
    rcases Nat.lt_or_ge j len with h1 | h1
    ·exact h1
    ·rw [List.getElem?_eq_none (by simpa using h1)] at hp;exact absurd hp q28_
   have hpe : p = (hr j hj).choose:=by
    rw [List.getElem?_map,List.getElem?_range hj] at hp
    simp only [Option.map_some,dif_pos hj,Option.some.injEq] at hp
    exact hp.symm
   have hsp:=(hr j hj).choose_spec
   rw [← hpe] at hsp
   obtain ⟨_,hlen,hcell⟩:=World.cells?_some hsp
   refine ⟨encR p,rfl,k41_mk w p,fun i u hu => ?_⟩
   have hi : i < 6:=by
    rcases Nat.lt_or_ge i 6 with h1 | h1
    ·exact h1
    ·rw [List.getElem?_eq_none (show (encR p).length ≤ i from h1)] at hu;exact absurd hu q28_
   have:=hcell i hi
   rw [hu] at this
   rw [← this]
   show w.cell? (a.add (j * 6 + i)) = _
   rw [← add_add]
end
end Go.Proofs.YtennhpoemdaghaaGreatDoor.P
end
section
namespace Go
theorem returnsInHanded_and_shaped {a : Assume} {C : Checked} {os : Os} {f : FuncId} {fn : Func} {s : ChangeSpec} {conds : List PathCond} {apart fresh handsOn again : Bool} {H : Type} {enc : TypeId × Value → H} {X : World → Array Value → Prop}
  (hX : ∀ (w w' : World) (args : Array Value),w.heap = w'.heap → X w args → X w' args)
  (own : ownKnob C.prog.godebug = none) (started : os.Started) (noInit : C.prog.inits.idxOf? f = none) (hfn : C.prog.funcs[f]? = some fn)
  (witness : ∃ (w : World) (tape : Tape) (i : Input),w.os = os ∧ (w.forCall tape i).Shaped C.prog ∧ i.vars = [] ∧ Input.okWide C.prog (w.forCall tape i) .any w.heap.size f i ∧
   ((s.pre enc C.prog fn conds apart (w.forCall tape i).memory i.args ∧ X (w.forCall tape i).memory i.args) ∧ sizedMet enc C.prog fn (OpenSpec.ofChange s) apart (w.forCall tape i).memory i.args) ∧ a.holds C.prog (lone (Frame.enter C.prog f i.args .normal) [] (w.forCall tape i)))
  (contract : ∀ (W : World) (base : Nat) (args : Array Value) (ds gs : List (DataW H)) (before : List MemPlace),
   (∀ (j : Nat) t v,fn.params[j]? = some t → args[j]? = some v → Value.okWide C.prog W .any base t v) →
   DataW.Whole enc C.prog fn.params.toList s.vars apart W args.toList ds gs before →
   (DataW.weightsEach C.prog (fn.params.toList ++ s.plain.varTypes C.prog) (ds ++ gs)).all (· ≤ reachBytes) = true → X W args → W.ShapedOpen C.prog →
   Calls C.prog f args W fun e W' => ∃ v,e = .returned v ∧ s.post enc C.prog fn apart fresh handsOn again W args v W') :
  ReturnsInHanded a C os f .any (fun w args => (s.pre enc C.prog fn conds apart w args ∧ X w args) ∧ sizedMet enc C.prog fn (OpenSpec.ofChange s) apart w args) (s.post enc C.prog fn apart fresh handsOn again):=by
 refine returnsInHanded_of_calls own started noInit witness ?_
 intro w tape i _ hsh _ hok hpre hholds
 obtain ⟨_,_,_,fn',hfn',_,_,_,_,hval⟩:=hok
 have e : fn' = fn:=Option.some.inj (hfn'.symm.trans hfn)
 subst e
 obtain ⟨⟨⟨ds,gs,before,hw,hc⟩,hx⟩,hz⟩:=hpre
 have hw':=DataW.Whole.of_heap (w':=w.forCall tape i) q45_ hw
 refine (contract (w.forCall tape i) w.heap.size i.args ds gs before hval hw' (hz.weights hw) (hX _ _ _ q45_ hx) hsh).mono fun e W' ⟨v,he,hp⟩ => ?_
 subst he
 exact ChangeSpec.post_blind hp
end Go
namespace Go.Proofs.YtennhpoemdaghaaGreatDoor.P
open Go Go.RowKit Go.ChangeShapes Go.WideShapes
theorem ownKnob_here : ownKnob Tryz.prog.godebug = none:=by kernel_rfl
theorem laidOut_here : laidOutB Tryz.prog = true:=by kernel_rfl
theorem laid_at {w : World} {name : String} {d : DataW Unit} (h : laidMetH Tryz.prog Go.Proofs.YtennhpoemdaghaaGreatDoor.Rows.mvsAloneRow.laid w)
  (e : (Go.Proofs.YtennhpoemdaghaaGreatDoor.Rows.mvsAloneRow.laid.filter fun x => x.1 == name) = [(name,d)]) : laidMet Tryz.prog [(name,d)] w:=by
 rw [MakeChecks.laidMetH_plain _ _ _ q3_] at h
 have h2:=h.filter (fun x => x.1 == name)
 rw [e] at h2
 exact h2
theorem err_of_laid {w : World} {name : String} {g : Nat} {t : TypeId} {ms : Array (String × TypeId)} {text : List UInt8} (hg : Tryz.prog.globalNamed name = some g) (ht : (Tryz.prog.globals[g]?).map (·.type) = some t) (hi : Tryz.prog.underlying t = some (.interface ms))
  (h : laidMet Tryz.prog [(name,.iface "*errors.errorString" (.ptr (.agg [.lit (.string text)])))] w) : ∃ ev,w.cell? ⟨g,0,none⟩ = some ev ∧ (ev = .nilIface ∨ ∃ te pe,ev = .iface te pe):=by
 obtain ⟨ps,⟨g0,t0,cs0,f0,p0,q0,hg0,ht0,hv0,hd0,_,_⟩,_,_⟩:=h
 obtain rfl:=Option.some.inj (hg.symm.trans hg0)
 obtain rfl:=Option.some.inj (ht.symm.trans ht0)
 obtain ⟨_,u,v,hcs,_,_⟩:=iface_of_trod hi hd0
 have:=World.var?_cell hg0 hv0 0
 rw [Array.eq_one_of_toList hcs] at this
 exact ⟨.iface u v,by simpa using this,.inr ⟨u,v,rfl⟩⟩
set_option maxRecDepth 100000 in
theorem env_of_laid {w : World} (h : laidMetH Tryz.prog Go.Proofs.YtennhpoemdaghaaGreatDoor.Rows.mvsAloneRow.laid w) (hs : w.ShapedOpen Tryz.prog) : Env w:=by
 have ht:=tab_of_laid h
 refine ⟨?_,?_,?_,ht,?_⟩
 ·exact cell_of_shapedOpen_int (P:=Tryz.prog) (g:=0) (t:=3) (zero:=#[.int .i64 0]) hs (of_decide_eq_true q3_) q3_ rfl q3_ q3_ Tryz.underlying3
 ·exact err_of_laid (text:=[105,110,118,97,108,105,100,32,115,121,110,116,97,120]) q3_ q3_ Tryz.underlying111 (laid_at (name := "strconv.ErrSyntax") h q3_)
 ·exact err_of_laid (text:=[118,97,108,117,101,32,111,117,116,32,111,102,32,114,97,110,103,101]) q3_ q3_ Tryz.underlying111 (laid_at (name := "strconv.ErrRange") h q3_)
 ·have h1:=World.var?_cell (g:=5) q3_ ht 0
  exact Lib.lt_of_cell (v:=.int .u64 1) (h1.trans q3_)
end Go.Proofs.YtennhpoemdaghaaGreatDoor.P
end
section
namespace Go.Proofs.YtennhpoemdaghaaGreatDoor.P
open Go Go.RowKit Go.ChangeShapes Go.WideShapes Go.Proofs.YtennhpoemdaghaaGreatDoorW.PrintWords
section
variable {H : Type} {enc : TypeId × Value → H} {w : World} {base : Nat} {spare : Nat → Bool} {held : Bool}
theorem open_list {α : Type} [Inhabited α] (kd : Kd α) {t e : TypeId} (ht : Tryz.prog.underlying t = some (.slice e)) (hc : Tryz.prog.cellsOf e = kd.sz)
  (he : ∀ (fuel : Nat) (cs : List Value) (x : DataW H × List MemPlace),DataW.trod enc Tryz.prog w base spare held fuel e cs = some x → ∃ v : α,kd.K w v cs)
  {fuel : Nat} {cs : List Value} {x : DataW H × List MemPlace} (h : DataW.trod enc Tryz.prog w base spare held fuel t cs = some x) :
  ∃ (A : Option Addr) (c : Nat) (l : List α),cs = [.slice A l.length c] ∧ l.length ≤ c ∧ c ≤ maxLen ∧ Kd.C kd w A l.length l:=by
 rcases Go.Deep.open_slice ht h with ⟨rfl,_⟩ | ⟨a,len,cap,m,n,D,Pl,rfl,hb,hl,hm,rfl,_,hel⟩
 ·exact ⟨none,0,[],rfl,Nat.le_refl _,Nat.zero_le _,Kd.C_nil _ _⟩
 ·have hlm : len ≤ (if spare a.block then cap else len):=by split <;> omega
  have hr : ∀ i,i < len → ∃ (r : α) (cs' : List Value),w.cells? base (a.add (i * kd.sz)) kd.sz = some cs' ∧ kd.K w r cs':=fun i hi => by
   obtain ⟨cs',h1,h2⟩:=hel i q7_
   obtain ⟨r,hr⟩:=he _ _ _ h2
   rw [hc] at h1
   exact ⟨r,cs',h1,hr⟩
  refine ⟨some a,cap,(List.range len).map (fun i => if hi : i < len then (hr i hi).choose else default),by simp,by simpa using hl,hm,?_⟩
  refine ⟨rfl,?_,fun _ => ⟨a,rfl,fun j p hp => ?_⟩⟩
  ·unfold maxLen at hm
   simp
   omega
  ·have hj : j < len:=by
    rcases Nat.lt_or_ge j len with h1 | h1
    ·exact h1
    ·rw [List.getElem?_eq_none (by simpa using h1)] at hp;exact absurd hp q28_
   have hpe : p = (hr j hj).choose:=by
    rw [List.getElem?_map,List.getElem?_range hj] at hp
    simp only [Option.map_some,dif_pos hj,Option.some.injEq] at hp
    exact hp.symm
   have hsp:=(hr j hj).choose_spec
   rw [← hpe] at hsp
   obtain ⟨cs',hcs,hk⟩:=hsp
   obtain ⟨_,hlen,hcell⟩:=World.cells?_some hcs
   refine ⟨cs',hlen,hk,fun i u hu => ?_⟩
   have hi : i < kd.sz:=by
    rcases Nat.lt_or_ge i kd.sz with h1 | h1
    ·exact h1
    ·rw [List.getElem?_eq_none q7_] at hu;exact absurd hu q28_
   have:=hcell i hi
   rw [hu] at this
   rw [← this]
   show w.cell? (a.add (j * kd.sz + i)) = _
   rw [← add_add]
set_option maxRecDepth 100000 in
theorem trod_node {fuel : Nat} {cs : List Value} {x : DataW H × List MemPlace} (h : DataW.trod enc Tryz.prog w base spare held fuel 68 cs = some x) :
  ∃ v : S68,k68.K w v cs:=by
 obtain ⟨xs,n,_,_,hl,hlen,hf⟩:=DataW.trod_struct Tryz.underlying68 h
 have hc : Tryz.prog.cellsOf 68 = 7:=by kernel_rfl
 have hc1 : Tryz.prog.cellsOf 41 = 6:=by kernel_rfl
 have hc2 : Tryz.prog.cellsOf 38 = 1:=by kernel_rfl
 rw [hc] at hl
 match cs,hl with
 | [c0,c1,c2,c3,c4,c5,c6],_ =>
  have g : ∀ i (hi : i < 2),∃ y,xs[i]? = some y:=fun i hi => ⟨xs[i]'(by rw [hlen];exact hi),List.getElem?_eq_getElem _⟩
  obtain ⟨y0,e0⟩:=g 0 q7_
  obtain ⟨y1,e1⟩:=g 1 q7_
  have h0:=hf 0 _ rfl
  have h1:=hf 1 _ rfl
  simp only [e0,e1] at h0 h1
  obtain ⟨r,hr⟩:=trod_req h0
  obtain ⟨A,c,l,hv,hlc,hC⟩:=open_reqs h1
  simp [hc1,hc2,encR] at hr hv
  obtain ⟨r0,r1,r2,r3,r4,r5⟩:=hr
  refine ⟨⟨r,l⟩,?_⟩
  rw [r0,r1,r2,r3,r4,r5,hv]
  exact k68_mk w ⟨r,l⟩ hlc hC
instance : Inhabited S68:=⟨⟨default,[]⟩⟩
theorem open_nodes {fuel : Nat} {cs : List Value} {x : DataW H × List MemPlace} (h : DataW.trod enc Tryz.prog w base spare held fuel 39 cs = some x) :
  ∃ (A : Option Addr) (c : Nat) (l : List S68),cs = [.slice A l.length c] ∧ l.length ≤ c ∧ c ≤ maxLen ∧ Kd.C k68 w A l.length l :=
 open_list k68 Tryz.underlying39 q3_ (fun _ _ _ h => trod_node h) h
theorem nodes_len {A : Option Addr} {l : List S68} (h : Kd.C k68 w A l.length l) : ∀ n ∈ l,n.f1.length ≤ 9223372036854775807:=by
 intro n hn
 obtain ⟨j,hj,rfl⟩:=List.mem_iff_getElem.1 hn
 obtain ⟨a,_,hp⟩:=h.2.2 q7_
 obtain ⟨cs,_,hk,_⟩:=hp j l[j] (List.getElem?_eq_getElem hj)
 obtain ⟨A6,c6,_,_,hC⟩:=k68_open hk
 have:=hC.2.1
 omega
end
end Go.Proofs.YtennhpoemdaghaaGreatDoor.P
end
section
namespace Go.Proofs.YtennhpoemdaghaaGreatDoor.P
open Go Go.RowKit Go.ChangeShapes Go.WideShapes Go.ChangeAt
open Go.ChangeMaps (open_string shut_string)
set_option maxRecDepth 100000 in
theorem mvsRoots_lifted (os : Os) (started : os.Started) (H : Type) (enc : TypeId × Value → H) :
  ReturnsInHanded {} Tryz.checked os 8 .any (fun w args => (Rows.mvsRootsSpec.pre enc Tryz.prog Tryz.f8 [] false w args ∧ laidMetH Tryz.prog Rows.mvsRootsRow.laid w) ∧ sizedMet enc Tryz.prog Tryz.f8 (OpenSpec.ofChange Rows.mvsRootsSpec) false w args)
   (Rows.mvsRootsSpec.post enc Tryz.prog Tryz.f8 false true false false):=by
 refine returnsInHanded_and_shaped (C:=Tryz.checked) (X:=fun w _ => laidMetH Tryz.prog Rows.mvsRootsRow.laid w) (fun _ _ _ hh h => h.of_heap hh) ownKnob_here started q3_ Tryz.func8
  (ChangeSpec.witness_shaped (enc:=enc) (C:=Tryz.checked) (os:=os) (X:=fun w _ => laidMetH Tryz.prog Rows.mvsRootsRow.laid w) false (World.laidAll Tryz.prog os Rows.mvsRootsRow.laid) #[.slice none 0 0,.slice none 0 0,.slice none 0 0] 8 (World.laidAll_os _ _ _)
   (World.shaped_of_ZipB q3_ q3_) q3_ q3_ q3_
   (by rw [MakeChecks.laidMetH_plain _ _ _ q3_];exact laidMet_laidAll _ q3_ q3_)) ?_
 intro W base args ds gs before hval0 hW hsz0 hL hsh
 have hE : Env W:=env_of_laid hL hsh
 have hval : ∀ (j : Nat) t v,Tryz.f8.params[j]? = some t → args[j]? = some v → Value.okWide Tryz.prog W .any base t v:=hval0
 have hW':=hW
 obtain ⟨p,q,hA0,hV,rfl,hfz,hnd⟩:=hW
 have hA : DataW.TrodAll enc Tryz.prog W 0 (fun _ => true) true Tryz.f8.params.toList args.toList ds p:=hA0
 rw [Tryz.params8] at hA hval
 obtain ⟨v0,vs0,d0,ds0,p0,q0,hargs,rfl,rfl,h0,r0⟩:=trodAll_cons hA
 obtain ⟨v1,vs1,d1,ds1,p1,q1,rfl,rfl,rfl,h1,r1⟩:=trodAll_cons r0
 obtain ⟨v2,vs2,d2,ds2,p2,q2,rfl,rfl,rfl,h2,r2⟩:=trodAll_cons r1
 obtain ⟨rfl,rfl,rfl⟩:=trodAll_nil r2
 obtain rfl : args = #[v0,v1,v2]:=by cases args;simp_all
 obtain ⟨rfl,rfl⟩:=trodVars_none hV
 obtain ⟨a0,len0,cap0,rfl⟩:=okWide_slice Tryz.underlying38 (hval 0 38 v0 rfl rfl)
 have k0:=h0
 have lt0 : ∀ x ∈ p0,x.block < W.heap.size:=by obtain ⟨m,hm⟩:=k0;exact DataW.trod_lt m _ _ _ hm
 obtain ⟨fu0,hf0⟩:=h0
 obtain ⟨A0,c0,l0,hcs0,hc0,hC0⟩:=open_reqs hf0
 simp [Value.cells] at hcs0
 obtain ⟨rfl,rfl,rfl⟩:=hcs0
 obtain ⟨a1,len1,cap1,rfl⟩:=okWide_slice Tryz.underlying38 (hval 1 38 v1 rfl rfl)
 have k1:=h1
 have lt1 : ∀ x ∈ p1,x.block < W.heap.size:=by obtain ⟨m,hm⟩:=k1;exact DataW.trod_lt m _ _ _ hm
 obtain ⟨fu1,hf1⟩:=h1
 obtain ⟨A1,c1,l1,hcs1,hc1,hC1⟩:=open_reqs hf1
 simp [Value.cells] at hcs1
 obtain ⟨rfl,rfl,rfl⟩:=hcs1
 obtain ⟨a2,len2,cap2,rfl⟩:=okWide_slice Tryz.underlying39 (hval 2 39 v2 rfl rfl)
 have k2:=h2
 have lt2 : ∀ x ∈ p2,x.block < W.heap.size:=by obtain ⟨m,hm⟩:=k2;exact DataW.trod_lt m _ _ _ hm
 obtain ⟨fu2,hf2⟩:=h2
 obtain ⟨A2,c2,l2,hcs2,hc2,_,hC2⟩:=open_nodes hf2
 simp [Value.cells] at hcs2
 obtain ⟨rfl,rfl,rfl⟩:=hcs2
 clear hA0 hval0 hsz0
 obtain ⟨K,hK⟩:=roots_f l0 l1 l2 hC0.2.1 hC1.2.1 hC2.2.1 (nodes_len hC2)
 refine (Lw17_MvsRoots.calls K _ _ l0 _ _ l1 _ _ l2 true W hC0 hc0 hC1 hc1 hC2 hc2 (hK K (Nat.le_refl _)) rfl hE).mono fun e W' ⟨he,bel⟩ => ?_
 subst he
 exact ⟨_,rfl,_,_,_,[],_,[],hW',trodAll_mk1 (shut_bool Tryz.underlying4 _),(trodAll_cons_mk (Below.trod laidOut_here q3_ (of_decide_eq_true q3_) k0 bel lt0) (trodAll_cons_mk (Below.trod laidOut_here q3_ (of_decide_eq_true q3_) k1 bel lt1) (trodAll_cons_mk (Below.trod laidOut_here q3_ (of_decide_eq_true q3_) k2 bel lt2) trodAll_mk0))),rfl,bel.frame _,fun h => by cases h⟩
theorem mvsRoots_row : Rows.MvsRootsSaid :=
 OpenClaim.holds_of_wide 8 Tryz.f8 rfl rfl rfl rfl rfl rfl rfl ⟨rfl,rfl,rfl,rfl,rfl⟩ rfl rfl rfl rfl rfl q3_ Tryz.func8 q3_
  (of_decide_eq_true q3_) (by unfold Func.isWrapper;first | (rw [if_pos q54_];kernel_rfl) | (rw [if_neg q54_];exact ⟨rfl,rfl⟩))
  (fun os started H enc _ => mvsRoots_lifted os started H enc)
end Go.Proofs.YtennhpoemdaghaaGreatDoor.P
namespace Go.Proofs.YtennhpoemdaghaaGreatDoor
open Go
theorem mvsRoots_card : Rows.MvsRootsCardSaid :=
 Claim7.holds_tied_plain_at .later [] [.data,.data,.data,.data,.sentinel,.sentinel,.pinned] true (true, "6b7efa70bd55ada926e5eb756efdd62c05decfa7f1cf08258461f7006b2a8a09") true
  P.mvsRoots_row (fun _ h => by cases h) q3_ (fun _ h => by cases h) mvsRoots_row_tie rfl ⟨rfl,rfl⟩ q3_ rfl
  (fun f fn hf hfn => by
   obtain rfl : f = 8:=Option.some.inj ((show Tryz.prog.funcNamed "armada/armadalaw17.MvsRoots" = some 8 by kernel_rfl).symm.trans hf) |>.symm
   obtain rfl : fn = Tryz.f8:=(Option.some.inj (Tryz.func8.symm.trans hfn)).symm
   exact ⟨by kernel_rfl,fun j t ht => by
    rw [Tryz.params8] at ht
    have hm : t ∈ [38,38,39]:=by simpa using Array.mem_of_getElem? ht
    have hall : ([38,38,39].all fun u => !Tryz.prog.wantsStandIn u) = true:=by kernel_rfl
    exact (show Tryz.prog.wantsStandIn t = false by simpa using List.all_eq_true.1 hall t hm)⟩)
  q3_
end Go.Proofs.YtennhpoemdaghaaGreatDoor
end
