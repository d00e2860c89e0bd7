/- A part of the same claim: what its first file says. -/
import Derived.Test.YtennhpoemdaghaaGreatDoorRoots3
set_option linter.unusedVariables false
set_option linter.unusedSimpArgs false
section
namespace Go.Proofs.YtennhpoemdaghaaGreatDoor.P
open Go Go.RowKit Go.Proofs.YtennhpoemdaghaaGreatDoorW.PrintWords
def stepB (p : ByteArray) (o : Option Req) (r : Req) : Option Req :=
 if sameP p r then (match o with | none => some r | some x => if cmpB r x > 0 then some r else some x) else o
def bestO (p : ByteArray) (all : List Req) : Option Req:=all.foldl (stepB p) none
theorem find_setL (L : List Req) (r : Req) (p : ByteArray) : (setL L r).find? (sameP p) = if sameP p r then (L.find? (sameP p)).map (fun _ => r) else L.find? (sameP p):=by
 induction L with
 | nil => simp [setL]
 | cons y L ih =>
  have hs : setL (y :: L) r = (if sameP r.f0 y then r else y) :: setL L r:=rfl
  rw [hs,List.find?_cons,List.find?_cons,ih]
  cases hy : sameP r.f0 y
  ·simp only [Bool.false_eq_true,if_false]
   cases hp : sameP p y
   ·rfl
   ·have : sameP p r = false:=by
     cases h : sameP p r
     ·rfl
     ·rw [sameP_iff] at h hp
      rw [← Bool.not_eq_true,sameP_iff] at hy
      exact absurd (hp.trans h.symm) hy
    simp [this]
  ·simp only [if_true]
   rw [sameP_iff] at hy
   have e : sameP p y = sameP p r:=by unfold sameP;rw [hy]
   rw [e]
   cases sameP p r <;> simp
theorem find_takeL (L : List Req) (r : Req) (p : ByteArray) : (takeL L r).find? (sameP p) = stepB p (L.find? (sameP p)) r:=by
 unfold stepB
 cases hp : sameP p r
 ·simp only [Bool.false_eq_true,if_false]
  unfold takeL
  split
  ·rw [List.find?_append,List.find?_cons,hp]
   simp
  ·split
   ·rw [find_setL,hp];rfl
   ·rfl
 ·simp only [if_true]
  have e : sameP r.f0 = sameP p:=by rw [sameP_iff.1 hp]
  unfold takeL
  rw [e]
  cases hf : L.find? (sameP p) with
  | none =>
   simp only
   rw [List.find?_append,hf,List.find?_cons,hp]
   rfl
  | some x =>
   simp only
   split
   ·rw [find_setL,hp,hf];rfl
   ·exact hf
theorem find_takes (p : ByteArray) : ∀ (l L : List Req),(l.foldl takeL L).find? (sameP p) = l.foldl (stepB p) (L.find? (sameP p))
 | [],L => rfl
 | r :: rs,L => by rw [List.foldl_cons,find_takes p rs,find_takeL,List.foldl_cons]
theorem takeL_paths (L : List Req) (r : Req) (h : L.Pairwise (fun x y => x.f0 ≠ y.f0)) : (takeL L r).Pairwise (fun x y => x.f0 ≠ y.f0):=by
 unfold takeL
 split
 ·rename_i hf
  refine List.pairwise_append.2 ⟨h,List.pairwise_singleton _ _,fun a ha b hb => ?_⟩
  rw [List.mem_singleton.1 hb]
  have:=List.find?_eq_none.1 hf a ha
  exact fun e => this (sameP_iff.2 e)
 ·split
  ·have h1 : (L.map (·.f0)).Pairwise (· ≠ ·):=List.pairwise_map.2 h
   rw [← setL_path L r] at h1
   exact List.pairwise_map.1 h1
  ·exact h
theorem takes_paths : ∀ (l L : List Req),L.Pairwise (fun x y => x.f0 ≠ y.f0) → (l.foldl takeL L).Pairwise (fun x y => x.f0 ≠ y.f0)
 | [],L,h => h
 | r :: rs,L,h => by rw [List.foldl_cons];exact takes_paths rs _ (takeL_paths L r h)
theorem bestO_spec (p : ByteArray) : ∀ (l : List Req),(∀ r ∈ l,mayB r = true) → ∀ (o : Option Req),(∀ x,o = some x → x.f0 = p ∧ mayB x = true) →
  (∀ x,l.foldl (stepB p) o = some x → x.f0 = p ∧ mayB x = true ∧ (x ∈ l ∨ o = some x) ∧ (∀ y,(y ∈ l ∧ y.f0 = p) ∨ o = some y → cmpB x y ≥ 0)) ∧
  (l.foldl (stepB p) o = none → o = none ∧ ∀ y ∈ l,y.f0 ≠ p)
 | [],_,o,ho => by
  refine ⟨fun x hx => ⟨(ho x hx).1,(ho x hx).2,.inr hx,fun y hy => ?_⟩,fun h => ⟨h,fun y hy => absurd hy q28_⟩⟩
  rcases hy with ⟨hy,_⟩ | hy
  ·exact absurd hy q28_
  ·have e : x = y:=Option.some.inj (hx.symm.trans hy)
   subst e
   rw [cmpB_may (ho x hx).2 (ho x hx).2,vcmp_cmp.self]
   exact Int.le_refl _
 | r :: rs,hm,o,ho => by
  rw [List.foldl_cons]
  have hmr : mayB r = true:=hm r q28_
  have ho' : ∀ x,stepB p o r = some x → x.f0 = p ∧ mayB x = true:=by
   intro x hx
   unfold stepB at hx
   split at hx
   ·rename_i hs
    split at hx
    ·cases hx;exact ⟨sameP_iff.1 hs,hmr⟩
    ·rename_i z
     split at hx
     ·cases hx;exact ⟨sameP_iff.1 hs,hmr⟩
     ·cases hx;exact ho _ rfl
   ·exact ho x hx
  obtain ⟨h1,h2⟩:=bestO_spec p rs (fun x hx => hm x (by simp [hx])) (stepB p o r) ho'
  refine ⟨fun x hx => ?_,fun h => ?_⟩
  ·obtain ⟨a,b,c,d⟩:=h1 x hx
   have hs : ∀ z,stepB p o r = some z → (z = r ∧ r.f0 = p) ∨ o = some z:=by
    intro z hz
    unfold stepB at hz
    split at hz
    ·rename_i hs
     split at hz
     ·cases hz;exact .inl ⟨rfl,sameP_iff.1 hs⟩
     ·split at hz
      ·cases hz;exact .inl ⟨rfl,sameP_iff.1 hs⟩
      ·cases hz;exact .inr rfl
    ·exact .inr hz
   have hge : ∀ y,(y = r ∧ r.f0 = p) ∨ o = some y → ∃ z,stepB p o r = some z ∧ cmpB z y ≥ 0:=by
    intro y hy
    unfold stepB
    cases hp : sameP p r
    ·simp only [Bool.false_eq_true,if_false]
     rcases hy with ⟨rfl,hy⟩ | hy
     ·rw [sameP_iff.2 hy] at hp;exact absurd hp q35_
     ·refine ⟨y,hy,?_⟩
      rw [cmpB_may (ho y hy).2 (ho y hy).2,vcmp_cmp.self]
      exact Int.le_refl _
    ·simp only [if_true]
     cases ho2 : o with
     | none =>
      rcases hy with ⟨rfl,hy⟩ | hy
      ·refine ⟨y,rfl,?_⟩
       rw [cmpB_may hmr hmr,vcmp_cmp.self]
       exact Int.le_refl _
      ·rw [ho2] at hy;exact absurd hy q28_
     | some x0 =>
      have hx0:=(ho x0 ho2).2
      simp only
      split
      ·rename_i hc
       refine ⟨r,rfl,?_⟩
       rcases hy with ⟨rfl,hy⟩ | hy
       ·rw [cmpB_may hmr hmr,vcmp_cmp.self];exact Int.le_refl _
       ·rw [ho2] at hy
        obtain rfl:=Option.some.inj hy
        omega
      ·rename_i hc
       refine ⟨x0,rfl,?_⟩
       rcases hy with ⟨rfl,hy⟩ | hy
       ·rw [cmpB_may hx0 hmr]
        rw [cmpB_may hmr hx0] at hc
        have:=vcmp_cmp.swap y x0
        omega
       ·rw [ho2] at hy
        obtain rfl:=Option.some.inj hy
        rw [cmpB_may hx0 hx0,vcmp_cmp.self];exact Int.le_refl _
   refine ⟨a,b,?_,fun y hy => ?_⟩
   ·rcases c with c | c
    ·exact .inl (by simp [c])
    ·rcases hs x c with ⟨rfl,_⟩ | h
     ·exact .inl q28_
     ·exact .inr h
   ·have step : (y = r ∧ r.f0 = p) ∨ o = some y → cmpB x y ≥ 0:=fun hy' => by
     obtain ⟨z,hz,hzy⟩:=hge y hy'
     have hxz:=d z (.inr hz)
     have my : mayB y = true:=by
      rcases hy' with ⟨rfl,_⟩ | h
      ·exact hmr
      ·exact (ho y h).2
     have mz:=(ho' z hz).2
     rw [cmpB_may b my]
     rw [cmpB_may b mz] at hxz
     rw [cmpB_may mz my] at hzy
     have e1:=vcmp_cmp.swap x z
     have e2:=vcmp_cmp.swap z y
     have e3:=vcmp_cmp.swap x y
     have:=vcmp_cmp.trans y z x q7_ q7_
     omega
    rcases hy with ⟨hy,hyp⟩ | hy
    ·rcases List.mem_cons.1 hy with rfl | hy
     ·exact step (.inl ⟨rfl,hyp⟩)
     ·exact d y (.inl ⟨hy,hyp⟩)
    ·exact step (.inr hy)
  ·obtain ⟨a,b⟩:=h2 h
   have hn : o = none ∧ r.f0 ≠ p:=by
    unfold stepB at a
    split at a
    ·split at a
     ·exact absurd a q28_
     ·split at a <;> exact absurd a q28_
    ·rename_i hs
     exact ⟨a,fun e => hs (sameP_iff.2 e)⟩
   exact ⟨hn.1,fun y hy => by
    rcases List.mem_cons.1 hy with rfl | hy
    ·exact hn.2
    ·exact b y hy⟩
def listOf (all : List Req) : List Req:=sortP (all.foldl takeL [])
theorem listOf_len (all : List Req) : (listOf all).length ≤ all.length:=by
 have h:=takes_length all []
 unfold listOf
 rw [(sortP_perm _).length_eq]
 rw [List.length_nil,Nat.zero_add] at h
 exact h
theorem mem_listOf {all : List Req} {r : Req} : r ∈ listOf all ↔ bestO r.f0 all = some r:=by
 have hp:=takes_paths all [] List.Pairwise.nil
 have hf:=find_takes r.f0 all []
 unfold listOf bestO
 rw [(sortP_perm _).mem_iff]
 rw [List.find?_nil] at hf
 rw [← hf]
 constructor
 ·intro h
  cases hfind : (all.foldl takeL []).find? (sameP r.f0) with
  | none =>
   have:=List.find?_eq_none.1 hfind r h
   exact absurd (sameP_iff.2 rfl) this
  | some x =>
   have hx:=List.mem_of_find?_eq_some hfind
   have hxr:=sameP_iff.1 (List.find?_some hfind)
   rw [path_inj hp hx h hxr]
 ·exact fun h => List.mem_of_find?_eq_some h
theorem listOf_strict (all : List Req) : (listOf all).Pairwise (fun a b => a.f0.data.toList < b.f0.data.toList):=by
 have hs : SortedR (listOf all):=sortP_sorted _
 have hp : (listOf all).Pairwise (fun x y => x.f0 ≠ y.f0):=by
  refine (sortP_perm _).symm.pairwise (takes_paths all [] List.Pairwise.nil) ?_
  exact fun h => Ne.symm h
 have:=hs.and hp
 refine this.imp ?_
 rintro a b ⟨h1,h2⟩
 by_cases h : a.f0.data.toList < b.f0.data.toList
 ·exact h
 ·exact absurd (bytes_inj (List.le_antisymm (List.not_lt.1 h1) (List.not_lt.1 h))) h2
def listL (root : List Req) (nodes : List Node) : List Req:=listOf (reachL root nodes)
theorem list_eq (root : List Req) (nodes : List Node) (hU : (univ root nodes).length ≤ 500000) : mvs_List.f root nodes = some (listL root nodes):=by
 have hi:=reachL_inv root nodes hU
 have hl:=hi.len
 have h2:=takes_length (reachL root nodes) []
 rw [List.length_nil,Nat.zero_add] at h2
 unfold mvs_List.f
 rw [reached_eq root nodes hU,Option.bind_some,eachP_eq _ _ (fun r hr => (hi.reach r hr).may),Option.bind_some,if_pos ⟨by omega,by omega⟩]
 rfl
theorem listL_spec {root : List Req} {nodes : List Node} (hU : (univ root nodes).length ≤ 500000) :
  (∀ y ∈ listL root nodes,Reach root nodes y ∧ ∀ x,Reach root nodes x → x.f0 = y.f0 → cmpB y x ≥ 0) ∧ (∀ x,Reach root nodes x → ∃ y ∈ listL root nodes,y.f0 = x.f0 ∧ cmpB y x ≥ 0):=by
 have hm : ∀ r ∈ reachL root nodes,mayB r = true:=fun r hr => ((mem_reachL hU).1 hr).may
 constructor
 ·intro y hy
  have hb:=mem_listOf.1 hy
  obtain ⟨_,_,h3,h4⟩:=(bestO_spec y.f0 _ hm none (fun x h => absurd h q28_)).1 y hb
  refine ⟨?_,fun x hx he => h4 x (.inl ⟨(mem_reachL hU).2 hx,he⟩)⟩
  rcases h3 with h3 | h3
  ·exact (mem_reachL hU).1 h3
  ·exact absurd h3 q28_
 ·intro x hx
  have hs:=bestO_spec x.f0 _ hm none (fun x h => absurd h q28_)
  cases hb : bestO x.f0 (reachL root nodes) with
  | none => exact absurd rfl ((hs.2 hb).2 x ((mem_reachL hU).2 hx))
  | some y =>
   obtain ⟨h1,_,h3,h4⟩:=hs.1 y hb
   refine ⟨y,mem_listOf.2 (h1 ▸ hb),h1,h4 x (.inl ⟨(mem_reachL hU).2 hx,rfl⟩)⟩
theorem listL_strict (root : List Req) (nodes : List Node) : (listL root nodes).Pairwise (fun a b => a.f0.data.toList < b.f0.data.toList):=listOf_strict _
end Go.Proofs.YtennhpoemdaghaaGreatDoor.P
end
section
namespace Go.Proofs.YtennhpoemdaghaaGreatDoor.P
open Go.RowKit Go.Proofs.YtennhpoemdaghaaGreatDoorW.PrintWords Go.Proofs.YtennhpoemdaghaaGreatDoorW.PrintLast Go.Proofs.YtennhpoemdaghaaGreatDoorW.PrintMore
def Lw17_own.l0 : Nat → List (S68) → List (S70) → Int → Option ((List (S70)))
 | 0,_,_,_ => none
 | k + 1,x0,x3,x4 => if x4 < (x0.length : Int) then (if 0 ≤ x4 then (if x3.length < 1466015503701 then (Lw17_own.l0 k x0 (x3 ++ [(⟨(⟨(rd_T68 x0 x4).f0.f0,(⟨(rd_T68 x0 x4).f0.f1.f0,(rd_T68 x0 x4).f0.f1.f1,(rd_T68 x0 x4).f0.f1.f2,(rd_T68 x0 x4).f0.f1.f3,(rd_T68 x0 x4).f0.f1.f4⟩ : S24)⟩ : S41),(rd_T68 x0 x4).f1⟩ : S70)]) (wrap64 (x4 + 1))) else (none)) else (none)) else (some x3)
def Lw17_own.f (k : Nat) (l0 : List (S68)) : Option ((List (S70))):=Lw17_own.l0 k l0 ([] : List (S70)) 0
set_option maxHeartbeats 8000000 in
set_option maxRecDepth 100000 in
theorem Lw17_own.calls (k : Nat) (P0_ : Nat → Prop) (A0 : Option Addr) (c0 : Nat) (l0 : List (S68)) (r : List (S70)) (w : World) (hs0 : Kd.V k68 68 w w.heap.size (fun k_ => P0_ k_) (.slice A0 l0.length c0) l0) (h : Lw17_own.f k l0 = some r) :
  Calls Tryz.prog 23 #[.slice A0 l0.length c0] w fun e w' => ∃ v0_ : Value,e = .returned (v0_) ∧ Kd.N k70 70 w' w.heap.size (fun k_ => (P0_ k_ ∨ w.heap.size ≤ k_)) v0_ r ∧ Below w.heap.size w w':=by
 have hu68:=Tryz.underlying68
 have HO0:=Aside0.mk (show Kd.V k68 68 w w.heap.size (fun k_ => (P0_ k_ ∨ w.heap.size ≤ k_)) (.slice A0 l0.length c0) l0 from Kd.V_mono hs0 (fun k_ hk => .inl hk))
 have HB:=Aside0.mk (Below.refl w.heap.size w)
 have H : (Lw17_own.l0 k l0 ([] : List (S70)) 0) = some r:=h
 clear h
 have H':=Aside0.mk H
 clear H
 go_enter Tryz.func23,Tryz.ntmps23
 go_wp2
 go_loopg [3,4] k (fun kq v3 v4 w' => ∃ (x3_1 : List (S70)) (x4_1 : Int),v4 = .int .i64 x4_1 ∧ Aside0 (Lw17_own.l0 kq l0 x3_1 x4_1 = some r) ∧ Aside0 (kq ≤ k) ∧ Aside0 (Kd.V k68 68 w' w.heap.size (fun k_ => (P0_ k_ ∨ w.heap.size ≤ k_) ∧ some k_ ≠ (v3 : Value).ownBlock) (.slice A0 l0.length c0) l0) ∧ Aside0 (Kd.N k70 70 w' w.heap.size (fun k_ => (P0_ k_ ∨ w.heap.size ≤ k_)) v3 x3_1) ∧ Aside0 (Below w.heap.size w w'))
 case atStart => exact ⟨(([] : List (S70))),(0),q4_,H',⟨Nat.le_refl _⟩,⟨by (with_reducible repeat (first | apply Kd.V_alloc | apply Kd.V_drewN | apply Kd.V_drew));exact Kd.V_mono HO0.out (fun _ hk => ⟨hk,(by simp [Value.ownBlock])⟩)⟩,⟨by first | exact Kd.S_nil _ _ _ _ _ | exact Kd.N_nil _ _ _ _ _ | exact Kd.V_nil _ _ _ _ _ | exact Kd.Q_nil _ _ _ _ _ | exact Kd.R_nil _ _ _ _ _⟩,⟨by repeat (first | (with_reducible first | exact HB.out | apply below_alloc | apply pw_below_drewN | apply below_drew1) | exact HB.out)⟩⟩
 case round =>
  clear H'
  obtain ⟨x3_1,x4_1,rfl,HA,HK1,HO_0,HO_3,HB⟩:=hrel
  cases gk with
  | zero => exact absurd HA.out (by simp [Lw17_own.l0])
  | succ k1 =>
   have H:=HA.out
   clear HA
   simp only [Lw17_own.l0] at H
   by_cases c2 : x4_1 < (l0.length : Int)
   ·rw [if_pos c2] at H
    have c2b0 : decide (x4_1 < (l0.length : Int)) = true:=decide_eq_true c2
    clear c2
    by_cases c3 : 0 ≤ x4_1
    ·rw [if_pos c3] at H
     have c3b0 : decide (0 ≤ x4_1) = true:=decide_eq_true c3
     clear c3
     by_cases c4 : x3_1.length < 1466015503701
     ·rw [if_pos c4] at H
      have LMc4:=Aside0.mk c4
      clear c4
      obtain ⟨y102,hy102⟩ : ∃ y_ : List (S70),y_ = (x3_1 ++ [(⟨(⟨(rd_T68 l0 x4_1).f0.f0,(⟨(rd_T68 l0 x4_1).f0.f1.f0,(rd_T68 l0 x4_1).f0.f1.f1,(rd_T68 l0 x4_1).f0.f1.f2,(rd_T68 l0 x4_1).f0.f1.f3,(rd_T68 l0 x4_1).f0.f1.f4⟩ : S24)⟩ : S41),(rd_T68 l0 x4_1).f1⟩ : S70)]):=⟨_,rfl⟩
      replace H : (Lw17_own.l0 k1 l0 y102 (wrap64 (x4_1 + 1))) = some r:=by first | (rw [hy102];with_reducible exact H) | (have H2_:=(Option.bind_some _ _).symm.trans H;rw [hy102];with_reducible exact H2_) | (have H2_:=(Option.bind_some _ _).symm.trans H;with_reducible exact H2_) | with_reducible exact H | (rw [hy102];exact H) | exact H
      have Ny102:=Aside0.mk hy102
      clear hy102
      have H':=Aside0.mk H
      clear H
      have p101 : 0 ≤ (x4_1 : Int):=of_decide_eq_true q2_
      have q101 : x4_1 < (l0.length : Int):=of_decide_eq_true q2_
      obtain ⟨ad101,A101_6,c101_6,e101,hx101_0,hx101_1,hx101_2,hx101_3,hx101_4,hx101_5,hx101_6,hl101_6,hi101_6⟩:=at_T68 (Kd.V_reads' HO_0.out).2.2 x4_1 p101 q101
      cases e101
      obtain ⟨ce101,hce101,hMe101,hcc101⟩:=Kd.V_get HO_0.out z68 x4_1 p101 (by first | exact q101 | exact of_decide_eq_true q2_ | (have e_:=(Kd.V_reads' HO_0.out).1;omega))
      obtain ⟨ua101_6,uc101_6,rfl,ul101_6,ge101_6⟩:=k68_openF hMe101
      have hv101_6:=hcc101 6 _ rfl
      rw [add_field _ _ 6 q7_] at hv101_6
      replace hv101_6:=Option.some.inj (hv101_6.symm.trans hx101_6)
      injection hv101_6 with hva_ hvn_ hvc_
      rw [hva_] at ge101_6
      rw [hvc_] at ul101_6
      have HL101_6:=Aside0.mk (show Kd.V k41 41 _ w.heap.size _ _ ((rd_T68 l0 x4_1).f1) from Kd.V_mk ul101_6 ge101_6)
      clear hva_ hvn_ hvc_ ge101_6 ul101_6
      clear hcc101 hce101
      have HR101_6:=Aside0.mk hi101_6
      have HC101_6:=Aside0.mk hl101_6
      clear hi101_6 hl101_6
      replace p101:=eq_true p101
      replace q101:=eq_true q101
      go_wp2_with (first | ((with_reducible refine gate_builtin (b:=.append) (xs:=#[.tmp 11,.tmp 16]) rfl ?_);at_builtin;refine Kd.N_append k70 (w0:=w) w.heap.size rfl (.tmp 11) (.tmp 16) 43 70 (.agg #[(.string ⟨#[]⟩),(.int .i64 0),(.int .i64 0),(.int .i64 0),(.string ⟨#[]⟩),(.string ⟨#[]⟩),(.slice none 0 0)]) 96 rfl Tryz.underlying43 info70 rfl q35_ q7_ u3 x3_1 (⟨(⟨(rd_T68 l0 x4_1).f0.f0,(⟨(rd_T68 l0 x4_1).f0.f1.f0,(rd_T68 l0 x4_1).f0.f1.f1,(rd_T68 l0 x4_1).f0.f1.f2,(rd_T68 l0 x4_1).f0.f1.f3,(rd_T68 l0 x4_1).f0.f1.f4⟩ : S24)⟩ : S41),(rd_T68 l0 x4_1).f1⟩ : S70) [.string ((rd_T68 l0 x4_1).f0.f0),.int .i64 ((rd_T68 l0 x4_1).f0.f1.f0),.int .i64 ((rd_T68 l0 x4_1).f0.f1.f1),.int .i64 ((rd_T68 l0 x4_1).f0.f1.f2),.string ((rd_T68 l0 x4_1).f0.f1.f3),.string ((rd_T68 l0 x4_1).f0.f1.f4),.slice A101_6 ((rd_T68 l0 x4_1).f1).length c101_6] (fun k_ => (P0_ k_ ∨ w.heap.size ≤ k_)) (fun k_ => ((fun k_ => (P0_ k_ ∨ w.heap.size ≤ k_))) k_ ∧ some k_ ≠ (u3 : Value).ownBlock) rfl rfl ?aP (fun _ hk => hk) ?aF ?aO ?aB ?aS ?aL ?_;(case aP => exact (k70_mkF _ _ (⟨(⟨(rd_T68 l0 x4_1).f0.f0,(⟨(rd_T68 l0 x4_1).f0.f1.f0,(rd_T68 l0 x4_1).f0.f1.f1,(rd_T68 l0 x4_1).f0.f1.f2,(rd_T68 l0 x4_1).f0.f1.f3,(rd_T68 l0 x4_1).f0.f1.f4⟩ : S24)⟩ : S41),(rd_T68 l0 x4_1).f1⟩ : S70) (Kd.V_reads' (Kd.V_mono (ok':=(fun k_ => ((fun k_ => (P0_ k_ ∨ w.heap.size ≤ k_))) k_ ∧ some k_ ≠ (u3 : Value).ownBlock)) (HL101_6.out) (fun k_ hk => ⟨hk.1,hk.2⟩))).2.1 (Kd.V_F (Kd.V_mono (ok':=(fun k_ => ((fun k_ => (P0_ k_ ∨ w.heap.size ≤ k_))) k_ ∧ some k_ ≠ (u3 : Value).ownBlock)) (HL101_6.out) (fun k_ hk => ⟨hk.1,hk.2⟩)))));(case aB => exact bh_);(case aF => exact (fun k_ hk => (.inr (Nat.le_trans (below_size bh_) hk))));(case aO => exact (by (with_reducible repeat (first | apply Kd.N_alloc | apply Kd.N_drewN | apply Kd.N_drew));exact HO_3.out));(case aS => exact (below_size bh_));(case aL => have:=LMc4.out;omega);intro v103 w5 ho hb hg hat;rw [← Ny102.out] at ho;replace HO_0:=Aside0.mk (Kd.V_afterv (ok:=(fun k_ => (P0_ k_ ∨ w.heap.size ≤ k_))) (by (with_reducible repeat (first | apply Kd.V_alloc | apply Kd.V_drewN | apply Kd.V_drew));exact HO_0.out) hg hat);replace HL101_6:=Aside0.mk (Kd.V_afterv (ok:=(fun k_ => (P0_ k_ ∨ w.heap.size ≤ k_))) (by (with_reducible repeat (first | apply Kd.V_alloc | apply Kd.V_drewN | apply Kd.V_drew));exact HL101_6.out) hg hat);replace HB:=Aside0.mk (hb);have HO104:=Aside0.mk (ho);clear HO_3;clear ho hb hg hat))
      go_roundg k1
      case measure => have:=HK1.out;omega
      case rel => exact ⟨(y102),(wrap64 (x4_1 + 1)),q4_,H',⟨by have:=HK1.out;omega⟩,⟨by (with_reducible repeat (first | apply Kd.V_alloc | apply Kd.V_drewN | apply Kd.V_drew));exact HO_0.out⟩,⟨by (with_reducible repeat (first | apply Kd.N_alloc | apply Kd.N_drewN | apply Kd.N_drew));exact HO104.out⟩,⟨by repeat (first | (with_reducible first | exact HB.out | apply below_alloc | apply pw_below_drewN | apply below_drew1) | exact HB.out)⟩⟩
     ·rw [if_neg c4] at H
      exact absurd H q28_
    ·rw [if_neg c3] at H
     exact absurd H q28_
   ·rw [if_neg c2] at H
    have c2b0 : decide (x4_1 < (l0.length : Int)) = false:=decide_eq_false c2
    clear c2
    obtain rfl:=Option.some.inj H
    go_wp2
    go_ret
    exact ⟨_,by first | rfl | (simp [] <;> rfl) | (simp [*] <;> rfl) | (simp [bne_nil_];done) | (simp [*,bne_nil_];done),by (with_reducible repeat (first | apply Kd.N_alloc | apply Kd.N_drewN | apply Kd.N_drew));exact HO_3.out,by repeat (first | (with_reducible first | exact HB.out | apply below_alloc | apply pw_below_drewN | apply below_drew1) | exact HB.out)⟩
def Lw17_covers.l0 : Nat → List (S41) → Int → ByteArray → Int → Int → Int → ByteArray → ByteArray → Option (Bool)
 | 0,_,_,_,_,_,_,_,_ => none
 | k + 1,x0,x5,x102000,x102001,x102002,x102003,x102004,x102005 => if x5 < (x0.length : Int) then (if 0 ≤ x5 then (if ((rd_T41 x0 x5).f0).toList = x102000.toList then ((Rf07_Compare.f k ((rd_T41 x0 x5).f1.f0) ((rd_T41 x0 x5).f1.f1) ((rd_T41 x0 x5).f1.f2) ((rd_T41 x0 x5).f1.f3) ((rd_T41 x0 x5).f1.f4) x102001 x102002 x102003 x102004 x102005).bind fun t104 => (some (decide (t104 ≥ 0)))) else (Lw17_covers.l0 k x0 (wrap64 (x5 + 1)) x102000 x102001 x102002 x102003 x102004 x102005)) else (none)) else (some false)
def Lw17_covers.f (k : Nat) (l0 : List (S41)) (a1_0 : ByteArray) (a1_1 : Int) (a1_2 : Int) (a1_3 : Int) (a1_4 : ByteArray) (a1_5 : ByteArray) : Option (Bool):=Lw17_covers.l0 k l0 0 a1_0 a1_1 a1_2 a1_3 a1_4 a1_5
def Lw17_covers.T4 : Bool × List (List Nat × List Nat):=(true,[([],[]),([],[]),([0,1],[0,1]),([2],[2]),([3],[3]),([],[]),([5],[5]),([4,6],[4,6])])
def Lw17_covers.B4 : List Nat:=[0,0,3,7,15,0,32,127]
theorem Lw17_covers.tab4 : rtab .any (opsOf Tryz.f34 4) = Lw17_covers.T4:=by kernel_rfl
theorem Lw17_covers.bits4 : waitsOk Lw17_covers.T4.2 Lw17_covers.B4 = true:=by kernel_rfl
def Lw17_covers.T5 : Bool × List (List Nat × List Nat):=(true,[([],[]),([],[]),([0,1],[0,1]),([2],[2]),([3],[3]),([],[]),([5],[5]),([4,6],[4,6]),([7],[7]),([8,7,0,1,2,3,4,5,6,7,8],[8])])
def Lw17_covers.B5 : List Nat:=[0,0,3,7,15,0,32,127,255,511]
theorem Lw17_covers.tab5 : rtab .any (opsOf Tryz.f34 5) = Lw17_covers.T5:=by kernel_rfl
theorem Lw17_covers.bits5 : waitsOk Lw17_covers.T5.2 Lw17_covers.B5 = true:=by kernel_rfl
set_option maxHeartbeats 8000000 in
set_option maxRecDepth 100000 in
theorem Lw17_covers.calls (k : Nat) (A0 : Option Addr) (c0 : Nat) (l0 : List (S41)) (a1_0 : ByteArray) (a1_1 : Int) (a1_2 : Int) (a1_3 : Int) (a1_4 : ByteArray) (a1_5 : ByteArray) (r : Bool) (w : World) (hr0 : Kd.C k41 w A0 l0.length l0) (hc0 : l0.length ≤ c0) (h : Lw17_covers.f k l0 a1_0 a1_1 a1_2 a1_3 a1_4 a1_5 = some r) :
  Calls Tryz.prog 34 #[.slice A0 l0.length c0,.agg #[.string a1_0,.int .i64 a1_1,.int .i64 a1_2,.int .i64 a1_3,.string a1_4,.string a1_5]] w fun e w' => e = .returned (.bool r) ∧ Below w.heap.size w w':=by
 have hu41:=Tryz.underlying41
 have hu24:=Tryz.underlying24
 have HR0:=Aside0.mk hr0
 have HC0:=Aside0.mk hc0
 clear hr0 hc0
 have HB:=Aside0.mk (Below.refl w.heap.size w)
 have H : (Lw17_covers.l0 k l0 0 a1_0 a1_1 a1_2 a1_3 a1_4 a1_5) = some r:=h
 clear h
 have H':=Aside0.mk H
 clear H
 go_enter Tryz.func34,Tryz.ntmps34
 go_wp2_with (first | ((with_reducible refine gate_dst (N:=3) rfl ?_);refine box_event ?hg (N:=3) ?hd (cs:=#[.string a1_0,.int .i64 a1_1,.int .i64 a1_2,.int .i64 a1_3,.string a1_4,.string a1_5]) (t:=41) ?hr ?_;(case hd => rfl);(case hg => rfl);(case hr => first | (go_simp;done) | (go_simp;rfl));intro gb101 hg w3 hbox hb;have BK101:=Aside0.mk (hbox);have GW101:=Aside0.mk ((q19_ : w.heap.size ≤ gb101));have GE101:=Aside0.mk ((q19_ : w.heap.size ≤ gb101));replace HB:=Aside0.mk (below_step bh_ hb);clear hb hbox hg))
 go_loopg [5] k (fun kq v5 w' => ∃ (x5_1 : Int),v5 = .int .i64 x5_1 ∧ Aside0 (Lw17_covers.l0 kq l0 x5_1 a1_0 a1_1 a1_2 a1_3 a1_4 a1_5 = some r) ∧ Aside0 (kq ≤ k) ∧ Aside0 (w'.heap[gb101]? = some (.cells #[.string a1_0,.int .i64 a1_1,.int .i64 a1_2,.int .i64 a1_3,.string a1_4,.string a1_5] 41 (0,0))) ∧ Aside0 (Below w.heap.size w w'))
 case atStart => exact ⟨(0),q4_,H',⟨Nat.le_refl _⟩,⟨by (with_reducible repeat (first | refine blk_drewN ?_ _ | refine blk_drew ?_ | refine blk_alloc ?_ _));exact BK101.out⟩,⟨by repeat (first | (with_reducible first | exact HB.out | apply below_alloc | apply pw_below_drewN | apply below_drew1 | refine below_set ?_ GE101.out) | exact HB.out)⟩⟩
 case round =>
  clear H'
  try clear p2
  try clear c3
  obtain ⟨x5_1,rfl,HA,HK1,BK101,HB⟩:=hrel
  cases gk with
  | zero => exact absurd HA.out (by simp [Lw17_covers.l0])
  | succ k1 =>
   have H:=HA.out
   clear HA
   simp only [Lw17_covers.l0] at H
   by_cases c4 : x5_1 < (l0.length : Int)
   ·rw [if_pos c4] at H
    have c4b0 : decide (x5_1 < (l0.length : Int)) = true:=decide_eq_true c4
    clear c4
    by_cases c5 : 0 ≤ x5_1
    ·rw [if_pos c5] at H
     have c5b0 : decide (0 ≤ x5_1) = true:=decide_eq_true c5
     clear c5
     by_cases c6 : ((rd_T41 l0 x5_1).f0).toList = a1_0.toList
     ·rw [if_pos c6] at H
      have c6b0 : (((rd_T41 l0 x5_1).f0).toList == a1_0.toList) = true:=beq_iff_eq.mpr c6
      have c6b1 : (((rd_T41 l0 x5_1).f0).toList != a1_0.toList) = false:=bne_eq_false_iff_eq.mpr c6
      clear c6
      obtain ⟨t104,A70,H⟩:=Option.bind_eq_some_iff.mp H
      have A7:=Aside0.mk A70
      clear A70
      obtain rfl:=Option.some.inj H
      try go_wp2
      replace BK101:=Aside0.mk (blk_drew BK101.out)
      replace HB:=Aside0.mk (below_drew1 HB.out)
      have p102 : 0 ≤ (x5_1 : Int):=of_decide_eq_true q2_
      have q102 : x5_1 < (l0.length : Int):=of_decide_eq_true q2_
      obtain ⟨ad102,e102,hx102_0,hx102_1,hx102_2,hx102_3,hx102_4,hx102_5⟩:=at_T41 HR0.out x5_1 p102 q102
      have hw102_5:=hx102_5
      have hw102_4:=hx102_4
      have hw102_3:=hx102_3
      have hw102_2:=hx102_2
      have hw102_1:=hx102_1
      have hw102_0:=hx102_0
      cases e102
      replace hx102_0:=(HB.out.cell (World.block_lt_of_cell? w _ hx102_0)).trans hx102_0
      replace hx102_1:=(HB.out.cell (World.block_lt_of_cell? w _ hx102_1)).trans hx102_1
      replace hx102_2:=(HB.out.cell (World.block_lt_of_cell? w _ hx102_2)).trans hx102_2
      replace hx102_3:=(HB.out.cell (World.block_lt_of_cell? w _ hx102_3)).trans hx102_3
      replace hx102_4:=(HB.out.cell (World.block_lt_of_cell? w _ hx102_4)).trans hx102_4
      replace hx102_5:=(HB.out.cell (World.block_lt_of_cell? w _ hx102_5)).trans hx102_5
      replace p102:=eq_true p102
      replace q102:=eq_true q102
      refine start_ (n:=8) (S:=fun w' => w'.cell? ⟨gb101,0,none⟩ = some (.string a1_0) ∧ w'.cell? ⟨gb101,1,none⟩ = some (.int .i64 a1_1) ∧ w'.cell? ⟨gb101,2,none⟩ = some (.int .i64 a1_2) ∧ w'.cell? ⟨gb101,3,none⟩ = some (.int .i64 a1_3) ∧ w'.cell? ⟨gb101,4,none⟩ = some (.string a1_4) ∧ w'.cell? ⟨gb101,5,none⟩ = some (.string a1_5) ∧ w'.cell? (ad102.add ((x5_1).toNat * 6)) = some (.string ((rd_T41 l0 x5_1).f0)) ∧ w'.cell? ⟨(ad102.add ((x5_1).toNat * 6)).block,(ad102.add ((x5_1).toNat * 6)).off + 1,none⟩ = some (.int .i64 ((rd_T41 l0 x5_1).f1.f0)) ∧ w'.cell? ⟨(ad102.add ((x5_1).toNat * 6)).block,(ad102.add ((x5_1).toNat * 6)).off + 2,none⟩ = some (.int .i64 ((rd_T41 l0 x5_1).f1.f1)) ∧ w'.cell? ⟨(ad102.add ((x5_1).toNat * 6)).block,(ad102.add ((x5_1).toNat * 6)).off + 3,none⟩ = some (.int .i64 ((rd_T41 l0 x5_1).f1.f2)) ∧ w'.cell? ⟨(ad102.add ((x5_1).toNat * 6)).block,(ad102.add ((x5_1).toNat * 6)).off + 4,none⟩ = some (.string ((rd_T41 l0 x5_1).f1.f3)) ∧ w'.cell? ⟨(ad102.add ((x5_1).toNat * 6)).block,(ad102.add ((x5_1).toNat * 6)).off + 5,none⟩ = some (.string ((rd_T41 l0 x5_1).f1.f4))) (ds:=[]) #[false,false,false,false,false,false,false,false] q3_ rfl rfl ⟨(blk_cell BK101.out 0).trans rfl,(blk_cell BK101.out 1).trans rfl,(blk_cell BK101.out 2).trans rfl,(blk_cell BK101.out 3).trans rfl,(blk_cell BK101.out 4).trans rfl,(blk_cell BK101.out 5).trans rfl,((HB.out.cell (World.block_lt_of_cell? w _ hw102_0)).trans hw102_0),((HB.out.cell (World.block_lt_of_cell? w _ hw102_1)).trans hw102_1),((HB.out.cell (World.block_lt_of_cell? w _ hw102_2)).trans hw102_2),((HB.out.cell (World.block_lt_of_cell? w _ hw102_3)).trans hw102_3),((HB.out.cell (World.block_lt_of_cell? w _ hw102_4)).trans hw102_4),((HB.out.cell (World.block_lt_of_cell? w _ hw102_5)).trans hw102_5)⟩ (fun hHeld => ?_);refine with_tabW Lw17_covers.tab4 Lw17_covers.bits4 (fun HT_ HW_ => ?_)
      generalize wr.drew = w8 at BK101 HB hx102_0 hx102_1 hx102_2 hx102_3 hx102_4 hx102_5 hHeld ⊢
      refine pure_ (i:=0) (N:=some 12) (v:=?_) (a':=?_) #[true,false,false,false,false,false,false,false] rfl rfl (any_of HT_.out q3_) (fun _ _ _ h => h) (Or.inl ⟨by rfl,?_⟩) ?_ ?_
      rotate_left
      ·intro w'
       go_simp
       with_reducible rfl
      rotate_left
      ·simp only [Act.put,List.setIfInBounds_toArray,List.set_cons_zero,List.set_cons_succ]
       rfl
      refine pure_ (i:=1) (N:=some 13) (v:=?_) (a':=?_) #[true,true,false,false,false,false,false,false] rfl rfl (any_of HT_.out q3_) (fun _ _ _ h => h) (Or.inl ⟨by rfl,?_⟩) ?_ ?_
      rotate_left
      ·intro w'
       go_simp
       with_reducible rfl
      rotate_left
      ·simp only [Act.put,List.setIfInBounds_toArray,List.set_cons_zero,List.set_cons_succ]
       rfl
      refine pure_ (i:=2) (N:=some 14) (v:=?_) (a':=?_) #[true,true,true,false,false,false,false,false] rfl rfl (any_of HT_.out q3_) (fun _ _ _ h => h) (Or.inl ⟨by rfl,?_⟩) ?_ ?_
      rotate_left
      ·intro w'
       go_simp
       with_reducible rfl
      rotate_left
      ·simp only [Act.put,List.setIfInBounds_toArray,List.set_cons_zero,List.set_cons_succ]
       rfl
      refine pure_ (i:=3) (N:=some 15) (v:=?_) (a':=?_) #[true,true,true,true,false,false,false,false] rfl rfl (any_of HT_.out q3_) (fun _ _ _ h => h) (Or.inl ⟨by rfl,?_⟩) ?_ ?_
      rotate_left
      ·intro w'
       go_simp
       with_reducible rfl
      rotate_left
      ·simp only [Act.put,List.setIfInBounds_toArray,List.set_cons_zero,List.set_cons_succ]
       rfl
      refine pure_ (i:=5) (N:=some 17) (v:=?_) (a':=?_) #[true,true,true,true,false,true,false,false] rfl rfl (any_of HT_.out q3_) (fun _ _ _ h => h) (Or.inl ⟨by rfl,?_⟩) ?_ ?_
      rotate_left
      ·intro w'
       go_simp
       with_reducible rfl
      rotate_left
      ·simp only [Act.put,List.setIfInBounds_toArray,List.set_cons_zero,List.set_cons_succ]
       rfl
      refine take_ (i:=4) (N:=some 16) (v:=?_) (a':=?_) #[true,true,true,true,true,true,false,false] rfl rfl (take_ofW HT_.out HW_.out q3_) (fun _ _ _ h => h) (Or.inl ⟨by rfl,?_⟩) hHeld ?_ ?_
      rotate_left
      ·rintro w' ⟨s0,s1,s2,s3,s4,s5,s6,s7,s8,s9,s10,s11⟩
       go_simp
       with_reducible rfl
      rotate_left
      ·simp only [Act.put,List.setIfInBounds_toArray,List.set_cons_zero,List.set_cons_succ]
       rfl
      refine take_ (i:=6) (N:=some 18) (v:=?_) (a':=?_) #[true,true,true,true,true,true,true,false] rfl rfl (take_ofW HT_.out HW_.out q3_) (fun _ _ _ h => h) (Or.inl ⟨by rfl,?_⟩) hHeld ?_ ?_
      rotate_left
      ·rintro w' ⟨s0,s1,s2,s3,s4,s5,s6,s7,s8,s9,s10,s11⟩
       go_simp
       with_reducible rfl
      rotate_left
      ·simp only [Act.put,List.setIfInBounds_toArray,List.set_cons_zero,List.set_cons_succ]
       rfl
      refine pure_ (i:=7) (N:=some 19) (v:=?_) (a':=?_) #[true,true,true,true,true,true,true,true] rfl rfl (any_of HT_.out q3_) (fun _ _ _ h => h) (Or.inl ⟨by rfl,?_⟩) ?_ ?_
      rotate_left
      ·intro w'
       go_simp
       with_reducible rfl
      rotate_left
      ·simp only [Act.put,List.setIfInBounds_toArray,List.set_cons_zero,List.set_cons_succ]
       rfl
      refine done_ (done_of HT_.out q3_) ?_
      try go_wp2
      replace BK101:=Aside0.mk (blk_drew BK101.out)
      replace HB:=Aside0.mk (below_drew1 HB.out)
      have p103 : 0 ≤ (x5_1 : Int):=of_decide_eq_true q2_
      have q103 : x5_1 < (l0.length : Int):=of_decide_eq_true q2_
      obtain ⟨ad103,e103,hx103_0,hx103_1,hx103_2,hx103_3,hx103_4,hx103_5⟩:=at_T41 HR0.out x5_1 p103 q103
      have hw103_5:=hx103_5
      have hw103_4:=hx103_4
      have hw103_3:=hx103_3
      have hw103_2:=hx103_2
      have hw103_1:=hx103_1
      have hw103_0:=hx103_0
      obtain rfl : ad102 = ad103:=(by injection e103)
      replace hx103_0:=(HB.out.cell (World.block_lt_of_cell? w _ hx103_0)).trans hx103_0
      replace hx103_1:=(HB.out.cell (World.block_lt_of_cell? w _ hx103_1)).trans hx103_1
      replace hx103_2:=(HB.out.cell (World.block_lt_of_cell? w _ hx103_2)).trans hx103_2
      replace hx103_3:=(HB.out.cell (World.block_lt_of_cell? w _ hx103_3)).trans hx103_3
      replace hx103_4:=(HB.out.cell (World.block_lt_of_cell? w _ hx103_4)).trans hx103_4
      replace hx103_5:=(HB.out.cell (World.block_lt_of_cell? w _ hx103_5)).trans hx103_5
      replace p103:=eq_true p103
      replace q103:=eq_true q103
      refine start_ (n:=10) (S:=fun w' => w'.cell? ⟨gb101,0,none⟩ = some (.string a1_0) ∧ w'.cell? ⟨gb101,1,none⟩ = some (.int .i64 a1_1) ∧ w'.cell? ⟨gb101,2,none⟩ = some (.int .i64 a1_2) ∧ w'.cell? ⟨gb101,3,none⟩ = some (.int .i64 a1_3) ∧ w'.cell? ⟨gb101,4,none⟩ = some (.string a1_4) ∧ w'.cell? ⟨gb101,5,none⟩ = some (.string a1_5) ∧ w'.cell? (ad102.add ((x5_1).toNat * 6)) = some (.string ((rd_T41 l0 x5_1).f0)) ∧ w'.cell? ⟨(ad102.add ((x5_1).toNat * 6)).block,(ad102.add ((x5_1).toNat * 6)).off + 1,none⟩ = some (.int .i64 ((rd_T41 l0 x5_1).f1.f0)) ∧ w'.cell? ⟨(ad102.add ((x5_1).toNat * 6)).block,(ad102.add ((x5_1).toNat * 6)).off + 2,none⟩ = some (.int .i64 ((rd_T41 l0 x5_1).f1.f1)) ∧ w'.cell? ⟨(ad102.add ((x5_1).toNat * 6)).block,(ad102.add ((x5_1).toNat * 6)).off + 3,none⟩ = some (.int .i64 ((rd_T41 l0 x5_1).f1.f2)) ∧ w'.cell? ⟨(ad102.add ((x5_1).toNat * 6)).block,(ad102.add ((x5_1).toNat * 6)).off + 4,none⟩ = some (.string ((rd_T41 l0 x5_1).f1.f3)) ∧ w'.cell? ⟨(ad102.add ((x5_1).toNat * 6)).block,(ad102.add ((x5_1).toNat * 6)).off + 5,none⟩ = some (.string ((rd_T41 l0 x5_1).f1.f4))) (ds:=[]) #[false,false,false,false,false,false,false,false,false,false] q3_ rfl rfl ⟨(blk_cell BK101.out 0).trans rfl,(blk_cell BK101.out 1).trans rfl,(blk_cell BK101.out 2).trans rfl,(blk_cell BK101.out 3).trans rfl,(blk_cell BK101.out 4).trans rfl,(blk_cell BK101.out 5).trans rfl,((HB.out.cell (World.block_lt_of_cell? w _ hw103_0)).trans hw103_0),((HB.out.cell (World.block_lt_of_cell? w _ hw103_1)).trans hw103_1),((HB.out.cell (World.block_lt_of_cell? w _ hw103_2)).trans hw103_2),((HB.out.cell (World.block_lt_of_cell? w _ hw103_3)).trans hw103_3),((HB.out.cell (World.block_lt_of_cell? w _ hw103_4)).trans hw103_4),((HB.out.cell (World.block_lt_of_cell? w _ hw103_5)).trans hw103_5)⟩ (fun hHeld => ?_);refine with_tabW Lw17_covers.tab5 Lw17_covers.bits5 (fun HT_ HW_ => ?_)
      generalize w8.drew = w9 at BK101 HB hx103_0 hx103_1 hx103_2 hx103_3 hx103_4 hx103_5 hHeld ⊢
      refine pure_ (i:=0) (N:=some 20) (v:=?_) (a':=?_) #[true,false,false,false,false,false,false,false,false,false] rfl rfl (any_of HT_.out q3_) (fun _ _ _ h => h) (Or.inl ⟨by rfl,?_⟩) ?_ ?_
      rotate_left
      ·intro w'
       go_simp
       with_reducible rfl
      rotate_left
      ·simp only [Act.put,List.setIfInBounds_toArray,List.set_cons_zero,List.set_cons_succ]
       rfl
      refine pure_ (i:=1) (N:=some 21) (v:=?_) (a':=?_) #[true,true,false,false,false,false,false,false,false,false] rfl rfl (any_of HT_.out q3_) (fun _ _ _ h => h) (Or.inl ⟨by rfl,?_⟩) ?_ ?_
      rotate_left
      ·intro w'
       go_simp
       with_reducible rfl
      rotate_left
      ·simp only [Act.put,List.setIfInBounds_toArray,List.set_cons_zero,List.set_cons_succ]
       rfl
      refine pure_ (i:=2) (N:=some 22) (v:=?_) (a':=?_) #[true,true,true,false,false,false,false,false,false,false] rfl rfl (any_of HT_.out q3_) (fun _ _ _ h => h) (Or.inl ⟨by rfl,?_⟩) ?_ ?_
      rotate_left
      ·intro w'
       go_simp
       with_reducible rfl
      rotate_left
      ·simp only [Act.put,List.setIfInBounds_toArray,List.set_cons_zero,List.set_cons_succ]
       rfl
      refine pure_ (i:=3) (N:=some 23) (v:=?_) (a':=?_) #[true,true,true,true,false,false,false,false,false,false] rfl rfl (any_of HT_.out q3_) (fun _ _ _ h => h) (Or.inl ⟨by rfl,?_⟩) ?_ ?_
      rotate_left
      ·intro w'
       go_simp
       with_reducible rfl
      rotate_left
      ·simp only [Act.put,List.setIfInBounds_toArray,List.set_cons_zero,List.set_cons_succ]
       rfl
      refine pure_ (i:=5) (N:=some 25) (v:=?_) (a':=?_) #[true,true,true,true,false,true,false,false,false,false] rfl rfl (any_of HT_.out q3_) (fun _ _ _ h => h) (Or.inl ⟨by rfl,?_⟩) ?_ ?_
      rotate_left
      ·intro w'
       go_simp
       with_reducible rfl
      rotate_left
      ·simp only [Act.put,List.setIfInBounds_toArray,List.set_cons_zero,List.set_cons_succ]
       rfl
      refine take_ (i:=4) (N:=some 24) (v:=?_) (a':=?_) #[true,true,true,true,true,true,false,false,false,false] rfl rfl (take_ofW HT_.out HW_.out q3_) (fun _ _ _ h => h) (Or.inl ⟨by rfl,?_⟩) hHeld ?_ ?_
      rotate_left
      ·rintro w' ⟨s0,s1,s2,s3,s4,s5,s6,s7,s8,s9,s10,s11⟩
       go_simp
       with_reducible rfl
      rotate_left
      ·simp only [Act.put,List.setIfInBounds_toArray,List.set_cons_zero,List.set_cons_succ]
       rfl
      refine take_ (i:=6) (N:=some 26) (v:=?_) (a':=?_) #[true,true,true,true,true,true,true,false,false,false] rfl rfl (take_ofW HT_.out HW_.out q3_) (fun _ _ _ h => h) (Or.inl ⟨by rfl,?_⟩) hHeld ?_ ?_
      rotate_left
      ·rintro w' ⟨s0,s1,s2,s3,s4,s5,s6,s7,s8,s9,s10,s11⟩
       go_simp
       with_reducible rfl
      rotate_left
      ·simp only [Act.put,List.setIfInBounds_toArray,List.set_cons_zero,List.set_cons_succ]
       rfl
      refine one_ (i:=7) (N:=some 27) #[true,true,true,true,true,true,true,true,false,false] rfl rfl (one_of HT_.out q3_) q35_ (fun K hK => ?_)
      refine goes_ Tryz.func36 q3_ rfl #[.agg #[.int .i64 ((rd_T41 l0 x5_1).f1.f0),.int .i64 ((rd_T41 l0 x5_1).f1.f1),.int .i64 ((rd_T41 l0 x5_1).f1.f2),.string ((rd_T41 l0 x5_1).f1.f3),.string ((rd_T41 l0 x5_1).f1.f4)],.agg #[.int .i64 a1_1,.int .i64 a1_2,.int .i64 a1_3,.string a1_4,.string a1_5]] q45_ rfl rfl q1_ ?_
      with_reducible refine (Rf07_Compare.calls k1 ((rd_T41 l0 x5_1).f1.f0) ((rd_T41 l0 x5_1).f1.f1) ((rd_T41 l0 x5_1).f1.f2) ((rd_T41 l0 x5_1).f1.f3) ((rd_T41 l0 x5_1).f1.f4) a1_1 a1_2 a1_3 a1_4 a1_5 t104 _ A7.out).mono ?_
      rintro e w10 ⟨rfl,hb⟩
      refine ⟨_,rfl,?_⟩
      replace BK101:=Aside0.mk (blk_below bk101_ hb)
      replace HB:=Aside0.mk (below_step bh_ hb)
      (try clear hb)
      (try clear hb2)
      (try clear hk)
      (try clear hi)
      refine hK.out _ _ ⟨(blk_cell BK101.out 0).trans rfl,(blk_cell BK101.out 1).trans rfl,(blk_cell BK101.out 2).trans rfl,(blk_cell BK101.out 3).trans rfl,(blk_cell BK101.out 4).trans rfl,(blk_cell BK101.out 5).trans rfl,((HB.out.cell (World.block_lt_of_cell? w _ hw103_0)).trans hw103_0),((HB.out.cell (World.block_lt_of_cell? w _ hw103_1)).trans hw103_1),((HB.out.cell (World.block_lt_of_cell? w _ hw103_2)).trans hw103_2),((HB.out.cell (World.block_lt_of_cell? w _ hw103_3)).trans hw103_3),((HB.out.cell (World.block_lt_of_cell? w _ hw103_4)).trans hw103_4),((HB.out.cell (World.block_lt_of_cell? w _ hw103_5)).trans hw103_5)⟩ (fun hHeld => ?_)
      clear hK K
      refine norm_ (a':=?_) ?_ ?_
      rotate_left
      ·show Act.put _ (some 27) _ = _
       simp only [Act.put,List.setIfInBounds_toArray,List.set_cons_zero,List.set_cons_succ]
       rfl
      refine pure_ (i:=8) (N:=some 28) (v:=?_) (a':=?_) #[true,true,true,true,true,true,true,true,true,false] rfl rfl (any_of HT_.out q3_) (fun _ _ _ h => h) (Or.inl ⟨by rfl,?_⟩) ?_ ?_
      rotate_left
      ·intro w'
       go_simp
       with_reducible rfl
      rotate_left
      ·simp only [Act.put,List.setIfInBounds_toArray,List.set_cons_zero,List.set_cons_succ]
       rfl
      refine pure_ (i:=9) (N:=some 4) (v:=?_) (a':=?_) #[true,true,true,true,true,true,true,true,true,true] rfl rfl (any_of HT_.out q3_) (fun _ _ _ h => h) (Or.inl ⟨by rfl,?_⟩) ?_ ?_
      rotate_left
      ·intro w'
       go_simp
       with_reducible rfl
      rotate_left
      ·simp only [Act.put,List.setIfInBounds_toArray,List.set_cons_zero,List.set_cons_succ]
       rfl
      refine done_ (done_of HT_.out q3_) ?_
      try go_wp2
      go_ret
      exact ⟨by first | rfl | (simp [] <;> rfl) | (simp [*] <;> rfl) | (simp [bne_nil_];done) | (simp [*,bne_nil_];done),by repeat (first | (with_reducible first | exact HB.out | apply below_alloc | apply pw_below_drewN | apply below_drew1 | refine below_set ?_ GE101.out) | exact HB.out)⟩
     ·rw [if_neg c6] at H
      have c6b0 : (((rd_T41 l0 x5_1).f0).toList == a1_0.toList) = false:=beq_eq_false_iff_ne.mpr c6
      have c6b1 : (((rd_T41 l0 x5_1).f0).toList != a1_0.toList) = true:=bne_iff_ne.mpr c6
      have H':=Aside0.mk H
      clear H
      try go_wp2
      replace BK101:=Aside0.mk (blk_drew BK101.out)
      replace HB:=Aside0.mk (below_drew1 HB.out)
      have p102 : 0 ≤ (x5_1 : Int):=of_decide_eq_true q2_
      have q102 : x5_1 < (l0.length : Int):=of_decide_eq_true q2_
      obtain ⟨ad102,e102,hx102_0,hx102_1,hx102_2,hx102_3,hx102_4,hx102_5⟩:=at_T41 HR0.out x5_1 p102 q102
      have hw102_5:=hx102_5
      have hw102_4:=hx102_4
      have hw102_3:=hx102_3
      have hw102_2:=hx102_2
      have hw102_1:=hx102_1
      have hw102_0:=hx102_0
      cases e102
      replace hx102_0:=(HB.out.cell (World.block_lt_of_cell? w _ hx102_0)).trans hx102_0
      replace hx102_1:=(HB.out.cell (World.block_lt_of_cell? w _ hx102_1)).trans hx102_1
      replace hx102_2:=(HB.out.cell (World.block_lt_of_cell? w _ hx102_2)).trans hx102_2
      replace hx102_3:=(HB.out.cell (World.block_lt_of_cell? w _ hx102_3)).trans hx102_3
      replace hx102_4:=(HB.out.cell (World.block_lt_of_cell? w _ hx102_4)).trans hx102_4
      replace hx102_5:=(HB.out.cell (World.block_lt_of_cell? w _ hx102_5)).trans hx102_5
      replace p102:=eq_true p102
      replace q102:=eq_true q102
      refine start_ (n:=8) (S:=fun w' => w'.cell? ⟨gb101,0,none⟩ = some (.string a1_0) ∧ w'.cell? ⟨gb101,1,none⟩ = some (.int .i64 a1_1) ∧ w'.cell? ⟨gb101,2,none⟩ = some (.int .i64 a1_2) ∧ w'.cell? ⟨gb101,3,none⟩ = some (.int .i64 a1_3) ∧ w'.cell? ⟨gb101,4,none⟩ = some (.string a1_4) ∧ w'.cell? ⟨gb101,5,none⟩ = some (.string a1_5) ∧ w'.cell? (ad102.add ((x5_1).toNat * 6)) = some (.string ((rd_T41 l0 x5_1).f0)) ∧ w'.cell? ⟨(ad102.add ((x5_1).toNat * 6)).block,(ad102.add ((x5_1).toNat * 6)).off + 1,none⟩ = some (.int .i64 ((rd_T41 l0 x5_1).f1.f0)) ∧ w'.cell? ⟨(ad102.add ((x5_1).toNat * 6)).block,(ad102.add ((x5_1).toNat * 6)).off + 2,none⟩ = some (.int .i64 ((rd_T41 l0 x5_1).f1.f1)) ∧ w'.cell? ⟨(ad102.add ((x5_1).toNat * 6)).block,(ad102.add ((x5_1).toNat * 6)).off + 3,none⟩ = some (.int .i64 ((rd_T41 l0 x5_1).f1.f2)) ∧ w'.cell? ⟨(ad102.add ((x5_1).toNat * 6)).block,(ad102.add ((x5_1).toNat * 6)).off + 4,none⟩ = some (.string ((rd_T41 l0 x5_1).f1.f3)) ∧ w'.cell? ⟨(ad102.add ((x5_1).toNat * 6)).block,(ad102.add ((x5_1).toNat * 6)).off + 5,none⟩ = some (.string ((rd_T41 l0 x5_1).f1.f4))) (ds:=[]) #[false,false,false,false,false,false,false,false] q3_ rfl rfl ⟨(blk_cell BK101.out 0).trans rfl,(blk_cell BK101.out 1).trans rfl,(blk_cell BK101.out 2).trans rfl,(blk_cell BK101.out 3).trans rfl,(blk_cell BK101.out 4).trans rfl,(blk_cell BK101.out 5).trans rfl,((HB.out.cell (World.block_lt_of_cell? w _ hw102_0)).trans hw102_0),((HB.out.cell (World.block_lt_of_cell? w _ hw102_1)).trans hw102_1),((HB.out.cell (World.block_lt_of_cell? w _ hw102_2)).trans hw102_2),((HB.out.cell (World.block_lt_of_cell? w _ hw102_3)).trans hw102_3),((HB.out.cell (World.block_lt_of_cell? w _ hw102_4)).trans hw102_4),((HB.out.cell (World.block_lt_of_cell? w _ hw102_5)).trans hw102_5)⟩ (fun hHeld => ?_);refine with_tabW Lw17_covers.tab4 Lw17_covers.bits4 (fun HT_ HW_ => ?_)
      generalize wr.drew = w11 at BK101 HB hx102_0 hx102_1 hx102_2 hx102_3 hx102_4 hx102_5 hHeld ⊢
      refine pure_ (i:=0) (N:=some 12) (v:=?_) (a':=?_) #[true,false,false,false,false,false,false,false] rfl rfl (any_of HT_.out q3_) (fun _ _ _ h => h) (Or.inl ⟨by rfl,?_⟩) ?_ ?_
      rotate_left
      ·intro w'
       go_simp
       with_reducible rfl
      rotate_left
      ·simp only [Act.put,List.setIfInBounds_toArray,List.set_cons_zero,List.set_cons_succ]
       rfl
      refine pure_ (i:=1) (N:=some 13) (v:=?_) (a':=?_) #[true,true,false,false,false,false,false,false] rfl rfl (any_of HT_.out q3_) (fun _ _ _ h => h) (Or.inl ⟨by rfl,?_⟩) ?_ ?_
      rotate_left
      ·intro w'
       go_simp
       with_reducible rfl
      rotate_left
      ·simp only [Act.put,List.setIfInBounds_toArray,List.set_cons_zero,List.set_cons_succ]
       rfl
      refine pure_ (i:=2) (N:=some 14) (v:=?_) (a':=?_) #[true,true,true,false,false,false,false,false] rfl rfl (any_of HT_.out q3_) (fun _ _ _ h => h) (Or.inl ⟨by rfl,?_⟩) ?_ ?_
      rotate_left
      ·intro w'
       go_simp
       with_reducible rfl
      rotate_left
      ·simp only [Act.put,List.setIfInBounds_toArray,List.set_cons_zero,List.set_cons_succ]
       rfl
      refine pure_ (i:=3) (N:=some 15) (v:=?_) (a':=?_) #[true,true,true,true,false,false,false,false] rfl rfl (any_of HT_.out q3_) (fun _ _ _ h => h) (Or.inl ⟨by rfl,?_⟩) ?_ ?_
      rotate_left
      ·intro w'
       go_simp
       with_reducible rfl
      rotate_left
      ·simp only [Act.put,List.setIfInBounds_toArray,List.set_cons_zero,List.set_cons_succ]
       rfl
      refine pure_ (i:=5) (N:=some 17) (v:=?_) (a':=?_) #[true,true,true,true,false,true,false,false] rfl rfl (any_of HT_.out q3_) (fun _ _ _ h => h) (Or.inl ⟨by rfl,?_⟩) ?_ ?_
      rotate_left
      ·intro w'
       go_simp
       with_reducible rfl
      rotate_left
      ·simp only [Act.put,List.setIfInBounds_toArray,List.set_cons_zero,List.set_cons_succ]
       rfl
      refine take_ (i:=4) (N:=some 16) (v:=?_) (a':=?_) #[true,true,true,true,true,true,false,false] rfl rfl (take_ofW HT_.out HW_.out q3_) (fun _ _ _ h => h) (Or.inl ⟨by rfl,?_⟩) hHeld ?_ ?_
      rotate_left
      ·rintro w' ⟨s0,s1,s2,s3,s4,s5,s6,s7,s8,s9,s10,s11⟩
       go_simp
       with_reducible rfl
      rotate_left
      ·simp only [Act.put,List.setIfInBounds_toArray,List.set_cons_zero,List.set_cons_succ]
       rfl
      refine take_ (i:=6) (N:=some 18) (v:=?_) (a':=?_) #[true,true,true,true,true,true,true,false] rfl rfl (take_ofW HT_.out HW_.out q3_) (fun _ _ _ h => h) (Or.inl ⟨by rfl,?_⟩) hHeld ?_ ?_
      rotate_left
      ·rintro w' ⟨s0,s1,s2,s3,s4,s5,s6,s7,s8,s9,s10,s11⟩
       go_simp
       with_reducible rfl
      rotate_left
      ·simp only [Act.put,List.setIfInBounds_toArray,List.set_cons_zero,List.set_cons_succ]
       rfl
      refine pure_ (i:=7) (N:=some 19) (v:=?_) (a':=?_) #[true,true,true,true,true,true,true,true] rfl rfl (any_of HT_.out q3_) (fun _ _ _ h => h) (Or.inl ⟨by rfl,?_⟩) ?_ ?_
      rotate_left
      ·intro w'
       go_simp
       with_reducible rfl
      rotate_left
      ·simp only [Act.put,List.setIfInBounds_toArray,List.set_cons_zero,List.set_cons_succ]
       rfl
      refine done_ (done_of HT_.out q3_) ?_
      try go_wp2
      go_roundg k1
      case measure => have:=HK1.out;omega
      case rel => exact ⟨(wrap64 (x5_1 + 1)),q4_,H',⟨by have:=HK1.out;omega⟩,⟨by (with_reducible repeat (first | refine blk_drewN ?_ _ | refine blk_drew ?_ | refine blk_alloc ?_ _));exact BK101.out⟩,⟨by repeat (first | (with_reducible first | exact HB.out | apply below_alloc | apply pw_below_drewN | apply below_drew1 | refine below_set ?_ GE101.out) | exact HB.out)⟩⟩
    ·rw [if_neg c5] at H
     exact absurd H q28_
   ·rw [if_neg c4] at H
    have c4b0 : decide (x5_1 < (l0.length : Int)) = false:=decide_eq_false c4
    clear c4
    obtain rfl:=Option.some.inj H
    go_wp2
    go_ret
    exact ⟨by first | rfl | (simp [] <;> rfl) | (simp [*] <;> rfl) | (simp [bne_nil_];done) | (simp [*,bne_nil_];done),by repeat (first | (with_reducible first | exact HB.out | apply below_alloc | apply pw_below_drewN | apply below_drew1 | refine below_set ?_ GE101.out) | exact HB.out)⟩
def Lw17_same.l0 : Nat → List (S41) → Int → ByteArray → Int → Int → Int → ByteArray → ByteArray → Option (Bool)
 | 0,_,_,_,_,_,_,_,_ => none
 | k + 1,x0,x5,x102000,x102001,x102002,x102003,x102004,x102005 => if x5 < (x0.length : Int) then (if 0 ≤ x5 then (if ((rd_T41 x0 x5).f0).toList = x102000.toList then ((Rf07_Compare.f k ((rd_T41 x0 x5).f1.f0) ((rd_T41 x0 x5).f1.f1) ((rd_T41 x0 x5).f1.f2) ((rd_T41 x0 x5).f1.f3) ((rd_T41 x0 x5).f1.f4) x102001 x102002 x102003 x102004 x102005).bind fun t104 => (some (t104 == 0))) else (Lw17_same.l0 k x0 (wrap64 (x5 + 1)) x102000 x102001 x102002 x102003 x102004 x102005)) else (none)) else (some false)
def Lw17_same.f (k : Nat) (l0 : List (S41)) (a1_0 : ByteArray) (a1_1 : Int) (a1_2 : Int) (a1_3 : Int) (a1_4 : ByteArray) (a1_5 : ByteArray) : Option (Bool):=Lw17_same.l0 k l0 0 a1_0 a1_1 a1_2 a1_3 a1_4 a1_5
def Lw17_same.T4 : Bool × List (List Nat × List Nat):=(true,[([],[]),([],[]),([0,1],[0,1]),([2],[2]),([3],[3]),([],[]),([5],[5]),([4,6],[4,6])])
def Lw17_same.B4 : List Nat:=[0,0,3,7,15,0,32,127]
theorem Lw17_same.tab4 : rtab .any (opsOf Tryz.f37 4) = Lw17_same.T4:=by kernel_rfl
theorem Lw17_same.bits4 : waitsOk Lw17_same.T4.2 Lw17_same.B4 = true:=by kernel_rfl
def Lw17_same.T5 : Bool × List (List Nat × List Nat):=(true,[([],[]),([],[]),([0,1],[0,1]),([2],[2]),([3],[3]),([],[]),([5],[5]),([4,6],[4,6]),([7],[7]),([8,7,0,1,2,3,4,5,6,7,8],[8])])
def Lw17_same.B5 : List Nat:=[0,0,3,7,15,0,32,127,255,511]
theorem Lw17_same.tab5 : rtab .any (opsOf Tryz.f37 5) = Lw17_same.T5:=by kernel_rfl
theorem Lw17_same.bits5 : waitsOk Lw17_same.T5.2 Lw17_same.B5 = true:=by kernel_rfl
set_option maxHeartbeats 8000000 in
set_option maxRecDepth 100000 in
theorem Lw17_same.calls (k : Nat) (A0 : Option Addr) (c0 : Nat) (l0 : List (S41)) (a1_0 : ByteArray) (a1_1 : Int) (a1_2 : Int) (a1_3 : Int) (a1_4 : ByteArray) (a1_5 : ByteArray) (r : Bool) (w : World) (hr0 : Kd.C k41 w A0 l0.length l0) (hc0 : l0.length ≤ c0) (h : Lw17_same.f k l0 a1_0 a1_1 a1_2 a1_3 a1_4 a1_5 = some r) :
  Calls Tryz.prog 37 #[.slice A0 l0.length c0,.agg #[.string a1_0,.int .i64 a1_1,.int .i64 a1_2,.int .i64 a1_3,.string a1_4,.string a1_5]] w fun e w' => e = .returned (.bool r) ∧ Below w.heap.size w w':=by
 have hu41:=Tryz.underlying41
 have hu24:=Tryz.underlying24
 have HR0:=Aside0.mk hr0
 have HC0:=Aside0.mk hc0
 clear hr0 hc0
 have HB:=Aside0.mk (Below.refl w.heap.size w)
 have H : (Lw17_same.l0 k l0 0 a1_0 a1_1 a1_2 a1_3 a1_4 a1_5) = some r:=h
 clear h
 have H':=Aside0.mk H
 clear H
 go_enter Tryz.func37,Tryz.ntmps37
 go_wp2_with (first | ((with_reducible refine gate_dst (N:=3) rfl ?_);refine box_event ?hg (N:=3) ?hd (cs:=#[.string a1_0,.int .i64 a1_1,.int .i64 a1_2,.int .i64 a1_3,.string a1_4,.string a1_5]) (t:=41) ?hr ?_;(case hd => rfl);(case hg => rfl);(case hr => first | (go_simp;done) | (go_simp;rfl));intro gb101 hg w3 hbox hb;have BK101:=Aside0.mk (hbox);have GW101:=Aside0.mk ((q19_ : w.heap.size ≤ gb101));have GE101:=Aside0.mk ((q19_ : w.heap.size ≤ gb101));replace HB:=Aside0.mk (below_step bh_ hb);clear hb hbox hg))
 go_loopg [5] k (fun kq v5 w' => ∃ (x5_1 : Int),v5 = .int .i64 x5_1 ∧ Aside0 (Lw17_same.l0 kq l0 x5_1 a1_0 a1_1 a1_2 a1_3 a1_4 a1_5 = some r) ∧ Aside0 (kq ≤ k) ∧ Aside0 (w'.heap[gb101]? = some (.cells #[.string a1_0,.int .i64 a1_1,.int .i64 a1_2,.int .i64 a1_3,.string a1_4,.string a1_5] 41 (0,0))) ∧ Aside0 (Below w.heap.size w w'))
 case atStart => exact ⟨(0),q4_,H',⟨Nat.le_refl _⟩,⟨by (with_reducible repeat (first | refine blk_drewN ?_ _ | refine blk_drew ?_ | refine blk_alloc ?_ _));exact BK101.out⟩,⟨by repeat (first | (with_reducible first | exact HB.out | apply below_alloc | apply pw_below_drewN | apply below_drew1 | refine below_set ?_ GE101.out) | exact HB.out)⟩⟩
 case round =>
  clear H'
  try clear p2
  try clear c3
  obtain ⟨x5_1,rfl,HA,HK1,BK101,HB⟩:=hrel
  cases gk with
  | zero => exact absurd HA.out (by simp [Lw17_same.l0])
  | succ k1 =>
   have H:=HA.out
   clear HA
   simp only [Lw17_same.l0] at H
   by_cases c4 : x5_1 < (l0.length : Int)
   ·rw [if_pos c4] at H
    have c4b0 : decide (x5_1 < (l0.length : Int)) = true:=decide_eq_true c4
    clear c4
    by_cases c5 : 0 ≤ x5_1
    ·rw [if_pos c5] at H
     have c5b0 : decide (0 ≤ x5_1) = true:=decide_eq_true c5
     clear c5
     by_cases c6 : ((rd_T41 l0 x5_1).f0).toList = a1_0.toList
     ·rw [if_pos c6] at H
      have c6b0 : (((rd_T41 l0 x5_1).f0).toList == a1_0.toList) = true:=beq_iff_eq.mpr c6
      have c6b1 : (((rd_T41 l0 x5_1).f0).toList != a1_0.toList) = false:=bne_eq_false_iff_eq.mpr c6
      clear c6
      obtain ⟨t104,A70,H⟩:=Option.bind_eq_some_iff.mp H
      have A7:=Aside0.mk A70
      clear A70
      obtain rfl:=Option.some.inj H
      try go_wp2
      replace BK101:=Aside0.mk (blk_drew BK101.out)
      replace HB:=Aside0.mk (below_drew1 HB.out)
      have p102 : 0 ≤ (x5_1 : Int):=of_decide_eq_true q2_
      have q102 : x5_1 < (l0.length : Int):=of_decide_eq_true q2_
      obtain ⟨ad102,e102,hx102_0,hx102_1,hx102_2,hx102_3,hx102_4,hx102_5⟩:=at_T41 HR0.out x5_1 p102 q102
      have hw102_5:=hx102_5
      have hw102_4:=hx102_4
      have hw102_3:=hx102_3
      have hw102_2:=hx102_2
      have hw102_1:=hx102_1
      have hw102_0:=hx102_0
      cases e102
      replace hx102_0:=(HB.out.cell (World.block_lt_of_cell? w _ hx102_0)).trans hx102_0
      replace hx102_1:=(HB.out.cell (World.block_lt_of_cell? w _ hx102_1)).trans hx102_1
      replace hx102_2:=(HB.out.cell (World.block_lt_of_cell? w _ hx102_2)).trans hx102_2
      replace hx102_3:=(HB.out.cell (World.block_lt_of_cell? w _ hx102_3)).trans hx102_3
      replace hx102_4:=(HB.out.cell (World.block_lt_of_cell? w _ hx102_4)).trans hx102_4
      replace hx102_5:=(HB.out.cell (World.block_lt_of_cell? w _ hx102_5)).trans hx102_5
      replace p102:=eq_true p102
      replace q102:=eq_true q102
      refine start_ (n:=8) (S:=fun w' => w'.cell? ⟨gb101,0,none⟩ = some (.string a1_0) ∧ w'.cell? ⟨gb101,1,none⟩ = some (.int .i64 a1_1) ∧ w'.cell? ⟨gb101,2,none⟩ = some (.int .i64 a1_2) ∧ w'.cell? ⟨gb101,3,none⟩ = some (.int .i64 a1_3) ∧ w'.cell? ⟨gb101,4,none⟩ = some (.string a1_4) ∧ w'.cell? ⟨gb101,5,none⟩ = some (.string a1_5) ∧ w'.cell? (ad102.add ((x5_1).toNat * 6)) = some (.string ((rd_T41 l0 x5_1).f0)) ∧ w'.cell? ⟨(ad102.add ((x5_1).toNat * 6)).block,(ad102.add ((x5_1).toNat * 6)).off + 1,none⟩ = some (.int .i64 ((rd_T41 l0 x5_1).f1.f0)) ∧ w'.cell? ⟨(ad102.add ((x5_1).toNat * 6)).block,(ad102.add ((x5_1).toNat * 6)).off + 2,none⟩ = some (.int .i64 ((rd_T41 l0 x5_1).f1.f1)) ∧ w'.cell? ⟨(ad102.add ((x5_1).toNat * 6)).block,(ad102.add ((x5_1).toNat * 6)).off + 3,none⟩ = some (.int .i64 ((rd_T41 l0 x5_1).f1.f2)) ∧ w'.cell? ⟨(ad102.add ((x5_1).toNat * 6)).block,(ad102.add ((x5_1).toNat * 6)).off + 4,none⟩ = some (.string ((rd_T41 l0 x5_1).f1.f3)) ∧ w'.cell? ⟨(ad102.add ((x5_1).toNat * 6)).block,(ad102.add ((x5_1).toNat * 6)).off + 5,none⟩ = some (.string ((rd_T41 l0 x5_1).f1.f4))) (ds:=[]) #[false,false,false,false,false,false,false,false] q3_ rfl rfl ⟨(blk_cell BK101.out 0).trans rfl,(blk_cell BK101.out 1).trans rfl,(blk_cell BK101.out 2).trans rfl,(blk_cell BK101.out 3).trans rfl,(blk_cell BK101.out 4).trans rfl,(blk_cell BK101.out 5).trans rfl,((HB.out.cell (World.block_lt_of_cell? w _ hw102_0)).trans hw102_0),((HB.out.cell (World.block_lt_of_cell? w _ hw102_1)).trans hw102_1),((HB.out.cell (World.block_lt_of_cell? w _ hw102_2)).trans hw102_2),((HB.out.cell (World.block_lt_of_cell? w _ hw102_3)).trans hw102_3),((HB.out.cell (World.block_lt_of_cell? w _ hw102_4)).trans hw102_4),((HB.out.cell (World.block_lt_of_cell? w _ hw102_5)).trans hw102_5)⟩ (fun hHeld => ?_);refine with_tabW Lw17_same.tab4 Lw17_same.bits4 (fun HT_ HW_ => ?_)
      generalize wr.drew = w8 at BK101 HB hx102_0 hx102_1 hx102_2 hx102_3 hx102_4 hx102_5 hHeld ⊢
      refine pure_ (i:=0) (N:=some 12) (v:=?_) (a':=?_) #[true,false,false,false,false,false,false,false] rfl rfl (any_of HT_.out q3_) (fun _ _ _ h => h) (Or.inl ⟨by rfl,?_⟩) ?_ ?_
      rotate_left
      ·intro w'
       go_simp
       with_reducible rfl
      rotate_left
      ·simp only [Act.put,List.setIfInBounds_toArray,List.set_cons_zero,List.set_cons_succ]
       rfl
      refine pure_ (i:=1) (N:=some 13) (v:=?_) (a':=?_) #[true,true,false,false,false,false,false,false] rfl rfl (any_of HT_.out q3_) (fun _ _ _ h => h) (Or.inl ⟨by rfl,?_⟩) ?_ ?_
      rotate_left
      ·intro w'
       go_simp
       with_reducible rfl
      rotate_left
      ·simp only [Act.put,List.setIfInBounds_toArray,List.set_cons_zero,List.set_cons_succ]
       rfl
      refine pure_ (i:=2) (N:=some 14) (v:=?_) (a':=?_) #[true,true,true,false,false,false,false,false] rfl rfl (any_of HT_.out q3_) (fun _ _ _ h => h) (Or.inl ⟨by rfl,?_⟩) ?_ ?_
      rotate_left
      ·intro w'
       go_simp
       with_reducible rfl
      rotate_left
      ·simp only [Act.put,List.setIfInBounds_toArray,List.set_cons_zero,List.set_cons_succ]
       rfl
      refine pure_ (i:=3) (N:=some 15) (v:=?_) (a':=?_) #[true,true,true,true,false,false,false,false] rfl rfl (any_of HT_.out q3_) (fun _ _ _ h => h) (Or.inl ⟨by rfl,?_⟩) ?_ ?_
      rotate_left
      ·intro w'
       go_simp
       with_reducible rfl
      rotate_left
      ·simp only [Act.put,List.setIfInBounds_toArray,List.set_cons_zero,List.set_cons_succ]
       rfl
      refine pure_ (i:=5) (N:=some 17) (v:=?_) (a':=?_) #[true,true,true,true,false,true,false,false] rfl rfl (any_of HT_.out q3_) (fun _ _ _ h => h) (Or.inl ⟨by rfl,?_⟩) ?_ ?_
      rotate_left
      ·intro w'
       go_simp
       with_reducible rfl
      rotate_left
      ·simp only [Act.put,List.setIfInBounds_toArray,List.set_cons_zero,List.set_cons_succ]
       rfl
      refine take_ (i:=4) (N:=some 16) (v:=?_) (a':=?_) #[true,true,true,true,true,true,false,false] rfl rfl (take_ofW HT_.out HW_.out q3_) (fun _ _ _ h => h) (Or.inl ⟨by rfl,?_⟩) hHeld ?_ ?_
      rotate_left
      ·rintro w' ⟨s0,s1,s2,s3,s4,s5,s6,s7,s8,s9,s10,s11⟩
       go_simp
       with_reducible rfl
      rotate_left
      ·simp only [Act.put,List.setIfInBounds_toArray,List.set_cons_zero,List.set_cons_succ]
       rfl
      refine take_ (i:=6) (N:=some 18) (v:=?_) (a':=?_) #[true,true,true,true,true,true,true,false] rfl rfl (take_ofW HT_.out HW_.out q3_) (fun _ _ _ h => h) (Or.inl ⟨by rfl,?_⟩) hHeld ?_ ?_
      rotate_left
      ·rintro w' ⟨s0,s1,s2,s3,s4,s5,s6,s7,s8,s9,s10,s11⟩
       go_simp
       with_reducible rfl
      rotate_left
      ·simp only [Act.put,List.setIfInBounds_toArray,List.set_cons_zero,List.set_cons_succ]
       rfl
      refine pure_ (i:=7) (N:=some 19) (v:=?_) (a':=?_) #[true,true,true,true,true,true,true,true] rfl rfl (any_of HT_.out q3_) (fun _ _ _ h => h) (Or.inl ⟨by rfl,?_⟩) ?_ ?_
      rotate_left
      ·intro w'
       go_simp
       with_reducible rfl
      rotate_left
      ·simp only [Act.put,List.setIfInBounds_toArray,List.set_cons_zero,List.set_cons_succ]
       rfl
      refine done_ (done_of HT_.out q3_) ?_
      try go_wp2
      replace BK101:=Aside0.mk (blk_drew BK101.out)
      replace HB:=Aside0.mk (below_drew1 HB.out)
      have p103 : 0 ≤ (x5_1 : Int):=of_decide_eq_true q2_
      have q103 : x5_1 < (l0.length : Int):=of_decide_eq_true q2_
      obtain ⟨ad103,e103,hx103_0,hx103_1,hx103_2,hx103_3,hx103_4,hx103_5⟩:=at_T41 HR0.out x5_1 p103 q103
      have hw103_5:=hx103_5
      have hw103_4:=hx103_4
      have hw103_3:=hx103_3
      have hw103_2:=hx103_2
      have hw103_1:=hx103_1
      have hw103_0:=hx103_0
      obtain rfl : ad102 = ad103:=(by injection e103)
      replace hx103_0:=(HB.out.cell (World.block_lt_of_cell? w _ hx103_0)).trans hx103_0
      replace hx103_1:=(HB.out.cell (World.block_lt_of_cell? w _ hx103_1)).trans hx103_1
      replace hx103_2:=(HB.out.cell (World.block_lt_of_cell? w _ hx103_2)).trans hx103_2
      replace hx103_3:=(HB.out.cell (World.block_lt_of_cell? w _ hx103_3)).trans hx103_3
      replace hx103_4:=(HB.out.cell (World.block_lt_of_cell? w _ hx103_4)).trans hx103_4
      replace hx103_5:=(HB.out.cell (World.block_lt_of_cell? w _ hx103_5)).trans hx103_5
      replace p103:=eq_true p103
      replace q103:=eq_true q103
      refine start_ (n:=10) (S:=fun w' => w'.cell? ⟨gb101,0,none⟩ = some (.string a1_0) ∧ w'.cell? ⟨gb101,1,none⟩ = some (.int .i64 a1_1) ∧ w'.cell? ⟨gb101,2,none⟩ = some (.int .i64 a1_2) ∧ w'.cell? ⟨gb101,3,none⟩ = some (.int .i64 a1_3) ∧ w'.cell? ⟨gb101,4,none⟩ = some (.string a1_4) ∧ w'.cell? ⟨gb101,5,none⟩ = some (.string a1_5) ∧ w'.cell? (ad102.add ((x5_1).toNat * 6)) = some (.string ((rd_T41 l0 x5_1).f0)) ∧ w'.cell? ⟨(ad102.add ((x5_1).toNat * 6)).block,(ad102.add ((x5_1).toNat * 6)).off + 1,none⟩ = some (.int .i64 ((rd_T41 l0 x5_1).f1.f0)) ∧ w'.cell? ⟨(ad102.add ((x5_1).toNat * 6)).block,(ad102.add ((x5_1).toNat * 6)).off + 2,none⟩ = some (.int .i64 ((rd_T41 l0 x5_1).f1.f1)) ∧ w'.cell? ⟨(ad102.add ((x5_1).toNat * 6)).block,(ad102.add ((x5_1).toNat * 6)).off + 3,none⟩ = some (.int .i64 ((rd_T41 l0 x5_1).f1.f2)) ∧ w'.cell? ⟨(ad102.add ((x5_1).toNat * 6)).block,(ad102.add ((x5_1).toNat * 6)).off + 4,none⟩ = some (.string ((rd_T41 l0 x5_1).f1.f3)) ∧ w'.cell? ⟨(ad102.add ((x5_1).toNat * 6)).block,(ad102.add ((x5_1).toNat * 6)).off + 5,none⟩ = some (.string ((rd_T41 l0 x5_1).f1.f4))) (ds:=[]) #[false,false,false,false,false,false,false,false,false,false] q3_ rfl rfl ⟨(blk_cell BK101.out 0).trans rfl,(blk_cell BK101.out 1).trans rfl,(blk_cell BK101.out 2).trans rfl,(blk_cell BK101.out 3).trans rfl,(blk_cell BK101.out 4).trans rfl,(blk_cell BK101.out 5).trans rfl,((HB.out.cell (World.block_lt_of_cell? w _ hw103_0)).trans hw103_0),((HB.out.cell (World.block_lt_of_cell? w _ hw103_1)).trans hw103_1),((HB.out.cell (World.block_lt_of_cell? w _ hw103_2)).trans hw103_2),((HB.out.cell (World.block_lt_of_cell? w _ hw103_3)).trans hw103_3),((HB.out.cell (World.block_lt_of_cell? w _ hw103_4)).trans hw103_4),((HB.out.cell (World.block_lt_of_cell? w _ hw103_5)).trans hw103_5)⟩ (fun hHeld => ?_);refine with_tabW Lw17_same.tab5 Lw17_same.bits5 (fun HT_ HW_ => ?_)
      generalize w8.drew = w9 at BK101 HB hx103_0 hx103_1 hx103_2 hx103_3 hx103_4 hx103_5 hHeld ⊢
      refine pure_ (i:=0) (N:=some 20) (v:=?_) (a':=?_) #[true,false,false,false,false,false,false,false,false,false] rfl rfl (any_of HT_.out q3_) (fun _ _ _ h => h) (Or.inl ⟨by rfl,?_⟩) ?_ ?_
      rotate_left
      ·intro w'
       go_simp
       with_reducible rfl
      rotate_left
      ·simp only [Act.put,List.setIfInBounds_toArray,List.set_cons_zero,List.set_cons_succ]
       rfl
      refine pure_ (i:=1) (N:=some 21) (v:=?_) (a':=?_) #[true,true,false,false,false,false,false,false,false,false] rfl rfl (any_of HT_.out q3_) (fun _ _ _ h => h) (Or.inl ⟨by rfl,?_⟩) ?_ ?_
      rotate_left
      ·intro w'
       go_simp
       with_reducible rfl
      rotate_left
      ·simp only [Act.put,List.setIfInBounds_toArray,List.set_cons_zero,List.set_cons_succ]
       rfl
      refine pure_ (i:=2) (N:=some 22) (v:=?_) (a':=?_) #[true,true,true,false,false,false,false,false,false,false] rfl rfl (any_of HT_.out q3_) (fun _ _ _ h => h) (Or.inl ⟨by rfl,?_⟩) ?_ ?_
      rotate_left
      ·intro w'
       go_simp
       with_reducible rfl
      rotate_left
      ·simp only [Act.put,List.setIfInBounds_toArray,List.set_cons_zero,List.set_cons_succ]
       rfl
      refine pure_ (i:=3) (N:=some 23) (v:=?_) (a':=?_) #[true,true,true,true,false,false,false,false,false,false] rfl rfl (any_of HT_.out q3_) (fun _ _ _ h => h) (Or.inl ⟨by rfl,?_⟩) ?_ ?_
      rotate_left
      ·intro w'
       go_simp
       with_reducible rfl
      rotate_left
      ·simp only [Act.put,List.setIfInBounds_toArray,List.set_cons_zero,List.set_cons_succ]
       rfl
      refine pure_ (i:=5) (N:=some 25) (v:=?_) (a':=?_) #[true,true,true,true,false,true,false,false,false,false] rfl rfl (any_of HT_.out q3_) (fun _ _ _ h => h) (Or.inl ⟨by rfl,?_⟩) ?_ ?_
      rotate_left
      ·intro w'
       go_simp
       with_reducible rfl
      rotate_left
      ·simp only [Act.put,List.setIfInBounds_toArray,List.set_cons_zero,List.set_cons_succ]
       rfl
      refine take_ (i:=4) (N:=some 24) (v:=?_) (a':=?_) #[true,true,true,true,true,true,false,false,false,false] rfl rfl (take_ofW HT_.out HW_.out q3_) (fun _ _ _ h => h) (Or.inl ⟨by rfl,?_⟩) hHeld ?_ ?_
      rotate_left
      ·rintro w' ⟨s0,s1,s2,s3,s4,s5,s6,s7,s8,s9,s10,s11⟩
       go_simp
       with_reducible rfl
      rotate_left
      ·simp only [Act.put,List.setIfInBounds_toArray,List.set_cons_zero,List.set_cons_succ]
       rfl
      refine take_ (i:=6) (N:=some 26) (v:=?_) (a':=?_) #[true,true,true,true,true,true,true,false,false,false] rfl rfl (take_ofW HT_.out HW_.out q3_) (fun _ _ _ h => h) (Or.inl ⟨by rfl,?_⟩) hHeld ?_ ?_
      rotate_left
      ·rintro w' ⟨s0,s1,s2,s3,s4,s5,s6,s7,s8,s9,s10,s11⟩
       go_simp
       with_reducible rfl
      rotate_left
      ·simp only [Act.put,List.setIfInBounds_toArray,List.set_cons_zero,List.set_cons_succ]
       rfl
      refine one_ (i:=7) (N:=some 27) #[true,true,true,true,true,true,true,true,false,false] rfl rfl (one_of HT_.out q3_) q35_ (fun K hK => ?_)
      refine goes_ Tryz.func36 q3_ rfl #[.agg #[.int .i64 ((rd_T41 l0 x5_1).f1.f0),.int .i64 ((rd_T41 l0 x5_1).f1.f1),.int .i64 ((rd_T41 l0 x5_1).f1.f2),.string ((rd_T41 l0 x5_1).f1.f3),.string ((rd_T41 l0 x5_1).f1.f4)],.agg #[.int .i64 a1_1,.int .i64 a1_2,.int .i64 a1_3,.string a1_4,.string a1_5]] q45_ rfl rfl q1_ ?_
      with_reducible refine (Rf07_Compare.calls k1 ((rd_T41 l0 x5_1).f1.f0) ((rd_T41 l0 x5_1).f1.f1) ((rd_T41 l0 x5_1).f1.f2) ((rd_T41 l0 x5_1).f1.f3) ((rd_T41 l0 x5_1).f1.f4) a1_1 a1_2 a1_3 a1_4 a1_5 t104 _ A7.out).mono ?_
      rintro e w10 ⟨rfl,hb⟩
      refine ⟨_,rfl,?_⟩
      replace BK101:=Aside0.mk (blk_below bk101_ hb)
      replace HB:=Aside0.mk (below_step bh_ hb)
      (try clear hb)
      (try clear hb2)
      (try clear hk)
      (try clear hi)
      refine hK.out _ _ ⟨(blk_cell BK101.out 0).trans rfl,(blk_cell BK101.out 1).trans rfl,(blk_cell BK101.out 2).trans rfl,(blk_cell BK101.out 3).trans rfl,(blk_cell BK101.out 4).trans rfl,(blk_cell BK101.out 5).trans rfl,((HB.out.cell (World.block_lt_of_cell? w _ hw103_0)).trans hw103_0),((HB.out.cell (World.block_lt_of_cell? w _ hw103_1)).trans hw103_1),((HB.out.cell (World.block_lt_of_cell? w _ hw103_2)).trans hw103_2),((HB.out.cell (World.block_lt_of_cell? w _ hw103_3)).trans hw103_3),((HB.out.cell (World.block_lt_of_cell? w _ hw103_4)).trans hw103_4),((HB.out.cell (World.block_lt_of_cell? w _ hw103_5)).trans hw103_5)⟩ (fun hHeld => ?_)
      clear hK K
      refine norm_ (a':=?_) ?_ ?_
      rotate_left
      ·show Act.put _ (some 27) _ = _
       simp only [Act.put,List.setIfInBounds_toArray,List.set_cons_zero,List.set_cons_succ]
       rfl
      refine pure_ (i:=8) (N:=some 28) (v:=?_) (a':=?_) #[true,true,true,true,true,true,true,true,true,false] rfl rfl (any_of HT_.out q3_) (fun _ _ _ h => h) (Or.inl ⟨by rfl,?_⟩) ?_ ?_
      rotate_left
      ·intro w'
       go_simp
       with_reducible rfl
      rotate_left
      ·simp only [Act.put,List.setIfInBounds_toArray,List.set_cons_zero,List.set_cons_succ]
       rfl
      refine pure_ (i:=9) (N:=some 4) (v:=?_) (a':=?_) #[true,true,true,true,true,true,true,true,true,true] rfl rfl (any_of HT_.out q3_) (fun _ _ _ h => h) (Or.inl ⟨by rfl,?_⟩) ?_ ?_
      rotate_left
      ·intro w'
       go_simp
       with_reducible rfl
      rotate_left
      ·simp only [Act.put,List.setIfInBounds_toArray,List.set_cons_zero,List.set_cons_succ]
       rfl
      refine done_ (done_of HT_.out q3_) ?_
      try go_wp2
      go_ret
      exact ⟨by first | rfl | (simp [] <;> rfl) | (simp [*] <;> rfl) | (simp [bne_nil_];done) | (simp [*,bne_nil_];done),by repeat (first | (with_reducible first | exact HB.out | apply below_alloc | apply pw_below_drewN | apply below_drew1 | refine below_set ?_ GE101.out) | exact HB.out)⟩
     ·rw [if_neg c6] at H
      have c6b0 : (((rd_T41 l0 x5_1).f0).toList == a1_0.toList) = false:=beq_eq_false_iff_ne.mpr c6
      have c6b1 : (((rd_T41 l0 x5_1).f0).toList != a1_0.toList) = true:=bne_iff_ne.mpr c6
      have H':=Aside0.mk H
      clear H
      try go_wp2
      replace BK101:=Aside0.mk (blk_drew BK101.out)
      replace HB:=Aside0.mk (below_drew1 HB.out)
      have p102 : 0 ≤ (x5_1 : Int):=of_decide_eq_true q2_
      have q102 : x5_1 < (l0.length : Int):=of_decide_eq_true q2_
      obtain ⟨ad102,e102,hx102_0,hx102_1,hx102_2,hx102_3,hx102_4,hx102_5⟩:=at_T41 HR0.out x5_1 p102 q102
      have hw102_5:=hx102_5
      have hw102_4:=hx102_4
      have hw102_3:=hx102_3
      have hw102_2:=hx102_2
      have hw102_1:=hx102_1
      have hw102_0:=hx102_0
      cases e102
      replace hx102_0:=(HB.out.cell (World.block_lt_of_cell? w _ hx102_0)).trans hx102_0
      replace hx102_1:=(HB.out.cell (World.block_lt_of_cell? w _ hx102_1)).trans hx102_1
      replace hx102_2:=(HB.out.cell (World.block_lt_of_cell? w _ hx102_2)).trans hx102_2
      replace hx102_3:=(HB.out.cell (World.block_lt_of_cell? w _ hx102_3)).trans hx102_3
      replace hx102_4:=(HB.out.cell (World.block_lt_of_cell? w _ hx102_4)).trans hx102_4
      replace hx102_5:=(HB.out.cell (World.block_lt_of_cell? w _ hx102_5)).trans hx102_5
      replace p102:=eq_true p102
      replace q102:=eq_true q102
      refine start_ (n:=8) (S:=fun w' => w'.cell? ⟨gb101,0,none⟩ = some (.string a1_0) ∧ w'.cell? ⟨gb101,1,none⟩ = some (.int .i64 a1_1) ∧ w'.cell? ⟨gb101,2,none⟩ = some (.int .i64 a1_2) ∧ w'.cell? ⟨gb101,3,none⟩ = some (.int .i64 a1_3) ∧ w'.cell? ⟨gb101,4,none⟩ = some (.string a1_4) ∧ w'.cell? ⟨gb101,5,none⟩ = some (.string a1_5) ∧ w'.cell? (ad102.add ((x5_1).toNat * 6)) = some (.string ((rd_T41 l0 x5_1).f0)) ∧ w'.cell? ⟨(ad102.add ((x5_1).toNat * 6)).block,(ad102.add ((x5_1).toNat * 6)).off + 1,none⟩ = some (.int .i64 ((rd_T41 l0 x5_1).f1.f0)) ∧ w'.cell? ⟨(ad102.add ((x5_1).toNat * 6)).block,(ad102.add ((x5_1).toNat * 6)).off + 2,none⟩ = some (.int .i64 ((rd_T41 l0 x5_1).f1.f1)) ∧ w'.cell? ⟨(ad102.add ((x5_1).toNat * 6)).block,(ad102.add ((x5_1).toNat * 6)).off + 3,none⟩ = some (.int .i64 ((rd_T41 l0 x5_1).f1.f2)) ∧ w'.cell? ⟨(ad102.add ((x5_1).toNat * 6)).block,(ad102.add ((x5_1).toNat * 6)).off + 4,none⟩ = some (.string ((rd_T41 l0 x5_1).f1.f3)) ∧ w'.cell? ⟨(ad102.add ((x5_1).toNat * 6)).block,(ad102.add ((x5_1).toNat * 6)).off + 5,none⟩ = some (.string ((rd_T41 l0 x5_1).f1.f4))) (ds:=[]) #[false,false,false,false,false,false,false,false] q3_ rfl rfl ⟨(blk_cell BK101.out 0).trans rfl,(blk_cell BK101.out 1).trans rfl,(blk_cell BK101.out 2).trans rfl,(blk_cell BK101.out 3).trans rfl,(blk_cell BK101.out 4).trans rfl,(blk_cell BK101.out 5).trans rfl,((HB.out.cell (World.block_lt_of_cell? w _ hw102_0)).trans hw102_0),((HB.out.cell (World.block_lt_of_cell? w _ hw102_1)).trans hw102_1),((HB.out.cell (World.block_lt_of_cell? w _ hw102_2)).trans hw102_2),((HB.out.cell (World.block_lt_of_cell? w _ hw102_3)).trans hw102_3),((HB.out.cell (World.block_lt_of_cell? w _ hw102_4)).trans hw102_4),((HB.out.cell (World.block_lt_of_cell? w _ hw102_5)).trans hw102_5)⟩ (fun hHeld => ?_);refine with_tabW Lw17_same.tab4 Lw17_same.bits4 (fun HT_ HW_ => ?_)
      generalize wr.drew = w11 at BK101 HB hx102_0 hx102_1 hx102_2 hx102_3 hx102_4 hx102_5 hHeld ⊢
      refine pure_ (i:=0) (N:=some 12) (v:=?_) (a':=?_) #[true,false,false,false,false,false,false,false] rfl rfl (any_of HT_.out q3_) (fun _ _ _ h => h) (Or.inl ⟨by rfl,?_⟩) ?_ ?_
      rotate_left
      ·intro w'
       go_simp
       with_reducible rfl
      rotate_left
      ·simp only [Act.put,List.setIfInBounds_toArray,List.set_cons_zero,List.set_cons_succ]
       rfl
      refine pure_ (i:=1) (N:=some 13) (v:=?_) (a':=?_) #[true,true,false,false,false,false,false,false] rfl rfl (any_of HT_.out q3_) (fun _ _ _ h => h) (Or.inl ⟨by rfl,?_⟩) ?_ ?_
      rotate_left
      ·intro w'
       go_simp
       with_reducible rfl
      rotate_left
      ·simp only [Act.put,List.setIfInBounds_toArray,List.set_cons_zero,List.set_cons_succ]
       rfl
      refine pure_ (i:=2) (N:=some 14) (v:=?_) (a':=?_) #[true,true,true,false,false,false,false,false] rfl rfl (any_of HT_.out q3_) (fun _ _ _ h => h) (Or.inl ⟨by rfl,?_⟩) ?_ ?_
      rotate_left
      ·intro w'
       go_simp
       with_reducible rfl
      rotate_left
      ·simp only [Act.put,List.setIfInBounds_toArray,List.set_cons_zero,List.set_cons_succ]
       rfl
      refine pure_ (i:=3) (N:=some 15) (v:=?_) (a':=?_) #[true,true,true,true,false,false,false,false] rfl rfl (any_of HT_.out q3_) (fun _ _ _ h => h) (Or.inl ⟨by rfl,?_⟩) ?_ ?_
      rotate_left
      ·intro w'
       go_simp
       with_reducible rfl
      rotate_left
      ·simp only [Act.put,List.setIfInBounds_toArray,List.set_cons_zero,List.set_cons_succ]
       rfl
      refine pure_ (i:=5) (N:=some 17) (v:=?_) (a':=?_) #[true,true,true,true,false,true,false,false] rfl rfl (any_of HT_.out q3_) (fun _ _ _ h => h) (Or.inl ⟨by rfl,?_⟩) ?_ ?_
      rotate_left
      ·intro w'
       go_simp
       with_reducible rfl
      rotate_left
      ·simp only [Act.put,List.setIfInBounds_toArray,List.set_cons_zero,List.set_cons_succ]
       rfl
      refine take_ (i:=4) (N:=some 16) (v:=?_) (a':=?_) #[true,true,true,true,true,true,false,false] rfl rfl (take_ofW HT_.out HW_.out q3_) (fun _ _ _ h => h) (Or.inl ⟨by rfl,?_⟩) hHeld ?_ ?_
      rotate_left
      ·rintro w' ⟨s0,s1,s2,s3,s4,s5,s6,s7,s8,s9,s10,s11⟩
       go_simp
       with_reducible rfl
      rotate_left
      ·simp only [Act.put,List.setIfInBounds_toArray,List.set_cons_zero,List.set_cons_succ]
       rfl
      refine take_ (i:=6) (N:=some 18) (v:=?_) (a':=?_) #[true,true,true,true,true,true,true,false] rfl rfl (take_ofW HT_.out HW_.out q3_) (fun _ _ _ h => h) (Or.inl ⟨by rfl,?_⟩) hHeld ?_ ?_
      rotate_left
      ·rintro w' ⟨s0,s1,s2,s3,s4,s5,s6,s7,s8,s9,s10,s11⟩
       go_simp
       with_reducible rfl
      rotate_left
      ·simp only [Act.put,List.setIfInBounds_toArray,List.set_cons_zero,List.set_cons_succ]
       rfl
      refine pure_ (i:=7) (N:=some 19) (v:=?_) (a':=?_) #[true,true,true,true,true,true,true,true] rfl rfl (any_of HT_.out q3_) (fun _ _ _ h => h) (Or.inl ⟨by rfl,?_⟩) ?_ ?_
      rotate_left
      ·intro w'
       go_simp
       with_reducible rfl
      rotate_left
      ·simp only [Act.put,List.setIfInBounds_toArray,List.set_cons_zero,List.set_cons_succ]
       rfl
      refine done_ (done_of HT_.out q3_) ?_
      try go_wp2
      go_roundg k1
      case measure => have:=HK1.out;omega
      case rel => exact ⟨(wrap64 (x5_1 + 1)),q4_,H',⟨by have:=HK1.out;omega⟩,⟨by (with_reducible repeat (first | refine blk_drewN ?_ _ | refine blk_drew ?_ | refine blk_alloc ?_ _));exact BK101.out⟩,⟨by repeat (first | (with_reducible first | exact HB.out | apply below_alloc | apply pw_below_drewN | apply below_drew1 | refine below_set ?_ GE101.out) | exact HB.out)⟩⟩
    ·rw [if_neg c5] at H
     exact absurd H q28_
   ·rw [if_neg c4] at H
    have c4b0 : decide (x5_1 < (l0.length : Int)) = false:=decide_eq_false c4
    clear c4
    obtain rfl:=Option.some.inj H
    go_wp2
    go_ret
    exact ⟨by first | rfl | (simp [] <;> rfl) | (simp [*] <;> rfl) | (simp [bne_nil_];done) | (simp [*,bne_nil_];done),by repeat (first | (with_reducible first | exact HB.out | apply below_alloc | apply pw_below_drewN | apply below_drew1 | refine below_set ?_ GE101.out) | exact HB.out)⟩
end Go.Proofs.YtennhpoemdaghaaGreatDoor.P
end
section
namespace Go.Proofs.YtennhpoemdaghaaGreatDoor.P
open Go.RowKit Go.Proofs.YtennhpoemdaghaaGreatDoorW.PrintWords Go.Proofs.YtennhpoemdaghaaGreatDoorW.PrintLast Go.Proofs.YtennhpoemdaghaaGreatDoorW.PrintMore
attribute [local go_sem high] eqA41
def Rf17_Same.l0 : Nat → List (S41) → List (S41) → Int → Option (Bool)
 | 0,_,_,_ => none
 | k + 1,x0,x1,x5 => if x5 < (x0.length : Int) then (if 0 ≤ x5 then (if x5 < (x1.length : Int) then (if (!((((rd_T41 x0 x5).f0).toList) == (((rd_T41 x1 x5).f0).toList)) || ((!(((rd_T41 x0 x5).f1.f0) == ((rd_T41 x1 x5).f1.f0)) || (!(((rd_T41 x0 x5).f1.f1) == ((rd_T41 x1 x5).f1.f1)) || (!(((rd_T41 x0 x5).f1.f2) == ((rd_T41 x1 x5).f1.f2)) || (!((((rd_T41 x0 x5).f1.f3).toList) == (((rd_T41 x1 x5).f1.f3).toList)) || (!((((rd_T41 x0 x5).f1.f4).toList) == (((rd_T41 x1 x5).f1.f4).toList))))))))) = true then (some false) else (Rf17_Same.l0 k x0 x1 (wrap64 (x5 + 1)))) else (none)) else (none)) else (some true)
def Rf17_Same.f (k : Nat) (l0 : List (S41)) (l1 : List (S41)) : Option (Bool):=if (l0.length : Int) = (l1.length : Int) then (Rf17_Same.l0 k l0 l1 0) else (some false)
theorem Rf17_Same.mono_l : ∀ k,(∀ y0 y1 y2,LeO (Rf17_Same.l0 k y0 y1 y2) (Rf17_Same.l0 (k + 1) y0 y1 y2))
 | 0 => fun _ _ _ r h => by simp [Rf17_Same.l0] at h
 | k + 1 => by
  have ih0:=Rf17_Same.mono_l k
  ·intro y0 y1 y2
   unfold Rf17_Same.l0
   repeat' first
   | (with_reducible exact ih0 _ _ _)
   | (with_reducible exact LeO.refl _)
   | (with_reducible exact LeO.none _)
   | (with_reducible refine LeO.ite ?_ ?_)
   | (with_reducible refine LeO.bind ?_ (fun _ => ?_))
   | exact ih0 _ _ _
   | exact LeO.none _
   | refine LeO.ite ?_ ?_
   | refine LeO.bind ?_ (fun _ => ?_)
theorem Rf17_Same.mono : ∀ a0 a1 k,LeO (Rf17_Same.f k a0 a1) (Rf17_Same.f (k + 1) a0 a1):=by
 intro a0 a1 k
 have ih0:=Rf17_Same.mono_l k
 unfold Rf17_Same.f
 repeat' first
   | (with_reducible exact ih0 _ _ _)
   | (with_reducible exact LeO.refl _)
   | (with_reducible exact LeO.none _)
   | (with_reducible refine LeO.ite ?_ ?_)
   | (with_reducible refine LeO.bind ?_ (fun _ => ?_))
   | exact ih0 _ _ _
   | exact LeO.none _
   | refine LeO.ite ?_ ?_
   | refine LeO.bind ?_ (fun _ => ?_)
set_option maxHeartbeats 8000000 in
set_option maxRecDepth 100000 in
theorem Rf17_Same.calls (k : Nat) (A0 : Option Addr) (c0 : Nat) (l0 : List (S41)) (A1 : Option Addr) (c1 : Nat) (l1 : List (S41)) (r : Bool) (w : World) (hr0 : Kd.C k41 w A0 l0.length l0) (hc0 : l0.length ≤ c0) (hr1 : Kd.C k41 w A1 l1.length l1) (hc1 : l1.length ≤ c1) (h : Rf17_Same.f k l0 l1 = some r) :
  Calls Tryz.prog 24 #[.slice A0 l0.length c0,.slice A1 l1.length c1] w fun e w' => e = .returned (.bool r) ∧ Drawn0 w w':=by
 have hu41:=Tryz.underlying41
 have HR0:=Aside0.mk hr0
 have HC0:=Aside0.mk hc0
 clear hr0 hc0
 have HR1:=Aside0.mk hr1
 have HC1:=Aside0.mk hc1
 clear hr1 hc1
 have H : (if (l0.length : Int) = (l1.length : Int) then (Rf17_Same.l0 k l0 l1 0) else (some false)) = some r:=h
 clear h
 by_cases c3 : (l0.length : Int) = (l1.length : Int)
 ·rw [if_pos c3] at H
  have c3b0 : ((l0.length : Int) == (l1.length : Int)) = true:=beq_iff_eq.mpr c3
  have c3b1 : ((l0.length : Int) != (l1.length : Int)) = false:=bne_eq_false_iff_eq.mpr c3
  have c3b2 : (l0.length == l1.length) = true:=by first | simpa using c3 | (simp at c3 ⊢;omega)
  clear c3
  have H':=Aside0.mk H
  clear H
  go_enter Tryz.func24,Tryz.ntmps24
  go_wp2
  repeat (go_quiet (fail);try go_wp2)
  go_loopg [5] k (fun kq v5 w' => ∃ (x5_1 : Int),v5 = .int .i64 x5_1 ∧ Aside0 (Rf17_Same.l0 kq l0 l1 x5_1 = some r) ∧ Aside0 (kq ≤ k) ∧ Drawn0 w w')
  case atStart => exact ⟨(0),q4_,H',⟨Nat.le_refl _⟩,by repeat (first | exact Drawn0.refl _ | apply Drawn0.step)⟩
  case round =>
   clear H'
   try clear c1
   try clear c2
   try clear p2
   try clear c3
   try clear c3b0
   try clear c3b1
   try clear c3b2
   obtain ⟨x5_1,rfl,HA,HK1,⟨m1,rfl⟩⟩:=hrel
   cases gk with
   | zero => exact absurd HA.out (by simp [Rf17_Same.l0])
   | succ k1 =>
    have H:=HA.out
    clear HA
    simp only [Rf17_Same.l0] at H
    by_cases c4 : x5_1 < (l0.length : Int)
    ·rw [if_pos c4] at H
     have c4b0 : decide (x5_1 < (l0.length : Int)) = true:=decide_eq_true c4
     clear c4
     by_cases c5 : 0 ≤ x5_1
     ·rw [if_pos c5] at H
      have c5b0 : decide (0 ≤ x5_1) = true:=decide_eq_true c5
      clear c5
      by_cases c6 : x5_1 < (l1.length : Int)
      ·rw [if_pos c6] at H
       have c6b0 : decide (x5_1 < (l1.length : Int)) = true:=decide_eq_true c6
       clear c6
       by_cases c7 : (!((((rd_T41 l0 x5_1).f0).toList) == (((rd_T41 l1 x5_1).f0).toList)) || ((!(((rd_T41 l0 x5_1).f1.f0) == ((rd_T41 l1 x5_1).f1.f0)) || (!(((rd_T41 l0 x5_1).f1.f1) == ((rd_T41 l1 x5_1).f1.f1)) || (!(((rd_T41 l0 x5_1).f1.f2) == ((rd_T41 l1 x5_1).f1.f2)) || (!((((rd_T41 l0 x5_1).f1.f3).toList) == (((rd_T41 l1 x5_1).f1.f3).toList)) || (!((((rd_T41 l0 x5_1).f1.f4).toList) == (((rd_T41 l1 x5_1).f1.f4).toList))))))))) = true
       ·rw [if_pos c7] at H
        have c7b0 : (!((((rd_T41 l0 x5_1).f0).toList) == (((rd_T41 l1 x5_1).f0).toList)) || ((!(((rd_T41 l0 x5_1).f1.f0) == ((rd_T41 l1 x5_1).f1.f0)) || (!(((rd_T41 l0 x5_1).f1.f1) == ((rd_T41 l1 x5_1).f1.f1)) || (!(((rd_T41 l0 x5_1).f1.f2) == ((rd_T41 l1 x5_1).f1.f2)) || (!((((rd_T41 l0 x5_1).f1.f3).toList) == (((rd_T41 l1 x5_1).f1.f3).toList)) || (!((((rd_T41 l0 x5_1).f1.f4).toList) == (((rd_T41 l1 x5_1).f1.f4).toList))))))))) = true:=c7
        clear c7
        obtain rfl:=Option.some.inj H
        have p101 : 0 ≤ (x5_1 : Int):=of_decide_eq_true q2_
        have q101 : x5_1 < (l0.length : Int):=of_decide_eq_true q2_
        obtain ⟨ad101,e101,hx101_0,hx101_1,hx101_2,hx101_3,hx101_4,hx101_5⟩:=at_T41 HR0.out x5_1 p101 q101
        cases e101
        replace p101:=eq_true p101
        replace q101:=eq_true q101
        have p102 : 0 ≤ (x5_1 : Int):=of_decide_eq_true q2_
        have q102 : x5_1 < (l1.length : Int):=of_decide_eq_true q2_
        obtain ⟨ad102,e102,hx102_0,hx102_1,hx102_2,hx102_3,hx102_4,hx102_5⟩:=at_T41 HR1.out x5_1 p102 q102
        cases e102
        replace p102:=eq_true p102
        replace q102:=eq_true q102
        go_wp2
        repeat (go_quiet (fail);try go_wp2)
        go_ret
        exact ⟨by first | rfl | (simp;done) | (simp [*];done) | (simp [bne_nil_];done),by repeat (first | exact Drawn0.refl _ | apply Drawn0.step)⟩
       ·rw [if_neg c7] at H
        have c7b0 : (!((((rd_T41 l0 x5_1).f0).toList) == (((rd_T41 l1 x5_1).f0).toList)) || ((!(((rd_T41 l0 x5_1).f1.f0) == ((rd_T41 l1 x5_1).f1.f0)) || (!(((rd_T41 l0 x5_1).f1.f1) == ((rd_T41 l1 x5_1).f1.f1)) || (!(((rd_T41 l0 x5_1).f1.f2) == ((rd_T41 l1 x5_1).f1.f2)) || (!((((rd_T41 l0 x5_1).f1.f3).toList) == (((rd_T41 l1 x5_1).f1.f3).toList)) || (!((((rd_T41 l0 x5_1).f1.f4).toList) == (((rd_T41 l1 x5_1).f1.f4).toList))))))))) = false:=by simpa using c7
        clear c7
        have H':=Aside0.mk H
        clear H
        have p101 : 0 ≤ (x5_1 : Int):=of_decide_eq_true q2_
        have q101 : x5_1 < (l0.length : Int):=of_decide_eq_true q2_
        obtain ⟨ad101,e101,hx101_0,hx101_1,hx101_2,hx101_3,hx101_4,hx101_5⟩:=at_T41 HR0.out x5_1 p101 q101
        cases e101
        replace p101:=eq_true p101
        replace q101:=eq_true q101
        have p102 : 0 ≤ (x5_1 : Int):=of_decide_eq_true q2_
        have q102 : x5_1 < (l1.length : Int):=of_decide_eq_true q2_
        obtain ⟨ad102,e102,hx102_0,hx102_1,hx102_2,hx102_3,hx102_4,hx102_5⟩:=at_T41 HR1.out x5_1 p102 q102
        cases e102
        replace p102:=eq_true p102
        replace q102:=eq_true q102
        go_wp2
        repeat (go_quiet (fail);try go_wp2)
        go_roundg k1
        case measure => have:=HK1.out;omega
        case rel => exact ⟨(wrap64 (x5_1 + 1)),q4_,H',⟨by have:=HK1.out;omega⟩,by repeat (first | exact Drawn0.refl _ | apply Drawn0.step)⟩
      ·rw [if_neg c6] at H
       exact absurd H q28_
     ·rw [if_neg c5] at H
      exact absurd H q28_
    ·rw [if_neg c4] at H
     have c4b0 : decide (x5_1 < (l0.length : Int)) = false:=decide_eq_false c4
     clear c4
     obtain rfl:=Option.some.inj H
     go_wp2
     repeat (go_quiet (fail);try go_wp2)
     go_ret
     exact ⟨by first | rfl | (simp;done) | (simp [*];done) | (simp [bne_nil_];done),by repeat (first | exact Drawn0.refl _ | apply Drawn0.step)⟩
 ·rw [if_neg c3] at H
  have c3b0 : ((l0.length : Int) == (l1.length : Int)) = false:=beq_eq_false_iff_ne.mpr c3
  have c3b1 : ((l0.length : Int) != (l1.length : Int)) = true:=bne_iff_ne.mpr c3
  have c3b2 : (l0.length == l1.length) = false:=by first | simpa using c3 | (simp at c3 ⊢;omega)
  obtain rfl:=Option.some.inj H
  go_enter Tryz.func24,Tryz.ntmps24
  go_wp2
  repeat (go_quiet (fail);try go_wp2)
  go_ret
  exact ⟨by first | rfl | (simp;done) | (simp [*];done) | (simp [bne_nil_];done),by repeat (first | exact Drawn0.refl _ | apply Drawn0.step)⟩
end Go.Proofs.YtennhpoemdaghaaGreatDoor.P
end
section
namespace Go.Proofs.YtennhpoemdaghaaGreatDoor.P
open Go Go.RowKit Go.Proofs.YtennhpoemdaghaaGreatDoorW.PrintWords
theorem wrap_at (i n : Nat) (h : i < n) (hn : n ≤ 9223372036854775807) : wrap64 ((i : Int) + 1) = ((i + 1 : Nat) : Int):=by unfold wrap64;omega
theorem loop_all {β : Type} (F : Nat → Int → Option β) (n K : Nat) (res : Option β) (hn : n ≤ 9223372036854775807) (step : ∀ (k i : Nat),i < n → K ≤ k → F (k + 1) (i : Int) = F k (wrap64 ((i : Int) + 1))) (fin : ∀ k,K ≤ k → F (k + 1) (n : Int) = res) :
  ∀ (k : Nat),K + n < k → F k 0 = res:=by
 have h : ∀ (d i k : Nat),i ≤ n → n - i = d → K + d < k → F k (i : Int) = res:=by
  intro d
  induction d with
  | zero =>
   intro i k hi hd hk
   obtain ⟨k,rfl⟩ : ∃ m,k = m + 1:=⟨k - 1,by omega⟩
   have e : i = n:=by omega
   rw [e]
   exact fin k q7_
  | succ d ih =>
   intro i k hi hd hk
   obtain ⟨k,rfl⟩ : ∃ m,k = m + 1:=⟨k - 1,by omega⟩
   rw [step k i q7_ q7_,wrap_at i n q7_ hn]
   exact ih (i + 1) k q7_ q7_ q7_
 intro k hk
 exact h n 0 k (Nat.zero_le _) rfl hk
def ownN (n : RNode) : Node:=⟨n.f0,n.f1⟩
theorem own_f (l : List RNode) (hl : l.length ≤ 1000000) (k : Nat) (hk : l.length < k) : Lw17_own.f k l = some (l.map ownN):=by
 have h : ∀ (d i k : Nat),i ≤ l.length → l.length - i = d → d < k → Lw17_own.l0 k l ((l.take i).map ownN) (i : Int) = some (l.map ownN):=by
  intro d
  induction d with
  | zero =>
   intro i k hi hd hk
   obtain ⟨k,rfl⟩ : ∃ m,k = m + 1:=⟨k - 1,by omega⟩
   rw [Lw17_own.l0,if_neg q7_,List.take_of_length_le q7_]
  | succ d ih =>
   intro i k hi hd hk
   obtain ⟨k,rfl⟩ : ∃ m,k = m + 1:=⟨k - 1,by omega⟩
   have h : i < l.length:=by omega
   have hr : rd_T68 l (i : Int) = l[i]:=by simp [rd_T68,h]
   have hw:=wrap_at i l.length h q7_
   have e : (l.take (i + 1)).map ownN = (l.take i).map ownN ++ [ownN l[i]]:=by rw [List.take_succ_eq_append_getElem h,List.map_append];rfl
   rw [Lw17_own.l0,if_pos q7_,if_pos q7_,if_pos (by rw [List.length_map,List.length_take];omega),hr,hw]
   have:=ih (i + 1) k q7_ q7_ q7_
   rw [e] at this
   exact this
 exact h l.length 0 k (Nat.zero_le _) rfl hk
def coversB (l : List Req) (r : Req) : Bool:=match l.find? (sameP r.f0) with | none => false | some y => decide (cmpB y r ≥ 0)
def sameB (l : List Req) (r : Req) : Bool:=match l.find? (sameP r.f0) with | none => false | some y => cmpB y r == 0
theorem sameP_dec (p : ByteArray) (y : Req) : sameP p y = decide (y.f0.data.toList = p.data.toList):=by unfold sameP;rw [Bool.eq_iff_iff,beq_iff_eq,decide_eq_true_iff]
theorem covers_f (l : List Req) (r : Req) (hl : l.length ≤ 1000000) (k : Nat) (hk : 1400 + l.length < k) : Lw17_covers.f k l r.f0 r.f1.f0 r.f1.f1 r.f1.f2 r.f1.f3 r.f1.f4 = some (coversB l r):=by
 have h : ∀ (d i k : Nat),i ≤ l.length → l.length - i = d → 1400 + d < k → Lw17_covers.l0 k l (i : Int) r.f0 r.f1.f0 r.f1.f1 r.f1.f2 r.f1.f3 r.f1.f4 = some (coversB (l.drop i) r):=by
  intro d
  induction d with
  | zero =>
   intro i k hi hd hk
   obtain ⟨k,rfl⟩ : ∃ m,k = m + 1:=⟨k - 1,by omega⟩
   rw [Lw17_covers.l0,if_neg q7_,List.drop_eq_nil_of_le q7_]
   rfl
  | succ d ih =>
   intro i k hi hd hk
   obtain ⟨k,rfl⟩ : ∃ m,k = m + 1:=⟨k - 1,by omega⟩
   have h : i < l.length:=by omega
   have hw:=wrap_at i l.length h q7_
   rw [Lw17_covers.l0,if_pos q7_,if_pos q7_,rd_at l i h,hw,toList_eq,toList_eq,List.drop_eq_getElem_cons h]
   unfold coversB
   rw [List.find?_cons,sameP_dec]
   by_cases hs : l[i].f0.data.toList = r.f0.data.toList
   ·rw [if_pos hs,refCmp_eq l[i] r k q7_,decide_eq_true hs]
    rfl
   ·rw [if_neg hs,decide_eq_false hs,ih (i + 1) k q7_ q7_ q7_]
    rfl
 have:=h l.length 0 k (Nat.zero_le _) rfl hk
 rw [List.drop_zero] at this
 exact this
theorem same_f (l : List Req) (r : Req) (hl : l.length ≤ 1000000) (k : Nat) (hk : 1400 + l.length < k) : Lw17_same.f k l r.f0 r.f1.f0 r.f1.f1 r.f1.f2 r.f1.f3 r.f1.f4 = some (sameB l r):=by
 have h : ∀ (d i k : Nat),i ≤ l.length → l.length - i = d → 1400 + d < k → Lw17_same.l0 k l (i : Int) r.f0 r.f1.f0 r.f1.f1 r.f1.f2 r.f1.f3 r.f1.f4 = some (sameB (l.drop i) r):=by
  intro d
  induction d with
  | zero =>
   intro i k hi hd hk
   obtain ⟨k,rfl⟩ : ∃ m,k = m + 1:=⟨k - 1,by omega⟩
   rw [Lw17_same.l0,if_neg q7_,List.drop_eq_nil_of_le q7_]
   rfl
  | succ d ih =>
   intro i k hi hd hk
   obtain ⟨k,rfl⟩ : ∃ m,k = m + 1:=⟨k - 1,by omega⟩
   have h : i < l.length:=by omega
   have hw:=wrap_at i l.length h q7_
   rw [Lw17_same.l0,if_pos q7_,if_pos q7_,rd_at l i h,hw,toList_eq,toList_eq,List.drop_eq_getElem_cons h]
   unfold sameB
   rw [List.find?_cons,sameP_dec]
   by_cases hs : l[i].f0.data.toList = r.f0.data.toList
   ·rw [if_pos hs,refCmp_eq l[i] r k q7_,decide_eq_true hs]
    rfl
   ·rw [if_neg hs,decide_eq_false hs,ih (i + 1) k q7_ q7_ q7_]
    rfl
 have:=h l.length 0 k (Nat.zero_le _) rfl hk
 rw [List.drop_zero] at this
 exact this
theorem strict_paths {l : List Req} (hp : l.Pairwise (fun x y => x.f0.data.toList < y.f0.data.toList)) : l.Pairwise (fun x y => x.f0 ≠ y.f0):=by
 refine hp.imp ?_
 intro a b h e
 rw [e] at h
 exact List.lt_irrefl _ h
theorem covers_iff {l : List Req} {r : Req} (hp : l.Pairwise (fun x y => x.f0.data.toList < y.f0.data.toList)) : coversB l r = true ↔ ∃ y ∈ l,y.f0 = r.f0 ∧ cmpB y r ≥ 0:=by
 have hd:=strict_paths hp
 unfold coversB
 cases hf : l.find? (sameP r.f0) with
 | none =>
  simp only [Bool.false_eq_true,false_iff]
  rintro ⟨y,hy,he,_⟩
  exact List.find?_eq_none.1 hf y hy (sameP_iff.2 he)
 | some y =>
  have hy:=List.mem_of_find?_eq_some hf
  have he:=sameP_iff.1 (List.find?_some hf)
  simp only [decide_eq_true_eq]
  constructor
  ·exact fun h => ⟨y,hy,he,h⟩
  ·rintro ⟨z,hz,hze,h⟩
   rw [path_inj hd hy hz (he.trans hze.symm)]
   exact h
theorem same_iff {l : List Req} {r : Req} (hp : l.Pairwise (fun x y => x.f0.data.toList < y.f0.data.toList)) : sameB l r = true ↔ ∃ y ∈ l,y.f0 = r.f0 ∧ cmpB y r = 0:=by
 have hd:=strict_paths hp
 unfold sameB
 cases hf : l.find? (sameP r.f0) with
 | none =>
  simp only [Bool.false_eq_true,false_iff]
  rintro ⟨y,hy,he,_⟩
  exact List.find?_eq_none.1 hf y hy (sameP_iff.2 he)
 | some y =>
  have hy:=List.mem_of_find?_eq_some hf
  have he:=sameP_iff.1 (List.find?_some hf)
  simp only [beq_iff_eq]
  constructor
  ·exact fun h => ⟨y,hy,he,h⟩
  ·rintro ⟨z,hz,hze,h⟩
   rw [path_inj hd hy hz (he.trans hze.symm)]
   exact h
def fewN (l : List RNode) : Prop:=l.length ≤ 20 ∧ ∀ n ∈ l,n.f1.length ≤ 12
theorem small_few {root : List Req} {l : List RNode} (h : smallB root l = true) : fewN l:=by
 unfold smallB at h
 simp only [Bool.and_eq_true,List.all_eq_true] at h
 refine ⟨of_decide_eq_true h.2.2,fun n hn => ?_⟩
 have:=(h.1 n hn).1
 unfold fewB at this
 simp only [Bool.and_eq_true] at this
 exact of_decide_eq_true this.2
theorem sum_le : ∀ (l : List Nat) (m : Nat),(∀ a ∈ l,a ≤ m) → l.sum ≤ l.length * m
 | [],m,_ => by simp
 | a :: l,m,h => by
  have h1:=sum_le l m (fun b hb => h b (by simp [hb]))
  have h2:=h a q28_
  rw [List.sum_cons,List.length_cons,Nat.add_mul]
  omega
theorem univ_le {l : List RNode} (h : fewN l) (root : List Req) : (univ root (l.map ownN)).length ≤ root.length + 240:=by
 unfold univ
 rw [List.length_append,List.length_flatMap,List.map_map]
 have h1 : ∀ a ∈ l.map ((fun n : Node => n.f1.length) ∘ ownN),a ≤ 12:=fun a ha => by
  obtain ⟨n,hn,rfl⟩:=List.mem_map.1 ha
  exact h.2 n hn
 have h2:=sum_le _ 12 h1
 rw [List.length_map] at h2
 have h3:=h.1
 omega
theorem reach_len {l : List RNode} (h : fewN l) {root : List Req} (hr : root.length ≤ 1000) : (reachL root (l.map ownN)).length ≤ root.length + 240:=by
 have h1:=univ_le h root
 have:=(reachL_inv root (l.map ownN) q7_).len
 omega
theorem list_len {l : List RNode} (h : fewN l) {root : List Req} (hr : root.length ≤ 1000) : (listL root (l.map ownN)).length ≤ root.length + 240:=by
 have:=listOf_len (reachL root (l.map ownN))
 have:=reach_len h hr
 unfold listL
 omega
theorem Reach.sub {root root' : List Req} {nodes : List Node} (h : ∀ x ∈ root,x ∈ root') {r : Req} (hr : Reach root nodes r) : Reach root' nodes r:=by
 induction hr with
 | root h1 h2 => exact .root (h _ h1) h2
 | step _ h1 h2 ih => exact .step ih h1 h2
end Go.Proofs.YtennhpoemdaghaaGreatDoor.P
end
section
namespace Go.Proofs.YtennhpoemdaghaaGreatDoor.P
open Go.RowKit Go.Proofs.YtennhpoemdaghaaGreatDoorW.PrintWords Go.Proofs.YtennhpoemdaghaaGreatDoorW.PrintLast Go.Proofs.YtennhpoemdaghaaGreatDoorW.PrintMore
def Lw17_req.f (a0 : ByteArray) (a1 : Int) : Option (ByteArray × Int × Int × Int × ByteArray × ByteArray):=some (a0,1,a1,0,(⟨#[]⟩ : ByteArray),(⟨#[]⟩ : ByteArray))
set_option maxHeartbeats 8000000 in
set_option maxRecDepth 100000 in
theorem Lw17_req.calls (a0 : ByteArray) (a1 : Int) (r1 : ByteArray) (r2 : Int) (r3 : Int) (r4 : Int) (r5 : ByteArray) (r6 : ByteArray) (w : World) (h : Lw17_req.f a0 a1 = some (r1,r2,r3,r4,r5,r6)) :
  Calls Tryz.prog 46 #[.string a0,.int .i64 a1] w fun e w' => e = .returned (.agg #[.string r1,.int .i64 r2,.int .i64 r3,.int .i64 r4,.string r5,.string r6]) ∧ Below w.heap.size w w':=by
 have hu41:=Tryz.underlying41
 have hu24:=Tryz.underlying24
 have HB:=Aside0.mk (Below.refl w.heap.size w)
 have H : (some (a0,1,a1,0,(⟨#[]⟩ : ByteArray),(⟨#[]⟩ : ByteArray))) = some (r1,r2,r3,r4,r5,r6):=h
 clear h
 simp only [Option.some.injEq,Prod.mk.injEq] at H
 obtain ⟨rfl,rfl,rfl,rfl,rfl,rfl⟩:=H
 go_enter Tryz.func46,Tryz.ntmps46
 go_wp2_with (first | ((with_reducible refine gate_dst (N:=4) rfl ?_);refine box_event ?hg (N:=4) ?hd (cs:=#[.string (⟨#[]⟩ : ByteArray),.int .i64 0,.int .i64 0,.int .i64 0,.string (⟨#[]⟩ : ByteArray),.string (⟨#[]⟩ : ByteArray)]) (t:=41) ?hr ?_;(case hd => rfl);(case hg => rfl);(case hr => first | (go_simp;done) | (go_simp;rfl));intro gb101 hg w3 hbox hb;have BK101:=Aside0.mk (hbox);have GW101:=Aside0.mk ((q19_ : w.heap.size ≤ gb101));have GE101:=Aside0.mk ((q19_ : w.heap.size ≤ gb101));replace HB:=Aside0.mk (below_step bh_ hb);clear hb hbox hg;have hcz4_0 : w3.cell? ⟨gb101,0,none⟩ = some (.string (⟨#[]⟩ : ByteArray)):=(blk_cell BK101.out 0).trans rfl;have hcz4_1 : w3.cell? ⟨gb101,1,none⟩ = some (.int .i64 0):=(blk_cell BK101.out 1).trans rfl;have hcz4_2 : w3.cell? ⟨gb101,2,none⟩ = some (.int .i64 0):=(blk_cell BK101.out 2).trans rfl;have hcz4_3 : w3.cell? ⟨gb101,3,none⟩ = some (.int .i64 0):=(blk_cell BK101.out 3).trans rfl;have hcz4_4 : w3.cell? ⟨gb101,4,none⟩ = some (.string (⟨#[]⟩ : ByteArray)):=(blk_cell BK101.out 4).trans rfl;have hcz4_5 : w3.cell? ⟨gb101,5,none⟩ = some (.string (⟨#[]⟩ : ByteArray)):=(blk_cell BK101.out 5).trans rfl;have hfz4_0:=blk_frozen BK101.out 0;have hfz4_1:=blk_frozen BK101.out 1;have hfz4_2:=blk_frozen BK101.out 2;have hfz4_3:=blk_frozen BK101.out 3;have hfz4_4:=blk_frozen BK101.out 4;have hfz4_5:=blk_frozen BK101.out 5))
 refine bodyPost_ret (results_cell_row rfl _ _ gb101 41 #[.string a0,.int .i64 1,.int .i64 a1,.int .i64 0,.string (⟨#[]⟩ : ByteArray),.string (⟨#[]⟩ : ByteArray)] (0,0) _ rfl (by (with_reducible repeat (first | refine blk_drewN ?_ _ | refine blk_drew ?_ | refine blk_alloc ?_ _));refine blk_put (cs:=#[.string a0,.int .i64 1,.int .i64 a1,.int .i64 0,.string (⟨#[]⟩ : ByteArray),.string (⟨#[]⟩ : ByteArray)]) ?_ 5 _ rfl;(with_reducible repeat (first | refine blk_drewN ?_ _ | refine blk_drew ?_ | refine blk_alloc ?_ _));refine blk_put (cs:=#[.string a0,.int .i64 1,.int .i64 a1,.int .i64 0,.string (⟨#[]⟩ : ByteArray),.string (⟨#[]⟩ : ByteArray)]) ?_ 4 _ rfl;(with_reducible repeat (first | refine blk_drewN ?_ _ | refine blk_drew ?_ | refine blk_alloc ?_ _));refine blk_put (cs:=#[.string a0,.int .i64 1,.int .i64 a1,.int .i64 0,.string (⟨#[]⟩ : ByteArray),.string (⟨#[]⟩ : ByteArray)]) ?_ 3 _ rfl;(with_reducible repeat (first | refine blk_drewN ?_ _ | refine blk_drew ?_ | refine blk_alloc ?_ _));refine blk_put (cs:=#[.string a0,.int .i64 1,.int .i64 0,.int .i64 0,.string (⟨#[]⟩ : ByteArray),.string (⟨#[]⟩ : ByteArray)]) ?_ 2 _ rfl;(with_reducible repeat (first | refine blk_drewN ?_ _ | refine blk_drew ?_ | refine blk_alloc ?_ _));refine blk_put (cs:=#[.string a0,.int .i64 0,.int .i64 0,.int .i64 0,.string (⟨#[]⟩ : ByteArray),.string (⟨#[]⟩ : ByteArray)]) ?_ 1 _ rfl;(with_reducible repeat (first | refine blk_drewN ?_ _ | refine blk_drew ?_ | refine blk_alloc ?_ _));refine blk_put (cs:=#[.string (⟨#[]⟩ : ByteArray),.int .i64 0,.int .i64 0,.int .i64 0,.string (⟨#[]⟩ : ByteArray),.string (⟨#[]⟩ : ByteArray)]) ?_ 0 _ rfl;(with_reducible repeat (first | refine blk_drewN ?_ _ | refine blk_drew ?_ | refine blk_alloc ?_ _));exact BK101.out) Tryz.underlying41 rfl q3_) rfl ?_
 exact ⟨by first | rfl | (simp [] <;> rfl) | (simp [*] <;> rfl) | (simp [bne_nil_];done) | (simp [*,bne_nil_];done),by repeat (first | (with_reducible first | exact HB.out | apply below_alloc | apply pw_below_drewN | apply below_drew1 | refine below_set ?_ GE101.out) | exact HB.out)⟩
end Go.Proofs.YtennhpoemdaghaaGreatDoor.P
end
section
namespace Go.Proofs.YtennhpoemdaghaaGreatDoor.P
open Go Go.RowKit Go.Proofs.YtennhpoemdaghaaGreatDoorW.PrintWords Go.Proofs.YtennhpoemdaghaaGreatDoorW.PrintLast Go.Proofs.YtennhpoemdaghaaGreatDoorW.PrintMore
def slices_Clone_apiReq.f (l0 : List S41) : Option (List S41):=if l0.length ≤ 1000000 then some l0 else none
set_option maxRecDepth 100000 in
set_option maxHeartbeats 4000000 in
theorem slices_Clone_apiReq.calls (A0 : Option Addr) (c0 : Nat) (l0 : List S41) (r : List S41) (w : World) (hr0 : Kd.C k41 w A0 l0.length l0) (hc0 : l0.length ≤ c0) (h : slices_Clone_apiReq.f l0 = some r) :
  Calls Tryz.prog 58 #[.slice A0 l0.length c0] w fun e w' => ∃ v0_ : Value,e = .returned (v0_) ∧ Kd.R k41 41 w' w.heap.size (fun _ => True) v0_ r ∧ Below w.heap.size w w':=by
 unfold slices_Clone_apiReq.f at h
 split at h
 case isFalse => exact absurd h q28_
 case isTrue hsz =>
 obtain rfl:=Option.some.inj h
 have q : ∀ (w : World) (a : Option Addr) (n c n' c' : Nat),(binOp .eql 38 (.slice a n c) (.slice none n' c')).run Tryz.prog w = .ok (.bool a.isNone) w:=fun w a n c n' c' => Lib.run_eql_slice_nil w _ _ a n c n' c' Tryz.underlying38
 cases A0 with
 | none =>
  have h0 : l0 = []:=by
   rcases Nat.eq_zero_or_pos l0.length with h | h
   ·exact List.eq_nil_of_length_eq_zero h
   ·obtain ⟨_,e1,_⟩:=at_T41 hr0 0 q7_ q7_
    exact absurd e1 q28_
  subst h0
  go_enter Tryz.func58,Tryz.ntmps58
  go_wp2
  go_ret
  exact ⟨_,rfl,Kd.R_nil _ _ _ _ _,Below.refl _ _⟩
 | some ad =>
  go_enter Tryz.func58,Tryz.ntmps58
  go_wp2_with (first | ((with_reducible refine gate_dst (N:=5) rfl ?_);refine Kd.R_lit k41 _ 41 ?hg (N:=5) ?hd (xs:=([] : List S41)) (inner:=[]) (ok:=fun _ => True) (okp:=fun _ => True) ?hr ?hp (fun _ hk => hk) trivial (Below.refl _ _) (Nat.le_refl _) q28_ ?_;(case hd => rfl);(case hg => rfl);(case hr => first | (go_simp;done) | (go_simp;rfl));(case hp => exact (Reps.none _ _));intro v5 w5 ho5 hb5 hg5_ hnew_;clear hg5_ hnew_;have HO:=Aside0.mk ho5;have HB:=Aside0.mk hb5;clear ho5 hb5) | ((with_reducible refine gate_builtin (b:=.append) (xs:=#[.tmp 5,.tmp 6]) rfl ?_);at_builtin;refine Kd.R_append_rows k41 (w0:=w) w.heap.size rfl (.tmp 5) (.tmp 6) 38 41 (.agg #[.string (⟨#[]⟩ : ByteArray),.int .i64 0,.int .i64 0,.int .i64 0,.string (⟨#[]⟩ : ByteArray),.string (⟨#[]⟩ : ByteArray)]) 72 rfl Tryz.underlying38 info41 rfl q35_ q7_ v5 [] l0 (some ad) l0.length c0 (fun _ => True) (fun _ => False) rfl rfl HO.out (Kd.C_below hr0 HB.out) (fun _ _ h => h) (fun _ h => h.elim) (fun _ _ => trivial) HB.out HB.out.size q44_ ?_;intro v7 w7 ho7 hb7 hg7 hat7))
  go_ret
  exact ⟨_,rfl,ho7,hb7⟩
def predO (b y : Req) : Option Bool:=if y.f0.toList == b.f0.toList then (cmpP y b).bind fun c => some (decide (c > 0)) else some false
set_option maxRecDepth 100000 in
set_option maxHeartbeats 4000000 in
theorem out1_calls (y b : Req) (vn : Value) (g2 : Nat) (p : Bool) (w0 w : World) (hb0 : Below w0.heap.size w0 w) (hE : Env w0) (hb2 : w.heap[g2]? = some (.cells #[.string b.f0,.int .i64 b.f1.f0,.int .i64 b.f1.f1,.int .i64 b.f1.f2,.string b.f1.f3,.string b.f1.f4,vn] 91 (0,0))) (hp : predO b y = some p) :
  Calls Tryz.prog 93 #[.agg #[.string y.f0,.int .i64 y.f1.f0,.int .i64 y.f1.f1,.int .i64 y.f1.f2,.string y.f1.f3,.string y.f1.f4],.pointer (some ⟨g2,0,none⟩)] w fun e w' => e = .returned (.bool p) ∧ Below w.heap.size w w':=by
 have BK:=Aside0.mk hb2
 have HB:=Aside0.mk hb0
 have HE:=Aside0.mk hE
 have HD:=Aside0.mk (Below.refl w.heap.size w)
 clear hb2 hb0 hE
 unfold predO at hp
 cases he : (y.f0.toList == b.f0.toList) with
 | false =>
  rw [he] at hp
  obtain rfl:=Option.some.inj hp
  go_enter Tryz.func93,Tryz.ntmps93
  go_wp2_with (first | ((with_reducible refine gate_dst (N:=2) rfl ?_);refine box_event ?hg (N:=2) ?hd (cs:=#[.string y.f0,.int .i64 y.f1.f0,.int .i64 y.f1.f1,.int .i64 y.f1.f2,.string y.f1.f3,.string y.f1.f4]) (t:=41) ?hr ?_;(case hd => rfl);(case hg => rfl);(case hr => first | (go_simp;done) | (go_simp;rfl));intro g3 hg_ w3 hbox hb_;clear hg_;replace BK:=Aside0.mk (blk_below BK.out hb_);replace HB:=Aside0.mk (below_then HB.out HB.out.size hb_);replace HD:=Aside0.mk (below_then HD.out HD.out.size hb_);have B3:=Aside0.mk hbox;clear hbox hb_;have hz0 : w3.cell? ⟨g2,0,none⟩ = some _:=(blk_cell BK.out 0).trans rfl;have hz1 : w3.cell? ⟨g2,1,none⟩ = some _:=(blk_cell BK.out 1).trans rfl;have hz2 : w3.cell? ⟨g2,2,none⟩ = some _:=(blk_cell BK.out 2).trans rfl;have hz3 : w3.cell? ⟨g2,3,none⟩ = some _:=(blk_cell BK.out 3).trans rfl;have hz4 : w3.cell? ⟨g2,4,none⟩ = some _:=(blk_cell BK.out 4).trans rfl;have hz5 : w3.cell? ⟨g2,5,none⟩ = some _:=(blk_cell BK.out 5).trans rfl;have hz6 : w3.cell? ⟨g2,6,none⟩ = some _:=(blk_cell BK.out 6).trans rfl;have hy0 : w3.cell? ⟨g3,0,none⟩ = some _:=(blk_cell B3.out 0).trans rfl;have hy1 : w3.cell? ⟨g3,1,none⟩ = some _:=(blk_cell B3.out 1).trans rfl;have hy2 : w3.cell? ⟨g3,2,none⟩ = some _:=(blk_cell B3.out 2).trans rfl;have hy3 : w3.cell? ⟨g3,3,none⟩ = some _:=(blk_cell B3.out 3).trans rfl;have hy4 : w3.cell? ⟨g3,4,none⟩ = some _:=(blk_cell B3.out 4).trans rfl;have hy5 : w3.cell? ⟨g3,5,none⟩ = some _:=(blk_cell B3.out 5).trans rfl))
  go_ret
  exact ⟨rfl,HD.out⟩
 | true =>
  rw [he] at hp
  obtain ⟨c,hc,hp⟩:=Option.bind_eq_some_iff.mp hp
  replace hc : ver_Compare.f fuelR y.f1.f0 y.f1.f1 y.f1.f2 y.f1.f3 y.f1.f4 b.f1.f0 b.f1.f1 b.f1.f2 b.f1.f3 b.f1.f4 = some c:=hc
  obtain rfl:=Option.some.inj hp
  go_enter Tryz.func93,Tryz.ntmps93
  go_wp2_with (first | ((with_reducible refine gate_dst (N:=2) rfl ?_);refine box_event ?hg (N:=2) ?hd (cs:=#[.string y.f0,.int .i64 y.f1.f0,.int .i64 y.f1.f1,.int .i64 y.f1.f2,.string y.f1.f3,.string y.f1.f4]) (t:=41) ?hr ?_;(case hd => rfl);(case hg => rfl);(case hr => first | (go_simp;done) | (go_simp;rfl));intro g3 hg_ w3 hbox hb_;clear hg_;replace BK:=Aside0.mk (blk_below BK.out hb_);replace HB:=Aside0.mk (below_then HB.out HB.out.size hb_);replace HD:=Aside0.mk (below_then HD.out HD.out.size hb_);have B3:=Aside0.mk hbox;clear hbox hb_;have hz0 : w3.cell? ⟨g2,0,none⟩ = some _:=(blk_cell BK.out 0).trans rfl;have hz1 : w3.cell? ⟨g2,1,none⟩ = some _:=(blk_cell BK.out 1).trans rfl;have hz2 : w3.cell? ⟨g2,2,none⟩ = some _:=(blk_cell BK.out 2).trans rfl;have hz3 : w3.cell? ⟨g2,3,none⟩ = some _:=(blk_cell BK.out 3).trans rfl;have hz4 : w3.cell? ⟨g2,4,none⟩ = some _:=(blk_cell BK.out 4).trans rfl;have hz5 : w3.cell? ⟨g2,5,none⟩ = some _:=(blk_cell BK.out 5).trans rfl;have hz6 : w3.cell? ⟨g2,6,none⟩ = some _:=(blk_cell BK.out 6).trans rfl;have hy0 : w3.cell? ⟨g3,0,none⟩ = some _:=(blk_cell B3.out 0).trans rfl;have hy1 : w3.cell? ⟨g3,1,none⟩ = some _:=(blk_cell B3.out 1).trans rfl;have hy2 : w3.cell? ⟨g3,2,none⟩ = some _:=(blk_cell B3.out 2).trans rfl;have hy3 : w3.cell? ⟨g3,3,none⟩ = some _:=(blk_cell B3.out 3).trans rfl;have hy4 : w3.cell? ⟨g3,4,none⟩ = some _:=(blk_cell B3.out 4).trans rfl;have hy5 : w3.cell? ⟨g3,5,none⟩ = some _:=(blk_cell B3.out 5).trans rfl) | (go_at_call 44;(with_reducible refine (ver_Compare.calls fuelR y.f1.f0 y.f1.f1 y.f1.f2 y.f1.f3 y.f1.f4 b.f1.f0 b.f1.f1 b.f1.f2 b.f1.f3 b.f1.f4 c _ hc ?sideG).mono ?_);(case sideG => exact Env.below HE.out HB.out);rintro e w6 ⟨rfl,hb6⟩;replace HD:=Aside0.mk (below_then HD.out HD.out.size hb6);clear hb6))
  go_ret
  exact ⟨rfl,HD.out⟩
theorem idxP_any {α : Type} (pred : α → Bool) : ∀ (l : List α) (i : Nat),decide (0 ≤ idxP pred l i) = l.any pred
 | [],_ => rfl
 | x :: xs,i => by
  rw [idxP,List.any_cons]
  cases h : pred x
  ·simpa using idxP_any pred xs (i + 1)
  ·simp
set_option maxRecDepth 100000 in
set_option maxHeartbeats 4000000 in
theorem containsOut (A : Option Addr) (c : Nat) (l : List Req) (g2 : Nat) (b : Req) (vn : Value) (w0 w : World) (hb0 : Below w0.heap.size w0 w) (hE : Env w0) (hb2 : w.heap[g2]? = some (.cells #[.string b.f0,.int .i64 b.f1.f0,.int .i64 b.f1.f1,.int .i64 b.f1.f2,.string b.f1.f3,.string b.f1.f4,vn] 91 (0,0)))
  (hr : Kd.C k41 w A l.length l) (hc : l.length ≤ c) (hall : l.all (fun y => (predO b y).isSome) = true) :
  Calls Tryz.prog 92 #[.slice A l.length c,.func (.func 93) #[] #[.pointer (some ⟨g2,0,none⟩)]] w fun e w' => e = .returned (.bool (l.any fun y => (predO b y).getD false)) ∧ Below w.heap.size w w':=by
 have hcon:=indexOut A c l g2 (fun y => (predO b y).getD false) w hr hc (fun y W hy hbW => by
  have hs:=List.all_eq_true.1 hall y hy
  obtain ⟨p,hp⟩:=Option.isSome_iff_exists.1 hs
  rw [hp]
  exact out1_calls y b vn g2 p w0 W (below_then hb0 hb0.size hbW) hE (blk_below hb2 hbW) hp)
 have hany:=idxP_any (fun y => (predO b y).getD false) l 0
 generalize idxP (fun y => (predO b y).getD false) l 0 = ix at hcon hany
 rw [← hany]
 clear hr hall hany hb2 hb0 hE
 go_enter Tryz.func92,Tryz.ntmps92
 go_wp2_with (go_at_call 60;(with_reducible refine hcon.mono ?_);rintro e w1 ⟨rfl,hb1⟩)
 go_ret
 exact ⟨rfl,hb1⟩
def outP (b : Req) (nodes : List Node) (x : Req) : Option Bool:=(mvs_List.f [x] nodes).bind fun L => if L.all (fun y => (predO b y).isSome) then some (L.any fun y => (predO b y).getD false) else none
set_option maxRecDepth 100000 in
set_option maxHeartbeats 4000000 in
theorem out_calls (b x : Req) (A1 : Option Addr) (c1 : Nat) (nodes : List Node) (r : Bool) (w : World) (hn : Kd.C k70 w A1 nodes.length nodes) (hc : nodes.length ≤ c1) (h : outP b nodes x = some r) (hG : Env w) :
  Calls Tryz.prog 62 #[.agg #[.string b.f0,.int .i64 b.f1.f0,.int .i64 b.f1.f1,.int .i64 b.f1.f2,.string b.f1.f3,.string b.f1.f4,.slice A1 nodes.length c1],.agg #[.string x.f0,.int .i64 x.f1.f0,.int .i64 x.f1.f1,.int .i64 x.f1.f2,.string x.f1.f3,.string x.f1.f4]] w fun e w' => e = .returned (.bool r) ∧ Below w.heap.size w w':=by
 obtain ⟨L,hL,h⟩:=Option.bind_eq_some_iff.mp h
 split at h
 case isFalse => exact absurd h q28_
 case isTrue hall =>
 obtain rfl:=Option.some.inj h
 have HN:=Aside0.mk hn
 have HC:=Aside0.mk hc
 have HE:=Aside0.mk hG
 clear hn hc hG h
 generalize hres : (L.any fun y => (predO b y).getD false) = res
 go_enter Tryz.func62,Tryz.ntmps62
 go_wp2_with (first | ((with_reducible refine gate_dst (N:=2) rfl ?_);refine box_event ?hg (N:=2) ?hd (cs:=#[.string b.f0,.int .i64 b.f1.f0,.int .i64 b.f1.f1,.int .i64 b.f1.f2,.string b.f1.f3,.string b.f1.f4,.slice A1 nodes.length c1]) (t:=91) ?hr ?_;(case hd => rfl);(case hg => rfl);(case hr => first | (go_simp;done) | (go_simp;rfl));intro g2 hg_ w2 hbox hb_;clear hg_;have HB:=Aside0.mk hb_;have B2:=Aside0.mk hbox;clear hbox hb_) | ((with_reducible refine gate_dst (N:=3) rfl ?_);refine box_event ?hg (N:=3) ?hd (cs:=#[.string x.f0,.int .i64 x.f1.f0,.int .i64 x.f1.f1,.int .i64 x.f1.f2,.string x.f1.f3,.string x.f1.f4]) (t:=41) ?hr ?_;(case hd => rfl);(case hg => rfl);(case hr => first | (go_simp;done) | (go_simp;rfl));intro g3 hg_ w3 hbox hb_;clear hg_;replace B2:=Aside0.mk (blk_below B2.out hb_);replace HB:=Aside0.mk (below_then HB.out HB.out.size hb_);have B3:=Aside0.mk hbox;clear hbox hb_;have hz0 : w3.cell? ⟨g2,0,none⟩ = some _:=(blk_cell B2.out 0).trans rfl;have hz1 : w3.cell? ⟨g2,1,none⟩ = some _:=(blk_cell B2.out 1).trans rfl;have hz2 : w3.cell? ⟨g2,2,none⟩ = some _:=(blk_cell B2.out 2).trans rfl;have hz3 : w3.cell? ⟨g2,3,none⟩ = some _:=(blk_cell B2.out 3).trans rfl;have hz4 : w3.cell? ⟨g2,4,none⟩ = some _:=(blk_cell B2.out 4).trans rfl;have hz5 : w3.cell? ⟨g2,5,none⟩ = some _:=(blk_cell B2.out 5).trans rfl;have hz6 : w3.cell? ⟨g2,6,none⟩ = some _:=(blk_cell B2.out 6).trans rfl;have hy0 : w3.cell? ⟨g3,0,none⟩ = some _:=(blk_cell B3.out 0).trans rfl;have hy1 : w3.cell? ⟨g3,1,none⟩ = some _:=(blk_cell B3.out 1).trans rfl;have hy2 : w3.cell? ⟨g3,2,none⟩ = some _:=(blk_cell B3.out 2).trans rfl;have hy3 : w3.cell? ⟨g3,3,none⟩ = some _:=(blk_cell B3.out 3).trans rfl;have hy4 : w3.cell? ⟨g3,4,none⟩ = some _:=(blk_cell B3.out 4).trans rfl;have hy5 : w3.cell? ⟨g3,5,none⟩ = some _:=(blk_cell B3.out 5).trans rfl) | ((with_reducible refine gate_dst (N:=6) rfl ?_);refine Kd.R_lit k41 _ 41 ?hg (N:=6) ?hd (xs:=[x]) (inner:=[.string x.f0,.int .i64 x.f1.f0,.int .i64 x.f1.f1,.int .i64 x.f1.f2,.string x.f1.f3,.string x.f1.f4]) (ok:=fun _ => True) (okp:=fun _ => True) ?hr ?hp (fun _ hk => hk) trivial (Below.refl _ _) (Nat.le_refl _) q28_ ?_;(case hd => rfl);(case hg => rfl);(case hr => first | (go_simp;done) | (go_simp;rfl));(case hp => exact (Reps.c6 (show Kd.M k41 _ _ _ x [.string x.f0,.int .i64 x.f1.f0,.int .i64 x.f1.f1,.int .i64 x.f1.f2,.string x.f1.f3,.string x.f1.f4] from (k41_mkM _ _ _ x)) (Reps.none _ _)));intro v6 w6 ho6 hb6 hg6_ hnew6;clear hg6_ hnew6;replace B2:=Aside0.mk (blk_below B2.out hb6);replace HB:=Aside0.mk (below_then HB.out HB.out.size hb6);clear B3 hb6;obtain ⟨A6,c6,rfl⟩:=Kd.R_slice ho6;have HO6:=Aside0.mk ho6;clear ho6;have hu0 : w6.cell? ⟨g2,0,none⟩ = some _:=(blk_cell B2.out 0).trans rfl;have hu1 : w6.cell? ⟨g2,1,none⟩ = some _:=(blk_cell B2.out 1).trans rfl;have hu2 : w6.cell? ⟨g2,2,none⟩ = some _:=(blk_cell B2.out 2).trans rfl;have hu3 : w6.cell? ⟨g2,3,none⟩ = some _:=(blk_cell B2.out 3).trans rfl;have hu4 : w6.cell? ⟨g2,4,none⟩ = some _:=(blk_cell B2.out 4).trans rfl;have hu5 : w6.cell? ⟨g2,5,none⟩ = some _:=(blk_cell B2.out 5).trans rfl;have hu6 : w6.cell? ⟨g2,6,none⟩ = some _:=(blk_cell B2.out 6).trans rfl) | (go_at_call 27;(refine (mvs_List.calls A6 c6 [x] A1 c1 nodes L _ (Kd.R_reads' HO6.out).2.2 (Kd.R_reads' HO6.out).2.1 (Kd.C_below HN.out HB.out) HC.out hL (Env.below HE.out HB.out)).mono ?_);rintro e w7 ⟨v7,rfl,hR7,hb7⟩;obtain ⟨A7,c7,rfl⟩:=Kd.R_slice hR7;replace B2:=Aside0.mk (blk_below B2.out hb7);replace HB:=Aside0.mk (below_then HB.out HB.out.size hb7);clear HO6 hb7;have HO7:=Aside0.mk hR7;clear hR7) | (go_at_call 92;(with_reducible refine (containsOut A7 c7 L g2 b (.slice A1 nodes.length c1) w _ HB.out HE.out B2.out (Kd.R_reads' HO7.out).2.2 (Kd.R_reads' HO7.out).2.1 hall).mono ?_);rintro e w8 ⟨rfl,hb8⟩;replace HB:=Aside0.mk (below_then HB.out HB.out.size hb8);clear hb8))
 go_ret
 exact ⟨by rw [← hres];rfl,HB.out⟩
def mvs_bound_out.f (a0_0 : ByteArray) (a0_1 : Int) (a0_2 : Int) (a0_3 : Int) (a0_4 : ByteArray) (a0_5 : ByteArray) (l0_6 : List Node) (a1_0 : ByteArray) (a1_1 : Int) (a1_2 : Int) (a1_3 : Int) (a1_4 : ByteArray) (a1_5 : ByteArray) : Option Bool:=outP ⟨a0_0,a0_1,a0_2,a0_3,a0_4,a0_5⟩ l0_6 ⟨a1_0,a1_1,a1_2,a1_3,a1_4,a1_5⟩
theorem mvs_bound_out.calls (a0_0 : ByteArray) (a0_1 : Int) (a0_2 : Int) (a0_3 : Int) (a0_4 : ByteArray) (a0_5 : ByteArray) (A0_6 : Option Addr) (c0_6 : Nat) (l0_6 : List Node) (a1_0 : ByteArray) (a1_1 : Int) (a1_2 : Int) (a1_3 : Int) (a1_4 : ByteArray) (a1_5 : ByteArray) (r : Bool) (w : World) (hr0_6 : Kd.C k70 w A0_6 l0_6.length l0_6) (hc0_6 : l0_6.length ≤ c0_6) (h : mvs_bound_out.f a0_0 a0_1 a0_2 a0_3 a0_4 a0_5 l0_6 a1_0 a1_1 a1_2 a1_3 a1_4 a1_5 = some r) (hG : Env w) :
  Calls Tryz.prog 62 #[.agg #[.string a0_0,.int .i64 a0_1,.int .i64 a0_2,.int .i64 a0_3,.string a0_4,.string a0_5,.slice A0_6 l0_6.length c0_6],.agg #[.string a1_0,.int .i64 a1_1,.int .i64 a1_2,.int .i64 a1_3,.string a1_4,.string a1_5]] w fun e w' => e = .returned (.bool r) ∧ Below w.heap.size w w' :=
 out_calls ⟨a0_0,a0_1,a0_2,a0_3,a0_4,a0_5⟩ ⟨a1_0,a1_1,a1_2,a1_3,a1_4,a1_5⟩ A0_6 c0_6 l0_6 r w hr0_6 hc0_6 h hG
end Go.Proofs.YtennhpoemdaghaaGreatDoor.P
end
section
namespace Go.Proofs.YtennhpoemdaghaaGreatDoor.P
open Go Go.RowKit Go.Proofs.YtennhpoemdaghaaGreatDoorW.PrintWords Go.Proofs.YtennhpoemdaghaaGreatDoorW.PrintLast Go.Proofs.YtennhpoemdaghaaGreatDoorW.PrintMore
attribute [local go_sem] run_makeMap
def condP (b : Req) (nodes : List Node) (x y : Req) : Option Bool :=
 if y.f0.toList == x.f0.toList then (mayP y).bind fun m => if m then (cmpP y x).bind fun c => if c < 0 then (outP b nodes y).bind fun o => some (!o) else some false else some false else some false
def lowP (b : Req) (nodes : List Node) (x : Req) : List Req → List Node → Option (List Req)
 | L,[] => some L
 | L,n :: ns => (condP b nodes x n.f0).bind fun c => if c then (takeP L n.f0).bind fun L' => lowP b nodes x L' ns else lowP b nodes x L ns
def lowerP (b : Req) (nodes : List Node) (x : Req) : Option (Req × Bool) :=
 if x.f0.size ≤ 4294967280 ∧ nodes.length ≤ 1000000 then (lowP b nodes x [] nodes).bind fun L => some (match L.find? (sameP x.f0) with | none => (zR,false) | some y => (y,true)) else none
set_option maxRecDepth 100000 in
set_option maxHeartbeats 8000000 in
theorem lower_calls (b x : Req) (A1 : Option Addr) (c1 : Nat) (nodes : List Node) (r : Req) (is : Bool) (w : World) (hn : Kd.C k70 w A1 nodes.length nodes) (hc : nodes.length ≤ c1) (h : lowerP b nodes x = some (r,is)) (hG : Env w) :
  Calls Tryz.prog 63 #[.agg #[.string b.f0,.int .i64 b.f1.f0,.int .i64 b.f1.f1,.int .i64 b.f1.f2,.string b.f1.f3,.string b.f1.f4,.slice A1 nodes.length c1],.agg #[.string x.f0,.int .i64 x.f1.f0,.int .i64 x.f1.f1,.int .i64 x.f1.f2,.string x.f1.f3,.string x.f1.f4]] w fun e w' => e = .returned (.tuple #[.agg #[.string r.f0,.int .i64 r.f1.f0,.int .i64 r.f1.f1,.int .i64 r.f1.f2,.string r.f1.f3,.string r.f1.f4],.bool is]) ∧ Below w.heap.size w w':=by
 unfold lowerP at h
 split at h
 case isFalse => exact absurd h q28_
 case isTrue hsz =>
 obtain ⟨hsx,hsn⟩:=hsz
 obtain ⟨Lf,hLf,h⟩:=Option.bind_eq_some_iff.mp h
 have HRES:=Aside0.mk (Option.some.inj h)
 have HN:=Aside0.mk hn
 have HC:=Aside0.mk hc
 have HE:=Aside0.mk hG
 have HB:=Aside0.mk (Below.refl w.heap.size w)
 clear hn hc hG h
 go_enter Tryz.func63,Tryz.ntmps63
 go_wp2_with (first | ((with_reducible refine gate_dst (N:=2) rfl ?_);refine box_event ?hg (N:=2) ?hd (cs:=#[.string b.f0,.int .i64 b.f1.f0,.int .i64 b.f1.f1,.int .i64 b.f1.f2,.string b.f1.f3,.string b.f1.f4,.slice A1 nodes.length c1]) (t:=91) ?hr ?_;(case hd => rfl);(case hg => rfl);(case hr => first | (go_simp;done) | (go_simp;rfl));intro gB2 hg_ w2 hbox hb_;replace HB:=Aside0.mk (below_then HB.out HB.out.size hb_);have B2:=Aside0.mk hbox;clear hbox hb_ hg_) | ((with_reducible refine gate_dst (N:=3) rfl ?_);refine box_event ?hg (N:=3) ?hd (cs:=#[.string x.f0,.int .i64 x.f1.f0,.int .i64 x.f1.f1,.int .i64 x.f1.f2,.string x.f1.f3,.string x.f1.f4]) (t:=41) ?hr ?_;(case hd => rfl);(case hg => rfl);(case hr => first | (go_simp;done) | (go_simp;rfl));intro gB3 hg_ w3 hbox hb_;replace HB:=Aside0.mk (below_then HB.out HB.out.size hb_);replace B2:=Aside0.mk (blk_below B2.out hb_);have B3:=Aside0.mk hbox;clear hbox hb_ hg_) | ((with_reducible refine gate_dst (N:=4) rfl ?_);refine box_event ?hg (N:=4) ?hd (cs:=#[.string (⟨#[]⟩ : ByteArray),.int .i64 0,.int .i64 0,.int .i64 0,.string (⟨#[]⟩ : ByteArray),.string (⟨#[]⟩ : ByteArray)]) (t:=41) ?hr ?_;(case hd => rfl);(case hg => rfl);(case hr => first | (go_simp;done) | (go_simp;rfl));intro gB4 hg_ w4 hbox hb_;have GEB4:=Aside0.mk (q41_ : w.heap.size ≤ gB4);have NB2B4:=Aside0.mk (q25_ : gB2 ≠ gB4);have NB3B4:=Aside0.mk (q24_ : gB3 ≠ gB4);replace HB:=Aside0.mk (below_then HB.out HB.out.size hb_);replace B2:=Aside0.mk (blk_below B2.out hb_);replace B3:=Aside0.mk (blk_below B3.out hb_);have B4:=Aside0.mk hbox;clear hbox hb_ hg_) | ((with_reducible refine gate_dst (N:=6) rfl ?_);refine box_event ?hg (N:=6) ?hd (cs:=#[.map none]) (t:=80) ?hr ?_;(case hd => rfl);(case hg => rfl);(case hr => first | (go_simp;done) | (go_simp;rfl));intro gB6 hg_ w6 hbox hb1_;have hb_:=below_then (below_alloc (Below.refl _ w4) _) q28_ hb1_;have HM:=Aside0.mk (OwnB.below ⟨_,World.ownsMap_made w4 Tryz.prog 9 reqR,BestD.nil⟩ hb1_);have GE6:=Aside0.mk ((by rw [hg_];have h_:=HB.out.size;simp;omega) : w.heap.size ≤ gB6);have NMB6:=Aside0.mk ((by rw [hg_];simp) : w4.heap.size ≠ gB6);have NB26:=Aside0.mk ((by rw [hg_];have h_:=blk_lt B2.out;simp;omega) : gB2 ≠ gB6);have NB36:=Aside0.mk ((by rw [hg_];have h_:=blk_lt B3.out;simp;omega) : gB3 ≠ gB6);have NB46:=Aside0.mk ((by rw [hg_];have h_:=blk_lt B4.out;simp;omega) : gB4 ≠ gB6);have MB:=Aside0.mk HB.out.size;have M2:=Aside0.mk (Nat.ne_of_lt (blk_lt B2.out));have M3:=Aside0.mk (Nat.ne_of_lt (blk_lt B3.out));have M4:=Aside0.mk (Nat.ne_of_lt (blk_lt B4.out));clear hb1_;replace HB:=Aside0.mk (below_then HB.out HB.out.size hb_);replace B2:=Aside0.mk (blk_below B2.out hb_);replace B3:=Aside0.mk (blk_below B3.out hb_);replace B4:=Aside0.mk (blk_below B4.out hb_);have B6:=Aside0.mk hbox;clear hbox hb_ hg_) | ((with_reducible refine gate_ (.store 80 (.tmp 6) (.tmp 13)) rfl ?_);refine store_event 80 (.tmp 6) (.tmp 13) rfl rfl rfl 0 80 _ #[.map (some w4.heap.size)] _ [.map (some w4.heap.size)] rfl rfl rfl q3_ q26_ B6.out (Nat.le_refl 1) q45_ ?_;intro w61 hn_ hg_;replace HB:=Aside0.mk (below_grown HB.out hg_ GE6.out HB.out.size);replace HM:=Aside0.mk (HM.out.kept hg_ (fun he => NMB6.out (Option.some.inj he)));replace B2:=Aside0.mk (blk_grown B2.out hg_ (fun he => NB26.out (Option.some.inj he)));replace B3:=Aside0.mk (blk_grown B3.out hg_ (fun he => NB36.out (Option.some.inj he)));replace B4:=Aside0.mk (blk_grown B4.out hg_ (fun he => NB46.out (Option.some.inj he)));replace B6:=Aside0.mk hn_;clear hg_ hn_;have hB25_0 : w61.cell? ⟨gB2,0,none⟩ = some _:=(blk_cell B2.out 0).trans rfl;have hB25_1 : w61.cell? ⟨gB2,1,none⟩ = some _:=(blk_cell B2.out 1).trans rfl;have hB25_2 : w61.cell? ⟨gB2,2,none⟩ = some _:=(blk_cell B2.out 2).trans rfl;have hB25_3 : w61.cell? ⟨gB2,3,none⟩ = some _:=(blk_cell B2.out 3).trans rfl;have hB25_4 : w61.cell? ⟨gB2,4,none⟩ = some _:=(blk_cell B2.out 4).trans rfl;have hB25_5 : w61.cell? ⟨gB2,5,none⟩ = some _:=(blk_cell B2.out 5).trans rfl;have hB25_6 : w61.cell? ⟨gB2,6,none⟩ = some _:=(blk_cell B2.out 6).trans rfl;have hB65_0 : w61.cell? ⟨gB6,0,none⟩ = some _:=(blk_cell B6.out 0).trans rfl))
 try go_frame
 generalize hbm : w4.heap.size = bm at HM NMB6 MB M2 M3 M4 B6 ⊢
 clear hbm
 go_loopw [17] (fun v17 wr => ∃ (i : Nat) (L1 : List Req),v17 = .int .i64 i ∧ i ≤ nodes.length ∧ Aside0 (lowP b nodes x L1 (nodes.drop i) = some Lf) ∧ Aside0 (OwnB wr bm i L1) ∧ Aside0 (wr.heap[gB2]? = some (.cells #[.string b.f0,.int .i64 b.f1.f0,.int .i64 b.f1.f1,.int .i64 b.f1.f2,.string b.f1.f3,.string b.f1.f4,.slice A1 nodes.length c1] 91 (0,0))) ∧ Aside0 (wr.heap[gB3]? = some (.cells #[.string x.f0,.int .i64 x.f1.f0,.int .i64 x.f1.f1,.int .i64 x.f1.f2,.string x.f1.f3,.string x.f1.f4] 41 (0,0))) ∧ Aside0 (wr.heap[gB4]? = some (.cells #[.string (⟨#[]⟩ : ByteArray),.int .i64 0,.int .i64 0,.int .i64 0,.string (⟨#[]⟩ : ByteArray),.string (⟨#[]⟩ : ByteArray)] 41 (0,0))) ∧ Aside0 (wr.heap[gB6]? = some (.cells #[.map (some bm)] 80 (0,0))) ∧ Aside0 (Below w.heap.size w wr)) (fun v17 _ => nodes.length - (intOf v17).toNat)
 case atStart => exact ⟨0,[],rfl,Nat.zero_le _,⟨hLf⟩,HM,B2,B3,B4,B6,HB⟩
 case round =>
  clear HM B2 B3 B4 B6 HB
  obtain ⟨i,L1,rfl,hi,HH,HM,B2,B3,B4,B6,HB⟩:=hrel
  have H:=HH.out
  clear HH
  by_cases h : i < nodes.length
  ·have hg : ((i : Int) < (nodes.length : Int)) = True:=eq_true q7_
   have hp : (0 ≤ (i : Int)) = True:=eq_true q7_
   have hw : wrap64 ((i : Int) + 1) = (i : Int) + 1:=by unfold wrap64;omega
   have hni : i < maxLen:=by unfold maxLen;omega
   obtain ⟨ad,A6,c6,e1,hx0,hx1,hx2,hx3,hx4,hx5,hx6,hl6,hC6⟩:=at_T70 (Kd.C_below HN.out HB.out) (i : Int) q7_ q7_
   cases e1
   simp only [Int.toNat_natCast] at hx0 hx1 hx2 hx3 hx4 hx5 hx6
   have hd : nodes.drop i = rd_T70 nodes (i : Int) :: nodes.drop (i + 1):=by rw [List.drop_eq_getElem_cons h];simp [rd_T70,h]
   rw [hd,lowP] at H
   obtain ⟨y,hy⟩ : ∃ y,(rd_T70 nodes (i : Int)).f0 = y:=⟨_,rfl⟩
   obtain ⟨n1,hn1⟩ : ∃ n1,(rd_T70 nodes (i : Int)).f1 = n1:=⟨_,rfl⟩
   rw [hy] at hx0 hx1 hx2 hx3 hx4 hx5 H
   rw [hn1] at hx6
   clear hl6 hC6 hd
   obtain ⟨cb,hcb,H⟩:=Option.bind_eq_some_iff.mp H
   unfold condP at hcb
   cases hpath : (y.f0.toList == x.f0.toList) with
   | false =>
    rw [hpath] at hcb
    obtain rfl:=Option.some.inj hcb
    replace H : lowP b nodes x L1 (nodes.drop (i + 1)) = some Lf:=H
    go_wp2_with (first | ((with_reducible refine gate_dst (N:=8) rfl ?_);refine box_event ?hg (N:=8) ?hd (cs:=#[.string (⟨#[]⟩ : ByteArray),.int .i64 0,.int .i64 0,.int .i64 0,.string (⟨#[]⟩ : ByteArray),.string (⟨#[]⟩ : ByteArray),.slice none 0 0]) (t:=70) ?hr ?_;(case hd => rfl);(case hg => rfl);(case hr => first | (go_simp;done) | (go_simp;rfl));intro gB8 hg_ w8 hbox hb_;have GEB8:=Aside0.mk (q41_ : w.heap.size ≤ gB8);have NMB8:=Aside0.mk (q27_ : bm ≠ gB8);have NB2B8:=Aside0.mk (q25_ : gB2 ≠ gB8);have NB3B8:=Aside0.mk (q24_ : gB3 ≠ gB8);have NB4B8:=Aside0.mk (q34_ : gB4 ≠ gB8);have NB6B8:=Aside0.mk (q40_ : gB6 ≠ gB8);replace HB:=Aside0.mk (below_then HB.out HB.out.size hb_);replace HM:=Aside0.mk (HM.out.below hb_);replace B2:=Aside0.mk (blk_below B2.out hb_);replace B3:=Aside0.mk (blk_below B3.out hb_);replace B4:=Aside0.mk (blk_below B4.out hb_);replace B6:=Aside0.mk (blk_below B6.out hb_);have B8:=Aside0.mk hbox;clear hbox hb_ hg_) | ((with_reducible refine gate_ (.store 70 (.tmp 8) (.tmp 20)) rfl ?_);refine store_event 70 (.tmp 8) (.tmp 20) rfl rfl rfl 0 70 _ #[.string y.f0,.int .i64 y.f1.f0,.int .i64 y.f1.f1,.int .i64 y.f1.f2,.string y.f1.f3,.string y.f1.f4,.slice A6 n1.length c6] _ [.string y.f0,.int .i64 y.f1.f0,.int .i64 y.f1.f1,.int .i64 y.f1.f2,.string y.f1.f3,.string y.f1.f4,.slice A6 n1.length c6] rfl rfl rfl q3_ q26_ B8.out (Nat.le_refl 7) q45_ ?_;intro w81 hn_ hg_;replace HB:=Aside0.mk (below_grown HB.out hg_ GEB8.out HB.out.size);replace HM:=Aside0.mk (HM.out.kept hg_ (fun he => NMB8.out (Option.some.inj he)));replace B2:=Aside0.mk (blk_grown B2.out hg_ (fun he => NB2B8.out (Option.some.inj he)));replace B3:=Aside0.mk (blk_grown B3.out hg_ (fun he => NB3B8.out (Option.some.inj he)));replace B4:=Aside0.mk (blk_grown B4.out hg_ (fun he => NB4B8.out (Option.some.inj he)));replace B6:=Aside0.mk (blk_grown B6.out hg_ (fun he => NB6B8.out (Option.some.inj he)));replace B8:=Aside0.mk hn_;clear hg_ hn_;have hB82_0 : w81.cell? ⟨gB8,0,none⟩ = some _:=(blk_cell B8.out 0).trans rfl;have hB82_1 : w81.cell? ⟨gB8,1,none⟩ = some _:=(blk_cell B8.out 1).trans rfl;have hB82_2 : w81.cell? ⟨gB8,2,none⟩ = some _:=(blk_cell B8.out 2).trans rfl;have hB82_3 : w81.cell? ⟨gB8,3,none⟩ = some _:=(blk_cell B8.out 3).trans rfl;have hB82_4 : w81.cell? ⟨gB8,4,none⟩ = some _:=(blk_cell B8.out 4).trans rfl;have hB82_5 : w81.cell? ⟨gB8,5,none⟩ = some _:=(blk_cell B8.out 5).trans rfl;have hB82_6 : w81.cell? ⟨gB8,6,none⟩ = some _:=(blk_cell B8.out 6).trans rfl) | ((with_reducible refine gate_dst (N:=9) rfl ?_);refine box_event ?hg (N:=9) ?hd (cs:=#[.string (⟨#[]⟩ : ByteArray),.int .i64 0,.int .i64 0,.int .i64 0,.string (⟨#[]⟩ : ByteArray),.string (⟨#[]⟩ : ByteArray)]) (t:=41) ?hr ?_;(case hd => rfl);(case hg => rfl);(case hr => first | (go_simp;done) | (go_simp;rfl));intro gB9 hg_ w9 hbox hb_;have GEB9:=Aside0.mk (q41_ : w.heap.size ≤ gB9);have NMB9:=Aside0.mk (q27_ : bm ≠ gB9);have NB2B9:=Aside0.mk (q25_ : gB2 ≠ gB9);have NB3B9:=Aside0.mk (q24_ : gB3 ≠ gB9);have NB4B9:=Aside0.mk (q34_ : gB4 ≠ gB9);have NB6B9:=Aside0.mk (q40_ : gB6 ≠ gB9);have NB8B9:=Aside0.mk (q49_ : gB8 ≠ gB9);replace HB:=Aside0.mk (below_then HB.out HB.out.size hb_);replace HM:=Aside0.mk (HM.out.below hb_);replace B2:=Aside0.mk (blk_below B2.out hb_);replace B3:=Aside0.mk (blk_below B3.out hb_);replace B4:=Aside0.mk (blk_below B4.out hb_);replace B6:=Aside0.mk (blk_below B6.out hb_);replace B8:=Aside0.mk (blk_below B8.out hb_);have B9:=Aside0.mk hbox;clear hbox hb_ hg_) | ((with_reducible refine gate_ (.store 41 (.tmp 9) (.tmp 22)) rfl ?_);refine store_event 41 (.tmp 9) (.tmp 22) rfl rfl rfl 0 41 _ #[.string y.f0,.int .i64 y.f1.f0,.int .i64 y.f1.f1,.int .i64 y.f1.f2,.string y.f1.f3,.string y.f1.f4] _ [.string y.f0,.int .i64 y.f1.f0,.int .i64 y.f1.f1,.int .i64 y.f1.f2,.string y.f1.f3,.string y.f1.f4] rfl rfl rfl q3_ q26_ B9.out (Nat.le_refl 6) q45_ ?_;intro w91 hn_ hg_;replace HB:=Aside0.mk (below_grown HB.out hg_ GEB9.out HB.out.size);replace HM:=Aside0.mk (HM.out.kept hg_ (fun he => NMB9.out (Option.some.inj he)));replace B2:=Aside0.mk (blk_grown B2.out hg_ (fun he => NB2B9.out (Option.some.inj he)));replace B3:=Aside0.mk (blk_grown B3.out hg_ (fun he => NB3B9.out (Option.some.inj he)));replace B4:=Aside0.mk (blk_grown B4.out hg_ (fun he => NB4B9.out (Option.some.inj he)));replace B6:=Aside0.mk (blk_grown B6.out hg_ (fun he => NB6B9.out (Option.some.inj he)));replace B8:=Aside0.mk (blk_grown B8.out hg_ (fun he => NB8B9.out (Option.some.inj he)));replace B9:=Aside0.mk hn_;clear hg_ hn_;have hB24_0 : w91.cell? ⟨gB2,0,none⟩ = some _:=(blk_cell B2.out 0).trans rfl;have hB24_1 : w91.cell? ⟨gB2,1,none⟩ = some _:=(blk_cell B2.out 1).trans rfl;have hB24_2 : w91.cell? ⟨gB2,2,none⟩ = some _:=(blk_cell B2.out 2).trans rfl;have hB24_3 : w91.cell? ⟨gB2,3,none⟩ = some _:=(blk_cell B2.out 3).trans rfl;have hB24_4 : w91.cell? ⟨gB2,4,none⟩ = some _:=(blk_cell B2.out 4).trans rfl;have hB24_5 : w91.cell? ⟨gB2,5,none⟩ = some _:=(blk_cell B2.out 5).trans rfl;have hB24_6 : w91.cell? ⟨gB2,6,none⟩ = some _:=(blk_cell B2.out 6).trans rfl;have hB34_0 : w91.cell? ⟨gB3,0,none⟩ = some _:=(blk_cell B3.out 0).trans rfl;have hB34_1 : w91.cell? ⟨gB3,1,none⟩ = some _:=(blk_cell B3.out 1).trans rfl;have hB34_2 : w91.cell? ⟨gB3,2,none⟩ = some _:=(blk_cell B3.out 2).trans rfl;have hB34_3 : w91.cell? ⟨gB3,3,none⟩ = some _:=(blk_cell B3.out 3).trans rfl;have hB34_4 : w91.cell? ⟨gB3,4,none⟩ = some _:=(blk_cell B3.out 4).trans rfl;have hB34_5 : w91.cell? ⟨gB3,5,none⟩ = some _:=(blk_cell B3.out 5).trans rfl;have hB64_0 : w91.cell? ⟨gB6,0,none⟩ = some _:=(blk_cell B6.out 0).trans rfl;have hB94_0 : w91.cell? ⟨gB9,0,none⟩ = some _:=(blk_cell B9.out 0).trans rfl;have hB94_1 : w91.cell? ⟨gB9,1,none⟩ = some _:=(blk_cell B9.out 1).trans rfl;have hB94_2 : w91.cell? ⟨gB9,2,none⟩ = some _:=(blk_cell B9.out 2).trans rfl;have hB94_3 : w91.cell? ⟨gB9,3,none⟩ = some _:=(blk_cell B9.out 3).trans rfl;have hB94_4 : w91.cell? ⟨gB9,4,none⟩ = some _:=(blk_cell B9.out 4).trans rfl;have hB94_5 : w91.cell? ⟨gB9,5,none⟩ = some _:=(blk_cell B9.out 5).trans rfl))
    refine ⟨⟨i + 1,L1,by simp [hw],h,⟨H⟩,⟨HM.out.mono (Nat.le_succ _)⟩,B2,B3,B4,B6,HB⟩,?_⟩
    simp only [intOf,hw]
    omega
   | true =>
    rw [hpath,if_pos rfl] at hcb
    obtain ⟨m,hmay,hcb⟩:=Option.bind_eq_some_iff.mp hcb
    replace hmay : mvs_may.f fuelR y.f0 y.f1.f0 y.f1.f1 y.f1.f2 y.f1.f3 y.f1.f4 = some m:=hmay
    cases m with
    | false =>
     obtain rfl:=Option.some.inj hcb
     replace H : lowP b nodes x L1 (nodes.drop (i + 1)) = some Lf:=H
     go_wp2_with (first | ((with_reducible refine gate_dst (N:=8) rfl ?_);refine box_event ?hg (N:=8) ?hd (cs:=#[.string (⟨#[]⟩ : ByteArray),.int .i64 0,.int .i64 0,.int .i64 0,.string (⟨#[]⟩ : ByteArray),.string (⟨#[]⟩ : ByteArray),.slice none 0 0]) (t:=70) ?hr ?_;(case hd => rfl);(case hg => rfl);(case hr => first | (go_simp;done) | (go_simp;rfl));intro gB8 hg_ w8 hbox hb_;have GEB8:=Aside0.mk (q41_ : w.heap.size ≤ gB8);have NMB8:=Aside0.mk (q27_ : bm ≠ gB8);have NB2B8:=Aside0.mk (q25_ : gB2 ≠ gB8);have NB3B8:=Aside0.mk (q24_ : gB3 ≠ gB8);have NB4B8:=Aside0.mk (q34_ : gB4 ≠ gB8);have NB6B8:=Aside0.mk (q40_ : gB6 ≠ gB8);replace HB:=Aside0.mk (below_then HB.out HB.out.size hb_);replace HM:=Aside0.mk (HM.out.below hb_);replace B2:=Aside0.mk (blk_below B2.out hb_);replace B3:=Aside0.mk (blk_below B3.out hb_);replace B4:=Aside0.mk (blk_below B4.out hb_);replace B6:=Aside0.mk (blk_below B6.out hb_);have B8:=Aside0.mk hbox;clear hbox hb_ hg_) | ((with_reducible refine gate_ (.store 70 (.tmp 8) (.tmp 20)) rfl ?_);refine store_event 70 (.tmp 8) (.tmp 20) rfl rfl rfl 0 70 _ #[.string y.f0,.int .i64 y.f1.f0,.int .i64 y.f1.f1,.int .i64 y.f1.f2,.string y.f1.f3,.string y.f1.f4,.slice A6 n1.length c6] _ [.string y.f0,.int .i64 y.f1.f0,.int .i64 y.f1.f1,.int .i64 y.f1.f2,.string y.f1.f3,.string y.f1.f4,.slice A6 n1.length c6] rfl rfl rfl q3_ q26_ B8.out (Nat.le_refl 7) q45_ ?_;intro w81 hn_ hg_;replace HB:=Aside0.mk (below_grown HB.out hg_ GEB8.out HB.out.size);replace HM:=Aside0.mk (HM.out.kept hg_ (fun he => NMB8.out (Option.some.inj he)));replace B2:=Aside0.mk (blk_grown B2.out hg_ (fun he => NB2B8.out (Option.some.inj he)));replace B3:=Aside0.mk (blk_grown B3.out hg_ (fun he => NB3B8.out (Option.some.inj he)));replace B4:=Aside0.mk (blk_grown B4.out hg_ (fun he => NB4B8.out (Option.some.inj he)));replace B6:=Aside0.mk (blk_grown B6.out hg_ (fun he => NB6B8.out (Option.some.inj he)));replace B8:=Aside0.mk hn_;clear hg_ hn_;have hB82_0 : w81.cell? ⟨gB8,0,none⟩ = some _:=(blk_cell B8.out 0).trans rfl;have hB82_1 : w81.cell? ⟨gB8,1,none⟩ = some _:=(blk_cell B8.out 1).trans rfl;have hB82_2 : w81.cell? ⟨gB8,2,none⟩ = some _:=(blk_cell B8.out 2).trans rfl;have hB82_3 : w81.cell? ⟨gB8,3,none⟩ = some _:=(blk_cell B8.out 3).trans rfl;have hB82_4 : w81.cell? ⟨gB8,4,none⟩ = some _:=(blk_cell B8.out 4).trans rfl;have hB82_5 : w81.cell? ⟨gB8,5,none⟩ = some _:=(blk_cell B8.out 5).trans rfl;have hB82_6 : w81.cell? ⟨gB8,6,none⟩ = some _:=(blk_cell B8.out 6).trans rfl) | ((with_reducible refine gate_dst (N:=9) rfl ?_);refine box_event ?hg (N:=9) ?hd (cs:=#[.string (⟨#[]⟩ : ByteArray),.int .i64 0,.int .i64 0,.int .i64 0,.string (⟨#[]⟩ : ByteArray),.string (⟨#[]⟩ : ByteArray)]) (t:=41) ?hr ?_;(case hd => rfl);(case hg => rfl);(case hr => first | (go_simp;done) | (go_simp;rfl));intro gB9 hg_ w9 hbox hb_;have GEB9:=Aside0.mk (q41_ : w.heap.size ≤ gB9);have NMB9:=Aside0.mk (q27_ : bm ≠ gB9);have NB2B9:=Aside0.mk (q25_ : gB2 ≠ gB9);have NB3B9:=Aside0.mk (q24_ : gB3 ≠ gB9);have NB4B9:=Aside0.mk (q34_ : gB4 ≠ gB9);have NB6B9:=Aside0.mk (q40_ : gB6 ≠ gB9);have NB8B9:=Aside0.mk (q49_ : gB8 ≠ gB9);replace HB:=Aside0.mk (below_then HB.out HB.out.size hb_);replace HM:=Aside0.mk (HM.out.below hb_);replace B2:=Aside0.mk (blk_below B2.out hb_);replace B3:=Aside0.mk (blk_below B3.out hb_);replace B4:=Aside0.mk (blk_below B4.out hb_);replace B6:=Aside0.mk (blk_below B6.out hb_);replace B8:=Aside0.mk (blk_below B8.out hb_);have B9:=Aside0.mk hbox;clear hbox hb_ hg_) | ((with_reducible refine gate_ (.store 41 (.tmp 9) (.tmp 22)) rfl ?_);refine store_event 41 (.tmp 9) (.tmp 22) rfl rfl rfl 0 41 _ #[.string y.f0,.int .i64 y.f1.f0,.int .i64 y.f1.f1,.int .i64 y.f1.f2,.string y.f1.f3,.string y.f1.f4] _ [.string y.f0,.int .i64 y.f1.f0,.int .i64 y.f1.f1,.int .i64 y.f1.f2,.string y.f1.f3,.string y.f1.f4] rfl rfl rfl q3_ q26_ B9.out (Nat.le_refl 6) q45_ ?_;intro w91 hn_ hg_;replace HB:=Aside0.mk (below_grown HB.out hg_ GEB9.out HB.out.size);replace HM:=Aside0.mk (HM.out.kept hg_ (fun he => NMB9.out (Option.some.inj he)));replace B2:=Aside0.mk (blk_grown B2.out hg_ (fun he => NB2B9.out (Option.some.inj he)));replace B3:=Aside0.mk (blk_grown B3.out hg_ (fun he => NB3B9.out (Option.some.inj he)));replace B4:=Aside0.mk (blk_grown B4.out hg_ (fun he => NB4B9.out (Option.some.inj he)));replace B6:=Aside0.mk (blk_grown B6.out hg_ (fun he => NB6B9.out (Option.some.inj he)));replace B8:=Aside0.mk (blk_grown B8.out hg_ (fun he => NB8B9.out (Option.some.inj he)));replace B9:=Aside0.mk hn_;clear hg_ hn_;have hB24_0 : w91.cell? ⟨gB2,0,none⟩ = some _:=(blk_cell B2.out 0).trans rfl;have hB24_1 : w91.cell? ⟨gB2,1,none⟩ = some _:=(blk_cell B2.out 1).trans rfl;have hB24_2 : w91.cell? ⟨gB2,2,none⟩ = some _:=(blk_cell B2.out 2).trans rfl;have hB24_3 : w91.cell? ⟨gB2,3,none⟩ = some _:=(blk_cell B2.out 3).trans rfl;have hB24_4 : w91.cell? ⟨gB2,4,none⟩ = some _:=(blk_cell B2.out 4).trans rfl;have hB24_5 : w91.cell? ⟨gB2,5,none⟩ = some _:=(blk_cell B2.out 5).trans rfl;have hB24_6 : w91.cell? ⟨gB2,6,none⟩ = some _:=(blk_cell B2.out 6).trans rfl;have hB34_0 : w91.cell? ⟨gB3,0,none⟩ = some _:=(blk_cell B3.out 0).trans rfl;have hB34_1 : w91.cell? ⟨gB3,1,none⟩ = some _:=(blk_cell B3.out 1).trans rfl;have hB34_2 : w91.cell? ⟨gB3,2,none⟩ = some _:=(blk_cell B3.out 2).trans rfl;have hB34_3 : w91.cell? ⟨gB3,3,none⟩ = some _:=(blk_cell B3.out 3).trans rfl;have hB34_4 : w91.cell? ⟨gB3,4,none⟩ = some _:=(blk_cell B3.out 4).trans rfl;have hB34_5 : w91.cell? ⟨gB3,5,none⟩ = some _:=(blk_cell B3.out 5).trans rfl;have hB64_0 : w91.cell? ⟨gB6,0,none⟩ = some _:=(blk_cell B6.out 0).trans rfl;have hB94_0 : w91.cell? ⟨gB9,0,none⟩ = some _:=(blk_cell B9.out 0).trans rfl;have hB94_1 : w91.cell? ⟨gB9,1,none⟩ = some _:=(blk_cell B9.out 1).trans rfl;have hB94_2 : w91.cell? ⟨gB9,2,none⟩ = some _:=(blk_cell B9.out 2).trans rfl;have hB94_3 : w91.cell? ⟨gB9,3,none⟩ = some _:=(blk_cell B9.out 3).trans rfl;have hB94_4 : w91.cell? ⟨gB9,4,none⟩ = some _:=(blk_cell B9.out 4).trans rfl;have hB94_5 : w91.cell? ⟨gB9,5,none⟩ = some _:=(blk_cell B9.out 5).trans rfl) | (go_at_call 59;(with_reducible refine (mvs_may.calls fuelR y.f0 y.f1.f0 y.f1.f1 y.f1.f2 y.f1.f3 y.f1.f4 false _ hmay ?sideG).mono ?_);(case sideG => exact Env.below HE.out HB.out);rintro e wm ⟨rfl,hb_⟩;replace HB:=Aside0.mk (below_then HB.out HB.out.size hb_);replace HM:=Aside0.mk (HM.out.below hb_);replace B2:=Aside0.mk (blk_below B2.out hb_);replace B3:=Aside0.mk (blk_below B3.out hb_);replace B4:=Aside0.mk (blk_below B4.out hb_);replace B6:=Aside0.mk (blk_below B6.out hb_);replace B8:=Aside0.mk (blk_below B8.out hb_);replace B9:=Aside0.mk (blk_below B9.out hb_);clear hb_;have hB25_0 : wm.cell? ⟨gB2,0,none⟩ = some _:=(blk_cell B2.out 0).trans rfl;have hB25_1 : wm.cell? ⟨gB2,1,none⟩ = some _:=(blk_cell B2.out 1).trans rfl;have hB25_2 : wm.cell? ⟨gB2,2,none⟩ = some _:=(blk_cell B2.out 2).trans rfl;have hB25_3 : wm.cell? ⟨gB2,3,none⟩ = some _:=(blk_cell B2.out 3).trans rfl;have hB25_4 : wm.cell? ⟨gB2,4,none⟩ = some _:=(blk_cell B2.out 4).trans rfl;have hB25_5 : wm.cell? ⟨gB2,5,none⟩ = some _:=(blk_cell B2.out 5).trans rfl;have hB25_6 : wm.cell? ⟨gB2,6,none⟩ = some _:=(blk_cell B2.out 6).trans rfl;have hB35_0 : wm.cell? ⟨gB3,0,none⟩ = some _:=(blk_cell B3.out 0).trans rfl;have hB35_1 : wm.cell? ⟨gB3,1,none⟩ = some _:=(blk_cell B3.out 1).trans rfl;have hB35_2 : wm.cell? ⟨gB3,2,none⟩ = some _:=(blk_cell B3.out 2).trans rfl;have hB35_3 : wm.cell? ⟨gB3,3,none⟩ = some _:=(blk_cell B3.out 3).trans rfl;have hB35_4 : wm.cell? ⟨gB3,4,none⟩ = some _:=(blk_cell B3.out 4).trans rfl;have hB35_5 : wm.cell? ⟨gB3,5,none⟩ = some _:=(blk_cell B3.out 5).trans rfl;have hB65_0 : wm.cell? ⟨gB6,0,none⟩ = some _:=(blk_cell B6.out 0).trans rfl;have hB95_0 : wm.cell? ⟨gB9,0,none⟩ = some _:=(blk_cell B9.out 0).trans rfl;have hB95_1 : wm.cell? ⟨gB9,1,none⟩ = some _:=(blk_cell B9.out 1).trans rfl;have hB95_2 : wm.cell? ⟨gB9,2,none⟩ = some _:=(blk_cell B9.out 2).trans rfl;have hB95_3 : wm.cell? ⟨gB9,3,none⟩ = some _:=(blk_cell B9.out 3).trans rfl;have hB95_4 : wm.cell? ⟨gB9,4,none⟩ = some _:=(blk_cell B9.out 4).trans rfl;have hB95_5 : wm.cell? ⟨gB9,5,none⟩ = some _:=(blk_cell B9.out 5).trans rfl))
     refine ⟨⟨i + 1,L1,by simp [hw],h,⟨H⟩,⟨HM.out.mono (Nat.le_succ _)⟩,B2,B3,B4,B6,HB⟩,?_⟩
     simp only [intOf,hw]
     omega
    | true =>
     rw [if_pos rfl] at hcb
     obtain ⟨c,hcmp,hcb⟩:=Option.bind_eq_some_iff.mp hcb
     replace hcmp : ver_Compare.f fuelR y.f1.f0 y.f1.f1 y.f1.f2 y.f1.f3 y.f1.f4 x.f1.f0 x.f1.f1 x.f1.f2 x.f1.f3 x.f1.f4 = some c:=hcmp
     by_cases hc0 : c < 0
     ·have hcc : (c < 0) = True:=eq_true hc0
      rw [if_pos hc0] at hcb
      obtain ⟨o,hout,hcb⟩:=Option.bind_eq_some_iff.mp hcb
      cases o with
      | true =>
       obtain rfl:=Option.some.inj hcb
       replace H : lowP b nodes x L1 (nodes.drop (i + 1)) = some Lf:=H
       go_wp2_with (first | ((with_reducible refine gate_dst (N:=8) rfl ?_);refine box_event ?hg (N:=8) ?hd (cs:=#[.string (⟨#[]⟩ : ByteArray),.int .i64 0,.int .i64 0,.int .i64 0,.string (⟨#[]⟩ : ByteArray),.string (⟨#[]⟩ : ByteArray),.slice none 0 0]) (t:=70) ?hr ?_;(case hd => rfl);(case hg => rfl);(case hr => first | (go_simp;done) | (go_simp;rfl));intro gB8 hg_ w8 hbox hb_;have GEB8:=Aside0.mk (q41_ : w.heap.size ≤ gB8);have NMB8:=Aside0.mk (q27_ : bm ≠ gB8);have NB2B8:=Aside0.mk (q25_ : gB2 ≠ gB8);have NB3B8:=Aside0.mk (q24_ : gB3 ≠ gB8);have NB4B8:=Aside0.mk (q34_ : gB4 ≠ gB8);have NB6B8:=Aside0.mk (q40_ : gB6 ≠ gB8);replace HB:=Aside0.mk (below_then HB.out HB.out.size hb_);replace HM:=Aside0.mk (HM.out.below hb_);replace B2:=Aside0.mk (blk_below B2.out hb_);replace B3:=Aside0.mk (blk_below B3.out hb_);replace B4:=Aside0.mk (blk_below B4.out hb_);replace B6:=Aside0.mk (blk_below B6.out hb_);have B8:=Aside0.mk hbox;clear hbox hb_ hg_) | ((with_reducible refine gate_ (.store 70 (.tmp 8) (.tmp 20)) rfl ?_);refine store_event 70 (.tmp 8) (.tmp 20) rfl rfl rfl 0 70 _ #[.string y.f0,.int .i64 y.f1.f0,.int .i64 y.f1.f1,.int .i64 y.f1.f2,.string y.f1.f3,.string y.f1.f4,.slice A6 n1.length c6] _ [.string y.f0,.int .i64 y.f1.f0,.int .i64 y.f1.f1,.int .i64 y.f1.f2,.string y.f1.f3,.string y.f1.f4,.slice A6 n1.length c6] rfl rfl rfl q3_ q26_ B8.out (Nat.le_refl 7) q45_ ?_;intro w81 hn_ hg_;replace HB:=Aside0.mk (below_grown HB.out hg_ GEB8.out HB.out.size);replace HM:=Aside0.mk (HM.out.kept hg_ (fun he => NMB8.out (Option.some.inj he)));replace B2:=Aside0.mk (blk_grown B2.out hg_ (fun he => NB2B8.out (Option.some.inj he)));replace B3:=Aside0.mk (blk_grown B3.out hg_ (fun he => NB3B8.out (Option.some.inj he)));replace B4:=Aside0.mk (blk_grown B4.out hg_ (fun he => NB4B8.out (Option.some.inj he)));replace B6:=Aside0.mk (blk_grown B6.out hg_ (fun he => NB6B8.out (Option.some.inj he)));replace B8:=Aside0.mk hn_;clear hg_ hn_;have hB82_0 : w81.cell? ⟨gB8,0,none⟩ = some _:=(blk_cell B8.out 0).trans rfl;have hB82_1 : w81.cell? ⟨gB8,1,none⟩ = some _:=(blk_cell B8.out 1).trans rfl;have hB82_2 : w81.cell? ⟨gB8,2,none⟩ = some _:=(blk_cell B8.out 2).trans rfl;have hB82_3 : w81.cell? ⟨gB8,3,none⟩ = some _:=(blk_cell B8.out 3).trans rfl;have hB82_4 : w81.cell? ⟨gB8,4,none⟩ = some _:=(blk_cell B8.out 4).trans rfl;have hB82_5 : w81.cell? ⟨gB8,5,none⟩ = some _:=(blk_cell B8.out 5).trans rfl;have hB82_6 : w81.cell? ⟨gB8,6,none⟩ = some _:=(blk_cell B8.out 6).trans rfl) | ((with_reducible refine gate_dst (N:=9) rfl ?_);refine box_event ?hg (N:=9) ?hd (cs:=#[.string (⟨#[]⟩ : ByteArray),.int .i64 0,.int .i64 0,.int .i64 0,.string (⟨#[]⟩ : ByteArray),.string (⟨#[]⟩ : ByteArray)]) (t:=41) ?hr ?_;(case hd => rfl);(case hg => rfl);(case hr => first | (go_simp;done) | (go_simp;rfl));intro gB9 hg_ w9 hbox hb_;have GEB9:=Aside0.mk (q41_ : w.heap.size ≤ gB9);have NMB9:=Aside0.mk (q27_ : bm ≠ gB9);have NB2B9:=Aside0.mk (q25_ : gB2 ≠ gB9);have NB3B9:=Aside0.mk (q24_ : gB3 ≠ gB9);have NB4B9:=Aside0.mk (q34_ : gB4 ≠ gB9);have NB6B9:=Aside0.mk (q40_ : gB6 ≠ gB9);have NB8B9:=Aside0.mk (q49_ : gB8 ≠ gB9);replace HB:=Aside0.mk (below_then HB.out HB.out.size hb_);replace HM:=Aside0.mk (HM.out.below hb_);replace B2:=Aside0.mk (blk_below B2.out hb_);replace B3:=Aside0.mk (blk_below B3.out hb_);replace B4:=Aside0.mk (blk_below B4.out hb_);replace B6:=Aside0.mk (blk_below B6.out hb_);replace B8:=Aside0.mk (blk_below B8.out hb_);have B9:=Aside0.mk hbox;clear hbox hb_ hg_) | ((with_reducible refine gate_ (.store 41 (.tmp 9) (.tmp 22)) rfl ?_);refine store_event 41 (.tmp 9) (.tmp 22) rfl rfl rfl 0 41 _ #[.string y.f0,.int .i64 y.f1.f0,.int .i64 y.f1.f1,.int .i64 y.f1.f2,.string y.f1.f3,.string y.f1.f4] _ [.string y.f0,.int .i64 y.f1.f0,.int .i64 y.f1.f1,.int .i64 y.f1.f2,.string y.f1.f3,.string y.f1.f4] rfl rfl rfl q3_ q26_ B9.out (Nat.le_refl 6) q45_ ?_;intro w91 hn_ hg_;replace HB:=Aside0.mk (below_grown HB.out hg_ GEB9.out HB.out.size);replace HM:=Aside0.mk (HM.out.kept hg_ (fun he => NMB9.out (Option.some.inj he)));replace B2:=Aside0.mk (blk_grown B2.out hg_ (fun he => NB2B9.out (Option.some.inj he)));replace B3:=Aside0.mk (blk_grown B3.out hg_ (fun he => NB3B9.out (Option.some.inj he)));replace B4:=Aside0.mk (blk_grown B4.out hg_ (fun he => NB4B9.out (Option.some.inj he)));replace B6:=Aside0.mk (blk_grown B6.out hg_ (fun he => NB6B9.out (Option.some.inj he)));replace B8:=Aside0.mk (blk_grown B8.out hg_ (fun he => NB8B9.out (Option.some.inj he)));replace B9:=Aside0.mk hn_;clear hg_ hn_;have hB24_0 : w91.cell? ⟨gB2,0,none⟩ = some _:=(blk_cell B2.out 0).trans rfl;have hB24_1 : w91.cell? ⟨gB2,1,none⟩ = some _:=(blk_cell B2.out 1).trans rfl;have hB24_2 : w91.cell? ⟨gB2,2,none⟩ = some _:=(blk_cell B2.out 2).trans rfl;have hB24_3 : w91.cell? ⟨gB2,3,none⟩ = some _:=(blk_cell B2.out 3).trans rfl;have hB24_4 : w91.cell? ⟨gB2,4,none⟩ = some _:=(blk_cell B2.out 4).trans rfl;have hB24_5 : w91.cell? ⟨gB2,5,none⟩ = some _:=(blk_cell B2.out 5).trans rfl;have hB24_6 : w91.cell? ⟨gB2,6,none⟩ = some _:=(blk_cell B2.out 6).trans rfl;have hB34_0 : w91.cell? ⟨gB3,0,none⟩ = some _:=(blk_cell B3.out 0).trans rfl;have hB34_1 : w91.cell? ⟨gB3,1,none⟩ = some _:=(blk_cell B3.out 1).trans rfl;have hB34_2 : w91.cell? ⟨gB3,2,none⟩ = some _:=(blk_cell B3.out 2).trans rfl;have hB34_3 : w91.cell? ⟨gB3,3,none⟩ = some _:=(blk_cell B3.out 3).trans rfl;have hB34_4 : w91.cell? ⟨gB3,4,none⟩ = some _:=(blk_cell B3.out 4).trans rfl;have hB34_5 : w91.cell? ⟨gB3,5,none⟩ = some _:=(blk_cell B3.out 5).trans rfl;have hB64_0 : w91.cell? ⟨gB6,0,none⟩ = some _:=(blk_cell B6.out 0).trans rfl;have hB94_0 : w91.cell? ⟨gB9,0,none⟩ = some _:=(blk_cell B9.out 0).trans rfl;have hB94_1 : w91.cell? ⟨gB9,1,none⟩ = some _:=(blk_cell B9.out 1).trans rfl;have hB94_2 : w91.cell? ⟨gB9,2,none⟩ = some _:=(blk_cell B9.out 2).trans rfl;have hB94_3 : w91.cell? ⟨gB9,3,none⟩ = some _:=(blk_cell B9.out 3).trans rfl;have hB94_4 : w91.cell? ⟨gB9,4,none⟩ = some _:=(blk_cell B9.out 4).trans rfl;have hB94_5 : w91.cell? ⟨gB9,5,none⟩ = some _:=(blk_cell B9.out 5).trans rfl) | (go_at_call 59;(with_reducible refine (mvs_may.calls fuelR y.f0 y.f1.f0 y.f1.f1 y.f1.f2 y.f1.f3 y.f1.f4 true _ hmay ?sideG).mono ?_);(case sideG => exact Env.below HE.out HB.out);rintro e wm ⟨rfl,hb_⟩;replace HB:=Aside0.mk (below_then HB.out HB.out.size hb_);replace HM:=Aside0.mk (HM.out.below hb_);replace B2:=Aside0.mk (blk_below B2.out hb_);replace B3:=Aside0.mk (blk_below B3.out hb_);replace B4:=Aside0.mk (blk_below B4.out hb_);replace B6:=Aside0.mk (blk_below B6.out hb_);replace B8:=Aside0.mk (blk_below B8.out hb_);replace B9:=Aside0.mk (blk_below B9.out hb_);clear hb_;have hB25_0 : wm.cell? ⟨gB2,0,none⟩ = some _:=(blk_cell B2.out 0).trans rfl;have hB25_1 : wm.cell? ⟨gB2,1,none⟩ = some _:=(blk_cell B2.out 1).trans rfl;have hB25_2 : wm.cell? ⟨gB2,2,none⟩ = some _:=(blk_cell B2.out 2).trans rfl;have hB25_3 : wm.cell? ⟨gB2,3,none⟩ = some _:=(blk_cell B2.out 3).trans rfl;have hB25_4 : wm.cell? ⟨gB2,4,none⟩ = some _:=(blk_cell B2.out 4).trans rfl;have hB25_5 : wm.cell? ⟨gB2,5,none⟩ = some _:=(blk_cell B2.out 5).trans rfl;have hB25_6 : wm.cell? ⟨gB2,6,none⟩ = some _:=(blk_cell B2.out 6).trans rfl;have hB35_0 : wm.cell? ⟨gB3,0,none⟩ = some _:=(blk_cell B3.out 0).trans rfl;have hB35_1 : wm.cell? ⟨gB3,1,none⟩ = some _:=(blk_cell B3.out 1).trans rfl;have hB35_2 : wm.cell? ⟨gB3,2,none⟩ = some _:=(blk_cell B3.out 2).trans rfl;have hB35_3 : wm.cell? ⟨gB3,3,none⟩ = some _:=(blk_cell B3.out 3).trans rfl;have hB35_4 : wm.cell? ⟨gB3,4,none⟩ = some _:=(blk_cell B3.out 4).trans rfl;have hB35_5 : wm.cell? ⟨gB3,5,none⟩ = some _:=(blk_cell B3.out 5).trans rfl;have hB65_0 : wm.cell? ⟨gB6,0,none⟩ = some _:=(blk_cell B6.out 0).trans rfl;have hB95_0 : wm.cell? ⟨gB9,0,none⟩ = some _:=(blk_cell B9.out 0).trans rfl;have hB95_1 : wm.cell? ⟨gB9,1,none⟩ = some _:=(blk_cell B9.out 1).trans rfl;have hB95_2 : wm.cell? ⟨gB9,2,none⟩ = some _:=(blk_cell B9.out 2).trans rfl;have hB95_3 : wm.cell? ⟨gB9,3,none⟩ = some _:=(blk_cell B9.out 3).trans rfl;have hB95_4 : wm.cell? ⟨gB9,4,none⟩ = some _:=(blk_cell B9.out 4).trans rfl;have hB95_5 : wm.cell? ⟨gB9,5,none⟩ = some _:=(blk_cell B9.out 5).trans rfl) | (go_at_call 44;(with_reducible refine (ver_Compare.calls fuelR y.f1.f0 y.f1.f1 y.f1.f2 y.f1.f3 y.f1.f4 x.f1.f0 x.f1.f1 x.f1.f2 x.f1.f3 x.f1.f4 c _ hcmp ?sideG).mono ?_);(case sideG => exact Env.below HE.out HB.out);rintro e wk ⟨rfl,hb_⟩;replace HB:=Aside0.mk (below_then HB.out HB.out.size hb_);replace HM:=Aside0.mk (HM.out.below hb_);replace B2:=Aside0.mk (blk_below B2.out hb_);replace B3:=Aside0.mk (blk_below B3.out hb_);replace B4:=Aside0.mk (blk_below B4.out hb_);replace B6:=Aside0.mk (blk_below B6.out hb_);replace B8:=Aside0.mk (blk_below B8.out hb_);replace B9:=Aside0.mk (blk_below B9.out hb_);clear hb_;have hB26_0 : wk.cell? ⟨gB2,0,none⟩ = some _:=(blk_cell B2.out 0).trans rfl;have hB26_1 : wk.cell? ⟨gB2,1,none⟩ = some _:=(blk_cell B2.out 1).trans rfl;have hB26_2 : wk.cell? ⟨gB2,2,none⟩ = some _:=(blk_cell B2.out 2).trans rfl;have hB26_3 : wk.cell? ⟨gB2,3,none⟩ = some _:=(blk_cell B2.out 3).trans rfl;have hB26_4 : wk.cell? ⟨gB2,4,none⟩ = some _:=(blk_cell B2.out 4).trans rfl;have hB26_5 : wk.cell? ⟨gB2,5,none⟩ = some _:=(blk_cell B2.out 5).trans rfl;have hB26_6 : wk.cell? ⟨gB2,6,none⟩ = some _:=(blk_cell B2.out 6).trans rfl;have hB66_0 : wk.cell? ⟨gB6,0,none⟩ = some _:=(blk_cell B6.out 0).trans rfl;have hB96_0 : wk.cell? ⟨gB9,0,none⟩ = some _:=(blk_cell B9.out 0).trans rfl;have hB96_1 : wk.cell? ⟨gB9,1,none⟩ = some _:=(blk_cell B9.out 1).trans rfl;have hB96_2 : wk.cell? ⟨gB9,2,none⟩ = some _:=(blk_cell B9.out 2).trans rfl;have hB96_3 : wk.cell? ⟨gB9,3,none⟩ = some _:=(blk_cell B9.out 3).trans rfl;have hB96_4 : wk.cell? ⟨gB9,4,none⟩ = some _:=(blk_cell B9.out 4).trans rfl;have hB96_5 : wk.cell? ⟨gB9,5,none⟩ = some _:=(blk_cell B9.out 5).trans rfl) | (go_at_call 62;(with_reducible refine (out_calls b y (some ad) c1 nodes true _ (Kd.C_below HN.out HB.out) HC.out hout (Env.below HE.out HB.out)).mono ?_);rintro e wo ⟨rfl,hb_⟩;replace HB:=Aside0.mk (below_then HB.out HB.out.size hb_);replace HM:=Aside0.mk (HM.out.below hb_);replace B2:=Aside0.mk (blk_below B2.out hb_);replace B3:=Aside0.mk (blk_below B3.out hb_);replace B4:=Aside0.mk (blk_below B4.out hb_);replace B6:=Aside0.mk (blk_below B6.out hb_);replace B8:=Aside0.mk (blk_below B8.out hb_);replace B9:=Aside0.mk (blk_below B9.out hb_);clear hb_;have hB67_0 : wo.cell? ⟨gB6,0,none⟩ = some _:=(blk_cell B6.out 0).trans rfl;have hB97_0 : wo.cell? ⟨gB9,0,none⟩ = some _:=(blk_cell B9.out 0).trans rfl;have hB97_1 : wo.cell? ⟨gB9,1,none⟩ = some _:=(blk_cell B9.out 1).trans rfl;have hB97_2 : wo.cell? ⟨gB9,2,none⟩ = some _:=(blk_cell B9.out 2).trans rfl;have hB97_3 : wo.cell? ⟨gB9,3,none⟩ = some _:=(blk_cell B9.out 3).trans rfl;have hB97_4 : wo.cell? ⟨gB9,4,none⟩ = some _:=(blk_cell B9.out 4).trans rfl;have hB97_5 : wo.cell? ⟨gB9,5,none⟩ = some _:=(blk_cell B9.out 5).trans rfl))
       refine ⟨⟨i + 1,L1,by simp [hw],h,⟨H⟩,⟨HM.out.mono (Nat.le_succ _)⟩,B2,B3,B4,B6,HB⟩,?_⟩
       simp only [intOf,hw]
       omega
      | false =>
       obtain rfl:=Option.some.inj hcb
       rw [Bool.not_false,if_pos rfl] at H
       obtain ⟨L2,ht,H⟩:=Option.bind_eq_some_iff.mp H
       go_wp2_with (first | ((with_reducible refine gate_dst (N:=8) rfl ?_);refine box_event ?hg (N:=8) ?hd (cs:=#[.string (⟨#[]⟩ : ByteArray),.int .i64 0,.int .i64 0,.int .i64 0,.string (⟨#[]⟩ : ByteArray),.string (⟨#[]⟩ : ByteArray),.slice none 0 0]) (t:=70) ?hr ?_;(case hd => rfl);(case hg => rfl);(case hr => first | (go_simp;done) | (go_simp;rfl));intro gB8 hg_ w8 hbox hb_;have GEB8:=Aside0.mk (q41_ : w.heap.size ≤ gB8);have NMB8:=Aside0.mk (q27_ : bm ≠ gB8);have NB2B8:=Aside0.mk (q25_ : gB2 ≠ gB8);have NB3B8:=Aside0.mk (q24_ : gB3 ≠ gB8);have NB4B8:=Aside0.mk (q34_ : gB4 ≠ gB8);have NB6B8:=Aside0.mk (q40_ : gB6 ≠ gB8);replace HB:=Aside0.mk (below_then HB.out HB.out.size hb_);replace HM:=Aside0.mk (HM.out.below hb_);replace B2:=Aside0.mk (blk_below B2.out hb_);replace B3:=Aside0.mk (blk_below B3.out hb_);replace B4:=Aside0.mk (blk_below B4.out hb_);replace B6:=Aside0.mk (blk_below B6.out hb_);have B8:=Aside0.mk hbox;clear hbox hb_ hg_) | ((with_reducible refine gate_ (.store 70 (.tmp 8) (.tmp 20)) rfl ?_);refine store_event 70 (.tmp 8) (.tmp 20) rfl rfl rfl 0 70 _ #[.string y.f0,.int .i64 y.f1.f0,.int .i64 y.f1.f1,.int .i64 y.f1.f2,.string y.f1.f3,.string y.f1.f4,.slice A6 n1.length c6] _ [.string y.f0,.int .i64 y.f1.f0,.int .i64 y.f1.f1,.int .i64 y.f1.f2,.string y.f1.f3,.string y.f1.f4,.slice A6 n1.length c6] rfl rfl rfl q3_ q26_ B8.out (Nat.le_refl 7) q45_ ?_;intro w81 hn_ hg_;replace HB:=Aside0.mk (below_grown HB.out hg_ GEB8.out HB.out.size);replace HM:=Aside0.mk (HM.out.kept hg_ (fun he => NMB8.out (Option.some.inj he)));replace B2:=Aside0.mk (blk_grown B2.out hg_ (fun he => NB2B8.out (Option.some.inj he)));replace B3:=Aside0.mk (blk_grown B3.out hg_ (fun he => NB3B8.out (Option.some.inj he)));replace B4:=Aside0.mk (blk_grown B4.out hg_ (fun he => NB4B8.out (Option.some.inj he)));replace B6:=Aside0.mk (blk_grown B6.out hg_ (fun he => NB6B8.out (Option.some.inj he)));replace B8:=Aside0.mk hn_;clear hg_ hn_;have hB82_0 : w81.cell? ⟨gB8,0,none⟩ = some _:=(blk_cell B8.out 0).trans rfl;have hB82_1 : w81.cell? ⟨gB8,1,none⟩ = some _:=(blk_cell B8.out 1).trans rfl;have hB82_2 : w81.cell? ⟨gB8,2,none⟩ = some _:=(blk_cell B8.out 2).trans rfl;have hB82_3 : w81.cell? ⟨gB8,3,none⟩ = some _:=(blk_cell B8.out 3).trans rfl;have hB82_4 : w81.cell? ⟨gB8,4,none⟩ = some _:=(blk_cell B8.out 4).trans rfl;have hB82_5 : w81.cell? ⟨gB8,5,none⟩ = some _:=(blk_cell B8.out 5).trans rfl;have hB82_6 : w81.cell? ⟨gB8,6,none⟩ = some _:=(blk_cell B8.out 6).trans rfl) | ((with_reducible refine gate_dst (N:=9) rfl ?_);refine box_event ?hg (N:=9) ?hd (cs:=#[.string (⟨#[]⟩ : ByteArray),.int .i64 0,.int .i64 0,.int .i64 0,.string (⟨#[]⟩ : ByteArray),.string (⟨#[]⟩ : ByteArray)]) (t:=41) ?hr ?_;(case hd => rfl);(case hg => rfl);(case hr => first | (go_simp;done) | (go_simp;rfl));intro gB9 hg_ w9 hbox hb_;have GEB9:=Aside0.mk (q41_ : w.heap.size ≤ gB9);have NMB9:=Aside0.mk (q27_ : bm ≠ gB9);have NB2B9:=Aside0.mk (q25_ : gB2 ≠ gB9);have NB3B9:=Aside0.mk (q24_ : gB3 ≠ gB9);have NB4B9:=Aside0.mk (q34_ : gB4 ≠ gB9);have NB6B9:=Aside0.mk (q40_ : gB6 ≠ gB9);have NB8B9:=Aside0.mk (q49_ : gB8 ≠ gB9);replace HB:=Aside0.mk (below_then HB.out HB.out.size hb_);replace HM:=Aside0.mk (HM.out.below hb_);replace B2:=Aside0.mk (blk_below B2.out hb_);replace B3:=Aside0.mk (blk_below B3.out hb_);replace B4:=Aside0.mk (blk_below B4.out hb_);replace B6:=Aside0.mk (blk_below B6.out hb_);replace B8:=Aside0.mk (blk_below B8.out hb_);have B9:=Aside0.mk hbox;clear hbox hb_ hg_) | ((with_reducible refine gate_ (.store 41 (.tmp 9) (.tmp 22)) rfl ?_);refine store_event 41 (.tmp 9) (.tmp 22) rfl rfl rfl 0 41 _ #[.string y.f0,.int .i64 y.f1.f0,.int .i64 y.f1.f1,.int .i64 y.f1.f2,.string y.f1.f3,.string y.f1.f4] _ [.string y.f0,.int .i64 y.f1.f0,.int .i64 y.f1.f1,.int .i64 y.f1.f2,.string y.f1.f3,.string y.f1.f4] rfl rfl rfl q3_ q26_ B9.out (Nat.le_refl 6) q45_ ?_;intro w91 hn_ hg_;replace HB:=Aside0.mk (below_grown HB.out hg_ GEB9.out HB.out.size);replace HM:=Aside0.mk (HM.out.kept hg_ (fun he => NMB9.out (Option.some.inj he)));replace B2:=Aside0.mk (blk_grown B2.out hg_ (fun he => NB2B9.out (Option.some.inj he)));replace B3:=Aside0.mk (blk_grown B3.out hg_ (fun he => NB3B9.out (Option.some.inj he)));replace B4:=Aside0.mk (blk_grown B4.out hg_ (fun he => NB4B9.out (Option.some.inj he)));replace B6:=Aside0.mk (blk_grown B6.out hg_ (fun he => NB6B9.out (Option.some.inj he)));replace B8:=Aside0.mk (blk_grown B8.out hg_ (fun he => NB8B9.out (Option.some.inj he)));replace B9:=Aside0.mk hn_;clear hg_ hn_;have hB24_0 : w91.cell? ⟨gB2,0,none⟩ = some _:=(blk_cell B2.out 0).trans rfl;have hB24_1 : w91.cell? ⟨gB2,1,none⟩ = some _:=(blk_cell B2.out 1).trans rfl;have hB24_2 : w91.cell? ⟨gB2,2,none⟩ = some _:=(blk_cell B2.out 2).trans rfl;have hB24_3 : w91.cell? ⟨gB2,3,none⟩ = some _:=(blk_cell B2.out 3).trans rfl;have hB24_4 : w91.cell? ⟨gB2,4,none⟩ = some _:=(blk_cell B2.out 4).trans rfl;have hB24_5 : w91.cell? ⟨gB2,5,none⟩ = some _:=(blk_cell B2.out 5).trans rfl;have hB24_6 : w91.cell? ⟨gB2,6,none⟩ = some _:=(blk_cell B2.out 6).trans rfl;have hB34_0 : w91.cell? ⟨gB3,0,none⟩ = some _:=(blk_cell B3.out 0).trans rfl;have hB34_1 : w91.cell? ⟨gB3,1,none⟩ = some _:=(blk_cell B3.out 1).trans rfl;have hB34_2 : w91.cell? ⟨gB3,2,none⟩ = some _:=(blk_cell B3.out 2).trans rfl;have hB34_3 : w91.cell? ⟨gB3,3,none⟩ = some _:=(blk_cell B3.out 3).trans rfl;have hB34_4 : w91.cell? ⟨gB3,4,none⟩ = some _:=(blk_cell B3.out 4).trans rfl;have hB34_5 : w91.cell? ⟨gB3,5,none⟩ = some _:=(blk_cell B3.out 5).trans rfl;have hB64_0 : w91.cell? ⟨gB6,0,none⟩ = some _:=(blk_cell B6.out 0).trans rfl;have hB94_0 : w91.cell? ⟨gB9,0,none⟩ = some _:=(blk_cell B9.out 0).trans rfl;have hB94_1 : w91.cell? ⟨gB9,1,none⟩ = some _:=(blk_cell B9.out 1).trans rfl;have hB94_2 : w91.cell? ⟨gB9,2,none⟩ = some _:=(blk_cell B9.out 2).trans rfl;have hB94_3 : w91.cell? ⟨gB9,3,none⟩ = some _:=(blk_cell B9.out 3).trans rfl;have hB94_4 : w91.cell? ⟨gB9,4,none⟩ = some _:=(blk_cell B9.out 4).trans rfl;have hB94_5 : w91.cell? ⟨gB9,5,none⟩ = some _:=(blk_cell B9.out 5).trans rfl) | (go_at_call 59;(with_reducible refine (mvs_may.calls fuelR y.f0 y.f1.f0 y.f1.f1 y.f1.f2 y.f1.f3 y.f1.f4 true _ hmay ?sideG).mono ?_);(case sideG => exact Env.below HE.out HB.out);rintro e wm ⟨rfl,hb_⟩;replace HB:=Aside0.mk (below_then HB.out HB.out.size hb_);replace HM:=Aside0.mk (HM.out.below hb_);replace B2:=Aside0.mk (blk_below B2.out hb_);replace B3:=Aside0.mk (blk_below B3.out hb_);replace B4:=Aside0.mk (blk_below B4.out hb_);replace B6:=Aside0.mk (blk_below B6.out hb_);replace B8:=Aside0.mk (blk_below B8.out hb_);replace B9:=Aside0.mk (blk_below B9.out hb_);clear hb_;have hB25_0 : wm.cell? ⟨gB2,0,none⟩ = some _:=(blk_cell B2.out 0).trans rfl;have hB25_1 : wm.cell? ⟨gB2,1,none⟩ = some _:=(blk_cell B2.out 1).trans rfl;have hB25_2 : wm.cell? ⟨gB2,2,none⟩ = some _:=(blk_cell B2.out 2).trans rfl;have hB25_3 : wm.cell? ⟨gB2,3,none⟩ = some _:=(blk_cell B2.out 3).trans rfl;have hB25_4 : wm.cell? ⟨gB2,4,none⟩ = some _:=(blk_cell B2.out 4).trans rfl;have hB25_5 : wm.cell? ⟨gB2,5,none⟩ = some _:=(blk_cell B2.out 5).trans rfl;have hB25_6 : wm.cell? ⟨gB2,6,none⟩ = some _:=(blk_cell B2.out 6).trans rfl;have hB35_0 : wm.cell? ⟨gB3,0,none⟩ = some _:=(blk_cell B3.out 0).trans rfl;have hB35_1 : wm.cell? ⟨gB3,1,none⟩ = some _:=(blk_cell B3.out 1).trans rfl;have hB35_2 : wm.cell? ⟨gB3,2,none⟩ = some _:=(blk_cell B3.out 2).trans rfl;have hB35_3 : wm.cell? ⟨gB3,3,none⟩ = some _:=(blk_cell B3.out 3).trans rfl;have hB35_4 : wm.cell? ⟨gB3,4,none⟩ = some _:=(blk_cell B3.out 4).trans rfl;have hB35_5 : wm.cell? ⟨gB3,5,none⟩ = some _:=(blk_cell B3.out 5).trans rfl;have hB65_0 : wm.cell? ⟨gB6,0,none⟩ = some _:=(blk_cell B6.out 0).trans rfl;have hB95_0 : wm.cell? ⟨gB9,0,none⟩ = some _:=(blk_cell B9.out 0).trans rfl;have hB95_1 : wm.cell? ⟨gB9,1,none⟩ = some _:=(blk_cell B9.out 1).trans rfl;have hB95_2 : wm.cell? ⟨gB9,2,none⟩ = some _:=(blk_cell B9.out 2).trans rfl;have hB95_3 : wm.cell? ⟨gB9,3,none⟩ = some _:=(blk_cell B9.out 3).trans rfl;have hB95_4 : wm.cell? ⟨gB9,4,none⟩ = some _:=(blk_cell B9.out 4).trans rfl;have hB95_5 : wm.cell? ⟨gB9,5,none⟩ = some _:=(blk_cell B9.out 5).trans rfl) | (go_at_call 44;(with_reducible refine (ver_Compare.calls fuelR y.f1.f0 y.f1.f1 y.f1.f2 y.f1.f3 y.f1.f4 x.f1.f0 x.f1.f1 x.f1.f2 x.f1.f3 x.f1.f4 c _ hcmp ?sideG).mono ?_);(case sideG => exact Env.below HE.out HB.out);rintro e wk ⟨rfl,hb_⟩;replace HB:=Aside0.mk (below_then HB.out HB.out.size hb_);replace HM:=Aside0.mk (HM.out.below hb_);replace B2:=Aside0.mk (blk_below B2.out hb_);replace B3:=Aside0.mk (blk_below B3.out hb_);replace B4:=Aside0.mk (blk_below B4.out hb_);replace B6:=Aside0.mk (blk_below B6.out hb_);replace B8:=Aside0.mk (blk_below B8.out hb_);replace B9:=Aside0.mk (blk_below B9.out hb_);clear hb_;have hB26_0 : wk.cell? ⟨gB2,0,none⟩ = some _:=(blk_cell B2.out 0).trans rfl;have hB26_1 : wk.cell? ⟨gB2,1,none⟩ = some _:=(blk_cell B2.out 1).trans rfl;have hB26_2 : wk.cell? ⟨gB2,2,none⟩ = some _:=(blk_cell B2.out 2).trans rfl;have hB26_3 : wk.cell? ⟨gB2,3,none⟩ = some _:=(blk_cell B2.out 3).trans rfl;have hB26_4 : wk.cell? ⟨gB2,4,none⟩ = some _:=(blk_cell B2.out 4).trans rfl;have hB26_5 : wk.cell? ⟨gB2,5,none⟩ = some _:=(blk_cell B2.out 5).trans rfl;have hB26_6 : wk.cell? ⟨gB2,6,none⟩ = some _:=(blk_cell B2.out 6).trans rfl;have hB66_0 : wk.cell? ⟨gB6,0,none⟩ = some _:=(blk_cell B6.out 0).trans rfl;have hB96_0 : wk.cell? ⟨gB9,0,none⟩ = some _:=(blk_cell B9.out 0).trans rfl;have hB96_1 : wk.cell? ⟨gB9,1,none⟩ = some _:=(blk_cell B9.out 1).trans rfl;have hB96_2 : wk.cell? ⟨gB9,2,none⟩ = some _:=(blk_cell B9.out 2).trans rfl;have hB96_3 : wk.cell? ⟨gB9,3,none⟩ = some _:=(blk_cell B9.out 3).trans rfl;have hB96_4 : wk.cell? ⟨gB9,4,none⟩ = some _:=(blk_cell B9.out 4).trans rfl;have hB96_5 : wk.cell? ⟨gB9,5,none⟩ = some _:=(blk_cell B9.out 5).trans rfl) | (go_at_call 62;(with_reducible refine (out_calls b y (some ad) c1 nodes false _ (Kd.C_below HN.out HB.out) HC.out hout (Env.below HE.out HB.out)).mono ?_);rintro e wo ⟨rfl,hb_⟩;replace HB:=Aside0.mk (below_then HB.out HB.out.size hb_);replace HM:=Aside0.mk (HM.out.below hb_);replace B2:=Aside0.mk (blk_below B2.out hb_);replace B3:=Aside0.mk (blk_below B3.out hb_);replace B4:=Aside0.mk (blk_below B4.out hb_);replace B6:=Aside0.mk (blk_below B6.out hb_);replace B8:=Aside0.mk (blk_below B8.out hb_);replace B9:=Aside0.mk (blk_below B9.out hb_);clear hb_;have hB67_0 : wo.cell? ⟨gB6,0,none⟩ = some _:=(blk_cell B6.out 0).trans rfl;have hB97_0 : wo.cell? ⟨gB9,0,none⟩ = some _:=(blk_cell B9.out 0).trans rfl;have hB97_1 : wo.cell? ⟨gB9,1,none⟩ = some _:=(blk_cell B9.out 1).trans rfl;have hB97_2 : wo.cell? ⟨gB9,2,none⟩ = some _:=(blk_cell B9.out 2).trans rfl;have hB97_3 : wo.cell? ⟨gB9,3,none⟩ = some _:=(blk_cell B9.out 3).trans rfl;have hB97_4 : wo.cell? ⟨gB9,4,none⟩ = some _:=(blk_cell B9.out 4).trans rfl;have hB97_5 : wo.cell? ⟨gB9,5,none⟩ = some _:=(blk_cell B9.out 5).trans rfl) | (go_at_call 52;(with_reducible refine (take_calls bm i L1 L2 y w _ HB.out MB.out HE.out HM.out hni ht).mono ?_);rintro e wt ⟨rfl,hm_,hb_,hg_⟩;have n1:=Aside0.mk hm_;have n2:=Aside0.mk hb_;have nB2:=Aside0.mk (blk_grown B2.out hg_ (fun he => M2.out (Option.some.inj he)));have nB3:=Aside0.mk (blk_grown B3.out hg_ (fun he => M3.out (Option.some.inj he)));have nB4:=Aside0.mk (blk_grown B4.out hg_ (fun he => M4.out (Option.some.inj he)));have nB6:=Aside0.mk (blk_grown B6.out hg_ (fun he => NMB6.out (Option.some.inj he).symm));clear HM HB B2 B3 B4 B6 B8 B9 hm_ hb_ hg_;have HM:=n1;have HB:=n2;have B2:=nB2;have B3:=nB3;have B4:=nB4;have B6:=nB6;clear n1 n2 nB2 nB3 nB4 nB6))
       refine ⟨⟨i + 1,L2,by simp [hw],h,⟨H⟩,HM,B2,B3,B4,B6,HB⟩,?_⟩
       simp only [intOf,hw]
       omega
     ·have hcc : (c < 0) = False:=eq_false hc0
      rw [if_neg hc0] at hcb
      obtain rfl:=Option.some.inj hcb
      replace H : lowP b nodes x L1 (nodes.drop (i + 1)) = some Lf:=H
      go_wp2_with (first | ((with_reducible refine gate_dst (N:=8) rfl ?_);refine box_event ?hg (N:=8) ?hd (cs:=#[.string (⟨#[]⟩ : ByteArray),.int .i64 0,.int .i64 0,.int .i64 0,.string (⟨#[]⟩ : ByteArray),.string (⟨#[]⟩ : ByteArray),.slice none 0 0]) (t:=70) ?hr ?_;(case hd => rfl);(case hg => rfl);(case hr => first | (go_simp;done) | (go_simp;rfl));intro gB8 hg_ w8 hbox hb_;have GEB8:=Aside0.mk (q41_ : w.heap.size ≤ gB8);have NMB8:=Aside0.mk (q27_ : bm ≠ gB8);have NB2B8:=Aside0.mk (q25_ : gB2 ≠ gB8);have NB3B8:=Aside0.mk (q24_ : gB3 ≠ gB8);have NB4B8:=Aside0.mk (q34_ : gB4 ≠ gB8);have NB6B8:=Aside0.mk (q40_ : gB6 ≠ gB8);replace HB:=Aside0.mk (below_then HB.out HB.out.size hb_);replace HM:=Aside0.mk (HM.out.below hb_);replace B2:=Aside0.mk (blk_below B2.out hb_);replace B3:=Aside0.mk (blk_below B3.out hb_);replace B4:=Aside0.mk (blk_below B4.out hb_);replace B6:=Aside0.mk (blk_below B6.out hb_);have B8:=Aside0.mk hbox;clear hbox hb_ hg_) | ((with_reducible refine gate_ (.store 70 (.tmp 8) (.tmp 20)) rfl ?_);refine store_event 70 (.tmp 8) (.tmp 20) rfl rfl rfl 0 70 _ #[.string y.f0,.int .i64 y.f1.f0,.int .i64 y.f1.f1,.int .i64 y.f1.f2,.string y.f1.f3,.string y.f1.f4,.slice A6 n1.length c6] _ [.string y.f0,.int .i64 y.f1.f0,.int .i64 y.f1.f1,.int .i64 y.f1.f2,.string y.f1.f3,.string y.f1.f4,.slice A6 n1.length c6] rfl rfl rfl q3_ q26_ B8.out (Nat.le_refl 7) q45_ ?_;intro w81 hn_ hg_;replace HB:=Aside0.mk (below_grown HB.out hg_ GEB8.out HB.out.size);replace HM:=Aside0.mk (HM.out.kept hg_ (fun he => NMB8.out (Option.some.inj he)));replace B2:=Aside0.mk (blk_grown B2.out hg_ (fun he => NB2B8.out (Option.some.inj he)));replace B3:=Aside0.mk (blk_grown B3.out hg_ (fun he => NB3B8.out (Option.some.inj he)));replace B4:=Aside0.mk (blk_grown B4.out hg_ (fun he => NB4B8.out (Option.some.inj he)));replace B6:=Aside0.mk (blk_grown B6.out hg_ (fun he => NB6B8.out (Option.some.inj he)));replace B8:=Aside0.mk hn_;clear hg_ hn_;have hB82_0 : w81.cell? ⟨gB8,0,none⟩ = some _:=(blk_cell B8.out 0).trans rfl;have hB82_1 : w81.cell? ⟨gB8,1,none⟩ = some _:=(blk_cell B8.out 1).trans rfl;have hB82_2 : w81.cell? ⟨gB8,2,none⟩ = some _:=(blk_cell B8.out 2).trans rfl;have hB82_3 : w81.cell? ⟨gB8,3,none⟩ = some _:=(blk_cell B8.out 3).trans rfl;have hB82_4 : w81.cell? ⟨gB8,4,none⟩ = some _:=(blk_cell B8.out 4).trans rfl;have hB82_5 : w81.cell? ⟨gB8,5,none⟩ = some _:=(blk_cell B8.out 5).trans rfl;have hB82_6 : w81.cell? ⟨gB8,6,none⟩ = some _:=(blk_cell B8.out 6).trans rfl) | ((with_reducible refine gate_dst (N:=9) rfl ?_);refine box_event ?hg (N:=9) ?hd (cs:=#[.string (⟨#[]⟩ : ByteArray),.int .i64 0,.int .i64 0,.int .i64 0,.string (⟨#[]⟩ : ByteArray),.string (⟨#[]⟩ : ByteArray)]) (t:=41) ?hr ?_;(case hd => rfl);(case hg => rfl);(case hr => first | (go_simp;done) | (go_simp;rfl));intro gB9 hg_ w9 hbox hb_;have GEB9:=Aside0.mk (q41_ : w.heap.size ≤ gB9);have NMB9:=Aside0.mk (q27_ : bm ≠ gB9);have NB2B9:=Aside0.mk (q25_ : gB2 ≠ gB9);have NB3B9:=Aside0.mk (q24_ : gB3 ≠ gB9);have NB4B9:=Aside0.mk (q34_ : gB4 ≠ gB9);have NB6B9:=Aside0.mk (q40_ : gB6 ≠ gB9);have NB8B9:=Aside0.mk (q49_ : gB8 ≠ gB9);replace HB:=Aside0.mk (below_then HB.out HB.out.size hb_);replace HM:=Aside0.mk (HM.out.below hb_);replace B2:=Aside0.mk (blk_below B2.out hb_);replace B3:=Aside0.mk (blk_below B3.out hb_);replace B4:=Aside0.mk (blk_below B4.out hb_);replace B6:=Aside0.mk (blk_below B6.out hb_);replace B8:=Aside0.mk (blk_below B8.out hb_);have B9:=Aside0.mk hbox;clear hbox hb_ hg_) | ((with_reducible refine gate_ (.store 41 (.tmp 9) (.tmp 22)) rfl ?_);refine store_event 41 (.tmp 9) (.tmp 22) rfl rfl rfl 0 41 _ #[.string y.f0,.int .i64 y.f1.f0,.int .i64 y.f1.f1,.int .i64 y.f1.f2,.string y.f1.f3,.string y.f1.f4] _ [.string y.f0,.int .i64 y.f1.f0,.int .i64 y.f1.f1,.int .i64 y.f1.f2,.string y.f1.f3,.string y.f1.f4] rfl rfl rfl q3_ q26_ B9.out (Nat.le_refl 6) q45_ ?_;intro w91 hn_ hg_;replace HB:=Aside0.mk (below_grown HB.out hg_ GEB9.out HB.out.size);replace HM:=Aside0.mk (HM.out.kept hg_ (fun he => NMB9.out (Option.some.inj he)));replace B2:=Aside0.mk (blk_grown B2.out hg_ (fun he => NB2B9.out (Option.some.inj he)));replace B3:=Aside0.mk (blk_grown B3.out hg_ (fun he => NB3B9.out (Option.some.inj he)));replace B4:=Aside0.mk (blk_grown B4.out hg_ (fun he => NB4B9.out (Option.some.inj he)));replace B6:=Aside0.mk (blk_grown B6.out hg_ (fun he => NB6B9.out (Option.some.inj he)));replace B8:=Aside0.mk (blk_grown B8.out hg_ (fun he => NB8B9.out (Option.some.inj he)));replace B9:=Aside0.mk hn_;clear hg_ hn_;have hB24_0 : w91.cell? ⟨gB2,0,none⟩ = some _:=(blk_cell B2.out 0).trans rfl;have hB24_1 : w91.cell? ⟨gB2,1,none⟩ = some _:=(blk_cell B2.out 1).trans rfl;have hB24_2 : w91.cell? ⟨gB2,2,none⟩ = some _:=(blk_cell B2.out 2).trans rfl;have hB24_3 : w91.cell? ⟨gB2,3,none⟩ = some _:=(blk_cell B2.out 3).trans rfl;have hB24_4 : w91.cell? ⟨gB2,4,none⟩ = some _:=(blk_cell B2.out 4).trans rfl;have hB24_5 : w91.cell? ⟨gB2,5,none⟩ = some _:=(blk_cell B2.out 5).trans rfl;have hB24_6 : w91.cell? ⟨gB2,6,none⟩ = some _:=(blk_cell B2.out 6).trans rfl;have hB34_0 : w91.cell? ⟨gB3,0,none⟩ = some _:=(blk_cell B3.out 0).trans rfl;have hB34_1 : w91.cell? ⟨gB3,1,none⟩ = some _:=(blk_cell B3.out 1).trans rfl;have hB34_2 : w91.cell? ⟨gB3,2,none⟩ = some _:=(blk_cell B3.out 2).trans rfl;have hB34_3 : w91.cell? ⟨gB3,3,none⟩ = some _:=(blk_cell B3.out 3).trans rfl;have hB34_4 : w91.cell? ⟨gB3,4,none⟩ = some _:=(blk_cell B3.out 4).trans rfl;have hB34_5 : w91.cell? ⟨gB3,5,none⟩ = some _:=(blk_cell B3.out 5).trans rfl;have hB64_0 : w91.cell? ⟨gB6,0,none⟩ = some _:=(blk_cell B6.out 0).trans rfl;have hB94_0 : w91.cell? ⟨gB9,0,none⟩ = some _:=(blk_cell B9.out 0).trans rfl;have hB94_1 : w91.cell? ⟨gB9,1,none⟩ = some _:=(blk_cell B9.out 1).trans rfl;have hB94_2 : w91.cell? ⟨gB9,2,none⟩ = some _:=(blk_cell B9.out 2).trans rfl;have hB94_3 : w91.cell? ⟨gB9,3,none⟩ = some _:=(blk_cell B9.out 3).trans rfl;have hB94_4 : w91.cell? ⟨gB9,4,none⟩ = some _:=(blk_cell B9.out 4).trans rfl;have hB94_5 : w91.cell? ⟨gB9,5,none⟩ = some _:=(blk_cell B9.out 5).trans rfl) | (go_at_call 59;(with_reducible refine (mvs_may.calls fuelR y.f0 y.f1.f0 y.f1.f1 y.f1.f2 y.f1.f3 y.f1.f4 true _ hmay ?sideG).mono ?_);(case sideG => exact Env.below HE.out HB.out);rintro e wm ⟨rfl,hb_⟩;replace HB:=Aside0.mk (below_then HB.out HB.out.size hb_);replace HM:=Aside0.mk (HM.out.below hb_);replace B2:=Aside0.mk (blk_below B2.out hb_);replace B3:=Aside0.mk (blk_below B3.out hb_);replace B4:=Aside0.mk (blk_below B4.out hb_);replace B6:=Aside0.mk (blk_below B6.out hb_);replace B8:=Aside0.mk (blk_below B8.out hb_);replace B9:=Aside0.mk (blk_below B9.out hb_);clear hb_;have hB25_0 : wm.cell? ⟨gB2,0,none⟩ = some _:=(blk_cell B2.out 0).trans rfl;have hB25_1 : wm.cell? ⟨gB2,1,none⟩ = some _:=(blk_cell B2.out 1).trans rfl;have hB25_2 : wm.cell? ⟨gB2,2,none⟩ = some _:=(blk_cell B2.out 2).trans rfl;have hB25_3 : wm.cell? ⟨gB2,3,none⟩ = some _:=(blk_cell B2.out 3).trans rfl;have hB25_4 : wm.cell? ⟨gB2,4,none⟩ = some _:=(blk_cell B2.out 4).trans rfl;have hB25_5 : wm.cell? ⟨gB2,5,none⟩ = some _:=(blk_cell B2.out 5).trans rfl;have hB25_6 : wm.cell? ⟨gB2,6,none⟩ = some _:=(blk_cell B2.out 6).trans rfl;have hB35_0 : wm.cell? ⟨gB3,0,none⟩ = some _:=(blk_cell B3.out 0).trans rfl;have hB35_1 : wm.cell? ⟨gB3,1,none⟩ = some _:=(blk_cell B3.out 1).trans rfl;have hB35_2 : wm.cell? ⟨gB3,2,none⟩ = some _:=(blk_cell B3.out 2).trans rfl;have hB35_3 : wm.cell? ⟨gB3,3,none⟩ = some _:=(blk_cell B3.out 3).trans rfl;have hB35_4 : wm.cell? ⟨gB3,4,none⟩ = some _:=(blk_cell B3.out 4).trans rfl;have hB35_5 : wm.cell? ⟨gB3,5,none⟩ = some _:=(blk_cell B3.out 5).trans rfl;have hB65_0 : wm.cell? ⟨gB6,0,none⟩ = some _:=(blk_cell B6.out 0).trans rfl;have hB95_0 : wm.cell? ⟨gB9,0,none⟩ = some _:=(blk_cell B9.out 0).trans rfl;have hB95_1 : wm.cell? ⟨gB9,1,none⟩ = some _:=(blk_cell B9.out 1).trans rfl;have hB95_2 : wm.cell? ⟨gB9,2,none⟩ = some _:=(blk_cell B9.out 2).trans rfl;have hB95_3 : wm.cell? ⟨gB9,3,none⟩ = some _:=(blk_cell B9.out 3).trans rfl;have hB95_4 : wm.cell? ⟨gB9,4,none⟩ = some _:=(blk_cell B9.out 4).trans rfl;have hB95_5 : wm.cell? ⟨gB9,5,none⟩ = some _:=(blk_cell B9.out 5).trans rfl) | (go_at_call 44;(with_reducible refine (ver_Compare.calls fuelR y.f1.f0 y.f1.f1 y.f1.f2 y.f1.f3 y.f1.f4 x.f1.f0 x.f1.f1 x.f1.f2 x.f1.f3 x.f1.f4 c _ hcmp ?sideG).mono ?_);(case sideG => exact Env.below HE.out HB.out);rintro e wk ⟨rfl,hb_⟩;replace HB:=Aside0.mk (below_then HB.out HB.out.size hb_);replace HM:=Aside0.mk (HM.out.below hb_);replace B2:=Aside0.mk (blk_below B2.out hb_);replace B3:=Aside0.mk (blk_below B3.out hb_);replace B4:=Aside0.mk (blk_below B4.out hb_);replace B6:=Aside0.mk (blk_below B6.out hb_);replace B8:=Aside0.mk (blk_below B8.out hb_);replace B9:=Aside0.mk (blk_below B9.out hb_);clear hb_;have hB26_0 : wk.cell? ⟨gB2,0,none⟩ = some _:=(blk_cell B2.out 0).trans rfl;have hB26_1 : wk.cell? ⟨gB2,1,none⟩ = some _:=(blk_cell B2.out 1).trans rfl;have hB26_2 : wk.cell? ⟨gB2,2,none⟩ = some _:=(blk_cell B2.out 2).trans rfl;have hB26_3 : wk.cell? ⟨gB2,3,none⟩ = some _:=(blk_cell B2.out 3).trans rfl;have hB26_4 : wk.cell? ⟨gB2,4,none⟩ = some _:=(blk_cell B2.out 4).trans rfl;have hB26_5 : wk.cell? ⟨gB2,5,none⟩ = some _:=(blk_cell B2.out 5).trans rfl;have hB26_6 : wk.cell? ⟨gB2,6,none⟩ = some _:=(blk_cell B2.out 6).trans rfl;have hB66_0 : wk.cell? ⟨gB6,0,none⟩ = some _:=(blk_cell B6.out 0).trans rfl;have hB96_0 : wk.cell? ⟨gB9,0,none⟩ = some _:=(blk_cell B9.out 0).trans rfl;have hB96_1 : wk.cell? ⟨gB9,1,none⟩ = some _:=(blk_cell B9.out 1).trans rfl;have hB96_2 : wk.cell? ⟨gB9,2,none⟩ = some _:=(blk_cell B9.out 2).trans rfl;have hB96_3 : wk.cell? ⟨gB9,3,none⟩ = some _:=(blk_cell B9.out 3).trans rfl;have hB96_4 : wk.cell? ⟨gB9,4,none⟩ = some _:=(blk_cell B9.out 4).trans rfl;have hB96_5 : wk.cell? ⟨gB9,5,none⟩ = some _:=(blk_cell B9.out 5).trans rfl))
      refine ⟨⟨i + 1,L1,by simp [hw],h,⟨H⟩,⟨HM.out.mono (Nat.le_succ _)⟩,B2,B3,B4,B6,HB⟩,?_⟩
      simp only [intOf,hw]
      omega
  ·have hg : ((i : Int) < (nodes.length : Int)) = False:=eq_false q7_
   rw [List.drop_eq_nil_of_le q7_,lowP] at H
   obtain rfl:=Option.some.inj H
   have hkey : keyOf Tryz.prog 9 (.string x.f0) = some (keyL x.f0):=WideMaps.keyOf_string_mk Tryz.underlying9 (by unfold maxLen;omega)
   have hz3 : wr.cell? ⟨gB3,0,none⟩ = some _:=(blk_cell B3.out 0).trans rfl
   have hz6 : wr.cell? ⟨gB6,0,none⟩ = some _:=(blk_cell B6.out 0).trans rfl
   obtain ⟨D,ho,hbe⟩:=HM.out
   have NMB4:=Aside0.mk (fun e : bm = gB4 => M4.out e.symm)
   rcases hbe.find x.f0 (datR zR) with ⟨hf,hhas,hat⟩ | ⟨y,hf,hhas,hat⟩
   ·have hR:=HRES.out
    rw [hf] at hR
    obtain ⟨rfl,rfl⟩:=Prod.mk.inj hR
    go_wp2_with (first | ((with_reducible refine gate_dst (N:=55) rfl ?_);refine wpList_lookup_own_ok _ rfl (.tmp 52) (.tmp 54) 78 rfl 9 41 lawS Tryz.underlying78 reqR (zeroReq _) (datR zR) [] rfl bm i D rfl ho _ (keyL x.f0) rfl hkey ?_;intro v_ ps hv;obtain ⟨rv,hrv,hy_⟩:=reqR_inv hv;obtain rfl : zR = rv:=(datR_inj ((Prod.mk.inj hy_).1.symm.trans hat)).symm;subst hrv;rw [hhas];clear hv hy_) | ((with_reducible refine gate_dst (N:=10) rfl ?_);refine box_event ?hg (N:=10) ?hd (cs:=#[.string (⟨#[]⟩ : ByteArray),.int .i64 0,.int .i64 0,.int .i64 0,.string (⟨#[]⟩ : ByteArray),.string (⟨#[]⟩ : ByteArray)]) (t:=41) ?hr ?_;(case hd => rfl);(case hg => rfl);(case hr => first | (go_simp;done) | (go_simp;rfl));intro gB10 hg_ w10 hbox hb_;have GEB10:=Aside0.mk (q41_ : w.heap.size ≤ gB10);have NMB10:=Aside0.mk (q27_ : bm ≠ gB10);have NB4B10:=Aside0.mk (q34_ : gB4 ≠ gB10);replace HB:=Aside0.mk (below_then HB.out HB.out.size hb_);replace HM:=Aside0.mk (HM.out.below hb_);replace B4:=Aside0.mk (blk_below B4.out hb_);have B10:=Aside0.mk hbox;have NB104:=Aside0.mk ((fun e => NB4B10.out e.symm) : gB10 ≠ gB4);clear hbox hb_ hg_) | ((with_reducible refine gate_ (.store 41 (.tmp 10) (.tmp 56)) rfl ?_);refine store_event 41 (.tmp 10) (.tmp 56) rfl rfl rfl 0 41 _ #[.string zR.f0,.int .i64 zR.f1.f0,.int .i64 zR.f1.f1,.int .i64 zR.f1.f2,.string zR.f1.f3,.string zR.f1.f4] _ [.string zR.f0,.int .i64 zR.f1.f0,.int .i64 zR.f1.f1,.int .i64 zR.f1.f2,.string zR.f1.f3,.string zR.f1.f4] rfl rfl rfl q3_ q26_ B10.out (Nat.le_refl 6) q45_ ?_;intro w101 hn_ hg_;replace HB:=Aside0.mk (below_grown HB.out hg_ GEB10.out HB.out.size);replace HM:=Aside0.mk (HM.out.kept hg_ (fun he => NMB10.out (Option.some.inj he)));replace B4:=Aside0.mk (blk_grown B4.out hg_ (fun he => NB4B10.out (Option.some.inj he)));replace B10:=Aside0.mk hn_;clear hg_ hn_;have hB42_0 : w101.cell? ⟨gB4,0,none⟩ = some _:=(blk_cell B4.out 0).trans rfl;have hB42_1 : w101.cell? ⟨gB4,1,none⟩ = some _:=(blk_cell B4.out 1).trans rfl;have hB42_2 : w101.cell? ⟨gB4,2,none⟩ = some _:=(blk_cell B4.out 2).trans rfl;have hB42_3 : w101.cell? ⟨gB4,3,none⟩ = some _:=(blk_cell B4.out 3).trans rfl;have hB42_4 : w101.cell? ⟨gB4,4,none⟩ = some _:=(blk_cell B4.out 4).trans rfl;have hB42_5 : w101.cell? ⟨gB4,5,none⟩ = some _:=(blk_cell B4.out 5).trans rfl;have hB102_0 : w101.cell? ⟨gB10,0,none⟩ = some _:=(blk_cell B10.out 0).trans rfl;have hB102_1 : w101.cell? ⟨gB10,1,none⟩ = some _:=(blk_cell B10.out 1).trans rfl;have hB102_2 : w101.cell? ⟨gB10,2,none⟩ = some _:=(blk_cell B10.out 2).trans rfl;have hB102_3 : w101.cell? ⟨gB10,3,none⟩ = some _:=(blk_cell B10.out 3).trans rfl;have hB102_4 : w101.cell? ⟨gB10,4,none⟩ = some _:=(blk_cell B10.out 4).trans rfl;have hB102_5 : w101.cell? ⟨gB10,5,none⟩ = some _:=(blk_cell B10.out 5).trans rfl) | ((with_reducible refine gate_ (.store 41 (.tmp 4) (.tmp 58)) rfl ?_);refine store_event 41 (.tmp 4) (.tmp 58) rfl rfl rfl 0 41 _ #[.string zR.f0,.int .i64 zR.f1.f0,.int .i64 zR.f1.f1,.int .i64 zR.f1.f2,.string zR.f1.f3,.string zR.f1.f4] _ [.string zR.f0,.int .i64 zR.f1.f0,.int .i64 zR.f1.f1,.int .i64 zR.f1.f2,.string zR.f1.f3,.string zR.f1.f4] rfl rfl rfl q3_ q26_ B4.out (Nat.le_refl 6) q45_ ?_;intro w102 hn_ hg_;replace HB:=Aside0.mk (below_grown HB.out hg_ GEB4.out HB.out.size);replace HM:=Aside0.mk (HM.out.kept hg_ (fun he => NMB4.out (Option.some.inj he)));replace B4:=Aside0.mk hn_;replace B10:=Aside0.mk (blk_grown B10.out hg_ (fun he => NB104.out (Option.some.inj he)));clear hg_ hn_;have hB43_0 : w102.cell? ⟨gB4,0,none⟩ = some _:=(blk_cell B4.out 0).trans rfl;have hB43_1 : w102.cell? ⟨gB4,1,none⟩ = some _:=(blk_cell B4.out 1).trans rfl;have hB43_2 : w102.cell? ⟨gB4,2,none⟩ = some _:=(blk_cell B4.out 2).trans rfl;have hB43_3 : w102.cell? ⟨gB4,3,none⟩ = some _:=(blk_cell B4.out 3).trans rfl;have hB43_4 : w102.cell? ⟨gB4,4,none⟩ = some _:=(blk_cell B4.out 4).trans rfl;have hB43_5 : w102.cell? ⟨gB4,5,none⟩ = some _:=(blk_cell B4.out 5).trans rfl))
    refine bodyPost_ret (v:=.tuple #[.agg #[.string zR.f0,.int .i64 zR.f1.f0,.int .i64 zR.f1.f1,.int .i64 zR.f1.f2,.string zR.f1.f3,.string zR.f1.f4],.bool false]) ?_ rfl ⟨rfl,HB.out⟩
    simp only [results,Tryz.results63]
    go_simp
   ·have hR:=HRES.out
    rw [hf] at hR
    obtain ⟨rfl,rfl⟩:=Prod.mk.inj hR
    go_wp2_with (first | ((with_reducible refine gate_dst (N:=55) rfl ?_);refine wpList_lookup_own_ok _ rfl (.tmp 52) (.tmp 54) 78 rfl 9 41 lawS Tryz.underlying78 reqR (zeroReq _) (datR zR) [] rfl bm i D rfl ho _ (keyL x.f0) rfl hkey ?_;intro v_ ps hv;obtain ⟨rv,hrv,hy_⟩:=reqR_inv hv;obtain rfl : y = rv:=(datR_inj ((Prod.mk.inj hy_).1.symm.trans hat)).symm;subst hrv;rw [hhas];clear hv hy_) | ((with_reducible refine gate_dst (N:=10) rfl ?_);refine box_event ?hg (N:=10) ?hd (cs:=#[.string (⟨#[]⟩ : ByteArray),.int .i64 0,.int .i64 0,.int .i64 0,.string (⟨#[]⟩ : ByteArray),.string (⟨#[]⟩ : ByteArray)]) (t:=41) ?hr ?_;(case hd => rfl);(case hg => rfl);(case hr => first | (go_simp;done) | (go_simp;rfl));intro gB10 hg_ w10 hbox hb_;have GEB10:=Aside0.mk (q41_ : w.heap.size ≤ gB10);have NMB10:=Aside0.mk (q27_ : bm ≠ gB10);have NB4B10:=Aside0.mk (q34_ : gB4 ≠ gB10);replace HB:=Aside0.mk (below_then HB.out HB.out.size hb_);replace HM:=Aside0.mk (HM.out.below hb_);replace B4:=Aside0.mk (blk_below B4.out hb_);have B10:=Aside0.mk hbox;have NB104:=Aside0.mk ((fun e => NB4B10.out e.symm) : gB10 ≠ gB4);clear hbox hb_ hg_) | ((with_reducible refine gate_ (.store 41 (.tmp 10) (.tmp 56)) rfl ?_);refine store_event 41 (.tmp 10) (.tmp 56) rfl rfl rfl 0 41 _ #[.string y.f0,.int .i64 y.f1.f0,.int .i64 y.f1.f1,.int .i64 y.f1.f2,.string y.f1.f3,.string y.f1.f4] _ [.string y.f0,.int .i64 y.f1.f0,.int .i64 y.f1.f1,.int .i64 y.f1.f2,.string y.f1.f3,.string y.f1.f4] rfl rfl rfl q3_ q26_ B10.out (Nat.le_refl 6) q45_ ?_;intro w101 hn_ hg_;replace HB:=Aside0.mk (below_grown HB.out hg_ GEB10.out HB.out.size);replace HM:=Aside0.mk (HM.out.kept hg_ (fun he => NMB10.out (Option.some.inj he)));replace B4:=Aside0.mk (blk_grown B4.out hg_ (fun he => NB4B10.out (Option.some.inj he)));replace B10:=Aside0.mk hn_;clear hg_ hn_;have hB42_0 : w101.cell? ⟨gB4,0,none⟩ = some _:=(blk_cell B4.out 0).trans rfl;have hB42_1 : w101.cell? ⟨gB4,1,none⟩ = some _:=(blk_cell B4.out 1).trans rfl;have hB42_2 : w101.cell? ⟨gB4,2,none⟩ = some _:=(blk_cell B4.out 2).trans rfl;have hB42_3 : w101.cell? ⟨gB4,3,none⟩ = some _:=(blk_cell B4.out 3).trans rfl;have hB42_4 : w101.cell? ⟨gB4,4,none⟩ = some _:=(blk_cell B4.out 4).trans rfl;have hB42_5 : w101.cell? ⟨gB4,5,none⟩ = some _:=(blk_cell B4.out 5).trans rfl;have hB102_0 : w101.cell? ⟨gB10,0,none⟩ = some _:=(blk_cell B10.out 0).trans rfl;have hB102_1 : w101.cell? ⟨gB10,1,none⟩ = some _:=(blk_cell B10.out 1).trans rfl;have hB102_2 : w101.cell? ⟨gB10,2,none⟩ = some _:=(blk_cell B10.out 2).trans rfl;have hB102_3 : w101.cell? ⟨gB10,3,none⟩ = some _:=(blk_cell B10.out 3).trans rfl;have hB102_4 : w101.cell? ⟨gB10,4,none⟩ = some _:=(blk_cell B10.out 4).trans rfl;have hB102_5 : w101.cell? ⟨gB10,5,none⟩ = some _:=(blk_cell B10.out 5).trans rfl) | ((with_reducible refine gate_ (.store 41 (.tmp 4) (.tmp 58)) rfl ?_);refine store_event 41 (.tmp 4) (.tmp 58) rfl rfl rfl 0 41 _ #[.string y.f0,.int .i64 y.f1.f0,.int .i64 y.f1.f1,.int .i64 y.f1.f2,.string y.f1.f3,.string y.f1.f4] _ [.string y.f0,.int .i64 y.f1.f0,.int .i64 y.f1.f1,.int .i64 y.f1.f2,.string y.f1.f3,.string y.f1.f4] rfl rfl rfl q3_ q26_ B4.out (Nat.le_refl 6) q45_ ?_;intro w102 hn_ hg_;replace HB:=Aside0.mk (below_grown HB.out hg_ GEB4.out HB.out.size);replace HM:=Aside0.mk (HM.out.kept hg_ (fun he => NMB4.out (Option.some.inj he)));replace B4:=Aside0.mk hn_;replace B10:=Aside0.mk (blk_grown B10.out hg_ (fun he => NB104.out (Option.some.inj he)));clear hg_ hn_;have hB43_0 : w102.cell? ⟨gB4,0,none⟩ = some _:=(blk_cell B4.out 0).trans rfl;have hB43_1 : w102.cell? ⟨gB4,1,none⟩ = some _:=(blk_cell B4.out 1).trans rfl;have hB43_2 : w102.cell? ⟨gB4,2,none⟩ = some _:=(blk_cell B4.out 2).trans rfl;have hB43_3 : w102.cell? ⟨gB4,3,none⟩ = some _:=(blk_cell B4.out 3).trans rfl;have hB43_4 : w102.cell? ⟨gB4,4,none⟩ = some _:=(blk_cell B4.out 4).trans rfl;have hB43_5 : w102.cell? ⟨gB4,5,none⟩ = some _:=(blk_cell B4.out 5).trans rfl))
    refine bodyPost_ret (v:=.tuple #[.agg #[.string y.f0,.int .i64 y.f1.f0,.int .i64 y.f1.f1,.int .i64 y.f1.f2,.string y.f1.f3,.string y.f1.f4],.bool true]) ?_ rfl ⟨rfl,HB.out⟩
    simp only [results,Tryz.results63]
    go_simp
def mvs_bound_lower.f (a0_0 : ByteArray) (a0_1 : Int) (a0_2 : Int) (a0_3 : Int) (a0_4 : ByteArray) (a0_5 : ByteArray) (l0_6 : List Node) (a1_0 : ByteArray) (a1_1 : Int) (a1_2 : Int) (a1_3 : Int) (a1_4 : ByteArray) (a1_5 : ByteArray) : Option (ByteArray × Int × Int × Int × ByteArray × ByteArray × Bool) :=
 (lowerP ⟨a0_0,a0_1,a0_2,a0_3,a0_4,a0_5⟩ l0_6 ⟨a1_0,a1_1,a1_2,a1_3,a1_4,a1_5⟩).bind fun t => some (t.1.f0,t.1.f1.f0,t.1.f1.f1,t.1.f1.f2,t.1.f1.f3,t.1.f1.f4,t.2)
theorem mvs_bound_lower.calls (a0_0 : ByteArray) (a0_1 : Int) (a0_2 : Int) (a0_3 : Int) (a0_4 : ByteArray) (a0_5 : ByteArray) (A0_6 : Option Addr) (c0_6 : Nat) (l0_6 : List Node) (a1_0 : ByteArray) (a1_1 : Int) (a1_2 : Int) (a1_3 : Int) (a1_4 : ByteArray) (a1_5 : ByteArray) (r1 : ByteArray) (r2 : Int) (r3 : Int) (r4 : Int) (r5 : ByteArray) (r6 : ByteArray) (r7 : Bool) (w : World) (hr0_6 : Kd.C k70 w A0_6 l0_6.length l0_6) (hc0_6 : l0_6.length ≤ c0_6) (h : mvs_bound_lower.f a0_0 a0_1 a0_2 a0_3 a0_4 a0_5 l0_6 a1_0 a1_1 a1_2 a1_3 a1_4 a1_5 = some (r1,r2,r3,r4,r5,r6,r7)) (hG : Env w) :
  Calls Tryz.prog 63 #[.agg #[.string a0_0,.int .i64 a0_1,.int .i64 a0_2,.int .i64 a0_3,.string a0_4,.string a0_5,.slice A0_6 l0_6.length c0_6],.agg #[.string a1_0,.int .i64 a1_1,.int .i64 a1_2,.int .i64 a1_3,.string a1_4,.string a1_5]] w fun e w' => e = .returned (.tuple #[.agg #[.string r1,.int .i64 r2,.int .i64 r3,.int .i64 r4,.string r5,.string r6],.bool r7]) ∧ Below w.heap.size w w':=by
 obtain ⟨⟨r,is⟩,hl,he⟩:=Option.bind_eq_some_iff.mp h
 have he':=Option.some.inj he
 simp only [Prod.mk.injEq] at he'
 obtain ⟨rfl,rfl,rfl,rfl,rfl,rfl,rfl⟩:=he'
 exact lower_calls ⟨a0_0,a0_1,a0_2,a0_3,a0_4,a0_5⟩ ⟨a1_0,a1_1,a1_2,a1_3,a1_4,a1_5⟩ A0_6 c0_6 l0_6 r is w hr0_6 hc0_6 hl hG
end Go.Proofs.YtennhpoemdaghaaGreatDoor.P
end
section
namespace Go.Proofs.YtennhpoemdaghaaGreatDoor.P
open Go.RowKit Go.Proofs.YtennhpoemdaghaaGreatDoorW.PrintWords Go.Proofs.YtennhpoemdaghaaGreatDoorW.PrintLast Go.Proofs.YtennhpoemdaghaaGreatDoorW.PrintMore
def mvs_Downgrade.l0 : Nat → List (S41) → List (S41) → Int → Int → ByteArray → Int → Int → Int → ByteArray → ByteArray → List (S70) → Option ((List (S41)))
 | 0,_,_,_,_,_,_,_,_,_,_,_ => none
 | k + 1,x8,x20,x21,x22,x107000,x107001,x107002,x107003,x107004,x107005,x107006 => if x22 < x21 then (if 0 ≤ x22 then (if x22 < (x20.length : Int) then ((mvs_bound_out.f x107000 x107001 x107002 x107003 x107004 x107005 x107006 ((rd_T41 x20 x22).f0) ((rd_T41 x20 x22).f1.f0) ((rd_T41 x20 x22).f1.f1) ((rd_T41 x20 x22).f1.f2) ((rd_T41 x20 x22).f1.f3) ((rd_T41 x20 x22).f1.f4)).bind fun t109 => (if t109 = true then ((mvs_bound_lower.f x107000 x107001 x107002 x107003 x107004 x107005 x107006 ((rd_T41 x20 x22).f0) ((rd_T41 x20 x22).f1.f0) ((rd_T41 x20 x22).f1.f1) ((rd_T41 x20 x22).f1.f2) ((rd_T41 x20 x22).f1.f3) ((rd_T41 x20 x22).f1.f4)).bind fun bt110 => (if bt110.2.2.2.2.2.2 = true then (if x8.length < 1954687338268 then (mvs_Downgrade.l0 k (x8 ++ [(⟨bt110.1,(⟨bt110.2.1,bt110.2.2.1,bt110.2.2.2.1,bt110.2.2.2.2.1,bt110.2.2.2.2.2.1⟩ : S24)⟩ : S41)]) x20 x21 (wrap64 (x22 + 1)) x107000 x107001 x107002 x107003 x107004 x107005 x107006) else (none)) else (mvs_Downgrade.l0 k x8 x20 x21 (wrap64 (x22 + 1)) x107000 x107001 x107002 x107003 x107004 x107005 x107006))) else (if x8.length < 1954687338268 then (mvs_Downgrade.l0 k (x8 ++ [(⟨(rd_T41 x20 x22).f0,(⟨(rd_T41 x20 x22).f1.f0,(rd_T41 x20 x22).f1.f1,(rd_T41 x20 x22).f1.f2,(rd_T41 x20 x22).f1.f3,(rd_T41 x20 x22).f1.f4⟩ : S24)⟩ : S41)]) x20 x21 (wrap64 (x22 + 1)) x107000 x107001 x107002 x107003 x107004 x107005 x107006) else (none)))) else (none)) else (none)) else (some x8)
def mvs_Downgrade.f (k : Nat) (l0 : List (S41)) (l1 : List (S70)) (a2_0 : ByteArray) (a2_1 : Int) (a2_2 : Int) (a2_3 : Int) (a2_4 : ByteArray) (a2_5 : ByteArray) : Option ((List (S41))):=(mvs_may.f k a2_0 a2_1 a2_2 a2_3 a2_4 a2_5).bind fun t102 => (if t102 = true then (mvs_Downgrade.l0 k ([] : List (S41)) l0 (l0.length : Int) 0 a2_0 a2_1 a2_2 a2_3 a2_4 a2_5 l1) else ((slices_Clone_apiReq.f l0).bind fun t103 => (some t103)))
theorem mvs_Downgrade.mono_l : ∀ k,(∀ y0 y1 y2 y3 y4 y5 y6 y7 y8 y9 y10,LeO (mvs_Downgrade.l0 k y0 y1 y2 y3 y4 y5 y6 y7 y8 y9 y10) (mvs_Downgrade.l0 (k + 1) y0 y1 y2 y3 y4 y5 y6 y7 y8 y9 y10))
 | 0 => fun _ _ _ _ _ _ _ _ _ _ _ r h => by simp [mvs_Downgrade.l0] at h
 | k + 1 => by
  have ih0:=mvs_Downgrade.mono_l k
  ·intro y0 y1 y2 y3 y4 y5 y6 y7 y8 y9 y10
   unfold mvs_Downgrade.l0
   repeat' first
   | (with_reducible exact ih0 _ _ _ _ _ _ _ _ _ _ _)
   | (with_reducible exact mvs_may.mono _ _ _ _ _ _ _)
   | (with_reducible exact LeO.refl _)
   | (with_reducible exact LeO.none _)
   | (with_reducible refine LeO.ite ?_ ?_)
   | (with_reducible refine LeO.bind ?_ (fun _ => ?_))
   | exact ih0 _ _ _ _ _ _ _ _ _ _ _
   | exact mvs_may.mono _ _ _ _ _ _ _
   | exact LeO.none _
   | refine LeO.ite ?_ ?_
   | refine LeO.bind ?_ (fun _ => ?_)
theorem mvs_Downgrade.mono : ∀ a0 a1 a2 a3 a4 a5 a6 a7 k,LeO (mvs_Downgrade.f k a0 a1 a2 a3 a4 a5 a6 a7) (mvs_Downgrade.f (k + 1) a0 a1 a2 a3 a4 a5 a6 a7):=by
 intro a0 a1 a2 a3 a4 a5 a6 a7 k
 have ih0:=mvs_Downgrade.mono_l k
 unfold mvs_Downgrade.f
 repeat' first
   | (with_reducible exact ih0 _ _ _ _ _ _ _ _ _ _ _)
   | (with_reducible exact mvs_may.mono _ _ _ _ _ _ _)
   | (with_reducible exact LeO.refl _)
   | (with_reducible exact LeO.none _)
   | (with_reducible refine LeO.ite ?_ ?_)
   | (with_reducible refine LeO.bind ?_ (fun _ => ?_))
   | exact ih0 _ _ _ _ _ _ _ _ _ _ _
   | exact mvs_may.mono _ _ _ _ _ _ _
   | exact LeO.none _
   | refine LeO.ite ?_ ?_
   | refine LeO.bind ?_ (fun _ => ?_)
set_option maxHeartbeats 8000000 in
set_option maxRecDepth 100000 in
theorem mvs_Downgrade.calls (k : Nat) (A0 : Option Addr) (c0 : Nat) (l0 : List (S41)) (A1 : Option Addr) (c1 : Nat) (l1 : List (S70)) (a2_0 : ByteArray) (a2_1 : Int) (a2_2 : Int) (a2_3 : Int) (a2_4 : ByteArray) (a2_5 : ByteArray) (r : List (S41)) (w : World) (hr0 : Kd.C k41 w A0 l0.length l0) (hc0 : l0.length ≤ c0) (hr1 : Kd.C k70 w A1 l1.length l1) (hc1 : l1.length ≤ c1) (h : mvs_Downgrade.f k l0 l1 a2_0 a2_1 a2_2 a2_3 a2_4 a2_5 = some r) (hG : Env w) :
  Calls Tryz.prog 31 #[.slice A0 l0.length c0,.slice A1 l1.length c1,.agg #[.string a2_0,.int .i64 a2_1,.int .i64 a2_2,.int .i64 a2_3,.string a2_4,.string a2_5]] w fun e w' => ∃ v0_ : Value,e = .returned (v0_) ∧ Kd.R k41 41 w' w.heap.size (fun _ => True) v0_ r ∧ Below w.heap.size w w':=by
 have HG:=Aside0.mk hG
 clear hG
 have hu41:=Tryz.underlying41
 have hu91:=Tryz.underlying91
 have HR0:=Aside0.mk hr0
 have HC0:=Aside0.mk hc0
 clear hr0 hc0
 have HR1:=Aside0.mk hr1
 have HC1:=Aside0.mk hc1
 clear hr1 hc1
 have HB:=Aside0.mk (Below.refl w.heap.size w)
 have H : ((mvs_may.f k a2_0 a2_1 a2_2 a2_3 a2_4 a2_5).bind fun t102 => (if t102 = true then (mvs_Downgrade.l0 k ([] : List (S41)) l0 (l0.length : Int) 0 a2_0 a2_1 a2_2 a2_3 a2_4 a2_5 l1) else ((slices_Clone_apiReq.f l0).bind fun t103 => (some t103)))) = some r:=h
 clear h
 obtain ⟨t102,A40,H⟩:=Option.bind_eq_some_iff.mp H
 have A4:=Aside0.mk A40
 clear A40
 by_cases c5 : t102 = true
 ·subst c5
  rw [if_pos rfl] at H
  have H':=Aside0.mk H
  clear H
  go_enter Tryz.func31,Tryz.ntmps31
  go_wp2_with (first | ((with_reducible refine gate_dst (N:=5) rfl ?_);refine box_event ?hg (N:=5) ?hd (cs:=#[.string a2_0,.int .i64 a2_1,.int .i64 a2_2,.int .i64 a2_3,.string a2_4,.string a2_5]) (t:=41) ?hr ?_;(case hd => rfl);(case hg => rfl);(case hr => first | (go_simp;done) | (go_simp;rfl));intro gb101 hg w6 hbox hb;have BK101:=Aside0.mk (hbox);have GW101:=Aside0.mk ((q19_ : w.heap.size ≤ gb101));have GE101:=Aside0.mk ((q19_ : w.heap.size ≤ gb101));replace HB:=Aside0.mk (below_step bh_ hb);clear hb hbox hg;have hcz7_0 : w6.cell? ⟨gb101,0,none⟩ = some (.string a2_0):=(blk_cell BK101.out 0).trans rfl;have hcz7_1 : w6.cell? ⟨gb101,1,none⟩ = some (.int .i64 a2_1):=(blk_cell BK101.out 1).trans rfl;have hcz7_2 : w6.cell? ⟨gb101,2,none⟩ = some (.int .i64 a2_2):=(blk_cell BK101.out 2).trans rfl;have hcz7_3 : w6.cell? ⟨gb101,3,none⟩ = some (.int .i64 a2_3):=(blk_cell BK101.out 3).trans rfl;have hcz7_4 : w6.cell? ⟨gb101,4,none⟩ = some (.string a2_4):=(blk_cell BK101.out 4).trans rfl;have hcz7_5 : w6.cell? ⟨gb101,5,none⟩ = some (.string a2_5):=(blk_cell BK101.out 5).trans rfl;have hfz7_0:=blk_frozen BK101.out 0;have hfz7_1:=blk_frozen BK101.out 1;have hfz7_2:=blk_frozen BK101.out 2;have hfz7_3:=blk_frozen BK101.out 3;have hfz7_4:=blk_frozen BK101.out 4;have hfz7_5:=blk_frozen BK101.out 5) | ((with_reducible refine gate_callee (f:=59) rfl ?_);refine goesL_ (some 13) rfl rfl Tryz.func59 q3_ rfl #[.agg #[.string a2_0,.int .i64 a2_1,.int .i64 a2_2,.int .i64 a2_3,.string a2_4,.string a2_5]] rfl q1_ ?_;(with_reducible refine (mvs_may.calls k a2_0 a2_1 a2_2 a2_3 a2_4 a2_5 true _ A4.out ?sideG).mono ?_);(case sideG => first | exact HG.out | exact Env.below HG.out bh_);rintro e w8 ⟨rfl,hb⟩;refine ⟨_,rfl,?_⟩;replace BK101:=Aside0.mk (blk_below bk101_ hb);replace HB:=Aside0.mk (below_step bh_ hb);(try clear hb);(try clear hb2);(try clear hk);(try clear hi);have hcz9_0 : w8.cell? ⟨gb101,0,none⟩ = some (.string a2_0):=(blk_cell BK101.out 0).trans rfl;have hcz9_1 : w8.cell? ⟨gb101,1,none⟩ = some (.int .i64 a2_1):=(blk_cell BK101.out 1).trans rfl;have hcz9_2 : w8.cell? ⟨gb101,2,none⟩ = some (.int .i64 a2_2):=(blk_cell BK101.out 2).trans rfl;have hcz9_3 : w8.cell? ⟨gb101,3,none⟩ = some (.int .i64 a2_3):=(blk_cell BK101.out 3).trans rfl;have hcz9_4 : w8.cell? ⟨gb101,4,none⟩ = some (.string a2_4):=(blk_cell BK101.out 4).trans rfl;have hcz9_5 : w8.cell? ⟨gb101,5,none⟩ = some (.string a2_5):=(blk_cell BK101.out 5).trans rfl;have hfz9_0:=blk_frozen BK101.out 0;have hfz9_1:=blk_frozen BK101.out 1;have hfz9_2:=blk_frozen BK101.out 2;have hfz9_3:=blk_frozen BK101.out 3;have hfz9_4:=blk_frozen BK101.out 4;have hfz9_5:=blk_frozen BK101.out 5) | ((with_reducible refine gate_dst (N:=7) rfl ?_);refine box_event ?hg (N:=7) ?hd (cs:=#[.string (⟨#[]⟩ : ByteArray),.int .i64 0,.int .i64 0,.int .i64 0,.string (⟨#[]⟩ : ByteArray),.string (⟨#[]⟩ : ByteArray),.slice none 0 0]) (t:=91) ?hr ?_;(case hd => rfl);(case hg => rfl);(case hr => first | (go_simp;done) | (go_simp;rfl));intro gb106 hg w10 hbox hb;have BK106:=Aside0.mk (hbox);have GW106:=Aside0.mk ((q19_ : w.heap.size ≤ gb106));have GE106:=Aside0.mk ((q19_ : w.heap.size ≤ gb106));replace HB:=Aside0.mk (below_step bh_ hb);have NB101_106:=Aside0.mk ((q46_ : gb101 ≠ gb106));have NB106_101:=Aside0.mk ((q47_ : gb106 ≠ gb101));replace BK101:=Aside0.mk (blk_below bk101_ hb);clear hb hbox hg;have hnb11:=NB106_101.out;have hnc11:=NB101_106.out;have hcz12_0 : w10.cell? ⟨gb106,0,none⟩ = some (.string (⟨#[]⟩ : ByteArray)):=(blk_cell BK106.out 0).trans rfl;have hcz12_1 : w10.cell? ⟨gb106,1,none⟩ = some (.int .i64 0):=(blk_cell BK106.out 1).trans rfl;have hcz12_2 : w10.cell? ⟨gb106,2,none⟩ = some (.int .i64 0):=(blk_cell BK106.out 2).trans rfl;have hcz12_3 : w10.cell? ⟨gb106,3,none⟩ = some (.int .i64 0):=(blk_cell BK106.out 3).trans rfl;have hcz12_4 : w10.cell? ⟨gb106,4,none⟩ = some (.string (⟨#[]⟩ : ByteArray)):=(blk_cell BK106.out 4).trans rfl;have hcz12_5 : w10.cell? ⟨gb106,5,none⟩ = some (.string (⟨#[]⟩ : ByteArray)):=(blk_cell BK106.out 5).trans rfl;have hcz12_6 : w10.cell? ⟨gb106,6,none⟩ = some (.slice none 0 0):=(blk_cell BK106.out 6).trans rfl;have hfz12_0:=blk_frozen BK106.out 0;have hfz12_1:=blk_frozen BK106.out 1;have hfz12_2:=blk_frozen BK106.out 2;have hfz12_3:=blk_frozen BK106.out 3;have hfz12_4:=blk_frozen BK106.out 4;have hfz12_5:=blk_frozen BK106.out 5;have hfz12_6:=blk_frozen BK106.out 6))
  go_loopg [8,22] k (fun kq v8 v22 w' => ∃ (x8_1 : List (S41)) (x22_1 : Int),v22 = .int .i64 x22_1 ∧ Aside0 (mvs_Downgrade.l0 kq x8_1 l0 (l0.length : Int) x22_1 a2_0 a2_1 a2_2 a2_3 a2_4 a2_5 l1 = some r) ∧ Aside0 (kq ≤ k) ∧ Aside0 (Kd.R k41 41 w' w.heap.size (fun k_ => k_ ≠ gb101) v8 x8_1) ∧ Aside0 (w'.heap[gb101]? = some (.cells #[.string a2_0,.int .i64 a2_1,.int .i64 a2_2,.int .i64 a2_3,.string a2_4,.string a2_5] 41 (0,0))) ∧ Aside0 (w'.heap[gb106]? = some (.cells #[.string a2_0,.int .i64 a2_1,.int .i64 a2_2,.int .i64 a2_3,.string a2_4,.string a2_5,(.slice A1 l1.length c1)] 91 (0,0))) ∧ Aside0 (Below w.heap.size w w'))
  case atStart => exact ⟨(([] : List (S41))),(0),q4_,H',⟨Nat.le_refl _⟩,⟨by first | exact Kd.R_nil _ _ _ _ _ | exact Kd.N_nil _ _ _ _ _ | exact Kd.V_nil _ _ _ _ _ | exact Kd.Q_nil _ _ _ _ _ | exact Kd.S_nil _ _ _ _ _⟩,⟨by (with_reducible repeat (first | refine blk_drewN ?_ _ | refine blk_drew ?_ | refine blk_alloc ?_ _));refine blk_far ?_ NB101_106.out _;(with_reducible repeat (first | refine blk_drewN ?_ _ | refine blk_drew ?_ | refine blk_alloc ?_ _));refine blk_far ?_ NB101_106.out _;(with_reducible repeat (first | refine blk_drewN ?_ _ | refine blk_drew ?_ | refine blk_alloc ?_ _));refine blk_far ?_ NB101_106.out _;(with_reducible repeat (first | refine blk_drewN ?_ _ | refine blk_drew ?_ | refine blk_alloc ?_ _));refine blk_far ?_ NB101_106.out _;(with_reducible repeat (first | refine blk_drewN ?_ _ | refine blk_drew ?_ | refine blk_alloc ?_ _));refine blk_far ?_ NB101_106.out _;(with_reducible repeat (first | refine blk_drewN ?_ _ | refine blk_drew ?_ | refine blk_alloc ?_ _));refine blk_far ?_ NB101_106.out _;(with_reducible repeat (first | refine blk_drewN ?_ _ | refine blk_drew ?_ | refine blk_alloc ?_ _));refine blk_far ?_ NB101_106.out _;(with_reducible repeat (first | refine blk_drewN ?_ _ | refine blk_drew ?_ | refine blk_alloc ?_ _));exact BK101.out⟩,⟨by (with_reducible repeat (first | refine blk_drewN ?_ _ | refine blk_drew ?_ | refine blk_alloc ?_ _));refine blk_put (cs:=#[.string a2_0,.int .i64 a2_1,.int .i64 a2_2,.int .i64 a2_3,.string a2_4,.string a2_5,.slice none 0 0]) ?_ 6 _ rfl;(with_reducible repeat (first | refine blk_drewN ?_ _ | refine blk_drew ?_ | refine blk_alloc ?_ _));refine blk_put (cs:=#[.string a2_0,.int .i64 a2_1,.int .i64 a2_2,.int .i64 a2_3,.string a2_4,.string (⟨#[]⟩ : ByteArray),.slice none 0 0]) ?_ 5 _ rfl;(with_reducible repeat (first | refine blk_drewN ?_ _ | refine blk_drew ?_ | refine blk_alloc ?_ _));refine blk_put (cs:=#[.string a2_0,.int .i64 a2_1,.int .i64 a2_2,.int .i64 a2_3,.string (⟨#[]⟩ : ByteArray),.string (⟨#[]⟩ : ByteArray),.slice none 0 0]) ?_ 4 _ rfl;(with_reducible repeat (first | refine blk_drewN ?_ _ | refine blk_drew ?_ | refine blk_alloc ?_ _));refine blk_put (cs:=#[.string a2_0,.int .i64 a2_1,.int .i64 a2_2,.int .i64 0,.string (⟨#[]⟩ : ByteArray),.string (⟨#[]⟩ : ByteArray),.slice none 0 0]) ?_ 3 _ rfl;(with_reducible repeat (first | refine blk_drewN ?_ _ | refine blk_drew ?_ | refine blk_alloc ?_ _));refine blk_put (cs:=#[.string a2_0,.int .i64 a2_1,.int .i64 0,.int .i64 0,.string (⟨#[]⟩ : ByteArray),.string (⟨#[]⟩ : ByteArray),.slice none 0 0]) ?_ 2 _ rfl;(with_reducible repeat (first | refine blk_drewN ?_ _ | refine blk_drew ?_ | refine blk_alloc ?_ _));refine blk_put (cs:=#[.string a2_0,.int .i64 0,.int .i64 0,.int .i64 0,.string (⟨#[]⟩ : ByteArray),.string (⟨#[]⟩ : ByteArray),.slice none 0 0]) ?_ 1 _ rfl;(with_reducible repeat (first | refine blk_drewN ?_ _ | refine blk_drew ?_ | refine blk_alloc ?_ _));refine blk_put (cs:=#[.string (⟨#[]⟩ : ByteArray),.int .i64 0,.int .i64 0,.int .i64 0,.string (⟨#[]⟩ : ByteArray),.string (⟨#[]⟩ : ByteArray),.slice none 0 0]) ?_ 0 _ rfl;(with_reducible repeat (first | refine blk_drewN ?_ _ | refine blk_drew ?_ | refine blk_alloc ?_ _));exact BK106.out⟩,⟨by repeat (first | (with_reducible first | exact HB.out | apply below_alloc | apply pw_below_drewN | apply below_drew1 | refine below_set ?_ GE101.out | refine below_set ?_ GE106.out) | exact HB.out)⟩⟩
  case round =>
   clear H'
   try clear c1
   try clear p2
   try clear c3
   try clear c5
   try clear c11
   try clear hcz12_0
   try clear hcz12_1
   try clear hcz12_2
   try clear hcz12_3
   try clear hcz12_4
   try clear hcz12_5
   try clear hcz12_6
   try clear hcz7_0
   try clear hcz7_1
   try clear hcz7_2
   try clear hcz7_3
   try clear hcz7_4
   try clear hcz7_5
   try clear hcz9_0
   try clear hcz9_1
   try clear hcz9_2
   try clear hcz9_3
   try clear hcz9_4
   try clear hcz9_5
   try clear hfz12_0
   try clear hfz12_1
   try clear hfz12_2
   try clear hfz12_3
   try clear hfz12_4
   try clear hfz12_5
   try clear hfz12_6
   try clear hfz7_0
   try clear hfz7_1
   try clear hfz7_2
   try clear hfz7_3
   try clear hfz7_4
   try clear hfz7_5
   try clear hfz9_0
   try clear hfz9_1
   try clear hfz9_2
   try clear hfz9_3
   try clear hfz9_4
   try clear hfz9_5
   obtain ⟨x8_1,x22_1,rfl,HA,HK1,HO_8,BK101,BK106,HB⟩:=hrel
   cases gk with
   | zero => exact absurd HA.out (by simp [mvs_Downgrade.l0])
   | succ k1 =>
    have H:=HA.out
    clear HA
    simp only [mvs_Downgrade.l0] at H
    by_cases c13 : x22_1 < (l0.length : Int)
    ·rw [if_pos c13] at H
     have c13b0 : decide (x22_1 < (l0.length : Int)) = true:=decide_eq_true c13
     clear c13
     by_cases c14 : 0 ≤ x22_1
     ·rw [if_pos c14] at H
      have c14b0 : decide (0 ≤ x22_1) = true:=decide_eq_true c14
      clear c14
      by_cases c15 : x22_1 < (l0.length : Int)
      ·rw [if_pos c15] at H
       have c15b0 : decide (x22_1 < (l0.length : Int)) = true:=decide_eq_true c15
       clear c15
       obtain ⟨t109,A160,H⟩:=Option.bind_eq_some_iff.mp H
       have A16:=Aside0.mk A160
       clear A160
       by_cases c17 : t109 = true
       ·subst c17
        rw [if_pos rfl] at H
        obtain ⟨⟨t110,t111,t112,t113,t114,t115,t116⟩,A180,H⟩:=Option.bind_eq_some_iff.mp H
        dsimp only at H
        have A18:=Aside0.mk A180
        clear A180
        by_cases c19 : t116 = true
        ·subst c19
         rw [if_pos rfl] at H
         by_cases c20 : x8_1.length < 1954687338268
         ·rw [if_pos c20] at H
          have LMc20:=Aside0.mk c20
          clear c20
          obtain ⟨y117,hy117⟩ : ∃ y_ : List (S41),y_ = (x8_1 ++ [(⟨t110,(⟨t111,t112,t113,t114,t115⟩ : S24)⟩ : S41)]):=⟨_,rfl⟩
          replace H : (mvs_Downgrade.l0 k1 y117 l0 (l0.length : Int) (wrap64 (x22_1 + 1)) a2_0 a2_1 a2_2 a2_3 a2_4 a2_5 l1) = some r:=by first | (rw [hy117];with_reducible exact H) | (have H2_:=(Option.bind_some _ _).symm.trans H;rw [hy117];with_reducible exact H2_) | (have H2_:=(Option.bind_some _ _).symm.trans H;with_reducible exact H2_) | with_reducible exact H | (rw [hy117];exact H) | exact H
          have Ny117:=Aside0.mk hy117
          clear hy117
          have H':=Aside0.mk H
          clear H
          have p107 : 0 ≤ (x22_1 : Int):=of_decide_eq_true q2_
          have q107 : x22_1 < (l0.length : Int):=of_decide_eq_true q2_
          obtain ⟨ad107,e107,hx107_0,hx107_1,hx107_2,hx107_3,hx107_4,hx107_5⟩:=at_T41 HR0.out x22_1 p107 q107
          cases e107
          replace hx107_0:=(HB.out.cell (World.block_lt_of_cell? w _ hx107_0)).trans hx107_0
          replace hx107_1:=(HB.out.cell (World.block_lt_of_cell? w _ hx107_1)).trans hx107_1
          replace hx107_2:=(HB.out.cell (World.block_lt_of_cell? w _ hx107_2)).trans hx107_2
          replace hx107_3:=(HB.out.cell (World.block_lt_of_cell? w _ hx107_3)).trans hx107_3
          replace hx107_4:=(HB.out.cell (World.block_lt_of_cell? w _ hx107_4)).trans hx107_4
          replace hx107_5:=(HB.out.cell (World.block_lt_of_cell? w _ hx107_5)).trans hx107_5
          replace p107:=eq_true p107
          replace q107:=eq_true q107
          go_wp2_with (first | ((with_reducible refine gate_dst (N:=10) rfl ?_);refine box_event ?hg (N:=10) ?hd (cs:=#[.string (⟨#[]⟩ : ByteArray),.int .i64 0,.int .i64 0,.int .i64 0,.string (⟨#[]⟩ : ByteArray),.string (⟨#[]⟩ : ByteArray)]) (t:=41) ?hr ?_;(case hd => rfl);(case hg => rfl);(case hr => first | (go_simp;done) | (go_simp;rfl));intro gb108 hg w21 hbox hb;replace HO_8:=Aside0.mk (Kd.R_below (Kd.R_elderB q33_ gb108 (Nat.le_of_eq hg.symm)) hb);have BK108:=Aside0.mk (hbox);have GW108:=Aside0.mk ((q19_ : w.heap.size ≤ gb108));have GE108:=Aside0.mk ((q19_ : w.heap.size ≤ gb108));replace HB:=Aside0.mk (below_step bh_ hb);have NB101_108:=Aside0.mk ((q46_ : gb101 ≠ gb108));have NB108_101:=Aside0.mk ((q47_ : gb108 ≠ gb101));replace BK101:=Aside0.mk (blk_below bk101_ hb);have NB106_108:=Aside0.mk ((q59_ : gb106 ≠ gb108));have NB108_106:=Aside0.mk ((q60_ : gb108 ≠ gb106));replace BK106:=Aside0.mk (blk_below bk106_ hb);clear hb hbox hg;have hnb22:=NB108_101.out;have hnc22:=NB101_108.out;have hnb23:=NB108_106.out;have hnc23:=NB106_108.out;have hcz24_0 : w21.cell? ⟨gb108,0,none⟩ = some (.string (⟨#[]⟩ : ByteArray)):=(blk_cell BK108.out 0).trans rfl;have hcz24_1 : w21.cell? ⟨gb108,1,none⟩ = some (.int .i64 0):=(blk_cell BK108.out 1).trans rfl;have hcz24_2 : w21.cell? ⟨gb108,2,none⟩ = some (.int .i64 0):=(blk_cell BK108.out 2).trans rfl;have hcz24_3 : w21.cell? ⟨gb108,3,none⟩ = some (.int .i64 0):=(blk_cell BK108.out 3).trans rfl;have hcz24_4 : w21.cell? ⟨gb108,4,none⟩ = some (.string (⟨#[]⟩ : ByteArray)):=(blk_cell BK108.out 4).trans rfl;have hcz24_5 : w21.cell? ⟨gb108,5,none⟩ = some (.string (⟨#[]⟩ : ByteArray)):=(blk_cell BK108.out 5).trans rfl;have hfz24_0:=blk_frozen BK108.out 0;have hfz24_1:=blk_frozen BK108.out 1;have hfz24_2:=blk_frozen BK108.out 2;have hfz24_3:=blk_frozen BK108.out 3;have hfz24_4:=blk_frozen BK108.out 4;have hfz24_5:=blk_frozen BK108.out 5;have hnb25:=NB106_101.out;have hnc25:=NB101_106.out;have hcz26_0 : w21.cell? ⟨gb106,0,none⟩ = some (.string a2_0):=(blk_cell BK106.out 0).trans rfl;have hcz26_1 : w21.cell? ⟨gb106,1,none⟩ = some (.int .i64 a2_1):=(blk_cell BK106.out 1).trans rfl;have hcz26_2 : w21.cell? ⟨gb106,2,none⟩ = some (.int .i64 a2_2):=(blk_cell BK106.out 2).trans rfl;have hcz26_3 : w21.cell? ⟨gb106,3,none⟩ = some (.int .i64 a2_3):=(blk_cell BK106.out 3).trans rfl;have hcz26_4 : w21.cell? ⟨gb106,4,none⟩ = some (.string a2_4):=(blk_cell BK106.out 4).trans rfl;have hcz26_5 : w21.cell? ⟨gb106,5,none⟩ = some (.string a2_5):=(blk_cell BK106.out 5).trans rfl;have hcz26_6 : w21.cell? ⟨gb106,6,none⟩ = some (.slice A1 l1.length c1):=(blk_cell BK106.out 6).trans rfl;have hfz26_0:=blk_frozen BK106.out 0;have hfz26_1:=blk_frozen BK106.out 1;have hfz26_2:=blk_frozen BK106.out 2;have hfz26_3:=blk_frozen BK106.out 3;have hfz26_4:=blk_frozen BK106.out 4;have hfz26_5:=blk_frozen BK106.out 5;have hfz26_6:=blk_frozen BK106.out 6) | ((with_reducible refine gate_callee (f:=62) rfl ?_);refine goesL_ (some 28) rfl rfl Tryz.func62 q3_ rfl #[.agg #[.string a2_0,.int .i64 a2_1,.int .i64 a2_2,.int .i64 a2_3,.string a2_4,.string a2_5,.slice A1 l1.length c1],.agg #[.string ((rd_T41 l0 x22_1).f0),.int .i64 ((rd_T41 l0 x22_1).f1.f0),.int .i64 ((rd_T41 l0 x22_1).f1.f1),.int .i64 ((rd_T41 l0 x22_1).f1.f2),.string ((rd_T41 l0 x22_1).f1.f3),.string ((rd_T41 l0 x22_1).f1.f4)]] rfl q1_ ?_;(with_reducible refine (mvs_bound_out.calls a2_0 a2_1 a2_2 a2_3 a2_4 a2_5 _ _ l1 ((rd_T41 l0 x22_1).f0) ((rd_T41 l0 x22_1).f1.f0) ((rd_T41 l0 x22_1).f1.f1) ((rd_T41 l0 x22_1).f1.f2) ((rd_T41 l0 x22_1).f1.f3) ((rd_T41 l0 x22_1).f1.f4) true _ ?side1 ?side2 A16.out ?sideG).mono ?_);(case sideG => first | exact HG.out | exact Env.below HG.out bh_);(case side1 => exact Kd.C_below HR1.out bh_);(case side2 => exact HC1.out);rintro e w27 ⟨rfl,hb⟩;refine ⟨_,rfl,?_⟩;replace HO_8:=Aside0.mk (Kd.R_below q15_ hb);replace BK101:=Aside0.mk (blk_below (g:=gb101) (o:=.cells #[.string a2_0,.int .i64 a2_1,.int .i64 a2_2,.int .i64 a2_3,.string a2_4,.string a2_5] 41 (0,0)) q6_ hb);replace BK106:=Aside0.mk (blk_below (g:=gb106) (o:=.cells #[.string a2_0,.int .i64 a2_1,.int .i64 a2_2,.int .i64 a2_3,.string a2_4,.string a2_5,.slice A1 l1.length c1] 91 (0,0)) q9_ hb);replace BK108:=Aside0.mk (blk_below (g:=gb108) (o:=.cells #[.string ((rd_T41 l0 x22_1).f0),.int .i64 ((rd_T41 l0 x22_1).f1.f0),.int .i64 ((rd_T41 l0 x22_1).f1.f1),.int .i64 ((rd_T41 l0 x22_1).f1.f2),.string ((rd_T41 l0 x22_1).f1.f3),.string ((rd_T41 l0 x22_1).f1.f4)] 41 (0,0)) q5_ hb);replace HB:=Aside0.mk (below_step bh_ hb);(try clear hb);(try clear hb2);(try clear hk);(try clear hi);have hcz28_0 : w27.cell? ⟨gb106,0,none⟩ = some (.string a2_0):=(blk_cell BK106.out 0).trans rfl;have hcz28_1 : w27.cell? ⟨gb106,1,none⟩ = some (.int .i64 a2_1):=(blk_cell BK106.out 1).trans rfl;have hcz28_2 : w27.cell? ⟨gb106,2,none⟩ = some (.int .i64 a2_2):=(blk_cell BK106.out 2).trans rfl;have hcz28_3 : w27.cell? ⟨gb106,3,none⟩ = some (.int .i64 a2_3):=(blk_cell BK106.out 3).trans rfl;have hcz28_4 : w27.cell? ⟨gb106,4,none⟩ = some (.string a2_4):=(blk_cell BK106.out 4).trans rfl;have hcz28_5 : w27.cell? ⟨gb106,5,none⟩ = some (.string a2_5):=(blk_cell BK106.out 5).trans rfl;have hcz28_6 : w27.cell? ⟨gb106,6,none⟩ = some (.slice A1 l1.length c1):=(blk_cell BK106.out 6).trans rfl;have hfz28_0:=blk_frozen BK106.out 0;have hfz28_1:=blk_frozen BK106.out 1;have hfz28_2:=blk_frozen BK106.out 2;have hfz28_3:=blk_frozen BK106.out 3;have hfz28_4:=blk_frozen BK106.out 4;have hfz28_5:=blk_frozen BK106.out 5;have hfz28_6:=blk_frozen BK106.out 6;have hcz29_0 : w27.cell? ⟨gb108,0,none⟩ = some (.string ((rd_T41 l0 x22_1).f0)):=(blk_cell BK108.out 0).trans rfl;have hcz29_1 : w27.cell? ⟨gb108,1,none⟩ = some (.int .i64 ((rd_T41 l0 x22_1).f1.f0)):=(blk_cell BK108.out 1).trans rfl;have hcz29_2 : w27.cell? ⟨gb108,2,none⟩ = some (.int .i64 ((rd_T41 l0 x22_1).f1.f1)):=(blk_cell BK108.out 2).trans rfl;have hcz29_3 : w27.cell? ⟨gb108,3,none⟩ = some (.int .i64 ((rd_T41 l0 x22_1).f1.f2)):=(blk_cell BK108.out 3).trans rfl;have hcz29_4 : w27.cell? ⟨gb108,4,none⟩ = some (.string ((rd_T41 l0 x22_1).f1.f3)):=(blk_cell BK108.out 4).trans rfl;have hcz29_5 : w27.cell? ⟨gb108,5,none⟩ = some (.string ((rd_T41 l0 x22_1).f1.f4)):=(blk_cell BK108.out 5).trans rfl;have hfz29_0:=blk_frozen BK108.out 0;have hfz29_1:=blk_frozen BK108.out 1;have hfz29_2:=blk_frozen BK108.out 2;have hfz29_3:=blk_frozen BK108.out 3;have hfz29_4:=blk_frozen BK108.out 4;have hfz29_5:=blk_frozen BK108.out 5) | ((with_reducible refine gate_callee (f:=63) rfl ?_);refine goesL_ (some 32) rfl rfl Tryz.func63 q3_ rfl #[.agg #[.string a2_0,.int .i64 a2_1,.int .i64 a2_2,.int .i64 a2_3,.string a2_4,.string a2_5,.slice A1 l1.length c1],.agg #[.string ((rd_T41 l0 x22_1).f0),.int .i64 ((rd_T41 l0 x22_1).f1.f0),.int .i64 ((rd_T41 l0 x22_1).f1.f1),.int .i64 ((rd_T41 l0 x22_1).f1.f2),.string ((rd_T41 l0 x22_1).f1.f3),.string ((rd_T41 l0 x22_1).f1.f4)]] rfl q1_ ?_;(with_reducible refine (mvs_bound_lower.calls a2_0 a2_1 a2_2 a2_3 a2_4 a2_5 _ _ l1 ((rd_T41 l0 x22_1).f0) ((rd_T41 l0 x22_1).f1.f0) ((rd_T41 l0 x22_1).f1.f1) ((rd_T41 l0 x22_1).f1.f2) ((rd_T41 l0 x22_1).f1.f3) ((rd_T41 l0 x22_1).f1.f4) t110 t111 t112 t113 t114 t115 true _ ?side1 ?side2 A18.out ?sideG).mono ?_);(case sideG => first | exact HG.out | exact Env.below HG.out bh_);(case side1 => repeat (first | exact (Kd.C_below HR1.out HB.out) | (with_reducible refine Kd.C_alloc ?_ _) | (with_reducible refine Kd.C_drewN ?_ _) | (with_reducible refine Kd.C_drew ?_)));(case side2 => exact HC1.out);rintro e w30 ⟨rfl,hb⟩;refine ⟨_,rfl,?_⟩;replace HO_8:=Aside0.mk (Kd.R_below q33_ hb);replace BK101:=Aside0.mk (blk_below bk101_ hb);replace BK106:=Aside0.mk (blk_below bk106_ hb);replace BK108:=Aside0.mk (blk_below bk108_ hb);replace HB:=Aside0.mk (below_step bh_ hb);(try clear hb);(try clear hb2);(try clear hk);(try clear hi);have hcz31_0 : w30.cell? ⟨gb108,0,none⟩ = some (.string ((rd_T41 l0 x22_1).f0)):=(blk_cell BK108.out 0).trans rfl;have hcz31_1 : w30.cell? ⟨gb108,1,none⟩ = some (.int .i64 ((rd_T41 l0 x22_1).f1.f0)):=(blk_cell BK108.out 1).trans rfl;have hcz31_2 : w30.cell? ⟨gb108,2,none⟩ = some (.int .i64 ((rd_T41 l0 x22_1).f1.f1)):=(blk_cell BK108.out 2).trans rfl;have hcz31_3 : w30.cell? ⟨gb108,3,none⟩ = some (.int .i64 ((rd_T41 l0 x22_1).f1.f2)):=(blk_cell BK108.out 3).trans rfl;have hcz31_4 : w30.cell? ⟨gb108,4,none⟩ = some (.string ((rd_T41 l0 x22_1).f1.f3)):=(blk_cell BK108.out 4).trans rfl;have hcz31_5 : w30.cell? ⟨gb108,5,none⟩ = some (.string ((rd_T41 l0 x22_1).f1.f4)):=(blk_cell BK108.out 5).trans rfl;have hfz31_0:=blk_frozen BK108.out 0;have hfz31_1:=blk_frozen BK108.out 1;have hfz31_2:=blk_frozen BK108.out 2;have hfz31_3:=blk_frozen BK108.out 3;have hfz31_4:=blk_frozen BK108.out 4;have hfz31_5:=blk_frozen BK108.out 5) | ((with_reducible refine gate_builtin (b:=.append) (xs:=#[.tmp 36,.tmp 38]) rfl ?_);at_builtin;refine Kd.R_append k41 (w0:=w) w.heap.size rfl (.tmp 36) (.tmp 38) 38 41 (.agg #[(.string ⟨#[]⟩),(.int .i64 0),(.int .i64 0),(.int .i64 0),(.string ⟨#[]⟩),(.string ⟨#[]⟩)]) 72 rfl Tryz.underlying38 info41 rfl q35_ q7_ u8 x8_1 (⟨t110,(⟨t111,t112,t113,t114,t115⟩ : S24)⟩ : S41) [.string t110,.int .i64 t111,.int .i64 t112,.int .i64 t113,.string t114,.string t115] (fun k_ => k_ ≠ gb101 ∧ k_ ≠ gb108) (fun _ => False) rfl (by first | (go_simp;done) | (go_simp;rfl)) ?aP (fun _ hk => hk.elim) ?aF ?aO ?aB ?aS ?aL ?_;(case aP => exact k41_mkM _ _ _ (⟨t110,(⟨t111,t112,t113,t114,t115⟩ : S24)⟩ : S41));(case aB => exact bh_);(case aF => exact (fun k_ hk => ⟨Kd.freshB (g:=gb101) (o:=.cells #[.string a2_0,.int .i64 a2_1,.int .i64 a2_2,.int .i64 a2_3,.string a2_4,.string a2_5] 41 (0,0)) q6_ k_ hk,Kd.freshB (g:=gb108) (o:=.cells #[.string t110,.int .i64 t111,.int .i64 t112,.int .i64 t113,.string t114,.string t115] 41 (0,0)) q14_ k_ hk⟩));(case aO => exact (by (with_reducible repeat (first | apply Kd.R_alloc | apply Kd.R_drewN | apply Kd.R_drew));exact Kd.R_mono (Kd.R_far (p:=⟨gb108,5,none⟩) (Kd.R_far (p:=⟨gb108,4,none⟩) (Kd.R_far (p:=⟨gb108,3,none⟩) (Kd.R_far (p:=⟨gb108,2,none⟩) (Kd.R_far (p:=⟨gb108,1,none⟩) (Kd.R_far (p:=⟨gb108,0,none⟩) (Kd.R_mono HO_8.out (fun k_ hk => (⟨hk,hk.2⟩ : _ ∧ k_ ≠ gb108))) (fun _ hk => hk.2) (.string t110)) (fun _ hk => hk.2) (.int .i64 t111)) (fun _ hk => hk.2) (.int .i64 t112)) (fun _ hk => hk.2) (.int .i64 t113)) (fun _ hk => hk.2) (.string t114)) (fun _ hk => hk.2) (.string t115)) (fun _ hk => ⟨hk.1.1,hk.1.2⟩)));(case aS => exact (below_size bh_));(case aL => have:=LMc20.out;omega);intro v118 w32 ho hb hg hat;rw [← Ny117.out] at ho;replace BK101:=Aside0.mk (blk_grown (g:=gb101) (o:=.cells #[.string a2_0,.int .i64 a2_1,.int .i64 a2_2,.int .i64 a2_3,.string a2_4,.string a2_5] 41 (0,0)) q6_ hg (Kd.R_away HO_8.out (fun _ hk => hk.1)));replace BK106:=Aside0.mk (blk_grown (g:=gb106) (o:=.cells #[.string a2_0,.int .i64 a2_1,.int .i64 a2_2,.int .i64 a2_3,.string a2_4,.string a2_5,.slice A1 l1.length c1] 91 (0,0)) q9_ hg (Kd.R_ne HO_8.out BK106.out q35_));replace BK108:=Aside0.mk (blk_grown (g:=gb108) (o:=.cells #[.string t110,.int .i64 t111,.int .i64 t112,.int .i64 t113,.string t114,.string t115] 41 (0,0)) q14_ hg (Kd.R_away HO_8.out (fun _ hk => hk.2)));replace HB:=Aside0.mk (hb);have HO119:=Aside0.mk (ho);clear HO_8;clear ho hb hg hat))
          go_roundg k1
          case measure => have:=HK1.out;omega
          case rel => exact ⟨(y117),(wrap64 (x22_1 + 1)),q4_,H',⟨by have:=HK1.out;omega⟩,⟨by (with_reducible repeat (first | apply Kd.R_alloc | apply Kd.R_drewN | apply Kd.R_drew));exact Kd.R_mono HO119.out (fun _ hk => hk.1)⟩,⟨by (with_reducible repeat (first | refine blk_drewN ?_ _ | refine blk_drew ?_ | refine blk_alloc ?_ _));exact BK101.out⟩,⟨by (with_reducible repeat (first | refine blk_drewN ?_ _ | refine blk_drew ?_ | refine blk_alloc ?_ _));exact BK106.out⟩,⟨by repeat (first | (with_reducible first | exact HB.out | apply below_alloc | apply pw_below_drewN | apply below_drew1 | refine below_set ?_ GE101.out | refine below_set ?_ GE106.out | refine below_set ?_ GE108.out) | exact HB.out)⟩⟩
         ·rw [if_neg c20] at H
          exact absurd H q28_
        ·replace c19:=Bool.eq_false_iff.mpr c19
         subst c19
         rw [if_neg (show ¬ (false = true) by decide)] at H
         have H':=Aside0.mk H
         clear H
         have p107 : 0 ≤ (x22_1 : Int):=of_decide_eq_true q2_
         have q107 : x22_1 < (l0.length : Int):=of_decide_eq_true q2_
         obtain ⟨ad107,e107,hx107_0,hx107_1,hx107_2,hx107_3,hx107_4,hx107_5⟩:=at_T41 HR0.out x22_1 p107 q107
         cases e107
         replace hx107_0:=(HB.out.cell (World.block_lt_of_cell? w _ hx107_0)).trans hx107_0
         replace hx107_1:=(HB.out.cell (World.block_lt_of_cell? w _ hx107_1)).trans hx107_1
         replace hx107_2:=(HB.out.cell (World.block_lt_of_cell? w _ hx107_2)).trans hx107_2
         replace hx107_3:=(HB.out.cell (World.block_lt_of_cell? w _ hx107_3)).trans hx107_3
         replace hx107_4:=(HB.out.cell (World.block_lt_of_cell? w _ hx107_4)).trans hx107_4
         replace hx107_5:=(HB.out.cell (World.block_lt_of_cell? w _ hx107_5)).trans hx107_5
         replace p107:=eq_true p107
         replace q107:=eq_true q107
         go_wp2_with (first | ((with_reducible refine gate_dst (N:=10) rfl ?_);refine box_event ?hg (N:=10) ?hd (cs:=#[.string (⟨#[]⟩ : ByteArray),.int .i64 0,.int .i64 0,.int .i64 0,.string (⟨#[]⟩ : ByteArray),.string (⟨#[]⟩ : ByteArray)]) (t:=41) ?hr ?_;(case hd => rfl);(case hg => rfl);(case hr => first | (go_simp;done) | (go_simp;rfl));intro gb108 hg w33 hbox hb;replace HO_8:=Aside0.mk (Kd.R_below (Kd.R_elderB q33_ gb108 (Nat.le_of_eq hg.symm)) hb);have BK108:=Aside0.mk (hbox);have GW108:=Aside0.mk ((q19_ : w.heap.size ≤ gb108));have GE108:=Aside0.mk ((q19_ : w.heap.size ≤ gb108));replace HB:=Aside0.mk (below_step bh_ hb);have NB101_108:=Aside0.mk ((q46_ : gb101 ≠ gb108));have NB108_101:=Aside0.mk ((q47_ : gb108 ≠ gb101));replace BK101:=Aside0.mk (blk_below bk101_ hb);have NB106_108:=Aside0.mk ((q59_ : gb106 ≠ gb108));have NB108_106:=Aside0.mk ((q60_ : gb108 ≠ gb106));replace BK106:=Aside0.mk (blk_below bk106_ hb);clear hb hbox hg;have hnb34:=NB108_101.out;have hnc34:=NB101_108.out;have hnb35:=NB108_106.out;have hnc35:=NB106_108.out;have hcz36_0 : w33.cell? ⟨gb108,0,none⟩ = some (.string (⟨#[]⟩ : ByteArray)):=(blk_cell BK108.out 0).trans rfl;have hcz36_1 : w33.cell? ⟨gb108,1,none⟩ = some (.int .i64 0):=(blk_cell BK108.out 1).trans rfl;have hcz36_2 : w33.cell? ⟨gb108,2,none⟩ = some (.int .i64 0):=(blk_cell BK108.out 2).trans rfl;have hcz36_3 : w33.cell? ⟨gb108,3,none⟩ = some (.int .i64 0):=(blk_cell BK108.out 3).trans rfl;have hcz36_4 : w33.cell? ⟨gb108,4,none⟩ = some (.string (⟨#[]⟩ : ByteArray)):=(blk_cell BK108.out 4).trans rfl;have hcz36_5 : w33.cell? ⟨gb108,5,none⟩ = some (.string (⟨#[]⟩ : ByteArray)):=(blk_cell BK108.out 5).trans rfl;have hfz36_0:=blk_frozen BK108.out 0;have hfz36_1:=blk_frozen BK108.out 1;have hfz36_2:=blk_frozen BK108.out 2;have hfz36_3:=blk_frozen BK108.out 3;have hfz36_4:=blk_frozen BK108.out 4;have hfz36_5:=blk_frozen BK108.out 5;have hnb37:=NB106_101.out;have hnc37:=NB101_106.out;have hcz38_0 : w33.cell? ⟨gb106,0,none⟩ = some (.string a2_0):=(blk_cell BK106.out 0).trans rfl;have hcz38_1 : w33.cell? ⟨gb106,1,none⟩ = some (.int .i64 a2_1):=(blk_cell BK106.out 1).trans rfl;have hcz38_2 : w33.cell? ⟨gb106,2,none⟩ = some (.int .i64 a2_2):=(blk_cell BK106.out 2).trans rfl;have hcz38_3 : w33.cell? ⟨gb106,3,none⟩ = some (.int .i64 a2_3):=(blk_cell BK106.out 3).trans rfl;have hcz38_4 : w33.cell? ⟨gb106,4,none⟩ = some (.string a2_4):=(blk_cell BK106.out 4).trans rfl;have hcz38_5 : w33.cell? ⟨gb106,5,none⟩ = some (.string a2_5):=(blk_cell BK106.out 5).trans rfl;have hcz38_6 : w33.cell? ⟨gb106,6,none⟩ = some (.slice A1 l1.length c1):=(blk_cell BK106.out 6).trans rfl;have hfz38_0:=blk_frozen BK106.out 0;have hfz38_1:=blk_frozen BK106.out 1;have hfz38_2:=blk_frozen BK106.out 2;have hfz38_3:=blk_frozen BK106.out 3;have hfz38_4:=blk_frozen BK106.out 4;have hfz38_5:=blk_frozen BK106.out 5;have hfz38_6:=blk_frozen BK106.out 6) | ((with_reducible refine gate_callee (f:=62) rfl ?_);refine goesL_ (some 28) rfl rfl Tryz.func62 q3_ rfl #[.agg #[.string a2_0,.int .i64 a2_1,.int .i64 a2_2,.int .i64 a2_3,.string a2_4,.string a2_5,.slice A1 l1.length c1],.agg #[.string ((rd_T41 l0 x22_1).f0),.int .i64 ((rd_T41 l0 x22_1).f1.f0),.int .i64 ((rd_T41 l0 x22_1).f1.f1),.int .i64 ((rd_T41 l0 x22_1).f1.f2),.string ((rd_T41 l0 x22_1).f1.f3),.string ((rd_T41 l0 x22_1).f1.f4)]] rfl q1_ ?_;(with_reducible refine (mvs_bound_out.calls a2_0 a2_1 a2_2 a2_3 a2_4 a2_5 _ _ l1 ((rd_T41 l0 x22_1).f0) ((rd_T41 l0 x22_1).f1.f0) ((rd_T41 l0 x22_1).f1.f1) ((rd_T41 l0 x22_1).f1.f2) ((rd_T41 l0 x22_1).f1.f3) ((rd_T41 l0 x22_1).f1.f4) true _ ?side1 ?side2 A16.out ?sideG).mono ?_);(case sideG => first | exact HG.out | exact Env.below HG.out bh_);(case side1 => exact Kd.C_below HR1.out bh_);(case side2 => exact HC1.out);rintro e w39 ⟨rfl,hb⟩;refine ⟨_,rfl,?_⟩;replace HO_8:=Aside0.mk (Kd.R_below q15_ hb);replace BK101:=Aside0.mk (blk_below (g:=gb101) (o:=.cells #[.string a2_0,.int .i64 a2_1,.int .i64 a2_2,.int .i64 a2_3,.string a2_4,.string a2_5] 41 (0,0)) q6_ hb);replace BK106:=Aside0.mk (blk_below (g:=gb106) (o:=.cells #[.string a2_0,.int .i64 a2_1,.int .i64 a2_2,.int .i64 a2_3,.string a2_4,.string a2_5,.slice A1 l1.length c1] 91 (0,0)) q9_ hb);replace BK108:=Aside0.mk (blk_below (g:=gb108) (o:=.cells #[.string ((rd_T41 l0 x22_1).f0),.int .i64 ((rd_T41 l0 x22_1).f1.f0),.int .i64 ((rd_T41 l0 x22_1).f1.f1),.int .i64 ((rd_T41 l0 x22_1).f1.f2),.string ((rd_T41 l0 x22_1).f1.f3),.string ((rd_T41 l0 x22_1).f1.f4)] 41 (0,0)) q5_ hb);replace HB:=Aside0.mk (below_step bh_ hb);(try clear hb);(try clear hb2);(try clear hk);(try clear hi);have hcz40_0 : w39.cell? ⟨gb106,0,none⟩ = some (.string a2_0):=(blk_cell BK106.out 0).trans rfl;have hcz40_1 : w39.cell? ⟨gb106,1,none⟩ = some (.int .i64 a2_1):=(blk_cell BK106.out 1).trans rfl;have hcz40_2 : w39.cell? ⟨gb106,2,none⟩ = some (.int .i64 a2_2):=(blk_cell BK106.out 2).trans rfl;have hcz40_3 : w39.cell? ⟨gb106,3,none⟩ = some (.int .i64 a2_3):=(blk_cell BK106.out 3).trans rfl;have hcz40_4 : w39.cell? ⟨gb106,4,none⟩ = some (.string a2_4):=(blk_cell BK106.out 4).trans rfl;have hcz40_5 : w39.cell? ⟨gb106,5,none⟩ = some (.string a2_5):=(blk_cell BK106.out 5).trans rfl;have hcz40_6 : w39.cell? ⟨gb106,6,none⟩ = some (.slice A1 l1.length c1):=(blk_cell BK106.out 6).trans rfl;have hfz40_0:=blk_frozen BK106.out 0;have hfz40_1:=blk_frozen BK106.out 1;have hfz40_2:=blk_frozen BK106.out 2;have hfz40_3:=blk_frozen BK106.out 3;have hfz40_4:=blk_frozen BK106.out 4;have hfz40_5:=blk_frozen BK106.out 5;have hfz40_6:=blk_frozen BK106.out 6;have hcz41_0 : w39.cell? ⟨gb108,0,none⟩ = some (.string ((rd_T41 l0 x22_1).f0)):=(blk_cell BK108.out 0).trans rfl;have hcz41_1 : w39.cell? ⟨gb108,1,none⟩ = some (.int .i64 ((rd_T41 l0 x22_1).f1.f0)):=(blk_cell BK108.out 1).trans rfl;have hcz41_2 : w39.cell? ⟨gb108,2,none⟩ = some (.int .i64 ((rd_T41 l0 x22_1).f1.f1)):=(blk_cell BK108.out 2).trans rfl;have hcz41_3 : w39.cell? ⟨gb108,3,none⟩ = some (.int .i64 ((rd_T41 l0 x22_1).f1.f2)):=(blk_cell BK108.out 3).trans rfl;have hcz41_4 : w39.cell? ⟨gb108,4,none⟩ = some (.string ((rd_T41 l0 x22_1).f1.f3)):=(blk_cell BK108.out 4).trans rfl;have hcz41_5 : w39.cell? ⟨gb108,5,none⟩ = some (.string ((rd_T41 l0 x22_1).f1.f4)):=(blk_cell BK108.out 5).trans rfl;have hfz41_0:=blk_frozen BK108.out 0;have hfz41_1:=blk_frozen BK108.out 1;have hfz41_2:=blk_frozen BK108.out 2;have hfz41_3:=blk_frozen BK108.out 3;have hfz41_4:=blk_frozen BK108.out 4;have hfz41_5:=blk_frozen BK108.out 5) | ((with_reducible refine gate_callee (f:=63) rfl ?_);refine goesL_ (some 32) rfl rfl Tryz.func63 q3_ rfl #[.agg #[.string a2_0,.int .i64 a2_1,.int .i64 a2_2,.int .i64 a2_3,.string a2_4,.string a2_5,.slice A1 l1.length c1],.agg #[.string ((rd_T41 l0 x22_1).f0),.int .i64 ((rd_T41 l0 x22_1).f1.f0),.int .i64 ((rd_T41 l0 x22_1).f1.f1),.int .i64 ((rd_T41 l0 x22_1).f1.f2),.string ((rd_T41 l0 x22_1).f1.f3),.string ((rd_T41 l0 x22_1).f1.f4)]] rfl q1_ ?_;(with_reducible refine (mvs_bound_lower.calls a2_0 a2_1 a2_2 a2_3 a2_4 a2_5 _ _ l1 ((rd_T41 l0 x22_1).f0) ((rd_T41 l0 x22_1).f1.f0) ((rd_T41 l0 x22_1).f1.f1) ((rd_T41 l0 x22_1).f1.f2) ((rd_T41 l0 x22_1).f1.f3) ((rd_T41 l0 x22_1).f1.f4) t110 t111 t112 t113 t114 t115 false _ ?side1 ?side2 A18.out ?sideG).mono ?_);(case sideG => first | exact HG.out | exact Env.below HG.out bh_);(case side1 => repeat (first | exact (Kd.C_below HR1.out HB.out) | (with_reducible refine Kd.C_alloc ?_ _) | (with_reducible refine Kd.C_drewN ?_ _) | (with_reducible refine Kd.C_drew ?_)));(case side2 => exact HC1.out);rintro e w42 ⟨rfl,hb⟩;refine ⟨_,rfl,?_⟩;replace HO_8:=Aside0.mk (Kd.R_below q33_ hb);replace BK101:=Aside0.mk (blk_below bk101_ hb);replace BK106:=Aside0.mk (blk_below bk106_ hb);replace BK108:=Aside0.mk (blk_below bk108_ hb);replace HB:=Aside0.mk (below_step bh_ hb);(try clear hb);(try clear hb2);(try clear hk);(try clear hi);have hcz43_0 : w42.cell? ⟨gb108,0,none⟩ = some (.string ((rd_T41 l0 x22_1).f0)):=(blk_cell BK108.out 0).trans rfl;have hcz43_1 : w42.cell? ⟨gb108,1,none⟩ = some (.int .i64 ((rd_T41 l0 x22_1).f1.f0)):=(blk_cell BK108.out 1).trans rfl;have hcz43_2 : w42.cell? ⟨gb108,2,none⟩ = some (.int .i64 ((rd_T41 l0 x22_1).f1.f1)):=(blk_cell BK108.out 2).trans rfl;have hcz43_3 : w42.cell? ⟨gb108,3,none⟩ = some (.int .i64 ((rd_T41 l0 x22_1).f1.f2)):=(blk_cell BK108.out 3).trans rfl;have hcz43_4 : w42.cell? ⟨gb108,4,none⟩ = some (.string ((rd_T41 l0 x22_1).f1.f3)):=(blk_cell BK108.out 4).trans rfl;have hcz43_5 : w42.cell? ⟨gb108,5,none⟩ = some (.string ((rd_T41 l0 x22_1).f1.f4)):=(blk_cell BK108.out 5).trans rfl;have hfz43_0:=blk_frozen BK108.out 0;have hfz43_1:=blk_frozen BK108.out 1;have hfz43_2:=blk_frozen BK108.out 2;have hfz43_3:=blk_frozen BK108.out 3;have hfz43_4:=blk_frozen BK108.out 4;have hfz43_5:=blk_frozen BK108.out 5))
         go_roundg k1
         case measure => have:=HK1.out;omega
         case rel => exact ⟨(x8_1),(wrap64 (x22_1 + 1)),q4_,H',⟨by have:=HK1.out;omega⟩,⟨by (with_reducible repeat (first | apply Kd.R_alloc | apply Kd.R_drewN | apply Kd.R_drew));exact Kd.R_mono (Kd.R_far (p:=⟨gb108,5,none⟩) (Kd.R_far (p:=⟨gb108,4,none⟩) (Kd.R_far (p:=⟨gb108,3,none⟩) (Kd.R_far (p:=⟨gb108,2,none⟩) (Kd.R_far (p:=⟨gb108,1,none⟩) (Kd.R_far (p:=⟨gb108,0,none⟩) (Kd.R_mono HO_8.out (fun k_ hk => (⟨hk,hk.2⟩ : _ ∧ k_ ≠ gb108))) (fun _ hk => hk.2) (.string t110)) (fun _ hk => hk.2) (.int .i64 t111)) (fun _ hk => hk.2) (.int .i64 t112)) (fun _ hk => hk.2) (.int .i64 t113)) (fun _ hk => hk.2) (.string t114)) (fun _ hk => hk.2) (.string t115)) (fun _ hk => hk.1.1)⟩,⟨by (with_reducible repeat (first | refine blk_drewN ?_ _ | refine blk_drew ?_ | refine blk_alloc ?_ _));refine blk_far ?_ NB101_108.out _;(with_reducible repeat (first | refine blk_drewN ?_ _ | refine blk_drew ?_ | refine blk_alloc ?_ _));refine blk_far ?_ NB101_108.out _;(with_reducible repeat (first | refine blk_drewN ?_ _ | refine blk_drew ?_ | refine blk_alloc ?_ _));refine blk_far ?_ NB101_108.out _;(with_reducible repeat (first | refine blk_drewN ?_ _ | refine blk_drew ?_ | refine blk_alloc ?_ _));refine blk_far ?_ NB101_108.out _;(with_reducible repeat (first | refine blk_drewN ?_ _ | refine blk_drew ?_ | refine blk_alloc ?_ _));refine blk_far ?_ NB101_108.out _;(with_reducible repeat (first | refine blk_drewN ?_ _ | refine blk_drew ?_ | refine blk_alloc ?_ _));refine blk_far ?_ NB101_108.out _;(with_reducible repeat (first | refine blk_drewN ?_ _ | refine blk_drew ?_ | refine blk_alloc ?_ _));exact BK101.out⟩,⟨by (with_reducible repeat (first | refine blk_drewN ?_ _ | refine blk_drew ?_ | refine blk_alloc ?_ _));refine blk_far ?_ NB106_108.out _;(with_reducible repeat (first | refine blk_drewN ?_ _ | refine blk_drew ?_ | refine blk_alloc ?_ _));refine blk_far ?_ NB106_108.out _;(with_reducible repeat (first | refine blk_drewN ?_ _ | refine blk_drew ?_ | refine blk_alloc ?_ _));refine blk_far ?_ NB106_108.out _;(with_reducible repeat (first | refine blk_drewN ?_ _ | refine blk_drew ?_ | refine blk_alloc ?_ _));refine blk_far ?_ NB106_108.out _;(with_reducible repeat (first | refine blk_drewN ?_ _ | refine blk_drew ?_ | refine blk_alloc ?_ _));refine blk_far ?_ NB106_108.out _;(with_reducible repeat (first | refine blk_drewN ?_ _ | refine blk_drew ?_ | refine blk_alloc ?_ _));refine blk_far ?_ NB106_108.out _;(with_reducible repeat (first | refine blk_drewN ?_ _ | refine blk_drew ?_ | refine blk_alloc ?_ _));exact BK106.out⟩,⟨by repeat (first | (with_reducible first | exact HB.out | apply below_alloc | apply pw_below_drewN | apply below_drew1 | refine below_set ?_ GE101.out | refine below_set ?_ GE106.out | refine below_set ?_ GE108.out) | exact HB.out)⟩⟩
       ·replace c17:=Bool.eq_false_iff.mpr c17
        subst c17
        rw [if_neg (show ¬ (false = true) by decide)] at H
        by_cases c44 : x8_1.length < 1954687338268
        ·rw [if_pos c44] at H
         have LMc44:=Aside0.mk c44
         clear c44
         obtain ⟨y120,hy120⟩ : ∃ y_ : List (S41),y_ = (x8_1 ++ [(⟨(rd_T41 l0 x22_1).f0,(⟨(rd_T41 l0 x22_1).f1.f0,(rd_T41 l0 x22_1).f1.f1,(rd_T41 l0 x22_1).f1.f2,(rd_T41 l0 x22_1).f1.f3,(rd_T41 l0 x22_1).f1.f4⟩ : S24)⟩ : S41)]):=⟨_,rfl⟩
         replace H : (mvs_Downgrade.l0 k1 y120 l0 (l0.length : Int) (wrap64 (x22_1 + 1)) a2_0 a2_1 a2_2 a2_3 a2_4 a2_5 l1) = some r:=by first | (rw [hy120];with_reducible exact H) | (have H2_:=(Option.bind_some _ _).symm.trans H;rw [hy120];with_reducible exact H2_) | (have H2_:=(Option.bind_some _ _).symm.trans H;with_reducible exact H2_) | with_reducible exact H | (rw [hy120];exact H) | exact H
         have Ny120:=Aside0.mk hy120
         clear hy120
         have H':=Aside0.mk H
         clear H
         have p107 : 0 ≤ (x22_1 : Int):=of_decide_eq_true q2_
         have q107 : x22_1 < (l0.length : Int):=of_decide_eq_true q2_
         obtain ⟨ad107,e107,hx107_0,hx107_1,hx107_2,hx107_3,hx107_4,hx107_5⟩:=at_T41 HR0.out x22_1 p107 q107
         cases e107
         replace hx107_0:=(HB.out.cell (World.block_lt_of_cell? w _ hx107_0)).trans hx107_0
         replace hx107_1:=(HB.out.cell (World.block_lt_of_cell? w _ hx107_1)).trans hx107_1
         replace hx107_2:=(HB.out.cell (World.block_lt_of_cell? w _ hx107_2)).trans hx107_2
         replace hx107_3:=(HB.out.cell (World.block_lt_of_cell? w _ hx107_3)).trans hx107_3
         replace hx107_4:=(HB.out.cell (World.block_lt_of_cell? w _ hx107_4)).trans hx107_4
         replace hx107_5:=(HB.out.cell (World.block_lt_of_cell? w _ hx107_5)).trans hx107_5
         replace p107:=eq_true p107
         replace q107:=eq_true q107
         go_wp2_with (first | ((with_reducible refine gate_dst (N:=10) rfl ?_);refine box_event ?hg (N:=10) ?hd (cs:=#[.string (⟨#[]⟩ : ByteArray),.int .i64 0,.int .i64 0,.int .i64 0,.string (⟨#[]⟩ : ByteArray),.string (⟨#[]⟩ : ByteArray)]) (t:=41) ?hr ?_;(case hd => rfl);(case hg => rfl);(case hr => first | (go_simp;done) | (go_simp;rfl));intro gb108 hg w45 hbox hb;replace HO_8:=Aside0.mk (Kd.R_below (Kd.R_elderB q33_ gb108 (Nat.le_of_eq hg.symm)) hb);have BK108:=Aside0.mk (hbox);have GW108:=Aside0.mk ((q19_ : w.heap.size ≤ gb108));have GE108:=Aside0.mk ((q19_ : w.heap.size ≤ gb108));replace HB:=Aside0.mk (below_step bh_ hb);have NB101_108:=Aside0.mk ((q46_ : gb101 ≠ gb108));have NB108_101:=Aside0.mk ((q47_ : gb108 ≠ gb101));replace BK101:=Aside0.mk (blk_below bk101_ hb);have NB106_108:=Aside0.mk ((q59_ : gb106 ≠ gb108));have NB108_106:=Aside0.mk ((q60_ : gb108 ≠ gb106));replace BK106:=Aside0.mk (blk_below bk106_ hb);clear hb hbox hg;have hnb46:=NB108_101.out;have hnc46:=NB101_108.out;have hnb47:=NB108_106.out;have hnc47:=NB106_108.out;have hcz48_0 : w45.cell? ⟨gb108,0,none⟩ = some (.string (⟨#[]⟩ : ByteArray)):=(blk_cell BK108.out 0).trans rfl;have hcz48_1 : w45.cell? ⟨gb108,1,none⟩ = some (.int .i64 0):=(blk_cell BK108.out 1).trans rfl;have hcz48_2 : w45.cell? ⟨gb108,2,none⟩ = some (.int .i64 0):=(blk_cell BK108.out 2).trans rfl;have hcz48_3 : w45.cell? ⟨gb108,3,none⟩ = some (.int .i64 0):=(blk_cell BK108.out 3).trans rfl;have hcz48_4 : w45.cell? ⟨gb108,4,none⟩ = some (.string (⟨#[]⟩ : ByteArray)):=(blk_cell BK108.out 4).trans rfl;have hcz48_5 : w45.cell? ⟨gb108,5,none⟩ = some (.string (⟨#[]⟩ : ByteArray)):=(blk_cell BK108.out 5).trans rfl;have hfz48_0:=blk_frozen BK108.out 0;have hfz48_1:=blk_frozen BK108.out 1;have hfz48_2:=blk_frozen BK108.out 2;have hfz48_3:=blk_frozen BK108.out 3;have hfz48_4:=blk_frozen BK108.out 4;have hfz48_5:=blk_frozen BK108.out 5;have hnb49:=NB106_101.out;have hnc49:=NB101_106.out;have hcz50_0 : w45.cell? ⟨gb106,0,none⟩ = some (.string a2_0):=(blk_cell BK106.out 0).trans rfl;have hcz50_1 : w45.cell? ⟨gb106,1,none⟩ = some (.int .i64 a2_1):=(blk_cell BK106.out 1).trans rfl;have hcz50_2 : w45.cell? ⟨gb106,2,none⟩ = some (.int .i64 a2_2):=(blk_cell BK106.out 2).trans rfl;have hcz50_3 : w45.cell? ⟨gb106,3,none⟩ = some (.int .i64 a2_3):=(blk_cell BK106.out 3).trans rfl;have hcz50_4 : w45.cell? ⟨gb106,4,none⟩ = some (.string a2_4):=(blk_cell BK106.out 4).trans rfl;have hcz50_5 : w45.cell? ⟨gb106,5,none⟩ = some (.string a2_5):=(blk_cell BK106.out 5).trans rfl;have hcz50_6 : w45.cell? ⟨gb106,6,none⟩ = some (.slice A1 l1.length c1):=(blk_cell BK106.out 6).trans rfl;have hfz50_0:=blk_frozen BK106.out 0;have hfz50_1:=blk_frozen BK106.out 1;have hfz50_2:=blk_frozen BK106.out 2;have hfz50_3:=blk_frozen BK106.out 3;have hfz50_4:=blk_frozen BK106.out 4;have hfz50_5:=blk_frozen BK106.out 5;have hfz50_6:=blk_frozen BK106.out 6) | ((with_reducible refine gate_callee (f:=62) rfl ?_);refine goesL_ (some 28) rfl rfl Tryz.func62 q3_ rfl #[.agg #[.string a2_0,.int .i64 a2_1,.int .i64 a2_2,.int .i64 a2_3,.string a2_4,.string a2_5,.slice A1 l1.length c1],.agg #[.string ((rd_T41 l0 x22_1).f0),.int .i64 ((rd_T41 l0 x22_1).f1.f0),.int .i64 ((rd_T41 l0 x22_1).f1.f1),.int .i64 ((rd_T41 l0 x22_1).f1.f2),.string ((rd_T41 l0 x22_1).f1.f3),.string ((rd_T41 l0 x22_1).f1.f4)]] rfl q1_ ?_;(with_reducible refine (mvs_bound_out.calls a2_0 a2_1 a2_2 a2_3 a2_4 a2_5 _ _ l1 ((rd_T41 l0 x22_1).f0) ((rd_T41 l0 x22_1).f1.f0) ((rd_T41 l0 x22_1).f1.f1) ((rd_T41 l0 x22_1).f1.f2) ((rd_T41 l0 x22_1).f1.f3) ((rd_T41 l0 x22_1).f1.f4) false _ ?side1 ?side2 A16.out ?sideG).mono ?_);(case sideG => first | exact HG.out | exact Env.below HG.out bh_);(case side1 => exact Kd.C_below HR1.out bh_);(case side2 => exact HC1.out);rintro e w51 ⟨rfl,hb⟩;refine ⟨_,rfl,?_⟩;replace HO_8:=Aside0.mk (Kd.R_below q15_ hb);replace BK101:=Aside0.mk (blk_below (g:=gb101) (o:=.cells #[.string a2_0,.int .i64 a2_1,.int .i64 a2_2,.int .i64 a2_3,.string a2_4,.string a2_5] 41 (0,0)) q6_ hb);replace BK106:=Aside0.mk (blk_below (g:=gb106) (o:=.cells #[.string a2_0,.int .i64 a2_1,.int .i64 a2_2,.int .i64 a2_3,.string a2_4,.string a2_5,.slice A1 l1.length c1] 91 (0,0)) q9_ hb);replace BK108:=Aside0.mk (blk_below (g:=gb108) (o:=.cells #[.string ((rd_T41 l0 x22_1).f0),.int .i64 ((rd_T41 l0 x22_1).f1.f0),.int .i64 ((rd_T41 l0 x22_1).f1.f1),.int .i64 ((rd_T41 l0 x22_1).f1.f2),.string ((rd_T41 l0 x22_1).f1.f3),.string ((rd_T41 l0 x22_1).f1.f4)] 41 (0,0)) q5_ hb);replace HB:=Aside0.mk (below_step bh_ hb);(try clear hb);(try clear hb2);(try clear hk);(try clear hi);have hcz52_0 : w51.cell? ⟨gb108,0,none⟩ = some (.string ((rd_T41 l0 x22_1).f0)):=(blk_cell BK108.out 0).trans rfl;have hcz52_1 : w51.cell? ⟨gb108,1,none⟩ = some (.int .i64 ((rd_T41 l0 x22_1).f1.f0)):=(blk_cell BK108.out 1).trans rfl;have hcz52_2 : w51.cell? ⟨gb108,2,none⟩ = some (.int .i64 ((rd_T41 l0 x22_1).f1.f1)):=(blk_cell BK108.out 2).trans rfl;have hcz52_3 : w51.cell? ⟨gb108,3,none⟩ = some (.int .i64 ((rd_T41 l0 x22_1).f1.f2)):=(blk_cell BK108.out 3).trans rfl;have hcz52_4 : w51.cell? ⟨gb108,4,none⟩ = some (.string ((rd_T41 l0 x22_1).f1.f3)):=(blk_cell BK108.out 4).trans rfl;have hcz52_5 : w51.cell? ⟨gb108,5,none⟩ = some (.string ((rd_T41 l0 x22_1).f1.f4)):=(blk_cell BK108.out 5).trans rfl;have hfz52_0:=blk_frozen BK108.out 0;have hfz52_1:=blk_frozen BK108.out 1;have hfz52_2:=blk_frozen BK108.out 2;have hfz52_3:=blk_frozen BK108.out 3;have hfz52_4:=blk_frozen BK108.out 4;have hfz52_5:=blk_frozen BK108.out 5) | ((with_reducible refine gate_builtin (b:=.append) (xs:=#[.tmp 36,.tmp 38]) rfl ?_);at_builtin;refine Kd.R_append k41 (w0:=w) w.heap.size rfl (.tmp 36) (.tmp 38) 38 41 (.agg #[(.string ⟨#[]⟩),(.int .i64 0),(.int .i64 0),(.int .i64 0),(.string ⟨#[]⟩),(.string ⟨#[]⟩)]) 72 rfl Tryz.underlying38 info41 rfl q35_ q7_ u8 x8_1 (⟨(rd_T41 l0 x22_1).f0,(⟨(rd_T41 l0 x22_1).f1.f0,(rd_T41 l0 x22_1).f1.f1,(rd_T41 l0 x22_1).f1.f2,(rd_T41 l0 x22_1).f1.f3,(rd_T41 l0 x22_1).f1.f4⟩ : S24)⟩ : S41) [.string ((rd_T41 l0 x22_1).f0),.int .i64 ((rd_T41 l0 x22_1).f1.f0),.int .i64 ((rd_T41 l0 x22_1).f1.f1),.int .i64 ((rd_T41 l0 x22_1).f1.f2),.string ((rd_T41 l0 x22_1).f1.f3),.string ((rd_T41 l0 x22_1).f1.f4)] (fun k_ => k_ ≠ gb101 ∧ k_ ≠ gb108) (fun _ => False) rfl rfl ?aP (fun _ hk => hk.elim) ?aF ?aO ?aB ?aS ?aL ?_;(case aP => exact k41_mkM _ _ _ (⟨(rd_T41 l0 x22_1).f0,(⟨(rd_T41 l0 x22_1).f1.f0,(rd_T41 l0 x22_1).f1.f1,(rd_T41 l0 x22_1).f1.f2,(rd_T41 l0 x22_1).f1.f3,(rd_T41 l0 x22_1).f1.f4⟩ : S24)⟩ : S41));(case aB => exact bh_);(case aF => exact (fun k_ hk => ⟨Kd.freshB bk101_ k_ hk,Kd.freshB bk108_ k_ hk⟩));(case aO => exact q33_);(case aS => exact (below_size bh_));(case aL => have:=LMc44.out;omega);intro v121 w53 ho hb hg hat;rw [← Ny120.out] at ho;replace BK101:=Aside0.mk (blk_grown bk101_ hg (Kd.R_away HO_8.out (fun _ hk => hk.1)));replace BK106:=Aside0.mk (blk_grown bk106_ hg (Kd.R_ne HO_8.out BK106.out q35_));replace BK108:=Aside0.mk (blk_grown bk108_ hg (Kd.R_away HO_8.out (fun _ hk => hk.2)));replace HB:=Aside0.mk (hb);have HO122:=Aside0.mk (ho);clear HO_8;clear ho hb hg hat))
         go_roundg k1
         case measure => have:=HK1.out;omega
         case rel => exact ⟨(y120),(wrap64 (x22_1 + 1)),q4_,H',⟨by have:=HK1.out;omega⟩,⟨by (with_reducible repeat (first | apply Kd.R_alloc | apply Kd.R_drewN | apply Kd.R_drew));exact Kd.R_mono HO122.out (fun _ hk => hk.1)⟩,⟨by (with_reducible repeat (first | refine blk_drewN ?_ _ | refine blk_drew ?_ | refine blk_alloc ?_ _));exact BK101.out⟩,⟨by (with_reducible repeat (first | refine blk_drewN ?_ _ | refine blk_drew ?_ | refine blk_alloc ?_ _));exact BK106.out⟩,⟨by repeat (first | (with_reducible first | exact HB.out | apply below_alloc | apply pw_below_drewN | apply below_drew1 | refine below_set ?_ GE101.out | refine below_set ?_ GE106.out | refine below_set ?_ GE108.out) | exact HB.out)⟩⟩
        ·rw [if_neg c44] at H
         exact absurd H q28_
      ·rw [if_neg c15] at H
       exact absurd H q28_
     ·rw [if_neg c14] at H
      exact absurd H q28_
    ·rw [if_neg c13] at H
     have c13b0 : decide (x22_1 < (l0.length : Int)) = false:=decide_eq_false c13
     clear c13
     obtain rfl:=Option.some.inj H
     go_wp2
     go_ret
     exact ⟨_,by first | rfl | (simp [] <;> rfl) | (simp [*] <;> rfl) | (simp [bne_nil_];done) | (simp [*,bne_nil_];done),by (with_reducible repeat (first | apply Kd.R_alloc | apply Kd.R_drewN | apply Kd.R_drew));exact Kd.R_mono HO_8.out (fun _ hk => trivial),by repeat (first | (with_reducible first | exact HB.out | apply below_alloc | apply pw_below_drewN | apply below_drew1 | refine below_set ?_ GE101.out | refine below_set ?_ GE106.out) | exact HB.out)⟩
 ·replace c5:=Bool.eq_false_iff.mpr c5
  subst c5
  rw [if_neg (show ¬ (false = true) by decide)] at H
  obtain ⟨t103,A540,H⟩:=Option.bind_eq_some_iff.mp H
  have A54:=Aside0.mk A540
  clear A540
  obtain rfl:=Option.some.inj H
  go_enter Tryz.func31,Tryz.ntmps31
  go_wp2_with (first | ((with_reducible refine gate_dst (N:=5) rfl ?_);refine box_event ?hg (N:=5) ?hd (cs:=#[.string a2_0,.int .i64 a2_1,.int .i64 a2_2,.int .i64 a2_3,.string a2_4,.string a2_5]) (t:=41) ?hr ?_;(case hd => rfl);(case hg => rfl);(case hr => first | (go_simp;done) | (go_simp;rfl));intro gb101 hg w55 hbox hb;have BK101:=Aside0.mk (hbox);have GW101:=Aside0.mk ((q19_ : w.heap.size ≤ gb101));have GE101:=Aside0.mk ((q19_ : w.heap.size ≤ gb101));replace HB:=Aside0.mk (below_step bh_ hb);clear hb hbox hg;have hcz56_0 : w55.cell? ⟨gb101,0,none⟩ = some (.string a2_0):=(blk_cell BK101.out 0).trans rfl;have hcz56_1 : w55.cell? ⟨gb101,1,none⟩ = some (.int .i64 a2_1):=(blk_cell BK101.out 1).trans rfl;have hcz56_2 : w55.cell? ⟨gb101,2,none⟩ = some (.int .i64 a2_2):=(blk_cell BK101.out 2).trans rfl;have hcz56_3 : w55.cell? ⟨gb101,3,none⟩ = some (.int .i64 a2_3):=(blk_cell BK101.out 3).trans rfl;have hcz56_4 : w55.cell? ⟨gb101,4,none⟩ = some (.string a2_4):=(blk_cell BK101.out 4).trans rfl;have hcz56_5 : w55.cell? ⟨gb101,5,none⟩ = some (.string a2_5):=(blk_cell BK101.out 5).trans rfl;have hfz56_0:=blk_frozen BK101.out 0;have hfz56_1:=blk_frozen BK101.out 1;have hfz56_2:=blk_frozen BK101.out 2;have hfz56_3:=blk_frozen BK101.out 3;have hfz56_4:=blk_frozen BK101.out 4;have hfz56_5:=blk_frozen BK101.out 5) | ((with_reducible refine gate_callee (f:=59) rfl ?_);refine goesL_ (some 13) rfl rfl Tryz.func59 q3_ rfl #[.agg #[.string a2_0,.int .i64 a2_1,.int .i64 a2_2,.int .i64 a2_3,.string a2_4,.string a2_5]] rfl q1_ ?_;(with_reducible refine (mvs_may.calls k a2_0 a2_1 a2_2 a2_3 a2_4 a2_5 false _ A4.out ?sideG).mono ?_);(case sideG => first | exact HG.out | exact Env.below HG.out bh_);rintro e w57 ⟨rfl,hb⟩;refine ⟨_,rfl,?_⟩;replace BK101:=Aside0.mk (blk_below bk101_ hb);replace HB:=Aside0.mk (below_step bh_ hb);(try clear hb);(try clear hb2);(try clear hk);(try clear hi)) | ((with_reducible refine gate_callee (f:=58) rfl ?_);refine goesL_ (some 16) rfl rfl Tryz.func58 q3_ rfl #[.slice A0 l0.length c0] rfl q1_ ?_;(with_reducible refine (slices_Clone_apiReq.calls _ _ l0 t103 _ ?side1 ?side2 A54.out).mono ?_);(case side1 => repeat (first | exact (Kd.C_below HR0.out HB.out) | (with_reducible refine Kd.C_alloc ?_ _) | (with_reducible refine Kd.C_drewN ?_ _) | (with_reducible refine Kd.C_drew ?_)));(case side2 => exact HC0.out);rintro e w58 ⟨v104,rfl,ho0,hb⟩;refine ⟨_,rfl,?_⟩;have HO105:=Aside0.mk (Kd.R_lower (Kd.R_newB ho0 bk101_) (below_size bh_));replace BK101:=Aside0.mk (blk_below bk101_ hb);replace HB:=Aside0.mk (below_step bh_ hb);(try clear hb);(try clear hb2);(try clear hk);(try clear hi);(try clear ho0)))
  go_ret
  exact ⟨_,by first | rfl | (simp [] <;> rfl) | (simp [*] <;> rfl) | (simp [bne_nil_];done) | (simp [*,bne_nil_];done),by (with_reducible repeat (first | apply Kd.R_alloc | apply Kd.R_drewN | apply Kd.R_drew));exact Kd.R_mono HO105.out (fun _ hk => trivial),by repeat (first | (with_reducible first | exact HB.out | apply below_alloc | apply pw_below_drewN | apply below_drew1 | refine below_set ?_ GE101.out) | exact HB.out)⟩
end Go.Proofs.YtennhpoemdaghaaGreatDoor.P
end
