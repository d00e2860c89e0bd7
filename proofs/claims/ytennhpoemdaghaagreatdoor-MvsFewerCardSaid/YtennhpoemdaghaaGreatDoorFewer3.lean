/- A part of the same claim: what its first file says. -/
import Derived.Test.YtennhpoemdaghaaGreatDoorFewer2
set_option linter.unusedVariables false
set_option linter.unusedSimpArgs false
section
namespace Go.Proofs.YtennhpoemdaghaaGreatDoor.P
open Go Go.RowKit Go.Sort Go.Shelf Go.Proofs.YtennhpoemdaghaaGreatDoorW.PrintWords Go.Proofs.YtennhpoemdaghaaGreatDoorW.PrintLast Go.Proofs.YtennhpoemdaghaaGreatDoorW.PrintMore
def encR (r : Req) : List Value:=[.string r.f0,.int .i64 r.f1.f0,.int .i64 r.f1.f1,.int .i64 r.f1.f2,.string r.f1.f3,.string r.f1.f4]
instance : Inhabited Req:=⟨⟨⟨#[]⟩,0,0,0,⟨#[]⟩,⟨#[]⟩⟩⟩
def cfR (x y : Req) : Int:=Lib.compareBytes x.f0.data.toList y.f0.data.toList
theorem cmpB_lt : ∀ a b : List UInt8,decide (Lib.compareBytes a b < 0) = decide (a < b)
 | [],[] => by simp [Lib.compareBytes]
 | [],_ :: _ => by simp [Lib.compareBytes]
 | _ :: _,[] => by simp [Lib.compareBytes]
 | x :: xs,y :: ys => by
  have ih:=cmpB_lt xs ys
  simp only [decide_eq_decide] at ih ⊢
  rw [Lib.compareBytes,List.cons_lt_cons_iff]
  by_cases h1 : x < y
  ·simp [h1]
  ·by_cases h2 : y < x
   ·have h3 : x ≠ y:=fun e => by subst e;exact h1 h2
    simp [h1,h2,h3]
   ·have h3 : x = y:=UInt8.le_antisymm (UInt8.not_lt.1 h2) (UInt8.not_lt.1 h1)
    subst h3
    simp [h1,ih]
theorem ltR (x y : Req) : ltOf cfR x y = decide (x.f0.data.toList < y.f0.data.toList):=cmpB_lt _ _
theorem swoR : SWO (ltOf cfR):=by
 refine ⟨fun x => ?_,fun x y z h1 h2 => ?_,fun x y z h1 h2 => ?_⟩
 ·rw [ltR];simp [List.lt_irrefl]
 ·rw [ltR] at *
  simp only [decide_eq_true_eq] at *
  exact List.lt_trans h1 h2
 ·rw [ltR] at *
  simp only [decide_eq_false_iff_not] at *
  exact List.not_lt.2 (List.le_trans (List.not_lt.1 h2) (List.not_lt.1 h1))
set_option maxHeartbeats 1000000 in
theorem closureR (x y : Req) (W : World) : Calls Tryz.prog 54 #[.agg (encR x).toArray,.agg (encR y).toArray] W fun e w' => e = .returned (.int .i64 (cfR x y)) ∧ ∃ q os',w' = grow (W.drewN q) os':=by
 obtain ⟨r,hr⟩ : ∃ r,cfR x y = r:=⟨_,rfl⟩
 rw [hr]
 unfold encR
 go_enter Tryz.func54,Tryz.ntmps54
 go_wp2_with (go_at_call 55;refine (strings_Compare.calls x.f0 y.f0 r _ (congrArg some hr)).mono ?_;rintro e w' ⟨rfl,⟨nd,rfl⟩⟩)
 go_ret
 exact ⟨rfl,nd,_,by rw [alloc_eq_grow,alloc_eq_grow,grow_grow];rfl⟩
theorem isAggR (w : World) : (isAgg 41).run Tryz.prog w = .ok true w:=by go_simp
theorem sizeOfR (w : World) : (Go.sizeOf 41).run Tryz.prog w = .ok 6 w:=by go_simp
theorem flat_get (d : Array Req) (j q : Nat) (hj : j < d.size) (hq : q < 6) : (flatK encR 6 d)[j * 6 + q]! = (encR d[j]!)[q]!:=by
 rw [get_flatK _ _ _ _ q8_]
 have h1 : (j * 6 + q) / 6 = j:=by omega
 have h2 : (j * 6 + q) % 6 = q:=by omega
 rw [h1,h2]
theorem reps_flat (ys : List Req) (w : World) (base : Nat) (ok : Nat → Prop) : Reps (k41.M w base ok) 6 ys (flatK encR 6 ys.toArray).toList:=by
 refine ⟨by simp,fun j p hp => ?_⟩
 have hj : j < ys.length:=by
  rcases Nat.lt_or_ge j ys.length with h | h
  ·exact h
  ·rw [List.getElem?_eq_none h] at hp;exact absurd hp q43_
 have hpj : ys[j] = p:=by rw [List.getElem?_eq_getElem hj] at hp;exact Option.some.inj hp
 have he : (((flatK encR 6 ys.toArray).toList.drop (j * 6)).take 6) = encR p:=by
  apply List.ext_getElem?
  intro q
  by_cases hq : q < 6
  ·rw [List.getElem?_take_of_lt hq,List.getElem?_drop,Array.getElem?_toList]
   have hsz : j * 6 + q < (flatK encR 6 ys.toArray).size:=by simp;omega
   have hg:=flat_get ys.toArray j q (by simpa using hj) hq
   rw [getElem!_pos (flatK encR 6 ys.toArray) (j * 6 + q) hsz] at hg
   rw [Array.getElem?_eq_getElem hsz,hg]
   have hyj : (ys.toArray)[j]! = p:=by rw [← hpj];simp [hj]
   rw [hyj]
   have hl : q < (encR p).length:=hq
   rw [List.getElem?_eq_getElem hl,getElem!_pos (encR p) q hl]
  ·rw [List.getElem?_eq_none q42_,List.getElem?_eq_none (show (encR p).length ≤ q from by show 6 ≤ q;omega)]
 rw [he]
 exact k41_mkM w base ok p
theorem flat_of_reps {xs : List Req} {inner : List Value} {w : World} {base : Nat} {ok : Nat → Prop} (h : Reps (k41.M w base ok) 6 xs inner) : inner = (flatK encR 6 xs.toArray).toList:=by
 obtain ⟨hl,hr⟩:=h
 apply List.ext_getElem?
 intro t
 by_cases ht : t < xs.length * 6
 ·have hj : t / 6 < xs.length:=by omega
  have hp:=hr (t / 6) xs[t / 6] (List.getElem?_eq_getElem hj)
  have ho:=k41_openM hp
  have h1 : ((inner.drop (t / 6 * 6)).take 6)[t % 6]? = inner[t]?:=by
   rw [List.getElem?_take_of_lt q8_,List.getElem?_drop]
   congr 1
   omega
  rw [← h1,ho]
  have hsz : t < (flatK encR 6 xs.toArray).size:=by simp;omega
  have hg:=get_flatK encR 6 xs.toArray t (by simpa using ht)
  rw [getElem!_pos (flatK encR 6 xs.toArray) t hsz] at hg
  have hR : (flatK encR 6 xs.toArray).toList[t]? = some ((flatK encR 6 xs.toArray)[t]'hsz):=by rw [Array.getElem?_toList,Array.getElem?_eq_getElem hsz]
  rw [hR,hg]
  have hx : (xs.toArray)[t / 6]! = xs[t / 6]:=by simp [hj]
  rw [hx]
  show (encR xs[t / 6])[t % 6]? = _
  have hq : t % 6 < (encR xs[t / 6]).length:=by show _ < 6;omega
  rw [List.getElem?_eq_getElem hq,getElem!_pos (encR xs[t / 6]) (t % 6) hq]
 ·rw [List.getElem?_eq_none q8_,List.getElem?_eq_none q42_]
theorem putCells_take (F cur : Array Value) (h : F.size ≤ cur.size) : (putCells id 0 F cur).toList.take F.size = F.toList:=by
 apply List.ext_getElem?
 intro j
 by_cases hj : j < F.size
 ·rw [List.getElem?_take_of_lt hj,Array.getElem?_toList]
  simp [putCells,hj,show j < cur.size by omega]
 ·rw [List.getElem?_take_eq_none q8_,List.getElem?_eq_none q42_]
theorem heap_sortedR {w : World} {g n : Nat} {os : Array Obj} {cur : Array Value} {e : TypeId} {fr : Nat × Nat} (F : Array Value) (hb : w.heap[g]? = some (.cells cur e fr)) :
  (grow (putRow id (Sort.ahead w n) g 0 F) os).heap[g]? = some (.cells (putCells id 0 F cur) e fr):=by
 have hg : g < w.heap.size:=(Array.getElem?_eq_some_iff.1 hb).1
 rw [heap_grow_old _ _ (by simpa using hg)]
 simp [putRow,mapBlock,Sort.ahead,Array.getElem?_modify,hb,onCells]
theorem grownBy_sortedR {w : World} {g n : Nat} {os : Array Obj} (F : Array Value) : w.grownBy (grow (putRow id (Sort.ahead w n) g 0 F) os) (some g):=by
 refine ⟨rfl,rfl,rfl,by simp,fun k hk hne => ?_⟩
 rw [heap_grow_old _ _ (by simpa using hk)]
 have : g ≠ k:=fun e => hne (by rw [e])
 simp [putRow,mapBlock,Sort.ahead,Array.getElem?_modify,this]
set_option maxRecDepth 100000 in
set_option maxHeartbeats 4000000 in
theorem sort_nil (w : World) : Calls Tryz.prog 53 #[.slice none 0 0,.func (.func 54) #[] #[]] w fun e w' => e = .returned (.tuple #[]) ∧ ∃ nd,w' = w.drewN nd:=by
 have hlen:=fun W => Any.bits_Len (SlLaysF0.n15.bits (P:=Tryz.prog) (ρ:=Tryz.sortReq_ren) { Tryz.sortReq with }) 0 W q8_ q8_
 change ∀ W,Calls Tryz.prog 90 _ _ _ at hlen
 have hins : ∀ W,Calls Tryz.prog 123 #[.slice none 0 0,.int .i64 0,.int .i64 0,.func (.func 54) #[] #[]] W fun e w' => e = .returned (.tuple #[]) ∧ w' = W:=by
  intro W
  go_enter Tryz.func123,Tryz.ntmps123
  go_wp2
  go_loopw [8] (fun v8 wr => v8 = .int .i64 1 ∧ wr = W) (fun _ _ => 0)
  case atStart => exact ⟨rfl,rfl⟩
  case round =>
   obtain ⟨rfl,rfl⟩:=hrel
   go_wp2
   go_end0
   exact ⟨rfl,rfl⟩
 have hpdq : ∀ W,Calls Tryz.prog 89 #[.slice none 0 0,.int .i64 0,.int .i64 0,.int .i64 0,.func (.func 54) #[] #[]] W fun e w' => e = .returned (.tuple #[]) ∧ w' = W:=by
  intro W
  go_enter Tryz.func89,Tryz.ntmps89
  go_wp2
  go_loopw [1,2] (fun v1 v2 wr => v1 = .int .i64 0 ∧ v2 = .int .i64 0 ∧ wr = W) (fun _ _ _ => 0)
  case atStart => exact ⟨rfl,rfl,rfl⟩
  case round =>
   obtain ⟨rfl,rfl,rfl⟩:=hrel
   go_wp2_with (go_at_call 123;refine (hins _).mono ?_;rintro e w' ⟨rfl,rfl⟩)
   refine bodyPost_ret (results_none rfl _ _ _) rfl ⟨rfl,rfl⟩
 go_enter Tryz.func53,Tryz.ntmps53
 go_wp2_with (first | (go_at_call 90;refine (hlen _).mono ?_;rintro e w' ⟨rfl,rfl⟩) | (go_at_call 89;refine (hpdq _).mono ?_;rintro e w' ⟨rfl,rfl⟩))
 go_end0
 exact ⟨rfl,0,rfl⟩
def SortedR (ys : List Req) : Prop:=ys.Pairwise fun a b => ¬ b.f0.data.toList < a.f0.data.toList
theorem sort_calls (v : Value) (xs : List Req) (base : Nat) (ok : Nat → Prop) (w : World) (hR : Kd.R k41 41 w base ok v xs) (hx : xs.length ≤ 1000000) :
  Calls Tryz.prog 53 #[v,.func (.func 54) #[] #[]] w fun e w' => e = .returned (.tuple #[]) ∧ ∃ ys,ys.Perm xs ∧ SortedR ys ∧ Kd.R k41 41 w' base ok v ys ∧ w.grownBy w' v.ownBlock:=by
 obtain ⟨h0,inner,⟨hl,ho⟩,hr⟩:=hR
 rcases ho with ⟨rfl,hn⟩ | ⟨g,cap,cur,rfl,hbg,hb,hnc,hcm,hcs,htk⟩
 ·obtain rfl:=List.eq_nil_of_length_eq_zero hn
  refine (sort_nil w).mono ?_
  rintro e w' ⟨rfl,nd,rfl⟩
  exact ⟨rfl,[],List.Perm.refl _,List.Pairwise.nil,⟨h0,inner,⟨hl,.inl ⟨rfl,rfl⟩⟩,hr⟩,⟨rfl,rfl,rfl,Nat.le_refl _,fun _ _ _ => rfl⟩⟩
 ·have hin:=flat_of_reps hr
  have hgs : g < w.heap.size:=(Array.getElem?_eq_some_iff.1 hb).1
  have hH : HoldsK encR 6 w g 0 xs.toArray:=by
   intro t ht
   have ht' : t < xs.length * 6:=by simpa using ht
   refine ⟨?_,by simp [World.frozen?,hb]⟩
   rw [Nat.zero_add,cell_of_row w g t cur 41 (0,0) hb,← Array.getElem?_toList]
   have h1 : (cur.toList.take (xs.length * 6))[t]? = inner[t]?:=by rw [show k41.sz = 6 from rfl] at htk;rw [htk]
   rw [List.getElem?_take_of_lt ht'] at h1
   rw [h1,hin,Array.getElem?_toList,getElem!_pos (flatK encR 6 xs.toArray) t ht,Array.getElem?_eq_getElem ht]
   rfl
  have hcon:=AnyQ.slices_SortFunc Tryz.sortReq 6 isAggR sizeOfR encR (fun _ => rfl) (fun x v hv => by simp [encR] at hv;rcases hv with rfl | rfl | rfl | rfl | rfl | rfl <;> rfl) cfR swoR 54 #[] g 0 cap xs.toArray w (enters_of Tryz.func54 q11_ rfl) (fun _ _ _ _ x y => closureR x y _) hH hgs q42_
  change Calls Tryz.prog 53 _ _ _ at hcon
  rw [show (xs.toArray).size = xs.length from by simp] at hcon
  refine hcon.mono ?_
  rintro e w' ⟨rfl,d',n,os,⟨hds,_,hperm⟩,hsort,rfl⟩
  have hd' : d'.size = xs.length:=by rw [hds];simp
  obtain ⟨ys,rfl⟩ : ∃ ys : List Req,d' = ys.toArray:=⟨d'.toList,by simp⟩
  have hyl : ys.length = xs.length:=by simpa using hd'
  have hp : ys.Perm xs:=by
   rw [show (ys.toArray.extract 0 xs.length).toList = ys from by simp [← hyl],show (xs.toArray.extract 0 xs.length).toList = xs from by simp] at hperm
   exact hperm
  refine ⟨rfl,ys,hp,?_,?_,grownBy_sortedR _⟩
  ·rw [SortedR,List.pairwise_iff_getElem]
   intro i j hi hj hij
   have h1:=hsort i j (Nat.zero_le _) hij q8_
   rw [ltR] at h1
   have e1 : (ys.toArray)[i]! = ys[i]:=by simp [hi]
   have e2 : (ys.toArray)[j]! = ys[j]:=by simp [hj]
   rw [e1,e2] at h1
   exact of_decide_eq_false h1
  ·refine ⟨h0,(flatK encR 6 ys.toArray).toList,⟨by simp;rfl,.inr ⟨g,cap,_,by rw [hyl],hbg,heap_sortedR _ hb,by omega,hcm,by simp [putCells,hcs],?_⟩⟩,reps_flat ys _ _ _⟩
   have hfs : (flatK encR 6 ys.toArray).size = ys.length * 6:=by simp
   rw [show k41.sz = 6 from rfl,← hfs]
   refine putCells_take _ cur ?_
   rw [hfs,hcs,show k41.sz = 6 from rfl,hyl]
   exact Nat.mul_le_mul_right _ hnc
end Go.Proofs.YtennhpoemdaghaaGreatDoor.P
end
section
namespace Go.Proofs.YtennhpoemdaghaaGreatDoor.P
open Go.RowKit Go.Proofs.YtennhpoemdaghaaGreatDoorW.PrintWords Go.Proofs.YtennhpoemdaghaaGreatDoorW.PrintLast Go.Proofs.YtennhpoemdaghaaGreatDoorW.PrintMore
def Rf07_order.f (a0 : Int) (a1 : Int) : Option (Int):=if a0 < a1 then (some (-1)) else (if a0 > a1 then (some 1) else (some 0))
set_option maxHeartbeats 8000000 in
set_option maxRecDepth 100000 in
theorem Rf07_order.calls (a0 : Int) (a1 : Int) (r : Int) (w : World) (h : Rf07_order.f a0 a1 = some r) :
  Calls Tryz.prog 68 #[.int .i64 a0,.int .i64 a1] w fun e w' => e = .returned (.int .i64 r) ∧ Drawn0 w w':=by
 have H : (if a0 < a1 then (some (-1)) else (if a0 > a1 then (some 1) else (some 0))) = some r:=h
 clear h
 by_cases c3 : a0 < a1
 ·rw [if_pos c3] at H
  have c3b0:=decide_eq_true c3
  clear c3
  obtain rfl:=Option.some.inj H
  go_enter Tryz.func68,Tryz.ntmps68
  go_wp2
  go_ret
  exact ⟨q3_,q4_⟩
 ·rw [if_neg c3] at H
  have c3b0:=decide_eq_false c3
  clear c3
  by_cases c4 : a0 > a1
  ·rw [if_pos c4] at H
   have c4b0 : decide (a1 < a0) = true:=decide_eq_true c4
   clear c4
   obtain rfl:=Option.some.inj H
   go_enter Tryz.func68,Tryz.ntmps68
   go_wp2
   go_ret
   exact ⟨q3_,q4_⟩
  ·rw [if_neg c4] at H
   have c4b0 : decide (a1 < a0) = false:=decide_eq_false c4
   clear c4
   obtain rfl:=Option.some.inj H
   go_enter Tryz.func68,Tryz.ntmps68
   go_wp2
   go_ret
   exact ⟨q3_,q4_⟩
def Rf07_one.f (a0 : Bool) : Option (Int):=if a0 = true then (some 1) else (some 0)
set_option maxHeartbeats 8000000 in
set_option maxRecDepth 100000 in
theorem Rf07_one.calls (a0 : Bool) (r : Int) (w : World) (h : Rf07_one.f a0 = some r) :
  Calls Tryz.prog 97 #[.bool a0] w fun e w' => e = .returned (.int .i64 r) ∧ Drawn0 w w':=by
 have H : (if a0 = true then (some 1) else (some 0)) = some r:=h
 clear h
 by_cases c2 : a0 = true
 ·subst c2
  rw [if_pos rfl] at H
  obtain rfl:=Option.some.inj H
  go_enter Tryz.func97,Tryz.ntmps97
  go_wp2
  go_ret
  exact ⟨q3_,q4_⟩
 ·replace c2:=Bool.eq_false_iff.mpr c2
  subst c2
  rw [if_neg (show ¬ (false = true) by decide)] at H
  obtain rfl:=Option.some.inj H
  go_enter Tryz.func97,Tryz.ntmps97
  go_wp2
  go_ret
  exact ⟨q3_,q4_⟩
end Go.Proofs.YtennhpoemdaghaaGreatDoor.P
end
section
namespace Go.Proofs.YtennhpoemdaghaaGreatDoor.P
open Go
theorem beq_nil_ (l : List UInt8) : (l == []) = l.isEmpty:=by cases l <;> rfl
theorem less_flip (a b : ByteArray) : (!(Op.bytesLess a.toList b.toList || a.toList == b.toList)) = Op.bytesLess b.toList a.toList:=by
 rw [Proofs.bytesLess_eq,Proofs.bytesLess_eq]
 by_cases h : a.toList < b.toList
 ·have h2 : ¬ b.toList < a.toList:=List.lt_asymm h
  simp [h,h2]
 ·by_cases h' : a.toList = b.toList
  ·simp [h,h',List.lt_irrefl]
  ·have h2 : b.toList < a.toList:=by
    rcases Decidable.em (b.toList < a.toList) with h3 | h3
    ·exact h3
    ·exact absurd (List.le_antisymm (List.not_lt.mp h3) (List.not_lt.mp h)) h'
   simp [h,h',h2]
@[go_sem high] theorem binOp_gtr_ (t : TypeId) (a b : ByteArray) : binOp .gtr t (.string a) (.string b) = pure (.bool (Op.bytesLess b.toList a.toList)):=by
 rw [binOp_string_gtr,less_flip]
end Go.Proofs.YtennhpoemdaghaaGreatDoor.P
end
section
namespace Go.Proofs.YtennhpoemdaghaaGreatDoor.P
open Go.RowKit Go.Proofs.YtennhpoemdaghaaGreatDoorW.PrintWords Go.Proofs.YtennhpoemdaghaaGreatDoorW.PrintLast Go.Proofs.YtennhpoemdaghaaGreatDoorW.PrintMore
mutual
def Rf07_words.j0 : Nat → ByteArray → ByteArray → Bool → Bool → Bool → Option (Int)
 | 0,_,_,_,_,_ => none
 | k + 1,x0,x1,x5,x6,x21 => if x21 = true then ((Rf07_order.f (x0.size : Int) (x1.size : Int)).bind fun t103 => (some t103)) else (if x5 = true then (Rf07_words.j1 k x0 x1 x5 x6 (!x6)) else (Rf07_words.j1 k x0 x1 x5 x6 false))
def Rf07_words.j1 : Nat → ByteArray → ByteArray → Bool → Bool → Bool → Option (Int)
 | 0,_,_,_,_,_ => none
 | k + 1,x0,x1,x5,x6,x31 => if x31 = true then (some (-1)) else (if x6 = true then (Rf07_words.j2 k x0 x1 (!x5)) else (Rf07_words.j2 k x0 x1 false))
def Rf07_words.j2 : Nat → ByteArray → ByteArray → Bool → Option (Int)
 | 0,_,_,_ => none
 | k + 1,x0,x1,x36 => if x36 = true then (some 1) else (if (Op.bytesLess x0.toList x1.toList) = true then (some (-1)) else (if (Op.bytesLess x1.toList x0.toList) = true then (some 1) else (some 0)))
end
def Rf07_words.f (k : Nat) (a0 : ByteArray) (a1 : ByteArray) : Option (Int):=(Rf07_digits.f k a0).bind fun t101 => ((Rf07_digits.f k a1).bind fun t102 => (if t101 = true then (if t102 = true then (Rf07_words.j0 k a0 a1 t101 t102 ((a0.size : Int) != (a1.size : Int))) else (Rf07_words.j0 k a0 a1 t101 t102 false)) else (Rf07_words.j0 k a0 a1 t101 t102 false)))
set_option maxHeartbeats 8000000 in
set_option maxRecDepth 100000 in
theorem Rf07_words.calls (k : Nat) (a0 : ByteArray) (a1 : ByteArray) (r : Int) (w : World) (h : Rf07_words.f k a0 a1 = some r) :
  Calls Tryz.prog 99 #[.string a0,.string a1] w fun e w' => e = .returned (.int .i64 r) ∧ Drawn0 w w':=by
 have H : ((Rf07_digits.f k a0).bind fun t101 => ((Rf07_digits.f k a1).bind fun t102 => (if t101 = true then (if t102 = true then (Rf07_words.j0 k a0 a1 t101 t102 ((a0.size : Int) != (a1.size : Int))) else (Rf07_words.j0 k a0 a1 t101 t102 false)) else (Rf07_words.j0 k a0 a1 t101 t102 false)))) = some r:=h
 clear h
 obtain ⟨t101,A30,H⟩:=Option.bind_eq_some_iff.mp H
 have A3:=Aside0.mk A30
 clear A30
 obtain ⟨t102,A40,H⟩:=Option.bind_eq_some_iff.mp H
 have A4:=Aside0.mk A40
 clear A40
 have HC5:=Aside0.mk H
 clear H
 go_enter Tryz.func99,Tryz.ntmps99
 go_upto_region 3 with (first | ((with_reducible refine gate_callee (f:=135) rfl ?_);refine gl_ 8 Tryz.func135 #[.string a0] ?_;(with_reducible refine (Rf07_digits.calls k a0 t101 _ A3.out).mono ?_);rintro e w' ⟨rfl,⟨nd,rfl⟩⟩;refine ⟨_,rfl,?_⟩) | ((with_reducible refine gate_callee (f:=135) rfl ?_);refine gl_ 10 Tryz.func135 #[.string a1] ?_;(with_reducible refine (Rf07_digits.calls k a1 t102 _ A4.out).mono ?_);rintro e w' ⟨rfl,⟨nd,rfl⟩⟩;refine ⟨_,rfl,?_⟩))
 (try simp only [Act.put,List.setIfInBounds_toArray,List.set_cons_zero,List.set_cons_succ])
 go_cut [21] (fun v21 wc => ∃ (kq : Nat) (x21_4 : Bool),v21 = .bool x21_4 ∧ Aside0 (Rf07_words.j0 kq a0 a1 t101 t102 x21_4 = some r) ∧ Aside0 (kq ≤ k) ∧ Drawn0 w wc)
 case first =>
  have H:=HC5.out
  clear HC5
  by_cases c6 : t101 = true
  ·subst c6
   rw [if_pos rfl] at H
   by_cases c7 : t102 = true
   ·subst c7
    rw [if_pos rfl] at H
    have H':=Aside0.mk H
    clear H
    go_wp2
    go_meet
    case rel => exact ⟨_,(((a0.size : Int) != (a1.size : Int))),q5_,H',⟨by first | omega | exact Nat.le_refl _⟩,by repeat (first | exact Drawn0.refl _ | apply Drawn0.step)⟩
   ·replace c7:=Bool.eq_false_iff.mpr c7
    subst c7
    rw [if_neg (show ¬ (false = true) by decide)] at H
    have H':=Aside0.mk H
    clear H
    go_wp2
    go_meet
    case rel => exact ⟨_,(false),q5_,H',⟨by first | omega | exact Nat.le_refl _⟩,by repeat (first | exact Drawn0.refl _ | apply Drawn0.step)⟩
  ·replace c6:=Bool.eq_false_iff.mpr c6
   subst c6
   rw [if_neg (show ¬ (false = true) by decide)] at H
   have H':=Aside0.mk H
   clear H
   go_wp2
   go_meet
   case rel => exact ⟨_,(false),q5_,H',⟨by first | omega | exact Nat.le_refl _⟩,by repeat (first | exact Drawn0.refl _ | apply Drawn0.step)⟩
 case rest =>
  clear HC5
  try clear c1
  try clear p2
  try clear c6
  try clear c7
  obtain ⟨kq,x21_4,rfl,HA,HJ4,⟨mc4,rfl⟩⟩:=hcut
  cases kq with
  | zero => exact absurd HA.out (by simp [Rf07_words.j0])
  | succ kj4 =>
   have H:=HA.out
   clear HA
   simp only [Rf07_words.j0] at H
   by_cases c8 : x21_4 = true
   ·subst c8
    rw [if_pos rfl] at H
    obtain ⟨t103,A90,H⟩:=Option.bind_eq_some_iff.mp H
    have A9:=Aside0.mk A90
    clear A90
    obtain rfl:=Option.some.inj H
    go_wp2_with (first | ((with_reducible refine gate_callee (f:=68) rfl ?_);refine gl_ 26 Tryz.func68 #[.int .i64 (a0.size : Int),.int .i64 (a1.size : Int)] ?_;(with_reducible refine (Rf07_order.calls (a0.size : Int) (a1.size : Int) t103 _ A9.out).mono ?_);rintro e w' ⟨rfl,⟨nd,rfl⟩⟩;refine ⟨_,rfl,?_⟩))
    go_ret
    exact ⟨q3_,q4_⟩
   ·replace c8:=Bool.eq_false_iff.mpr c8
    subst c8
    rw [if_neg (show ¬ (false = true) by decide)] at H
    have HC10:=Aside0.mk H
    clear H
    go_upto_region 5 with (fail)
    go_cut [31] (fun v31 wc => ∃ (kq : Nat) (x31_9 : Bool),v31 = .bool x31_9 ∧ Aside0 (Rf07_words.j1 kq a0 a1 t101 t102 x31_9 = some r) ∧ Aside0 (kq ≤ kj4) ∧ Drawn0 w wc)
    case first =>
     have H:=HC10.out
     clear HC10
     by_cases c11 : t101 = true
     ·subst c11
      rw [if_pos rfl] at H
      have H':=Aside0.mk H
      clear H
      go_wp2
      go_meet
      case rel => exact ⟨_,(!t102),q5_,H',⟨by have:=HJ4.out;first | omega | exact Nat.le_refl _⟩,by repeat (first | exact Drawn0.refl _ | apply Drawn0.step)⟩
     ·replace c11:=Bool.eq_false_iff.mpr c11
      subst c11
      rw [if_neg (show ¬ (false = true) by decide)] at H
      have H':=Aside0.mk H
      clear H
      go_wp2
      go_meet
      case rel => exact ⟨_,(false),q5_,H',⟨by have:=HJ4.out;first | omega | exact Nat.le_refl _⟩,by repeat (first | exact Drawn0.refl _ | apply Drawn0.step)⟩
    case rest =>
     clear HC10
     try clear c1
     try clear p2
     try clear c4
     try clear c6
     try clear c7
     try clear c8
     try clear c9
     try clear c11
     try clear p2
     obtain ⟨kq,x31_9,rfl,HA,HJ9,⟨mc9,rfl⟩⟩:=hcut
     cases kq with
     | zero => exact absurd HA.out (by simp [Rf07_words.j1])
     | succ kj9 =>
      have H:=HA.out
      clear HA
      simp only [Rf07_words.j1] at H
      by_cases c12 : x31_9 = true
      ·subst c12
       rw [if_pos rfl] at H
       obtain rfl:=Option.some.inj H
       go_wp2
       go_ret
       exact ⟨q3_,q4_⟩
      ·replace c12:=Bool.eq_false_iff.mpr c12
       subst c12
       rw [if_neg (show ¬ (false = true) by decide)] at H
       have HC13:=Aside0.mk H
       clear H
       go_upto_region 7 with (fail)
       go_cut [36] (fun v36 wc => ∃ (kq : Nat) (x36_12 : Bool),v36 = .bool x36_12 ∧ Aside0 (Rf07_words.j2 kq a0 a1 x36_12 = some r) ∧ Aside0 (kq ≤ kj9) ∧ Drawn0 w wc)
       case first =>
        have H:=HC13.out
        clear HC13
        by_cases c14 : t102 = true
        ·subst c14
         rw [if_pos rfl] at H
         have H':=Aside0.mk H
         clear H
         go_wp2
         go_meet
         case rel => exact ⟨_,(!t101),q5_,H',⟨by have:=HJ4.out;have:=HJ9.out;first | omega | exact Nat.le_refl _⟩,by repeat (first | exact Drawn0.refl _ | apply Drawn0.step)⟩
        ·replace c14:=Bool.eq_false_iff.mpr c14
         subst c14
         rw [if_neg (show ¬ (false = true) by decide)] at H
         have H':=Aside0.mk H
         clear H
         go_wp2
         go_meet
         case rel => exact ⟨_,(false),q5_,H',⟨by have:=HJ4.out;have:=HJ9.out;first | omega | exact Nat.le_refl _⟩,by repeat (first | exact Drawn0.refl _ | apply Drawn0.step)⟩
       case rest =>
        clear HC13
        try clear c1
        try clear p2
        try clear c4
        try clear c6
        try clear c7
        try clear c8
        try clear c9
        try clear c11
        try clear c12
        try clear c13
        try clear c14
        try clear p2
        obtain ⟨kq,x36_12,rfl,HA,HJ12,⟨mc12,rfl⟩⟩:=hcut
        cases kq with
        | zero => exact absurd HA.out (by simp [Rf07_words.j2])
        | succ kj12 =>
         have H:=HA.out
         clear HA
         simp only [Rf07_words.j2] at H
         by_cases c15 : x36_12 = true
         ·subst c15
          rw [if_pos rfl] at H
          obtain rfl:=Option.some.inj H
          go_wp2
          go_ret
          exact ⟨q3_,q4_⟩
         ·replace c15:=Bool.eq_false_iff.mpr c15
          subst c15
          rw [if_neg (show ¬ (false = true) by decide)] at H
          by_cases c16 : (Op.bytesLess a0.toList a1.toList) = true
          ·rw [if_pos c16] at H
           have c16b0 : (Op.bytesLess a0.toList a1.toList) = true:=c16
           clear c16
           obtain rfl:=Option.some.inj H
           go_wp2
           go_ret
           exact ⟨q3_,q4_⟩
          ·rw [if_neg c16] at H
           have c16b0 : (Op.bytesLess a0.toList a1.toList) = false:=by simpa using c16
           clear c16
           by_cases c17 : (Op.bytesLess a1.toList a0.toList) = true
           ·rw [if_pos c17] at H
            have c17b0 : (Op.bytesLess a1.toList a0.toList) = true:=c17
            clear c17
            obtain rfl:=Option.some.inj H
            go_wp2
            go_ret
            exact ⟨q3_,q4_⟩
           ·rw [if_neg c17] at H
            have c17b0 : (Op.bytesLess a1.toList a0.toList) = false:=by simpa using c17
            clear c17
            obtain rfl:=Option.some.inj H
            go_wp2
            go_ret
            exact ⟨q3_,q4_⟩
end Go.Proofs.YtennhpoemdaghaaGreatDoor.P
end
section
namespace Go.Proofs.YtennhpoemdaghaaGreatDoor.P
open Go.RowKit Go.Proofs.YtennhpoemdaghaaGreatDoorW.PrintWords Go.Proofs.YtennhpoemdaghaaGreatDoorW.PrintLast Go.Proofs.YtennhpoemdaghaaGreatDoorW.PrintMore
mutual
def Rf07_pre.j0 : Nat → ByteArray → ByteArray → Bool → Option (Int)
 | 0,_,_,_ => none
 | k + 1,x0,x1,x13 => if x13 = true then ((Rf07_one.f (x0.toList == ([] : List UInt8))).bind fun t101 => ((Rf07_one.f (x1.toList == ([] : List UInt8))).bind fun t102 => ((Rf07_order.f t101 t102).bind fun t103 => (some t103)))) else ((Rf05_Split.f k x0 46).bind fun t104 => ((Rf05_Split.f k x1 46).bind fun t107 => (Rf07_pre.l0 k t104 t107 0)))
def Rf07_pre.l0 : Nat → List ByteArray → List ByteArray → Int → Option (Int)
 | 0,_,_,_ => none
 | k + 1,x5,x6,x7 => if x7 < (x5.length : Int) then (Rf07_pre.j2 k x5 x6 x7 (decide (x7 < (x6.length : Int)))) else (Rf07_pre.j2 k x5 x6 x7 false)
def Rf07_pre.j2 : Nat → List ByteArray → List ByteArray → Int → Bool → Option (Int)
 | 0,_,_,_,_ => none
 | k + 1,x5,x6,x7,x34 => if x34 = true then (if 0 ≤ x7 then (if x7 < (x5.length : Int) then (if x7 < (x6.length : Int) then ((Rf07_words.f k (rdOf ByteArray.empty x5 x7) (rdOf ByteArray.empty x6 x7)).bind fun t113 => (if t113 = 0 then (Rf07_pre.l0 k x5 x6 (wrap64 (x7 + 1))) else ((Rf07_words.f k (rdOf ByteArray.empty x5 x7) (rdOf ByteArray.empty x6 x7)).bind fun t116 => (some t116)))) else (none)) else (none)) else (none)) else ((Rf07_order.f (x5.length : Int) (x6.length : Int)).bind fun t110 => (some t110))
end
def Rf07_pre.f (k : Nat) (a0 : ByteArray) (a1 : ByteArray) : Option (Int):=if a0.toList = ([] : List UInt8) then (Rf07_pre.j0 k a0 a1 true) else (Rf07_pre.j0 k a0 a1 (a1.toList == ([] : List UInt8)))
set_option maxHeartbeats 8000000 in
set_option maxRecDepth 100000 in
theorem Rf07_pre.calls (k : Nat) (a0 : ByteArray) (a1 : ByteArray) (r : Int) (w : World) (h : Rf07_pre.f k a0 a1 = some r) :
  Calls Tryz.prog 69 #[.string a0,.string a1] w fun e w' => e = .returned (.int .i64 r) ∧ Below w.heap.size w w':=by
 have HB:=Aside0.mk (Below.refl w.heap.size w)
 have H : (if a0.toList = ([] : List UInt8) then (Rf07_pre.j0 k a0 a1 true) else (Rf07_pre.j0 k a0 a1 (a1.toList == ([] : List UInt8)))) = some r:=h
 clear h
 have HC3:=Aside0.mk H
 clear H
 go_enter Tryz.func69,Tryz.ntmps69
 go_upto_region 1 with (fail)
 repeat (go_quiet (fail);go_upto_region 1 with (fail))
 go_cut [13] (fun v13 wc => ∃ (kq : Nat) (x13_2 : Bool),v13 = .bool x13_2 ∧ Aside0 (Rf07_pre.j0 kq a0 a1 x13_2 = some r) ∧ Aside0 (kq ≤ k) ∧ Aside0 (Below w.heap.size w wc))
 case first =>
  have H:=HC3.out
  clear HC3
  by_cases c4 : a0.toList = ([] : List UInt8)
  ·rw [if_pos c4] at H
   have c4b0:=beq_iff_eq.mpr c4
   have c4b1:=bne_eq_false_iff_eq.mpr c4
   clear c4
   (first | rw [c4b0] | (simp only [];rw [c4b0]) | skip)
   have H':=Aside0.mk H
   clear H
   go_wp2
   repeat (go_quiet (fail);try go_wp2)
   go_meet
   case rel => exact ⟨_,(true),q5_,H',⟨by first | omega | exact Nat.le_refl _⟩,⟨by repeat (first | (with_reducible first | exact HB.out | apply below_alloc | apply pw_below_drewN | apply below_drew1) | exact HB.out)⟩⟩
  ·rw [if_neg c4] at H
   have c4b0:=beq_eq_false_iff_ne.mpr c4
   have c4b1:=bne_iff_ne.mpr c4
   (first | rw [c4b0] | (simp only [];rw [c4b0]) | skip)
   have H':=Aside0.mk H
   clear H
   go_wp2
   repeat (go_quiet (fail);try go_wp2)
   go_meet
   case rel => exact ⟨_,((a1.toList == ([] : List UInt8))),q5_,H',⟨by first | omega | exact Nat.le_refl _⟩,⟨by repeat (first | (with_reducible first | exact HB.out | apply below_alloc | apply pw_below_drewN | apply below_drew1) | exact HB.out)⟩⟩
 case rest =>
  clear HC3
  try clear p2
  try clear c4
  try clear c4b0
  try clear c4b1
  obtain ⟨kq,x13_2,rfl,HA,HJ2,HB⟩:=hcut
  cases kq with
  | zero => exact absurd HA.out (by simp [Rf07_pre.j0])
  | succ kj2 =>
   have H:=HA.out
   clear HA
   simp only [Rf07_pre.j0] at H
   by_cases c5 : x13_2 = true
   ·subst c5
    rw [if_pos rfl] at H
    obtain ⟨t101,A60,H⟩:=Option.bind_eq_some_iff.mp H
    have A6:=Aside0.mk A60
    clear A60
    obtain ⟨t102,A70,H⟩:=Option.bind_eq_some_iff.mp H
    have A7:=Aside0.mk A70
    clear A70
    obtain ⟨t103,A80,H⟩:=Option.bind_eq_some_iff.mp H
    have A8:=Aside0.mk A80
    clear A80
    obtain rfl:=Option.some.inj H
    go_wp2_with (first | (go_at_call 97;(with_reducible refine (Rf07_one.calls (a0.toList.isEmpty) t101 _ q54_).mono ?_);rintro e w' ⟨rfl,⟨nd,rfl⟩⟩;(try first | exact ⟨rfl,_,World.drewN_drewN _ _ _⟩ | exact ⟨rfl,_,Eq.trans (World.drewN_drewN _ _ _) (congrArg (World.drewN _) (Nat.add_assoc _ _ _))⟩)) | (go_at_call 97;(with_reducible refine (Rf07_one.calls (a1.toList.isEmpty) t102 _ q53_).mono ?_);rintro e w' ⟨rfl,⟨nd,rfl⟩⟩;(try first | exact ⟨rfl,_,World.drewN_drewN _ _ _⟩ | exact ⟨rfl,_,Eq.trans (World.drewN_drewN _ _ _) (congrArg (World.drewN _) (Nat.add_assoc _ _ _))⟩)) | (go_at_call 68;(with_reducible refine (Rf07_order.calls t101 t102 t103 _ A8.out).mono ?_);rintro e w' ⟨rfl,⟨nd,rfl⟩⟩;(try first | exact ⟨rfl,_,World.drewN_drewN _ _ _⟩ | exact ⟨rfl,_,Eq.trans (World.drewN_drewN _ _ _) (congrArg (World.drewN _) (Nat.add_assoc _ _ _))⟩)))
    repeat (go_quiet (first | (go_at_call 97;(with_reducible refine (Rf07_one.calls (a0.toList.isEmpty) t101 _ q54_).mono ?_);rintro e w' ⟨rfl,⟨nd,rfl⟩⟩;(try first | exact ⟨rfl,_,World.drewN_drewN _ _ _⟩ | exact ⟨rfl,_,Eq.trans (World.drewN_drewN _ _ _) (congrArg (World.drewN _) (Nat.add_assoc _ _ _))⟩)) | (go_at_call 97;(with_reducible refine (Rf07_one.calls (a1.toList.isEmpty) t102 _ q53_).mono ?_);rintro e w' ⟨rfl,⟨nd,rfl⟩⟩;(try first | exact ⟨rfl,_,World.drewN_drewN _ _ _⟩ | exact ⟨rfl,_,Eq.trans (World.drewN_drewN _ _ _) (congrArg (World.drewN _) (Nat.add_assoc _ _ _))⟩)) | (go_at_call 68;(with_reducible refine (Rf07_order.calls t101 t102 t103 _ A8.out).mono ?_);rintro e w' ⟨rfl,⟨nd,rfl⟩⟩;(try first | exact ⟨rfl,_,World.drewN_drewN _ _ _⟩ | exact ⟨rfl,_,Eq.trans (World.drewN_drewN _ _ _) (congrArg (World.drewN _) (Nat.add_assoc _ _ _))⟩)));try go_wp2_with (first | (go_at_call 97;(with_reducible refine (Rf07_one.calls (a0.toList.isEmpty) t101 _ q54_).mono ?_);rintro e w' ⟨rfl,⟨nd,rfl⟩⟩;(try first | exact ⟨rfl,_,World.drewN_drewN _ _ _⟩ | exact ⟨rfl,_,Eq.trans (World.drewN_drewN _ _ _) (congrArg (World.drewN _) (Nat.add_assoc _ _ _))⟩)) | (go_at_call 97;(with_reducible refine (Rf07_one.calls (a1.toList.isEmpty) t102 _ q53_).mono ?_);rintro e w' ⟨rfl,⟨nd,rfl⟩⟩;(try first | exact ⟨rfl,_,World.drewN_drewN _ _ _⟩ | exact ⟨rfl,_,Eq.trans (World.drewN_drewN _ _ _) (congrArg (World.drewN _) (Nat.add_assoc _ _ _))⟩)) | (go_at_call 68;(with_reducible refine (Rf07_order.calls t101 t102 t103 _ A8.out).mono ?_);rintro e w' ⟨rfl,⟨nd,rfl⟩⟩;(try first | exact ⟨rfl,_,World.drewN_drewN _ _ _⟩ | exact ⟨rfl,_,Eq.trans (World.drewN_drewN _ _ _) (congrArg (World.drewN _) (Nat.add_assoc _ _ _))⟩))))
    go_ret
    exact ⟨q2_,bh_⟩
   ·replace c5:=Bool.eq_false_iff.mpr c5
    subst c5
    rw [if_neg (show ¬ (false = true) by decide)] at H
    obtain ⟨t104,A90,H⟩:=Option.bind_eq_some_iff.mp H
    have A9:=Aside0.mk A90
    clear A90
    obtain ⟨t107,A100,H⟩:=Option.bind_eq_some_iff.mp H
    have A10:=Aside0.mk A100
    clear A100
    have H':=Aside0.mk H
    clear H
    go_wp2_with (first | (go_at_call 98;(with_reducible refine (Rf05_Split.calls kj2 a0 46 t104 _ A9.out).mono ?_);rintro e w11 ⟨v105,rfl,ho0,hb⟩;have HO106:=Aside0.mk (Kd.R_lower ho0 (below_size bh_));replace HB:=Aside0.mk (below_step bh_ hb);(try clear hb);(try clear ho0)) | (go_at_call 98;(with_reducible refine (Rf05_Split.calls kj2 a1 46 t107 _ A10.out).mono ?_);rintro e w12 ⟨v108,rfl,ho0,hb⟩;have HO109:=Aside0.mk (Kd.R_lower (Kd.R_new' ho0 (Kd.R_lt q31_)) (below_size bh_));replace HO106:=Aside0.mk (Kd.R_elder' q31_ (Kd.R_base ho0) hb);replace HB:=Aside0.mk (below_step bh_ hb);(try clear hb);(try clear ho0)))
    repeat (go_quiet (first | (go_at_call 98;(with_reducible refine (Rf05_Split.calls kj2 a0 46 t104 _ A9.out).mono ?_);rintro e w11 ⟨v105,rfl,ho0,hb⟩;have HO106:=Aside0.mk (Kd.R_lower ho0 (below_size bh_));replace HB:=Aside0.mk (below_step bh_ hb);(try clear hb);(try clear ho0)) | (go_at_call 98;(with_reducible refine (Rf05_Split.calls kj2 a1 46 t107 _ A10.out).mono ?_);rintro e w12 ⟨v108,rfl,ho0,hb⟩;have HO109:=Aside0.mk (Kd.R_lower (Kd.R_new' ho0 (Kd.R_lt q31_)) (below_size bh_));replace HO106:=Aside0.mk (Kd.R_elder' q31_ (Kd.R_base ho0) hb);replace HB:=Aside0.mk (below_step bh_ hb);(try clear hb);(try clear ho0)));try go_wp2_with (first | (go_at_call 98;(with_reducible refine (Rf05_Split.calls kj2 a0 46 t104 _ A9.out).mono ?_);rintro e w11 ⟨v105,rfl,ho0,hb⟩;have HO106:=Aside0.mk (Kd.R_lower ho0 (below_size bh_));replace HB:=Aside0.mk (below_step bh_ hb);(try clear hb);(try clear ho0)) | (go_at_call 98;(with_reducible refine (Rf05_Split.calls kj2 a1 46 t107 _ A10.out).mono ?_);rintro e w12 ⟨v108,rfl,ho0,hb⟩;have HO109:=Aside0.mk (Kd.R_lower (Kd.R_new' ho0 (Kd.R_lt q31_)) (below_size bh_));replace HO106:=Aside0.mk (Kd.R_elder' q31_ (Kd.R_base ho0) hb);replace HB:=Aside0.mk (below_step bh_ hb);(try clear hb);(try clear ho0))))
    go_loopg [7] kj2 (fun kq v7 w' => ∃ (x7_2 : Int),v7 = .int .i64 x7_2 ∧ Aside0 (Rf07_pre.l0 kq t104 t107 x7_2 = some r) ∧ Aside0 (kq ≤ kj2) ∧ Aside0 (Kd.R Kd.string 9 w' w.heap.size (fun k_ => some k_ ≠ (v108 : Value).ownBlock) v105 t104) ∧ Aside0 (Kd.R Kd.string 9 w' w.heap.size (fun k_ => some k_ ≠ (v105 : Value).ownBlock) v108 t107) ∧ Aside0 (Below w.heap.size w w'))
    case atStart => exact ⟨(0),q5_,H',⟨Nat.le_refl _⟩,⟨by (with_reducible repeat (first | apply Kd.R_alloc | apply Kd.R_drewN | apply Kd.R_drew));exact Kd.R_mono HO106.out (fun _ hk => hk.2)⟩,⟨by (with_reducible repeat (first | apply Kd.R_alloc | apply Kd.R_drewN | apply Kd.R_drew));exact Kd.R_mono HO109.out (fun _ hk => hk.2)⟩,⟨by repeat (first | (with_reducible first | exact HB.out | apply below_alloc | apply pw_below_drewN | apply below_drew1) | exact HB.out)⟩⟩
    case round =>
     clear H'
     try clear p2
     try clear c4
     try clear c4b0
     try clear c4b1
     try clear c5
     try clear c6
     try clear p2
     obtain ⟨x7_2,rfl,HA,HK2,HO_5,HO_6,HB⟩:=hrel
     cases gk with
     | zero => exact absurd HA.out (by simp [Rf07_pre.l0])
     | succ k2 =>
      have H:=HA.out
      clear HA
      simp only [Rf07_pre.l0] at H
      have HC13:=Aside0.mk H
      clear H
      go_upto_region 6 with (fail)
      repeat (go_quiet (fail);go_upto_region 6 with (fail))
      go_cut [34] (fun v34 wc => ∃ (kq : Nat) (x34_12 : Bool),v34 = .bool x34_12 ∧ Aside0 (Rf07_pre.j2 kq t104 t107 x7_2 x34_12 = some r) ∧ Aside0 (kq ≤ k2) ∧ Aside0 (Kd.R Kd.string 9 wc w.heap.size (fun k_ => some k_ ≠ (v108 : Value).ownBlock) v105 t104) ∧ Aside0 (Kd.R Kd.string 9 wc w.heap.size (fun k_ => some k_ ≠ (v105 : Value).ownBlock) v108 t107) ∧ Aside0 (Below w.heap.size w wc))
      case first =>
       have H:=HC13.out
       clear HC13
       by_cases c14 : x7_2 < (t104.length : Int)
       ·rw [if_pos c14] at H
        have c14b0:=decide_eq_true c14
        clear c14
        (first | rw [c14b0] | (simp only [];rw [c14b0]) | skip)
        have H':=Aside0.mk H
        clear H
        obtain ⟨Ao15,co15,eo15⟩:=Kd.R_slice HO_5.out
        subst eo15
        obtain ⟨Ao16,co16,eo16⟩:=Kd.R_slice HO_6.out
        subst eo16
        go_wp2
        repeat (go_quiet (fail);try go_wp2)
        go_meet
        case rel => exact ⟨_,(decide (x7_2 < (t107.length : Int))),q5_,H',⟨by have:=HJ2.out;have:=HK2.out;first | omega | exact Nat.le_refl _⟩,⟨by (with_reducible repeat (first | apply Kd.R_alloc | apply Kd.R_drewN | apply Kd.R_drew));exact HO_5.out⟩,⟨by (with_reducible repeat (first | apply Kd.R_alloc | apply Kd.R_drewN | apply Kd.R_drew));exact HO_6.out⟩,⟨by repeat (first | (with_reducible first | exact HB.out | apply below_alloc | apply pw_below_drewN | apply below_drew1) | exact HB.out)⟩⟩
       ·rw [if_neg c14] at H
        have c14b0:=decide_eq_false c14
        clear c14
        (first | rw [c14b0] | (simp only [];rw [c14b0]) | skip)
        have H':=Aside0.mk H
        clear H
        obtain ⟨Ao17,co17,eo17⟩:=Kd.R_slice HO_5.out
        subst eo17
        go_wp2
        repeat (go_quiet (fail);try go_wp2)
        go_meet
        case rel => exact ⟨_,(false),q5_,H',⟨by have:=HJ2.out;have:=HK2.out;first | omega | exact Nat.le_refl _⟩,⟨by (with_reducible repeat (first | apply Kd.R_alloc | apply Kd.R_drewN | apply Kd.R_drew));exact HO_5.out⟩,⟨by (with_reducible repeat (first | apply Kd.R_alloc | apply Kd.R_drewN | apply Kd.R_drew));exact HO_6.out⟩,⟨by repeat (first | (with_reducible first | exact HB.out | apply below_alloc | apply pw_below_drewN | apply below_drew1) | exact HB.out)⟩⟩
      case rest =>
       clear HC13
       try clear c1
       try clear p2
       try clear c4
       try clear c4b0
       try clear c4b1
       try clear c5
       try clear c6
       try clear c14
       try clear c14b0
       try clear p2
       obtain ⟨kq,x34_12,rfl,HA,HJ12,HO_5,HO_6,HB⟩:=hcut
       cases kq with
       | zero => exact absurd HA.out (by simp [Rf07_pre.j2])
       | succ kj12 =>
        have H:=HA.out
        clear HA
        simp only [Rf07_pre.j2] at H
        by_cases c18 : x34_12 = true
        ·subst c18
         rw [if_pos rfl] at H
         by_cases c19 : 0 ≤ x7_2
         ·rw [if_pos c19] at H
          have c19b0:=decide_eq_true c19
          clear c19
          by_cases c20 : x7_2 < (t104.length : Int)
          ·rw [if_pos c20] at H
           have c20b0:=decide_eq_true c20
           clear c20
           by_cases c21 : x7_2 < (t107.length : Int)
           ·rw [if_pos c21] at H
            have c21b0:=decide_eq_true c21
            clear c21
            obtain ⟨t113,A220,H⟩:=Option.bind_eq_some_iff.mp H
            have A22:=Aside0.mk A220
            clear A220
            by_cases c23 : t113 = 0
            ·rw [if_pos c23] at H
             have c23b0:=beq_iff_eq.mpr c23
             have c23b1:=bne_eq_false_iff_eq.mpr c23
             clear c23
             have H':=Aside0.mk H
             clear H
             obtain ⟨Ao24,co24,eo24⟩:=Kd.R_slice HO_5.out
             subst eo24
             have p111 : 0 ≤ (x7_2 : Int):=of_decide_eq_true q1_
             have q111 : x7_2 < (t104.length : Int):=of_decide_eq_true q1_
             obtain ⟨ad111,e111,hx111_0⟩:=Kd.at_string (Kd.R_reads' HO_5.out).2.2 x7_2 p111 q111
             cases e111
             replace p111:=eq_true p111
             replace q111:=eq_true q111
             obtain ⟨Ao25,co25,eo25⟩:=Kd.R_slice HO_6.out
             subst eo25
             have p112 : 0 ≤ (x7_2 : Int):=of_decide_eq_true q1_
             have q112 : x7_2 < (t107.length : Int):=of_decide_eq_true q1_
             obtain ⟨ad112,e112,hx112_0⟩:=Kd.at_string (Kd.R_reads' HO_6.out).2.2 x7_2 p112 q112
             cases e112
             replace p112:=eq_true p112
             replace q112:=eq_true q112
             go_wp2_with (first | (go_at_call 99;(with_reducible refine (Rf07_words.calls kj12 (rdOf ByteArray.empty t104 x7_2) (rdOf ByteArray.empty t107 x7_2) t113 _ A22.out).mono ?_);rintro e w' ⟨rfl,⟨nd,rfl⟩⟩;(try first | exact ⟨rfl,_,World.drewN_drewN _ _ _⟩ | exact ⟨rfl,_,Eq.trans (World.drewN_drewN _ _ _) (congrArg (World.drewN _) (Nat.add_assoc _ _ _))⟩)))
             repeat (go_quiet (first | (go_at_call 99;(with_reducible refine (Rf07_words.calls kj12 (rdOf ByteArray.empty t104 x7_2) (rdOf ByteArray.empty t107 x7_2) t113 _ A22.out).mono ?_);rintro e w' ⟨rfl,⟨nd,rfl⟩⟩;(try first | exact ⟨rfl,_,World.drewN_drewN _ _ _⟩ | exact ⟨rfl,_,Eq.trans (World.drewN_drewN _ _ _) (congrArg (World.drewN _) (Nat.add_assoc _ _ _))⟩)));try go_wp2_with (first | (go_at_call 99;(with_reducible refine (Rf07_words.calls kj12 (rdOf ByteArray.empty t104 x7_2) (rdOf ByteArray.empty t107 x7_2) t113 _ A22.out).mono ?_);rintro e w' ⟨rfl,⟨nd,rfl⟩⟩;(try first | exact ⟨rfl,_,World.drewN_drewN _ _ _⟩ | exact ⟨rfl,_,Eq.trans (World.drewN_drewN _ _ _) (congrArg (World.drewN _) (Nat.add_assoc _ _ _))⟩))))
             go_roundg kj12
             case measure => have:=HJ2.out;have:=HK2.out;have:=HJ12.out;omega
             case rel => exact ⟨(wrap64 (x7_2 + 1)),q5_,H',⟨by have:=HJ2.out;have:=HK2.out;have:=HJ12.out;omega⟩,⟨by (with_reducible repeat (first | apply Kd.R_alloc | apply Kd.R_drewN | apply Kd.R_drew));exact HO_5.out⟩,⟨by (with_reducible repeat (first | apply Kd.R_alloc | apply Kd.R_drewN | apply Kd.R_drew));exact HO_6.out⟩,⟨by repeat (first | (with_reducible first | exact HB.out | apply below_alloc | apply pw_below_drewN | apply below_drew1) | exact HB.out)⟩⟩
            ·rw [if_neg c23] at H
             have c23b0:=beq_eq_false_iff_ne.mpr c23
             have c23b1:=bne_iff_ne.mpr c23
             obtain ⟨t116,A260,H⟩:=Option.bind_eq_some_iff.mp H
             have A26:=Aside0.mk A260
             clear A260
             obtain rfl : t113 = t116:=Option.some.inj (A22.out.symm.trans A26.out)
             obtain rfl:=Option.some.inj H
             obtain ⟨Ao27,co27,eo27⟩:=Kd.R_slice HO_5.out
             subst eo27
             have p111 : 0 ≤ (x7_2 : Int):=of_decide_eq_true q1_
             have q111 : x7_2 < (t104.length : Int):=of_decide_eq_true q1_
             obtain ⟨ad111,e111,hx111_0⟩:=Kd.at_string (Kd.R_reads' HO_5.out).2.2 x7_2 p111 q111
             cases e111
             replace p111:=eq_true p111
             replace q111:=eq_true q111
             obtain ⟨Ao28,co28,eo28⟩:=Kd.R_slice HO_6.out
             subst eo28
             have p112 : 0 ≤ (x7_2 : Int):=of_decide_eq_true q1_
             have q112 : x7_2 < (t107.length : Int):=of_decide_eq_true q1_
             obtain ⟨ad112,e112,hx112_0⟩:=Kd.at_string (Kd.R_reads' HO_6.out).2.2 x7_2 p112 q112
             cases e112
             replace p112:=eq_true p112
             replace q112:=eq_true q112
             go_wp2_with (first | (go_at_call 99;(with_reducible refine (Rf07_words.calls kj12 (rdOf ByteArray.empty t104 x7_2) (rdOf ByteArray.empty t107 x7_2) t113 _ A22.out).mono ?_);rintro e w' ⟨rfl,⟨nd,rfl⟩⟩;(try first | exact ⟨rfl,_,World.drewN_drewN _ _ _⟩ | exact ⟨rfl,_,Eq.trans (World.drewN_drewN _ _ _) (congrArg (World.drewN _) (Nat.add_assoc _ _ _))⟩);have p114 : 0 ≤ (x7_2 : Int):=of_decide_eq_true q1_;have q114 : x7_2 < (t104.length : Int):=of_decide_eq_true q1_;obtain ⟨ad114,e114,hx114_0⟩:=Kd.at_string (Kd.R_reads' HO_5.out).2.2 x7_2 p114 q114;obtain rfl : ad111 = ad114:=(by injection e114);replace p114:=eq_true p114;replace q114:=eq_true q114;have p115 : 0 ≤ (x7_2 : Int):=of_decide_eq_true q1_;have q115 : x7_2 < (t107.length : Int):=of_decide_eq_true q1_;obtain ⟨ad115,e115,hx115_0⟩:=Kd.at_string (Kd.R_reads' HO_6.out).2.2 x7_2 p115 q115;obtain rfl : ad112 = ad115:=(by injection e115);replace p115:=eq_true p115;replace q115:=eq_true q115) | (go_at_call 99;(with_reducible refine (Rf07_words.calls kj12 (rdOf ByteArray.empty t104 x7_2) (rdOf ByteArray.empty t107 x7_2) t116 _ A26.out).mono ?_);rintro e w' ⟨rfl,⟨nd,rfl⟩⟩;(try first | exact ⟨rfl,_,World.drewN_drewN _ _ _⟩ | exact ⟨rfl,_,Eq.trans (World.drewN_drewN _ _ _) (congrArg (World.drewN _) (Nat.add_assoc _ _ _))⟩)))
             repeat (go_quiet (first | (go_at_call 99;(with_reducible refine (Rf07_words.calls kj12 (rdOf ByteArray.empty t104 x7_2) (rdOf ByteArray.empty t107 x7_2) t113 _ A22.out).mono ?_);rintro e w' ⟨rfl,⟨nd,rfl⟩⟩;(try first | exact ⟨rfl,_,World.drewN_drewN _ _ _⟩ | exact ⟨rfl,_,Eq.trans (World.drewN_drewN _ _ _) (congrArg (World.drewN _) (Nat.add_assoc _ _ _))⟩);have p114 : 0 ≤ (x7_2 : Int):=of_decide_eq_true q1_;have q114 : x7_2 < (t104.length : Int):=of_decide_eq_true q1_;obtain ⟨ad114,e114,hx114_0⟩:=Kd.at_string (Kd.R_reads' HO_5.out).2.2 x7_2 p114 q114;obtain rfl : ad111 = ad114:=(by injection e114);replace p114:=eq_true p114;replace q114:=eq_true q114;have p115 : 0 ≤ (x7_2 : Int):=of_decide_eq_true q1_;have q115 : x7_2 < (t107.length : Int):=of_decide_eq_true q1_;obtain ⟨ad115,e115,hx115_0⟩:=Kd.at_string (Kd.R_reads' HO_6.out).2.2 x7_2 p115 q115;obtain rfl : ad112 = ad115:=(by injection e115);replace p115:=eq_true p115;replace q115:=eq_true q115) | (go_at_call 99;(with_reducible refine (Rf07_words.calls kj12 (rdOf ByteArray.empty t104 x7_2) (rdOf ByteArray.empty t107 x7_2) t116 _ A26.out).mono ?_);rintro e w' ⟨rfl,⟨nd,rfl⟩⟩;(try first | exact ⟨rfl,_,World.drewN_drewN _ _ _⟩ | exact ⟨rfl,_,Eq.trans (World.drewN_drewN _ _ _) (congrArg (World.drewN _) (Nat.add_assoc _ _ _))⟩)));try go_wp2_with (first | (go_at_call 99;(with_reducible refine (Rf07_words.calls kj12 (rdOf ByteArray.empty t104 x7_2) (rdOf ByteArray.empty t107 x7_2) t113 _ A22.out).mono ?_);rintro e w' ⟨rfl,⟨nd,rfl⟩⟩;(try first | exact ⟨rfl,_,World.drewN_drewN _ _ _⟩ | exact ⟨rfl,_,Eq.trans (World.drewN_drewN _ _ _) (congrArg (World.drewN _) (Nat.add_assoc _ _ _))⟩);have p114 : 0 ≤ (x7_2 : Int):=of_decide_eq_true q1_;have q114 : x7_2 < (t104.length : Int):=of_decide_eq_true q1_;obtain ⟨ad114,e114,hx114_0⟩:=Kd.at_string (Kd.R_reads' HO_5.out).2.2 x7_2 p114 q114;obtain rfl : ad111 = ad114:=(by injection e114);replace p114:=eq_true p114;replace q114:=eq_true q114;have p115 : 0 ≤ (x7_2 : Int):=of_decide_eq_true q1_;have q115 : x7_2 < (t107.length : Int):=of_decide_eq_true q1_;obtain ⟨ad115,e115,hx115_0⟩:=Kd.at_string (Kd.R_reads' HO_6.out).2.2 x7_2 p115 q115;obtain rfl : ad112 = ad115:=(by injection e115);replace p115:=eq_true p115;replace q115:=eq_true q115) | (go_at_call 99;(with_reducible refine (Rf07_words.calls kj12 (rdOf ByteArray.empty t104 x7_2) (rdOf ByteArray.empty t107 x7_2) t116 _ A26.out).mono ?_);rintro e w' ⟨rfl,⟨nd,rfl⟩⟩;(try first | exact ⟨rfl,_,World.drewN_drewN _ _ _⟩ | exact ⟨rfl,_,Eq.trans (World.drewN_drewN _ _ _) (congrArg (World.drewN _) (Nat.add_assoc _ _ _))⟩))))
             go_ret
             exact ⟨q2_,bh_⟩
           ·rw [if_neg c21] at H
            exact absurd H q43_
          ·rw [if_neg c20] at H
           exact absurd H q43_
         ·rw [if_neg c19] at H
          exact absurd H q43_
        ·replace c18:=Bool.eq_false_iff.mpr c18
         subst c18
         rw [if_neg (show ¬ (false = true) by decide)] at H
         obtain ⟨t110,A290,H⟩:=Option.bind_eq_some_iff.mp H
         have A29:=Aside0.mk A290
         clear A290
         obtain rfl:=Option.some.inj H
         obtain ⟨Ao30,co30,eo30⟩:=Kd.R_slice HO_5.out
         subst eo30
         obtain ⟨Ao31,co31,eo31⟩:=Kd.R_slice HO_6.out
         subst eo31
         go_wp2_with (first | (go_at_call 68;(with_reducible refine (Rf07_order.calls (t104.length : Int) (t107.length : Int) t110 _ A29.out).mono ?_);rintro e w' ⟨rfl,⟨nd,rfl⟩⟩;(try first | exact ⟨rfl,_,World.drewN_drewN _ _ _⟩ | exact ⟨rfl,_,Eq.trans (World.drewN_drewN _ _ _) (congrArg (World.drewN _) (Nat.add_assoc _ _ _))⟩)))
         repeat (go_quiet (first | (go_at_call 68;(with_reducible refine (Rf07_order.calls (t104.length : Int) (t107.length : Int) t110 _ A29.out).mono ?_);rintro e w' ⟨rfl,⟨nd,rfl⟩⟩;(try first | exact ⟨rfl,_,World.drewN_drewN _ _ _⟩ | exact ⟨rfl,_,Eq.trans (World.drewN_drewN _ _ _) (congrArg (World.drewN _) (Nat.add_assoc _ _ _))⟩)));try go_wp2_with (first | (go_at_call 68;(with_reducible refine (Rf07_order.calls (t104.length : Int) (t107.length : Int) t110 _ A29.out).mono ?_);rintro e w' ⟨rfl,⟨nd,rfl⟩⟩;(try first | exact ⟨rfl,_,World.drewN_drewN _ _ _⟩ | exact ⟨rfl,_,Eq.trans (World.drewN_drewN _ _ _) (congrArg (World.drewN _) (Nat.add_assoc _ _ _))⟩))))
         go_ret
         exact ⟨q2_,bh_⟩
end Go.Proofs.YtennhpoemdaghaaGreatDoor.P
end
section
namespace Go.Proofs.YtennhpoemdaghaaGreatDoor.P
open Go.RowKit Go.Proofs.YtennhpoemdaghaaGreatDoorW.PrintWords Go.Proofs.YtennhpoemdaghaaGreatDoorW.PrintLast Go.Proofs.YtennhpoemdaghaaGreatDoorW.PrintMore
def Rf07_Compare.j0 : Nat → Bool → Int → Int → Int → ByteArray → ByteArray → Int → Int → Int → ByteArray → ByteArray → Option (Int)
 | 0,_,_,_,_,_,_,_,_,_,_,_ => none
 | k + 1,x12,x102000,x102001,x102002,x102003,x102004,x103000,x103001,x103002,x103003,x103004 => if x12 = true then (some 0) else (if x102000 = x103000 then (if x102001 = x103001 then (if x102002 = x103002 then ((Rf07_pre.f k x102003 x103003).bind fun t107 => (some t107)) else ((Rf07_order.f x102002 x103002).bind fun t108 => (some t108))) else ((Rf07_order.f x102001 x103001).bind fun t106 => (some t106))) else ((Rf07_order.f x102000 x103000).bind fun t105 => (some t105)))
def Rf07_Compare.f (k : Nat) (a0_0 : Int) (a0_1 : Int) (a0_2 : Int) (a0_3 : ByteArray) (a0_4 : ByteArray) (a1_0 : Int) (a1_1 : Int) (a1_2 : Int) (a1_3 : ByteArray) (a1_4 : ByteArray) : Option (Int):=(Rf07_Check.f k a0_0 a0_1 a0_2 a0_3 a0_4).bind fun t103 => (if t103 = true then ((Rf07_Check.f k a1_0 a1_1 a1_2 a1_3 a1_4).bind fun t104 => (Rf07_Compare.j0 k (!t104) a0_0 a0_1 a0_2 a0_3 a0_4 a1_0 a1_1 a1_2 a1_3 a1_4)) else (Rf07_Compare.j0 k true a0_0 a0_1 a0_2 a0_3 a0_4 a1_0 a1_1 a1_2 a1_3 a1_4))
set_option maxHeartbeats 8000000 in
set_option maxRecDepth 100000 in
theorem Rf07_Compare.calls (k : Nat) (a0_0 : Int) (a0_1 : Int) (a0_2 : Int) (a0_3 : ByteArray) (a0_4 : ByteArray) (a1_0 : Int) (a1_1 : Int) (a1_2 : Int) (a1_3 : ByteArray) (a1_4 : ByteArray) (r : Int) (w : World) (h : Rf07_Compare.f k a0_0 a0_1 a0_2 a0_3 a0_4 a1_0 a1_1 a1_2 a1_3 a1_4 = some r) :
  Calls Tryz.prog 36 #[.agg #[.int .i64 a0_0,.int .i64 a0_1,.int .i64 a0_2,.string a0_3,.string a0_4],.agg #[.int .i64 a1_0,.int .i64 a1_1,.int .i64 a1_2,.string a1_3,.string a1_4]] w fun e w' => e = .returned (.int .i64 r) ∧ Below w.heap.size w w':=by
 have hu24:=Tryz.underlying24
 have HB:=Aside0.mk (Below.refl w.heap.size w)
 have H : ((Rf07_Check.f k a0_0 a0_1 a0_2 a0_3 a0_4).bind fun t103 => (if t103 = true then ((Rf07_Check.f k a1_0 a1_1 a1_2 a1_3 a1_4).bind fun t104 => (Rf07_Compare.j0 k (!t104) a0_0 a0_1 a0_2 a0_3 a0_4 a1_0 a1_1 a1_2 a1_3 a1_4)) else (Rf07_Compare.j0 k true a0_0 a0_1 a0_2 a0_3 a0_4 a1_0 a1_1 a1_2 a1_3 a1_4))) = some r:=h
 clear h
 have HC3:=Aside0.mk H
 clear H
 go_enter Tryz.func36,Tryz.ntmps36
 go_upto_region 1 with (first | ((with_reducible refine gate_dst (N:=2) rfl ?_);refine bx_ 2 24 #[.int .i64 a0_0,.int .i64 a0_1,.int .i64 a0_2,.string a0_3,.string a0_4] ?_;intro gb101 hg w4 hbox hb;have BK101:=Aside0.mk (hbox);have GW101:=Aside0.mk ((q20_ : w.heap.size ≤ gb101));have GE101:=Aside0.mk ((q20_ : w.heap.size ≤ gb101));replace HB:=Aside0.mk (below_step bh_ hb);clear hb hbox hg) | ((with_reducible refine gate_dst (N:=3) rfl ?_);refine bx_ 3 24 #[.int .i64 a1_0,.int .i64 a1_1,.int .i64 a1_2,.string a1_3,.string a1_4] ?_;intro gb102 hg w5 hbox hb;have BK102:=Aside0.mk (hbox);have GW102:=Aside0.mk ((q20_ : w.heap.size ≤ gb102));have GE102:=Aside0.mk ((q20_ : w.heap.size ≤ gb102));replace HB:=Aside0.mk (below_step bh_ hb);have NB101_102:=Aside0.mk ((q46_ : gb101 ≠ gb102));have NB102_101:=Aside0.mk ((q47_ : gb102 ≠ gb101));replace BK101:=Aside0.mk (blk_below bk101_ hb);clear hb hbox hg))
 (try simp only [Act.put,List.setIfInBounds_toArray,List.set_cons_zero,List.set_cons_succ])
 go_cut [12] (fun v12 wc => ∃ (kq : Nat) (x12_2 : Bool),v12 = .bool x12_2 ∧ Aside0 (Rf07_Compare.j0 kq x12_2 a0_0 a0_1 a0_2 a0_3 a0_4 a1_0 a1_1 a1_2 a1_3 a1_4 = some r) ∧ Aside0 (kq ≤ k) ∧ Aside0 (wc.heap[gb101]? = some (.cells #[.int .i64 a0_0,.int .i64 a0_1,.int .i64 a0_2,.string a0_3,.string a0_4] 24 (0,0))) ∧ Aside0 (wc.heap[gb102]? = some (.cells #[.int .i64 a1_0,.int .i64 a1_1,.int .i64 a1_2,.string a1_3,.string a1_4] 24 (0,0))) ∧ Aside0 (Below w.heap.size w wc))
 case first =>
  have H:=HC3.out
  clear HC3
  obtain ⟨t103,A60,H⟩:=Option.bind_eq_some_iff.mp H
  have A6:=Aside0.mk A60
  clear A60
  by_cases c7 : t103 = true
  ·subst c7
   rw [if_pos rfl] at H
   obtain ⟨t104,A80,H⟩:=Option.bind_eq_some_iff.mp H
   have A8:=Aside0.mk A80
   clear A80
   have H':=Aside0.mk H
   clear H
   have hnb9:=NB101_102.out
   have hnc9:=NB102_101.out
   have hcz10_0 : w5.cell? ⟨gb101,0,none⟩ = some (.int .i64 a0_0):=(blk_cell BK101.out 0).trans rfl
   have hcz10_1 : w5.cell? ⟨gb101,1,none⟩ = some (.int .i64 a0_1):=(blk_cell BK101.out 1).trans rfl
   have hcz10_2 : w5.cell? ⟨gb101,2,none⟩ = some (.int .i64 a0_2):=(blk_cell BK101.out 2).trans rfl
   have hcz10_3 : w5.cell? ⟨gb101,3,none⟩ = some (.string a0_3):=(blk_cell BK101.out 3).trans rfl
   have hcz10_4 : w5.cell? ⟨gb101,4,none⟩ = some (.string a0_4):=(blk_cell BK101.out 4).trans rfl
   have hfz10_0:=blk_frozen BK101.out 0
   have hfz10_1:=blk_frozen BK101.out 1
   have hfz10_2:=blk_frozen BK101.out 2
   have hfz10_3:=blk_frozen BK101.out 3
   have hfz10_4:=blk_frozen BK101.out 4
   go_wp2_with (first | ((with_reducible refine gate_callee (f:=67) rfl ?_);refine gl_ 6 Tryz.func67 #[.agg #[.int .i64 a0_0,.int .i64 a0_1,.int .i64 a0_2,.string a0_3,.string a0_4]] ?_;(with_reducible refine (Rf07_Check.calls k a0_0 a0_1 a0_2 a0_3 a0_4 true _ A6.out).mono ?_);rintro e w11 ⟨rfl,hb⟩;refine ⟨_,rfl,?_⟩;replace BK101:=Aside0.mk (blk_below bk101_ hb);replace BK102:=Aside0.mk (blk_below bk102_ hb);replace HB:=Aside0.mk (below_step bh_ hb);(try clear hb);have hcz12_0 : w11.cell? ⟨gb102,0,none⟩ = some (.int .i64 a1_0):=(blk_cell BK102.out 0).trans rfl;have hcz12_1 : w11.cell? ⟨gb102,1,none⟩ = some (.int .i64 a1_1):=(blk_cell BK102.out 1).trans rfl;have hcz12_2 : w11.cell? ⟨gb102,2,none⟩ = some (.int .i64 a1_2):=(blk_cell BK102.out 2).trans rfl;have hcz12_3 : w11.cell? ⟨gb102,3,none⟩ = some (.string a1_3):=(blk_cell BK102.out 3).trans rfl;have hcz12_4 : w11.cell? ⟨gb102,4,none⟩ = some (.string a1_4):=(blk_cell BK102.out 4).trans rfl;have hfz12_0:=blk_frozen BK102.out 0;have hfz12_1:=blk_frozen BK102.out 1;have hfz12_2:=blk_frozen BK102.out 2;have hfz12_3:=blk_frozen BK102.out 3;have hfz12_4:=blk_frozen BK102.out 4) | (go_at_call 67;(with_reducible refine (Rf07_Check.calls k a1_0 a1_1 a1_2 a1_3 a1_4 t104 _ A8.out).mono ?_);rintro e w13 ⟨rfl,hb⟩;replace BK101:=Aside0.mk (blk_below bk101_ hb);replace BK102:=Aside0.mk (blk_below bk102_ hb);replace HB:=Aside0.mk (below_step bh_ hb);(try clear hb)))
   go_meet
   case rel => exact ⟨_,(!t104),q5_,H',⟨by first | omega | exact Nat.le_refl _⟩,⟨by (with_reducible repeat (first | refine blk_drewN ?_ _ | refine blk_drew ?_ | refine blk_alloc ?_ _));exact BK101.out⟩,⟨by (with_reducible repeat (first | refine blk_drewN ?_ _ | refine blk_drew ?_ | refine blk_alloc ?_ _));exact BK102.out⟩,⟨by repeat (first | (with_reducible first | exact HB.out | apply below_alloc | apply pw_below_drewN | apply below_drew1 | refine below_set ?_ GE101.out | refine below_set ?_ GE102.out) | exact HB.out)⟩⟩
  ·replace c7:=Bool.eq_false_iff.mpr c7
   subst c7
   rw [if_neg (show ¬ (false = true) by decide)] at H
   have H':=Aside0.mk H
   clear H
   have hnb14:=NB101_102.out
   have hnc14:=NB102_101.out
   have hcz15_0 : w5.cell? ⟨gb101,0,none⟩ = some (.int .i64 a0_0):=(blk_cell BK101.out 0).trans rfl
   have hcz15_1 : w5.cell? ⟨gb101,1,none⟩ = some (.int .i64 a0_1):=(blk_cell BK101.out 1).trans rfl
   have hcz15_2 : w5.cell? ⟨gb101,2,none⟩ = some (.int .i64 a0_2):=(blk_cell BK101.out 2).trans rfl
   have hcz15_3 : w5.cell? ⟨gb101,3,none⟩ = some (.string a0_3):=(blk_cell BK101.out 3).trans rfl
   have hcz15_4 : w5.cell? ⟨gb101,4,none⟩ = some (.string a0_4):=(blk_cell BK101.out 4).trans rfl
   have hfz15_0:=blk_frozen BK101.out 0
   have hfz15_1:=blk_frozen BK101.out 1
   have hfz15_2:=blk_frozen BK101.out 2
   have hfz15_3:=blk_frozen BK101.out 3
   have hfz15_4:=blk_frozen BK101.out 4
   go_wp2_with (first | ((with_reducible refine gate_callee (f:=67) rfl ?_);refine gl_ 6 Tryz.func67 #[.agg #[.int .i64 a0_0,.int .i64 a0_1,.int .i64 a0_2,.string a0_3,.string a0_4]] ?_;(with_reducible refine (Rf07_Check.calls k a0_0 a0_1 a0_2 a0_3 a0_4 false _ A6.out).mono ?_);rintro e w16 ⟨rfl,hb⟩;refine ⟨_,rfl,?_⟩;replace BK101:=Aside0.mk (blk_below bk101_ hb);replace BK102:=Aside0.mk (blk_below bk102_ hb);replace HB:=Aside0.mk (below_step bh_ hb);(try clear hb)))
   go_meet
   case rel => exact ⟨_,(true),q5_,H',⟨by first | omega | exact Nat.le_refl _⟩,⟨by (with_reducible repeat (first | refine blk_drewN ?_ _ | refine blk_drew ?_ | refine blk_alloc ?_ _));exact BK101.out⟩,⟨by (with_reducible repeat (first | refine blk_drewN ?_ _ | refine blk_drew ?_ | refine blk_alloc ?_ _));exact BK102.out⟩,⟨by repeat (first | (with_reducible first | exact HB.out | apply below_alloc | apply pw_below_drewN | apply below_drew1 | refine below_set ?_ GE101.out | refine below_set ?_ GE102.out) | exact HB.out)⟩⟩
 case rest =>
  clear HC3
  try clear c1
  try clear p2
  try clear c3
  try clear c6
  try clear c7
  try clear c9
  try clear c14
  try clear hcz10_0
  try clear hcz10_1
  try clear hcz10_2
  try clear hcz10_3
  try clear hcz10_4
  try clear hcz12_0
  try clear hcz12_1
  try clear hcz12_2
  try clear hcz12_3
  try clear hcz12_4
  try clear hcz15_0
  try clear hcz15_1
  try clear hcz15_2
  try clear hcz15_3
  try clear hcz15_4
  try clear hfz10_0
  try clear hfz10_1
  try clear hfz10_2
  try clear hfz10_3
  try clear hfz10_4
  try clear hfz12_0
  try clear hfz12_1
  try clear hfz12_2
  try clear hfz12_3
  try clear hfz12_4
  try clear hfz15_0
  try clear hfz15_1
  try clear hfz15_2
  try clear hfz15_3
  try clear hfz15_4
  obtain ⟨kq,x12_2,rfl,HA,HJ2,BK101,BK102,HB⟩:=hcut
  cases kq with
  | zero => exact absurd HA.out (by simp [Rf07_Compare.j0])
  | succ kj2 =>
   have H:=HA.out
   clear HA
   simp only [Rf07_Compare.j0] at H
   by_cases c17 : x12_2 = true
   ·subst c17
    rw [if_pos rfl] at H
    obtain rfl:=Option.some.inj H
    go_wp2
    go_ret
    exact ⟨q2_,bh_⟩
   ·replace c17:=Bool.eq_false_iff.mpr c17
    subst c17
    rw [if_neg (show ¬ (false = true) by decide)] at H
    by_cases c18 : a0_0 = a1_0
    ·rw [if_pos c18] at H
     have c18b0:=beq_iff_eq.mpr c18
     have c18b1:=bne_eq_false_iff_eq.mpr c18
     clear c18
     by_cases c19 : a0_1 = a1_1
     ·rw [if_pos c19] at H
      have c19b0:=beq_iff_eq.mpr c19
      have c19b1:=bne_eq_false_iff_eq.mpr c19
      clear c19
      by_cases c20 : a0_2 = a1_2
      ·rw [if_pos c20] at H
       have c20b0:=beq_iff_eq.mpr c20
       have c20b1:=bne_eq_false_iff_eq.mpr c20
       clear c20
       obtain ⟨t107,A210,H⟩:=Option.bind_eq_some_iff.mp H
       have A21:=Aside0.mk A210
       clear A210
       obtain rfl:=Option.some.inj H
       have hnb22:=NB101_102.out
       have hnc22:=NB102_101.out
       have hcz23_0 : wc.cell? ⟨gb101,0,none⟩ = some (.int .i64 a0_0):=(blk_cell BK101.out 0).trans rfl
       have hcz23_1 : wc.cell? ⟨gb101,1,none⟩ = some (.int .i64 a0_1):=(blk_cell BK101.out 1).trans rfl
       have hcz23_2 : wc.cell? ⟨gb101,2,none⟩ = some (.int .i64 a0_2):=(blk_cell BK101.out 2).trans rfl
       have hcz23_3 : wc.cell? ⟨gb101,3,none⟩ = some (.string a0_3):=(blk_cell BK101.out 3).trans rfl
       have hcz23_4 : wc.cell? ⟨gb101,4,none⟩ = some (.string a0_4):=(blk_cell BK101.out 4).trans rfl
       have hfz23_0:=blk_frozen BK101.out 0
       have hfz23_1:=blk_frozen BK101.out 1
       have hfz23_2:=blk_frozen BK101.out 2
       have hfz23_3:=blk_frozen BK101.out 3
       have hfz23_4:=blk_frozen BK101.out 4
       have hcz24_0 : wc.cell? ⟨gb102,0,none⟩ = some (.int .i64 a1_0):=(blk_cell BK102.out 0).trans rfl
       have hcz24_1 : wc.cell? ⟨gb102,1,none⟩ = some (.int .i64 a1_1):=(blk_cell BK102.out 1).trans rfl
       have hcz24_2 : wc.cell? ⟨gb102,2,none⟩ = some (.int .i64 a1_2):=(blk_cell BK102.out 2).trans rfl
       have hcz24_3 : wc.cell? ⟨gb102,3,none⟩ = some (.string a1_3):=(blk_cell BK102.out 3).trans rfl
       have hcz24_4 : wc.cell? ⟨gb102,4,none⟩ = some (.string a1_4):=(blk_cell BK102.out 4).trans rfl
       have hfz24_0:=blk_frozen BK102.out 0
       have hfz24_1:=blk_frozen BK102.out 1
       have hfz24_2:=blk_frozen BK102.out 2
       have hfz24_3:=blk_frozen BK102.out 3
       have hfz24_4:=blk_frozen BK102.out 4
       go_wp2_with (first | ((with_reducible refine gate_callee (f:=69) rfl ?_);refine gl_ 47 Tryz.func69 #[.string a0_3,.string a1_3] ?_;(with_reducible refine (Rf07_pre.calls kj2 a0_3 a1_3 t107 _ A21.out).mono ?_);rintro e w25 ⟨rfl,hb⟩;refine ⟨_,rfl,?_⟩;replace BK101:=Aside0.mk (blk_below bk101_ hb);replace BK102:=Aside0.mk (blk_below bk102_ hb);replace HB:=Aside0.mk (below_step bh_ hb);(try clear hb)))
       go_ret
       exact ⟨q2_,bh_⟩
      ·rw [if_neg c20] at H
       have c20b0:=beq_eq_false_iff_ne.mpr c20
       have c20b1:=bne_iff_ne.mpr c20
       obtain ⟨t108,A260,H⟩:=Option.bind_eq_some_iff.mp H
       have A26:=Aside0.mk A260
       clear A260
       obtain rfl:=Option.some.inj H
       have hnb27:=NB101_102.out
       have hnc27:=NB102_101.out
       have hcz28_0 : wc.cell? ⟨gb101,0,none⟩ = some (.int .i64 a0_0):=(blk_cell BK101.out 0).trans rfl
       have hcz28_1 : wc.cell? ⟨gb101,1,none⟩ = some (.int .i64 a0_1):=(blk_cell BK101.out 1).trans rfl
       have hcz28_2 : wc.cell? ⟨gb101,2,none⟩ = some (.int .i64 a0_2):=(blk_cell BK101.out 2).trans rfl
       have hcz28_3 : wc.cell? ⟨gb101,3,none⟩ = some (.string a0_3):=(blk_cell BK101.out 3).trans rfl
       have hcz28_4 : wc.cell? ⟨gb101,4,none⟩ = some (.string a0_4):=(blk_cell BK101.out 4).trans rfl
       have hfz28_0:=blk_frozen BK101.out 0
       have hfz28_1:=blk_frozen BK101.out 1
       have hfz28_2:=blk_frozen BK101.out 2
       have hfz28_3:=blk_frozen BK101.out 3
       have hfz28_4:=blk_frozen BK101.out 4
       have hcz29_0 : wc.cell? ⟨gb102,0,none⟩ = some (.int .i64 a1_0):=(blk_cell BK102.out 0).trans rfl
       have hcz29_1 : wc.cell? ⟨gb102,1,none⟩ = some (.int .i64 a1_1):=(blk_cell BK102.out 1).trans rfl
       have hcz29_2 : wc.cell? ⟨gb102,2,none⟩ = some (.int .i64 a1_2):=(blk_cell BK102.out 2).trans rfl
       have hcz29_3 : wc.cell? ⟨gb102,3,none⟩ = some (.string a1_3):=(blk_cell BK102.out 3).trans rfl
       have hcz29_4 : wc.cell? ⟨gb102,4,none⟩ = some (.string a1_4):=(blk_cell BK102.out 4).trans rfl
       have hfz29_0:=blk_frozen BK102.out 0
       have hfz29_1:=blk_frozen BK102.out 1
       have hfz29_2:=blk_frozen BK102.out 2
       have hfz29_3:=blk_frozen BK102.out 3
       have hfz29_4:=blk_frozen BK102.out 4
       go_wp2_with (first | ((with_reducible refine gate_callee (f:=68) rfl ?_);refine gl_ 42 Tryz.func68 #[.int .i64 a0_2,.int .i64 a1_2] ?_;(with_reducible refine (Rf07_order.calls a0_2 a1_2 t108 _ A26.out).mono ?_);rintro e w' ⟨rfl,⟨nd,rfl⟩⟩;refine ⟨_,rfl,?_⟩))
       go_ret
       exact ⟨q2_,bh_⟩
     ·rw [if_neg c19] at H
      have c19b0:=beq_eq_false_iff_ne.mpr c19
      have c19b1:=bne_iff_ne.mpr c19
      obtain ⟨t106,A300,H⟩:=Option.bind_eq_some_iff.mp H
      have A30:=Aside0.mk A300
      clear A300
      obtain rfl:=Option.some.inj H
      have hnb31:=NB101_102.out
      have hnc31:=NB102_101.out
      have hcz32_0 : wc.cell? ⟨gb101,0,none⟩ = some (.int .i64 a0_0):=(blk_cell BK101.out 0).trans rfl
      have hcz32_1 : wc.cell? ⟨gb101,1,none⟩ = some (.int .i64 a0_1):=(blk_cell BK101.out 1).trans rfl
      have hcz32_2 : wc.cell? ⟨gb101,2,none⟩ = some (.int .i64 a0_2):=(blk_cell BK101.out 2).trans rfl
      have hcz32_3 : wc.cell? ⟨gb101,3,none⟩ = some (.string a0_3):=(blk_cell BK101.out 3).trans rfl
      have hcz32_4 : wc.cell? ⟨gb101,4,none⟩ = some (.string a0_4):=(blk_cell BK101.out 4).trans rfl
      have hfz32_0:=blk_frozen BK101.out 0
      have hfz32_1:=blk_frozen BK101.out 1
      have hfz32_2:=blk_frozen BK101.out 2
      have hfz32_3:=blk_frozen BK101.out 3
      have hfz32_4:=blk_frozen BK101.out 4
      have hcz33_0 : wc.cell? ⟨gb102,0,none⟩ = some (.int .i64 a1_0):=(blk_cell BK102.out 0).trans rfl
      have hcz33_1 : wc.cell? ⟨gb102,1,none⟩ = some (.int .i64 a1_1):=(blk_cell BK102.out 1).trans rfl
      have hcz33_2 : wc.cell? ⟨gb102,2,none⟩ = some (.int .i64 a1_2):=(blk_cell BK102.out 2).trans rfl
      have hcz33_3 : wc.cell? ⟨gb102,3,none⟩ = some (.string a1_3):=(blk_cell BK102.out 3).trans rfl
      have hcz33_4 : wc.cell? ⟨gb102,4,none⟩ = some (.string a1_4):=(blk_cell BK102.out 4).trans rfl
      have hfz33_0:=blk_frozen BK102.out 0
      have hfz33_1:=blk_frozen BK102.out 1
      have hfz33_2:=blk_frozen BK102.out 2
      have hfz33_3:=blk_frozen BK102.out 3
      have hfz33_4:=blk_frozen BK102.out 4
      go_wp2_with (first | ((with_reducible refine gate_callee (f:=68) rfl ?_);refine gl_ 32 Tryz.func68 #[.int .i64 a0_1,.int .i64 a1_1] ?_;(with_reducible refine (Rf07_order.calls a0_1 a1_1 t106 _ A30.out).mono ?_);rintro e w' ⟨rfl,⟨nd,rfl⟩⟩;refine ⟨_,rfl,?_⟩))
      go_ret
      exact ⟨q2_,bh_⟩
    ·rw [if_neg c18] at H
     have c18b0:=beq_eq_false_iff_ne.mpr c18
     have c18b1:=bne_iff_ne.mpr c18
     obtain ⟨t105,A340,H⟩:=Option.bind_eq_some_iff.mp H
     have A34:=Aside0.mk A340
     clear A340
     obtain rfl:=Option.some.inj H
     have hnb35:=NB101_102.out
     have hnc35:=NB102_101.out
     have hcz36_0 : wc.cell? ⟨gb101,0,none⟩ = some (.int .i64 a0_0):=(blk_cell BK101.out 0).trans rfl
     have hcz36_1 : wc.cell? ⟨gb101,1,none⟩ = some (.int .i64 a0_1):=(blk_cell BK101.out 1).trans rfl
     have hcz36_2 : wc.cell? ⟨gb101,2,none⟩ = some (.int .i64 a0_2):=(blk_cell BK101.out 2).trans rfl
     have hcz36_3 : wc.cell? ⟨gb101,3,none⟩ = some (.string a0_3):=(blk_cell BK101.out 3).trans rfl
     have hcz36_4 : wc.cell? ⟨gb101,4,none⟩ = some (.string a0_4):=(blk_cell BK101.out 4).trans rfl
     have hfz36_0:=blk_frozen BK101.out 0
     have hfz36_1:=blk_frozen BK101.out 1
     have hfz36_2:=blk_frozen BK101.out 2
     have hfz36_3:=blk_frozen BK101.out 3
     have hfz36_4:=blk_frozen BK101.out 4
     have hcz37_0 : wc.cell? ⟨gb102,0,none⟩ = some (.int .i64 a1_0):=(blk_cell BK102.out 0).trans rfl
     have hcz37_1 : wc.cell? ⟨gb102,1,none⟩ = some (.int .i64 a1_1):=(blk_cell BK102.out 1).trans rfl
     have hcz37_2 : wc.cell? ⟨gb102,2,none⟩ = some (.int .i64 a1_2):=(blk_cell BK102.out 2).trans rfl
     have hcz37_3 : wc.cell? ⟨gb102,3,none⟩ = some (.string a1_3):=(blk_cell BK102.out 3).trans rfl
     have hcz37_4 : wc.cell? ⟨gb102,4,none⟩ = some (.string a1_4):=(blk_cell BK102.out 4).trans rfl
     have hfz37_0:=blk_frozen BK102.out 0
     have hfz37_1:=blk_frozen BK102.out 1
     have hfz37_2:=blk_frozen BK102.out 2
     have hfz37_3:=blk_frozen BK102.out 3
     have hfz37_4:=blk_frozen BK102.out 4
     go_wp2_with (first | ((with_reducible refine gate_callee (f:=68) rfl ?_);refine gl_ 22 Tryz.func68 #[.int .i64 a0_0,.int .i64 a1_0] ?_;(with_reducible refine (Rf07_order.calls a0_0 a1_0 t105 _ A34.out).mono ?_);rintro e w' ⟨rfl,⟨nd,rfl⟩⟩;refine ⟨_,rfl,?_⟩))
     go_ret
     exact ⟨q2_,bh_⟩
end Go.Proofs.YtennhpoemdaghaaGreatDoor.P
end
section
namespace Go.Proofs.YtennhpoemdaghaaGreatDoor.P
open Go Go.RowKit Go.Proofs.YtennhpoemdaghaaGreatDoorW.PrintWords
theorem cmpBytes_eq : ∀ a b : List UInt8,Lib.compareBytes a b = if a < b then -1 else if b < a then 1 else 0
 | [],[] => by simp [Lib.compareBytes]
 | [],_ :: _ => by simp [Lib.compareBytes]
 | _ :: _,[] => by simp [Lib.compareBytes]
 | x :: xs,y :: ys => by
  have ih:=cmpBytes_eq xs ys
  rw [Lib.compareBytes]
  simp only [List.cons_lt_cons_iff]
  by_cases h1 : x < y
  ·simp [h1]
  ·by_cases h2 : y < x
   ·have h3 : x ≠ y:=fun e => by subst e;exact h1 h2
    simp [h1,h2,h3]
   ·have h3 : x = y:=UInt8.le_antisymm (UInt8.not_lt.1 h2) (UInt8.not_lt.1 h1)
    subst h3
    simp [h1,ih]
theorem order_f (a b : Int) : Rf07_order.f a b = some (ordI a b):=by
 unfold Rf07_order.f ordI
 split
 ·rfl
 ·split <;> rfl
theorem words_f (a b : ByteArray) (ha : a.size ≤ 4294967296) (hb : b.size ≤ 4294967296) (k : Nat) (h1 : a.size + 5 < k) (h2 : b.size + 5 < k) : Rf07_words.f k a b = some (wordCmp a.data.toList b.data.toList):=by
 obtain ⟨k,rfl⟩ : ∃ m,k = m + 4:=⟨k - 4,by omega⟩
 have hza : a.data.toList.length = a.size:=rfl
 have hzb : b.data.toList.length = b.size:=rfl
 have hj2 : ∀ k,Rf07_words.j2 (k + 1) a b false = some (Lib.compareBytes a.data.toList b.data.toList):=fun k => by
  rw [Rf07_words.j2,if_neg q37_,Proofs.bytesLess_eq,Proofs.bytesLess_eq,toList_eq,toList_eq,cmpBytes_eq]
  by_cases h : a.data.toList < b.data.toList
  ·simp [h]
  ·by_cases h' : b.data.toList < a.data.toList
   ·simp [h,h']
   ·simp [h,h']
 unfold Rf07_words.f wordCmp
 rw [refdigits_f a q8_ _ q8_,refdigits_f b q8_ _ q8_,Option.bind_some,Option.bind_some,hza,hzb]
 cases hx : digitsB a.data.toList <;> cases hy : digitsB b.data.toList
 ·simp [Rf07_words.j0,Rf07_words.j1,hj2]
 ·simp [Rf07_words.j0,Rf07_words.j1,Rf07_words.j2]
 ·simp [Rf07_words.j0,Rf07_words.j1]
 ·by_cases h : a.size = b.size
  ·have e : ((a.size : Int) != (b.size : Int)) = false:=by simp [h]
   simp [Rf07_words.j0,Rf07_words.j1,hj2,e,h]
  ·have e : ((a.size : Int) != (b.size : Int)) = true:=by
    have : ¬ ((a.size : Int) = (b.size : Int)):=by omega
    simpa using this
   simp only [if_true,e,Rf07_words.j0,order_f,Option.bind_some,Bool.and_self]
   unfold ordI
   by_cases h1 : a.size < b.size
   ·rw [if_pos q8_,if_pos h1]
   ·rw [if_neg q8_,if_pos q8_,if_neg h1,if_pos q8_]
theorem pre_gen (l m : List ByteArray) (M : Nat) (hl : ∀ p ∈ l,p.size ≤ M) (hm : ∀ p ∈ m,p.size ≤ M) (hM : M ≤ 4294967200) (hll : l.length ≤ 4294967296) (hlm : m.length ≤ 4294967296) : ∀ (d i k : Nat),i ≤ l.length → i ≤ m.length → l.length - i = d → M + 2 * d + 10 < k →
  Rf07_pre.l0 k l m (i : Int) = some (wordsCmp ((l.drop i).map (·.data.toList)) ((m.drop i).map (·.data.toList))):=by
 have hstop : ∀ (i k : Nat),i ≤ l.length → i ≤ m.length → (i = l.length ∨ i = m.length) → some (ordI (l.length : Int) (m.length : Int)) = some (wordsCmp ((l.drop i).map (·.data.toList)) ((m.drop i).map (·.data.toList))):=by
  intro i k h1 h2 h3
  congr 1
  unfold ordI
  by_cases e1 : i = l.length
  ·rw [List.drop_eq_nil_of_le (show l.length ≤ i by omega)]
   by_cases e2 : i = m.length
   ·rw [List.drop_eq_nil_of_le (show m.length ≤ i by omega),if_neg q8_,if_neg q8_];rfl
   ·rw [List.drop_eq_getElem_cons (show i < m.length by omega),if_pos q8_];rfl
  ·have e2 : i = m.length:=by omega
   rw [List.drop_eq_nil_of_le (show m.length ≤ i by omega),List.drop_eq_getElem_cons (show i < l.length by omega),if_neg q8_,if_pos q8_];rfl
 intro d
 induction d with
 | zero =>
  intro i k hi hi2 hd hk
  obtain ⟨k,rfl⟩ : ∃ q,k = q + 2:=⟨k - 2,by omega⟩
  rw [Rf07_pre.l0,if_neg q8_,Rf07_pre.j2,if_neg q37_,order_f,Option.bind_some]
  exact hstop i k hi hi2 (.inl q8_)
 | succ d ih =>
  intro i k hi hi2 hd hk
  obtain ⟨k,rfl⟩ : ∃ q,k = q + 2:=⟨k - 2,by omega⟩
  have h : i < l.length:=by omega
  rw [Rf07_pre.l0,if_pos q8_]
  by_cases h' : i < m.length
  ·have hw : wrap64 ((i : Int) + 1) = ((i + 1 : Nat) : Int):=by unfold wrap64;omega
   have hr : ∀ (q : List ByteArray) (hq : i < q.length),rdOf ByteArray.empty q (i : Int) = q[i]:=fun q hq => by simp [rdOf,hq]
   have s1:=hl _ (List.getElem_mem h)
   have s2:=hm _ (List.getElem_mem h')
   rw [decide_eq_true q8_,Rf07_pre.j2,if_pos rfl,if_pos q8_,if_pos q8_,if_pos q8_,hr l h,hr m h',words_f _ _ q8_ q8_ k q8_ q8_,Option.bind_some,hw,ih (i + 1) k q8_ q8_ q8_ q8_,List.drop_eq_getElem_cons h,List.drop_eq_getElem_cons h',List.map_cons,List.map_cons,wordsCmp]
   split <;> rfl
  ·rw [decide_eq_false q8_,Rf07_pre.j2,if_neg q37_,order_f,Option.bind_some]
   exact hstop i k hi hi2 (.inr q8_)
theorem wordCmp_self (x : List UInt8) : wordCmp x x = 0:=by
 have h : Lib.compareBytes x x = 0:=by rw [cmpBytes_eq,if_neg (List.lt_irrefl x),if_neg (List.lt_irrefl x)]
 unfold wordCmp
 rw [h,if_neg (Nat.lt_irrefl _),if_neg (Nat.lt_irrefl _)]
 cases digitsB x <;> rfl
theorem wordsCmp_self : ∀ l : List (List UInt8),wordsCmp l l = 0
 | [] => rfl
 | x :: l => by rw [wordsCmp,if_pos (wordCmp_self x)];exact wordsCmp_self l
theorem pre_f (a b : ByteArray) (ha : a.size ≤ 30) (hb : b.size ≤ 30) (k : Nat) (hk : 200 < k) : Rf07_pre.f k a b = some (preCmp a.data.toList b.data.toList):=by
 obtain ⟨k,rfl⟩ : ∃ m,k = m + 1:=⟨k - 1,by omega⟩
 unfold Rf07_pre.f preCmp
 rw [toList_eq,toList_eq]
 by_cases h0 : a.data.toList = []
 ·rw [if_pos h0,Rf07_pre.j0,if_pos rfl,toList_eq,toList_eq]
  by_cases h1 : b.data.toList = []
  ·rw [h0,h1];rfl
  ·have e : (b.data.toList == []) = false:=by simpa using h1
   have hne : ¬ a.data.toList = b.data.toList:=fun he => h1 (he ▸ h0)
   rw [if_neg hne,if_pos h0,h0,e];rfl
 ·rw [if_neg h0]
  by_cases h1 : b.data.toList = []
  ·have e : (a.data.toList == []) = false:=by simpa using h0
   have hne : ¬ a.data.toList = b.data.toList:=fun he => h0 (he.trans h1)
   rw [h1,show (([] : List UInt8) == []) = true from rfl,Rf07_pre.j0,if_pos rfl,toList_eq,toList_eq,h1,e,if_neg (by rw [← h1];exact hne),if_neg h0];rfl
  ·have e : (b.data.toList == []) = false:=by simpa using h1
   have hs1:=refSplit_f a 46 q8_ k q8_
   have hs2:=refSplit_f b 46 q8_ k q8_
   rw [show ((46 : UInt8).toNat : Int) = 46 from rfl] at hs1 hs2
   have hl1 : (splitS 46 a).length ≤ a.size + 1:=by unfold splitS;rw [List.length_map];exact splitL_length _ _
   have hl2 : (splitS 46 b).length ≤ b.size + 1:=by unfold splitS;rw [List.length_map];exact splitL_length _ _
   have hg:=pre_gen (splitS 46 a) (splitS 46 b) 30 (fun p hp => Nat.le_trans (splitS_size 46 a p hp) ha) (fun p hp => Nat.le_trans (splitS_size 46 b p hp) hb) q8_ q8_ q8_ (splitS 46 a).length 0 k (Nat.zero_le _) (Nat.zero_le _) rfl q8_
   rw [show ((0 : Nat) : Int) = 0 from rfl,List.drop_zero,List.drop_zero] at hg
   have hm : ∀ s : ByteArray,(splitS 46 s).map (·.data.toList) = splitL 46 s.data.toList:=fun s => by unfold splitS;rw [List.map_map];exact (List.map_congr_left (fun x _ => rfl)).trans (List.map_id _)
   rw [e,Rf07_pre.j0,if_neg q37_,hs1,hs2,Option.bind_some,Option.bind_some,hg,hm,hm,if_neg h0,if_neg h1]
   by_cases hab : a.data.toList = b.data.toList
   ·rw [if_pos hab,hab,wordsCmp_self]
   ·rw [if_neg hab]
theorem ordI_ne {a b : Int} (h : ¬ a = b) : ordI a b ≠ 0:=by
 unfold ordI
 split
 ·decide
 ·split
  ·decide
  ·omega
theorem ordI_self (a : Int) : ordI a a = 0:=by unfold ordI;rw [if_neg q8_,if_neg q8_]
theorem refCmp_eq (x y : Req) (k : Nat) (hk : 1300 < k) : Rf07_Compare.f k x.f1.f0 x.f1.f1 x.f1.f2 x.f1.f3 x.f1.f4 y.f1.f0 y.f1.f1 y.f1.f2 y.f1.f3 y.f1.f4 = some (cmpB x y):=by
 unfold Rf07_Compare.f cmpB
 rw [(show Rf07_Check.f k x.f1.f0 x.f1.f1 x.f1.f2 x.f1.f3 x.f1.f4 = some (verR x) from refVer_f _ _ _ _ _ k q8_),(show Rf07_Check.f k y.f1.f0 y.f1.f1 y.f1.f2 y.f1.f3 y.f1.f4 = some (verR y) from refVer_f _ _ _ _ _ k q8_),Option.bind_some,Option.bind_some]
 obtain ⟨k,rfl⟩ : ∃ m,k = m + 1:=⟨k - 1,by omega⟩
 cases hx : verR x with
 | false => rfl
 | true =>
  cases hy : verR y with
  | false => rfl
  | true =>
   have h1:=verR_pre hx
   have h2:=verR_pre hy
   rw [if_pos rfl,Rf07_Compare.j0,if_neg q37_,pre_f _ _ h1 h2 k q8_,order_f,order_f,order_f]
   simp only [Option.bind_some,Bool.and_self,if_true]
   by_cases ha : x.f1.f0 = y.f1.f0
   ·rw [if_pos ha,ha,ordI_self,if_neg (show ¬ ((0 : Int) ≠ 0) by decide)]
    by_cases hb : x.f1.f1 = y.f1.f1
    ·rw [if_pos hb,hb,ordI_self,if_neg (show ¬ ((0 : Int) ≠ 0) by decide)]
     by_cases hc : x.f1.f2 = y.f1.f2
     ·rw [if_pos hc,hc,ordI_self,if_neg (show ¬ ((0 : Int) ≠ 0) by decide)]
     ·rw [if_neg hc,if_pos (ordI_ne hc)]
    ·rw [if_neg hb,if_pos (ordI_ne hb)]
   ·rw [if_neg ha,if_pos (ordI_ne ha)]
end Go.Proofs.YtennhpoemdaghaaGreatDoor.P
end
section
namespace Go.Proofs.YtennhpoemdaghaaGreatDoor.P
open Go.RowKit Go.Proofs.YtennhpoemdaghaaGreatDoorW.PrintWords Go.Proofs.YtennhpoemdaghaaGreatDoorW.PrintLast Go.Proofs.YtennhpoemdaghaaGreatDoorW.PrintMore
def Rf17_few.l0 : Nat → List (S41) → Int → Option (Bool)
 | 0,_,_ => none
 | k + 1,x0,x3 => if x3 < (x0.length : Int) then (if 0 ≤ x3 then (if (((rd_T41 x0 x3).f0).size : Int) > 200 then (some false) else (if (((rd_T41 x0 x3).f1.f3).size : Int) > 200 then (some false) else (if (((rd_T41 x0 x3).f1.f4).size : Int) > 200 then (some false) else (Rf17_few.l0 k x0 (wrap64 (x3 + 1)))))) else (none)) else (some (decide ((x0.length : Int) ≤ 12)))
def Rf17_few.f (k : Nat) (l0 : List (S41)) : Option (Bool):=Rf17_few.l0 k l0 0
set_option maxHeartbeats 8000000 in
set_option maxRecDepth 100000 in
theorem Rf17_few.calls (k : Nat) (A0 : Option Addr) (c0 : Nat) (l0 : List (S41)) (r : Bool) (w : World) (hr0 : Kd.C k41 w A0 l0.length l0) (hc0 : l0.length ≤ c0) (h : Rf17_few.f k l0 = some r) :
  Calls Tryz.prog 45 #[.slice A0 l0.length c0] w fun e w' => e = .returned (.bool r) ∧ Drawn0 w w':=by
 have HR0:=Aside0.mk hr0
 have HC0:=Aside0.mk hc0
 clear hr0 hc0
 have H : (Rf17_few.l0 k l0 0) = some r:=h
 clear h
 have H':=Aside0.mk H
 clear H
 go_enter Tryz.func45,Tryz.ntmps45
 go_wp2
 go_loopg [3] k (fun kq v3 w' => ∃ (x3_1 : Int),v3 = .int .i64 x3_1 ∧ Aside0 (Rf17_few.l0 kq l0 x3_1 = some r) ∧ Aside0 (kq ≤ k) ∧ Drawn0 w w')
 case atStart => exact ⟨(0),q5_,H',⟨Nat.le_refl _⟩,by repeat (first | exact Drawn0.refl _ | apply Drawn0.step)⟩
 case round =>
  clear H'
  obtain ⟨x3_1,rfl,HA,HK1,⟨m1,rfl⟩⟩:=hrel
  cases gk with
  | zero => exact absurd HA.out (by simp [Rf17_few.l0])
  | succ k1 =>
   have H:=HA.out
   clear HA
   simp only [Rf17_few.l0] at H
   by_cases c2 : x3_1 < (l0.length : Int)
   ·rw [if_pos c2] at H
    have c2b0:=decide_eq_true c2
    clear c2
    by_cases c3 : 0 ≤ x3_1
    ·rw [if_pos c3] at H
     have c3b0:=decide_eq_true c3
     clear c3
     by_cases c4 : (((rd_T41 l0 x3_1).f0).size : Int) > 200
     ·rw [if_pos c4] at H
      have c4b0 : decide (200 < (((rd_T41 l0 x3_1).f0).size : Int)) = true:=decide_eq_true c4
      have c4b1 : decide (200 < ((rd_T41 l0 x3_1).f0).size) = true:=decide_eq_true q8_
      clear c4
      obtain rfl:=Option.some.inj H
      have p101 : 0 ≤ (x3_1 : Int):=of_decide_eq_true q1_
      have q101 : x3_1 < (l0.length : Int):=of_decide_eq_true q1_
      obtain ⟨ad101,e101,hx101_0,hx101_1,hx101_2,hx101_3,hx101_4,hx101_5⟩:=at_T41 HR0.out x3_1 p101 q101
      cases e101
      replace p101:=eq_true p101
      replace q101:=eq_true q101
      go_wp2
      go_ret
      exact ⟨q3_,q4_⟩
     ·rw [if_neg c4] at H
      have c4b0 : decide (200 < (((rd_T41 l0 x3_1).f0).size : Int)) = false:=decide_eq_false c4
      have c4b1 : decide (200 < ((rd_T41 l0 x3_1).f0).size) = false:=decide_eq_false q8_
      clear c4
      by_cases c5 : (((rd_T41 l0 x3_1).f1.f3).size : Int) > 200
      ·rw [if_pos c5] at H
       have c5b0 : decide (200 < (((rd_T41 l0 x3_1).f1.f3).size : Int)) = true:=decide_eq_true c5
       have c5b1 : decide (200 < ((rd_T41 l0 x3_1).f1.f3).size) = true:=decide_eq_true q8_
       clear c5
       obtain rfl:=Option.some.inj H
       have p101 : 0 ≤ (x3_1 : Int):=of_decide_eq_true q1_
       have q101 : x3_1 < (l0.length : Int):=of_decide_eq_true q1_
       obtain ⟨ad101,e101,hx101_0,hx101_1,hx101_2,hx101_3,hx101_4,hx101_5⟩:=at_T41 HR0.out x3_1 p101 q101
       cases e101
       replace p101:=eq_true p101
       replace q101:=eq_true q101
       have p102 : 0 ≤ (x3_1 : Int):=of_decide_eq_true q1_
       have q102 : x3_1 < (l0.length : Int):=of_decide_eq_true q1_
       obtain ⟨ad102,e102,hx102_0,hx102_1,hx102_2,hx102_3,hx102_4,hx102_5⟩:=at_T41 HR0.out x3_1 p102 q102
       obtain rfl : ad101 = ad102:=(by injection e102)
       replace p102:=eq_true p102
       replace q102:=eq_true q102
       go_wp2
       go_ret
       exact ⟨q3_,q4_⟩
      ·rw [if_neg c5] at H
       have c5b0 : decide (200 < (((rd_T41 l0 x3_1).f1.f3).size : Int)) = false:=decide_eq_false c5
       have c5b1 : decide (200 < ((rd_T41 l0 x3_1).f1.f3).size) = false:=decide_eq_false q8_
       clear c5
       by_cases c6 : (((rd_T41 l0 x3_1).f1.f4).size : Int) > 200
       ·rw [if_pos c6] at H
        have c6b0 : decide (200 < (((rd_T41 l0 x3_1).f1.f4).size : Int)) = true:=decide_eq_true c6
        have c6b1 : decide (200 < ((rd_T41 l0 x3_1).f1.f4).size) = true:=decide_eq_true q8_
        clear c6
        obtain rfl:=Option.some.inj H
        have p101 : 0 ≤ (x3_1 : Int):=of_decide_eq_true q1_
        have q101 : x3_1 < (l0.length : Int):=of_decide_eq_true q1_
        obtain ⟨ad101,e101,hx101_0,hx101_1,hx101_2,hx101_3,hx101_4,hx101_5⟩:=at_T41 HR0.out x3_1 p101 q101
        cases e101
        replace p101:=eq_true p101
        replace q101:=eq_true q101
        have p102 : 0 ≤ (x3_1 : Int):=of_decide_eq_true q1_
        have q102 : x3_1 < (l0.length : Int):=of_decide_eq_true q1_
        obtain ⟨ad102,e102,hx102_0,hx102_1,hx102_2,hx102_3,hx102_4,hx102_5⟩:=at_T41 HR0.out x3_1 p102 q102
        obtain rfl : ad101 = ad102:=(by injection e102)
        replace p102:=eq_true p102
        replace q102:=eq_true q102
        have p103 : 0 ≤ (x3_1 : Int):=of_decide_eq_true q1_
        have q103 : x3_1 < (l0.length : Int):=of_decide_eq_true q1_
        obtain ⟨ad103,e103,hx103_0,hx103_1,hx103_2,hx103_3,hx103_4,hx103_5⟩:=at_T41 HR0.out x3_1 p103 q103
        obtain rfl : ad101 = ad103:=(by injection e103)
        replace p103:=eq_true p103
        replace q103:=eq_true q103
        go_wp2
        go_ret
        exact ⟨q3_,q4_⟩
       ·rw [if_neg c6] at H
        have c6b0 : decide (200 < (((rd_T41 l0 x3_1).f1.f4).size : Int)) = false:=decide_eq_false c6
        have c6b1 : decide (200 < ((rd_T41 l0 x3_1).f1.f4).size) = false:=decide_eq_false q8_
        clear c6
        have H':=Aside0.mk H
        clear H
        have p101 : 0 ≤ (x3_1 : Int):=of_decide_eq_true q1_
        have q101 : x3_1 < (l0.length : Int):=of_decide_eq_true q1_
        obtain ⟨ad101,e101,hx101_0,hx101_1,hx101_2,hx101_3,hx101_4,hx101_5⟩:=at_T41 HR0.out x3_1 p101 q101
        cases e101
        replace p101:=eq_true p101
        replace q101:=eq_true q101
        have p102 : 0 ≤ (x3_1 : Int):=of_decide_eq_true q1_
        have q102 : x3_1 < (l0.length : Int):=of_decide_eq_true q1_
        obtain ⟨ad102,e102,hx102_0,hx102_1,hx102_2,hx102_3,hx102_4,hx102_5⟩:=at_T41 HR0.out x3_1 p102 q102
        obtain rfl : ad101 = ad102:=(by injection e102)
        replace p102:=eq_true p102
        replace q102:=eq_true q102
        have p103 : 0 ≤ (x3_1 : Int):=of_decide_eq_true q1_
        have q103 : x3_1 < (l0.length : Int):=of_decide_eq_true q1_
        obtain ⟨ad103,e103,hx103_0,hx103_1,hx103_2,hx103_3,hx103_4,hx103_5⟩:=at_T41 HR0.out x3_1 p103 q103
        obtain rfl : ad101 = ad103:=(by injection e103)
        replace p103:=eq_true p103
        replace q103:=eq_true q103
        go_wp2
        go_roundg k1
        case measure => have:=HK1.out;omega
        case rel => exact ⟨(wrap64 (x3_1 + 1)),q5_,H',⟨by have:=HK1.out;omega⟩,by repeat (first | exact Drawn0.refl _ | apply Drawn0.step)⟩
    ·rw [if_neg c3] at H
     exact absurd H q43_
   ·rw [if_neg c2] at H
    have c2b0:=decide_eq_false c2
    clear c2
    obtain rfl:=Option.some.inj H
    go_wp2
    go_ret
    exact ⟨q3_,q4_⟩
def Rf17_Small.l0 : Nat → List (S41) → List (S68) → Int → Option (Bool)
 | 0,_,_,_ => none
 | k + 1,x0,x1,x5 => if x5 < (x1.length : Int) then (if 0 ≤ x5 then ((Rf17_few.f k ((rd_T68 x1 x5).f1)).bind fun t103 => (if t103 = true then ((Rf17_few.f k (([(⟨(rd_T68 x1 x5).f0.f0,(⟨(rd_T68 x1 x5).f0.f1.f0,(rd_T68 x1 x5).f0.f1.f1,(rd_T68 x1 x5).f0.f1.f2,(rd_T68 x1 x5).f0.f1.f3,(rd_T68 x1 x5).f0.f1.f4⟩ : S24)⟩ : S41)] : List (S41)))).bind fun t108 => (if t108 = true then (Rf17_Small.l0 k x0 x1 (wrap64 (x5 + 1))) else (some false))) else (some false))) else (none)) else ((Rf17_few.f k x0).bind fun t101 => (if t101 = true then (some (decide ((x1.length : Int) ≤ 20))) else (some false)))
def Rf17_Small.f (k : Nat) (l0 : List (S41)) (l1 : List (S68)) : Option (Bool):=Rf17_Small.l0 k l0 l1 0
set_option maxHeartbeats 8000000 in
set_option maxRecDepth 100000 in
theorem Rf17_Small.calls (k : Nat) (A0 : Option Addr) (c0 : Nat) (l0 : List (S41)) (A1 : Option Addr) (c1 : Nat) (l1 : List (S68)) (r : Bool) (w : World) (hr0 : Kd.C k41 w A0 l0.length l0) (hc0 : l0.length ≤ c0) (hr1 : Kd.C k68 w A1 l1.length l1) (hc1 : l1.length ≤ c1) (h : Rf17_Small.f k l0 l1 = some r) :
  Calls Tryz.prog 21 #[.slice A0 l0.length c0,.slice A1 l1.length c1] w fun e w' => e = .returned (.bool r) ∧ Below w.heap.size w w':=by
 have hu41:=Tryz.underlying41
 have HR0:=Aside0.mk hr0
 have HC0:=Aside0.mk hc0
 clear hr0 hc0
 have HR1:=Aside0.mk hr1
 have HC1:=Aside0.mk hc1
 clear hr1 hc1
 have HB:=Aside0.mk (Below.refl w.heap.size w)
 have H : (Rf17_Small.l0 k l0 l1 0) = some r:=h
 clear h
 have H':=Aside0.mk H
 clear H
 go_enter Tryz.func21,Tryz.ntmps21
 go_wp2
 go_loopg [5] k (fun kq v5 w' => ∃ (x5_1 : Int),v5 = .int .i64 x5_1 ∧ Aside0 (Rf17_Small.l0 kq l0 l1 x5_1 = some r) ∧ Aside0 (kq ≤ k) ∧ Aside0 (Below w.heap.size w w'))
 case atStart => exact ⟨(0),q5_,H',⟨Nat.le_refl _⟩,⟨by repeat (first | (with_reducible first | exact HB.out | apply below_alloc | apply pw_below_drewN | apply below_drew1) | exact HB.out)⟩⟩
 case round =>
  clear H'
  try clear c1
  try clear c2
  try clear p2
  obtain ⟨x5_1,rfl,HA,HK1,HB⟩:=hrel
  cases gk with
  | zero => exact absurd HA.out (by simp [Rf17_Small.l0])
  | succ k1 =>
   have H:=HA.out
   clear HA
   simp only [Rf17_Small.l0] at H
   by_cases c3 : x5_1 < (l1.length : Int)
   ·rw [if_pos c3] at H
    have c3b0:=decide_eq_true c3
    clear c3
    by_cases c4 : 0 ≤ x5_1
    ·rw [if_pos c4] at H
     have c4b0:=decide_eq_true c4
     clear c4
     obtain ⟨t103,A50,H⟩:=Option.bind_eq_some_iff.mp H
     have A5:=Aside0.mk A50
     clear A50
     by_cases c6 : t103 = true
     ·subst c6
      rw [if_pos rfl] at H
      obtain ⟨y105,hy105⟩ : ∃ y_ : List (S41),y_ = (([(⟨(rd_T68 l1 x5_1).f0.f0,(⟨(rd_T68 l1 x5_1).f0.f1.f0,(rd_T68 l1 x5_1).f0.f1.f1,(rd_T68 l1 x5_1).f0.f1.f2,(rd_T68 l1 x5_1).f0.f1.f3,(rd_T68 l1 x5_1).f0.f1.f4⟩ : S24)⟩ : S41)] : List (S41))):=⟨_,rfl⟩
      replace H : ((Rf17_few.f k1 y105).bind fun t108 => (if t108 = true then (Rf17_Small.l0 k1 l0 l1 (wrap64 (x5_1 + 1))) else (some false))) = some r:=by first | (rw [hy105];with_reducible exact H) | (have H2_:=(Option.bind_some _ _).symm.trans H;rw [hy105];with_reducible exact H2_) | (have H2_:=(Option.bind_some _ _).symm.trans H;with_reducible exact H2_) | with_reducible exact H | (rw [hy105];exact H) | exact H
      have Ny105:=Aside0.mk hy105
      clear hy105
      obtain ⟨t108,A70,H⟩:=Option.bind_eq_some_iff.mp H
      have A7:=Aside0.mk A70
      clear A70
      by_cases c8 : t108 = true
      ·subst c8
       rw [if_pos rfl] at H
       have H':=Aside0.mk H
       clear H
       have p102 : 0 ≤ (x5_1 : Int):=of_decide_eq_true q1_
       have q102 : x5_1 < (l1.length : Int):=of_decide_eq_true q1_
       obtain ⟨ad102,A102_6,c102_6,e102,hx102_0,hx102_1,hx102_2,hx102_3,hx102_4,hx102_5,hx102_6,hl102_6,hi102_6⟩:=at_T68 HR1.out x5_1 p102 q102
       cases e102
       replace hx102_0:=cl_ HB.out hx102_0
       replace hx102_1:=cl_ HB.out hx102_1
       replace hx102_2:=cl_ HB.out hx102_2
       replace hx102_3:=cl_ HB.out hx102_3
       replace hx102_4:=cl_ HB.out hx102_4
       replace hx102_5:=cl_ HB.out hx102_5
       replace hx102_6:=cl_ HB.out hx102_6
       have HR102_6:=Aside0.mk hi102_6
       have HC102_6:=Aside0.mk hl102_6
       clear hi102_6 hl102_6
       replace p102:=eq_true p102
       replace q102:=eq_true q102
       go_wp2_with (first | ((with_reducible refine gate_callee (f:=45) rfl ?_);refine gl_ 17 Tryz.func45 #[.slice A102_6 ((rd_T68 l1 x5_1).f1).length c102_6] ?_;(with_reducible refine (Rf17_few.calls k1 _ _ ((rd_T68 l1 x5_1).f1) true _ ?side1 ?side2 A5.out).mono ?_);(case side1 => repeat (first | exact (Kd.C_below HR102_6.out HB.out) | (with_reducible refine Kd.C_alloc ?_ _) | (with_reducible refine Kd.C_drewN ?_ _) | (with_reducible refine Kd.C_drew ?_)));(case side2 => exact HC102_6.out);rintro e w' ⟨rfl,⟨nd,rfl⟩⟩;refine ⟨_,rfl,?_⟩;have p104 : 0 ≤ (x5_1 : Int):=of_decide_eq_true q1_;have q104 : x5_1 < (l1.length : Int):=of_decide_eq_true q1_;obtain ⟨ad104,A104_6,c104_6,e104,hx104_0,hx104_1,hx104_2,hx104_3,hx104_4,hx104_5,hx104_6,hl104_6,hi104_6⟩:=at_T68 HR1.out x5_1 p104 q104;obtain rfl : ad102 = ad104:=(by injection e104);replace hx104_0:=cl_ HB.out hx104_0;replace hx104_1:=cl_ HB.out hx104_1;replace hx104_2:=cl_ HB.out hx104_2;replace hx104_3:=cl_ HB.out hx104_3;replace hx104_4:=cl_ HB.out hx104_4;replace hx104_5:=cl_ HB.out hx104_5;replace hx104_6:=cl_ HB.out hx104_6;have HR104_6:=Aside0.mk hi104_6;have HC104_6:=Aside0.mk hl104_6;clear hi104_6 hl104_6;replace p104:=eq_true p104;replace q104:=eq_true q104;have ea_:=Option.some.inj (hx102_6.symm.trans hx104_6);injection ea_ with ea_ en_ ec_;subst ea_;subst ec_;clear en_) | ((with_reducible refine gate_dst (N:=25) rfl ?_);(try (refine gate_guard q45_ ?_;dsimp only));refine Kd.R_lit k41 _ 41 ?hg (N:=25) ?hd (xs:=([(⟨(rd_T68 l1 x5_1).f0.f0,(⟨(rd_T68 l1 x5_1).f0.f1.f0,(rd_T68 l1 x5_1).f0.f1.f1,(rd_T68 l1 x5_1).f0.f1.f2,(rd_T68 l1 x5_1).f0.f1.f3,(rd_T68 l1 x5_1).f0.f1.f4⟩ : S24)⟩ : S41)] : List (S41))) (inner:=[.string ((rd_T68 l1 x5_1).f0.f0),.int .i64 ((rd_T68 l1 x5_1).f0.f1.f0),.int .i64 ((rd_T68 l1 x5_1).f0.f1.f1),.int .i64 ((rd_T68 l1 x5_1).f0.f1.f2),.string ((rd_T68 l1 x5_1).f0.f1.f3),.string ((rd_T68 l1 x5_1).f0.f1.f4)]) (ok:=fun _ => True) (okp:=fun _ => True) ?hr ?hp (fun _ hk => hk) trivial (Below.refl _ _) (Nat.le_refl _) q43_ ?_;(case hd => rfl);(case hg => rfl);(case hr => first | (go_simp;done) | (go_simp;rfl));(case hp => exact (Reps.c6 (show Kd.M k41 _ _ _ (⟨(rd_T68 l1 x5_1).f0.f0,(⟨(rd_T68 l1 x5_1).f0.f1.f0,(rd_T68 l1 x5_1).f0.f1.f1,(rd_T68 l1 x5_1).f0.f1.f2,(rd_T68 l1 x5_1).f0.f1.f3,(rd_T68 l1 x5_1).f0.f1.f4⟩ : S24)⟩ : S41) [.string ((rd_T68 l1 x5_1).f0.f0),.int .i64 ((rd_T68 l1 x5_1).f0.f1.f0),.int .i64 ((rd_T68 l1 x5_1).f0.f1.f1),.int .i64 ((rd_T68 l1 x5_1).f0.f1.f2),.string ((rd_T68 l1 x5_1).f0.f1.f3),.string ((rd_T68 l1 x5_1).f0.f1.f4)] from (k41_mkM _ _ _ (⟨(rd_T68 l1 x5_1).f0.f0,(⟨(rd_T68 l1 x5_1).f0.f1.f0,(rd_T68 l1 x5_1).f0.f1.f1,(rd_T68 l1 x5_1).f0.f1.f2,(rd_T68 l1 x5_1).f0.f1.f3,(rd_T68 l1 x5_1).f0.f1.f4⟩ : S24)⟩ : S41) )) (Reps.none _ _)));intro v106 w9 ho10 hb hg_ hnew_;clear hg_ hnew_;(first | rw [← Ny105.out] at ho10 | (simp only [Int.reduceToNat] at ho10;rw [← Ny105.out] at ho10));have HO107:=Aside0.mk (Kd.R_lower ho10 (below_size bh_));replace HB:=Aside0.mk (below_step bh_ hb);clear hb ho10;obtain ⟨Ao11,co11,eo11⟩:=Kd.R_slice HO107.out;subst eo11) | (go_at_call 45;(with_reducible refine (Rf17_few.calls k1 _ _ y105 true _ ?side1 ?side2 A7.out).mono ?_);(case side1 => repeat (first | exact (Kd.R_reads' HO107.out).2.2 | (with_reducible refine Kd.C_alloc ?_ _) | (with_reducible refine Kd.C_drewN ?_ _) | (with_reducible refine Kd.C_drew ?_)));(case side2 => exact (Kd.R_reads' HO107.out).2.1);rintro e w' ⟨rfl,⟨nd,rfl⟩⟩))
       go_roundg k1
       case measure => have:=HK1.out;omega
       case rel => exact ⟨(wrap64 (x5_1 + 1)),q5_,H',⟨by have:=HK1.out;omega⟩,⟨by repeat (first | (with_reducible first | exact HB.out | apply below_alloc | apply pw_below_drewN | apply below_drew1) | exact HB.out)⟩⟩
      ·replace c8:=Bool.eq_false_iff.mpr c8
       subst c8
       rw [if_neg (show ¬ (false = true) by decide)] at H
       obtain rfl:=Option.some.inj H
       have p102 : 0 ≤ (x5_1 : Int):=of_decide_eq_true q1_
       have q102 : x5_1 < (l1.length : Int):=of_decide_eq_true q1_
       obtain ⟨ad102,A102_6,c102_6,e102,hx102_0,hx102_1,hx102_2,hx102_3,hx102_4,hx102_5,hx102_6,hl102_6,hi102_6⟩:=at_T68 HR1.out x5_1 p102 q102
       cases e102
       replace hx102_0:=cl_ HB.out hx102_0
       replace hx102_1:=cl_ HB.out hx102_1
       replace hx102_2:=cl_ HB.out hx102_2
       replace hx102_3:=cl_ HB.out hx102_3
       replace hx102_4:=cl_ HB.out hx102_4
       replace hx102_5:=cl_ HB.out hx102_5
       replace hx102_6:=cl_ HB.out hx102_6
       have HR102_6:=Aside0.mk hi102_6
       have HC102_6:=Aside0.mk hl102_6
       clear hi102_6 hl102_6
       replace p102:=eq_true p102
       replace q102:=eq_true q102
       go_wp2_with (first | ((with_reducible refine gate_callee (f:=45) rfl ?_);refine gl_ 17 Tryz.func45 #[.slice A102_6 ((rd_T68 l1 x5_1).f1).length c102_6] ?_;(with_reducible refine (Rf17_few.calls k1 _ _ ((rd_T68 l1 x5_1).f1) true _ ?side1 ?side2 A5.out).mono ?_);(case side1 => repeat (first | exact (Kd.C_below HR102_6.out HB.out) | (with_reducible refine Kd.C_alloc ?_ _) | (with_reducible refine Kd.C_drewN ?_ _) | (with_reducible refine Kd.C_drew ?_)));(case side2 => exact HC102_6.out);rintro e w' ⟨rfl,⟨nd,rfl⟩⟩;refine ⟨_,rfl,?_⟩;have p104 : 0 ≤ (x5_1 : Int):=of_decide_eq_true q1_;have q104 : x5_1 < (l1.length : Int):=of_decide_eq_true q1_;obtain ⟨ad104,A104_6,c104_6,e104,hx104_0,hx104_1,hx104_2,hx104_3,hx104_4,hx104_5,hx104_6,hl104_6,hi104_6⟩:=at_T68 HR1.out x5_1 p104 q104;obtain rfl : ad102 = ad104:=(by injection e104);replace hx104_0:=cl_ HB.out hx104_0;replace hx104_1:=cl_ HB.out hx104_1;replace hx104_2:=cl_ HB.out hx104_2;replace hx104_3:=cl_ HB.out hx104_3;replace hx104_4:=cl_ HB.out hx104_4;replace hx104_5:=cl_ HB.out hx104_5;replace hx104_6:=cl_ HB.out hx104_6;have HR104_6:=Aside0.mk hi104_6;have HC104_6:=Aside0.mk hl104_6;clear hi104_6 hl104_6;replace p104:=eq_true p104;replace q104:=eq_true q104;have ea_:=Option.some.inj (hx102_6.symm.trans hx104_6);injection ea_ with ea_ en_ ec_;subst ea_;subst ec_;clear en_) | ((with_reducible refine gate_dst (N:=25) rfl ?_);(try (refine gate_guard q45_ ?_;dsimp only));refine Kd.R_lit k41 _ 41 ?hg (N:=25) ?hd (xs:=([(⟨(rd_T68 l1 x5_1).f0.f0,(⟨(rd_T68 l1 x5_1).f0.f1.f0,(rd_T68 l1 x5_1).f0.f1.f1,(rd_T68 l1 x5_1).f0.f1.f2,(rd_T68 l1 x5_1).f0.f1.f3,(rd_T68 l1 x5_1).f0.f1.f4⟩ : S24)⟩ : S41)] : List (S41))) (inner:=[.string ((rd_T68 l1 x5_1).f0.f0),.int .i64 ((rd_T68 l1 x5_1).f0.f1.f0),.int .i64 ((rd_T68 l1 x5_1).f0.f1.f1),.int .i64 ((rd_T68 l1 x5_1).f0.f1.f2),.string ((rd_T68 l1 x5_1).f0.f1.f3),.string ((rd_T68 l1 x5_1).f0.f1.f4)]) (ok:=fun _ => True) (okp:=fun _ => True) ?hr ?hp (fun _ hk => hk) trivial (Below.refl _ _) (Nat.le_refl _) q43_ ?_;(case hd => rfl);(case hg => rfl);(case hr => first | (go_simp;done) | (go_simp;rfl));(case hp => exact (Reps.c6 (show Kd.M k41 _ _ _ (⟨(rd_T68 l1 x5_1).f0.f0,(⟨(rd_T68 l1 x5_1).f0.f1.f0,(rd_T68 l1 x5_1).f0.f1.f1,(rd_T68 l1 x5_1).f0.f1.f2,(rd_T68 l1 x5_1).f0.f1.f3,(rd_T68 l1 x5_1).f0.f1.f4⟩ : S24)⟩ : S41) [.string ((rd_T68 l1 x5_1).f0.f0),.int .i64 ((rd_T68 l1 x5_1).f0.f1.f0),.int .i64 ((rd_T68 l1 x5_1).f0.f1.f1),.int .i64 ((rd_T68 l1 x5_1).f0.f1.f2),.string ((rd_T68 l1 x5_1).f0.f1.f3),.string ((rd_T68 l1 x5_1).f0.f1.f4)] from (k41_mkM _ _ _ (⟨(rd_T68 l1 x5_1).f0.f0,(⟨(rd_T68 l1 x5_1).f0.f1.f0,(rd_T68 l1 x5_1).f0.f1.f1,(rd_T68 l1 x5_1).f0.f1.f2,(rd_T68 l1 x5_1).f0.f1.f3,(rd_T68 l1 x5_1).f0.f1.f4⟩ : S24)⟩ : S41) )) (Reps.none _ _)));intro v106 w12 ho13 hb hg_ hnew_;clear hg_ hnew_;(first | rw [← Ny105.out] at ho13 | (simp only [Int.reduceToNat] at ho13;rw [← Ny105.out] at ho13));have HO107:=Aside0.mk (Kd.R_lower ho13 (below_size bh_));replace HB:=Aside0.mk (below_step bh_ hb);clear hb ho13;obtain ⟨Ao14,co14,eo14⟩:=Kd.R_slice HO107.out;subst eo14) | (go_at_call 45;(with_reducible refine (Rf17_few.calls k1 _ _ y105 false _ ?side1 ?side2 A7.out).mono ?_);(case side1 => repeat (first | exact (Kd.R_reads' HO107.out).2.2 | (with_reducible refine Kd.C_alloc ?_ _) | (with_reducible refine Kd.C_drewN ?_ _) | (with_reducible refine Kd.C_drew ?_)));(case side2 => exact (Kd.R_reads' HO107.out).2.1);rintro e w' ⟨rfl,⟨nd,rfl⟩⟩))
       go_ret
       exact ⟨q2_,bh_⟩
     ·replace c6:=Bool.eq_false_iff.mpr c6
      subst c6
      rw [if_neg (show ¬ (false = true) by decide)] at H
      obtain rfl:=Option.some.inj H
      have p102 : 0 ≤ (x5_1 : Int):=of_decide_eq_true q1_
      have q102 : x5_1 < (l1.length : Int):=of_decide_eq_true q1_
      obtain ⟨ad102,A102_6,c102_6,e102,hx102_0,hx102_1,hx102_2,hx102_3,hx102_4,hx102_5,hx102_6,hl102_6,hi102_6⟩:=at_T68 HR1.out x5_1 p102 q102
      cases e102
      replace hx102_0:=cl_ HB.out hx102_0
      replace hx102_1:=cl_ HB.out hx102_1
      replace hx102_2:=cl_ HB.out hx102_2
      replace hx102_3:=cl_ HB.out hx102_3
      replace hx102_4:=cl_ HB.out hx102_4
      replace hx102_5:=cl_ HB.out hx102_5
      replace hx102_6:=cl_ HB.out hx102_6
      have HR102_6:=Aside0.mk hi102_6
      have HC102_6:=Aside0.mk hl102_6
      clear hi102_6 hl102_6
      replace p102:=eq_true p102
      replace q102:=eq_true q102
      go_wp2_with (first | ((with_reducible refine gate_callee (f:=45) rfl ?_);refine gl_ 17 Tryz.func45 #[.slice A102_6 ((rd_T68 l1 x5_1).f1).length c102_6] ?_;(with_reducible refine (Rf17_few.calls k1 _ _ ((rd_T68 l1 x5_1).f1) false _ ?side1 ?side2 A5.out).mono ?_);(case side1 => repeat (first | exact (Kd.C_below HR102_6.out HB.out) | (with_reducible refine Kd.C_alloc ?_ _) | (with_reducible refine Kd.C_drewN ?_ _) | (with_reducible refine Kd.C_drew ?_)));(case side2 => exact HC102_6.out);rintro e w' ⟨rfl,⟨nd,rfl⟩⟩;refine ⟨_,rfl,?_⟩))
      go_ret
      exact ⟨q2_,bh_⟩
    ·rw [if_neg c4] at H
     exact absurd H q43_
   ·rw [if_neg c3] at H
    have c3b0:=decide_eq_false c3
    clear c3
    obtain ⟨t101,A150,H⟩:=Option.bind_eq_some_iff.mp H
    have A15:=Aside0.mk A150
    clear A150
    by_cases c16 : t101 = true
    ·subst c16
     rw [if_pos rfl] at H
     obtain rfl:=Option.some.inj H
     go_wp2_with (first | ((with_reducible refine gate_callee (f:=45) rfl ?_);refine gl_ 30 Tryz.func45 #[.slice A0 l0.length c0] ?_;(with_reducible refine (Rf17_few.calls k1 _ _ l0 true _ ?side1 ?side2 A15.out).mono ?_);(case side1 => repeat (first | exact (Kd.C_below HR0.out HB.out) | (with_reducible refine Kd.C_alloc ?_ _) | (with_reducible refine Kd.C_drewN ?_ _) | (with_reducible refine Kd.C_drew ?_)));(case side2 => exact HC0.out);rintro e w' ⟨rfl,⟨nd,rfl⟩⟩;refine ⟨_,rfl,?_⟩))
     go_ret
     exact ⟨q2_,bh_⟩
    ·replace c16:=Bool.eq_false_iff.mpr c16
     subst c16
     rw [if_neg (show ¬ (false = true) by decide)] at H
     obtain rfl:=Option.some.inj H
     go_wp2_with (first | ((with_reducible refine gate_callee (f:=45) rfl ?_);refine gl_ 30 Tryz.func45 #[.slice A0 l0.length c0] ?_;(with_reducible refine (Rf17_few.calls k1 _ _ l0 false _ ?side1 ?side2 A15.out).mono ?_);(case side1 => repeat (first | exact (Kd.C_below HR0.out HB.out) | (with_reducible refine Kd.C_alloc ?_ _) | (with_reducible refine Kd.C_drewN ?_ _) | (with_reducible refine Kd.C_drew ?_)));(case side2 => exact HC0.out);rintro e w' ⟨rfl,⟨nd,rfl⟩⟩;refine ⟨_,rfl,?_⟩))
     go_ret
     exact ⟨q2_,bh_⟩
end Go.Proofs.YtennhpoemdaghaaGreatDoor.P
end
section
namespace Go.Proofs.YtennhpoemdaghaaGreatDoor.P
open Go Go.RowKit Go.Proofs.YtennhpoemdaghaaGreatDoorW.PrintWords
abbrev RNode:=S68
def littleB (r : Req) : Bool:=decide (r.f0.size ≤ 200) && decide (r.f1.f3.size ≤ 200) && decide (r.f1.f4.size ≤ 200)
def fewB (l : List Req) : Bool:=l.all littleB && decide (l.length ≤ 12)
def smallB (root : List Req) (l : List RNode) : Bool:=l.all (fun n => fewB n.f1 && fewB [n.f0]) && (fewB root && decide (l.length ≤ 20))
theorem few_gen (l : List Req) (hl : l.length ≤ 9223372036854775807) : ∀ (d i k : Nat),i ≤ l.length → l.length - i = d → d < k → Rf17_few.l0 k l (i : Int) = some ((l.drop i).all littleB && decide (l.length ≤ 12)):=by
 intro d
 induction d with
 | zero =>
  intro i k hi hd hk
  obtain ⟨k,rfl⟩ : ∃ m,k = m + 1:=⟨k - 1,by omega⟩
  rw [Rf17_few.l0,if_neg q8_,List.drop_eq_nil_of_le q8_]
  congr 1
  rw [List.all_nil,Bool.true_and,decide_eq_decide]
  omega
 | succ d ih =>
  intro i k hi hd hk
  obtain ⟨k,rfl⟩ : ∃ m,k = m + 1:=⟨k - 1,by omega⟩
  have h : i < l.length:=by omega
  have hr : rd_T41 l (i : Int) = l[i]:=by simp [rd_T41,h]
  have hw : wrap64 ((i : Int) + 1) = ((i + 1 : Nat) : Int):=by unfold wrap64;omega
  rw [Rf17_few.l0,if_pos q8_,if_pos q8_,hr,hw,ih (i + 1) k q8_ q8_ q8_,List.drop_eq_getElem_cons h,List.all_cons]
  unfold littleB
  by_cases h1 : l[i].f0.size ≤ 200
  ·rw [if_neg q8_,decide_eq_true h1]
   by_cases h2 : l[i].f1.f3.size ≤ 200
   ·rw [if_neg q8_,decide_eq_true h2]
    by_cases h3 : l[i].f1.f4.size ≤ 200
    ·rw [if_neg q8_,decide_eq_true h3];simp
    ·rw [if_pos q8_,decide_eq_false h3];simp
   ·rw [if_pos q8_,decide_eq_false h2];simp
  ·rw [if_pos q8_,decide_eq_false h1];simp
theorem few_f (l : List Req) (hl : l.length ≤ 9223372036854775807) (k : Nat) (hk : l.length < k) : Rf17_few.f k l = some (fewB l):=by
 have h:=few_gen l hl l.length 0 k (Nat.zero_le _) rfl hk
 rw [show ((0 : Nat) : Int) = 0 from rfl,List.drop_zero] at h
 exact h
theorem small_gen (root : List Req) (l : List RNode) (hr0 : root.length ≤ 9223372036854775807) (hl : l.length ≤ 9223372036854775807) (M : Nat) (hM : ∀ n ∈ l,n.f1.length ≤ M) (hM2 : M ≤ 9223372036854775807) : ∀ (d i k : Nat),i ≤ l.length → l.length - i = d → M + root.length + d + 3 < k →
  Rf17_Small.l0 k root l (i : Int) = some ((l.drop i).all (fun n => fewB n.f1 && fewB [n.f0]) && (fewB root && decide (l.length ≤ 20))):=by
 intro d
 induction d with
 | zero =>
  intro i k hi hd hk
  obtain ⟨k,rfl⟩ : ∃ m,k = m + 1:=⟨k - 1,by omega⟩
  rw [Rf17_Small.l0,if_neg q8_,List.drop_eq_nil_of_le q8_,few_f root hr0 k q8_,Option.bind_some]
  cases fewB root with
  | false => rfl
  | true =>
   rw [if_pos rfl]
   congr 1
   rw [List.all_nil,Bool.true_and,Bool.true_and,decide_eq_decide]
   omega
 | succ d ih =>
  intro i k hi hd hk
  obtain ⟨k,rfl⟩ : ∃ m,k = m + 1:=⟨k - 1,by omega⟩
  have h : i < l.length:=by omega
  have hr : rd_T68 l (i : Int) = l[i]:=by simp [rd_T68,h]
  have hw : wrap64 ((i : Int) + 1) = ((i + 1 : Nat) : Int):=by unfold wrap64;omega
  have hm:=hM _ (List.getElem_mem h)
  rw [Rf17_Small.l0,if_pos q8_,if_pos q8_,hr,hw,few_f l[i].f1 q8_ k q8_,Option.bind_some,ih (i + 1) k q8_ q8_ q8_,List.drop_eq_getElem_cons h,List.all_cons]
  cases fewB l[i].f1 with
  | false => rfl
  | true =>
   rw [if_pos rfl,(show Rf17_few.f k [(⟨l[i].f0.f0,⟨l[i].f0.f1.f0,l[i].f0.f1.f1,l[i].f0.f1.f2,l[i].f0.f1.f3,l[i].f0.f1.f4⟩⟩ : Req)] = some (fewB [l[i].f0]) from few_f [l[i].f0] q43_ k q42_),Option.bind_some]
   cases fewB [l[i].f0] <;> simp
theorem small_f (root : List Req) (l : List RNode) (hr0 : root.length ≤ 9223372036854775807) (hl : l.length ≤ 9223372036854775807) (hM2 : ∀ n ∈ l,n.f1.length ≤ 9223372036854775807) : ∃ K,∀ k,K ≤ k → Rf17_Small.f k root l = some (smallB root l):=by
 refine ⟨9223372036854775807 + root.length + l.length + 4,fun k hk => ?_⟩
 have h:=small_gen root l hr0 hl 9223372036854775807 hM2 (Nat.le_refl _) l.length 0 k (Nat.zero_le _) rfl q8_
 rw [show ((0 : Nat) : Int) = 0 from rfl,List.drop_zero] at h
 exact h
end Go.Proofs.YtennhpoemdaghaaGreatDoor.P
end
section
namespace Go.Proofs.YtennhpoemdaghaaGreatDoor.P
open Go Go.RowKit Go.Proofs.YtennhpoemdaghaaGreatDoorW.PrintWords Go.Proofs.YtennhpoemdaghaaGreatDoorW.PrintLast Go.Proofs.YtennhpoemdaghaaGreatDoorW.PrintMore
set_option maxRecDepth 100000 in
set_option maxHeartbeats 4000000 in
theorem more_calls (g : Nat) (v vn : Value) (all l r : List Req) (A : Option Addr) (c : Nat) (w0 w : World) (hb0 : Below w0.heap.size w0 w) (hgB : w0.heap.size ≤ g)
  (hg : w.heap[g]? = some (.cells #[v,vn] 73 (0,0))) (hv : Kd.R k41 41 w w0.heap.size (fun k => k ≠ g) v all)
  (hl : Kd.C k41 w0 A l.length l) (hc : l.length ≤ c) (hE : Env w0) (hr : moreP all l = some r) (hal : all.length ≤ 1000000) :
  Calls Tryz.prog 47 #[.pointer (some ⟨g,0,none⟩),.slice A l.length c] w fun e w' => e = .returned (.tuple #[]) ∧ ∃ v',w'.heap[g]? = some (.cells #[v',vn] 73 (0,0)) ∧
   Kd.R k41 41 w' w0.heap.size (fun k => k ≠ g) v' r ∧ Below w0.heap.size w0 w':=by
 have HL:=Aside0.mk hl
 have HC:=Aside0.mk hc
 have HE:=Aside0.mk hE
 have HB:=Aside0.mk hb0
 have BK:=Aside0.mk hg
 have HO:=Aside0.mk hv
 have GE:=Aside0.mk hgB
 have HH:=Aside0.mk hr
 clear hl hc hE hb0 hg hv hgB hr
 go_enter Tryz.func47,Tryz.ntmps47
 go_wp2
 go_loopw [8] (fun v8 wr => ∃ (i : Nat) (v' : Value) (all' : List Req),v8 = .int .i64 i ∧ i ≤ l.length ∧ Aside0 (moreP all' (l.drop i) = some r) ∧ Aside0 (all'.length ≤ 1000000) ∧ Aside0 (wr.heap[g]? = some (.cells #[v',vn] 73 (0,0))) ∧
   Aside0 (Kd.R k41 41 wr w0.heap.size (fun k => k ≠ g) v' all') ∧ Aside0 (Below w0.heap.size w0 wr)) (fun v8 _ => l.length - (intOf v8).toNat)
 case atStart => exact ⟨0,v,all,rfl,Nat.zero_le _,HH,⟨hal⟩,BK,HO,HB⟩
 case round =>
  clear BK HO HB HH
  obtain ⟨i,v',all',rfl,hi,HH,HA,BK,HO,HB⟩:=hrel
  obtain ⟨A',c',rfl⟩:=Kd.R_slice HO.out
  by_cases h : i < l.length
  ·have hg : ((i : Int) < (l.length : Int)) = True:=eq_true q8_
   have hp : (0 ≤ (i : Int)) = True:=eq_true q8_
   obtain ⟨ad,e1,hx0,hx1,hx2,hx3,hx4,hx5⟩:=at_T41 (Kd.C_below HL.out HB.out) (i : Int) q8_ q8_
   cases e1
   have hmax:=Kd.C_max HL.out
   have hw : wrap64 ((i : Int) + 1) = (i : Int) + 1:=by unfold wrap64;omega
   simp only [Int.toNat_natCast] at hx0 hx1 hx2 hx3 hx4 hx5
   obtain ⟨x,hx⟩ : ∃ x,rd_T41 l (i : Int) = x:=⟨_,rfl⟩
   rw [hx] at hx0 hx1 hx2 hx3 hx4 hx5
   have hlx : l.drop i = x :: l.drop (i + 1):=by rw [List.drop_eq_getElem_cons h,← hx];simp [rd_T41,h]
   have H:=HH.out
   rw [hlx,moreP] at H
   clear HH
   replace H:=Option.bind_eq_some_iff.mp H
   obtain ⟨b,hb,H⟩:=H
   replace hb : mvs_may.f fuelR x.f0 x.f1.f0 x.f1.f1 x.f1.f2 x.f1.f3 x.f1.f4 = some b:=hb
   cases b with
   | false =>
    replace H : moreP all' (l.drop (i + 1)) = some r:=H
    have HH:=Aside0.mk H
    clear H
    go_wp2_with (first | ((with_reducible refine gate_dst (N:=5) rfl ?_);refine bx_ 5 41 #[.string (⟨#[]⟩ : ByteArray),.int .i64 0,.int .i64 0,.int .i64 0,.string (⟨#[]⟩ : ByteArray),.string (⟨#[]⟩ : ByteArray)] ?_;intro g5 hg5 w1 hbox hb1;have n1:=Aside0.mk (blk_below BK.out hb1);have n3:=Aside0.mk (below_then HB.out HB.out.size hb1);have n4:=Aside0.mk hbox;have n5:=Aside0.mk ((by rw [hg5];exact HB.out.size) : w0.heap.size ≤ g5);have n6:=Aside0.mk (q58_ : g5 ≠ g);have n7:=Aside0.mk (Kd.R_below (Kd.R_mono (Kd.R_bound HO.out) (fun k hk => (⟨hk.1,by have:=hk.2.2.1;omega⟩ : k ≠ g ∧ k ≠ g5))) hb1);have n8:=Aside0.mk (Nat.le_trans HB.out.size hb1.size);clear BK HO HB hbox;have BK:=n1;have HO:=n7;have HB:=n3;have BK5:=n4;have GE5:=n5;have NE5:=n6;clear n1 n3 n4 n5 n6 n7 hb1 hg5) | ((with_reducible refine gate_ (.store 41 (.tmp 5) (.tmp 11)) rfl ?_);refine store_event 41 (.tmp 5) (.tmp 11) rfl rfl rfl 0 41 _ #[.string x.f0,.int .i64 x.f1.f0,.int .i64 x.f1.f1,.int .i64 x.f1.f2,.string x.f1.f3,.string x.f1.f4] _ [.string x.f0,.int .i64 x.f1.f0,.int .i64 x.f1.f1,.int .i64 x.f1.f2,.string x.f1.f3,.string x.f1.f4] rfl rfl rfl q11_ q27_ BK5.out (Nat.le_refl 6) q45_ ?_;intro w2 hh2 hgr2;replace BK:=Aside0.mk (blk_grown BK.out hgr2 (fun he => NE5.out (Option.some.inj he).symm));replace HO:=Aside0.mk (Kd.R_grown HO.out hgr2 (fun k hk he => hk.2 (Option.some.inj he)));replace HB:=Aside0.mk (below_grown HB.out hgr2 GE5.out HB.out.size);replace BK5:=Aside0.mk hh2;clear hh2 hgr2;have hz0 : w2.cell? ⟨g5,0,none⟩ = some _:=(blk_cell BK5.out 0).trans rfl;have hz1 : w2.cell? ⟨g5,1,none⟩ = some _:=(blk_cell BK5.out 1).trans rfl;have hz2 : w2.cell? ⟨g5,2,none⟩ = some _:=(blk_cell BK5.out 2).trans rfl;have hz3 : w2.cell? ⟨g5,3,none⟩ = some _:=(blk_cell BK5.out 3).trans rfl;have hz4 : w2.cell? ⟨g5,4,none⟩ = some _:=(blk_cell BK5.out 4).trans rfl;have hz5 : w2.cell? ⟨g5,5,none⟩ = some _:=(blk_cell BK5.out 5).trans rfl))
    replace BK:=Aside0.mk (blk_drew BK.out);replace HO:=Aside0.mk (Kd.R_drew HO.out);replace HB:=Aside0.mk (below_drew HB.out);replace BK5:=Aside0.mk (blk_drew BK5.out)
    refine start_ (n:=11) (S:=fun w' => w'.cell? ⟨g,0,none⟩ = some (.slice A' all'.length c') ∧ w'.cell? ⟨g,1,none⟩ = some vn ∧ w'.cell? ⟨g5,0,none⟩ = some (.string x.f0) ∧ w'.cell? ⟨g5,1,none⟩ = some (.int .i64 x.f1.f0) ∧ w'.cell? ⟨g5,2,none⟩ = some (.int .i64 x.f1.f1) ∧ w'.cell? ⟨g5,3,none⟩ = some (.int .i64 x.f1.f2) ∧ w'.cell? ⟨g5,4,none⟩ = some (.string x.f1.f3) ∧ w'.cell? ⟨g5,5,none⟩ = some (.string x.f1.f4)) (ds:=[]) #[false,false,false,false,false,false,false,false,false,false,false] q11_ rfl rfl ⟨(blk_cell BK.out 0).trans rfl,(blk_cell BK.out 1).trans rfl,(blk_cell BK5.out 0).trans rfl,(blk_cell BK5.out 1).trans rfl,(blk_cell BK5.out 2).trans rfl,(blk_cell BK5.out 3).trans rfl,(blk_cell BK5.out 4).trans rfl,(blk_cell BK5.out 5).trans rfl⟩ (fun hHeld => ?_)
    refine tk_ 0 12 hHeld ?_
    refine one_ (i:=1) (N:=some 13) #[true,true,false,false,false,false,false,false,false,false,false] rfl rfl q11_ q37_ (fun K hK => ?_)
    refine goes_ Tryz.func59 q11_ rfl #[.agg #[.string x.f0,.int .i64 x.f1.f0,.int .i64 x.f1.f1,.int .i64 x.f1.f2,.string x.f1.f3,.string x.f1.f4]] q45_ rfl rfl q29_ ?_
    (with_reducible refine (mvs_may.calls fuelR x.f0 x.f1.f0 x.f1.f1 x.f1.f2 x.f1.f3 x.f1.f4 false _ hb ?sideG).mono ?_)
    (case sideG => exact Env.below HE.out HB.out)
    rintro e wq ⟨rfl,hb_⟩
    refine ⟨_,rfl,?_⟩
    replace BK:=Aside0.mk (blk_below BK.out hb_);replace HO:=Aside0.mk (Kd.R_below HO.out hb_);replace HB:=Aside0.mk (below_then HB.out HB.out.size hb_);replace BK5:=Aside0.mk (blk_below BK5.out hb_);clear hb_
    refine hK.out _ _ ⟨(blk_cell BK.out 0).trans rfl,(blk_cell BK.out 1).trans rfl,(blk_cell BK5.out 0).trans rfl,(blk_cell BK5.out 1).trans rfl,(blk_cell BK5.out 2).trans rfl,(blk_cell BK5.out 3).trans rfl,(blk_cell BK5.out 4).trans rfl,(blk_cell BK5.out 5).trans rfl⟩ (fun hHeld => ?_)
    clear hK K
    refine norm_ (a':=?_) ?_ ?_
    rotate_left
    ·show Act.put _ _ _ = _
     simp only [Act.put,List.setIfInBounds_toArray,List.set_cons_zero,List.set_cons_succ]
     rfl
    refine pu_ 2 14 ?_
    refine pn_ 3 15 ?_
    refine pn_ 4 16 ?_
    refine pn_ 5 17 ?_
    refine pn_ 6 18 ?_
    refine pn_ 7 19 ?_
    refine pn_ 8 20 ?_
    refine pn_ 9 21 ?_
    refine pu_ 10 22 ?_
    refine done_ q11_ ?_
    all_goals (go_wp2;refine ⟨⟨i + 1,_,_,by simp [hw],h,HH,HA,BK,⟨Kd.R_mono HO.out (fun k hk => hk.1)⟩,HB⟩,?_⟩;simp only [intOf,hw];omega)
   | true =>
    cases hm : memR all' x with
    | true =>
     replace H : moreP all' (l.drop (i + 1)) = some r:=by rw [hm] at H;exact H
     have HH:=Aside0.mk H
     clear H
     go_wp2_with (first | ((with_reducible refine gate_dst (N:=5) rfl ?_);refine bx_ 5 41 #[.string (⟨#[]⟩ : ByteArray),.int .i64 0,.int .i64 0,.int .i64 0,.string (⟨#[]⟩ : ByteArray),.string (⟨#[]⟩ : ByteArray)] ?_;intro g5 hg5 w1 hbox hb1;have n1:=Aside0.mk (blk_below BK.out hb1);have n3:=Aside0.mk (below_then HB.out HB.out.size hb1);have n4:=Aside0.mk hbox;have n5:=Aside0.mk ((by rw [hg5];exact HB.out.size) : w0.heap.size ≤ g5);have n6:=Aside0.mk (q58_ : g5 ≠ g);have n7:=Aside0.mk (Kd.R_below (Kd.R_mono (Kd.R_bound HO.out) (fun k hk => (⟨hk.1,by have:=hk.2.2.1;omega⟩ : k ≠ g ∧ k ≠ g5))) hb1);have n8:=Aside0.mk (Nat.le_trans HB.out.size hb1.size);clear BK HO HB hbox;have BK:=n1;have HO:=n7;have HB:=n3;have BK5:=n4;have GE5:=n5;have NE5:=n6;clear n1 n3 n4 n5 n6 n7 hb1 hg5) | ((with_reducible refine gate_ (.store 41 (.tmp 5) (.tmp 11)) rfl ?_);refine store_event 41 (.tmp 5) (.tmp 11) rfl rfl rfl 0 41 _ #[.string x.f0,.int .i64 x.f1.f0,.int .i64 x.f1.f1,.int .i64 x.f1.f2,.string x.f1.f3,.string x.f1.f4] _ [.string x.f0,.int .i64 x.f1.f0,.int .i64 x.f1.f1,.int .i64 x.f1.f2,.string x.f1.f3,.string x.f1.f4] rfl rfl rfl q11_ q27_ BK5.out (Nat.le_refl 6) q45_ ?_;intro w2 hh2 hgr2;replace BK:=Aside0.mk (blk_grown BK.out hgr2 (fun he => NE5.out (Option.some.inj he).symm));replace HO:=Aside0.mk (Kd.R_grown HO.out hgr2 (fun k hk he => hk.2 (Option.some.inj he)));replace HB:=Aside0.mk (below_grown HB.out hgr2 GE5.out HB.out.size);replace BK5:=Aside0.mk hh2;clear hh2 hgr2;have hz0 : w2.cell? ⟨g5,0,none⟩ = some _:=(blk_cell BK5.out 0).trans rfl;have hz1 : w2.cell? ⟨g5,1,none⟩ = some _:=(blk_cell BK5.out 1).trans rfl;have hz2 : w2.cell? ⟨g5,2,none⟩ = some _:=(blk_cell BK5.out 2).trans rfl;have hz3 : w2.cell? ⟨g5,3,none⟩ = some _:=(blk_cell BK5.out 3).trans rfl;have hz4 : w2.cell? ⟨g5,4,none⟩ = some _:=(blk_cell BK5.out 4).trans rfl;have hz5 : w2.cell? ⟨g5,5,none⟩ = some _:=(blk_cell BK5.out 5).trans rfl))
     replace BK:=Aside0.mk (blk_drew BK.out);replace HO:=Aside0.mk (Kd.R_drew HO.out);replace HB:=Aside0.mk (below_drew HB.out);replace BK5:=Aside0.mk (blk_drew BK5.out)
     refine start_ (n:=11) (S:=fun w' => w'.cell? ⟨g,0,none⟩ = some (.slice A' all'.length c') ∧ w'.cell? ⟨g,1,none⟩ = some vn ∧ w'.cell? ⟨g5,0,none⟩ = some (.string x.f0) ∧ w'.cell? ⟨g5,1,none⟩ = some (.int .i64 x.f1.f0) ∧ w'.cell? ⟨g5,2,none⟩ = some (.int .i64 x.f1.f1) ∧ w'.cell? ⟨g5,3,none⟩ = some (.int .i64 x.f1.f2) ∧ w'.cell? ⟨g5,4,none⟩ = some (.string x.f1.f3) ∧ w'.cell? ⟨g5,5,none⟩ = some (.string x.f1.f4)) (ds:=[]) #[false,false,false,false,false,false,false,false,false,false,false] q11_ rfl rfl ⟨(blk_cell BK.out 0).trans rfl,(blk_cell BK.out 1).trans rfl,(blk_cell BK5.out 0).trans rfl,(blk_cell BK5.out 1).trans rfl,(blk_cell BK5.out 2).trans rfl,(blk_cell BK5.out 3).trans rfl,(blk_cell BK5.out 4).trans rfl,(blk_cell BK5.out 5).trans rfl⟩ (fun hHeld => ?_)
     refine tk_ 0 12 hHeld ?_
     refine one_ (i:=1) (N:=some 13) #[true,true,false,false,false,false,false,false,false,false,false] rfl rfl q11_ q37_ (fun K hK => ?_)
     refine goes_ Tryz.func59 q11_ rfl #[.agg #[.string x.f0,.int .i64 x.f1.f0,.int .i64 x.f1.f1,.int .i64 x.f1.f2,.string x.f1.f3,.string x.f1.f4]] q45_ rfl rfl q29_ ?_
     (with_reducible refine (mvs_may.calls fuelR x.f0 x.f1.f0 x.f1.f1 x.f1.f2 x.f1.f3 x.f1.f4 true _ hb ?sideG).mono ?_)
     (case sideG => exact Env.below HE.out HB.out)
     rintro e wq ⟨rfl,hb_⟩
     refine ⟨_,rfl,?_⟩
     replace BK:=Aside0.mk (blk_below BK.out hb_);replace HO:=Aside0.mk (Kd.R_below HO.out hb_);replace HB:=Aside0.mk (below_then HB.out HB.out.size hb_);replace BK5:=Aside0.mk (blk_below BK5.out hb_);clear hb_
     refine hK.out _ _ ⟨(blk_cell BK.out 0).trans rfl,(blk_cell BK.out 1).trans rfl,(blk_cell BK5.out 0).trans rfl,(blk_cell BK5.out 1).trans rfl,(blk_cell BK5.out 2).trans rfl,(blk_cell BK5.out 3).trans rfl,(blk_cell BK5.out 4).trans rfl,(blk_cell BK5.out 5).trans rfl⟩ (fun hHeld => ?_)
     clear hK K
     refine norm_ (a':=?_) ?_ ?_
     rotate_left
     ·show Act.put _ _ _ = _
      simp only [Act.put,List.setIfInBounds_toArray,List.set_cons_zero,List.set_cons_succ]
      rfl
     refine pu_ 2 14 ?_
     refine pu_ 3 15 ?_
     refine pu_ 4 16 ?_
     refine pu_ 5 17 ?_
     refine tk_ 6 18 hHeld ?_
     refine tk_ 7 19 hHeld ?_
     refine one_ (i:=8) (N:=some 20) #[true,true,true,true,true,true,true,true,true,false,false] rfl rfl q11_ q37_ (fun K hK => ?_)
     refine goes_ Tryz.func86 q11_ rfl #[.slice A' all'.length c',.agg #[.string x.f0,.int .i64 x.f1.f0,.int .i64 x.f1.f1,.int .i64 x.f1.f2,.string x.f1.f3,.string x.f1.f4]] q45_ rfl rfl q29_ ?_
     (with_reducible refine (slices_Contains_apiReq.calls (all'.length + 1) A' c' all' x.f0 x.f1.f0 x.f1.f1 x.f1.f2 x.f1.f3 x.f1.f4 true _ (Kd.R_reads' HO.out).2.2 (Kd.R_reads' HO.out).2.1 ?sideF).mono ?_)
     (case sideF => rw [contains_f _ _ HA.out _ (Nat.lt_succ_self _),hm])
     rintro e wq ⟨rfl,hb_⟩
     refine ⟨_,rfl,?_⟩
     replace BK:=Aside0.mk (blk_below BK.out hb_);replace HO:=Aside0.mk (Kd.R_below HO.out hb_);replace HB:=Aside0.mk (below_then HB.out HB.out.size hb_);replace BK5:=Aside0.mk (blk_below BK5.out hb_);clear hb_
     refine hK.out _ _ ⟨(blk_cell BK.out 0).trans rfl,(blk_cell BK.out 1).trans rfl,(blk_cell BK5.out 0).trans rfl,(blk_cell BK5.out 1).trans rfl,(blk_cell BK5.out 2).trans rfl,(blk_cell BK5.out 3).trans rfl,(blk_cell BK5.out 4).trans rfl,(blk_cell BK5.out 5).trans rfl⟩ (fun hHeld => ?_)
     clear hK K
     refine norm_ (a':=?_) ?_ ?_
     rotate_left
     ·show Act.put _ _ _ = _
      simp only [Act.put,List.setIfInBounds_toArray,List.set_cons_zero,List.set_cons_succ]
      rfl
     refine pu_ 9 21 ?_
     refine pu_ 10 22 ?_
     refine done_ q11_ ?_
     all_goals (go_wp2;refine ⟨⟨i + 1,_,_,by simp [hw],h,HH,HA,BK,⟨Kd.R_mono HO.out (fun k hk => hk.1)⟩,HB⟩,?_⟩;simp only [intOf,hw];omega)
    | false =>
     replace H : (if all'.length < 1000000 then moreP (all' ++ [x]) (l.drop (i + 1)) else none) = some r:=by rw [hm] at H;exact H
     by_cases hsz : all'.length < 1000000
     ·rw [if_pos hsz] at H
      have HH:=Aside0.mk H
      clear H
      go_wp2_with (first | ((with_reducible refine gate_dst (N:=5) rfl ?_);refine bx_ 5 41 #[.string (⟨#[]⟩ : ByteArray),.int .i64 0,.int .i64 0,.int .i64 0,.string (⟨#[]⟩ : ByteArray),.string (⟨#[]⟩ : ByteArray)] ?_;intro g5 hg5 w1 hbox hb1;have n1:=Aside0.mk (blk_below BK.out hb1);have n3:=Aside0.mk (below_then HB.out HB.out.size hb1);have n4:=Aside0.mk hbox;have n5:=Aside0.mk ((by rw [hg5];exact HB.out.size) : w0.heap.size ≤ g5);have n6:=Aside0.mk (q58_ : g5 ≠ g);have n7:=Aside0.mk (Kd.R_below (Kd.R_mono (Kd.R_bound HO.out) (fun k hk => (⟨hk.1,by have:=hk.2.2.1;omega⟩ : k ≠ g ∧ k ≠ g5))) hb1);have n8:=Aside0.mk (Nat.le_trans HB.out.size hb1.size);clear BK HO HB hbox;have BK:=n1;have HO:=n7;have HB:=n3;have BK5:=n4;have GE5:=n5;have NE5:=n6;clear n1 n3 n4 n5 n6 n7 hb1 hg5) | ((with_reducible refine gate_ (.store 41 (.tmp 5) (.tmp 11)) rfl ?_);refine store_event 41 (.tmp 5) (.tmp 11) rfl rfl rfl 0 41 _ #[.string x.f0,.int .i64 x.f1.f0,.int .i64 x.f1.f1,.int .i64 x.f1.f2,.string x.f1.f3,.string x.f1.f4] _ [.string x.f0,.int .i64 x.f1.f0,.int .i64 x.f1.f1,.int .i64 x.f1.f2,.string x.f1.f3,.string x.f1.f4] rfl rfl rfl q11_ q27_ BK5.out (Nat.le_refl 6) q45_ ?_;intro w2 hh2 hgr2;replace BK:=Aside0.mk (blk_grown BK.out hgr2 (fun he => NE5.out (Option.some.inj he).symm));replace HO:=Aside0.mk (Kd.R_grown HO.out hgr2 (fun k hk he => hk.2 (Option.some.inj he)));replace HB:=Aside0.mk (below_grown HB.out hgr2 GE5.out HB.out.size);replace BK5:=Aside0.mk hh2;clear hh2 hgr2;have hz0 : w2.cell? ⟨g5,0,none⟩ = some _:=(blk_cell BK5.out 0).trans rfl;have hz1 : w2.cell? ⟨g5,1,none⟩ = some _:=(blk_cell BK5.out 1).trans rfl;have hz2 : w2.cell? ⟨g5,2,none⟩ = some _:=(blk_cell BK5.out 2).trans rfl;have hz3 : w2.cell? ⟨g5,3,none⟩ = some _:=(blk_cell BK5.out 3).trans rfl;have hz4 : w2.cell? ⟨g5,4,none⟩ = some _:=(blk_cell BK5.out 4).trans rfl;have hz5 : w2.cell? ⟨g5,5,none⟩ = some _:=(blk_cell BK5.out 5).trans rfl))
      replace BK:=Aside0.mk (blk_drew BK.out);replace HO:=Aside0.mk (Kd.R_drew HO.out);replace HB:=Aside0.mk (below_drew HB.out);replace BK5:=Aside0.mk (blk_drew BK5.out)
      refine start_ (n:=11) (S:=fun w' => w'.cell? ⟨g,0,none⟩ = some (.slice A' all'.length c') ∧ w'.cell? ⟨g,1,none⟩ = some vn ∧ w'.cell? ⟨g5,0,none⟩ = some (.string x.f0) ∧ w'.cell? ⟨g5,1,none⟩ = some (.int .i64 x.f1.f0) ∧ w'.cell? ⟨g5,2,none⟩ = some (.int .i64 x.f1.f1) ∧ w'.cell? ⟨g5,3,none⟩ = some (.int .i64 x.f1.f2) ∧ w'.cell? ⟨g5,4,none⟩ = some (.string x.f1.f3) ∧ w'.cell? ⟨g5,5,none⟩ = some (.string x.f1.f4)) (ds:=[]) #[false,false,false,false,false,false,false,false,false,false,false] q11_ rfl rfl ⟨(blk_cell BK.out 0).trans rfl,(blk_cell BK.out 1).trans rfl,(blk_cell BK5.out 0).trans rfl,(blk_cell BK5.out 1).trans rfl,(blk_cell BK5.out 2).trans rfl,(blk_cell BK5.out 3).trans rfl,(blk_cell BK5.out 4).trans rfl,(blk_cell BK5.out 5).trans rfl⟩ (fun hHeld => ?_)
      refine tk_ 0 12 hHeld ?_
      refine one_ (i:=1) (N:=some 13) #[true,true,false,false,false,false,false,false,false,false,false] rfl rfl q11_ q37_ (fun K hK => ?_)
      refine goes_ Tryz.func59 q11_ rfl #[.agg #[.string x.f0,.int .i64 x.f1.f0,.int .i64 x.f1.f1,.int .i64 x.f1.f2,.string x.f1.f3,.string x.f1.f4]] q45_ rfl rfl q29_ ?_
      (with_reducible refine (mvs_may.calls fuelR x.f0 x.f1.f0 x.f1.f1 x.f1.f2 x.f1.f3 x.f1.f4 true _ hb ?sideG).mono ?_)
      (case sideG => exact Env.below HE.out HB.out)
      rintro e wq ⟨rfl,hb_⟩
      refine ⟨_,rfl,?_⟩
      replace BK:=Aside0.mk (blk_below BK.out hb_);replace HO:=Aside0.mk (Kd.R_below HO.out hb_);replace HB:=Aside0.mk (below_then HB.out HB.out.size hb_);replace BK5:=Aside0.mk (blk_below BK5.out hb_);clear hb_
      refine hK.out _ _ ⟨(blk_cell BK.out 0).trans rfl,(blk_cell BK.out 1).trans rfl,(blk_cell BK5.out 0).trans rfl,(blk_cell BK5.out 1).trans rfl,(blk_cell BK5.out 2).trans rfl,(blk_cell BK5.out 3).trans rfl,(blk_cell BK5.out 4).trans rfl,(blk_cell BK5.out 5).trans rfl⟩ (fun hHeld => ?_)
      clear hK K
      refine norm_ (a':=?_) ?_ ?_
      rotate_left
      ·show Act.put _ _ _ = _
       simp only [Act.put,List.setIfInBounds_toArray,List.set_cons_zero,List.set_cons_succ]
       rfl
      refine pu_ 2 14 ?_
      refine pu_ 3 15 ?_
      refine pu_ 4 16 ?_
      refine pu_ 5 17 ?_
      refine tk_ 6 18 hHeld ?_
      refine tk_ 7 19 hHeld ?_
      refine one_ (i:=8) (N:=some 20) #[true,true,true,true,true,true,true,true,true,false,false] rfl rfl q11_ q37_ (fun K hK => ?_)
      refine goes_ Tryz.func86 q11_ rfl #[.slice A' all'.length c',.agg #[.string x.f0,.int .i64 x.f1.f0,.int .i64 x.f1.f1,.int .i64 x.f1.f2,.string x.f1.f3,.string x.f1.f4]] q45_ rfl rfl q29_ ?_
      (with_reducible refine (slices_Contains_apiReq.calls (all'.length + 1) A' c' all' x.f0 x.f1.f0 x.f1.f1 x.f1.f2 x.f1.f3 x.f1.f4 false _ (Kd.R_reads' HO.out).2.2 (Kd.R_reads' HO.out).2.1 ?sideF).mono ?_)
      (case sideF => rw [contains_f _ _ HA.out _ (Nat.lt_succ_self _),hm])
      rintro e wq ⟨rfl,hb_⟩
      refine ⟨_,rfl,?_⟩
      replace BK:=Aside0.mk (blk_below BK.out hb_);replace HO:=Aside0.mk (Kd.R_below HO.out hb_);replace HB:=Aside0.mk (below_then HB.out HB.out.size hb_);replace BK5:=Aside0.mk (blk_below BK5.out hb_);clear hb_
      refine hK.out _ _ ⟨(blk_cell BK.out 0).trans rfl,(blk_cell BK.out 1).trans rfl,(blk_cell BK5.out 0).trans rfl,(blk_cell BK5.out 1).trans rfl,(blk_cell BK5.out 2).trans rfl,(blk_cell BK5.out 3).trans rfl,(blk_cell BK5.out 4).trans rfl,(blk_cell BK5.out 5).trans rfl⟩ (fun hHeld => ?_)
      clear hK K
      refine norm_ (a':=?_) ?_ ?_
      rotate_left
      ·show Act.put _ _ _ = _
       simp only [Act.put,List.setIfInBounds_toArray,List.set_cons_zero,List.set_cons_succ]
       rfl
      refine pu_ 9 21 ?_
      refine pu_ 10 22 ?_
      refine done_ q11_ ?_
      go_wp2
      replace BK:=Aside0.mk (blk_drew BK.out);replace HO:=Aside0.mk (Kd.R_drew HO.out);replace HB:=Aside0.mk (below_drew HB.out);replace BK5:=Aside0.mk (blk_drew BK5.out)
      refine start_ (n:=11) (S:=fun w' => w'.cell? ⟨g,0,none⟩ = some (.slice A' all'.length c') ∧ w'.cell? ⟨g,1,none⟩ = some vn ∧ w'.cell? ⟨g5,0,none⟩ = some (.string x.f0) ∧ w'.cell? ⟨g5,1,none⟩ = some (.int .i64 x.f1.f0) ∧ w'.cell? ⟨g5,2,none⟩ = some (.int .i64 x.f1.f1) ∧ w'.cell? ⟨g5,3,none⟩ = some (.int .i64 x.f1.f2) ∧ w'.cell? ⟨g5,4,none⟩ = some (.string x.f1.f3) ∧ w'.cell? ⟨g5,5,none⟩ = some (.string x.f1.f4)) (ds:=[10]) #[false,false,false,false,false,false,false,false,false,false,false] q11_ rfl rfl ⟨(blk_cell BK.out 0).trans rfl,(blk_cell BK.out 1).trans rfl,(blk_cell BK5.out 0).trans rfl,(blk_cell BK5.out 1).trans rfl,(blk_cell BK5.out 2).trans rfl,(blk_cell BK5.out 3).trans rfl,(blk_cell BK5.out 4).trans rfl,(blk_cell BK5.out 5).trans rfl⟩ (fun hHeld => ?_)
      refine pu_ 0 23 ?_
      refine pu_ 1 24 ?_
      refine pu_ 2 25 ?_
      refine pu_ 3 26 ?_
      refine tk_ 4 27 hHeld ?_
      refine tk_ 5 28 hHeld ?_
      refine one_ (i:=6) (N:=some 29) #[true,true,true,true,true,true,true,false,false,false,false] rfl rfl q11_ q37_ (fun K hK => ?_)
      rw [if_pos q45_]
      go_simp
      have n1:=Aside0.mk (blk_alloc BK.out (.cells #[.string x.f0,.int .i64 x.f1.f0,.int .i64 x.f1.f1,.int .i64 x.f1.f2,.string x.f1.f3,.string x.f1.f4] 41));have n4:=Aside0.mk (blk_alloc BK5.out (.cells #[.string x.f0,.int .i64 x.f1.f0,.int .i64 x.f1.f1,.int .i64 x.f1.f2,.string x.f1.f3,.string x.f1.f4] 41))
      refine hK.out _ _ ⟨(blk_cell n1.out 0).trans rfl,(blk_cell n1.out 1).trans rfl,(blk_cell n4.out 0).trans rfl,(blk_cell n4.out 1).trans rfl,(blk_cell n4.out 2).trans rfl,(blk_cell n4.out 3).trans rfl,(blk_cell n4.out 4).trans rfl,(blk_cell n4.out 5).trans rfl⟩ (fun hHeld => ?_)
      clear hK K n1 n4
      refine one_ (i:=7) (N:=some 30) #[true,true,true,true,true,true,true,true,false,false,false] rfl rfl q11_ q37_ (fun K hK => ?_)
      refine Kd.R_append_step k41 (w0:=w0) w0.heap.size q45_ (.tmp 27) (.tmp 29) 38 41 (.agg #[.string (⟨#[]⟩ : ByteArray),.int .i64 0,.int .i64 0,.int .i64 0,.string (⟨#[]⟩ : ByteArray),.string (⟨#[]⟩ : ByteArray)]) 72 rfl Tryz.underlying38 info41 rfl q37_ q8_ (.slice A' all'.length c') all' x [.string x.f0,.int .i64 x.f1.f0,.int .i64 x.f1.f1,.int .i64 x.f1.f2,.string x.f1.f3,.string x.f1.f4] (fun k => k ≠ g ∧ k ≠ g5) (fun k => (k ≠ g ∧ k ≠ g5) ∧ some k ≠ (Value.slice A' all'.length c').ownBlock) rfl rfl (k41_mkM _ _ _ x) (fun _ hk => hk) ?aF HO.out HB.out HB.out.size ?aL ?_
      case aF => exact fun k hk => ⟨fun he => by have:=blk_lt BK.out;omega,fun he => by have:=blk_lt BK5.out;omega⟩
      case aL => omega
      intro v1 w1 hR1 hB1 hg1 hat1
      have hne : ∀ q,q ≠ g ∧ q ≠ g5 ∨ some q ≠ (Value.slice A' all'.length c').ownBlock:=fun q => by rcases Decidable.em (some q = (Value.slice A' all'.length c').ownBlock) with he | he;exact .inl (HO.out.1 q he.symm);exact .inr he
      have n1:=Aside0.mk (blk_grown BK.out hg1 ((hne g).resolve_left (fun he => he.1 rfl)))
      have n4:=Aside0.mk (blk_grown BK5.out hg1 ((hne g5).resolve_left (fun he => he.2 rfl)))
      have n2:=Aside0.mk hR1
      have n3:=Aside0.mk hB1
      clear BK HO HB BK5 hR1 hB1 hg1 hat1 hne;have BK:=n1;have HO:=n2;have HB:=n3;have BK5:=n4;clear n1 n2 n3 n4
      refine hK.out _ _ ⟨(blk_cell BK.out 0).trans rfl,(blk_cell BK.out 1).trans rfl,(blk_cell BK5.out 0).trans rfl,(blk_cell BK5.out 1).trans rfl,(blk_cell BK5.out 2).trans rfl,(blk_cell BK5.out 3).trans rfl,(blk_cell BK5.out 4).trans rfl,(blk_cell BK5.out 5).trans rfl⟩ (fun hHeld => ?_)
      clear hK K
      refine norm_ (a':=?_) ?_ ?_
      rotate_left
      ·show Act.put _ _ _ = _
       simp only [Act.put,List.setIfInBounds_toArray,List.set_cons_zero,List.set_cons_succ]
       rfl
      refine pu_ 8 31 ?_
      refine pu_ 9 32 ?_
      refine last_ (i:=10) (N:=none) #[true,true,true,true,true,true,true,true,true,true,true] rfl rfl q11_ q37_ (fun K hK => ?_)
      refine store_step q45_ 38 (.tmp 32) (.tmp 30) rfl rfl 0 73 #[.slice A' all'.length c',vn] #[v1,vn] v1 [v1] rfl rfl ?sU q11_ ?s1 BK.out (by show 1 ≤ 2;omega) rfl ?_
      case sU => obtain ⟨A1,c1,rfl⟩:=Kd.R_slice HO.out;rfl
      case s1 => obtain ⟨A1,c1,rfl⟩:=Kd.R_slice HO.out;simp [Value.oneCell']
      intro w6 hh6 hg6
      have n1:=Aside0.mk hh6
      have n2:=Aside0.mk (Kd.R_grown HO.out hg6 (fun k hk he => hk.1 (Option.some.inj he)))
      have n3:=Aside0.mk (below_grown HB.out hg6 GE.out HB.out.size)
      clear BK HO HB BK5 hh6 hg6;have BK:=n1;have HO:=n2;have HB:=n3;clear n1 n2 n3
      refine hK.out _ _ ?_
      clear hK K
      refine done_ q11_ ?_
      go_wp2
      refine ⟨⟨i + 1,_,_,by simp [hw],h,HH,⟨by rw [List.length_append];exact hsz⟩,BK,⟨Kd.R_mono HO.out (fun k hk => hk.1)⟩,HB⟩,?_⟩
      simp only [intOf,hw]
      omega
     ·rw [if_neg hsz] at H
      exact absurd H q43_
  ·have hg : ((i : Int) < (l.length : Int)) = False:=eq_false q8_
   have hil : l.drop i = []:=List.drop_eq_nil_of_le q8_
   have hrr : all' = r:=by have H:=HH.out;rw [hil,moreP] at H;exact Option.some.inj H
   subst hrr
   go_wp2
   refine bodyPost_end (v:=.tuple #[]) ?_ rfl ⟨rfl,_,BK.out,HO.out,HB.out⟩
   simp [results,Tryz.results47,go_sem]
end Go.Proofs.YtennhpoemdaghaaGreatDoor.P
end
section
namespace Go.Proofs.YtennhpoemdaghaaGreatDoor.P
open Go Go.RowKit Go.Proofs.YtennhpoemdaghaaGreatDoorW.PrintWords Go.Proofs.YtennhpoemdaghaaGreatDoorW.PrintLast Go.Proofs.YtennhpoemdaghaaGreatDoorW.PrintMore
attribute [local go_sem high] eqA41
set_option maxRecDepth 100000 in
set_option maxHeartbeats 4000000 in
theorem requires1_calls (x : Node) (A6 : Option Addr) (c6 g3 : Nat) (r : Req) (w : World) (hb3 : w.heap[g3]? = some (.cells #[.string r.f0,.int .i64 r.f1.f0,.int .i64 r.f1.f1,.int .i64 r.f1.f2,.string r.f1.f3,.string r.f1.f4] 41 (0,0))) :
  Calls Tryz.prog 88 #[.agg #[.string x.f0.f0,.int .i64 x.f0.f1.f0,.int .i64 x.f0.f1.f1,.int .i64 x.f0.f1.f2,.string x.f0.f1.f3,.string x.f0.f1.f4,.slice A6 x.f1.length c6],.pointer (some ⟨g3,0,none⟩)] w fun e w' => e = .returned (.bool (eqR x.f0 r)) ∧ Below w.heap.size w w':=by
 have hu:=Tryz.underlying41
 have BK:=Aside0.mk hb3
 have HB:=Aside0.mk (Below.refl w.heap.size w)
 clear hb3
 unfold eqR
 go_enter Tryz.func88,Tryz.ntmps88
 go_wp2_with (first | ((with_reducible refine gate_dst (N:=2) rfl ?_);refine bx_ 2 70 #[.string x.f0.f0,.int .i64 x.f0.f1.f0,.int .i64 x.f0.f1.f1,.int .i64 x.f0.f1.f2,.string x.f0.f1.f3,.string x.f0.f1.f4,.slice A6 x.f1.length c6] ?_;intro g2 hg2 w1 hbox hb1;replace BK:=Aside0.mk (blk_below BK.out hb1);replace HB:=Aside0.mk (below_then HB.out HB.out.size hb1);have BK2:=Aside0.mk hbox;clear hbox hb1 hg2;have hz0 : w1.cell? ⟨g2,0,none⟩ = some _:=(blk_cell BK2.out 0).trans rfl;have hz1 : w1.cell? ⟨g2,1,none⟩ = some _:=(blk_cell BK2.out 1).trans rfl;have hz2 : w1.cell? ⟨g2,2,none⟩ = some _:=(blk_cell BK2.out 2).trans rfl;have hz3 : w1.cell? ⟨g2,3,none⟩ = some _:=(blk_cell BK2.out 3).trans rfl;have hz4 : w1.cell? ⟨g2,4,none⟩ = some _:=(blk_cell BK2.out 4).trans rfl;have hz5 : w1.cell? ⟨g2,5,none⟩ = some _:=(blk_cell BK2.out 5).trans rfl;have hz6 : w1.cell? ⟨g2,6,none⟩ = some _:=(blk_cell BK2.out 6).trans rfl;have hy0 : w1.cell? ⟨g3,0,none⟩ = some _:=(blk_cell BK.out 0).trans rfl;have hy1 : w1.cell? ⟨g3,1,none⟩ = some _:=(blk_cell BK.out 1).trans rfl;have hy2 : w1.cell? ⟨g3,2,none⟩ = some _:=(blk_cell BK.out 2).trans rfl;have hy3 : w1.cell? ⟨g3,3,none⟩ = some _:=(blk_cell BK.out 3).trans rfl;have hy4 : w1.cell? ⟨g3,4,none⟩ = some _:=(blk_cell BK.out 4).trans rfl;have hy5 : w1.cell? ⟨g3,5,none⟩ = some _:=(blk_cell BK.out 5).trans rfl))
 repeat (go_quiet (fail);try go_wp2)
 go_ret
 exact ⟨(by first | rfl | (simp;done)),HB.out⟩
theorem idx_reqs (nodes : List Node) (r : Req) : ∀ i : Nat,idxP (fun n => eqR n.f0 r) (nodes.drop i) i = -1 ∧ reqsP (nodes.drop i) r = [] ∨ ∃ j : Nat,i ≤ j ∧ j < nodes.length ∧ idxP (fun n => eqR n.f0 r) (nodes.drop i) i = j ∧ reqsP (nodes.drop i) r = (rd_T70 nodes j).f1:=by
 intro i
 by_cases h : i < nodes.length
 ·have hd:=List.drop_eq_getElem_cons h
  have hr : rd_T70 nodes (i : Int) = nodes[i]:=by simp [rd_T70,h]
  rw [hd,idxP,reqsP]
  cases he : eqR nodes[i].f0 r with
  | true => exact .inr ⟨i,Nat.le_refl _,h,by simp,by rw [hr];simp⟩
  | false =>
   rcases idx_reqs nodes r (i + 1) with ⟨h1,h2⟩ | ⟨j,hj,hl,h1,h2⟩
   ·exact .inl ⟨by simp [h1],by simp [h2]⟩
   ·exact .inr ⟨j,by omega,hl,by simp [h1],by simp [h2]⟩
 ·rw [List.drop_eq_nil_of_le q8_]
  exact .inl ⟨rfl,rfl⟩
termination_by i => nodes.length - i
set_option maxRecDepth 100000 in
set_option maxHeartbeats 4000000 in
theorem requires_calls (g : Nat) (v : Value) (A1 : Option Addr) (c1 : Nat) (nodes : List Node) (r : Req) (w0 w : World) (hw : Below w0.heap.size w0 w)
  (hg : w.heap[g]? = some (.cells #[v,.slice A1 nodes.length c1] 73 (0,0))) (hn : Kd.C k70 w0 A1 nodes.length nodes) (hc : nodes.length ≤ c1) :
  Calls Tryz.prog 48 #[.pointer (some ⟨g,0,none⟩),.agg #[.string r.f0,.int .i64 r.f1.f0,.int .i64 r.f1.f1,.int .i64 r.f1.f2,.string r.f1.f3,.string r.f1.f4]] w fun e w' => ∃ (A : Option Addr) (c : Nat),e = .returned (.slice A (reqsP nodes r).length c) ∧ (reqsP nodes r).length ≤ c ∧ Kd.C k41 w0 A (reqsP nodes r).length (reqsP nodes r) ∧ Below w.heap.size w w':=by
 have HW:=Aside0.mk hw
 have BK:=Aside0.mk hg
 have HN:=Aside0.mk hn
 have HC:=Aside0.mk hc
 have HB:=Aside0.mk (Below.refl w.heap.size w)
 clear hw hg hn hc
 have hid:=idx_reqs nodes r 0
 rw [List.drop_zero] at hid
 rcases hid with ⟨hix,hrq⟩ | ⟨j,_,hj,hix,hrq⟩
 ·rw [hrq]
  go_enter Tryz.func48,Tryz.ntmps48
  go_wp2_with (first | ((with_reducible refine gate_dst (N:=3) rfl ?_);refine bx_ 3 41 #[.string r.f0,.int .i64 r.f1.f0,.int .i64 r.f1.f1,.int .i64 r.f1.f2,.string r.f1.f3,.string r.f1.f4] ?_;intro g3 hg3 w1 hbox hb1;replace BK:=Aside0.mk (blk_below BK.out hb1);have HB:=Aside0.mk hb1;have BK3:=Aside0.mk hbox;clear hbox hb1 hg3;have hz0 : w1.cell? ⟨g,0,none⟩ = some _:=(blk_cell BK.out 0).trans rfl;have hz1 : w1.cell? ⟨g,1,none⟩ = some _:=(blk_cell BK.out 1).trans rfl) | (go_at_call 87;with_reducible refine (indexNode A1 c1 nodes g3 (fun n => eqR n.f0 r) _ (Kd.C_below HN.out (below_then HW.out HW.out.size HB.out)) HC.out ?cl).mono ?_;(case cl => exact fun x A6 c6 W hx hb => requires1_calls x A6 c6 g3 r W (blk_below BK3.out hb));rintro e w2 ⟨rfl,hb2⟩;replace BK:=Aside0.mk (blk_below BK.out hb2);replace HB:=Aside0.mk (below_then HB.out HB.out.size hb2);clear BK3 hb2;try rw [hix];have hy0 : w2.cell? ⟨g,0,none⟩ = some _:=(blk_cell BK.out 0).trans rfl;have hy1 : w2.cell? ⟨g,1,none⟩ = some _:=(blk_cell BK.out 1).trans rfl))
  go_ret
  exact ⟨none,0,rfl,Nat.le_refl _,Kd.C_nil _ _,HB.out⟩
 ·rw [hrq]
  have hg : ((j : Int) < (nodes.length : Int)) = True:=eq_true q8_
  have hp : (0 ≤ (j : Int)) = True:=eq_true q8_
  have hneg : ((j : Int) < 0) = False:=eq_false q8_
  obtain ⟨ad,A6,c6,e1,hx0,hx1,hx2,hx3,hx4,hx5,hx6,hl6,hC6⟩:=at_T70 HN.out (j : Int) q8_ q8_
  cases e1
  simp only [Int.toNat_natCast] at hx6
  have HX:=Aside0.mk hx6
  clear hx0 hx1 hx2 hx3 hx4 hx5 hx6
  go_enter Tryz.func48,Tryz.ntmps48
  go_wp2_with (first | ((with_reducible refine gate_dst (N:=3) rfl ?_);refine bx_ 3 41 #[.string r.f0,.int .i64 r.f1.f0,.int .i64 r.f1.f1,.int .i64 r.f1.f2,.string r.f1.f3,.string r.f1.f4] ?_;intro g3 hg3 w1 hbox hb1;replace BK:=Aside0.mk (blk_below BK.out hb1);have HB:=Aside0.mk hb1;have BK3:=Aside0.mk hbox;clear hbox hb1 hg3;have hz0 : w1.cell? ⟨g,0,none⟩ = some _:=(blk_cell BK.out 0).trans rfl;have hz1 : w1.cell? ⟨g,1,none⟩ = some _:=(blk_cell BK.out 1).trans rfl) | (go_at_call 87;with_reducible refine (indexNode (some ad) c1 nodes g3 (fun n => eqR n.f0 r) _ (Kd.C_below HN.out (below_then HW.out HW.out.size HB.out)) HC.out ?cl).mono ?_;(case cl => exact fun x A6 c6 W hx hb => requires1_calls x A6 c6 g3 r W (blk_below BK3.out hb));rintro e w2 ⟨rfl,hb2⟩;replace BK:=Aside0.mk (blk_below BK.out hb2);replace HB:=Aside0.mk (below_then HB.out HB.out.size hb2);clear BK3 hb2;try rw [hix];have hy0 : w2.cell? ⟨g,0,none⟩ = some _:=(blk_cell BK.out 0).trans rfl;have hy1 : w2.cell? ⟨g,1,none⟩ = some _:=(blk_cell BK.out 1).trans rfl;have hx6:=((below_then HW.out HW.out.size HB.out).cell (World.block_lt_of_cell? w0 _ HX.out)).trans HX.out))
  go_ret
  exact ⟨A6,c6,rfl,hl6,hC6,HB.out⟩
end Go.Proofs.YtennhpoemdaghaaGreatDoor.P
end
section
namespace Go.Proofs.YtennhpoemdaghaaGreatDoor.P
open Go Go.RowKit Go.Proofs.YtennhpoemdaghaaGreatDoorW.PrintWords Go.Proofs.YtennhpoemdaghaaGreatDoorW.PrintLast Go.Proofs.YtennhpoemdaghaaGreatDoorW.PrintMore
theorem moreP_len : ∀ (l all r : List Req),moreP all l = some r → all.length ≤ r.length ∧ (all.length ≤ 1000000 → r.length ≤ 1000000)
 | [],all,r,h => by
  obtain rfl:=Option.some.inj h
  exact ⟨Nat.le_refl _,id⟩
 | x :: l,all,r,h => by
  rw [moreP] at h
  obtain ⟨b,_,h⟩:=Option.bind_eq_some_iff.mp h
  split at h
  ·split at h
   ·have ih:=moreP_len l _ r h
    rw [List.length_append] at ih
    exact ⟨(by have:=ih.1;simp at this;omega),fun _ => ih.2 q42_⟩
   ·exact absurd h q43_
  ·exact moreP_len l all r h
theorem walkP_len (nodes : List Node) : ∀ (k i : Nat) (all r : List Req),walkP nodes k all i = some r → all.length ≤ r.length
 | 0,_,_,_,h => absurd h (by simp [walkP])
 | k + 1,i,all,r,h => by
  rw [walkP] at h
  split at h
  ·obtain ⟨a2,h1,h2⟩:=Option.bind_eq_some_iff.mp h
   exact Nat.le_trans (moreP_len _ _ _ h1).1 (walkP_len nodes k _ _ _ h2)
  ·obtain rfl:=Option.some.inj h
   exact Nat.le_refl _
def fuelW : Nat:=1000002
def mvs_Reached.f (l0 : List Req) (l1 : List Node) : Option (List Req):=(moreP [] l0).bind fun a => walkP l1 fuelW a 0
set_option maxRecDepth 100000 in
set_option maxHeartbeats 4000000 in
theorem mvs_Reached.calls (A0 : Option Addr) (c0 : Nat) (l0 : List Req) (A1 : Option Addr) (c1 : Nat) (l1 : List Node) (r : List Req) (w : World) (hr0 : Kd.C k41 w A0 l0.length l0) (hc0 : l0.length ≤ c0) (hr1 : Kd.C k70 w A1 l1.length l1) (hc1 : l1.length ≤ c1) (h : mvs_Reached.f l0 l1 = some r) (hG : Env w) :
  Calls Tryz.prog 25 #[.slice A0 l0.length c0,.slice A1 l1.length c1] w fun e w' => ∃ v0_ : Value,e = .returned (v0_) ∧ Kd.R k41 41 w' w.heap.size (fun _ => True) v0_ r ∧ Below w.heap.size w w':=by
 obtain ⟨a,hm,hwk⟩:=Option.bind_eq_some_iff.mp h
 have HK:=Aside0.mk hwk
 have hla : a.length ≤ 1000000:=(moreP_len _ _ _ hm).2 (Nat.zero_le _)
 replace hm:=Aside0.mk hm
 have HR0:=Aside0.mk hr0
 have HC0:=Aside0.mk hc0
 have HR1:=Aside0.mk hr1
 have HC1:=Aside0.mk hc1
 have HE:=Aside0.mk hG
 clear hr0 hc0 hr1 hc1 hG h hwk
 go_enter Tryz.func25,Tryz.ntmps25
 go_wp2_with (first | ((with_reducible refine gate_dst (N:=9) rfl ?_);refine bx_ 9 73 #[.slice none 0 0,.slice A1 l1.length c1] ?_;intro g hg w1 hbox hb1;have BK:=Aside0.mk hbox;have HB:=Aside0.mk hb1;have GE:=Aside0.mk ((by rw [hg];exact Nat.le_refl _) : w.heap.size ≤ g);clear hbox hb1 hg) | (go_at_call 47;with_reducible refine (more_calls g (.slice none 0 0) (.slice A1 l1.length c1) [] l0 a A0 c0 w _ HB.out GE.out BK.out (Kd.R_nil _ _ _ _ _) HR0.out HC0.out HE.out hm.out (Nat.zero_le _)).mono ?_;rintro e w2 ⟨rfl,v2,hg2,hR2,hB2⟩;clear BK HB;have BK:=Aside0.mk hg2;have HO:=Aside0.mk hR2;have HB:=Aside0.mk hB2;clear hg2 hR2 hB2))
 go_loopw [6] (fun v6 wr => ∃ (i k : Nat) (v' : Value) (all' : List Req),v6 = .int .i64 i ∧ i ≤ all'.length ∧ Aside0 (walkP l1 k all' i = some r) ∧ Aside0 (all'.length ≤ 1000000) ∧ Aside0 (wr.heap[g]? = some (.cells #[v',.slice A1 l1.length c1] 73 (0,0))) ∧
   Aside0 (Kd.R k41 41 wr w.heap.size (fun k => k ≠ g) v' all') ∧ Aside0 (Below w.heap.size w wr)) (fun v6 _ => r.length - (intOf v6).toNat)
 case atStart => exact ⟨0,fuelW,v2,a,rfl,Nat.zero_le _,HK,⟨hla⟩,BK,HO,HB⟩
 case round =>
  clear BK HO HB HK
  obtain ⟨i,k,v',all',rfl,hi,HK,HA,BK,HO,HB⟩:=hrel
  obtain ⟨A',c',rfl⟩:=Kd.R_slice HO.out
  have hk0 : wr.cell? ⟨g,0,none⟩ = some (.slice A' all'.length c'):=(blk_cell BK.out 0).trans rfl
  have hk1 : wr.cell? ⟨g,1,none⟩ = some (.slice A1 l1.length c1):=(blk_cell BK.out 1).trans rfl
  have hla':=HA.out
  obtain ⟨k,rfl⟩ : ∃ m,k = m + 1:=by
   cases k with
   | zero => exact absurd HK.out (by simp [walkP])
   | succ m => exact ⟨m,rfl⟩
  have H:=HK.out
  rw [walkP] at H
  clear HK
  by_cases h : i < all'.length
  ·rw [dif_pos h] at H
   obtain ⟨all2,hm2,H⟩:=Option.bind_eq_some_iff.mp H
   have HK:=Aside0.mk H
   have hlen:=Nat.le_trans (moreP_len _ _ _ hm2).1 (walkP_len _ _ _ _ _ H)
   have hla2:=(moreP_len _ _ _ hm2).2 hla'
   have hi2 : i + 1 ≤ all2.length:=Nat.le_trans h (moreP_len _ _ _ hm2).1
   clear H
   have hg : ((i : Int) < (all'.length : Int)) = True:=eq_true q8_
   have hp : (0 ≤ (i : Int)) = True:=eq_true q8_
   have hw : wrap64 ((i : Int) + 1) = (i : Int) + 1:=by unfold wrap64;omega
   obtain ⟨ad,e1,hx0,hx1,hx2,hx3,hx4,hx5⟩:=at_T41 (Kd.R_reads' HO.out).2.2 (i : Int) q8_ q8_
   cases e1
   simp only [Int.toNat_natCast] at hx0 hx1 hx2 hx3 hx4 hx5
   obtain ⟨x,hx⟩ : ∃ x,rd_T41 all' (i : Int) = x:=⟨_,rfl⟩
   rw [hx] at hx0 hx1 hx2 hx3 hx4 hx5
   have hxe : all'[i] = x:=by rw [← hx];simp [rd_T41,h]
   rw [hxe] at hm2
   replace hm2:=Aside0.mk hm2
   go_wp2_with (first | (go_at_call 48;with_reducible refine (requires_calls g (.slice (some ad) all'.length c') A1 c1 l1 x w _ HB.out BK.out HR1.out HC1.out).mono ?_;rintro e w2 ⟨A2,c2,rfl,hc2,hC2,hb2⟩;replace BK:=Aside0.mk (blk_below BK.out hb2);replace HO:=Aside0.mk (Kd.R_below HO.out hb2);replace HB:=Aside0.mk (below_then HB.out HB.out.size hb2);clear hb2) | (go_at_call 47;with_reducible refine (more_calls g (.slice (some ad) all'.length c') (.slice A1 l1.length c1) all' (reqsP l1 x) all2 A2 c2 w _ HB.out GE.out BK.out HO.out hC2 hc2 HE.out hm2.out HA.out).mono ?_;rintro e w3 ⟨rfl,v3,hg3,hR3,hB3⟩;clear BK HO HB hC2 hc2;have BK:=Aside0.mk hg3;have HO:=Aside0.mk hR3;have HB:=Aside0.mk hB3;clear hg3 hR3 hB3))
   refine ⟨⟨i + 1,k,_,all2,by simp [hw],hi2,HK,⟨hla2⟩,BK,HO,HB⟩,?_⟩
   simp only [intOf,hw]
   omega
  ·rw [dif_neg h] at H
   obtain rfl:=Option.some.inj H
   have hg : ((i : Int) < (all'.length : Int)) = False:=eq_false q8_
   go_wp2
   go_ret
   exact ⟨_,rfl,Kd.R_mono HO.out (fun _ _ => trivial),HB.out⟩
end Go.Proofs.YtennhpoemdaghaaGreatDoor.P
end
section
namespace Go.Proofs.YtennhpoemdaghaaGreatDoor.P
open Go Go.RowKit Go.Proofs.YtennhpoemdaghaaGreatDoorW.PrintWords
def addL : List Req → List Req → List Req
 | all,[] => all
 | all,r :: rs => if mayB r && !memR all r then addL (all ++ [r]) rs else addL all rs
theorem moreP_eq : ∀ (l all : List Req),all.length + l.length ≤ 1000000 → moreP all l = some (addL all l)
 | [],all,_ => rfl
 | r :: rs,all,h => by
  rw [List.length_cons] at h
  rw [moreP,mayP_eq,Option.bind_some,addL]
  split
  ·rw [if_pos q8_]
   exact moreP_eq rs _ (by rw [List.length_append,List.length_singleton];omega)
  ·exact moreP_eq rs _ q8_
theorem mayB_size {r : Req} (h : mayB r = true) : r.f0.size ≤ 60:=by
 unfold mayB fitsB at h
 simp only [Bool.and_eq_true] at h
 have hc:=h.1.1
 unfold chkB at hc
 rw [Bool.and_eq_true] at hc
 exact pathB_size hc.1
def takeL (L : List Req) (r : Req) : List Req :=
 match L.find? (sameP r.f0) with
 | none => L ++ [r]
 | some x => if cmpB r x > 0 then setL L r else L
theorem takeP_eq (L : List Req) (r : Req) (h : mayB r = true) : takeP L r = some (takeL L r):=by
 have hs:=mayB_size h
 unfold takeP takeL
 rw [if_pos q8_]
 cases L.find? (sameP r.f0) with
 | none => rfl
 | some x => simp only [cmpP_eq,Option.bind_some]
theorem eachP_eq : ∀ (l L : List Req),(∀ r ∈ l,mayB r = true) → eachP L l = some (l.foldl takeL L)
 | [],L,_ => rfl
 | r :: rs,L,h => by
  rw [eachP,takeP_eq L r (h r q43_),Option.bind_some,List.foldl_cons]
  exact eachP_eq rs _ (fun x hx => h x (by simp [hx]))
end Go.Proofs.YtennhpoemdaghaaGreatDoor.P
end
section
namespace Go.Proofs.YtennhpoemdaghaaGreatDoor.P
open Go.RowKit Go.Proofs.YtennhpoemdaghaaGreatDoorW.PrintWords Go.Proofs.YtennhpoemdaghaaGreatDoorW.PrintLast Go.Proofs.YtennhpoemdaghaaGreatDoorW.PrintMore
attribute [local go_sem high] eqA41
end Go.Proofs.YtennhpoemdaghaaGreatDoor.P
end
section
namespace Go.Proofs.YtennhpoemdaghaaGreatDoor.P
open Go Go.RowKit Go.Proofs.YtennhpoemdaghaaGreatDoorW.PrintWords
theorem eqR_iff {x y : Req} : eqR x y = true ↔ x = y:=by
 obtain ⟨p,a,b,c,d,e⟩:=x
 obtain ⟨p',a',b',c',d',e'⟩:=y
 unfold eqR
 simp only [Bool.and_eq_true,beq_iff_eq,toList_eq]
 constructor
 ·rintro ⟨h1,h2,h3,h4,h5,h6⟩
  rw [bytes_inj h1,h2,h3,h4,bytes_inj h5,bytes_inj h6]
 ·intro h
  cases h
  exact ⟨rfl,rfl,rfl,rfl,rfl,rfl⟩
theorem memR_iff {l : List Req} {r : Req} : memR l r = true ↔ r ∈ l:=by
 unfold memR
 rw [List.any_eq_true]
 constructor
 ·rintro ⟨x,hx,he⟩
  rw [eqR_iff.1 he]
  exact hx
 ·exact fun h => ⟨r,h,eqR_iff.2 rfl⟩
theorem addL_mem : ∀ (l all : List Req) (r : Req),r ∈ addL all l ↔ r ∈ all ∨ (r ∈ l ∧ mayB r = true)
 | [],all,r => by simp [addL]
 | x :: rs,all,r => by
  rw [addL]
  cases hm : mayB x
  ·simp only [Bool.false_and,Bool.false_eq_true,if_false]
   rw [addL_mem rs all r,List.mem_cons]
   constructor
   ·rintro (h | ⟨h1,h2⟩)
    ·exact .inl h
    ·exact .inr ⟨.inr h1,h2⟩
   ·rintro (h | ⟨rfl | h1,h2⟩)
    ·exact .inl h
    ·rw [hm] at h2;exact absurd h2 q37_
    ·exact .inr ⟨h1,h2⟩
  ·cases hx : memR all x
   ·simp only [Bool.not_false,Bool.and_self,if_true]
    rw [addL_mem rs _ r,List.mem_append,List.mem_singleton,List.mem_cons]
    constructor
    ·rintro ((h | rfl) | ⟨h1,h2⟩)
     ·exact .inl h
     ·exact .inr ⟨.inl rfl,hm⟩
     ·exact .inr ⟨.inr h1,h2⟩
    ·rintro (h | ⟨rfl | h1,h2⟩)
     ·exact .inl (.inl h)
     ·exact .inl (.inr rfl)
     ·exact .inr ⟨h1,h2⟩
   ·simp only [Bool.not_true,Bool.and_false,Bool.false_eq_true,if_false]
    rw [addL_mem rs all r,List.mem_cons]
    have hxa:=memR_iff.1 hx
    constructor
    ·rintro (h | ⟨h1,h2⟩)
     ·exact .inl h
     ·exact .inr ⟨.inr h1,h2⟩
    ·rintro (h | ⟨rfl | h1,h2⟩)
     ·exact .inl h
     ·exact .inl hxa
     ·exact .inr ⟨h1,h2⟩
theorem addL_nodup : ∀ (l all : List Req),all.Nodup → (addL all l).Nodup
 | [],all,h => h
 | x :: rs,all,h => by
  rw [addL]
  split
  ·rename_i hx
   rw [Bool.and_eq_true] at hx
   have hn : x ∉ all:=fun hm => by rw [memR_iff.2 hm] at hx;exact absurd hx.2 q37_
   refine addL_nodup rs _ (List.nodup_append.2 ⟨h,by simp,fun a ha b hb => ?_⟩)
   rw [List.mem_singleton.1 hb]
   exact fun e => hn (e ▸ ha)
  ·exact addL_nodup rs all h
theorem takeL_length (L : List Req) (r : Req) : (takeL L r).length ≤ L.length + 1:=by
 unfold takeL
 split
 ·simp
 ·split
  ·unfold setL;simp
  ·omega
theorem takes_length : ∀ (l L : List Req),(l.foldl takeL L).length ≤ L.length + l.length
 | [],L => Nat.le_refl _
 | r :: rs,L => by
  rw [List.foldl_cons,List.length_cons]
  have h1:=takes_length rs (takeL L r)
  have h2:=takeL_length L r
  omega
theorem rd_at (l : List Req) (i : Nat) (h : i < l.length) : rd_T41 l (i : Int) = l[i]:=by simp [rd_T41,h]
end Go.Proofs.YtennhpoemdaghaaGreatDoor.P
end
section
namespace Go.Proofs.YtennhpoemdaghaaGreatDoor.P
open Go Go.RowKit Go.Proofs.YtennhpoemdaghaaGreatDoorW.PrintWords
structure Cmp {α : Type} (f : α → α → Int) : Prop where
 swap : ∀ x y,f y x = - f x y
 trans : ∀ x y z,f x y ≤ 0 → f y z ≤ 0 → f x z ≤ 0
section
variable {α β : Type} {f g : α → α → Int}
theorem Cmp.lt_le (h : Cmp f) {x y z : α} (h1 : f x y < 0) (h2 : f y z ≤ 0) : f x z < 0:=by
 have h3:=h.trans x y z q8_ h2
 have e1:=h.swap x z
 have e2:=h.swap x y
 have h4 : ¬ 0 ≤ f x z:=fun h0 => by
  have:=h.trans y z x h2 q8_
  omega
 omega
theorem Cmp.le_lt (h : Cmp f) {x y z : α} (h1 : f x y ≤ 0) (h2 : f y z < 0) : f x z < 0:=by
 have h3:=h.trans x y z h1 q8_
 have e1:=h.swap x z
 have e2:=h.swap y z
 have h4 : ¬ 0 ≤ f x z:=fun h0 => by
  have:=h.trans z x y q8_ h1
  omega
 omega
theorem Cmp.self (h : Cmp f) (x : α) : f x x = 0:=by have:=h.swap x x;omega
def lexC (f g : α → α → Int) (x y : α) : Int:=if f x y ≠ 0 then f x y else g x y
theorem Cmp.lex (hf : Cmp f) (hg : Cmp g) : Cmp (lexC f g):=by
 constructor
 ·intro x y
  unfold lexC
  have h1:=hf.swap x y
  have h2:=hg.swap x y
  by_cases h : f x y = 0
  ·rw [if_neg q8_,if_neg q8_,h2]
  ·rw [if_pos q8_,if_pos q8_,h1]
 ·intro x y z
  unfold lexC
  intro h1 h2
  by_cases a : f x y = 0
  ·rw [if_neg q8_] at h1
   by_cases b : f y z = 0
   ·rw [if_neg q8_] at h2
    have c1:=hf.trans x y z q8_ q8_
    have c2:=hf.trans z y x (by have:=hf.swap y z;omega) (by have:=hf.swap x y;omega)
    have c3:=hf.swap x z
    rw [if_neg q8_]
    exact hg.trans x y z h1 h2
   ·rw [if_pos q8_] at h2
    have c:=hf.le_lt (x:=x) (y:=y) (z:=z) q8_ q8_
    rw [if_pos q8_]
    omega
  ·rw [if_pos q8_] at h1
   have h3 : f y z ≤ 0:=by
    by_cases b : f y z = 0
    ·omega
    ·rw [if_pos q8_] at h2;exact h2
   have c:=hf.lt_le (x:=x) (y:=y) (z:=z) q8_ h3
   rw [if_pos q8_]
   omega
theorem Cmp.on (h : Cmp f) (key : β → α) : Cmp (fun x y => f (key x) (key y)):=⟨fun x y => h.swap _ _,fun x y z => h.trans _ _ _⟩
end
theorem ordI_cmp : Cmp ordI:=by
 constructor
 ·intro x y
  unfold ordI
  split <;> split <;> (try split) <;> omega
 ·intro x y z
  unfold ordI
  intro h1 h2
  by_cases a : x > y
  ·rw [if_neg q8_,if_pos a] at h1;omega
  ·by_cases b : y > z
   ·rw [if_neg q8_,if_pos b] at h2;omega
   ·by_cases c : x < z
    ·rw [if_pos c];omega
    ·rw [if_neg c,if_neg q8_];omega
theorem bytes_cmp : Cmp Lib.compareBytes:=by
 constructor
 ·intro x y
  rw [cmpBytes_eq,cmpBytes_eq]
  by_cases a : x < y
  ·simp [a,List.lt_asymm a]
  ·by_cases b : y < x <;> simp [a,b]
 ·intro x y z
  rw [cmpBytes_eq,cmpBytes_eq,cmpBytes_eq]
  intro h1 h2
  have h1' : ¬ y < x:=fun h => by rw [if_neg (List.lt_asymm h),if_pos h] at h1;omega
  have h2' : ¬ z < y:=fun h => by rw [if_neg (List.lt_asymm h),if_pos h] at h2;omega
  have h3 : ¬ z < x:=List.not_lt.2 (List.le_trans (List.not_lt.1 h1') (List.not_lt.1 h2'))
  by_cases c : x < z
  ·rw [if_pos c];omega
  ·rw [if_neg c,if_neg h3];omega
theorem wordCmp_eq : wordCmp = lexC (fun x y => ordI (if digitsB x then 0 else 1) (if digitsB y then 0 else 1)) (lexC (fun x y => ordI (if digitsB x then (x.length : Int) else 0) (if digitsB y then (y.length : Int) else 0)) Lib.compareBytes):=by
 funext x y
 unfold wordCmp lexC
 cases hx : digitsB x <;> cases hy : digitsB y
 ·simp [ordI,hx,hy]
 ·simp [ordI,hx,hy]
 ·simp [ordI,hx,hy]
 ·simp only [Bool.and_self,if_true,ordI_self,hx,hy]
  rw [if_neg (show ¬ ((0 : Int) ≠ 0) by decide)]
  unfold ordI
  by_cases a : x.length < y.length
  ·have e : (x.length : Int) < y.length:=by omega
   simp [a,e]
  ·by_cases b : y.length < x.length
   ·have e : ¬ (x.length : Int) < y.length:=by omega
    have e2 : (y.length : Int) < x.length:=by omega
    simp [a,b]
   ·have e : ¬ (x.length : Int) < y.length:=by omega
    have e2 : ¬ (y.length : Int) < x.length:=by omega
    simp [a,b]
theorem word_cmp : Cmp wordCmp:=by
 rw [wordCmp_eq]
 exact (ordI_cmp.on _).lex ((ordI_cmp.on _).lex bytes_cmp)
theorem words_swap : ∀ x y : List (List UInt8),wordsCmp y x = - wordsCmp x y
 | [],[] => rfl
 | [],_ :: _ => rfl
 | _ :: _,[] => rfl
 | x :: xs,y :: ys => by
  have h:=word_cmp.swap x y
  have ih:=words_swap xs ys
  rw [wordsCmp,wordsCmp]
  by_cases a : wordCmp x y = 0
  ·rw [if_pos a,if_pos q8_,ih]
  ·rw [if_neg a,if_neg q8_,h]
theorem words_trans : ∀ x y z : List (List UInt8),wordsCmp x y ≤ 0 → wordsCmp y z ≤ 0 → wordsCmp x z ≤ 0
 | [],_,[],_,_ => Int.le_refl _
 | [],_,_ :: _,_,_ => (q37_ : (-1 : Int) ≤ 0)
 | _ :: _,[],_,h,_ => absurd h (by show ¬ (1 : Int) ≤ 0;decide)
 | _ :: _,_ :: _,[],_,h => absurd h (by show ¬ (1 : Int) ≤ 0;decide)
 | x :: xs,y :: ys,z :: zs,h1,h2 => by
  rw [wordsCmp] at h1 h2 ⊢
  have e1:=word_cmp.swap x y
  have e2:=word_cmp.swap y z
  have e3:=word_cmp.swap x z
  by_cases a : wordCmp x y = 0
  ·rw [if_pos a] at h1
   by_cases b : wordCmp y z = 0
   ·rw [if_pos b] at h2
    have c1:=word_cmp.trans x y z q8_ q8_
    have c2:=word_cmp.trans z y x q8_ q8_
    rw [if_pos q8_]
    exact words_trans xs ys zs h1 h2
   ·rw [if_neg b] at h2
    have c:=word_cmp.le_lt (x:=x) (y:=y) (z:=z) q8_ q8_
    rw [if_neg q8_]
    omega
  ·rw [if_neg a] at h1
   have h3 : wordCmp y z ≤ 0:=by
    by_cases b : wordCmp y z = 0
    ·omega
    ·rw [if_neg b] at h2;exact h2
   have c:=word_cmp.lt_le (x:=x) (y:=y) (z:=z) q8_ h3
   rw [if_neg q8_]
   omega
theorem words_cmp : Cmp wordsCmp:=⟨words_swap,words_trans⟩
theorem preCmp_eq : preCmp = lexC (fun a b => ordI (if a = [] then 1 else 0) (if b = [] then 1 else 0)) (fun a b => wordsCmp (splitL 46 a) (splitL 46 b)):=by
 funext a b
 unfold preCmp lexC
 dsimp only
 by_cases h : a = b
 ·subst h
  have e:=wordsCmp_self (splitL 46 a)
  simp [ordI_self,e]
 ·by_cases ha : a = []
  ·have hb : ¬ b = []:=fun e => h (ha.trans e.symm)
   have hb2 : ¬ [] = b:=fun e => hb e.symm
   subst ha
   simp [hb,hb2,ordI]
  ·by_cases hb : b = []
   ·subst hb
    simp [ha,ordI]
   ·simp [h,ha,hb,ordI]
theorem pre_cmp : Cmp preCmp:=by
 rw [preCmp_eq]
 exact (ordI_cmp.on _).lex (words_cmp.on _)
def vcmp (x y : Req) : Int:=lexC (fun x y : Req => ordI x.f1.f0 y.f1.f0) (lexC (fun x y : Req => ordI x.f1.f1 y.f1.f1) (lexC (fun x y : Req => ordI x.f1.f2 y.f1.f2) (fun x y : Req => preCmp x.f1.f3.data.toList y.f1.f3.data.toList))) x y
theorem vcmp_cmp : Cmp vcmp:=(ordI_cmp.on _).lex ((ordI_cmp.on _).lex ((ordI_cmp.on _).lex (pre_cmp.on _)))
theorem cmpB_eq (x y : Req) (hx : verR x = true) (hy : verR y = true) : cmpB x y = vcmp x y:=by
 unfold cmpB
 rw [hx,hy]
 rfl
theorem may_ver {r : Req} (h : mayB r = true) : verR r = true:=by
 unfold mayB fitsB at h
 simp only [Bool.and_eq_true] at h
 exact h.1.2
theorem cmpB_may {x y : Req} (hx : mayB x = true) (hy : mayB y = true) : cmpB x y = vcmp x y:=cmpB_eq x y (may_ver hx) (may_ver hy)
end Go.Proofs.YtennhpoemdaghaaGreatDoor.P
end
section
namespace Go.Proofs.YtennhpoemdaghaaGreatDoor.P
open Go Go.RowKit Go.Proofs.YtennhpoemdaghaaGreatDoorW.PrintWords
inductive Reach (root : List Req) (nodes : List Node) : Req → Prop
 | root {r : Req} : r ∈ root → mayB r = true → Reach root nodes r
 | step {y r : Req} : Reach root nodes y → r ∈ reqsP nodes y → mayB r = true → Reach root nodes r
theorem Reach.may {root : List Req} {nodes : List Node} {r : Req} (h : Reach root nodes r) : mayB r = true:=by
 cases h with
 | root _ h => exact h
 | step _ _ h => exact h
def univ (root : List Req) (nodes : List Node) : List Req:=root ++ nodes.flatMap (·.f1)
theorem reqs_sub : ∀ (nodes : List Node) (r : Req),reqsP nodes r = [] ∨ ∃ n ∈ nodes,reqsP nodes r = n.f1 ∧ n.f0 = r
 | [],_ => .inl rfl
 | n :: ns,r => by
  rw [reqsP]
  split
  ·rename_i h
   exact .inr ⟨n,by simp,rfl,eqR_iff.1 h⟩
  ·rcases reqs_sub ns r with h | ⟨m,hm,h⟩
   ·exact .inl h
   ·exact .inr ⟨m,by simp [hm],h⟩
theorem reqs_univ (root : List Req) (nodes : List Node) (r : Req) : (∀ x ∈ reqsP nodes r,x ∈ univ root nodes) ∧ (reqsP nodes r).length ≤ (univ root nodes).length:=by
 rcases reqs_sub nodes r with h | ⟨n,hn,h,_⟩
 ·rw [h];simp
 ·rw [h]
  refine ⟨fun x hx => List.mem_append.2 (.inr (List.mem_flatMap.2 ⟨n,hn,hx⟩)),?_⟩
  unfold univ
  rw [List.length_append,List.length_flatMap]
  have : n.f1.length ∈ nodes.map (fun n => n.f1.length):=List.mem_map.2 ⟨n,hn,rfl⟩
  have h2 : ∀ (l : List Nat) (a : Nat),a ∈ l → a ≤ l.sum:=fun l => by
   induction l with
   | nil => intro a h;exact absurd h q43_
   | cons b l ih =>
    intro a h
    rw [List.sum_cons]
    rcases List.mem_cons.1 h with rfl | h
    ·omega
    ·have:=ih a h;omega
  have:=h2 _ _ this
  omega
theorem nodup_len : ∀ (l m : List Req),l.Nodup → (∀ x ∈ l,x ∈ m) → l.length ≤ m.length
 | [],m,_,_ => Nat.zero_le _
 | x :: l,m,hn,hs => by
  obtain ⟨h1,h2⟩:=List.nodup_cons.1 hn
  obtain ⟨a,b,rfl⟩:=List.append_of_mem (hs x q43_)
  have:=nodup_len l (a ++ b) h2 (fun y hy => by
   have:=hs y (by simp [hy])
   rcases List.mem_append.1 this with h | h
   ·exact List.mem_append.2 (.inl h)
   ·rcases List.mem_cons.1 h with rfl | h
    ·exact absurd hy h1
    ·exact List.mem_append.2 (.inr h))
  simp only [List.length_cons,List.length_append] at this ⊢
  omega
theorem addL_pre : ∀ (l all : List Req),∃ t,addL all l = all ++ t
 | [],all => ⟨[],by simp [addL]⟩
 | x :: rs,all => by
  rw [addL]
  split
  ·obtain ⟨t,h⟩:=addL_pre rs (all ++ [x])
   exact ⟨x :: t,by rw [h,List.append_assoc];rfl⟩
  ·exact addL_pre rs all
structure WInv (root : List Req) (nodes : List Node) (all : List Req) (i : Nat) : Prop where
 le : i ≤ all.length
 nodup : all.Nodup
 reach : ∀ r ∈ all,Reach root nodes r
 sub : ∀ r ∈ all,r ∈ univ root nodes
 root : ∀ r ∈ root,mayB r = true → r ∈ all
 done : ∀ (j : Nat) (h : j < i) (hj : j < all.length),∀ r ∈ reqsP nodes all[j],mayB r = true → r ∈ all
theorem WInv.start (root : List Req) (nodes : List Node) : WInv root nodes (addL [] root) 0:=by
 have h : ∀ r,r ∈ addL [] root ↔ r ∈ root ∧ mayB r = true:=fun r => by rw [addL_mem];simp
 exact ⟨Nat.zero_le _,addL_nodup root [] List.nodup_nil,fun r hr => .root ((h r).1 hr).1 ((h r).1 hr).2,fun r hr => List.mem_append.2 (.inl ((h r).1 hr).1),fun r hr hm => (h r).2 ⟨hr,hm⟩,fun j hj => absurd hj q8_⟩
theorem WInv.next {root : List Req} {nodes : List Node} {all : List Req} {i : Nat} (h : WInv root nodes all i) (hi : i < all.length) : WInv root nodes (addL all (reqsP nodes all[i])) (i + 1):=by
 obtain ⟨t,ht⟩:=addL_pre (reqsP nodes all[i]) all
 have hm : ∀ r,r ∈ addL all (reqsP nodes all[i]) ↔ r ∈ all ∨ (r ∈ reqsP nodes all[i] ∧ mayB r = true):=fun r => addL_mem _ _ _
 have hl : all.length ≤ (addL all (reqsP nodes all[i])).length:=by rw [ht,List.length_append];omega
 have hg : ∀ (j : Nat) (h1 : j < all.length) (h2 : j < (addL all (reqsP nodes all[i])).length),(addL all (reqsP nodes all[i]))[j] = all[j]:=fun j h1 h2 => by
  simp only [ht]
  exact List.getElem_append_left h1
 refine ⟨by omega,addL_nodup _ _ h.nodup,fun r hr => ?_,fun r hr => ?_,fun r hr hy => (hm r).2 (.inl (h.root r hr hy)),fun j hj hj2 r hr hy => ?_⟩
 ·rcases (hm r).1 hr with hr | ⟨h1,h2⟩
  ·exact h.reach r hr
  ·exact .step (h.reach _ (List.getElem_mem hi)) h1 h2
 ·rcases (hm r).1 hr with hr | ⟨h1,h2⟩
  ·exact h.sub r hr
  ·exact (reqs_univ root nodes _).1 r h1
 ·have hj3 : j < all.length:=by omega
  rw [hg j hj3 hj2] at hr
  rcases Nat.lt_or_ge j i with h1 | h1
  ·exact (hm r).2 (.inl (h.done j h1 hj3 r hr hy))
  ·have e : j = i:=by omega
   subst e
   exact (hm r).2 (.inr ⟨hr,hy⟩)
theorem WInv.len {root : List Req} {nodes : List Node} {all : List Req} {i : Nat} (h : WInv root nodes all i) : all.length ≤ (univ root nodes).length:=nodup_len _ _ h.nodup h.sub
theorem walk_ends (root : List Req) (nodes : List Node) (hU : (univ root nodes).length ≤ 500000) : ∀ (k : Nat) (all : List Req) (i : Nat),WInv root nodes all i → (univ root nodes).length - i < k → ∃ out,walkP nodes k all i = some out ∧ WInv root nodes out out.length
 | 0,all,i,h,hk => absurd hk q8_
 | k + 1,all,i,h,hk => by
  rw [walkP]
  have hl:=h.len
  split
  ·rename_i hi
   have hr:=(reqs_univ root nodes all[i]).2
   rw [moreP_eq _ _ q8_,Option.bind_some]
   exact walk_ends root nodes hU k _ _ (h.next hi) q8_
  ·rename_i hi
   have e : i = all.length:=by have:=h.le;omega
   exact ⟨all,rfl,e ▸ h⟩
theorem walk_more (nodes : List Node) : ∀ (k : Nat) (all : List Req) (i : Nat) (out : List Req),walkP nodes k all i = some out → walkP nodes (k + 1) all i = some out
 | 0,all,i,out,h => absurd h (by simp [walkP])
 | k + 1,all,i,out,h => by
  rw [walkP] at h
  rw [walkP]
  split
  ·rename_i hi
   rw [dif_pos hi] at h
   obtain ⟨a,h1,h2⟩:=Option.bind_eq_some_iff.mp h
   rw [h1,Option.bind_some]
   exact walk_more nodes k _ _ _ h2
  ·rename_i hi
   rw [dif_neg hi] at h
   exact h
def reachL (root : List Req) (nodes : List Node) : List Req:=(walkP nodes ((univ root nodes).length + 1) (addL [] root) 0).getD []
theorem reachL_at (root : List Req) (nodes : List Node) (hU : (univ root nodes).length ≤ 500000) : ∀ k,(univ root nodes).length < k → walkP nodes k (addL [] root) 0 = some (reachL root nodes):=by
 obtain ⟨out,h1,_⟩:=walk_ends root nodes hU ((univ root nodes).length + 1) _ 0 (WInv.start root nodes) q8_
 have e : reachL root nodes = out:=by unfold reachL;rw [h1];rfl
 intro k hk
 obtain ⟨d,rfl⟩ : ∃ d,k = (univ root nodes).length + 1 + d:=⟨k - ((univ root nodes).length + 1),by omega⟩
 rw [e]
 clear hk
 induction d with
 | zero => exact h1
 | succ d ih => exact walk_more _ _ _ _ _ ih
theorem reachL_inv (root : List Req) (nodes : List Node) (hU : (univ root nodes).length ≤ 500000) : WInv root nodes (reachL root nodes) (reachL root nodes).length:=by
 obtain ⟨out,h1,h2⟩:=walk_ends root nodes hU ((univ root nodes).length + 1) _ 0 (WInv.start root nodes) q8_
 have e : reachL root nodes = out:=by unfold reachL;rw [h1];rfl
 rw [e]
 exact h2
theorem reached_eq (root : List Req) (nodes : List Node) (hU : (univ root nodes).length ≤ 500000) : mvs_Reached.f root nodes = some (reachL root nodes):=by
 unfold mvs_Reached.f
 have hl : root.length ≤ (univ root nodes).length:=by unfold univ;rw [List.length_append];omega
 rw [moreP_eq root [] (by rw [List.length_nil];omega),Option.bind_some]
 exact reachL_at root nodes hU fuelW (by show _ < 1000002;omega)
theorem mem_reachL {root : List Req} {nodes : List Node} (hU : (univ root nodes).length ≤ 500000) {r : Req} : r ∈ reachL root nodes ↔ Reach root nodes r:=by
 have h:=reachL_inv root nodes hU
 refine ⟨h.reach r,fun hr => ?_⟩
 induction hr with
 | root h1 h2 => exact h.root _ h1 h2
 | step _ h1 h2 ih =>
  obtain ⟨j,hj,rfl⟩:=List.mem_iff_getElem.1 ih
  exact h.done j hj hj _ h1 h2
end Go.Proofs.YtennhpoemdaghaaGreatDoor.P
end
section
namespace Go.Proofs.YtennhpoemdaghaaGreatDoor.P
open Go Go.RowKit Go.Proofs.YtennhpoemdaghaaGreatDoorW.PrintWords Go.Proofs.YtennhpoemdaghaaGreatDoorW.PrintLast Go.Proofs.YtennhpoemdaghaaGreatDoorW.PrintMore
def zR : Req:=⟨⟨#[]⟩,0,0,0,⟨#[]⟩,⟨#[]⟩⟩
theorem zeroReq (w : World) : (zeroValue 41).run Tryz.prog w = .ok (valR zR) w:=by go_simp;rfl
theorem lawS : Maps.Keyed Tryz.prog 9:=Maps.string_keyed Tryz.underlying9
theorem below_grow {w w' : World} (h : Below w.heap.size w w') : w.grownBy w' none:=⟨h.os,h.tape,h.output,h.size,fun k hk _ => h.block k hk⟩
theorem _root_.Go.World.ownsMap.below2 {w w' : World} {P : Program} {k : TypeId} {R : Value → Option (DW × List MemPlace)} {b n : Nat} {D : DW} (h : w.ownsMap P k R b n D) (hb : Below w.heap.size w w') : w'.ownsMap P k R b n D:=h.kept (below_grow hb) q43_
set_option maxRecDepth 100000 in
set_option maxHeartbeats 4000000 in
theorem take_calls (b n : Nat) (L L' : List Req) (r : Req) (w0 w : World) (hb0 : Below w0.heap.size w0 w) (hbB : w0.heap.size ≤ b) (hE : Env w0) (hm0 : OwnB w b n L) (hn : n < maxLen) (ht : takeP L r = some L') :
  Calls Tryz.prog 52 #[.agg #[.map (some b)],.agg #[.string r.f0,.int .i64 r.f1.f0,.int .i64 r.f1.f1,.int .i64 r.f1.f2,.string r.f1.f3,.string r.f1.f4]] w fun e w' => e = .returned (.tuple #[]) ∧ OwnB w' b (n + 1) L' ∧ Below w0.heap.size w0 w' ∧ w.grownBy w' (some b):=by
 have HB:=Aside0.mk hb0
 have HD:=Aside0.mk (Below.refl w.heap.size w)
 have HM:=Aside0.mk hm0
 have HE:=Aside0.mk hE
 have HSB:=Aside0.mk hbB
 have HS:=Aside0.mk hb0.size
 unfold takeP at ht
 split at ht
 case isFalse => exact absurd ht q43_
 case isTrue hsz =>
 have hkey : keyOf Tryz.prog 9 (.string r.f0) = some (keyL r.f0):=WideMaps.keyOf_string_mk Tryz.underlying9 (by unfold maxLen;omega)
 obtain ⟨D,hm,hbe⟩:=hm0
 clear hb0 hE hbB hsz
 rcases hbe.find r.f0 (datR zR) with ⟨hf,hhas,hat⟩ | ⟨x,hf,hhas,hat⟩
 ·rw [hf] at ht
  obtain rfl:=Option.some.inj ht
  clear ht
  go_enter Tryz.func52,Tryz.ntmps52
  go_wp2_with (first | ((with_reducible refine gate_dst (N:=2) rfl ?_);refine bx_ 2 80 #[.map (some b)] ?_;intro g2 hg_ w2 hbox hb_;replace HB:=Aside0.mk (below_then HB.out HB.out.size hb_);replace HD:=Aside0.mk (below_then HD.out HD.out.size hb_);replace HM:=Aside0.mk (HM.out.below hb_);have B2:=Aside0.mk hbox;clear hbox hb_ hg_;have hB21_0 : w2.cell? ⟨g2,0,none⟩ = some _:=(blk_cell B2.out 0).trans rfl) | ((with_reducible refine gate_dst (N:=3) rfl ?_);refine bx_ 3 41 #[.string r.f0,.int .i64 r.f1.f0,.int .i64 r.f1.f1,.int .i64 r.f1.f2,.string r.f1.f3,.string r.f1.f4] ?_;intro g3 hg_ w3 hbox hb_;replace HB:=Aside0.mk (below_then HB.out HB.out.size hb_);replace HD:=Aside0.mk (below_then HD.out HD.out.size hb_);replace HM:=Aside0.mk (HM.out.below hb_);replace B2:=Aside0.mk (blk_below B2.out hb_);have B3:=Aside0.mk hbox;clear hbox hb_ hg_;have hB22_0 : w3.cell? ⟨g2,0,none⟩ = some _:=(blk_cell B2.out 0).trans rfl;have hB32_0 : w3.cell? ⟨g3,0,none⟩ = some _:=(blk_cell B3.out 0).trans rfl;have hB32_1 : w3.cell? ⟨g3,1,none⟩ = some _:=(blk_cell B3.out 1).trans rfl;have hB32_2 : w3.cell? ⟨g3,2,none⟩ = some _:=(blk_cell B3.out 2).trans rfl;have hB32_3 : w3.cell? ⟨g3,3,none⟩ = some _:=(blk_cell B3.out 3).trans rfl;have hB32_4 : w3.cell? ⟨g3,4,none⟩ = some _:=(blk_cell B3.out 4).trans rfl;have hB32_5 : w3.cell? ⟨g3,5,none⟩ = some _:=(blk_cell B3.out 5).trans rfl) | ((with_reducible refine gate_dst (N:=11) rfl ?_);refine wpList_lookup_own_ok _ rfl (.tmp 8) (.tmp 10) 78 rfl 9 41 lawS Tryz.underlying78 reqR (zeroReq _) (datR zR) [] rfl b n D rfl ?ow _ (keyL r.f0) rfl hkey ?_;(case ow => exact (hm.below2 HD.out));intro v ps hv;obtain ⟨rv,hrv,hy⟩:=reqR_inv hv;obtain rfl : zR = rv:=(datR_inj ((Prod.mk.inj hy).1.symm.trans hat)).symm;subst hrv;rw [hhas];clear hv hy) | ((with_reducible refine gate_dst (N:=4) rfl ?_);refine bx_ 4 41 #[.string (⟨#[]⟩ : ByteArray),.int .i64 0,.int .i64 0,.int .i64 0,.string (⟨#[]⟩ : ByteArray),.string (⟨#[]⟩ : ByteArray)] ?_;intro g4 hg_ w4 hbox hb_;have hsz_:=HD.out.size;have n34_ : g3 ≠ g4:=q25_;have n24_ : g2 ≠ g4:=q26_;have nb_ : b ≠ g4:=q28_;replace HB:=Aside0.mk (below_then HB.out HB.out.size hb_);replace HD:=Aside0.mk (below_then HD.out HD.out.size hb_);replace HM:=Aside0.mk (HM.out.below hb_);replace B2:=Aside0.mk (blk_below B2.out hb_);replace B3:=Aside0.mk (blk_below B3.out hb_);have B4:=Aside0.mk hbox;have G4:=Aside0.mk ((by rw [hg_];exact hsz_) : w.heap.size ≤ g4);have N34:=Aside0.mk (n34_ : g3 ≠ g4);have N24:=Aside0.mk (n24_ : g2 ≠ g4);have NB:=Aside0.mk (nb_ : b ≠ g4);clear n34_ n24_ nb_ hsz_;clear hbox hb_ hg_;have hB23_0 : w4.cell? ⟨g2,0,none⟩ = some _:=(blk_cell B2.out 0).trans rfl;have hB33_0 : w4.cell? ⟨g3,0,none⟩ = some _:=(blk_cell B3.out 0).trans rfl;have hB33_1 : w4.cell? ⟨g3,1,none⟩ = some _:=(blk_cell B3.out 1).trans rfl;have hB33_2 : w4.cell? ⟨g3,2,none⟩ = some _:=(blk_cell B3.out 2).trans rfl;have hB33_3 : w4.cell? ⟨g3,3,none⟩ = some _:=(blk_cell B3.out 3).trans rfl;have hB33_4 : w4.cell? ⟨g3,4,none⟩ = some _:=(blk_cell B3.out 4).trans rfl;have hB33_5 : w4.cell? ⟨g3,5,none⟩ = some _:=(blk_cell B3.out 5).trans rfl;have hB43_0 : w4.cell? ⟨g4,0,none⟩ = some _:=(blk_cell B4.out 0).trans rfl;have hB43_1 : w4.cell? ⟨g4,1,none⟩ = some _:=(blk_cell B4.out 1).trans rfl;have hB43_2 : w4.cell? ⟨g4,2,none⟩ = some _:=(blk_cell B4.out 2).trans rfl;have hB43_3 : w4.cell? ⟨g4,3,none⟩ = some _:=(blk_cell B4.out 3).trans rfl;have hB43_4 : w4.cell? ⟨g4,4,none⟩ = some _:=(blk_cell B4.out 4).trans rfl;have hB43_5 : w4.cell? ⟨g4,5,none⟩ = some _:=(blk_cell B4.out 5).trans rfl) | ((with_reducible refine gate_ (.store 41 (.tmp 4) (.tmp 12)) rfl ?_);refine store_event 41 (.tmp 4) (.tmp 12) rfl rfl rfl 0 41 _ #[.string zR.f0,.int .i64 zR.f1.f0,.int .i64 zR.f1.f1,.int .i64 zR.f1.f2,.string zR.f1.f3,.string zR.f1.f4] _ [.string zR.f0,.int .i64 zR.f1.f0,.int .i64 zR.f1.f1,.int .i64 zR.f1.f2,.string zR.f1.f3,.string zR.f1.f4] rfl rfl rfl q11_ q27_ B4.out (Nat.le_refl 6) q45_ ?_;intro w5 hh5 hg5;have q3:=Aside0.mk (blk_grown B3.out hg5 (fun he => N34.out (Option.some.inj he)));have q2:=Aside0.mk (blk_grown B2.out hg5 (fun he => N24.out (Option.some.inj he)));have q4:=Aside0.mk hh5;have m1:=Aside0.mk (below_grown HB.out hg5 (Nat.le_trans HS.out G4.out) HB.out.size);have m2:=Aside0.mk (below_grown HD.out hg5 G4.out HD.out.size);have m3:=Aside0.mk (HM.out.kept hg5 (fun he => NB.out (Option.some.inj he)));clear HB HD HM B2 B3 B4 hh5 hg5;have HB:=m1;have HD:=m2;have HM:=m3;have B2:=q2;have B3:=q3;have B4:=q4;clear m1 m2 m3 q2 q3 q4;have hB24_0 : w5.cell? ⟨g2,0,none⟩ = some _:=(blk_cell B2.out 0).trans rfl;have hB34_0 : w5.cell? ⟨g3,0,none⟩ = some _:=(blk_cell B3.out 0).trans rfl;have hB34_1 : w5.cell? ⟨g3,1,none⟩ = some _:=(blk_cell B3.out 1).trans rfl;have hB34_2 : w5.cell? ⟨g3,2,none⟩ = some _:=(blk_cell B3.out 2).trans rfl;have hB34_3 : w5.cell? ⟨g3,3,none⟩ = some _:=(blk_cell B3.out 3).trans rfl;have hB34_4 : w5.cell? ⟨g3,4,none⟩ = some _:=(blk_cell B3.out 4).trans rfl;have hB34_5 : w5.cell? ⟨g3,5,none⟩ = some _:=(blk_cell B3.out 5).trans rfl;have hB44_0 : w5.cell? ⟨g4,0,none⟩ = some _:=(blk_cell B4.out 0).trans rfl;have hB44_1 : w5.cell? ⟨g4,1,none⟩ = some _:=(blk_cell B4.out 1).trans rfl;have hB44_2 : w5.cell? ⟨g4,2,none⟩ = some _:=(blk_cell B4.out 2).trans rfl;have hB44_3 : w5.cell? ⟨g4,3,none⟩ = some _:=(blk_cell B4.out 3).trans rfl;have hB44_4 : w5.cell? ⟨g4,4,none⟩ = some _:=(blk_cell B4.out 4).trans rfl;have hB44_5 : w5.cell? ⟨g4,5,none⟩ = some _:=(blk_cell B4.out 5).trans rfl) | ((with_reducible refine gate_ (.mapUpdate 78 (.tmp 25) (.tmp 27) (.tmp 28)) rfl ?_);obtain ⟨D2,ho2,hb2⟩:=HM.out;refine wpList_mapUpdate_own _ rfl (.tmp 25) (.tmp 27) (.tmp 28) 78 rfl 9 41 lawS Tryz.underlying78 reqR b n D2 rfl ho2 hn _ (valR r) (keyL r.f0) rfl rfl hkey (datR r) [] rfl ?_;intro w7 ho7 hg7))
  go_end0
  exact ⟨rfl,⟨_,ho7,hb2.add hf⟩,below_grown HB.out hg7 HSB.out HB.out.size,((below_grow HD.out).but (some b)).andThen hg7 (fun j hj => .inr hj)⟩
 ·rw [hf] at ht
  obtain ⟨c,hc,ht⟩:=Option.bind_eq_some_iff.mp ht
  replace hc : ver_Compare.f fuelR r.f1.f0 r.f1.f1 r.f1.f2 r.f1.f3 r.f1.f4 x.f1.f0 x.f1.f1 x.f1.f2 x.f1.f3 x.f1.f4 = some c:=hc
  obtain rfl:=Option.some.inj ht
  clear ht
  by_cases h0 : c > 0
  ·have hg0 : ((0 : Int) < c) = True:=eq_true h0
   rw [if_pos h0]
   go_enter Tryz.func52,Tryz.ntmps52
   go_wp2_with (first | ((with_reducible refine gate_dst (N:=2) rfl ?_);refine bx_ 2 80 #[.map (some b)] ?_;intro g2 hg_ w2 hbox hb_;replace HB:=Aside0.mk (below_then HB.out HB.out.size hb_);replace HD:=Aside0.mk (below_then HD.out HD.out.size hb_);replace HM:=Aside0.mk (HM.out.below hb_);have B2:=Aside0.mk hbox;clear hbox hb_ hg_;have hB21_0 : w2.cell? ⟨g2,0,none⟩ = some _:=(blk_cell B2.out 0).trans rfl) | ((with_reducible refine gate_dst (N:=3) rfl ?_);refine bx_ 3 41 #[.string r.f0,.int .i64 r.f1.f0,.int .i64 r.f1.f1,.int .i64 r.f1.f2,.string r.f1.f3,.string r.f1.f4] ?_;intro g3 hg_ w3 hbox hb_;replace HB:=Aside0.mk (below_then HB.out HB.out.size hb_);replace HD:=Aside0.mk (below_then HD.out HD.out.size hb_);replace HM:=Aside0.mk (HM.out.below hb_);replace B2:=Aside0.mk (blk_below B2.out hb_);have B3:=Aside0.mk hbox;clear hbox hb_ hg_;have hB22_0 : w3.cell? ⟨g2,0,none⟩ = some _:=(blk_cell B2.out 0).trans rfl;have hB32_0 : w3.cell? ⟨g3,0,none⟩ = some _:=(blk_cell B3.out 0).trans rfl;have hB32_1 : w3.cell? ⟨g3,1,none⟩ = some _:=(blk_cell B3.out 1).trans rfl;have hB32_2 : w3.cell? ⟨g3,2,none⟩ = some _:=(blk_cell B3.out 2).trans rfl;have hB32_3 : w3.cell? ⟨g3,3,none⟩ = some _:=(blk_cell B3.out 3).trans rfl;have hB32_4 : w3.cell? ⟨g3,4,none⟩ = some _:=(blk_cell B3.out 4).trans rfl;have hB32_5 : w3.cell? ⟨g3,5,none⟩ = some _:=(blk_cell B3.out 5).trans rfl) | ((with_reducible refine gate_dst (N:=11) rfl ?_);refine wpList_lookup_own_ok _ rfl (.tmp 8) (.tmp 10) 78 rfl 9 41 lawS Tryz.underlying78 reqR (zeroReq _) (datR zR) [] rfl b n D rfl ?ow _ (keyL r.f0) rfl hkey ?_;(case ow => exact (hm.below2 HD.out));intro v ps hv;obtain ⟨rv,hrv,hy⟩:=reqR_inv hv;obtain rfl : x = rv:=(datR_inj ((Prod.mk.inj hy).1.symm.trans hat)).symm;subst hrv;rw [hhas];clear hv hy) | ((with_reducible refine gate_dst (N:=4) rfl ?_);refine bx_ 4 41 #[.string (⟨#[]⟩ : ByteArray),.int .i64 0,.int .i64 0,.int .i64 0,.string (⟨#[]⟩ : ByteArray),.string (⟨#[]⟩ : ByteArray)] ?_;intro g4 hg_ w4 hbox hb_;have hsz_:=HD.out.size;have n34_ : g3 ≠ g4:=q25_;have n24_ : g2 ≠ g4:=q26_;have nb_ : b ≠ g4:=q28_;replace HB:=Aside0.mk (below_then HB.out HB.out.size hb_);replace HD:=Aside0.mk (below_then HD.out HD.out.size hb_);replace HM:=Aside0.mk (HM.out.below hb_);replace B2:=Aside0.mk (blk_below B2.out hb_);replace B3:=Aside0.mk (blk_below B3.out hb_);have B4:=Aside0.mk hbox;have G4:=Aside0.mk ((by rw [hg_];exact hsz_) : w.heap.size ≤ g4);have N34:=Aside0.mk (n34_ : g3 ≠ g4);have N24:=Aside0.mk (n24_ : g2 ≠ g4);have NB:=Aside0.mk (nb_ : b ≠ g4);clear n34_ n24_ nb_ hsz_;clear hbox hb_ hg_;have hB23_0 : w4.cell? ⟨g2,0,none⟩ = some _:=(blk_cell B2.out 0).trans rfl;have hB33_0 : w4.cell? ⟨g3,0,none⟩ = some _:=(blk_cell B3.out 0).trans rfl;have hB33_1 : w4.cell? ⟨g3,1,none⟩ = some _:=(blk_cell B3.out 1).trans rfl;have hB33_2 : w4.cell? ⟨g3,2,none⟩ = some _:=(blk_cell B3.out 2).trans rfl;have hB33_3 : w4.cell? ⟨g3,3,none⟩ = some _:=(blk_cell B3.out 3).trans rfl;have hB33_4 : w4.cell? ⟨g3,4,none⟩ = some _:=(blk_cell B3.out 4).trans rfl;have hB33_5 : w4.cell? ⟨g3,5,none⟩ = some _:=(blk_cell B3.out 5).trans rfl;have hB43_0 : w4.cell? ⟨g4,0,none⟩ = some _:=(blk_cell B4.out 0).trans rfl;have hB43_1 : w4.cell? ⟨g4,1,none⟩ = some _:=(blk_cell B4.out 1).trans rfl;have hB43_2 : w4.cell? ⟨g4,2,none⟩ = some _:=(blk_cell B4.out 2).trans rfl;have hB43_3 : w4.cell? ⟨g4,3,none⟩ = some _:=(blk_cell B4.out 3).trans rfl;have hB43_4 : w4.cell? ⟨g4,4,none⟩ = some _:=(blk_cell B4.out 4).trans rfl;have hB43_5 : w4.cell? ⟨g4,5,none⟩ = some _:=(blk_cell B4.out 5).trans rfl) | ((with_reducible refine gate_ (.store 41 (.tmp 4) (.tmp 12)) rfl ?_);refine store_event 41 (.tmp 4) (.tmp 12) rfl rfl rfl 0 41 _ #[.string x.f0,.int .i64 x.f1.f0,.int .i64 x.f1.f1,.int .i64 x.f1.f2,.string x.f1.f3,.string x.f1.f4] _ [.string x.f0,.int .i64 x.f1.f0,.int .i64 x.f1.f1,.int .i64 x.f1.f2,.string x.f1.f3,.string x.f1.f4] rfl rfl rfl q11_ q27_ B4.out (Nat.le_refl 6) q45_ ?_;intro w5 hh5 hg5;have q3:=Aside0.mk (blk_grown B3.out hg5 (fun he => N34.out (Option.some.inj he)));have q2:=Aside0.mk (blk_grown B2.out hg5 (fun he => N24.out (Option.some.inj he)));have q4:=Aside0.mk hh5;have m1:=Aside0.mk (below_grown HB.out hg5 (Nat.le_trans HS.out G4.out) HB.out.size);have m2:=Aside0.mk (below_grown HD.out hg5 G4.out HD.out.size);have m3:=Aside0.mk (HM.out.kept hg5 (fun he => NB.out (Option.some.inj he)));clear HB HD HM B2 B3 B4 hh5 hg5;have HB:=m1;have HD:=m2;have HM:=m3;have B2:=q2;have B3:=q3;have B4:=q4;clear m1 m2 m3 q2 q3 q4;have hB24_0 : w5.cell? ⟨g2,0,none⟩ = some _:=(blk_cell B2.out 0).trans rfl;have hB34_0 : w5.cell? ⟨g3,0,none⟩ = some _:=(blk_cell B3.out 0).trans rfl;have hB34_1 : w5.cell? ⟨g3,1,none⟩ = some _:=(blk_cell B3.out 1).trans rfl;have hB34_2 : w5.cell? ⟨g3,2,none⟩ = some _:=(blk_cell B3.out 2).trans rfl;have hB34_3 : w5.cell? ⟨g3,3,none⟩ = some _:=(blk_cell B3.out 3).trans rfl;have hB34_4 : w5.cell? ⟨g3,4,none⟩ = some _:=(blk_cell B3.out 4).trans rfl;have hB34_5 : w5.cell? ⟨g3,5,none⟩ = some _:=(blk_cell B3.out 5).trans rfl;have hB44_0 : w5.cell? ⟨g4,0,none⟩ = some _:=(blk_cell B4.out 0).trans rfl;have hB44_1 : w5.cell? ⟨g4,1,none⟩ = some _:=(blk_cell B4.out 1).trans rfl;have hB44_2 : w5.cell? ⟨g4,2,none⟩ = some _:=(blk_cell B4.out 2).trans rfl;have hB44_3 : w5.cell? ⟨g4,3,none⟩ = some _:=(blk_cell B4.out 3).trans rfl;have hB44_4 : w5.cell? ⟨g4,4,none⟩ = some _:=(blk_cell B4.out 4).trans rfl;have hB44_5 : w5.cell? ⟨g4,5,none⟩ = some _:=(blk_cell B4.out 5).trans rfl) | (go_at_call 44;with_reducible refine (ver_Compare.calls fuelR r.f1.f0 r.f1.f1 r.f1.f2 r.f1.f3 r.f1.f4 x.f1.f0 x.f1.f1 x.f1.f2 x.f1.f3 x.f1.f4 c _ hc ?sideG).mono ?_;(case sideG => exact Env.below HE.out HB.out);rintro e w6 ⟨rfl,hb6⟩;replace HB:=Aside0.mk (below_then HB.out HB.out.size hb6);replace HD:=Aside0.mk (below_then HD.out HD.out.size hb6);replace HM:=Aside0.mk (HM.out.below hb6);replace B2:=Aside0.mk (blk_below B2.out hb6);replace B3:=Aside0.mk (blk_below B3.out hb6);replace B4:=Aside0.mk (blk_below B4.out hb6);have hB25_0 : w6.cell? ⟨g2,0,none⟩ = some _:=(blk_cell B2.out 0).trans rfl;have hB35_0 : w6.cell? ⟨g3,0,none⟩ = some _:=(blk_cell B3.out 0).trans rfl;have hB35_1 : w6.cell? ⟨g3,1,none⟩ = some _:=(blk_cell B3.out 1).trans rfl;have hB35_2 : w6.cell? ⟨g3,2,none⟩ = some _:=(blk_cell B3.out 2).trans rfl;have hB35_3 : w6.cell? ⟨g3,3,none⟩ = some _:=(blk_cell B3.out 3).trans rfl;have hB35_4 : w6.cell? ⟨g3,4,none⟩ = some _:=(blk_cell B3.out 4).trans rfl;have hB35_5 : w6.cell? ⟨g3,5,none⟩ = some _:=(blk_cell B3.out 5).trans rfl;have hB45_0 : w6.cell? ⟨g4,0,none⟩ = some _:=(blk_cell B4.out 0).trans rfl;have hB45_1 : w6.cell? ⟨g4,1,none⟩ = some _:=(blk_cell B4.out 1).trans rfl;have hB45_2 : w6.cell? ⟨g4,2,none⟩ = some _:=(blk_cell B4.out 2).trans rfl;have hB45_3 : w6.cell? ⟨g4,3,none⟩ = some _:=(blk_cell B4.out 3).trans rfl;have hB45_4 : w6.cell? ⟨g4,4,none⟩ = some _:=(blk_cell B4.out 4).trans rfl;have hB45_5 : w6.cell? ⟨g4,5,none⟩ = some _:=(blk_cell B4.out 5).trans rfl;clear hb6) | ((with_reducible refine gate_ (.mapUpdate 78 (.tmp 25) (.tmp 27) (.tmp 28)) rfl ?_);obtain ⟨D2,ho2,hb2⟩:=HM.out;refine wpList_mapUpdate_own _ rfl (.tmp 25) (.tmp 27) (.tmp 28) 78 rfl 9 41 lawS Tryz.underlying78 reqR b n D2 rfl ho2 hn _ (valR r) (keyL r.f0) rfl rfl hkey (datR r) [] rfl ?_;intro w7 ho7 hg7))
   go_end0
   exact ⟨rfl,⟨_,ho7,hb2.turn hf⟩,below_grown HB.out hg7 HSB.out HB.out.size,((below_grow HD.out).but (some b)).andThen hg7 (fun j hj => .inr hj)⟩
  ·have hg0 : ((0 : Int) < c) = False:=eq_false h0
   rw [if_neg h0]
   go_enter Tryz.func52,Tryz.ntmps52
   go_wp2_with (first | ((with_reducible refine gate_dst (N:=2) rfl ?_);refine bx_ 2 80 #[.map (some b)] ?_;intro g2 hg_ w2 hbox hb_;replace HB:=Aside0.mk (below_then HB.out HB.out.size hb_);replace HD:=Aside0.mk (below_then HD.out HD.out.size hb_);replace HM:=Aside0.mk (HM.out.below hb_);have B2:=Aside0.mk hbox;clear hbox hb_ hg_;have hB21_0 : w2.cell? ⟨g2,0,none⟩ = some _:=(blk_cell B2.out 0).trans rfl) | ((with_reducible refine gate_dst (N:=3) rfl ?_);refine bx_ 3 41 #[.string r.f0,.int .i64 r.f1.f0,.int .i64 r.f1.f1,.int .i64 r.f1.f2,.string r.f1.f3,.string r.f1.f4] ?_;intro g3 hg_ w3 hbox hb_;replace HB:=Aside0.mk (below_then HB.out HB.out.size hb_);replace HD:=Aside0.mk (below_then HD.out HD.out.size hb_);replace HM:=Aside0.mk (HM.out.below hb_);replace B2:=Aside0.mk (blk_below B2.out hb_);have B3:=Aside0.mk hbox;clear hbox hb_ hg_;have hB22_0 : w3.cell? ⟨g2,0,none⟩ = some _:=(blk_cell B2.out 0).trans rfl;have hB32_0 : w3.cell? ⟨g3,0,none⟩ = some _:=(blk_cell B3.out 0).trans rfl;have hB32_1 : w3.cell? ⟨g3,1,none⟩ = some _:=(blk_cell B3.out 1).trans rfl;have hB32_2 : w3.cell? ⟨g3,2,none⟩ = some _:=(blk_cell B3.out 2).trans rfl;have hB32_3 : w3.cell? ⟨g3,3,none⟩ = some _:=(blk_cell B3.out 3).trans rfl;have hB32_4 : w3.cell? ⟨g3,4,none⟩ = some _:=(blk_cell B3.out 4).trans rfl;have hB32_5 : w3.cell? ⟨g3,5,none⟩ = some _:=(blk_cell B3.out 5).trans rfl) | ((with_reducible refine gate_dst (N:=11) rfl ?_);refine wpList_lookup_own_ok _ rfl (.tmp 8) (.tmp 10) 78 rfl 9 41 lawS Tryz.underlying78 reqR (zeroReq _) (datR zR) [] rfl b n D rfl ?ow _ (keyL r.f0) rfl hkey ?_;(case ow => exact (hm.below2 HD.out));intro v ps hv;obtain ⟨rv,hrv,hy⟩:=reqR_inv hv;obtain rfl : x = rv:=(datR_inj ((Prod.mk.inj hy).1.symm.trans hat)).symm;subst hrv;rw [hhas];clear hv hy) | ((with_reducible refine gate_dst (N:=4) rfl ?_);refine bx_ 4 41 #[.string (⟨#[]⟩ : ByteArray),.int .i64 0,.int .i64 0,.int .i64 0,.string (⟨#[]⟩ : ByteArray),.string (⟨#[]⟩ : ByteArray)] ?_;intro g4 hg_ w4 hbox hb_;have hsz_:=HD.out.size;have n34_ : g3 ≠ g4:=q25_;have n24_ : g2 ≠ g4:=q26_;have nb_ : b ≠ g4:=q28_;replace HB:=Aside0.mk (below_then HB.out HB.out.size hb_);replace HD:=Aside0.mk (below_then HD.out HD.out.size hb_);replace HM:=Aside0.mk (HM.out.below hb_);replace B2:=Aside0.mk (blk_below B2.out hb_);replace B3:=Aside0.mk (blk_below B3.out hb_);have B4:=Aside0.mk hbox;have G4:=Aside0.mk ((by rw [hg_];exact hsz_) : w.heap.size ≤ g4);have N34:=Aside0.mk (n34_ : g3 ≠ g4);have N24:=Aside0.mk (n24_ : g2 ≠ g4);have NB:=Aside0.mk (nb_ : b ≠ g4);clear n34_ n24_ nb_ hsz_;clear hbox hb_ hg_;have hB23_0 : w4.cell? ⟨g2,0,none⟩ = some _:=(blk_cell B2.out 0).trans rfl;have hB33_0 : w4.cell? ⟨g3,0,none⟩ = some _:=(blk_cell B3.out 0).trans rfl;have hB33_1 : w4.cell? ⟨g3,1,none⟩ = some _:=(blk_cell B3.out 1).trans rfl;have hB33_2 : w4.cell? ⟨g3,2,none⟩ = some _:=(blk_cell B3.out 2).trans rfl;have hB33_3 : w4.cell? ⟨g3,3,none⟩ = some _:=(blk_cell B3.out 3).trans rfl;have hB33_4 : w4.cell? ⟨g3,4,none⟩ = some _:=(blk_cell B3.out 4).trans rfl;have hB33_5 : w4.cell? ⟨g3,5,none⟩ = some _:=(blk_cell B3.out 5).trans rfl;have hB43_0 : w4.cell? ⟨g4,0,none⟩ = some _:=(blk_cell B4.out 0).trans rfl;have hB43_1 : w4.cell? ⟨g4,1,none⟩ = some _:=(blk_cell B4.out 1).trans rfl;have hB43_2 : w4.cell? ⟨g4,2,none⟩ = some _:=(blk_cell B4.out 2).trans rfl;have hB43_3 : w4.cell? ⟨g4,3,none⟩ = some _:=(blk_cell B4.out 3).trans rfl;have hB43_4 : w4.cell? ⟨g4,4,none⟩ = some _:=(blk_cell B4.out 4).trans rfl;have hB43_5 : w4.cell? ⟨g4,5,none⟩ = some _:=(blk_cell B4.out 5).trans rfl) | ((with_reducible refine gate_ (.store 41 (.tmp 4) (.tmp 12)) rfl ?_);refine store_event 41 (.tmp 4) (.tmp 12) rfl rfl rfl 0 41 _ #[.string x.f0,.int .i64 x.f1.f0,.int .i64 x.f1.f1,.int .i64 x.f1.f2,.string x.f1.f3,.string x.f1.f4] _ [.string x.f0,.int .i64 x.f1.f0,.int .i64 x.f1.f1,.int .i64 x.f1.f2,.string x.f1.f3,.string x.f1.f4] rfl rfl rfl q11_ q27_ B4.out (Nat.le_refl 6) q45_ ?_;intro w5 hh5 hg5;have q3:=Aside0.mk (blk_grown B3.out hg5 (fun he => N34.out (Option.some.inj he)));have q2:=Aside0.mk (blk_grown B2.out hg5 (fun he => N24.out (Option.some.inj he)));have q4:=Aside0.mk hh5;have m1:=Aside0.mk (below_grown HB.out hg5 (Nat.le_trans HS.out G4.out) HB.out.size);have m2:=Aside0.mk (below_grown HD.out hg5 G4.out HD.out.size);have m3:=Aside0.mk (HM.out.kept hg5 (fun he => NB.out (Option.some.inj he)));clear HB HD HM B2 B3 B4 hh5 hg5;have HB:=m1;have HD:=m2;have HM:=m3;have B2:=q2;have B3:=q3;have B4:=q4;clear m1 m2 m3 q2 q3 q4;have hB24_0 : w5.cell? ⟨g2,0,none⟩ = some _:=(blk_cell B2.out 0).trans rfl;have hB34_0 : w5.cell? ⟨g3,0,none⟩ = some _:=(blk_cell B3.out 0).trans rfl;have hB34_1 : w5.cell? ⟨g3,1,none⟩ = some _:=(blk_cell B3.out 1).trans rfl;have hB34_2 : w5.cell? ⟨g3,2,none⟩ = some _:=(blk_cell B3.out 2).trans rfl;have hB34_3 : w5.cell? ⟨g3,3,none⟩ = some _:=(blk_cell B3.out 3).trans rfl;have hB34_4 : w5.cell? ⟨g3,4,none⟩ = some _:=(blk_cell B3.out 4).trans rfl;have hB34_5 : w5.cell? ⟨g3,5,none⟩ = some _:=(blk_cell B3.out 5).trans rfl;have hB44_0 : w5.cell? ⟨g4,0,none⟩ = some _:=(blk_cell B4.out 0).trans rfl;have hB44_1 : w5.cell? ⟨g4,1,none⟩ = some _:=(blk_cell B4.out 1).trans rfl;have hB44_2 : w5.cell? ⟨g4,2,none⟩ = some _:=(blk_cell B4.out 2).trans rfl;have hB44_3 : w5.cell? ⟨g4,3,none⟩ = some _:=(blk_cell B4.out 3).trans rfl;have hB44_4 : w5.cell? ⟨g4,4,none⟩ = some _:=(blk_cell B4.out 4).trans rfl;have hB44_5 : w5.cell? ⟨g4,5,none⟩ = some _:=(blk_cell B4.out 5).trans rfl) | (go_at_call 44;with_reducible refine (ver_Compare.calls fuelR r.f1.f0 r.f1.f1 r.f1.f2 r.f1.f3 r.f1.f4 x.f1.f0 x.f1.f1 x.f1.f2 x.f1.f3 x.f1.f4 c _ hc ?sideG).mono ?_;(case sideG => exact Env.below HE.out HB.out);rintro e w6 ⟨rfl,hb6⟩;replace HB:=Aside0.mk (below_then HB.out HB.out.size hb6);replace HD:=Aside0.mk (below_then HD.out HD.out.size hb6);replace HM:=Aside0.mk (HM.out.below hb6);replace B2:=Aside0.mk (blk_below B2.out hb6);replace B3:=Aside0.mk (blk_below B3.out hb6);replace B4:=Aside0.mk (blk_below B4.out hb6);have hB25_0 : w6.cell? ⟨g2,0,none⟩ = some _:=(blk_cell B2.out 0).trans rfl;have hB35_0 : w6.cell? ⟨g3,0,none⟩ = some _:=(blk_cell B3.out 0).trans rfl;have hB35_1 : w6.cell? ⟨g3,1,none⟩ = some _:=(blk_cell B3.out 1).trans rfl;have hB35_2 : w6.cell? ⟨g3,2,none⟩ = some _:=(blk_cell B3.out 2).trans rfl;have hB35_3 : w6.cell? ⟨g3,3,none⟩ = some _:=(blk_cell B3.out 3).trans rfl;have hB35_4 : w6.cell? ⟨g3,4,none⟩ = some _:=(blk_cell B3.out 4).trans rfl;have hB35_5 : w6.cell? ⟨g3,5,none⟩ = some _:=(blk_cell B3.out 5).trans rfl;have hB45_0 : w6.cell? ⟨g4,0,none⟩ = some _:=(blk_cell B4.out 0).trans rfl;have hB45_1 : w6.cell? ⟨g4,1,none⟩ = some _:=(blk_cell B4.out 1).trans rfl;have hB45_2 : w6.cell? ⟨g4,2,none⟩ = some _:=(blk_cell B4.out 2).trans rfl;have hB45_3 : w6.cell? ⟨g4,3,none⟩ = some _:=(blk_cell B4.out 3).trans rfl;have hB45_4 : w6.cell? ⟨g4,4,none⟩ = some _:=(blk_cell B4.out 4).trans rfl;have hB45_5 : w6.cell? ⟨g4,5,none⟩ = some _:=(blk_cell B4.out 5).trans rfl;clear hb6))
   go_end0
   exact ⟨rfl,HM.out.mono (Nat.le_succ _),HB.out,(below_grow HD.out).but _⟩
set_option maxRecDepth 100000 in
set_option maxHeartbeats 4000000 in
theorem each_calls (b n : Nat) (L L' l : List Req) (A : Option Addr) (c : Nat) (w0 w : World) (hb0 : Below w0.heap.size w0 w) (hbB : w0.heap.size ≤ b) (hE : Env w0) (hm0 : OwnB w b n L)
  (hr : Kd.R k41 41 w w0.heap.size (fun k => k ≠ b) (.slice A l.length c) l) (hnn : n + l.length < maxLen) (ht0 : eachP L l = some L') :
  Calls Tryz.prog 51 #[.slice A l.length c,.func (.func 52) #[.agg #[.map (some b)]] #[]] w fun e w' => e = .returned (.tuple #[]) ∧ OwnB w' b (n + l.length) L' ∧ Below w0.heap.size w0 w' ∧ w.grownBy w' (some b):=by
 have HB:=Aside0.mk hb0
 have HM:=Aside0.mk hm0
 have HE:=Aside0.mk hE
 have HO:=Aside0.mk hr
 have HH:=Aside0.mk ht0
 have HG : Aside0 (w.grownBy w (some b)):=⟨rfl,rfl,rfl,Nat.le_refl _,fun _ _ _ => rfl⟩
 clear hb0 hm0 hE hr ht0
 go_enter Tryz.func51,Tryz.ntmps51
 go_wp2
 go_loopw [8] (fun v8 wr => ∃ (i : Nat) (L1 : List Req),v8 = .int .i64 i ∧ i ≤ l.length ∧ Aside0 (eachP L1 (l.drop i) = some L') ∧ Aside0 (OwnB wr b (n + i) L1) ∧ Aside0 (Kd.R k41 41 wr w0.heap.size (fun k => k ≠ b) (.slice A l.length c) l) ∧ Aside0 (Below w0.heap.size w0 wr) ∧ Aside0 (w.grownBy wr (some b))) (fun v8 _ => l.length - (intOf v8).toNat)
 case atStart => exact ⟨0,L,rfl,Nat.zero_le _,HH,HM,HO,HB,HG⟩
 case round =>
  clear HM HO HB HH HG
  obtain ⟨i,L1,rfl,hi,HH,HM,HO,HB,HG⟩:=hrel
  by_cases h : i < l.length
  ·have hg : ((i : Int) < (l.length : Int)) = True:=eq_true q8_
   have hp : (0 ≤ (i : Int)) = True:=eq_true q8_
   have hmax:=Kd.C_max (Kd.R_reads' HO.out).2.2
   have hw : wrap64 ((i : Int) + 1) = (i : Int) + 1:=by clear hnn;unfold wrap64;omega
   have hni : n + i < maxLen:=Nat.lt_trans (Nat.add_lt_add_left h n) hnn
   obtain ⟨ad,e1,hx0,hx1,hx2,hx3,hx4,hx5⟩:=at_T41 (Kd.R_reads' HO.out).2.2 (i : Int) q8_ q8_
   cases e1
   simp only [Int.toNat_natCast] at hx0 hx1 hx2 hx3 hx4 hx5
   obtain ⟨x,hx⟩ : ∃ x,rd_T41 l (i : Int) = x:=⟨_,rfl⟩
   rw [hx] at hx0 hx1 hx2 hx3 hx4 hx5
   have hlx : l.drop i = x :: l.drop (i + 1):=by rw [List.drop_eq_getElem_cons h,← hx];simp [rd_T41,h]
   have H:=HH.out
   rw [hlx,eachP] at H
   clear HH
   obtain ⟨L2,ht,H⟩:=Option.bind_eq_some_iff.mp H
   have HH:=Aside0.mk H
   clear H
   go_wp2_with (first | ((with_reducible refine gate_dst (N:=5) rfl ?_);refine bx_ 5 41 #[.string (⟨#[]⟩ : ByteArray),.int .i64 0,.int .i64 0,.int .i64 0,.string (⟨#[]⟩ : ByteArray),.string (⟨#[]⟩ : ByteArray)] ?_;intro g5 hg5 w1 hbox hb1;replace HO:=Aside0.mk (Kd.R_below (Kd.R_mono (Kd.R_bound HO.out) (fun k hk => (⟨hk.1,by have:=hk.2.2.1;omega⟩ : k ≠ b ∧ k ≠ g5))) hb1);have BK5:=Aside0.mk hbox;have GE5:=Aside0.mk ((by rw [hg5];exact HB.out.size) : w0.heap.size ≤ g5);replace HB:=Aside0.mk (below_then HB.out HB.out.size hb1);have NE5:=Aside0.mk ((by rw [hg5];exact Nat.ne_of_lt HM.out.lt) : b ≠ g5);replace HM:=Aside0.mk (HM.out.below hb1);have GW5:=Aside0.mk ((by rw [hg5];exact HG.out.size) : w.heap.size ≤ g5);replace HG:=Aside0.mk (HG.out.andThen (row':=none) (below_grow hb1) (fun j hj => absurd hj q43_));clear hbox hb1 hg5) | ((with_reducible refine gate_ (.store 41 (.tmp 5) (.tmp 11)) rfl ?_);refine store_event 41 (.tmp 5) (.tmp 11) rfl rfl rfl 0 41 _ #[.string x.f0,.int .i64 x.f1.f0,.int .i64 x.f1.f1,.int .i64 x.f1.f2,.string x.f1.f3,.string x.f1.f4] _ [.string x.f0,.int .i64 x.f1.f0,.int .i64 x.f1.f1,.int .i64 x.f1.f2,.string x.f1.f3,.string x.f1.f4] rfl rfl rfl q11_ q27_ BK5.out (Nat.le_refl 6) q45_ ?_;intro w2 hh2 hgr2;replace HM:=Aside0.mk (HM.out.kept hgr2 (fun he => NE5.out (Option.some.inj he)));replace HO:=Aside0.mk (Kd.R_mono (Kd.R_grown HO.out hgr2 (fun k hk he => hk.2 (Option.some.inj he))) (fun k hk => hk.1));replace HB:=Aside0.mk (below_grown HB.out hgr2 GE5.out HB.out.size);replace BK5:=Aside0.mk hh2;replace HG:=Aside0.mk (HG.out.andThen hgr2 (fun j hj => .inl (by cases hj;exact GW5.out)));clear hh2 hgr2;have hz0 : w2.cell? ⟨g5,0,none⟩ = some _:=(blk_cell BK5.out 0).trans rfl;have hz1 : w2.cell? ⟨g5,1,none⟩ = some _:=(blk_cell BK5.out 1).trans rfl;have hz2 : w2.cell? ⟨g5,2,none⟩ = some _:=(blk_cell BK5.out 2).trans rfl;have hz3 : w2.cell? ⟨g5,3,none⟩ = some _:=(blk_cell BK5.out 3).trans rfl;have hz4 : w2.cell? ⟨g5,4,none⟩ = some _:=(blk_cell BK5.out 4).trans rfl;have hz5 : w2.cell? ⟨g5,5,none⟩ = some _:=(blk_cell BK5.out 5).trans rfl) | (go_at_call 52;(with_reducible refine (take_calls b (n + i) L1 L2 x w0 _ HB.out hbB HE.out HM.out hni ht).mono ?_);rintro e w3 ⟨rfl,hm3,hb3,hg3⟩;replace HM:=Aside0.mk hm3;replace HO:=Aside0.mk (Kd.R_grown HO.out hg3 (fun k hk he => hk (Option.some.inj he)));replace HB:=Aside0.mk hb3;replace HG:=Aside0.mk (HG.out.andThen hg3 (fun j hj => .inr hj));clear hm3 hb3 hg3))
   refine ⟨⟨i + 1,L2,by simp [hw],h,HH,HM,HO,HB,HG⟩,?_⟩
   simp only [intOf,hw]
   omega
  ·have hg : ((i : Int) < (l.length : Int)) = False:=eq_false q8_
   have hil : l.drop i = []:=List.drop_eq_nil_of_le q8_
   obtain rfl : i = l.length:=by omega
   have hrr : L1 = L':=by have H:=HH.out;rw [hil,eachP] at H;exact Option.some.inj H
   subst hrr
   go_wp2
   go_end0
   exact ⟨rfl,HM.out,HB.out,HG.out⟩
end Go.Proofs.YtennhpoemdaghaaGreatDoor.P
end
section
namespace Go.Proofs.YtennhpoemdaghaaGreatDoor.P
open Go Go.RowKit Go.Proofs.YtennhpoemdaghaaGreatDoorW.PrintWords Go.Proofs.YtennhpoemdaghaaGreatDoorW.PrintLast Go.Proofs.YtennhpoemdaghaaGreatDoorW.PrintMore
attribute [local go_sem] run_makeMap
def leR (a b : Req) : Bool:=decide (¬ b.f0.data.toList < a.f0.data.toList)
def insR (x : Req) : List Req → List Req
 | [] => [x]
 | y :: ys => if leR x y then x :: y :: ys else y :: insR x ys
def sortP : List Req → List Req
 | [] => []
 | x :: xs => insR x (sortP xs)
theorem insR_perm (x : Req) : ∀ l : List Req,(insR x l).Perm (x :: l)
 | [] => List.Perm.refl _
 | y :: ys => by
  rw [insR]
  split
  ·exact List.Perm.refl _
  ·exact ((insR_perm x ys).cons y).trans (List.Perm.swap _ _ _)
theorem sortP_perm : ∀ l : List Req,(sortP l).Perm l
 | [] => List.Perm.refl _
 | x :: xs => (insR_perm x _).trans ((sortP_perm xs).cons x)
theorem insR_sorted (x : Req) : ∀ l : List Req,SortedR l → SortedR (insR x l)
 | [],_ => List.pairwise_singleton _ _
 | y :: ys,h => by
  obtain ⟨h1,h2⟩:=List.pairwise_cons.1 h
  rw [insR]
  split
  ·rename_i hle
   have hle' : ¬ y.f0.data.toList < x.f0.data.toList:=of_decide_eq_true hle
   refine List.pairwise_cons.2 ⟨fun z hz => ?_,h⟩
   rcases List.mem_cons.1 hz with rfl | hz
   ·exact hle'
   ·exact List.not_lt.2 (List.le_trans (List.not_lt.1 hle') (List.not_lt.1 (h1 z hz)))
  ·rename_i hle
   have hle' : y.f0.data.toList < x.f0.data.toList:=by
    unfold leR at hle
    simpa using hle
   refine List.pairwise_cons.2 ⟨fun z hz => ?_,insR_sorted x ys h2⟩
   rcases List.mem_cons.1 ((insR_perm x ys).mem_iff.1 hz) with rfl | hz
   ·exact List.lt_asymm hle'
   ·exact h1 z hz
theorem sortP_sorted : ∀ l : List Req,SortedR (sortP l)
 | [] => List.Pairwise.nil
 | x :: xs => insR_sorted x _ (sortP_sorted xs)
theorem path_inj : ∀ {L : List Req},L.Pairwise (fun x y => x.f0 ≠ y.f0) → ∀ {a b : Req},a ∈ L → b ∈ L → a.f0 = b.f0 → a = b
 | [],_,_,_,h,_,_ => absurd h q43_
 | x :: L,hd,a,b,ha,hb,he => by
  obtain ⟨h1,h2⟩:=List.pairwise_cons.1 hd
  rcases List.mem_cons.1 ha with rfl | ha'
  ·rcases List.mem_cons.1 hb with rfl | hb'
   ·rfl
   ·exact absurd he (h1 b hb')
  ·rcases List.mem_cons.1 hb with rfl | hb'
   ·exact absurd he.symm (h1 a ha')
   ·exact path_inj h2 ha' hb' he
theorem sortP_eq {L ys : List Req} (hd : L.Pairwise (fun x y => x.f0 ≠ y.f0)) (hp : ys.Perm L) (hs : SortedR ys) : ys = sortP L:=by
 have h1:=sortP_sorted L
 have hpp : ys.Perm (sortP L):=hp.trans (sortP_perm L).symm
 refine List.Perm.eq_of_pairwise (le:=fun a b : Req => ¬ b.f0.data.toList < a.f0.data.toList) (fun a b ha hb h1 h2 => ?_) hs h1 hpp
 have hab : a.f0 = b.f0:=bytes_inj (List.le_antisymm (List.not_lt.1 h1) (List.not_lt.1 h2))
 have ha' : a ∈ L:=hp.mem_iff.1 ha
 have hb' : b ∈ L:=(sortP_perm L).mem_iff.1 hb
 exact path_inj hd ha' hb' hab
theorem below_of_grown0 {w w' : World} (h : w.grownBy w' none) : Below w.heap.size w w':=⟨h.os,h.tape,h.output,h.size,fun k hk => h.block k hk q43_⟩
theorem below_grownR {w0 W w1 : World} {base : Nat} {row : Option Nat} (h : Below base w0 W) (hg : W.grownBy w1 row) (hb : ∀ g,row = some g → base ≤ g) (hs : base ≤ W.heap.size) : Below base w0 w1 :=
 h.trans ⟨hg.os,hg.tape,hg.output,hg.size,fun k hk => hg.block k (Nat.lt_of_lt_of_le hk hs) (fun he => by have:=hb k he.symm;omega)⟩
theorem filter_step {L : List Req} (hd : L.Pairwise (fun x y => x.f0 ≠ y.f0)) (left : Lit → Bool) {x : Req} (hx : x ∈ L) (hl : left (keyL x.f0) = true) :
  (L.filter fun y => left (keyL y.f0)).Perm (x :: L.filter fun y => left (keyL y.f0) && !(keyL y.f0).sameKey (keyL x.f0)):=by
 induction L with
 | nil => exact absurd hx q43_
 | cons y L ih =>
  obtain ⟨hy,hd'⟩:=List.pairwise_cons.1 hd
  rcases List.mem_cons.1 hx with rfl | hx'
  ·have hs : (keyL x.f0).sameKey (keyL x.f0) = true:=WideAt.sameKey_self (keyL_key _)
   have hrest : L.filter (fun y => left (keyL y.f0) && !(keyL y.f0).sameKey (keyL x.f0)) = L.filter (fun y => left (keyL y.f0)):=by
    refine List.filter_congr (fun z hz => ?_)
    have hne : (keyL z.f0).sameKey (keyL x.f0) = false:=by
     cases hb : (keyL z.f0).sameKey (keyL x.f0)
     ·rfl
     ·exact absurd (keyL_inj (WideAt.sameKey_eq hb)).symm (hy z hz)
    simp [hne]
   simp only [List.filter_cons,hl,hs,if_true,Bool.not_true,Bool.and_false,Bool.false_eq_true,if_false,hrest]
   exact List.Perm.refl _
  ·have hne : (keyL y.f0).sameKey (keyL x.f0) = false:=by
    cases hb : (keyL y.f0).sameKey (keyL x.f0)
    ·rfl
    ·exact absurd (keyL_inj (WideAt.sameKey_eq hb)) (hy x hx')
   have ih':=ih hd' hx'
   cases hly : left (keyL y.f0)
   ·simpa only [List.filter_cons,hly,Bool.false_and,Bool.false_eq_true,if_false] using ih'
   ·simp only [List.filter_cons,hly,hne,if_true,Bool.not_false,Bool.and_true]
    exact (ih'.cons y).trans (List.Perm.swap _ _ _)
def mvs_List.f (l0 : List Req) (l1 : List Node) : Option (List Req):=(mvs_Reached.f l0 l1).bind fun all => (eachP [] all).bind fun L => if all.length ≤ 1000000 ∧ L.length ≤ 1000000 then some (sortP L) else none
set_option maxRecDepth 100000 in
set_option maxHeartbeats 4000000 in
theorem mvs_List.calls (A0 : Option Addr) (c0 : Nat) (l0 : List Req) (A1 : Option Addr) (c1 : Nat) (l1 : List Node) (r : List Req) (w : World) (hr0 : Kd.C k41 w A0 l0.length l0) (hc0 : l0.length ≤ c0) (hr1 : Kd.C k70 w A1 l1.length l1) (hc1 : l1.length ≤ c1) (h : mvs_List.f l0 l1 = some r) (hG : Env w) :
  Calls Tryz.prog 27 #[.slice A0 l0.length c0,.slice A1 l1.length c1] w fun e w' => ∃ v0_ : Value,e = .returned (v0_) ∧ Kd.R k41 41 w' w.heap.size (fun _ => True) v0_ r ∧ Below w.heap.size w w':=by
 obtain ⟨all,hall,h⟩:=Option.bind_eq_some_iff.mp h
 obtain ⟨L,hL,h⟩:=Option.bind_eq_some_iff.mp h
 split at h
 case isFalse => exact absurd h q43_
 case isTrue hsz =>
 obtain ⟨hsa,hsl⟩:=hsz
 have hmx : 0 + all.length < maxLen:=by unfold maxLen;omega
 obtain rfl:=Option.some.inj h
 have HR0:=Aside0.mk hr0
 have HC0:=Aside0.mk hc0
 have HR1:=Aside0.mk hr1
 have HC1:=Aside0.mk hc1
 have HE:=Aside0.mk hG
 clear hr0 hc0 hr1 hc1 hG h
 go_enter Tryz.func27,Tryz.ntmps27
 go_upto_region 2 with (first | ((with_reducible refine gate_dst (N:=5) rfl ?_);refine bx_ 5 80 #[.map none] ?_;intro g5 hg5 w1 hbox hb1;have HM:=Aside0.mk (OwnB.below ⟨_,World.ownsMap_made w Tryz.prog 9 reqR,BestD.nil⟩ hb1);have HB:=Aside0.mk (below_then (below_alloc (Below.refl _ w) _) q43_ hb1);have BK5:=Aside0.mk hbox;have G5:=Aside0.mk ((by rw [hg5];simp) : w.heap.size < g5);clear hbox hb1 hg5) | ((with_reducible refine gate_ (.store 80 (.tmp 5) (.tmp 10)) rfl ?_);refine store_event 80 (.tmp 5) (.tmp 10) rfl rfl rfl 0 80 _ #[.map (some w.heap.size)] _ [.map (some w.heap.size)] rfl rfl rfl q11_ q27_ BK5.out (Nat.le_refl 1) q45_ ?_;intro w2 hh2 hg2;replace HM:=Aside0.mk (HM.out.kept hg2 (fun he => absurd (Option.some.inj he) (Nat.ne_of_lt G5.out)));replace HB:=Aside0.mk (below_grown HB.out hg2 (Nat.le_of_lt G5.out) HB.out.size);replace BK5:=Aside0.mk hh2;clear hh2 hg2;have hz0 : w2.cell? ⟨g5,0,none⟩ = some _:=(blk_cell BK5.out 0).trans rfl))
 go_frame
 go_cut [5] (fun v5 wc => v5 = .pointer (some ⟨g5,0,none⟩) ∧ Aside0 (wc.heap[g5]? = some (.cells #[.map (some w.heap.size)] 80 (0,0))) ∧ Aside0 (OwnB wc w.heap.size all.length L) ∧ Aside0 (Below w.heap.size w wc))
 case first =>
  replace BK5:=Aside0.mk (blk_drew BK5.out);replace HM:=Aside0.mk (OwnB.below HM.out (below_drew (Below.refl _ _)));replace HB:=Aside0.mk (below_drew HB.out)
  first | (go_region_held3 (fun w' => w'.cell? ⟨g5,0,none⟩ = some (.map (some w.heap.size))) (first | (exact (blk_cell BK5.out 0).trans rfl)) ((first | (go_at_call 25;(with_reducible refine (mvs_Reached.calls A0 c0 l0 A1 c1 l1 all _ (Kd.C_below HR0.out HB.out) HC0.out (Kd.C_below HR1.out HB.out) HC1.out hall (Env.below HE.out HB.out)).mono ?_);rintro e w3 ⟨v3,rfl,hR3,hb3⟩;obtain ⟨A3,c3,rfl⟩:=Kd.R_slice hR3;have HO:=Aside0.mk (Kd.R_lower (Kd.R_mono (Kd.R_bound hR3) (fun k hk => (by have:=hk.2.1;have:=HM.out.lt;omega : k ≠ w.heap.size))) HB.out.size);replace BK5:=Aside0.mk (blk_below BK5.out hb3);replace HM:=Aside0.mk (HM.out.below hb3);replace HB:=Aside0.mk (below_then HB.out HB.out.size hb3);clear hR3 hb3) | (go_at_call 51;(with_reducible refine (each_calls w.heap.size 0 [] L all A3 c3 w _ HB.out (Nat.le_refl _) HE.out HM.out HO.out hmx hL).mono ?_);rintro e w4 ⟨rfl,hm4,hb4,hg4⟩;replace BK5:=Aside0.mk (blk_grown BK5.out hg4 (fun he => absurd (Option.some.inj he) (Nat.ne_of_gt G5.out)));replace HM:=Aside0.mk (by have h_:=hm4;rwa [Nat.zero_add] at h_);replace HB:=Aside0.mk hb4;clear HO hm4 hb4 hg4)))) | fail
  all_goals (go_wp2;go_meet;(case rel => exact ⟨rfl,BK5,HM,HB⟩))
 case rest =>
 clear BK5 HM HB
 obtain ⟨rfl,BK5,HM,HB⟩:=hcut
 have hz0 : wc.cell? ⟨g5,0,none⟩ = some (.map (some w.heap.size)):=(blk_cell BK5.out 0).trans rfl
 have GR : Aside0 (w.heap.size < wc.heap.size):=Aside0.mk HM.out.lt
 go_wp2_with (first | (at_range;obtain ⟨D,ho,hbe⟩:=HM.out;refine wpList_range_own _ rfl (.tmp 18) 78 rfl 9 41 lawS Tryz.underlying78 reqR w.heap.size all.length D rfl ho ?_;intro w5 hrg hg5' hs5;have HRG:=Aside0.mk hrg;have HBE:=Aside0.mk hbe;have hb5:=below_of_grown0 hg5';replace HB:=Aside0.mk (below_then HB.out HB.out.size hb5);clear HM BK5 hrg hbe ho hg5' hb5))
 go_frame
 generalize hrr : wc.heap.size = rr at HRG GR hs5 ⊢
 go_loopw [6] (fun v6 wr => ∃ (left : Lit → Bool) (cnt : Nat) (acc : List Req),Aside0 (Kd.R k41 41 wr w.heap.size (fun k => k ≠ w.heap.size ∧ k ≠ rr) v6 acc) ∧ Aside0 ((acc ++ L.filter (fun x => left (keyL x.f0))).Perm L) ∧ Aside0 (∀ kl,left kl = true → Maps.has D kl = true) ∧ Aside0 (wr.ranges Tryz.prog 9 reqR w.heap.size rr all.length D left cnt) ∧ Aside0 (Below w.heap.size w wr)) (fun _ wr => wr.rangeLeft w.heap.size rr)
 case atStart =>
  refine ⟨Maps.has D,Maps.size D,[],⟨Kd.R_nil _ _ _ _ _⟩,⟨?_⟩,⟨fun _ h => h⟩,HRG,HB⟩
  rw [List.nil_append,List.filter_eq_self.2 (fun x hx => by rw [HBE.out.has];exact List.any_eq_true.2 ⟨x,hx,sameP_iff.2 rfl⟩)]
 case round =>
  clear HRG HB
  obtain ⟨left,cnt,acc,HO,HP,HF,HRG,HB⟩:=hrel
  have hlacc : acc.length ≤ 1000000:=by
   have:=HP.out.length_eq
   rw [List.length_append] at this
   omega
  go_wp2_with (first | (at_next;refine wpList_next_ranges _ rfl (.tmp 19) rfl 9 lawS reqR (fun s : ByteArray => Value.string s) valR (fun key kl hk => Maps.keyOf_string_inv Tryz.underlying9 hk) (fun v y hv => by obtain ⟨q,h1,_⟩:=reqR_inv hv;exact ⟨q,h1⟩) w.heap.size rr all.length D left cnt rfl HRG.out ?_ ?_))
  ·intro hc0 hl0
   have hpl : acc.Perm L:=by
    have:=HP.out
    rwa [List.filter_eq_nil_iff.2 (fun x _ => by rw [hl0];simp),List.append_nil] at this
   go_wp2_with (first | (go_at_call 53;(with_reducible refine (sort_calls _ acc w.heap.size _ _ HO.out hlacc).mono ?_);rintro e w7 ⟨rfl,ys,hpy,hsy,hR7,hg7⟩))
   go_ret
   have hys:=sortP_eq HBE.out.nodup (hpy.trans hpl) hsy
   subst hys
   exact ⟨_,rfl,Kd.R_mono hR7 (fun _ _ => trivial),below_grownR HB.out hg7 (fun q hq => Kd.R_base HO.out q hq) HB.out.size⟩
  ·intro s c kl y yp w6 cnt6 hkey hleft hval hat hrg6 hlt6 hg6 hs6 hen
   have hmeas0:=HRG.out.left_eq
   have hy : y = datR c:=(Prod.mk.inj (Option.some.inj (hval.symm.trans (reqR_mk c)))).1
   have hcL : c ∈ L ∧ kl = keyL c.f0:=by
    obtain ⟨x,hx,rfl⟩:=HBE.out.keys kl (HF.out kl hleft)
    have h1:=HBE.out.at_ x hx .nil
    rw [hat .nil,hy] at h1
    obtain rfl:=datR_inj h1
    exact ⟨hx,rfl⟩
   obtain ⟨hcL,rfl⟩:=hcL
   have n1:=Aside0.mk (Kd.R_grown HO.out hg6 (fun k hk he => hk.2 (Option.some.inj he)))
   have n2:=Aside0.mk hrg6
   have n3:=Aside0.mk (below_grown HB.out hg6 (Nat.le_of_lt GR.out) HB.out.size)
   have hP6 : Aside0 ((acc ++ [c] ++ L.filter (fun x => left (keyL x.f0) && !(keyL x.f0).sameKey (keyL c.f0))).Perm L):=⟨by rw [List.append_assoc];exact (List.Perm.append_left acc (filter_step HBE.out.nodup left hcL hleft).symm).trans HP.out⟩
   have hF6 : Aside0 (∀ kl,(left kl && !kl.sameKey (keyL c.f0)) = true → Maps.has D kl = true):=⟨fun kl hk => HF.out kl (by simp only [Bool.and_eq_true] at hk;exact hk.1)⟩
   clear HO HRG HB HP HF hrg6 hg6 hat hval hkey
   have HO:=n1;have HRG:=n2;have HB:=n3;clear n1 n2 n3
   go_wp2_with (first | ((with_reducible refine gate_dst (N:=8) rfl ?_);refine bx_ 8 41 #[.string (⟨#[]⟩ : ByteArray),.int .i64 0,.int .i64 0,.int .i64 0,.string (⟨#[]⟩ : ByteArray),.string (⟨#[]⟩ : ByteArray)] ?_;intro g8 hg8 w8 hbox hb8;replace HO:=Aside0.mk (Kd.R_below (Kd.R_mono (Kd.R_bound HO.out) (fun k hk => (⟨hk.1,by have:=hk.2.2.1;omega⟩ : (k ≠ w.heap.size ∧ k ≠ rr) ∧ k ≠ g8))) hb8);have BK8:=Aside0.mk hbox;have GE8:=Aside0.mk ((by rw [hg8];exact HB.out.size) : w.heap.size ≤ g8);replace HB:=Aside0.mk (below_then HB.out HB.out.size hb8);have NB8:=Aside0.mk ((by rw [hg8];exact Nat.ne_of_lt HRG.out.owns.lt) : w.heap.size ≠ g8);have NR8:=Aside0.mk ((by rw [hg8];exact Nat.ne_of_lt HRG.out.lt) : rr ≠ g8);replace HRG:=Aside0.mk (HRG.out.kept (below_grow hb8) q43_ q43_);clear hbox hb8 hg8) | ((with_reducible refine gate_ (.store 41 (.tmp 8) (.tmp 23)) rfl ?_);refine store_event 41 (.tmp 8) (.tmp 23) rfl rfl rfl 0 41 _ #[.string c.f0,.int .i64 c.f1.f0,.int .i64 c.f1.f1,.int .i64 c.f1.f2,.string c.f1.f3,.string c.f1.f4] _ [.string c.f0,.int .i64 c.f1.f0,.int .i64 c.f1.f1,.int .i64 c.f1.f2,.string c.f1.f3,.string c.f1.f4] rfl rfl rfl q11_ q27_ BK8.out (Nat.le_refl 6) q45_ ?_;intro w9 hh9 hg9;replace HO:=Aside0.mk (Kd.R_mono (Kd.R_grown HO.out hg9 (fun k hk he => hk.2 (Option.some.inj he))) (fun k hk => hk.1));replace HB:=Aside0.mk (below_grown HB.out hg9 GE8.out HB.out.size);replace BK8:=Aside0.mk hh9;replace HRG:=Aside0.mk (HRG.out.kept hg9 (fun he => NB8.out (Option.some.inj he)) (fun he => NR8.out (Option.some.inj he)));clear hh9 hg9;have hy0 : w9.cell? ⟨g8,0,none⟩ = some _:=(blk_cell BK8.out 0).trans rfl;have hy1 : w9.cell? ⟨g8,1,none⟩ = some _:=(blk_cell BK8.out 1).trans rfl;have hy2 : w9.cell? ⟨g8,2,none⟩ = some _:=(blk_cell BK8.out 2).trans rfl;have hy3 : w9.cell? ⟨g8,3,none⟩ = some _:=(blk_cell BK8.out 3).trans rfl;have hy4 : w9.cell? ⟨g8,4,none⟩ = some _:=(blk_cell BK8.out 4).trans rfl;have hy5 : w9.cell? ⟨g8,5,none⟩ = some _:=(blk_cell BK8.out 5).trans rfl) | ((with_reducible refine gate_builtin (b:=.append) (xs:=#[.tmp 24,.tmp 26]) rfl ?_);at_builtin;refine Kd.R_append k41 (w0:=w) w.heap.size rfl (.tmp 24) (.tmp 26) 38 41 (.agg #[.string (⟨#[]⟩ : ByteArray),.int .i64 0,.int .i64 0,.int .i64 0,.string (⟨#[]⟩ : ByteArray),.string (⟨#[]⟩ : ByteArray)]) 72 rfl Tryz.underlying38 info41 rfl q37_ q8_ _ acc c [.string c.f0,.int .i64 c.f1.f0,.int .i64 c.f1.f1,.int .i64 c.f1.f2,.string c.f1.f3,.string c.f1.f4] (fun k => k ≠ w.heap.size ∧ k ≠ rr) _ rfl rfl (k41_mkM _ _ _ c) (fun _ hk => hk) ?aF HO.out HB.out HB.out.size q8_ ?_;(case aF => exact fun k hk => ⟨fun he => by have:=HRG.out.owns.lt;omega,fun he => by have:=HRG.out.lt;omega⟩);intro v10 w10 hR10 hB10 hg10 hat10;replace HB:=Aside0.mk hB10;replace HRG:=Aside0.mk (HRG.out.kept hg10 (fun he => (HO.out.1 _ he.symm).1 rfl) (fun he => (HO.out.1 _ he.symm).2 rfl));replace HO:=Aside0.mk hR10;clear hR10 hB10 hg10 hat10))
   refine ⟨⟨fun z => left z && !z.sameKey (keyL c.f0),cnt6,acc ++ [c],HO,hP6,hF6,HRG,HB⟩,?_⟩
   rw [HRG.out.left_eq,hmeas0]
   exact hlt6
end Go.Proofs.YtennhpoemdaghaaGreatDoor.P
end
section
namespace Go.Proofs.YtennhpoemdaghaaGreatDoor.P
open Go Go.RowKit Go.Proofs.YtennhpoemdaghaaGreatDoorW.PrintWords
def stepB (p : ByteArray) (o : Option Req) (r : Req) : Option Req :=
 if sameP p r then (match o with | none => some r | some x => if cmpB r x > 0 then some r else some x) else o
def bestO (p : ByteArray) (all : List Req) : Option Req:=all.foldl (stepB p) none
theorem find_setL (L : List Req) (r : Req) (p : ByteArray) : (setL L r).find? (sameP p) = if sameP p r then (L.find? (sameP p)).map (fun _ => r) else L.find? (sameP p):=by
 induction L with
 | nil => simp [setL]
 | cons y L ih =>
  have hs : setL (y :: L) r = (if sameP r.f0 y then r else y) :: setL L r:=rfl
  rw [hs,List.find?_cons,List.find?_cons,ih]
  cases hy : sameP r.f0 y
  ·simp only [Bool.false_eq_true,if_false]
   cases hp : sameP p y
   ·rfl
   ·have : sameP p r = false:=by
     cases h : sameP p r
     ·rfl
     ·rw [sameP_iff] at h hp
      rw [← Bool.not_eq_true,sameP_iff] at hy
      exact absurd (hp.trans h.symm) hy
    simp [this]
  ·simp only [if_true]
   rw [sameP_iff] at hy
   have e : sameP p y = sameP p r:=by unfold sameP;rw [hy]
   rw [e]
   cases sameP p r <;> simp
theorem find_takeL (L : List Req) (r : Req) (p : ByteArray) : (takeL L r).find? (sameP p) = stepB p (L.find? (sameP p)) r:=by
 unfold stepB
 cases hp : sameP p r
 ·simp only [Bool.false_eq_true,if_false]
  unfold takeL
  split
  ·rw [List.find?_append,List.find?_cons,hp]
   simp
  ·split
   ·rw [find_setL,hp];rfl
   ·rfl
 ·simp only [if_true]
  have e : sameP r.f0 = sameP p:=by rw [sameP_iff.1 hp]
  unfold takeL
  rw [e]
  cases hf : L.find? (sameP p) with
  | none =>
   simp only
   rw [List.find?_append,hf,List.find?_cons,hp]
   rfl
  | some x =>
   simp only
   split
   ·rw [find_setL,hp,hf];rfl
   ·exact hf
theorem find_takes (p : ByteArray) : ∀ (l L : List Req),(l.foldl takeL L).find? (sameP p) = l.foldl (stepB p) (L.find? (sameP p))
 | [],L => rfl
 | r :: rs,L => by rw [List.foldl_cons,find_takes p rs,find_takeL,List.foldl_cons]
theorem takeL_paths (L : List Req) (r : Req) (h : L.Pairwise (fun x y => x.f0 ≠ y.f0)) : (takeL L r).Pairwise (fun x y => x.f0 ≠ y.f0):=by
 unfold takeL
 split
 ·rename_i hf
  refine List.pairwise_append.2 ⟨h,List.pairwise_singleton _ _,fun a ha b hb => ?_⟩
  rw [List.mem_singleton.1 hb]
  have:=List.find?_eq_none.1 hf a ha
  exact fun e => this (sameP_iff.2 e)
 ·split
  ·have h1 : (L.map (·.f0)).Pairwise (· ≠ ·):=List.pairwise_map.2 h
   rw [← setL_path L r] at h1
   exact List.pairwise_map.1 h1
  ·exact h
theorem takes_paths : ∀ (l L : List Req),L.Pairwise (fun x y => x.f0 ≠ y.f0) → (l.foldl takeL L).Pairwise (fun x y => x.f0 ≠ y.f0)
 | [],L,h => h
 | r :: rs,L,h => by rw [List.foldl_cons];exact takes_paths rs _ (takeL_paths L r h)
theorem bestO_spec (p : ByteArray) : ∀ (l : List Req),(∀ r ∈ l,mayB r = true) → ∀ (o : Option Req),(∀ x,o = some x → x.f0 = p ∧ mayB x = true) →
  (∀ x,l.foldl (stepB p) o = some x → x.f0 = p ∧ mayB x = true ∧ (x ∈ l ∨ o = some x) ∧ (∀ y,(y ∈ l ∧ y.f0 = p) ∨ o = some y → cmpB x y ≥ 0)) ∧
  (l.foldl (stepB p) o = none → o = none ∧ ∀ y ∈ l,y.f0 ≠ p)
 | [],_,o,ho => by
  refine ⟨fun x hx => ⟨(ho x hx).1,(ho x hx).2,.inr hx,fun y hy => ?_⟩,fun h => ⟨h,fun y hy => absurd hy q43_⟩⟩
  rcases hy with ⟨hy,_⟩ | hy
  ·exact absurd hy q43_
  ·have e : x = y:=Option.some.inj (hx.symm.trans hy)
   subst e
   rw [cmpB_may (ho x hx).2 (ho x hx).2,vcmp_cmp.self]
   exact Int.le_refl _
 | r :: rs,hm,o,ho => by
  rw [List.foldl_cons]
  have hmr : mayB r = true:=hm r q43_
  have ho' : ∀ x,stepB p o r = some x → x.f0 = p ∧ mayB x = true:=by
   intro x hx
   unfold stepB at hx
   split at hx
   ·rename_i hs
    split at hx
    ·cases hx;exact ⟨sameP_iff.1 hs,hmr⟩
    ·rename_i z
     split at hx
     ·cases hx;exact ⟨sameP_iff.1 hs,hmr⟩
     ·cases hx;exact ho _ rfl
   ·exact ho x hx
  obtain ⟨h1,h2⟩:=bestO_spec p rs (fun x hx => hm x (by simp [hx])) (stepB p o r) ho'
  refine ⟨fun x hx => ?_,fun h => ?_⟩
  ·obtain ⟨a,b,c,d⟩:=h1 x hx
   have hs : ∀ z,stepB p o r = some z → (z = r ∧ r.f0 = p) ∨ o = some z:=by
    intro z hz
    unfold stepB at hz
    split at hz
    ·rename_i hs
     split at hz
     ·cases hz;exact .inl ⟨rfl,sameP_iff.1 hs⟩
     ·split at hz
      ·cases hz;exact .inl ⟨rfl,sameP_iff.1 hs⟩
      ·cases hz;exact .inr rfl
    ·exact .inr hz
   have hge : ∀ y,(y = r ∧ r.f0 = p) ∨ o = some y → ∃ z,stepB p o r = some z ∧ cmpB z y ≥ 0:=by
    intro y hy
    unfold stepB
    cases hp : sameP p r
    ·simp only [Bool.false_eq_true,if_false]
     rcases hy with ⟨rfl,hy⟩ | hy
     ·rw [sameP_iff.2 hy] at hp;exact absurd hp q37_
     ·refine ⟨y,hy,?_⟩
      rw [cmpB_may (ho y hy).2 (ho y hy).2,vcmp_cmp.self]
      exact Int.le_refl _
    ·simp only [if_true]
     cases ho2 : o with
     | none =>
      rcases hy with ⟨rfl,hy⟩ | hy
      ·refine ⟨y,rfl,?_⟩
       rw [cmpB_may hmr hmr,vcmp_cmp.self]
       exact Int.le_refl _
      ·rw [ho2] at hy;exact absurd hy q43_
     | some x0 =>
      have hx0:=(ho x0 ho2).2
      simp only
      split
      ·rename_i hc
       refine ⟨r,rfl,?_⟩
       rcases hy with ⟨rfl,hy⟩ | hy
       ·rw [cmpB_may hmr hmr,vcmp_cmp.self];exact Int.le_refl _
       ·rw [ho2] at hy
        obtain rfl:=Option.some.inj hy
        omega
      ·rename_i hc
       refine ⟨x0,rfl,?_⟩
       rcases hy with ⟨rfl,hy⟩ | hy
       ·rw [cmpB_may hx0 hmr]
        rw [cmpB_may hmr hx0] at hc
        have:=vcmp_cmp.swap y x0
        omega
       ·rw [ho2] at hy
        obtain rfl:=Option.some.inj hy
        rw [cmpB_may hx0 hx0,vcmp_cmp.self];exact Int.le_refl _
   refine ⟨a,b,?_,fun y hy => ?_⟩
   ·rcases c with c | c
    ·exact .inl (by simp [c])
    ·rcases hs x c with ⟨rfl,_⟩ | h
     ·exact .inl q43_
     ·exact .inr h
   ·have step : (y = r ∧ r.f0 = p) ∨ o = some y → cmpB x y ≥ 0:=fun hy' => by
     obtain ⟨z,hz,hzy⟩:=hge y hy'
     have hxz:=d z (.inr hz)
     have my : mayB y = true:=by
      rcases hy' with ⟨rfl,_⟩ | h
      ·exact hmr
      ·exact (ho y h).2
     have mz:=(ho' z hz).2
     rw [cmpB_may b my]
     rw [cmpB_may b mz] at hxz
     rw [cmpB_may mz my] at hzy
     have e1:=vcmp_cmp.swap x z
     have e2:=vcmp_cmp.swap z y
     have e3:=vcmp_cmp.swap x y
     have:=vcmp_cmp.trans y z x q8_ q8_
     omega
    rcases hy with ⟨hy,hyp⟩ | hy
    ·rcases List.mem_cons.1 hy with rfl | hy
     ·exact step (.inl ⟨rfl,hyp⟩)
     ·exact d y (.inl ⟨hy,hyp⟩)
    ·exact step (.inr hy)
  ·obtain ⟨a,b⟩:=h2 h
   have hn : o = none ∧ r.f0 ≠ p:=by
    unfold stepB at a
    split at a
    ·split at a
     ·exact absurd a q43_
     ·split at a <;> exact absurd a q43_
    ·rename_i hs
     exact ⟨a,fun e => hs (sameP_iff.2 e)⟩
   exact ⟨hn.1,fun y hy => by
    rcases List.mem_cons.1 hy with rfl | hy
    ·exact hn.2
    ·exact b y hy⟩
def listOf (all : List Req) : List Req:=sortP (all.foldl takeL [])
theorem listOf_len (all : List Req) : (listOf all).length ≤ all.length:=by
 have h:=takes_length all []
 unfold listOf
 rw [(sortP_perm _).length_eq]
 rw [List.length_nil,Nat.zero_add] at h
 exact h
theorem mem_listOf {all : List Req} {r : Req} : r ∈ listOf all ↔ bestO r.f0 all = some r:=by
 have hp:=takes_paths all [] List.Pairwise.nil
 have hf:=find_takes r.f0 all []
 unfold listOf bestO
 rw [(sortP_perm _).mem_iff]
 rw [List.find?_nil] at hf
 rw [← hf]
 constructor
 ·intro h
  cases hfind : (all.foldl takeL []).find? (sameP r.f0) with
  | none =>
   have:=List.find?_eq_none.1 hfind r h
   exact absurd (sameP_iff.2 rfl) this
  | some x =>
   have hx:=List.mem_of_find?_eq_some hfind
   have hxr:=sameP_iff.1 (List.find?_some hfind)
   rw [path_inj hp hx h hxr]
 ·exact fun h => List.mem_of_find?_eq_some h
theorem listOf_strict (all : List Req) : (listOf all).Pairwise (fun a b => a.f0.data.toList < b.f0.data.toList):=by
 have hs : SortedR (listOf all):=sortP_sorted _
 have hp : (listOf all).Pairwise (fun x y => x.f0 ≠ y.f0):=by
  refine (sortP_perm _).symm.pairwise (takes_paths all [] List.Pairwise.nil) ?_
  exact fun h => Ne.symm h
 have:=hs.and hp
 refine this.imp ?_
 rintro a b ⟨h1,h2⟩
 by_cases h : a.f0.data.toList < b.f0.data.toList
 ·exact h
 ·exact absurd (bytes_inj (List.le_antisymm (List.not_lt.1 h1) (List.not_lt.1 h))) h2
def listL (root : List Req) (nodes : List Node) : List Req:=listOf (reachL root nodes)
theorem list_eq (root : List Req) (nodes : List Node) (hU : (univ root nodes).length ≤ 500000) : mvs_List.f root nodes = some (listL root nodes):=by
 have hi:=reachL_inv root nodes hU
 have hl:=hi.len
 have h2:=takes_length (reachL root nodes) []
 rw [List.length_nil,Nat.zero_add] at h2
 unfold mvs_List.f
 rw [reached_eq root nodes hU,Option.bind_some,eachP_eq _ _ (fun r hr => (hi.reach r hr).may),Option.bind_some,if_pos ⟨by omega,by omega⟩]
 rfl
theorem listL_spec {root : List Req} {nodes : List Node} (hU : (univ root nodes).length ≤ 500000) :
  (∀ y ∈ listL root nodes,Reach root nodes y ∧ ∀ x,Reach root nodes x → x.f0 = y.f0 → cmpB y x ≥ 0) ∧ (∀ x,Reach root nodes x → ∃ y ∈ listL root nodes,y.f0 = x.f0 ∧ cmpB y x ≥ 0):=by
 have hm : ∀ r ∈ reachL root nodes,mayB r = true:=fun r hr => ((mem_reachL hU).1 hr).may
 constructor
 ·intro y hy
  have hb:=mem_listOf.1 hy
  obtain ⟨_,_,h3,h4⟩:=(bestO_spec y.f0 _ hm none (fun x h => absurd h q43_)).1 y hb
  refine ⟨?_,fun x hx he => h4 x (.inl ⟨(mem_reachL hU).2 hx,he⟩)⟩
  rcases h3 with h3 | h3
  ·exact (mem_reachL hU).1 h3
  ·exact absurd h3 q43_
 ·intro x hx
  have hs:=bestO_spec x.f0 _ hm none (fun x h => absurd h q43_)
  cases hb : bestO x.f0 (reachL root nodes) with
  | none => exact absurd rfl ((hs.2 hb).2 x ((mem_reachL hU).2 hx))
  | some y =>
   obtain ⟨h1,_,h3,h4⟩:=hs.1 y hb
   refine ⟨y,mem_listOf.2 (h1 ▸ hb),h1,h4 x (.inl ⟨(mem_reachL hU).2 hx,rfl⟩)⟩
theorem listL_strict (root : List Req) (nodes : List Node) : (listL root nodes).Pairwise (fun a b => a.f0.data.toList < b.f0.data.toList):=listOf_strict _
end Go.Proofs.YtennhpoemdaghaaGreatDoor.P
end
section
namespace Go.Proofs.YtennhpoemdaghaaGreatDoor.P
open Go.RowKit Go.Proofs.YtennhpoemdaghaaGreatDoorW.PrintWords Go.Proofs.YtennhpoemdaghaaGreatDoorW.PrintLast Go.Proofs.YtennhpoemdaghaaGreatDoorW.PrintMore
def Lw17_own.l0 : Nat → List (S68) → List (S70) → Int → Option ((List (S70)))
 | 0,_,_,_ => none
 | k + 1,x0,x3,x4 => if x4 < (x0.length : Int) then (if 0 ≤ x4 then (if x3.length < 1466015503701 then (Lw17_own.l0 k x0 (x3 ++ [(⟨(⟨(rd_T68 x0 x4).f0.f0,(⟨(rd_T68 x0 x4).f0.f1.f0,(rd_T68 x0 x4).f0.f1.f1,(rd_T68 x0 x4).f0.f1.f2,(rd_T68 x0 x4).f0.f1.f3,(rd_T68 x0 x4).f0.f1.f4⟩ : S24)⟩ : S41),(rd_T68 x0 x4).f1⟩ : S70)]) (wrap64 (x4 + 1))) else (none)) else (none)) else (some x3)
def Lw17_own.f (k : Nat) (l0 : List (S68)) : Option ((List (S70))):=Lw17_own.l0 k l0 ([] : List (S70)) 0
set_option maxHeartbeats 8000000 in
set_option maxRecDepth 100000 in
theorem Lw17_own.calls (k : Nat) (P0_ : Nat → Prop) (A0 : Option Addr) (c0 : Nat) (l0 : List (S68)) (r : List (S70)) (w : World) (hs0 : Kd.V k68 68 w w.heap.size (fun k_ => P0_ k_) (.slice A0 l0.length c0) l0) (h : Lw17_own.f k l0 = some r) :
  Calls Tryz.prog 23 #[.slice A0 l0.length c0] w fun e w' => ∃ v0_ : Value,e = .returned (v0_) ∧ Kd.N k70 70 w' w.heap.size (fun k_ => (P0_ k_ ∨ w.heap.size ≤ k_)) v0_ r ∧ Below w.heap.size w w':=by
 have hu68:=Tryz.underlying68
 have HO0:=Aside0.mk (show Kd.V k68 68 w w.heap.size (fun k_ => (P0_ k_ ∨ w.heap.size ≤ k_)) (.slice A0 l0.length c0) l0 from Kd.V_mono hs0 (fun k_ hk => .inl hk))
 have HB:=Aside0.mk (Below.refl w.heap.size w)
 have H : (Lw17_own.l0 k l0 ([] : List (S70)) 0) = some r:=h
 clear h
 have H':=Aside0.mk H
 clear H
 go_enter Tryz.func23,Tryz.ntmps23
 go_wp2
 go_loopg [3,4] k (fun kq v3 v4 w' => ∃ (x3_1 : List (S70)) (x4_1 : Int),v4 = .int .i64 x4_1 ∧ Aside0 (Lw17_own.l0 kq l0 x3_1 x4_1 = some r) ∧ Aside0 (kq ≤ k) ∧ Aside0 (Kd.V k68 68 w' w.heap.size (fun k_ => (P0_ k_ ∨ w.heap.size ≤ k_) ∧ some k_ ≠ (v3 : Value).ownBlock) (.slice A0 l0.length c0) l0) ∧ Aside0 (Kd.N k70 70 w' w.heap.size (fun k_ => (P0_ k_ ∨ w.heap.size ≤ k_)) v3 x3_1) ∧ Aside0 (Below w.heap.size w w'))
 case atStart => exact ⟨(([] : List (S70))),(0),q5_,H',⟨Nat.le_refl _⟩,⟨by (with_reducible repeat (first | apply Kd.V_alloc | apply Kd.V_drewN | apply Kd.V_drew));exact Kd.V_mono HO0.out (fun _ hk => ⟨hk,(by simp [Value.ownBlock])⟩)⟩,⟨by first | exact Kd.S_nil _ _ _ _ _ | exact Kd.N_nil _ _ _ _ _ | exact Kd.V_nil _ _ _ _ _ | exact Kd.Q_nil _ _ _ _ _ | exact Kd.R_nil _ _ _ _ _⟩,⟨by repeat (first | (with_reducible first | exact HB.out | apply below_alloc | apply pw_below_drewN | apply below_drew1) | exact HB.out)⟩⟩
 case round =>
  clear H'
  obtain ⟨x3_1,x4_1,rfl,HA,HK1,HO_0,HO_3,HB⟩:=hrel
  cases gk with
  | zero => exact absurd HA.out (by simp [Lw17_own.l0])
  | succ k1 =>
   have H:=HA.out
   clear HA
   simp only [Lw17_own.l0] at H
   by_cases c2 : x4_1 < (l0.length : Int)
   ·rw [if_pos c2] at H
    have c2b0:=decide_eq_true c2
    clear c2
    by_cases c3 : 0 ≤ x4_1
    ·rw [if_pos c3] at H
     have c3b0:=decide_eq_true c3
     clear c3
     by_cases c4 : x3_1.length < 1466015503701
     ·rw [if_pos c4] at H
      have LMc4:=Aside0.mk c4
      clear c4
      obtain ⟨y102,hy102⟩ : ∃ y_ : List (S70),y_ = (x3_1 ++ [(⟨(⟨(rd_T68 l0 x4_1).f0.f0,(⟨(rd_T68 l0 x4_1).f0.f1.f0,(rd_T68 l0 x4_1).f0.f1.f1,(rd_T68 l0 x4_1).f0.f1.f2,(rd_T68 l0 x4_1).f0.f1.f3,(rd_T68 l0 x4_1).f0.f1.f4⟩ : S24)⟩ : S41),(rd_T68 l0 x4_1).f1⟩ : S70)]):=⟨_,rfl⟩
      replace H : (Lw17_own.l0 k1 l0 y102 (wrap64 (x4_1 + 1))) = some r:=by first | (rw [hy102];with_reducible exact H) | (have H2_:=(Option.bind_some _ _).symm.trans H;rw [hy102];with_reducible exact H2_) | (have H2_:=(Option.bind_some _ _).symm.trans H;with_reducible exact H2_) | with_reducible exact H | (rw [hy102];exact H) | exact H
      have Ny102:=Aside0.mk hy102
      clear hy102
      have H':=Aside0.mk H
      clear H
      have p101 : 0 ≤ (x4_1 : Int):=of_decide_eq_true q1_
      have q101 : x4_1 < (l0.length : Int):=of_decide_eq_true q1_
      obtain ⟨ad101,A101_6,c101_6,e101,hx101_0,hx101_1,hx101_2,hx101_3,hx101_4,hx101_5,hx101_6,hl101_6,hi101_6⟩:=at_T68 (Kd.V_reads' HO_0.out).2.2 x4_1 p101 q101
      cases e101
      obtain ⟨ce101,hce101,hMe101,hcc101⟩:=Kd.V_get HO_0.out z68 x4_1 p101 (by first | exact q101 | exact of_decide_eq_true q1_ | (have e_:=(Kd.V_reads' HO_0.out).1;omega))
      obtain ⟨ua101_6,uc101_6,rfl,ul101_6,ge101_6⟩:=k68_openF hMe101
      have hv101_6:=hcc101 6 _ rfl
      rw [add_field _ _ 6 q8_] at hv101_6
      replace hv101_6:=Option.some.inj (hv101_6.symm.trans hx101_6)
      injection hv101_6 with hva_ hvn_ hvc_
      rw [hva_] at ge101_6
      rw [hvc_] at ul101_6
      have HL101_6:=Aside0.mk (show Kd.V k41 41 _ w.heap.size _ _ ((rd_T68 l0 x4_1).f1) from Kd.V_mk ul101_6 ge101_6)
      clear hva_ hvn_ hvc_ ge101_6 ul101_6
      clear hcc101 hce101
      have HR101_6:=Aside0.mk hi101_6
      have HC101_6:=Aside0.mk hl101_6
      clear hi101_6 hl101_6
      replace p101:=eq_true p101
      replace q101:=eq_true q101
      go_wp2_with (first | ((with_reducible refine gate_builtin (b:=.append) (xs:=#[.tmp 11,.tmp 16]) rfl ?_);at_builtin;refine Kd.N_append k70 (w0:=w) w.heap.size rfl (.tmp 11) (.tmp 16) 43 70 (.agg #[(.string ⟨#[]⟩),(.int .i64 0),(.int .i64 0),(.int .i64 0),(.string ⟨#[]⟩),(.string ⟨#[]⟩),(.slice none 0 0)]) 96 rfl Tryz.underlying43 info70 rfl q37_ q8_ u3 x3_1 (⟨(⟨(rd_T68 l0 x4_1).f0.f0,(⟨(rd_T68 l0 x4_1).f0.f1.f0,(rd_T68 l0 x4_1).f0.f1.f1,(rd_T68 l0 x4_1).f0.f1.f2,(rd_T68 l0 x4_1).f0.f1.f3,(rd_T68 l0 x4_1).f0.f1.f4⟩ : S24)⟩ : S41),(rd_T68 l0 x4_1).f1⟩ : S70) [.string ((rd_T68 l0 x4_1).f0.f0),.int .i64 ((rd_T68 l0 x4_1).f0.f1.f0),.int .i64 ((rd_T68 l0 x4_1).f0.f1.f1),.int .i64 ((rd_T68 l0 x4_1).f0.f1.f2),.string ((rd_T68 l0 x4_1).f0.f1.f3),.string ((rd_T68 l0 x4_1).f0.f1.f4),.slice A101_6 ((rd_T68 l0 x4_1).f1).length c101_6] (fun k_ => (P0_ k_ ∨ w.heap.size ≤ k_)) (fun k_ => ((fun k_ => (P0_ k_ ∨ w.heap.size ≤ k_))) k_ ∧ some k_ ≠ (u3 : Value).ownBlock) rfl rfl ?aP (fun _ hk => hk) ?aF ?aO ?aB ?aS ?aL ?_;(case aP => exact (k70_mkF _ _ (⟨(⟨(rd_T68 l0 x4_1).f0.f0,(⟨(rd_T68 l0 x4_1).f0.f1.f0,(rd_T68 l0 x4_1).f0.f1.f1,(rd_T68 l0 x4_1).f0.f1.f2,(rd_T68 l0 x4_1).f0.f1.f3,(rd_T68 l0 x4_1).f0.f1.f4⟩ : S24)⟩ : S41),(rd_T68 l0 x4_1).f1⟩ : S70) (Kd.V_reads' (Kd.V_mono (ok':=(fun k_ => ((fun k_ => (P0_ k_ ∨ w.heap.size ≤ k_))) k_ ∧ some k_ ≠ (u3 : Value).ownBlock)) (HL101_6.out) (fun k_ hk => ⟨hk.1,hk.2⟩))).2.1 (Kd.V_F (Kd.V_mono (ok':=(fun k_ => ((fun k_ => (P0_ k_ ∨ w.heap.size ≤ k_))) k_ ∧ some k_ ≠ (u3 : Value).ownBlock)) (HL101_6.out) (fun k_ hk => ⟨hk.1,hk.2⟩)))));(case aB => exact bh_);(case aF => exact (fun k_ hk => (.inr (Nat.le_trans (below_size bh_) hk))));(case aO => exact (by (with_reducible repeat (first | apply Kd.N_alloc | apply Kd.N_drewN | apply Kd.N_drew));exact HO_3.out));(case aS => exact (below_size bh_));(case aL => have:=LMc4.out;omega);intro v103 w5 ho hb hg hat;rw [← Ny102.out] at ho;replace HO_0:=Aside0.mk (Kd.V_afterv (ok:=(fun k_ => (P0_ k_ ∨ w.heap.size ≤ k_))) (by (with_reducible repeat (first | apply Kd.V_alloc | apply Kd.V_drewN | apply Kd.V_drew));exact HO_0.out) hg hat);replace HL101_6:=Aside0.mk (Kd.V_afterv (ok:=(fun k_ => (P0_ k_ ∨ w.heap.size ≤ k_))) (by (with_reducible repeat (first | apply Kd.V_alloc | apply Kd.V_drewN | apply Kd.V_drew));exact HL101_6.out) hg hat);replace HB:=Aside0.mk (hb);have HO104:=Aside0.mk (ho);clear HO_3;clear ho hb hg hat))
      go_roundg k1
      case measure => have:=HK1.out;omega
      case rel => exact ⟨(y102),(wrap64 (x4_1 + 1)),q5_,H',⟨by have:=HK1.out;omega⟩,⟨by (with_reducible repeat (first | apply Kd.V_alloc | apply Kd.V_drewN | apply Kd.V_drew));exact HO_0.out⟩,⟨by (with_reducible repeat (first | apply Kd.N_alloc | apply Kd.N_drewN | apply Kd.N_drew));exact HO104.out⟩,⟨by repeat (first | (with_reducible first | exact HB.out | apply below_alloc | apply pw_below_drewN | apply below_drew1) | exact HB.out)⟩⟩
     ·rw [if_neg c4] at H
      exact absurd H q43_
    ·rw [if_neg c3] at H
     exact absurd H q43_
   ·rw [if_neg c2] at H
    have c2b0:=decide_eq_false c2
    clear c2
    obtain rfl:=Option.some.inj H
    go_wp2
    go_ret
    exact ⟨_,by first | rfl | (simp [] <;> rfl) | (simp [*] <;> rfl) | (simp [bne_nil_];done) | (simp [*,bne_nil_];done),by (with_reducible repeat (first | apply Kd.N_alloc | apply Kd.N_drewN | apply Kd.N_drew));exact HO_3.out,by repeat (first | (with_reducible first | exact HB.out | apply below_alloc | apply pw_below_drewN | apply below_drew1) | exact HB.out)⟩
def Lw17_covers.l0 : Nat → List (S41) → Int → ByteArray → Int → Int → Int → ByteArray → ByteArray → Option (Bool)
 | 0,_,_,_,_,_,_,_,_ => none
 | k + 1,x0,x5,x102000,x102001,x102002,x102003,x102004,x102005 => if x5 < (x0.length : Int) then (if 0 ≤ x5 then (if ((rd_T41 x0 x5).f0).toList = x102000.toList then ((Rf07_Compare.f k ((rd_T41 x0 x5).f1.f0) ((rd_T41 x0 x5).f1.f1) ((rd_T41 x0 x5).f1.f2) ((rd_T41 x0 x5).f1.f3) ((rd_T41 x0 x5).f1.f4) x102001 x102002 x102003 x102004 x102005).bind fun t104 => (some (decide (t104 ≥ 0)))) else (Lw17_covers.l0 k x0 (wrap64 (x5 + 1)) x102000 x102001 x102002 x102003 x102004 x102005)) else (none)) else (some false)
def Lw17_covers.f (k : Nat) (l0 : List (S41)) (a1_0 : ByteArray) (a1_1 : Int) (a1_2 : Int) (a1_3 : Int) (a1_4 : ByteArray) (a1_5 : ByteArray) : Option (Bool):=Lw17_covers.l0 k l0 0 a1_0 a1_1 a1_2 a1_3 a1_4 a1_5
def Lw17_covers.T4 : Bool × List (List Nat × List Nat):=(true,[([],[]),([],[]),([0,1],[0,1]),([2],[2]),([3],[3]),([],[]),([5],[5]),([4,6],[4,6])])
def Lw17_covers.B4 : List Nat:=[0,0,3,7,15,0,32,127]
theorem Lw17_covers.tab4 : rtab .any (opsOf Tryz.f34 4) = Lw17_covers.T4:=by kernel_rfl
theorem Lw17_covers.bits4 : waitsOk Lw17_covers.T4.2 Lw17_covers.B4 = true:=by kernel_rfl
def Lw17_covers.T5 : Bool × List (List Nat × List Nat):=(true,[([],[]),([],[]),([0,1],[0,1]),([2],[2]),([3],[3]),([],[]),([5],[5]),([4,6],[4,6]),([7],[7]),([8,7,0,1,2,3,4,5,6,7,8],[8])])
def Lw17_covers.B5 : List Nat:=[0,0,3,7,15,0,32,127,255,511]
theorem Lw17_covers.tab5 : rtab .any (opsOf Tryz.f34 5) = Lw17_covers.T5:=by kernel_rfl
theorem Lw17_covers.bits5 : waitsOk Lw17_covers.T5.2 Lw17_covers.B5 = true:=by kernel_rfl
set_option maxHeartbeats 8000000 in
set_option maxRecDepth 100000 in
theorem Lw17_covers.calls (k : Nat) (A0 : Option Addr) (c0 : Nat) (l0 : List (S41)) (a1_0 : ByteArray) (a1_1 : Int) (a1_2 : Int) (a1_3 : Int) (a1_4 : ByteArray) (a1_5 : ByteArray) (r : Bool) (w : World) (hr0 : Kd.C k41 w A0 l0.length l0) (hc0 : l0.length ≤ c0) (h : Lw17_covers.f k l0 a1_0 a1_1 a1_2 a1_3 a1_4 a1_5 = some r) :
  Calls Tryz.prog 34 #[.slice A0 l0.length c0,.agg #[.string a1_0,.int .i64 a1_1,.int .i64 a1_2,.int .i64 a1_3,.string a1_4,.string a1_5]] w fun e w' => e = .returned (.bool r) ∧ Below w.heap.size w w':=by
 have hu41:=Tryz.underlying41
 have hu24:=Tryz.underlying24
 have HR0:=Aside0.mk hr0
 have HC0:=Aside0.mk hc0
 clear hr0 hc0
 have HB:=Aside0.mk (Below.refl w.heap.size w)
 have H : (Lw17_covers.l0 k l0 0 a1_0 a1_1 a1_2 a1_3 a1_4 a1_5) = some r:=h
 clear h
 have H':=Aside0.mk H
 clear H
 go_enter Tryz.func34,Tryz.ntmps34
 go_wp2_with (first | ((with_reducible refine gate_dst (N:=3) rfl ?_);refine bx_ 3 41 #[.string a1_0,.int .i64 a1_1,.int .i64 a1_2,.int .i64 a1_3,.string a1_4,.string a1_5] ?_;intro gb101 hg w3 hbox hb;have BK101:=Aside0.mk (hbox);have GW101:=Aside0.mk ((q20_ : w.heap.size ≤ gb101));have GE101:=Aside0.mk ((q20_ : w.heap.size ≤ gb101));replace HB:=Aside0.mk (below_step bh_ hb);clear hb hbox hg))
 go_loopg [5] k (fun kq v5 w' => ∃ (x5_1 : Int),v5 = .int .i64 x5_1 ∧ Aside0 (Lw17_covers.l0 kq l0 x5_1 a1_0 a1_1 a1_2 a1_3 a1_4 a1_5 = some r) ∧ Aside0 (kq ≤ k) ∧ Aside0 (w'.heap[gb101]? = some (.cells #[.string a1_0,.int .i64 a1_1,.int .i64 a1_2,.int .i64 a1_3,.string a1_4,.string a1_5] 41 (0,0))) ∧ Aside0 (Below w.heap.size w w'))
 case atStart => exact ⟨(0),q5_,H',⟨Nat.le_refl _⟩,⟨by (with_reducible repeat (first | refine blk_drewN ?_ _ | refine blk_drew ?_ | refine blk_alloc ?_ _));exact BK101.out⟩,⟨by repeat (first | (with_reducible first | exact HB.out | apply below_alloc | apply pw_below_drewN | apply below_drew1 | refine below_set ?_ GE101.out) | exact HB.out)⟩⟩
 case round =>
  clear H'
  try clear p2
  try clear c3
  obtain ⟨x5_1,rfl,HA,HK1,BK101,HB⟩:=hrel
  cases gk with
  | zero => exact absurd HA.out (by simp [Lw17_covers.l0])
  | succ k1 =>
   have H:=HA.out
   clear HA
   simp only [Lw17_covers.l0] at H
   by_cases c4 : x5_1 < (l0.length : Int)
   ·rw [if_pos c4] at H
    have c4b0:=decide_eq_true c4
    clear c4
    by_cases c5 : 0 ≤ x5_1
    ·rw [if_pos c5] at H
     have c5b0:=decide_eq_true c5
     clear c5
     by_cases c6 : ((rd_T41 l0 x5_1).f0).toList = a1_0.toList
     ·rw [if_pos c6] at H
      have c6b0:=beq_iff_eq.mpr c6
      have c6b1:=bne_eq_false_iff_eq.mpr c6
      clear c6
      obtain ⟨t104,A70,H⟩:=Option.bind_eq_some_iff.mp H
      have A7:=Aside0.mk A70
      clear A70
      obtain rfl:=Option.some.inj H
      try go_wp2
      replace BK101:=Aside0.mk (blk_drew BK101.out)
      replace HB:=Aside0.mk (below_drew1 HB.out)
      have p102 : 0 ≤ (x5_1 : Int):=of_decide_eq_true q1_
      have q102 : x5_1 < (l0.length : Int):=of_decide_eq_true q1_
      obtain ⟨ad102,e102,hx102_0,hx102_1,hx102_2,hx102_3,hx102_4,hx102_5⟩:=at_T41 HR0.out x5_1 p102 q102
      have hw102_5:=hx102_5
      have hw102_4:=hx102_4
      have hw102_3:=hx102_3
      have hw102_2:=hx102_2
      have hw102_1:=hx102_1
      have hw102_0:=hx102_0
      cases e102
      replace hx102_0:=cl_ HB.out hx102_0
      replace hx102_1:=cl_ HB.out hx102_1
      replace hx102_2:=cl_ HB.out hx102_2
      replace hx102_3:=cl_ HB.out hx102_3
      replace hx102_4:=cl_ HB.out hx102_4
      replace hx102_5:=cl_ HB.out hx102_5
      replace p102:=eq_true p102
      replace q102:=eq_true q102
      refine start_ (n:=8) (S:=fun w' => w'.cell? ⟨gb101,0,none⟩ = some (.string a1_0) ∧ w'.cell? ⟨gb101,1,none⟩ = some (.int .i64 a1_1) ∧ w'.cell? ⟨gb101,2,none⟩ = some (.int .i64 a1_2) ∧ w'.cell? ⟨gb101,3,none⟩ = some (.int .i64 a1_3) ∧ w'.cell? ⟨gb101,4,none⟩ = some (.string a1_4) ∧ w'.cell? ⟨gb101,5,none⟩ = some (.string a1_5) ∧ w'.cell? (ad102.add ((x5_1).toNat * 6)) = some (.string ((rd_T41 l0 x5_1).f0)) ∧ w'.cell? ⟨(ad102.add ((x5_1).toNat * 6)).block,(ad102.add ((x5_1).toNat * 6)).off + 1,none⟩ = some (.int .i64 ((rd_T41 l0 x5_1).f1.f0)) ∧ w'.cell? ⟨(ad102.add ((x5_1).toNat * 6)).block,(ad102.add ((x5_1).toNat * 6)).off + 2,none⟩ = some (.int .i64 ((rd_T41 l0 x5_1).f1.f1)) ∧ w'.cell? ⟨(ad102.add ((x5_1).toNat * 6)).block,(ad102.add ((x5_1).toNat * 6)).off + 3,none⟩ = some (.int .i64 ((rd_T41 l0 x5_1).f1.f2)) ∧ w'.cell? ⟨(ad102.add ((x5_1).toNat * 6)).block,(ad102.add ((x5_1).toNat * 6)).off + 4,none⟩ = some (.string ((rd_T41 l0 x5_1).f1.f3)) ∧ w'.cell? ⟨(ad102.add ((x5_1).toNat * 6)).block,(ad102.add ((x5_1).toNat * 6)).off + 5,none⟩ = some (.string ((rd_T41 l0 x5_1).f1.f4))) (ds:=[]) #[false,false,false,false,false,false,false,false] q11_ rfl rfl ⟨(blk_cell BK101.out 0).trans rfl,(blk_cell BK101.out 1).trans rfl,(blk_cell BK101.out 2).trans rfl,(blk_cell BK101.out 3).trans rfl,(blk_cell BK101.out 4).trans rfl,(blk_cell BK101.out 5).trans rfl,(cl_ HB.out hw102_0),(cl_ HB.out hw102_1),(cl_ HB.out hw102_2),(cl_ HB.out hw102_3),(cl_ HB.out hw102_4),(cl_ HB.out hw102_5)⟩ (fun hHeld => ?_);refine with_tabW Lw17_covers.tab4 Lw17_covers.bits4 (fun HT_ HW_ => ?_)
      generalize wr.drew = w8 at BK101 HB hx102_0 hx102_1 hx102_2 hx102_3 hx102_4 hx102_5 hHeld ⊢
      refine pu_ 0 12 ?_
      refine pu_ 1 13 ?_
      refine pu_ 2 14 ?_
      refine pu_ 3 15 ?_
      refine pu_ 5 17 ?_
      refine tk_ 4 16 hHeld ?_
      refine tk_ 6 18 hHeld ?_
      refine pu_ 7 19 ?_
      refine done_ (done_of HT_.out q11_) ?_
      try go_wp2
      replace BK101:=Aside0.mk (blk_drew BK101.out)
      replace HB:=Aside0.mk (below_drew1 HB.out)
      have p103 : 0 ≤ (x5_1 : Int):=of_decide_eq_true q1_
      have q103 : x5_1 < (l0.length : Int):=of_decide_eq_true q1_
      obtain ⟨ad103,e103,hx103_0,hx103_1,hx103_2,hx103_3,hx103_4,hx103_5⟩:=at_T41 HR0.out x5_1 p103 q103
      have hw103_5:=hx103_5
      have hw103_4:=hx103_4
      have hw103_3:=hx103_3
      have hw103_2:=hx103_2
      have hw103_1:=hx103_1
      have hw103_0:=hx103_0
      obtain rfl : ad102 = ad103:=(by injection e103)
      replace hx103_0:=cl_ HB.out hx103_0
      replace hx103_1:=cl_ HB.out hx103_1
      replace hx103_2:=cl_ HB.out hx103_2
      replace hx103_3:=cl_ HB.out hx103_3
      replace hx103_4:=cl_ HB.out hx103_4
      replace hx103_5:=cl_ HB.out hx103_5
      replace p103:=eq_true p103
      replace q103:=eq_true q103
      refine start_ (n:=10) (S:=fun w' => w'.cell? ⟨gb101,0,none⟩ = some (.string a1_0) ∧ w'.cell? ⟨gb101,1,none⟩ = some (.int .i64 a1_1) ∧ w'.cell? ⟨gb101,2,none⟩ = some (.int .i64 a1_2) ∧ w'.cell? ⟨gb101,3,none⟩ = some (.int .i64 a1_3) ∧ w'.cell? ⟨gb101,4,none⟩ = some (.string a1_4) ∧ w'.cell? ⟨gb101,5,none⟩ = some (.string a1_5) ∧ w'.cell? (ad102.add ((x5_1).toNat * 6)) = some (.string ((rd_T41 l0 x5_1).f0)) ∧ w'.cell? ⟨(ad102.add ((x5_1).toNat * 6)).block,(ad102.add ((x5_1).toNat * 6)).off + 1,none⟩ = some (.int .i64 ((rd_T41 l0 x5_1).f1.f0)) ∧ w'.cell? ⟨(ad102.add ((x5_1).toNat * 6)).block,(ad102.add ((x5_1).toNat * 6)).off + 2,none⟩ = some (.int .i64 ((rd_T41 l0 x5_1).f1.f1)) ∧ w'.cell? ⟨(ad102.add ((x5_1).toNat * 6)).block,(ad102.add ((x5_1).toNat * 6)).off + 3,none⟩ = some (.int .i64 ((rd_T41 l0 x5_1).f1.f2)) ∧ w'.cell? ⟨(ad102.add ((x5_1).toNat * 6)).block,(ad102.add ((x5_1).toNat * 6)).off + 4,none⟩ = some (.string ((rd_T41 l0 x5_1).f1.f3)) ∧ w'.cell? ⟨(ad102.add ((x5_1).toNat * 6)).block,(ad102.add ((x5_1).toNat * 6)).off + 5,none⟩ = some (.string ((rd_T41 l0 x5_1).f1.f4))) (ds:=[]) #[false,false,false,false,false,false,false,false,false,false] q11_ rfl rfl ⟨(blk_cell BK101.out 0).trans rfl,(blk_cell BK101.out 1).trans rfl,(blk_cell BK101.out 2).trans rfl,(blk_cell BK101.out 3).trans rfl,(blk_cell BK101.out 4).trans rfl,(blk_cell BK101.out 5).trans rfl,(cl_ HB.out hw103_0),(cl_ HB.out hw103_1),(cl_ HB.out hw103_2),(cl_ HB.out hw103_3),(cl_ HB.out hw103_4),(cl_ HB.out hw103_5)⟩ (fun hHeld => ?_);refine with_tabW Lw17_covers.tab5 Lw17_covers.bits5 (fun HT_ HW_ => ?_)
      generalize w8.drew = w9 at BK101 HB hx103_0 hx103_1 hx103_2 hx103_3 hx103_4 hx103_5 hHeld ⊢
      refine pu_ 0 20 ?_
      refine pu_ 1 21 ?_
      refine pu_ 2 22 ?_
      refine pu_ 3 23 ?_
      refine pu_ 5 25 ?_
      refine tk_ 4 24 hHeld ?_
      refine tk_ 6 26 hHeld ?_
      refine one_ (i:=7) (N:=some 27) #[true,true,true,true,true,true,true,true,false,false] rfl rfl (one_of HT_.out q11_) q37_ (fun K hK => ?_)
      refine goes_ Tryz.func36 q11_ rfl #[.agg #[.int .i64 ((rd_T41 l0 x5_1).f1.f0),.int .i64 ((rd_T41 l0 x5_1).f1.f1),.int .i64 ((rd_T41 l0 x5_1).f1.f2),.string ((rd_T41 l0 x5_1).f1.f3),.string ((rd_T41 l0 x5_1).f1.f4)],.agg #[.int .i64 a1_1,.int .i64 a1_2,.int .i64 a1_3,.string a1_4,.string a1_5]] q45_ rfl rfl q21_ ?_
      with_reducible refine (Rf07_Compare.calls k1 ((rd_T41 l0 x5_1).f1.f0) ((rd_T41 l0 x5_1).f1.f1) ((rd_T41 l0 x5_1).f1.f2) ((rd_T41 l0 x5_1).f1.f3) ((rd_T41 l0 x5_1).f1.f4) a1_1 a1_2 a1_3 a1_4 a1_5 t104 _ A7.out).mono ?_
      rintro e w10 ⟨rfl,hb⟩
      refine ⟨_,rfl,?_⟩
      replace BK101:=Aside0.mk (blk_below bk101_ hb)
      replace HB:=Aside0.mk (below_step bh_ hb)
      (try clear hb)
      refine hK.out _ _ ⟨(blk_cell BK101.out 0).trans rfl,(blk_cell BK101.out 1).trans rfl,(blk_cell BK101.out 2).trans rfl,(blk_cell BK101.out 3).trans rfl,(blk_cell BK101.out 4).trans rfl,(blk_cell BK101.out 5).trans rfl,(cl_ HB.out hw103_0),(cl_ HB.out hw103_1),(cl_ HB.out hw103_2),(cl_ HB.out hw103_3),(cl_ HB.out hw103_4),(cl_ HB.out hw103_5)⟩ (fun hHeld => ?_)
      clear hK K
      refine norm_ (a':=?_) ?_ ?_
      rotate_left
      ·show Act.put _ (some 27) _ = _
       simp only [Act.put,List.setIfInBounds_toArray,List.set_cons_zero,List.set_cons_succ]
       rfl
      refine pu_ 8 28 ?_
      refine pu_ 9 4 ?_
      refine done_ (done_of HT_.out q11_) ?_
      try go_wp2
      go_ret
      exact ⟨q2_,bh_⟩
     ·rw [if_neg c6] at H
      have c6b0:=beq_eq_false_iff_ne.mpr c6
      have c6b1:=bne_iff_ne.mpr c6
      have H':=Aside0.mk H
      clear H
      try go_wp2
      replace BK101:=Aside0.mk (blk_drew BK101.out)
      replace HB:=Aside0.mk (below_drew1 HB.out)
      have p102 : 0 ≤ (x5_1 : Int):=of_decide_eq_true q1_
      have q102 : x5_1 < (l0.length : Int):=of_decide_eq_true q1_
      obtain ⟨ad102,e102,hx102_0,hx102_1,hx102_2,hx102_3,hx102_4,hx102_5⟩:=at_T41 HR0.out x5_1 p102 q102
      have hw102_5:=hx102_5
      have hw102_4:=hx102_4
      have hw102_3:=hx102_3
      have hw102_2:=hx102_2
      have hw102_1:=hx102_1
      have hw102_0:=hx102_0
      cases e102
      replace hx102_0:=cl_ HB.out hx102_0
      replace hx102_1:=cl_ HB.out hx102_1
      replace hx102_2:=cl_ HB.out hx102_2
      replace hx102_3:=cl_ HB.out hx102_3
      replace hx102_4:=cl_ HB.out hx102_4
      replace hx102_5:=cl_ HB.out hx102_5
      replace p102:=eq_true p102
      replace q102:=eq_true q102
      refine start_ (n:=8) (S:=fun w' => w'.cell? ⟨gb101,0,none⟩ = some (.string a1_0) ∧ w'.cell? ⟨gb101,1,none⟩ = some (.int .i64 a1_1) ∧ w'.cell? ⟨gb101,2,none⟩ = some (.int .i64 a1_2) ∧ w'.cell? ⟨gb101,3,none⟩ = some (.int .i64 a1_3) ∧ w'.cell? ⟨gb101,4,none⟩ = some (.string a1_4) ∧ w'.cell? ⟨gb101,5,none⟩ = some (.string a1_5) ∧ w'.cell? (ad102.add ((x5_1).toNat * 6)) = some (.string ((rd_T41 l0 x5_1).f0)) ∧ w'.cell? ⟨(ad102.add ((x5_1).toNat * 6)).block,(ad102.add ((x5_1).toNat * 6)).off + 1,none⟩ = some (.int .i64 ((rd_T41 l0 x5_1).f1.f0)) ∧ w'.cell? ⟨(ad102.add ((x5_1).toNat * 6)).block,(ad102.add ((x5_1).toNat * 6)).off + 2,none⟩ = some (.int .i64 ((rd_T41 l0 x5_1).f1.f1)) ∧ w'.cell? ⟨(ad102.add ((x5_1).toNat * 6)).block,(ad102.add ((x5_1).toNat * 6)).off + 3,none⟩ = some (.int .i64 ((rd_T41 l0 x5_1).f1.f2)) ∧ w'.cell? ⟨(ad102.add ((x5_1).toNat * 6)).block,(ad102.add ((x5_1).toNat * 6)).off + 4,none⟩ = some (.string ((rd_T41 l0 x5_1).f1.f3)) ∧ w'.cell? ⟨(ad102.add ((x5_1).toNat * 6)).block,(ad102.add ((x5_1).toNat * 6)).off + 5,none⟩ = some (.string ((rd_T41 l0 x5_1).f1.f4))) (ds:=[]) #[false,false,false,false,false,false,false,false] q11_ rfl rfl ⟨(blk_cell BK101.out 0).trans rfl,(blk_cell BK101.out 1).trans rfl,(blk_cell BK101.out 2).trans rfl,(blk_cell BK101.out 3).trans rfl,(blk_cell BK101.out 4).trans rfl,(blk_cell BK101.out 5).trans rfl,(cl_ HB.out hw102_0),(cl_ HB.out hw102_1),(cl_ HB.out hw102_2),(cl_ HB.out hw102_3),(cl_ HB.out hw102_4),(cl_ HB.out hw102_5)⟩ (fun hHeld => ?_);refine with_tabW Lw17_covers.tab4 Lw17_covers.bits4 (fun HT_ HW_ => ?_)
      generalize wr.drew = w11 at BK101 HB hx102_0 hx102_1 hx102_2 hx102_3 hx102_4 hx102_5 hHeld ⊢
      refine pu_ 0 12 ?_
      refine pu_ 1 13 ?_
      refine pu_ 2 14 ?_
      refine pu_ 3 15 ?_
      refine pu_ 5 17 ?_
      refine tk_ 4 16 hHeld ?_
      refine tk_ 6 18 hHeld ?_
      refine pu_ 7 19 ?_
      refine done_ (done_of HT_.out q11_) ?_
      try go_wp2
      go_roundg k1
      case measure => have:=HK1.out;omega
      case rel => exact ⟨(wrap64 (x5_1 + 1)),q5_,H',⟨by have:=HK1.out;omega⟩,⟨by (with_reducible repeat (first | refine blk_drewN ?_ _ | refine blk_drew ?_ | refine blk_alloc ?_ _));exact BK101.out⟩,⟨by repeat (first | (with_reducible first | exact HB.out | apply below_alloc | apply pw_below_drewN | apply below_drew1 | refine below_set ?_ GE101.out) | exact HB.out)⟩⟩
    ·rw [if_neg c5] at H
     exact absurd H q43_
   ·rw [if_neg c4] at H
    have c4b0:=decide_eq_false c4
    clear c4
    obtain rfl:=Option.some.inj H
    go_wp2
    go_ret
    exact ⟨q2_,bh_⟩
end Go.Proofs.YtennhpoemdaghaaGreatDoor.P
end
section

end
section
namespace Go.Proofs.YtennhpoemdaghaaGreatDoor.P
open Go.RowKit Go.Proofs.YtennhpoemdaghaaGreatDoorW.PrintWords Go.Proofs.YtennhpoemdaghaaGreatDoorW.PrintLast Go.Proofs.YtennhpoemdaghaaGreatDoorW.PrintMore
attribute [local go_sem high] eqA41
def Rf17_Same.l0 : Nat → List (S41) → List (S41) → Int → Option (Bool)
 | 0,_,_,_ => none
 | k + 1,x0,x1,x5 => if x5 < (x0.length : Int) then (if 0 ≤ x5 then (if x5 < (x1.length : Int) then (if (!((((rd_T41 x0 x5).f0).toList) == (((rd_T41 x1 x5).f0).toList)) || ((!(((rd_T41 x0 x5).f1.f0) == ((rd_T41 x1 x5).f1.f0)) || (!(((rd_T41 x0 x5).f1.f1) == ((rd_T41 x1 x5).f1.f1)) || (!(((rd_T41 x0 x5).f1.f2) == ((rd_T41 x1 x5).f1.f2)) || (!((((rd_T41 x0 x5).f1.f3).toList) == (((rd_T41 x1 x5).f1.f3).toList)) || (!((((rd_T41 x0 x5).f1.f4).toList) == (((rd_T41 x1 x5).f1.f4).toList))))))))) = true then (some false) else (Rf17_Same.l0 k x0 x1 (wrap64 (x5 + 1)))) else (none)) else (none)) else (some true)
def Rf17_Same.f (k : Nat) (l0 : List (S41)) (l1 : List (S41)) : Option (Bool):=if (l0.length : Int) = (l1.length : Int) then (Rf17_Same.l0 k l0 l1 0) else (some false)
theorem Rf17_Same.mono_l : ∀ k,(∀ y0 y1 y2,LeO (Rf17_Same.l0 k y0 y1 y2) (Rf17_Same.l0 (k + 1) y0 y1 y2))
 | 0 => fun _ _ _ r h => by simp [Rf17_Same.l0] at h
 | k + 1 => by
  have ih0:=Rf17_Same.mono_l k
  ·intro y0 y1 y2
   unfold Rf17_Same.l0
   repeat' first
   | (with_reducible exact ih0 _ _ _)
   | (with_reducible exact LeO.refl _)
   | (with_reducible exact LeO.none _)
   | (with_reducible refine LeO.ite ?_ ?_)
   | (with_reducible refine LeO.bind ?_ (fun _ => ?_))
   | exact ih0 _ _ _
   | exact LeO.none _
   | refine LeO.ite ?_ ?_
   | refine LeO.bind ?_ (fun _ => ?_)
theorem Rf17_Same.mono : ∀ a0 a1 k,LeO (Rf17_Same.f k a0 a1) (Rf17_Same.f (k + 1) a0 a1):=by
 intro a0 a1 k
 have ih0:=Rf17_Same.mono_l k
 unfold Rf17_Same.f
 repeat' first
   | (with_reducible exact ih0 _ _ _)
   | (with_reducible exact LeO.refl _)
   | (with_reducible exact LeO.none _)
   | (with_reducible refine LeO.ite ?_ ?_)
   | (with_reducible refine LeO.bind ?_ (fun _ => ?_))
   | exact ih0 _ _ _
   | exact LeO.none _
   | refine LeO.ite ?_ ?_
   | refine LeO.bind ?_ (fun _ => ?_)
set_option maxHeartbeats 8000000 in
set_option maxRecDepth 100000 in
theorem Rf17_Same.calls (k : Nat) (A0 : Option Addr) (c0 : Nat) (l0 : List (S41)) (A1 : Option Addr) (c1 : Nat) (l1 : List (S41)) (r : Bool) (w : World) (hr0 : Kd.C k41 w A0 l0.length l0) (hc0 : l0.length ≤ c0) (hr1 : Kd.C k41 w A1 l1.length l1) (hc1 : l1.length ≤ c1) (h : Rf17_Same.f k l0 l1 = some r) :
  Calls Tryz.prog 24 #[.slice A0 l0.length c0,.slice A1 l1.length c1] w fun e w' => e = .returned (.bool r) ∧ Drawn0 w w':=by
 have hu41:=Tryz.underlying41
 have HR0:=Aside0.mk hr0
 have HC0:=Aside0.mk hc0
 clear hr0 hc0
 have HR1:=Aside0.mk hr1
 have HC1:=Aside0.mk hc1
 clear hr1 hc1
 have H : (if (l0.length : Int) = (l1.length : Int) then (Rf17_Same.l0 k l0 l1 0) else (some false)) = some r:=h
 clear h
 by_cases c3 : (l0.length : Int) = (l1.length : Int)
 ·rw [if_pos c3] at H
  have c3b0:=beq_iff_eq.mpr c3
  have c3b1:=bne_eq_false_iff_eq.mpr c3
  have c3b2 : (l0.length == l1.length) = true:=by first | simpa using c3 | (simp at c3 ⊢;omega)
  clear c3
  have H':=Aside0.mk H
  clear H
  go_enter Tryz.func24,Tryz.ntmps24
  go_wp2
  repeat (go_quiet (fail);try go_wp2)
  go_loopg [5] k (fun kq v5 w' => ∃ (x5_1 : Int),v5 = .int .i64 x5_1 ∧ Aside0 (Rf17_Same.l0 kq l0 l1 x5_1 = some r) ∧ Aside0 (kq ≤ k) ∧ Drawn0 w w')
  case atStart => exact ⟨(0),q5_,H',⟨Nat.le_refl _⟩,by repeat (first | exact Drawn0.refl _ | apply Drawn0.step)⟩
  case round =>
   clear H'
   try clear c1
   try clear c2
   try clear p2
   try clear c3
   try clear c3b0
   try clear c3b1
   try clear c3b2
   obtain ⟨x5_1,rfl,HA,HK1,⟨m1,rfl⟩⟩:=hrel
   cases gk with
   | zero => exact absurd HA.out (by simp [Rf17_Same.l0])
   | succ k1 =>
    have H:=HA.out
    clear HA
    simp only [Rf17_Same.l0] at H
    by_cases c4 : x5_1 < (l0.length : Int)
    ·rw [if_pos c4] at H
     have c4b0:=decide_eq_true c4
     clear c4
     by_cases c5 : 0 ≤ x5_1
     ·rw [if_pos c5] at H
      have c5b0:=decide_eq_true c5
      clear c5
      by_cases c6 : x5_1 < (l1.length : Int)
      ·rw [if_pos c6] at H
       have c6b0:=decide_eq_true c6
       clear c6
       by_cases c7 : (!((((rd_T41 l0 x5_1).f0).toList) == (((rd_T41 l1 x5_1).f0).toList)) || ((!(((rd_T41 l0 x5_1).f1.f0) == ((rd_T41 l1 x5_1).f1.f0)) || (!(((rd_T41 l0 x5_1).f1.f1) == ((rd_T41 l1 x5_1).f1.f1)) || (!(((rd_T41 l0 x5_1).f1.f2) == ((rd_T41 l1 x5_1).f1.f2)) || (!((((rd_T41 l0 x5_1).f1.f3).toList) == (((rd_T41 l1 x5_1).f1.f3).toList)) || (!((((rd_T41 l0 x5_1).f1.f4).toList) == (((rd_T41 l1 x5_1).f1.f4).toList))))))))) = true
       ·rw [if_pos c7] at H
        have c7b0 : (!((((rd_T41 l0 x5_1).f0).toList) == (((rd_T41 l1 x5_1).f0).toList)) || ((!(((rd_T41 l0 x5_1).f1.f0) == ((rd_T41 l1 x5_1).f1.f0)) || (!(((rd_T41 l0 x5_1).f1.f1) == ((rd_T41 l1 x5_1).f1.f1)) || (!(((rd_T41 l0 x5_1).f1.f2) == ((rd_T41 l1 x5_1).f1.f2)) || (!((((rd_T41 l0 x5_1).f1.f3).toList) == (((rd_T41 l1 x5_1).f1.f3).toList)) || (!((((rd_T41 l0 x5_1).f1.f4).toList) == (((rd_T41 l1 x5_1).f1.f4).toList))))))))) = true:=c7
        clear c7
        obtain rfl:=Option.some.inj H
        have p101 : 0 ≤ (x5_1 : Int):=of_decide_eq_true q1_
        have q101 : x5_1 < (l0.length : Int):=of_decide_eq_true q1_
        obtain ⟨ad101,e101,hx101_0,hx101_1,hx101_2,hx101_3,hx101_4,hx101_5⟩:=at_T41 HR0.out x5_1 p101 q101
        cases e101
        replace p101:=eq_true p101
        replace q101:=eq_true q101
        have p102 : 0 ≤ (x5_1 : Int):=of_decide_eq_true q1_
        have q102 : x5_1 < (l1.length : Int):=of_decide_eq_true q1_
        obtain ⟨ad102,e102,hx102_0,hx102_1,hx102_2,hx102_3,hx102_4,hx102_5⟩:=at_T41 HR1.out x5_1 p102 q102
        cases e102
        replace p102:=eq_true p102
        replace q102:=eq_true q102
        go_wp2
        repeat (go_quiet (fail);try go_wp2)
        go_ret
        exact ⟨q3_,q4_⟩
       ·rw [if_neg c7] at H
        have c7b0 : (!((((rd_T41 l0 x5_1).f0).toList) == (((rd_T41 l1 x5_1).f0).toList)) || ((!(((rd_T41 l0 x5_1).f1.f0) == ((rd_T41 l1 x5_1).f1.f0)) || (!(((rd_T41 l0 x5_1).f1.f1) == ((rd_T41 l1 x5_1).f1.f1)) || (!(((rd_T41 l0 x5_1).f1.f2) == ((rd_T41 l1 x5_1).f1.f2)) || (!((((rd_T41 l0 x5_1).f1.f3).toList) == (((rd_T41 l1 x5_1).f1.f3).toList)) || (!((((rd_T41 l0 x5_1).f1.f4).toList) == (((rd_T41 l1 x5_1).f1.f4).toList))))))))) = false:=by simpa using c7
        clear c7
        have H':=Aside0.mk H
        clear H
        have p101 : 0 ≤ (x5_1 : Int):=of_decide_eq_true q1_
        have q101 : x5_1 < (l0.length : Int):=of_decide_eq_true q1_
        obtain ⟨ad101,e101,hx101_0,hx101_1,hx101_2,hx101_3,hx101_4,hx101_5⟩:=at_T41 HR0.out x5_1 p101 q101
        cases e101
        replace p101:=eq_true p101
        replace q101:=eq_true q101
        have p102 : 0 ≤ (x5_1 : Int):=of_decide_eq_true q1_
        have q102 : x5_1 < (l1.length : Int):=of_decide_eq_true q1_
        obtain ⟨ad102,e102,hx102_0,hx102_1,hx102_2,hx102_3,hx102_4,hx102_5⟩:=at_T41 HR1.out x5_1 p102 q102
        cases e102
        replace p102:=eq_true p102
        replace q102:=eq_true q102
        go_wp2
        repeat (go_quiet (fail);try go_wp2)
        go_roundg k1
        case measure => have:=HK1.out;omega
        case rel => exact ⟨(wrap64 (x5_1 + 1)),q5_,H',⟨by have:=HK1.out;omega⟩,by repeat (first | exact Drawn0.refl _ | apply Drawn0.step)⟩
      ·rw [if_neg c6] at H
       exact absurd H q43_
     ·rw [if_neg c5] at H
      exact absurd H q43_
    ·rw [if_neg c4] at H
     have c4b0:=decide_eq_false c4
     clear c4
     obtain rfl:=Option.some.inj H
     go_wp2
     repeat (go_quiet (fail);try go_wp2)
     go_ret
     exact ⟨q3_,q4_⟩
 ·rw [if_neg c3] at H
  have c3b0:=beq_eq_false_iff_ne.mpr c3
  have c3b1:=bne_iff_ne.mpr c3
  have c3b2 : (l0.length == l1.length) = false:=by first | simpa using c3 | (simp at c3 ⊢;omega)
  obtain rfl:=Option.some.inj H
  go_enter Tryz.func24,Tryz.ntmps24
  go_wp2
  repeat (go_quiet (fail);try go_wp2)
  go_ret
  exact ⟨q3_,q4_⟩
end Go.Proofs.YtennhpoemdaghaaGreatDoor.P
end
section
namespace Go.Proofs.YtennhpoemdaghaaGreatDoor.P
open Go Go.RowKit Go.Proofs.YtennhpoemdaghaaGreatDoorW.PrintWords
theorem wrap_at (i n : Nat) (h : i < n) (hn : n ≤ 9223372036854775807) : wrap64 ((i : Int) + 1) = ((i + 1 : Nat) : Int):=by unfold wrap64;omega
theorem loop_all {β : Type} (F : Nat → Int → Option β) (n K : Nat) (res : Option β) (hn : n ≤ 9223372036854775807) (step : ∀ (k i : Nat),i < n → K ≤ k → F (k + 1) (i : Int) = F k (wrap64 ((i : Int) + 1))) (fin : ∀ k,K ≤ k → F (k + 1) (n : Int) = res) :
  ∀ (k : Nat),K + n < k → F k 0 = res:=by
 have h : ∀ (d i k : Nat),i ≤ n → n - i = d → K + d < k → F k (i : Int) = res:=by
  intro d
  induction d with
  | zero =>
   intro i k hi hd hk
   obtain ⟨k,rfl⟩ : ∃ m,k = m + 1:=⟨k - 1,by omega⟩
   have e : i = n:=by omega
   rw [e]
   exact fin k q8_
  | succ d ih =>
   intro i k hi hd hk
   obtain ⟨k,rfl⟩ : ∃ m,k = m + 1:=⟨k - 1,by omega⟩
   rw [step k i q8_ q8_,wrap_at i n q8_ hn]
   exact ih (i + 1) k q8_ q8_ q8_
 intro k hk
 exact h n 0 k (Nat.zero_le _) rfl hk
def ownN (n : RNode) : Node:=⟨n.f0,n.f1⟩
theorem own_f (l : List RNode) (hl : l.length ≤ 1000000) (k : Nat) (hk : l.length < k) : Lw17_own.f k l = some (l.map ownN):=by
 have h : ∀ (d i k : Nat),i ≤ l.length → l.length - i = d → d < k → Lw17_own.l0 k l ((l.take i).map ownN) (i : Int) = some (l.map ownN):=by
  intro d
  induction d with
  | zero =>
   intro i k hi hd hk
   obtain ⟨k,rfl⟩ : ∃ m,k = m + 1:=⟨k - 1,by omega⟩
   rw [Lw17_own.l0,if_neg q8_,List.take_of_length_le q8_]
  | succ d ih =>
   intro i k hi hd hk
   obtain ⟨k,rfl⟩ : ∃ m,k = m + 1:=⟨k - 1,by omega⟩
   have h : i < l.length:=by omega
   have hr : rd_T68 l (i : Int) = l[i]:=by simp [rd_T68,h]
   have hw:=wrap_at i l.length h q8_
   have e : (l.take (i + 1)).map ownN = (l.take i).map ownN ++ [ownN l[i]]:=by rw [List.take_succ_eq_append_getElem h,List.map_append];rfl
   rw [Lw17_own.l0,if_pos q8_,if_pos q8_,if_pos (by rw [List.length_map,List.length_take];omega),hr,hw]
   have:=ih (i + 1) k q8_ q8_ q8_
   rw [e] at this
   exact this
 exact h l.length 0 k (Nat.zero_le _) rfl hk
def coversB (l : List Req) (r : Req) : Bool:=match l.find? (sameP r.f0) with | none => false | some y => decide (cmpB y r ≥ 0)
theorem sameP_dec (p : ByteArray) (y : Req) : sameP p y = decide (y.f0.data.toList = p.data.toList):=by unfold sameP;rw [Bool.eq_iff_iff,beq_iff_eq,decide_eq_true_iff]
theorem covers_f (l : List Req) (r : Req) (hl : l.length ≤ 1000000) (k : Nat) (hk : 1400 + l.length < k) : Lw17_covers.f k l r.f0 r.f1.f0 r.f1.f1 r.f1.f2 r.f1.f3 r.f1.f4 = some (coversB l r):=by
 have h : ∀ (d i k : Nat),i ≤ l.length → l.length - i = d → 1400 + d < k → Lw17_covers.l0 k l (i : Int) r.f0 r.f1.f0 r.f1.f1 r.f1.f2 r.f1.f3 r.f1.f4 = some (coversB (l.drop i) r):=by
  intro d
  induction d with
  | zero =>
   intro i k hi hd hk
   obtain ⟨k,rfl⟩ : ∃ m,k = m + 1:=⟨k - 1,by omega⟩
   rw [Lw17_covers.l0,if_neg q8_,List.drop_eq_nil_of_le q8_]
   rfl
  | succ d ih =>
   intro i k hi hd hk
   obtain ⟨k,rfl⟩ : ∃ m,k = m + 1:=⟨k - 1,by omega⟩
   have h : i < l.length:=by omega
   have hw:=wrap_at i l.length h q8_
   rw [Lw17_covers.l0,if_pos q8_,if_pos q8_,rd_at l i h,hw,toList_eq,toList_eq,List.drop_eq_getElem_cons h]
   unfold coversB
   rw [List.find?_cons,sameP_dec]
   by_cases hs : l[i].f0.data.toList = r.f0.data.toList
   ·rw [if_pos hs,refCmp_eq l[i] r k q8_,decide_eq_true hs]
    rfl
   ·rw [if_neg hs,decide_eq_false hs,ih (i + 1) k q8_ q8_ q8_]
    rfl
 have:=h l.length 0 k (Nat.zero_le _) rfl hk
 rw [List.drop_zero] at this
 exact this
theorem strict_paths {l : List Req} (hp : l.Pairwise (fun x y => x.f0.data.toList < y.f0.data.toList)) : l.Pairwise (fun x y => x.f0 ≠ y.f0):=by
 refine hp.imp ?_
 intro a b h e
 rw [e] at h
 exact List.lt_irrefl _ h
theorem covers_iff {l : List Req} {r : Req} (hp : l.Pairwise (fun x y => x.f0.data.toList < y.f0.data.toList)) : coversB l r = true ↔ ∃ y ∈ l,y.f0 = r.f0 ∧ cmpB y r ≥ 0:=by
 have hd:=strict_paths hp
 unfold coversB
 cases hf : l.find? (sameP r.f0) with
 | none =>
  simp only [Bool.false_eq_true,false_iff]
  rintro ⟨y,hy,he,_⟩
  exact List.find?_eq_none.1 hf y hy (sameP_iff.2 he)
 | some y =>
  have hy:=List.mem_of_find?_eq_some hf
  have he:=sameP_iff.1 (List.find?_some hf)
  simp only [decide_eq_true_eq]
  constructor
  ·exact fun h => ⟨y,hy,he,h⟩
  ·rintro ⟨z,hz,hze,h⟩
   rw [path_inj hd hy hz (he.trans hze.symm)]
   exact h
def fewN (l : List RNode) : Prop:=l.length ≤ 20 ∧ ∀ n ∈ l,n.f1.length ≤ 12
theorem small_root {root : List Req} {l : List RNode} (h : smallB root l = true) : root.length ≤ 12:=by
 unfold smallB fewB at h
 simp only [Bool.and_eq_true] at h
 exact of_decide_eq_true h.2.1.2
theorem small_few {root : List Req} {l : List RNode} (h : smallB root l = true) : fewN l:=by
 unfold smallB at h
 simp only [Bool.and_eq_true,List.all_eq_true] at h
 refine ⟨of_decide_eq_true h.2.2,fun n hn => ?_⟩
 have:=(h.1 n hn).1
 unfold fewB at this
 simp only [Bool.and_eq_true] at this
 exact of_decide_eq_true this.2
theorem sum_le : ∀ (l : List Nat) (m : Nat),(∀ a ∈ l,a ≤ m) → l.sum ≤ l.length * m
 | [],m,_ => by simp
 | a :: l,m,h => by
  have h1:=sum_le l m (fun b hb => h b (by simp [hb]))
  have h2:=h a q43_
  rw [List.sum_cons,List.length_cons,Nat.add_mul]
  omega
theorem univ_le {l : List RNode} (h : fewN l) (root : List Req) : (univ root (l.map ownN)).length ≤ root.length + 240:=by
 unfold univ
 rw [List.length_append,List.length_flatMap,List.map_map]
 have h1 : ∀ a ∈ l.map ((fun n : Node => n.f1.length) ∘ ownN),a ≤ 12:=fun a ha => by
  obtain ⟨n,hn,rfl⟩:=List.mem_map.1 ha
  exact h.2 n hn
 have h2:=sum_le _ 12 h1
 rw [List.length_map] at h2
 have h3:=h.1
 omega
theorem reach_len {l : List RNode} (h : fewN l) {root : List Req} (hr : root.length ≤ 1000) : (reachL root (l.map ownN)).length ≤ root.length + 240:=by
 have h1:=univ_le h root
 have:=(reachL_inv root (l.map ownN) q8_).len
 omega
theorem list_len {l : List RNode} (h : fewN l) {root : List Req} (hr : root.length ≤ 1000) : (listL root (l.map ownN)).length ≤ root.length + 240:=by
 have:=listOf_len (reachL root (l.map ownN))
 have:=reach_len h hr
 unfold listL
 omega
theorem Reach.sub {root root' : List Req} {nodes : List Node} (h : ∀ x ∈ root,x ∈ root') {r : Req} (hr : Reach root nodes r) : Reach root' nodes r:=by
 induction hr with
 | root h1 h2 => exact .root (h _ h1) h2
 | step _ h1 h2 ih => exact .step ih h1 h2
theorem paths_len {x y : List Req} (hx : x.Pairwise (fun a b => a.f0 ≠ b.f0)) (h : ∀ r ∈ x,∃ s ∈ y,s.f0 = r.f0) : x.length ≤ y.length:=by
 have key : ∀ (a b : List ByteArray),a.Nodup → (∀ p ∈ a,p ∈ b) → a.length ≤ b.length:=by
  intro a
  induction a with
  | nil => intro b _ _;exact Nat.zero_le _
  | cons p a ih =>
   intro b hn hs
   obtain ⟨h1,h2⟩:=List.nodup_cons.1 hn
   obtain ⟨c,d,rfl⟩:=List.append_of_mem (hs p q43_)
   have:=ih (c ++ d) h2 (fun q hq => by
    have:=hs q (by simp [hq])
    rcases List.mem_append.1 this with h | h
    ·exact List.mem_append.2 (.inl h)
    ·rcases List.mem_cons.1 h with rfl | h
     ·exact absurd hq h1
     ·exact List.mem_append.2 (.inr h))
   simp only [List.length_cons,List.length_append] at this ⊢
   omega
 have:=key (x.map (·.f0)) (y.map (·.f0)) (List.pairwise_map.2 hx) (fun p hp => by
  obtain ⟨r,hr,rfl⟩:=List.mem_map.1 hp
  obtain ⟨s,hs,he⟩:=h r hr
  exact List.mem_map.2 ⟨s,hs,he⟩)
 rwa [List.length_map,List.length_map] at this
end Go.Proofs.YtennhpoemdaghaaGreatDoor.P
end
section
namespace Go.Proofs.YtennhpoemdaghaaGreatDoor.P
open Go.RowKit Go.Proofs.YtennhpoemdaghaaGreatDoorW.PrintWords Go.Proofs.YtennhpoemdaghaaGreatDoorW.PrintLast Go.Proofs.YtennhpoemdaghaaGreatDoorW.PrintMore
def Lw17_req.f (a0 : ByteArray) (a1 : Int) : Option (ByteArray × Int × Int × Int × ByteArray × ByteArray):=some (a0,1,a1,0,(⟨#[]⟩ : ByteArray),(⟨#[]⟩ : ByteArray))
set_option maxHeartbeats 8000000 in
set_option maxRecDepth 100000 in
theorem Lw17_req.calls (a0 : ByteArray) (a1 : Int) (r1 : ByteArray) (r2 : Int) (r3 : Int) (r4 : Int) (r5 : ByteArray) (r6 : ByteArray) (w : World) (h : Lw17_req.f a0 a1 = some (r1,r2,r3,r4,r5,r6)) :
  Calls Tryz.prog 46 #[.string a0,.int .i64 a1] w fun e w' => e = .returned (.agg #[.string r1,.int .i64 r2,.int .i64 r3,.int .i64 r4,.string r5,.string r6]) ∧ Below w.heap.size w w':=by
 have hu41:=Tryz.underlying41
 have hu24:=Tryz.underlying24
 have HB:=Aside0.mk (Below.refl w.heap.size w)
 have H : (some (a0,1,a1,0,(⟨#[]⟩ : ByteArray),(⟨#[]⟩ : ByteArray))) = some (r1,r2,r3,r4,r5,r6):=h
 clear h
 simp only [Option.some.injEq,Prod.mk.injEq] at H
 obtain ⟨rfl,rfl,rfl,rfl,rfl,rfl⟩:=H
 go_enter Tryz.func46,Tryz.ntmps46
 go_wp2_with (first | ((with_reducible refine gate_dst (N:=4) rfl ?_);refine bx_ 4 41 #[.string (⟨#[]⟩ : ByteArray),.int .i64 0,.int .i64 0,.int .i64 0,.string (⟨#[]⟩ : ByteArray),.string (⟨#[]⟩ : ByteArray)] ?_;intro gb101 hg w3 hbox hb;have BK101:=Aside0.mk (hbox);have GW101:=Aside0.mk ((q20_ : w.heap.size ≤ gb101));have GE101:=Aside0.mk ((q20_ : w.heap.size ≤ gb101));replace HB:=Aside0.mk (below_step bh_ hb);clear hb hbox hg;have hcz4_0 : w3.cell? ⟨gb101,0,none⟩ = some (.string (⟨#[]⟩ : ByteArray)):=(blk_cell BK101.out 0).trans rfl;have hcz4_1 : w3.cell? ⟨gb101,1,none⟩ = some (.int .i64 0):=(blk_cell BK101.out 1).trans rfl;have hcz4_2 : w3.cell? ⟨gb101,2,none⟩ = some (.int .i64 0):=(blk_cell BK101.out 2).trans rfl;have hcz4_3 : w3.cell? ⟨gb101,3,none⟩ = some (.int .i64 0):=(blk_cell BK101.out 3).trans rfl;have hcz4_4 : w3.cell? ⟨gb101,4,none⟩ = some (.string (⟨#[]⟩ : ByteArray)):=(blk_cell BK101.out 4).trans rfl;have hcz4_5 : w3.cell? ⟨gb101,5,none⟩ = some (.string (⟨#[]⟩ : ByteArray)):=(blk_cell BK101.out 5).trans rfl;have hfz4_0:=blk_frozen BK101.out 0;have hfz4_1:=blk_frozen BK101.out 1;have hfz4_2:=blk_frozen BK101.out 2;have hfz4_3:=blk_frozen BK101.out 3;have hfz4_4:=blk_frozen BK101.out 4;have hfz4_5:=blk_frozen BK101.out 5))
 refine bodyPost_ret (results_cell_row rfl _ _ gb101 41 #[.string a0,.int .i64 1,.int .i64 a1,.int .i64 0,.string (⟨#[]⟩ : ByteArray),.string (⟨#[]⟩ : ByteArray)] (0,0) _ rfl (by (with_reducible repeat (first | refine blk_drewN ?_ _ | refine blk_drew ?_ | refine blk_alloc ?_ _));refine blk_put (cs:=#[.string a0,.int .i64 1,.int .i64 a1,.int .i64 0,.string (⟨#[]⟩ : ByteArray),.string (⟨#[]⟩ : ByteArray)]) ?_ 5 _ rfl;(with_reducible repeat (first | refine blk_drewN ?_ _ | refine blk_drew ?_ | refine blk_alloc ?_ _));refine blk_put (cs:=#[.string a0,.int .i64 1,.int .i64 a1,.int .i64 0,.string (⟨#[]⟩ : ByteArray),.string (⟨#[]⟩ : ByteArray)]) ?_ 4 _ rfl;(with_reducible repeat (first | refine blk_drewN ?_ _ | refine blk_drew ?_ | refine blk_alloc ?_ _));refine blk_put (cs:=#[.string a0,.int .i64 1,.int .i64 a1,.int .i64 0,.string (⟨#[]⟩ : ByteArray),.string (⟨#[]⟩ : ByteArray)]) ?_ 3 _ rfl;(with_reducible repeat (first | refine blk_drewN ?_ _ | refine blk_drew ?_ | refine blk_alloc ?_ _));refine blk_put (cs:=#[.string a0,.int .i64 1,.int .i64 0,.int .i64 0,.string (⟨#[]⟩ : ByteArray),.string (⟨#[]⟩ : ByteArray)]) ?_ 2 _ rfl;(with_reducible repeat (first | refine blk_drewN ?_ _ | refine blk_drew ?_ | refine blk_alloc ?_ _));refine blk_put (cs:=#[.string a0,.int .i64 0,.int .i64 0,.int .i64 0,.string (⟨#[]⟩ : ByteArray),.string (⟨#[]⟩ : ByteArray)]) ?_ 1 _ rfl;(with_reducible repeat (first | refine blk_drewN ?_ _ | refine blk_drew ?_ | refine blk_alloc ?_ _));refine blk_put (cs:=#[.string (⟨#[]⟩ : ByteArray),.int .i64 0,.int .i64 0,.int .i64 0,.string (⟨#[]⟩ : ByteArray),.string (⟨#[]⟩ : ByteArray)]) ?_ 0 _ rfl;(with_reducible repeat (first | refine blk_drewN ?_ _ | refine blk_drew ?_ | refine blk_alloc ?_ _));exact BK101.out) Tryz.underlying41 rfl q11_) rfl ?_
 exact ⟨q2_,bh_⟩
end Go.Proofs.YtennhpoemdaghaaGreatDoor.P
end
section
namespace Go.Proofs.YtennhpoemdaghaaGreatDoor.P
open Go Go.RowKit Go.Proofs.YtennhpoemdaghaaGreatDoorW.PrintWords Go.Proofs.YtennhpoemdaghaaGreatDoorW.PrintLast Go.Proofs.YtennhpoemdaghaaGreatDoorW.PrintMore
def slices_Clone_apiReq.f (l0 : List S41) : Option (List S41):=if l0.length ≤ 1000000 then some l0 else none
set_option maxRecDepth 100000 in
set_option maxHeartbeats 4000000 in
theorem slices_Clone_apiReq.calls (A0 : Option Addr) (c0 : Nat) (l0 : List S41) (r : List S41) (w : World) (hr0 : Kd.C k41 w A0 l0.length l0) (hc0 : l0.length ≤ c0) (h : slices_Clone_apiReq.f l0 = some r) :
  Calls Tryz.prog 58 #[.slice A0 l0.length c0] w fun e w' => ∃ v0_ : Value,e = .returned (v0_) ∧ Kd.R k41 41 w' w.heap.size (fun _ => True) v0_ r ∧ Below w.heap.size w w':=by
 unfold slices_Clone_apiReq.f at h
 split at h
 case isFalse => exact absurd h q43_
 case isTrue hsz =>
 obtain rfl:=Option.some.inj h
 have q : ∀ (w : World) (a : Option Addr) (n c n' c' : Nat),(binOp .eql 38 (.slice a n c) (.slice none n' c')).run Tryz.prog w = .ok (.bool a.isNone) w:=fun w a n c n' c' => Lib.run_eql_slice_nil w _ _ a n c n' c' Tryz.underlying38
 cases A0 with
 | none =>
  have h0 : l0 = []:=by
   rcases Nat.eq_zero_or_pos l0.length with h | h
   ·exact List.eq_nil_of_length_eq_zero h
   ·obtain ⟨_,e1,_⟩:=at_T41 hr0 0 q8_ q8_
    exact absurd e1 q43_
  subst h0
  go_enter Tryz.func58,Tryz.ntmps58
  go_wp2
  go_ret
  exact ⟨_,rfl,Kd.R_nil _ _ _ _ _,Below.refl _ _⟩
 | some ad =>
  go_enter Tryz.func58,Tryz.ntmps58
  go_wp2_with (first | ((with_reducible refine gate_dst (N:=5) rfl ?_);refine Kd.R_lit k41 _ 41 ?hg (N:=5) ?hd (xs:=([] : List S41)) (inner:=[]) (ok:=fun _ => True) (okp:=fun _ => True) ?hr ?hp (fun _ hk => hk) trivial (Below.refl _ _) (Nat.le_refl _) q43_ ?_;(case hd => rfl);(case hg => rfl);(case hr => first | (go_simp;done) | (go_simp;rfl));(case hp => exact (Reps.none _ _));intro v5 w5 ho5 hb5 hg5_ hnew_;clear hg5_ hnew_;have HO:=Aside0.mk ho5;have HB:=Aside0.mk hb5;clear ho5 hb5) | ((with_reducible refine gate_builtin (b:=.append) (xs:=#[.tmp 5,.tmp 6]) rfl ?_);at_builtin;refine Kd.R_append_rows k41 (w0:=w) w.heap.size rfl (.tmp 5) (.tmp 6) 38 41 (.agg #[.string (⟨#[]⟩ : ByteArray),.int .i64 0,.int .i64 0,.int .i64 0,.string (⟨#[]⟩ : ByteArray),.string (⟨#[]⟩ : ByteArray)]) 72 rfl Tryz.underlying38 info41 rfl q37_ q8_ v5 [] l0 (some ad) l0.length c0 (fun _ => True) (fun _ => False) rfl rfl HO.out (Kd.C_below hr0 HB.out) (fun _ _ h => h) (fun _ h => h.elim) (fun _ _ => trivial) HB.out HB.out.size q42_ ?_;intro v7 w7 ho7 hb7 hg7 hat7))
  go_ret
  exact ⟨_,rfl,ho7,hb7⟩
def predO (b y : Req) : Option Bool:=if y.f0.toList == b.f0.toList then (cmpP y b).bind fun c => some (decide (c > 0)) else some false
set_option maxRecDepth 100000 in
set_option maxHeartbeats 4000000 in
theorem out1_calls (y b : Req) (vn : Value) (g2 : Nat) (p : Bool) (w0 w : World) (hb0 : Below w0.heap.size w0 w) (hE : Env w0) (hb2 : w.heap[g2]? = some (.cells #[.string b.f0,.int .i64 b.f1.f0,.int .i64 b.f1.f1,.int .i64 b.f1.f2,.string b.f1.f3,.string b.f1.f4,vn] 91 (0,0))) (hp : predO b y = some p) :
  Calls Tryz.prog 93 #[.agg #[.string y.f0,.int .i64 y.f1.f0,.int .i64 y.f1.f1,.int .i64 y.f1.f2,.string y.f1.f3,.string y.f1.f4],.pointer (some ⟨g2,0,none⟩)] w fun e w' => e = .returned (.bool p) ∧ Below w.heap.size w w':=by
 have BK:=Aside0.mk hb2
 have HB:=Aside0.mk hb0
 have HE:=Aside0.mk hE
 have HD:=Aside0.mk (Below.refl w.heap.size w)
 clear hb2 hb0 hE
 unfold predO at hp
 cases he : (y.f0.toList == b.f0.toList) with
 | false =>
  rw [he] at hp
  obtain rfl:=Option.some.inj hp
  go_enter Tryz.func93,Tryz.ntmps93
  go_wp2_with (first | ((with_reducible refine gate_dst (N:=2) rfl ?_);refine bx_ 2 41 #[.string y.f0,.int .i64 y.f1.f0,.int .i64 y.f1.f1,.int .i64 y.f1.f2,.string y.f1.f3,.string y.f1.f4] ?_;intro g3 hg_ w3 hbox hb_;clear hg_;replace BK:=Aside0.mk (blk_below BK.out hb_);replace HB:=Aside0.mk (below_then HB.out HB.out.size hb_);replace HD:=Aside0.mk (below_then HD.out HD.out.size hb_);have B3:=Aside0.mk hbox;clear hbox hb_;have hz0 : w3.cell? ⟨g2,0,none⟩ = some _:=(blk_cell BK.out 0).trans rfl;have hz1 : w3.cell? ⟨g2,1,none⟩ = some _:=(blk_cell BK.out 1).trans rfl;have hz2 : w3.cell? ⟨g2,2,none⟩ = some _:=(blk_cell BK.out 2).trans rfl;have hz3 : w3.cell? ⟨g2,3,none⟩ = some _:=(blk_cell BK.out 3).trans rfl;have hz4 : w3.cell? ⟨g2,4,none⟩ = some _:=(blk_cell BK.out 4).trans rfl;have hz5 : w3.cell? ⟨g2,5,none⟩ = some _:=(blk_cell BK.out 5).trans rfl;have hz6 : w3.cell? ⟨g2,6,none⟩ = some _:=(blk_cell BK.out 6).trans rfl;have hy0 : w3.cell? ⟨g3,0,none⟩ = some _:=(blk_cell B3.out 0).trans rfl;have hy1 : w3.cell? ⟨g3,1,none⟩ = some _:=(blk_cell B3.out 1).trans rfl;have hy2 : w3.cell? ⟨g3,2,none⟩ = some _:=(blk_cell B3.out 2).trans rfl;have hy3 : w3.cell? ⟨g3,3,none⟩ = some _:=(blk_cell B3.out 3).trans rfl;have hy4 : w3.cell? ⟨g3,4,none⟩ = some _:=(blk_cell B3.out 4).trans rfl;have hy5 : w3.cell? ⟨g3,5,none⟩ = some _:=(blk_cell B3.out 5).trans rfl))
  go_ret
  exact ⟨rfl,HD.out⟩
 | true =>
  rw [he] at hp
  obtain ⟨c,hc,hp⟩:=Option.bind_eq_some_iff.mp hp
  replace hc : ver_Compare.f fuelR y.f1.f0 y.f1.f1 y.f1.f2 y.f1.f3 y.f1.f4 b.f1.f0 b.f1.f1 b.f1.f2 b.f1.f3 b.f1.f4 = some c:=hc
  obtain rfl:=Option.some.inj hp
  go_enter Tryz.func93,Tryz.ntmps93
  go_wp2_with (first | ((with_reducible refine gate_dst (N:=2) rfl ?_);refine bx_ 2 41 #[.string y.f0,.int .i64 y.f1.f0,.int .i64 y.f1.f1,.int .i64 y.f1.f2,.string y.f1.f3,.string y.f1.f4] ?_;intro g3 hg_ w3 hbox hb_;clear hg_;replace BK:=Aside0.mk (blk_below BK.out hb_);replace HB:=Aside0.mk (below_then HB.out HB.out.size hb_);replace HD:=Aside0.mk (below_then HD.out HD.out.size hb_);have B3:=Aside0.mk hbox;clear hbox hb_;have hz0 : w3.cell? ⟨g2,0,none⟩ = some _:=(blk_cell BK.out 0).trans rfl;have hz1 : w3.cell? ⟨g2,1,none⟩ = some _:=(blk_cell BK.out 1).trans rfl;have hz2 : w3.cell? ⟨g2,2,none⟩ = some _:=(blk_cell BK.out 2).trans rfl;have hz3 : w3.cell? ⟨g2,3,none⟩ = some _:=(blk_cell BK.out 3).trans rfl;have hz4 : w3.cell? ⟨g2,4,none⟩ = some _:=(blk_cell BK.out 4).trans rfl;have hz5 : w3.cell? ⟨g2,5,none⟩ = some _:=(blk_cell BK.out 5).trans rfl;have hz6 : w3.cell? ⟨g2,6,none⟩ = some _:=(blk_cell BK.out 6).trans rfl;have hy0 : w3.cell? ⟨g3,0,none⟩ = some _:=(blk_cell B3.out 0).trans rfl;have hy1 : w3.cell? ⟨g3,1,none⟩ = some _:=(blk_cell B3.out 1).trans rfl;have hy2 : w3.cell? ⟨g3,2,none⟩ = some _:=(blk_cell B3.out 2).trans rfl;have hy3 : w3.cell? ⟨g3,3,none⟩ = some _:=(blk_cell B3.out 3).trans rfl;have hy4 : w3.cell? ⟨g3,4,none⟩ = some _:=(blk_cell B3.out 4).trans rfl;have hy5 : w3.cell? ⟨g3,5,none⟩ = some _:=(blk_cell B3.out 5).trans rfl) | (go_at_call 44;(with_reducible refine (ver_Compare.calls fuelR y.f1.f0 y.f1.f1 y.f1.f2 y.f1.f3 y.f1.f4 b.f1.f0 b.f1.f1 b.f1.f2 b.f1.f3 b.f1.f4 c _ hc ?sideG).mono ?_);(case sideG => exact Env.below HE.out HB.out);rintro e w6 ⟨rfl,hb6⟩;replace HD:=Aside0.mk (below_then HD.out HD.out.size hb6);clear hb6))
  go_ret
  exact ⟨rfl,HD.out⟩
theorem idxP_any {α : Type} (pred : α → Bool) : ∀ (l : List α) (i : Nat),decide (0 ≤ idxP pred l i) = l.any pred
 | [],_ => rfl
 | x :: xs,i => by
  rw [idxP,List.any_cons]
  cases h : pred x
  ·simpa using idxP_any pred xs (i + 1)
  ·simp
set_option maxRecDepth 100000 in
set_option maxHeartbeats 4000000 in
theorem containsOut (A : Option Addr) (c : Nat) (l : List Req) (g2 : Nat) (b : Req) (vn : Value) (w0 w : World) (hb0 : Below w0.heap.size w0 w) (hE : Env w0) (hb2 : w.heap[g2]? = some (.cells #[.string b.f0,.int .i64 b.f1.f0,.int .i64 b.f1.f1,.int .i64 b.f1.f2,.string b.f1.f3,.string b.f1.f4,vn] 91 (0,0)))
  (hr : Kd.C k41 w A l.length l) (hc : l.length ≤ c) (hall : l.all (fun y => (predO b y).isSome) = true) :
  Calls Tryz.prog 92 #[.slice A l.length c,.func (.func 93) #[] #[.pointer (some ⟨g2,0,none⟩)]] w fun e w' => e = .returned (.bool (l.any fun y => (predO b y).getD false)) ∧ Below w.heap.size w w':=by
 have hcon:=indexOut A c l g2 (fun y => (predO b y).getD false) w hr hc (fun y W hy hbW => by
  have hs:=List.all_eq_true.1 hall y hy
  obtain ⟨p,hp⟩:=Option.isSome_iff_exists.1 hs
  rw [hp]
  exact out1_calls y b vn g2 p w0 W (below_then hb0 hb0.size hbW) hE (blk_below hb2 hbW) hp)
 have hany:=idxP_any (fun y => (predO b y).getD false) l 0
 generalize idxP (fun y => (predO b y).getD false) l 0 = ix at hcon hany
 rw [← hany]
 clear hr hall hany hb2 hb0 hE
 go_enter Tryz.func92,Tryz.ntmps92
 go_wp2_with (go_at_call 60;(with_reducible refine hcon.mono ?_);rintro e w1 ⟨rfl,hb1⟩)
 go_ret
 exact ⟨rfl,hb1⟩
def outP (b : Req) (nodes : List Node) (x : Req) : Option Bool:=(mvs_List.f [x] nodes).bind fun L => if L.all (fun y => (predO b y).isSome) then some (L.any fun y => (predO b y).getD false) else none
set_option maxRecDepth 100000 in
set_option maxHeartbeats 4000000 in
theorem out_calls (b x : Req) (A1 : Option Addr) (c1 : Nat) (nodes : List Node) (r : Bool) (w : World) (hn : Kd.C k70 w A1 nodes.length nodes) (hc : nodes.length ≤ c1) (h : outP b nodes x = some r) (hG : Env w) :
  Calls Tryz.prog 62 #[.agg #[.string b.f0,.int .i64 b.f1.f0,.int .i64 b.f1.f1,.int .i64 b.f1.f2,.string b.f1.f3,.string b.f1.f4,.slice A1 nodes.length c1],.agg #[.string x.f0,.int .i64 x.f1.f0,.int .i64 x.f1.f1,.int .i64 x.f1.f2,.string x.f1.f3,.string x.f1.f4]] w fun e w' => e = .returned (.bool r) ∧ Below w.heap.size w w':=by
 obtain ⟨L,hL,h⟩:=Option.bind_eq_some_iff.mp h
 split at h
 case isFalse => exact absurd h q43_
 case isTrue hall =>
 obtain rfl:=Option.some.inj h
 have HN:=Aside0.mk hn
 have HC:=Aside0.mk hc
 have HE:=Aside0.mk hG
 clear hn hc hG h
 generalize hres : (L.any fun y => (predO b y).getD false) = res
 go_enter Tryz.func62,Tryz.ntmps62
 go_wp2_with (first | ((with_reducible refine gate_dst (N:=2) rfl ?_);refine bx_ 2 91 #[.string b.f0,.int .i64 b.f1.f0,.int .i64 b.f1.f1,.int .i64 b.f1.f2,.string b.f1.f3,.string b.f1.f4,.slice A1 nodes.length c1] ?_;intro g2 hg_ w2 hbox hb_;clear hg_;have HB:=Aside0.mk hb_;have B2:=Aside0.mk hbox;clear hbox hb_) | ((with_reducible refine gate_dst (N:=3) rfl ?_);refine bx_ 3 41 #[.string x.f0,.int .i64 x.f1.f0,.int .i64 x.f1.f1,.int .i64 x.f1.f2,.string x.f1.f3,.string x.f1.f4] ?_;intro g3 hg_ w3 hbox hb_;clear hg_;replace B2:=Aside0.mk (blk_below B2.out hb_);replace HB:=Aside0.mk (below_then HB.out HB.out.size hb_);have B3:=Aside0.mk hbox;clear hbox hb_;have hz0 : w3.cell? ⟨g2,0,none⟩ = some _:=(blk_cell B2.out 0).trans rfl;have hz1 : w3.cell? ⟨g2,1,none⟩ = some _:=(blk_cell B2.out 1).trans rfl;have hz2 : w3.cell? ⟨g2,2,none⟩ = some _:=(blk_cell B2.out 2).trans rfl;have hz3 : w3.cell? ⟨g2,3,none⟩ = some _:=(blk_cell B2.out 3).trans rfl;have hz4 : w3.cell? ⟨g2,4,none⟩ = some _:=(blk_cell B2.out 4).trans rfl;have hz5 : w3.cell? ⟨g2,5,none⟩ = some _:=(blk_cell B2.out 5).trans rfl;have hz6 : w3.cell? ⟨g2,6,none⟩ = some _:=(blk_cell B2.out 6).trans rfl;have hy0 : w3.cell? ⟨g3,0,none⟩ = some _:=(blk_cell B3.out 0).trans rfl;have hy1 : w3.cell? ⟨g3,1,none⟩ = some _:=(blk_cell B3.out 1).trans rfl;have hy2 : w3.cell? ⟨g3,2,none⟩ = some _:=(blk_cell B3.out 2).trans rfl;have hy3 : w3.cell? ⟨g3,3,none⟩ = some _:=(blk_cell B3.out 3).trans rfl;have hy4 : w3.cell? ⟨g3,4,none⟩ = some _:=(blk_cell B3.out 4).trans rfl;have hy5 : w3.cell? ⟨g3,5,none⟩ = some _:=(blk_cell B3.out 5).trans rfl) | ((with_reducible refine gate_dst (N:=6) rfl ?_);refine Kd.R_lit k41 _ 41 ?hg (N:=6) ?hd (xs:=[x]) (inner:=[.string x.f0,.int .i64 x.f1.f0,.int .i64 x.f1.f1,.int .i64 x.f1.f2,.string x.f1.f3,.string x.f1.f4]) (ok:=fun _ => True) (okp:=fun _ => True) ?hr ?hp (fun _ hk => hk) trivial (Below.refl _ _) (Nat.le_refl _) q43_ ?_;(case hd => rfl);(case hg => rfl);(case hr => first | (go_simp;done) | (go_simp;rfl));(case hp => exact (Reps.c6 (show Kd.M k41 _ _ _ x [.string x.f0,.int .i64 x.f1.f0,.int .i64 x.f1.f1,.int .i64 x.f1.f2,.string x.f1.f3,.string x.f1.f4] from (k41_mkM _ _ _ x)) (Reps.none _ _)));intro v6 w6 ho6 hb6 hg6_ hnew6;clear hg6_ hnew6;replace B2:=Aside0.mk (blk_below B2.out hb6);replace HB:=Aside0.mk (below_then HB.out HB.out.size hb6);clear B3 hb6;obtain ⟨A6,c6,rfl⟩:=Kd.R_slice ho6;have HO6:=Aside0.mk ho6;clear ho6;have hu0 : w6.cell? ⟨g2,0,none⟩ = some _:=(blk_cell B2.out 0).trans rfl;have hu1 : w6.cell? ⟨g2,1,none⟩ = some _:=(blk_cell B2.out 1).trans rfl;have hu2 : w6.cell? ⟨g2,2,none⟩ = some _:=(blk_cell B2.out 2).trans rfl;have hu3 : w6.cell? ⟨g2,3,none⟩ = some _:=(blk_cell B2.out 3).trans rfl;have hu4 : w6.cell? ⟨g2,4,none⟩ = some _:=(blk_cell B2.out 4).trans rfl;have hu5 : w6.cell? ⟨g2,5,none⟩ = some _:=(blk_cell B2.out 5).trans rfl;have hu6 : w6.cell? ⟨g2,6,none⟩ = some _:=(blk_cell B2.out 6).trans rfl) | (go_at_call 27;(refine (mvs_List.calls A6 c6 [x] A1 c1 nodes L _ (Kd.R_reads' HO6.out).2.2 (Kd.R_reads' HO6.out).2.1 (Kd.C_below HN.out HB.out) HC.out hL (Env.below HE.out HB.out)).mono ?_);rintro e w7 ⟨v7,rfl,hR7,hb7⟩;obtain ⟨A7,c7,rfl⟩:=Kd.R_slice hR7;replace B2:=Aside0.mk (blk_below B2.out hb7);replace HB:=Aside0.mk (below_then HB.out HB.out.size hb7);clear HO6 hb7;have HO7:=Aside0.mk hR7;clear hR7) | (go_at_call 92;(with_reducible refine (containsOut A7 c7 L g2 b (.slice A1 nodes.length c1) w _ HB.out HE.out B2.out (Kd.R_reads' HO7.out).2.2 (Kd.R_reads' HO7.out).2.1 hall).mono ?_);rintro e w8 ⟨rfl,hb8⟩;replace HB:=Aside0.mk (below_then HB.out HB.out.size hb8);clear hb8))
 go_ret
 exact ⟨(by rw [← hres];rfl),HB.out⟩
def mvs_bound_out.f (a0_0 : ByteArray) (a0_1 : Int) (a0_2 : Int) (a0_3 : Int) (a0_4 : ByteArray) (a0_5 : ByteArray) (l0_6 : List Node) (a1_0 : ByteArray) (a1_1 : Int) (a1_2 : Int) (a1_3 : Int) (a1_4 : ByteArray) (a1_5 : ByteArray) : Option Bool:=outP ⟨a0_0,a0_1,a0_2,a0_3,a0_4,a0_5⟩ l0_6 ⟨a1_0,a1_1,a1_2,a1_3,a1_4,a1_5⟩
theorem mvs_bound_out.calls (a0_0 : ByteArray) (a0_1 : Int) (a0_2 : Int) (a0_3 : Int) (a0_4 : ByteArray) (a0_5 : ByteArray) (A0_6 : Option Addr) (c0_6 : Nat) (l0_6 : List Node) (a1_0 : ByteArray) (a1_1 : Int) (a1_2 : Int) (a1_3 : Int) (a1_4 : ByteArray) (a1_5 : ByteArray) (r : Bool) (w : World) (hr0_6 : Kd.C k70 w A0_6 l0_6.length l0_6) (hc0_6 : l0_6.length ≤ c0_6) (h : mvs_bound_out.f a0_0 a0_1 a0_2 a0_3 a0_4 a0_5 l0_6 a1_0 a1_1 a1_2 a1_3 a1_4 a1_5 = some r) (hG : Env w) :
  Calls Tryz.prog 62 #[.agg #[.string a0_0,.int .i64 a0_1,.int .i64 a0_2,.int .i64 a0_3,.string a0_4,.string a0_5,.slice A0_6 l0_6.length c0_6],.agg #[.string a1_0,.int .i64 a1_1,.int .i64 a1_2,.int .i64 a1_3,.string a1_4,.string a1_5]] w fun e w' => e = .returned (.bool r) ∧ Below w.heap.size w w' :=
 out_calls ⟨a0_0,a0_1,a0_2,a0_3,a0_4,a0_5⟩ ⟨a1_0,a1_1,a1_2,a1_3,a1_4,a1_5⟩ A0_6 c0_6 l0_6 r w hr0_6 hc0_6 h hG
end Go.Proofs.YtennhpoemdaghaaGreatDoor.P
end
