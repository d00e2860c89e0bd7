/- A part of the same claim: what its first file says. -/
import Derived.Test.YtennhpoemdaghaaGreatDoorDowns3
set_option linter.unusedVariables false
set_option linter.unusedSimpArgs false
section
namespace Go.Proofs.YtennhpoemdaghaaGreatDoor.P
open Go Go.RowKit Go.Proofs.YtennhpoemdaghaaGreatDoorW.PrintWords
structure Cmp {α : Type} (f : α → α → Int) : Prop where
 swap : ∀ x y,f y x = - f x y
 trans : ∀ x y z,f x y ≤ 0 → f y z ≤ 0 → f x z ≤ 0
section
variable {α β : Type} {f g : α → α → Int}
theorem Cmp.lt_le (h : Cmp f) {x y z : α} (h1 : f x y < 0) (h2 : f y z ≤ 0) : f x z < 0:=by
 have h3:=h.trans x y z q5_ h2
 have e1:=h.swap x z
 have e2:=h.swap x y
 have h4 : ¬ 0 ≤ f x z:=fun h0 => by
  have:=h.trans y z x h2 q5_
  omega
 omega
theorem Cmp.le_lt (h : Cmp f) {x y z : α} (h1 : f x y ≤ 0) (h2 : f y z < 0) : f x z < 0:=by
 have h3:=h.trans x y z h1 q5_
 have e1:=h.swap x z
 have e2:=h.swap y z
 have h4 : ¬ 0 ≤ f x z:=fun h0 => by
  have:=h.trans z x y q5_ h1
  omega
 omega
theorem Cmp.self (h : Cmp f) (x : α) : f x x = 0:=by have:=h.swap x x;omega
def lexC (f g : α → α → Int) (x y : α) : Int:=if f x y ≠ 0 then f x y else g x y
theorem Cmp.lex (hf : Cmp f) (hg : Cmp g) : Cmp (lexC f g):=by
 constructor
 ·intro x y
  unfold lexC
  have h1:=hf.swap x y
  have h2:=hg.swap x y
  by_cases h : f x y = 0
  ·rw [if_neg q5_,if_neg q5_,h2]
  ·rw [if_pos q5_,if_pos q5_,h1]
 ·intro x y z
  unfold lexC
  intro h1 h2
  by_cases a : f x y = 0
  ·rw [if_neg q5_] at h1
   by_cases b : f y z = 0
   ·rw [if_neg q5_] at h2
    have c1:=hf.trans x y z q5_ q5_
    have c2:=hf.trans z y x (by have:=hf.swap y z;omega) (by have:=hf.swap x y;omega)
    have c3:=hf.swap x z
    rw [if_neg q5_]
    exact hg.trans x y z h1 h2
   ·rw [if_pos q5_] at h2
    have c:=hf.le_lt (x:=x) (y:=y) (z:=z) q5_ q5_
    rw [if_pos q5_]
    omega
  ·rw [if_pos q5_] at h1
   have h3 : f y z ≤ 0:=by
    by_cases b : f y z = 0
    ·omega
    ·rw [if_pos q5_] at h2;exact h2
   have c:=hf.lt_le (x:=x) (y:=y) (z:=z) q5_ h3
   rw [if_pos q5_]
   omega
theorem Cmp.on (h : Cmp f) (key : β → α) : Cmp (fun x y => f (key x) (key y)):=⟨fun x y => h.swap _ _,fun x y z => h.trans _ _ _⟩
end
theorem ordI_cmp : Cmp ordI:=by
 constructor
 ·intro x y
  unfold ordI
  split <;> split <;> (try split) <;> omega
 ·intro x y z
  unfold ordI
  intro h1 h2
  by_cases a : x > y
  ·rw [if_neg q5_,if_pos a] at h1;omega
  ·by_cases b : y > z
   ·rw [if_neg q5_,if_pos b] at h2;omega
   ·by_cases c : x < z
    ·rw [if_pos c];omega
    ·rw [if_neg c,if_neg q5_];omega
theorem bytes_cmp : Cmp Lib.compareBytes:=by
 constructor
 ·intro x y
  rw [cmpBytes_eq,cmpBytes_eq]
  by_cases a : x < y
  ·simp [a,List.lt_asymm a]
  ·by_cases b : y < x <;> simp [a,b]
 ·intro x y z
  rw [cmpBytes_eq,cmpBytes_eq,cmpBytes_eq]
  intro h1 h2
  have h1' : ¬ y < x:=fun h => by rw [if_neg (List.lt_asymm h),if_pos h] at h1;omega
  have h2' : ¬ z < y:=fun h => by rw [if_neg (List.lt_asymm h),if_pos h] at h2;omega
  have h3 : ¬ z < x:=List.not_lt.2 (List.le_trans (List.not_lt.1 h1') (List.not_lt.1 h2'))
  by_cases c : x < z
  ·rw [if_pos c];omega
  ·rw [if_neg c,if_neg h3];omega
theorem wordCmp_eq : wordCmp = lexC (fun x y => ordI (if digitsB x then 0 else 1) (if digitsB y then 0 else 1)) (lexC (fun x y => ordI (if digitsB x then (x.length : Int) else 0) (if digitsB y then (y.length : Int) else 0)) Lib.compareBytes):=by
 funext x y
 unfold wordCmp lexC
 cases hx : digitsB x <;> cases hy : digitsB y
 ·simp [ordI,hx,hy]
 ·simp [ordI,hx,hy]
 ·simp [ordI,hx,hy]
 ·simp only [Bool.and_self,if_true,ordI_self,hx,hy]
  rw [if_neg (show ¬ ((0 : Int) ≠ 0) by decide)]
  unfold ordI
  by_cases a : x.length < y.length
  ·have e : (x.length : Int) < y.length:=by omega
   simp [a,e]
  ·by_cases b : y.length < x.length
   ·have e : ¬ (x.length : Int) < y.length:=by omega
    have e2 : (y.length : Int) < x.length:=by omega
    simp [a,b]
   ·have e : ¬ (x.length : Int) < y.length:=by omega
    have e2 : ¬ (y.length : Int) < x.length:=by omega
    simp [a,b]
theorem word_cmp : Cmp wordCmp:=by
 rw [wordCmp_eq]
 exact (ordI_cmp.on _).lex ((ordI_cmp.on _).lex bytes_cmp)
theorem words_swap : ∀ x y : List (List UInt8),wordsCmp y x = - wordsCmp x y
 | [],[] => rfl
 | [],_ :: _ => rfl
 | _ :: _,[] => rfl
 | x :: xs,y :: ys => by
  have h:=word_cmp.swap x y
  have ih:=words_swap xs ys
  rw [wordsCmp,wordsCmp]
  by_cases a : wordCmp x y = 0
  ·rw [if_pos a,if_pos q5_,ih]
  ·rw [if_neg a,if_neg q5_,h]
theorem words_trans : ∀ x y z : List (List UInt8),wordsCmp x y ≤ 0 → wordsCmp y z ≤ 0 → wordsCmp x z ≤ 0
 | [],_,[],_,_ => Int.le_refl _
 | [],_,_ :: _,_,_ => (q30_ : (-1 : Int) ≤ 0)
 | _ :: _,[],_,h,_ => absurd h (by show ¬ (1 : Int) ≤ 0;decide)
 | _ :: _,_ :: _,[],_,h => absurd h (by show ¬ (1 : Int) ≤ 0;decide)
 | x :: xs,y :: ys,z :: zs,h1,h2 => by
  rw [wordsCmp] at h1 h2 ⊢
  have e1:=word_cmp.swap x y
  have e2:=word_cmp.swap y z
  have e3:=word_cmp.swap x z
  by_cases a : wordCmp x y = 0
  ·rw [if_pos a] at h1
   by_cases b : wordCmp y z = 0
   ·rw [if_pos b] at h2
    have c1:=word_cmp.trans x y z q5_ q5_
    have c2:=word_cmp.trans z y x q5_ q5_
    rw [if_pos q5_]
    exact words_trans xs ys zs h1 h2
   ·rw [if_neg b] at h2
    have c:=word_cmp.le_lt (x:=x) (y:=y) (z:=z) q5_ q5_
    rw [if_neg q5_]
    omega
  ·rw [if_neg a] at h1
   have h3 : wordCmp y z ≤ 0:=by
    by_cases b : wordCmp y z = 0
    ·omega
    ·rw [if_neg b] at h2;exact h2
   have c:=word_cmp.lt_le (x:=x) (y:=y) (z:=z) q5_ h3
   rw [if_neg q5_]
   omega
theorem words_cmp : Cmp wordsCmp:=⟨words_swap,words_trans⟩
theorem preCmp_eq : preCmp = lexC (fun a b => ordI (if a = [] then 1 else 0) (if b = [] then 1 else 0)) (fun a b => wordsCmp (splitL 46 a) (splitL 46 b)):=by
 funext a b
 unfold preCmp lexC
 dsimp only
 by_cases h : a = b
 ·subst h
  have e:=wordsCmp_self (splitL 46 a)
  simp [ordI_self,e]
 ·by_cases ha : a = []
  ·have hb : ¬ b = []:=fun e => h (ha.trans e.symm)
   have hb2 : ¬ [] = b:=fun e => hb e.symm
   subst ha
   simp [hb,hb2,ordI]
  ·by_cases hb : b = []
   ·subst hb
    simp [ha,ordI]
   ·simp [h,ha,hb,ordI]
theorem pre_cmp : Cmp preCmp:=by
 rw [preCmp_eq]
 exact (ordI_cmp.on _).lex (words_cmp.on _)
def vcmp (x y : Req) : Int:=lexC (fun x y : Req => ordI x.f1.f0 y.f1.f0) (lexC (fun x y : Req => ordI x.f1.f1 y.f1.f1) (lexC (fun x y : Req => ordI x.f1.f2 y.f1.f2) (fun x y : Req => preCmp x.f1.f3.data.toList y.f1.f3.data.toList))) x y
theorem vcmp_cmp : Cmp vcmp:=(ordI_cmp.on _).lex ((ordI_cmp.on _).lex ((ordI_cmp.on _).lex (pre_cmp.on _)))
theorem cmpB_eq (x y : Req) (hx : verR x = true) (hy : verR y = true) : cmpB x y = vcmp x y:=by
 unfold cmpB
 rw [hx,hy]
 rfl
theorem may_ver {r : Req} (h : mayB r = true) : verR r = true:=by
 unfold mayB fitsB at h
 simp only [Bool.and_eq_true] at h
 exact h.1.2
theorem cmpB_may {x y : Req} (hx : mayB x = true) (hy : mayB y = true) : cmpB x y = vcmp x y:=cmpB_eq x y (may_ver hx) (may_ver hy)
end Go.Proofs.YtennhpoemdaghaaGreatDoor.P
end
section
namespace Go.Proofs.YtennhpoemdaghaaGreatDoor.P
open Go Go.RowKit Go.Proofs.YtennhpoemdaghaaGreatDoorW.PrintWords
inductive Reach (root : List Req) (nodes : List Node) : Req → Prop
 | root {r : Req} : r ∈ root → mayB r = true → Reach root nodes r
 | step {y r : Req} : Reach root nodes y → r ∈ reqsP nodes y → mayB r = true → Reach root nodes r
theorem Reach.may {root : List Req} {nodes : List Node} {r : Req} (h : Reach root nodes r) : mayB r = true:=by
 cases h with
 | root _ h => exact h
 | step _ _ h => exact h
def univ (root : List Req) (nodes : List Node) : List Req:=root ++ nodes.flatMap (·.f1)
theorem reqs_sub : ∀ (nodes : List Node) (r : Req),reqsP nodes r = [] ∨ ∃ n ∈ nodes,reqsP nodes r = n.f1 ∧ n.f0 = r
 | [],_ => .inl rfl
 | n :: ns,r => by
  rw [reqsP]
  split
  ·rename_i h
   exact .inr ⟨n,by simp,rfl,eqR_iff.1 h⟩
  ·rcases reqs_sub ns r with h | ⟨m,hm,h⟩
   ·exact .inl h
   ·exact .inr ⟨m,by simp [hm],h⟩
theorem reqs_univ (root : List Req) (nodes : List Node) (r : Req) : (∀ x ∈ reqsP nodes r,x ∈ univ root nodes) ∧ (reqsP nodes r).length ≤ (univ root nodes).length:=by
 rcases reqs_sub nodes r with h | ⟨n,hn,h,_⟩
 ·rw [h];simp
 ·rw [h]
  refine ⟨fun x hx => List.mem_append.2 (.inr (List.mem_flatMap.2 ⟨n,hn,hx⟩)),?_⟩
  unfold univ
  rw [List.length_append,List.length_flatMap]
  have : n.f1.length ∈ nodes.map (fun n => n.f1.length):=List.mem_map.2 ⟨n,hn,rfl⟩
  have h2 : ∀ (l : List Nat) (a : Nat),a ∈ l → a ≤ l.sum:=fun l => by
   induction l with
   | nil => intro a h;exact absurd h q25_
   | cons b l ih =>
    intro a h
    rw [List.sum_cons]
    rcases List.mem_cons.1 h with rfl | h
    ·omega
    ·have:=ih a h;omega
  have:=h2 _ _ this
  omega
theorem nodup_len : ∀ (l m : List Req),l.Nodup → (∀ x ∈ l,x ∈ m) → l.length ≤ m.length
 | [],m,_,_ => Nat.zero_le _
 | x :: l,m,hn,hs => by
  obtain ⟨h1,h2⟩:=List.nodup_cons.1 hn
  obtain ⟨a,b,rfl⟩:=List.append_of_mem (hs x q25_)
  have:=nodup_len l (a ++ b) h2 (fun y hy => by
   have:=hs y (by simp [hy])
   rcases List.mem_append.1 this with h | h
   ·exact List.mem_append.2 (.inl h)
   ·rcases List.mem_cons.1 h with rfl | h
    ·exact absurd hy h1
    ·exact List.mem_append.2 (.inr h))
  simp only [List.length_cons,List.length_append] at this ⊢
  omega
theorem addL_pre : ∀ (l all : List Req),∃ t,addL all l = all ++ t
 | [],all => ⟨[],by simp [addL]⟩
 | x :: rs,all => by
  rw [addL]
  split
  ·obtain ⟨t,h⟩:=addL_pre rs (all ++ [x])
   exact ⟨x :: t,by rw [h,List.append_assoc];rfl⟩
  ·exact addL_pre rs all
structure WInv (root : List Req) (nodes : List Node) (all : List Req) (i : Nat) : Prop where
 le : i ≤ all.length
 nodup : all.Nodup
 reach : ∀ r ∈ all,Reach root nodes r
 sub : ∀ r ∈ all,r ∈ univ root nodes
 root : ∀ r ∈ root,mayB r = true → r ∈ all
 done : ∀ (j : Nat) (h : j < i) (hj : j < all.length),∀ r ∈ reqsP nodes all[j],mayB r = true → r ∈ all
theorem WInv.start (root : List Req) (nodes : List Node) : WInv root nodes (addL [] root) 0:=by
 have h : ∀ r,r ∈ addL [] root ↔ r ∈ root ∧ mayB r = true:=fun r => by rw [addL_mem];simp
 exact ⟨Nat.zero_le _,addL_nodup root [] List.nodup_nil,fun r hr => .root ((h r).1 hr).1 ((h r).1 hr).2,fun r hr => List.mem_append.2 (.inl ((h r).1 hr).1),fun r hr hm => (h r).2 ⟨hr,hm⟩,fun j hj => absurd hj q5_⟩
theorem WInv.next {root : List Req} {nodes : List Node} {all : List Req} {i : Nat} (h : WInv root nodes all i) (hi : i < all.length) : WInv root nodes (addL all (reqsP nodes all[i])) (i + 1):=by
 obtain ⟨t,ht⟩:=addL_pre (reqsP nodes all[i]) all
 have hm : ∀ r,r ∈ addL all (reqsP nodes all[i]) ↔ r ∈ all ∨ (r ∈ reqsP nodes all[i] ∧ mayB r = true):=fun r => addL_mem _ _ _
 have hl : all.length ≤ (addL all (reqsP nodes all[i])).length:=by rw [ht,List.length_append];omega
 have hg : ∀ (j : Nat) (h1 : j < all.length) (h2 : j < (addL all (reqsP nodes all[i])).length),(addL all (reqsP nodes all[i]))[j] = all[j]:=fun j h1 h2 => by
  simp only [ht]
  exact List.getElem_append_left h1
 refine ⟨by omega,addL_nodup _ _ h.nodup,fun r hr => ?_,fun r hr => ?_,fun r hr hy => (hm r).2 (.inl (h.root r hr hy)),fun j hj hj2 r hr hy => ?_⟩
 ·rcases (hm r).1 hr with hr | ⟨h1,h2⟩
  ·exact h.reach r hr
  ·exact .step (h.reach _ (List.getElem_mem hi)) h1 h2
 ·rcases (hm r).1 hr with hr | ⟨h1,h2⟩
  ·exact h.sub r hr
  ·exact (reqs_univ root nodes _).1 r h1
 ·have hj3 : j < all.length:=by omega
  rw [hg j hj3 hj2] at hr
  rcases Nat.lt_or_ge j i with h1 | h1
  ·exact (hm r).2 (.inl (h.done j h1 hj3 r hr hy))
  ·have e : j = i:=by omega
   subst e
   exact (hm r).2 (.inr ⟨hr,hy⟩)
theorem WInv.len {root : List Req} {nodes : List Node} {all : List Req} {i : Nat} (h : WInv root nodes all i) : all.length ≤ (univ root nodes).length:=nodup_len _ _ h.nodup h.sub
theorem walk_ends (root : List Req) (nodes : List Node) (hU : (univ root nodes).length ≤ 500000) : ∀ (k : Nat) (all : List Req) (i : Nat),WInv root nodes all i → (univ root nodes).length - i < k → ∃ out,walkP nodes k all i = some out ∧ WInv root nodes out out.length
 | 0,all,i,h,hk => absurd hk q5_
 | k + 1,all,i,h,hk => by
  rw [walkP]
  have hl:=h.len
  split
  ·rename_i hi
   have hr:=(reqs_univ root nodes all[i]).2
   rw [moreP_eq _ _ q5_,Option.bind_some]
   exact walk_ends root nodes hU k _ _ (h.next hi) q5_
  ·rename_i hi
   have e : i = all.length:=by have:=h.le;omega
   exact ⟨all,rfl,e ▸ h⟩
theorem walk_more (nodes : List Node) : ∀ (k : Nat) (all : List Req) (i : Nat) (out : List Req),walkP nodes k all i = some out → walkP nodes (k + 1) all i = some out
 | 0,all,i,out,h => absurd h (by simp [walkP])
 | k + 1,all,i,out,h => by
  rw [walkP] at h
  rw [walkP]
  split
  ·rename_i hi
   rw [dif_pos hi] at h
   obtain ⟨a,h1,h2⟩:=Option.bind_eq_some_iff.mp h
   rw [h1,Option.bind_some]
   exact walk_more nodes k _ _ _ h2
  ·rename_i hi
   rw [dif_neg hi] at h
   exact h
def reachL (root : List Req) (nodes : List Node) : List Req:=(walkP nodes ((univ root nodes).length + 1) (addL [] root) 0).getD []
theorem reachL_at (root : List Req) (nodes : List Node) (hU : (univ root nodes).length ≤ 500000) : ∀ k,(univ root nodes).length < k → walkP nodes k (addL [] root) 0 = some (reachL root nodes):=by
 obtain ⟨out,h1,_⟩:=walk_ends root nodes hU ((univ root nodes).length + 1) _ 0 (WInv.start root nodes) q5_
 have e : reachL root nodes = out:=by unfold reachL;rw [h1];rfl
 intro k hk
 obtain ⟨d,rfl⟩ : ∃ d,k = (univ root nodes).length + 1 + d:=⟨k - ((univ root nodes).length + 1),by omega⟩
 rw [e]
 clear hk
 induction d with
 | zero => exact h1
 | succ d ih => exact walk_more _ _ _ _ _ ih
theorem reachL_inv (root : List Req) (nodes : List Node) (hU : (univ root nodes).length ≤ 500000) : WInv root nodes (reachL root nodes) (reachL root nodes).length:=by
 obtain ⟨out,h1,h2⟩:=walk_ends root nodes hU ((univ root nodes).length + 1) _ 0 (WInv.start root nodes) q5_
 have e : reachL root nodes = out:=by unfold reachL;rw [h1];rfl
 rw [e]
 exact h2
theorem reached_eq (root : List Req) (nodes : List Node) (hU : (univ root nodes).length ≤ 500000) : mvs_Reached.f root nodes = some (reachL root nodes):=by
 unfold mvs_Reached.f
 have hl : root.length ≤ (univ root nodes).length:=by unfold univ;rw [List.length_append];omega
 rw [moreP_eq root [] (by rw [List.length_nil];omega),Option.bind_some]
 exact reachL_at root nodes hU fuelW (by show _ < 1000002;omega)
theorem mem_reachL {root : List Req} {nodes : List Node} (hU : (univ root nodes).length ≤ 500000) {r : Req} : r ∈ reachL root nodes ↔ Reach root nodes r:=by
 have h:=reachL_inv root nodes hU
 refine ⟨h.reach r,fun hr => ?_⟩
 induction hr with
 | root h1 h2 => exact h.root _ h1 h2
 | step _ h1 h2 ih =>
  obtain ⟨j,hj,rfl⟩:=List.mem_iff_getElem.1 ih
  exact h.done j hj hj _ h1 h2
end Go.Proofs.YtennhpoemdaghaaGreatDoor.P
end
section
namespace Go.Proofs.YtennhpoemdaghaaGreatDoor.P
open Go Go.RowKit Go.Proofs.YtennhpoemdaghaaGreatDoorW.PrintWords Go.Proofs.YtennhpoemdaghaaGreatDoorW.PrintLast Go.Proofs.YtennhpoemdaghaaGreatDoorW.PrintMore
def zR : Req:=⟨⟨#[]⟩,0,0,0,⟨#[]⟩,⟨#[]⟩⟩
theorem zeroReq (w : World) : (zeroValue 41).run Tryz.prog w = .ok (valR zR) w:=by go_simp;rfl
theorem lawS : Maps.Keyed Tryz.prog 9:=Maps.string_keyed Tryz.underlying9
theorem below_grow {w w' : World} (h : Below w.heap.size w w') : w.grownBy w' none:=⟨h.os,h.tape,h.output,h.size,fun k hk _ => h.block k hk⟩
theorem _root_.Go.World.ownsMap.below2 {w w' : World} {P : Program} {k : TypeId} {R : Value → Option (DW × List MemPlace)} {b n : Nat} {D : DW} (h : w.ownsMap P k R b n D) (hb : Below w.heap.size w w') : w'.ownsMap P k R b n D:=h.kept (below_grow hb) q25_
set_option maxRecDepth 100000 in
set_option maxHeartbeats 4000000 in
theorem take_calls (b n : Nat) (L L' : List Req) (r : Req) (w0 w : World) (hb0 : Below w0.heap.size w0 w) (hbB : w0.heap.size ≤ b) (hE : Env w0) (hm0 : OwnB w b n L) (hn : n < maxLen) (ht : takeP L r = some L') :
  Calls Tryz.prog 52 #[.agg #[.map (some b)],.agg #[.string r.f0,.int .i64 r.f1.f0,.int .i64 r.f1.f1,.int .i64 r.f1.f2,.string r.f1.f3,.string r.f1.f4]] w fun e w' => e = .returned (.tuple #[]) ∧ OwnB w' b (n + 1) L' ∧ Below w0.heap.size w0 w' ∧ w.grownBy w' (some b):=by
 have HB:=Aside0.mk hb0
 have HD:=Aside0.mk (Below.refl w.heap.size w)
 have HM:=Aside0.mk hm0
 have HE:=Aside0.mk hE
 have HSB:=Aside0.mk hbB
 have HS:=Aside0.mk hb0.size
 unfold takeP at ht
 split at ht
 case isFalse => exact absurd ht q25_
 case isTrue hsz =>
 have hkey : keyOf Tryz.prog 9 (.string r.f0) = some (keyL r.f0):=WideMaps.keyOf_string_mk Tryz.underlying9 (by unfold maxLen;omega)
 obtain ⟨D,hm,hbe⟩:=hm0
 clear hb0 hE hbB hsz
 rcases hbe.find r.f0 (datR zR) with ⟨hf,hhas,hat⟩ | ⟨x,hf,hhas,hat⟩
 ·rw [hf] at ht
  obtain rfl:=Option.some.inj ht
  clear ht
  go_enter Tryz.func52,Tryz.ntmps52
  go_wp2_with (first | ((with_reducible refine gate_dst (N:=2) rfl ?_);refine bx_ 2 80 #[.map (some b)] ?_;intro g2 hg_ w2 hbox hb_;replace HB:=Aside0.mk (below_then HB.out HB.out.size hb_);replace HD:=Aside0.mk (below_then HD.out HD.out.size hb_);replace HM:=Aside0.mk (HM.out.below hb_);have B2:=Aside0.mk hbox;clear hbox hb_ hg_;have hB21_0 : w2.cell? ⟨g2,0,none⟩ = some _:=(blk_cell B2.out 0).trans rfl) | ((with_reducible refine gate_dst (N:=3) rfl ?_);refine bx_ 3 41 #[.string r.f0,.int .i64 r.f1.f0,.int .i64 r.f1.f1,.int .i64 r.f1.f2,.string r.f1.f3,.string r.f1.f4] ?_;intro g3 hg_ w3 hbox hb_;replace HB:=Aside0.mk (below_then HB.out HB.out.size hb_);replace HD:=Aside0.mk (below_then HD.out HD.out.size hb_);replace HM:=Aside0.mk (HM.out.below hb_);replace B2:=Aside0.mk (blk_below B2.out hb_);have B3:=Aside0.mk hbox;clear hbox hb_ hg_;have hB22_0 : w3.cell? ⟨g2,0,none⟩ = some _:=(blk_cell B2.out 0).trans rfl;have hB32_0 : w3.cell? ⟨g3,0,none⟩ = some _:=(blk_cell B3.out 0).trans rfl;have hB32_1 : w3.cell? ⟨g3,1,none⟩ = some _:=(blk_cell B3.out 1).trans rfl;have hB32_2 : w3.cell? ⟨g3,2,none⟩ = some _:=(blk_cell B3.out 2).trans rfl;have hB32_3 : w3.cell? ⟨g3,3,none⟩ = some _:=(blk_cell B3.out 3).trans rfl;have hB32_4 : w3.cell? ⟨g3,4,none⟩ = some _:=(blk_cell B3.out 4).trans rfl;have hB32_5 : w3.cell? ⟨g3,5,none⟩ = some _:=(blk_cell B3.out 5).trans rfl) | ((with_reducible refine gate_dst (N:=11) rfl ?_);refine wpList_lookup_own_ok _ rfl (.tmp 8) (.tmp 10) 78 rfl 9 41 lawS Tryz.underlying78 reqR (zeroReq _) (datR zR) [] rfl b n D rfl ?ow _ (keyL r.f0) rfl hkey ?_;(case ow => exact (hm.below2 HD.out));intro v ps hv;obtain ⟨rv,hrv,hy⟩:=reqR_inv hv;obtain rfl : zR = rv:=(datR_inj ((Prod.mk.inj hy).1.symm.trans hat)).symm;subst hrv;rw [hhas];clear hv hy) | ((with_reducible refine gate_dst (N:=4) rfl ?_);refine bx_ 4 41 #[.string (⟨#[]⟩ : ByteArray),.int .i64 0,.int .i64 0,.int .i64 0,.string (⟨#[]⟩ : ByteArray),.string (⟨#[]⟩ : ByteArray)] ?_;intro g4 hg_ w4 hbox hb_;have hsz_:=HD.out.size;have n34_ : g3 ≠ g4:=q27_;have n24_ : g2 ≠ g4:=q28_;have nb_ : b ≠ g4:=q29_;replace HB:=Aside0.mk (below_then HB.out HB.out.size hb_);replace HD:=Aside0.mk (below_then HD.out HD.out.size hb_);replace HM:=Aside0.mk (HM.out.below hb_);replace B2:=Aside0.mk (blk_below B2.out hb_);replace B3:=Aside0.mk (blk_below B3.out hb_);have B4:=Aside0.mk hbox;have G4:=Aside0.mk ((by rw [hg_];exact hsz_) : w.heap.size ≤ g4);have N34:=Aside0.mk (n34_ : g3 ≠ g4);have N24:=Aside0.mk (n24_ : g2 ≠ g4);have NB:=Aside0.mk (nb_ : b ≠ g4);clear n34_ n24_ nb_ hsz_;clear hbox hb_ hg_;have hB23_0 : w4.cell? ⟨g2,0,none⟩ = some _:=(blk_cell B2.out 0).trans rfl;have hB33_0 : w4.cell? ⟨g3,0,none⟩ = some _:=(blk_cell B3.out 0).trans rfl;have hB33_1 : w4.cell? ⟨g3,1,none⟩ = some _:=(blk_cell B3.out 1).trans rfl;have hB33_2 : w4.cell? ⟨g3,2,none⟩ = some _:=(blk_cell B3.out 2).trans rfl;have hB33_3 : w4.cell? ⟨g3,3,none⟩ = some _:=(blk_cell B3.out 3).trans rfl;have hB33_4 : w4.cell? ⟨g3,4,none⟩ = some _:=(blk_cell B3.out 4).trans rfl;have hB33_5 : w4.cell? ⟨g3,5,none⟩ = some _:=(blk_cell B3.out 5).trans rfl;have hB43_0 : w4.cell? ⟨g4,0,none⟩ = some _:=(blk_cell B4.out 0).trans rfl;have hB43_1 : w4.cell? ⟨g4,1,none⟩ = some _:=(blk_cell B4.out 1).trans rfl;have hB43_2 : w4.cell? ⟨g4,2,none⟩ = some _:=(blk_cell B4.out 2).trans rfl;have hB43_3 : w4.cell? ⟨g4,3,none⟩ = some _:=(blk_cell B4.out 3).trans rfl;have hB43_4 : w4.cell? ⟨g4,4,none⟩ = some _:=(blk_cell B4.out 4).trans rfl;have hB43_5 : w4.cell? ⟨g4,5,none⟩ = some _:=(blk_cell B4.out 5).trans rfl) | ((with_reducible refine gate_ (.store 41 (.tmp 4) (.tmp 12)) rfl ?_);refine store_event 41 (.tmp 4) (.tmp 12) rfl rfl rfl 0 41 _ #[.string zR.f0,.int .i64 zR.f1.f0,.int .i64 zR.f1.f1,.int .i64 zR.f1.f2,.string zR.f1.f3,.string zR.f1.f4] _ [.string zR.f0,.int .i64 zR.f1.f0,.int .i64 zR.f1.f1,.int .i64 zR.f1.f2,.string zR.f1.f3,.string zR.f1.f4] rfl rfl rfl q9_ q44_ B4.out (Nat.le_refl 6) q55_ ?_;intro w5 hh5 hg5;have q3:=Aside0.mk (blk_grown B3.out hg5 (fun he => N34.out (Option.some.inj he)));have q2:=Aside0.mk (blk_grown B2.out hg5 (fun he => N24.out (Option.some.inj he)));have q4:=Aside0.mk hh5;have m1:=Aside0.mk (below_grown HB.out hg5 (Nat.le_trans HS.out G4.out) HB.out.size);have m2:=Aside0.mk (below_grown HD.out hg5 G4.out HD.out.size);have m3:=Aside0.mk (HM.out.kept hg5 (fun he => NB.out (Option.some.inj he)));clear HB HD HM B2 B3 B4 hh5 hg5;have HB:=m1;have HD:=m2;have HM:=m3;have B2:=q2;have B3:=q3;have B4:=q4;clear m1 m2 m3 q2 q3 q4;have hB24_0 : w5.cell? ⟨g2,0,none⟩ = some _:=(blk_cell B2.out 0).trans rfl;have hB34_0 : w5.cell? ⟨g3,0,none⟩ = some _:=(blk_cell B3.out 0).trans rfl;have hB34_1 : w5.cell? ⟨g3,1,none⟩ = some _:=(blk_cell B3.out 1).trans rfl;have hB34_2 : w5.cell? ⟨g3,2,none⟩ = some _:=(blk_cell B3.out 2).trans rfl;have hB34_3 : w5.cell? ⟨g3,3,none⟩ = some _:=(blk_cell B3.out 3).trans rfl;have hB34_4 : w5.cell? ⟨g3,4,none⟩ = some _:=(blk_cell B3.out 4).trans rfl;have hB34_5 : w5.cell? ⟨g3,5,none⟩ = some _:=(blk_cell B3.out 5).trans rfl;have hB44_0 : w5.cell? ⟨g4,0,none⟩ = some _:=(blk_cell B4.out 0).trans rfl;have hB44_1 : w5.cell? ⟨g4,1,none⟩ = some _:=(blk_cell B4.out 1).trans rfl;have hB44_2 : w5.cell? ⟨g4,2,none⟩ = some _:=(blk_cell B4.out 2).trans rfl;have hB44_3 : w5.cell? ⟨g4,3,none⟩ = some _:=(blk_cell B4.out 3).trans rfl;have hB44_4 : w5.cell? ⟨g4,4,none⟩ = some _:=(blk_cell B4.out 4).trans rfl;have hB44_5 : w5.cell? ⟨g4,5,none⟩ = some _:=(blk_cell B4.out 5).trans rfl) | ((with_reducible refine gate_ (.mapUpdate 78 (.tmp 25) (.tmp 27) (.tmp 28)) rfl ?_);obtain ⟨D2,ho2,hb2⟩:=HM.out;refine wpList_mapUpdate_own _ rfl (.tmp 25) (.tmp 27) (.tmp 28) 78 rfl 9 41 lawS Tryz.underlying78 reqR b n D2 rfl ho2 hn _ (valR r) (keyL r.f0) rfl rfl hkey (datR r) [] rfl ?_;intro w7 ho7 hg7))
  go_end0
  exact ⟨rfl,⟨_,ho7,hb2.add hf⟩,below_grown HB.out hg7 HSB.out HB.out.size,((below_grow HD.out).but (some b)).andThen hg7 (fun j hj => .inr hj)⟩
 ·rw [hf] at ht
  obtain ⟨c,hc,ht⟩:=Option.bind_eq_some_iff.mp ht
  replace hc : ver_Compare.f fuelR r.f1.f0 r.f1.f1 r.f1.f2 r.f1.f3 r.f1.f4 x.f1.f0 x.f1.f1 x.f1.f2 x.f1.f3 x.f1.f4 = some c:=hc
  obtain rfl:=Option.some.inj ht
  clear ht
  by_cases h0 : c > 0
  ·have hg0 : ((0 : Int) < c) = True:=eq_true h0
   rw [if_pos h0]
   go_enter Tryz.func52,Tryz.ntmps52
   go_wp2_with (first | ((with_reducible refine gate_dst (N:=2) rfl ?_);refine bx_ 2 80 #[.map (some b)] ?_;intro g2 hg_ w2 hbox hb_;replace HB:=Aside0.mk (below_then HB.out HB.out.size hb_);replace HD:=Aside0.mk (below_then HD.out HD.out.size hb_);replace HM:=Aside0.mk (HM.out.below hb_);have B2:=Aside0.mk hbox;clear hbox hb_ hg_;have hB21_0 : w2.cell? ⟨g2,0,none⟩ = some _:=(blk_cell B2.out 0).trans rfl) | ((with_reducible refine gate_dst (N:=3) rfl ?_);refine bx_ 3 41 #[.string r.f0,.int .i64 r.f1.f0,.int .i64 r.f1.f1,.int .i64 r.f1.f2,.string r.f1.f3,.string r.f1.f4] ?_;intro g3 hg_ w3 hbox hb_;replace HB:=Aside0.mk (below_then HB.out HB.out.size hb_);replace HD:=Aside0.mk (below_then HD.out HD.out.size hb_);replace HM:=Aside0.mk (HM.out.below hb_);replace B2:=Aside0.mk (blk_below B2.out hb_);have B3:=Aside0.mk hbox;clear hbox hb_ hg_;have hB22_0 : w3.cell? ⟨g2,0,none⟩ = some _:=(blk_cell B2.out 0).trans rfl;have hB32_0 : w3.cell? ⟨g3,0,none⟩ = some _:=(blk_cell B3.out 0).trans rfl;have hB32_1 : w3.cell? ⟨g3,1,none⟩ = some _:=(blk_cell B3.out 1).trans rfl;have hB32_2 : w3.cell? ⟨g3,2,none⟩ = some _:=(blk_cell B3.out 2).trans rfl;have hB32_3 : w3.cell? ⟨g3,3,none⟩ = some _:=(blk_cell B3.out 3).trans rfl;have hB32_4 : w3.cell? ⟨g3,4,none⟩ = some _:=(blk_cell B3.out 4).trans rfl;have hB32_5 : w3.cell? ⟨g3,5,none⟩ = some _:=(blk_cell B3.out 5).trans rfl) | ((with_reducible refine gate_dst (N:=11) rfl ?_);refine wpList_lookup_own_ok _ rfl (.tmp 8) (.tmp 10) 78 rfl 9 41 lawS Tryz.underlying78 reqR (zeroReq _) (datR zR) [] rfl b n D rfl ?ow _ (keyL r.f0) rfl hkey ?_;(case ow => exact (hm.below2 HD.out));intro v ps hv;obtain ⟨rv,hrv,hy⟩:=reqR_inv hv;obtain rfl : x = rv:=(datR_inj ((Prod.mk.inj hy).1.symm.trans hat)).symm;subst hrv;rw [hhas];clear hv hy) | ((with_reducible refine gate_dst (N:=4) rfl ?_);refine bx_ 4 41 #[.string (⟨#[]⟩ : ByteArray),.int .i64 0,.int .i64 0,.int .i64 0,.string (⟨#[]⟩ : ByteArray),.string (⟨#[]⟩ : ByteArray)] ?_;intro g4 hg_ w4 hbox hb_;have hsz_:=HD.out.size;have n34_ : g3 ≠ g4:=q27_;have n24_ : g2 ≠ g4:=q28_;have nb_ : b ≠ g4:=q29_;replace HB:=Aside0.mk (below_then HB.out HB.out.size hb_);replace HD:=Aside0.mk (below_then HD.out HD.out.size hb_);replace HM:=Aside0.mk (HM.out.below hb_);replace B2:=Aside0.mk (blk_below B2.out hb_);replace B3:=Aside0.mk (blk_below B3.out hb_);have B4:=Aside0.mk hbox;have G4:=Aside0.mk ((by rw [hg_];exact hsz_) : w.heap.size ≤ g4);have N34:=Aside0.mk (n34_ : g3 ≠ g4);have N24:=Aside0.mk (n24_ : g2 ≠ g4);have NB:=Aside0.mk (nb_ : b ≠ g4);clear n34_ n24_ nb_ hsz_;clear hbox hb_ hg_;have hB23_0 : w4.cell? ⟨g2,0,none⟩ = some _:=(blk_cell B2.out 0).trans rfl;have hB33_0 : w4.cell? ⟨g3,0,none⟩ = some _:=(blk_cell B3.out 0).trans rfl;have hB33_1 : w4.cell? ⟨g3,1,none⟩ = some _:=(blk_cell B3.out 1).trans rfl;have hB33_2 : w4.cell? ⟨g3,2,none⟩ = some _:=(blk_cell B3.out 2).trans rfl;have hB33_3 : w4.cell? ⟨g3,3,none⟩ = some _:=(blk_cell B3.out 3).trans rfl;have hB33_4 : w4.cell? ⟨g3,4,none⟩ = some _:=(blk_cell B3.out 4).trans rfl;have hB33_5 : w4.cell? ⟨g3,5,none⟩ = some _:=(blk_cell B3.out 5).trans rfl;have hB43_0 : w4.cell? ⟨g4,0,none⟩ = some _:=(blk_cell B4.out 0).trans rfl;have hB43_1 : w4.cell? ⟨g4,1,none⟩ = some _:=(blk_cell B4.out 1).trans rfl;have hB43_2 : w4.cell? ⟨g4,2,none⟩ = some _:=(blk_cell B4.out 2).trans rfl;have hB43_3 : w4.cell? ⟨g4,3,none⟩ = some _:=(blk_cell B4.out 3).trans rfl;have hB43_4 : w4.cell? ⟨g4,4,none⟩ = some _:=(blk_cell B4.out 4).trans rfl;have hB43_5 : w4.cell? ⟨g4,5,none⟩ = some _:=(blk_cell B4.out 5).trans rfl) | ((with_reducible refine gate_ (.store 41 (.tmp 4) (.tmp 12)) rfl ?_);refine store_event 41 (.tmp 4) (.tmp 12) rfl rfl rfl 0 41 _ #[.string x.f0,.int .i64 x.f1.f0,.int .i64 x.f1.f1,.int .i64 x.f1.f2,.string x.f1.f3,.string x.f1.f4] _ [.string x.f0,.int .i64 x.f1.f0,.int .i64 x.f1.f1,.int .i64 x.f1.f2,.string x.f1.f3,.string x.f1.f4] rfl rfl rfl q9_ q44_ B4.out (Nat.le_refl 6) q55_ ?_;intro w5 hh5 hg5;have q3:=Aside0.mk (blk_grown B3.out hg5 (fun he => N34.out (Option.some.inj he)));have q2:=Aside0.mk (blk_grown B2.out hg5 (fun he => N24.out (Option.some.inj he)));have q4:=Aside0.mk hh5;have m1:=Aside0.mk (below_grown HB.out hg5 (Nat.le_trans HS.out G4.out) HB.out.size);have m2:=Aside0.mk (below_grown HD.out hg5 G4.out HD.out.size);have m3:=Aside0.mk (HM.out.kept hg5 (fun he => NB.out (Option.some.inj he)));clear HB HD HM B2 B3 B4 hh5 hg5;have HB:=m1;have HD:=m2;have HM:=m3;have B2:=q2;have B3:=q3;have B4:=q4;clear m1 m2 m3 q2 q3 q4;have hB24_0 : w5.cell? ⟨g2,0,none⟩ = some _:=(blk_cell B2.out 0).trans rfl;have hB34_0 : w5.cell? ⟨g3,0,none⟩ = some _:=(blk_cell B3.out 0).trans rfl;have hB34_1 : w5.cell? ⟨g3,1,none⟩ = some _:=(blk_cell B3.out 1).trans rfl;have hB34_2 : w5.cell? ⟨g3,2,none⟩ = some _:=(blk_cell B3.out 2).trans rfl;have hB34_3 : w5.cell? ⟨g3,3,none⟩ = some _:=(blk_cell B3.out 3).trans rfl;have hB34_4 : w5.cell? ⟨g3,4,none⟩ = some _:=(blk_cell B3.out 4).trans rfl;have hB34_5 : w5.cell? ⟨g3,5,none⟩ = some _:=(blk_cell B3.out 5).trans rfl;have hB44_0 : w5.cell? ⟨g4,0,none⟩ = some _:=(blk_cell B4.out 0).trans rfl;have hB44_1 : w5.cell? ⟨g4,1,none⟩ = some _:=(blk_cell B4.out 1).trans rfl;have hB44_2 : w5.cell? ⟨g4,2,none⟩ = some _:=(blk_cell B4.out 2).trans rfl;have hB44_3 : w5.cell? ⟨g4,3,none⟩ = some _:=(blk_cell B4.out 3).trans rfl;have hB44_4 : w5.cell? ⟨g4,4,none⟩ = some _:=(blk_cell B4.out 4).trans rfl;have hB44_5 : w5.cell? ⟨g4,5,none⟩ = some _:=(blk_cell B4.out 5).trans rfl) | (go_at_call 44;with_reducible refine (ver_Compare.calls fuelR r.f1.f0 r.f1.f1 r.f1.f2 r.f1.f3 r.f1.f4 x.f1.f0 x.f1.f1 x.f1.f2 x.f1.f3 x.f1.f4 c _ hc ?sideG).mono ?_;(case sideG => exact Env.below HE.out HB.out);rintro e w6 ⟨rfl,hb6⟩;replace HB:=Aside0.mk (below_then HB.out HB.out.size hb6);replace HD:=Aside0.mk (below_then HD.out HD.out.size hb6);replace HM:=Aside0.mk (HM.out.below hb6);replace B2:=Aside0.mk (blk_below B2.out hb6);replace B3:=Aside0.mk (blk_below B3.out hb6);replace B4:=Aside0.mk (blk_below B4.out hb6);have hB25_0 : w6.cell? ⟨g2,0,none⟩ = some _:=(blk_cell B2.out 0).trans rfl;have hB35_0 : w6.cell? ⟨g3,0,none⟩ = some _:=(blk_cell B3.out 0).trans rfl;have hB35_1 : w6.cell? ⟨g3,1,none⟩ = some _:=(blk_cell B3.out 1).trans rfl;have hB35_2 : w6.cell? ⟨g3,2,none⟩ = some _:=(blk_cell B3.out 2).trans rfl;have hB35_3 : w6.cell? ⟨g3,3,none⟩ = some _:=(blk_cell B3.out 3).trans rfl;have hB35_4 : w6.cell? ⟨g3,4,none⟩ = some _:=(blk_cell B3.out 4).trans rfl;have hB35_5 : w6.cell? ⟨g3,5,none⟩ = some _:=(blk_cell B3.out 5).trans rfl;have hB45_0 : w6.cell? ⟨g4,0,none⟩ = some _:=(blk_cell B4.out 0).trans rfl;have hB45_1 : w6.cell? ⟨g4,1,none⟩ = some _:=(blk_cell B4.out 1).trans rfl;have hB45_2 : w6.cell? ⟨g4,2,none⟩ = some _:=(blk_cell B4.out 2).trans rfl;have hB45_3 : w6.cell? ⟨g4,3,none⟩ = some _:=(blk_cell B4.out 3).trans rfl;have hB45_4 : w6.cell? ⟨g4,4,none⟩ = some _:=(blk_cell B4.out 4).trans rfl;have hB45_5 : w6.cell? ⟨g4,5,none⟩ = some _:=(blk_cell B4.out 5).trans rfl;clear hb6) | ((with_reducible refine gate_ (.mapUpdate 78 (.tmp 25) (.tmp 27) (.tmp 28)) rfl ?_);obtain ⟨D2,ho2,hb2⟩:=HM.out;refine wpList_mapUpdate_own _ rfl (.tmp 25) (.tmp 27) (.tmp 28) 78 rfl 9 41 lawS Tryz.underlying78 reqR b n D2 rfl ho2 hn _ (valR r) (keyL r.f0) rfl rfl hkey (datR r) [] rfl ?_;intro w7 ho7 hg7))
   go_end0
   exact ⟨rfl,⟨_,ho7,hb2.turn hf⟩,below_grown HB.out hg7 HSB.out HB.out.size,((below_grow HD.out).but (some b)).andThen hg7 (fun j hj => .inr hj)⟩
  ·have hg0 : ((0 : Int) < c) = False:=eq_false h0
   rw [if_neg h0]
   go_enter Tryz.func52,Tryz.ntmps52
   go_wp2_with (first | ((with_reducible refine gate_dst (N:=2) rfl ?_);refine bx_ 2 80 #[.map (some b)] ?_;intro g2 hg_ w2 hbox hb_;replace HB:=Aside0.mk (below_then HB.out HB.out.size hb_);replace HD:=Aside0.mk (below_then HD.out HD.out.size hb_);replace HM:=Aside0.mk (HM.out.below hb_);have B2:=Aside0.mk hbox;clear hbox hb_ hg_;have hB21_0 : w2.cell? ⟨g2,0,none⟩ = some _:=(blk_cell B2.out 0).trans rfl) | ((with_reducible refine gate_dst (N:=3) rfl ?_);refine bx_ 3 41 #[.string r.f0,.int .i64 r.f1.f0,.int .i64 r.f1.f1,.int .i64 r.f1.f2,.string r.f1.f3,.string r.f1.f4] ?_;intro g3 hg_ w3 hbox hb_;replace HB:=Aside0.mk (below_then HB.out HB.out.size hb_);replace HD:=Aside0.mk (below_then HD.out HD.out.size hb_);replace HM:=Aside0.mk (HM.out.below hb_);replace B2:=Aside0.mk (blk_below B2.out hb_);have B3:=Aside0.mk hbox;clear hbox hb_ hg_;have hB22_0 : w3.cell? ⟨g2,0,none⟩ = some _:=(blk_cell B2.out 0).trans rfl;have hB32_0 : w3.cell? ⟨g3,0,none⟩ = some _:=(blk_cell B3.out 0).trans rfl;have hB32_1 : w3.cell? ⟨g3,1,none⟩ = some _:=(blk_cell B3.out 1).trans rfl;have hB32_2 : w3.cell? ⟨g3,2,none⟩ = some _:=(blk_cell B3.out 2).trans rfl;have hB32_3 : w3.cell? ⟨g3,3,none⟩ = some _:=(blk_cell B3.out 3).trans rfl;have hB32_4 : w3.cell? ⟨g3,4,none⟩ = some _:=(blk_cell B3.out 4).trans rfl;have hB32_5 : w3.cell? ⟨g3,5,none⟩ = some _:=(blk_cell B3.out 5).trans rfl) | ((with_reducible refine gate_dst (N:=11) rfl ?_);refine wpList_lookup_own_ok _ rfl (.tmp 8) (.tmp 10) 78 rfl 9 41 lawS Tryz.underlying78 reqR (zeroReq _) (datR zR) [] rfl b n D rfl ?ow _ (keyL r.f0) rfl hkey ?_;(case ow => exact (hm.below2 HD.out));intro v ps hv;obtain ⟨rv,hrv,hy⟩:=reqR_inv hv;obtain rfl : x = rv:=(datR_inj ((Prod.mk.inj hy).1.symm.trans hat)).symm;subst hrv;rw [hhas];clear hv hy) | ((with_reducible refine gate_dst (N:=4) rfl ?_);refine bx_ 4 41 #[.string (⟨#[]⟩ : ByteArray),.int .i64 0,.int .i64 0,.int .i64 0,.string (⟨#[]⟩ : ByteArray),.string (⟨#[]⟩ : ByteArray)] ?_;intro g4 hg_ w4 hbox hb_;have hsz_:=HD.out.size;have n34_ : g3 ≠ g4:=q27_;have n24_ : g2 ≠ g4:=q28_;have nb_ : b ≠ g4:=q29_;replace HB:=Aside0.mk (below_then HB.out HB.out.size hb_);replace HD:=Aside0.mk (below_then HD.out HD.out.size hb_);replace HM:=Aside0.mk (HM.out.below hb_);replace B2:=Aside0.mk (blk_below B2.out hb_);replace B3:=Aside0.mk (blk_below B3.out hb_);have B4:=Aside0.mk hbox;have G4:=Aside0.mk ((by rw [hg_];exact hsz_) : w.heap.size ≤ g4);have N34:=Aside0.mk (n34_ : g3 ≠ g4);have N24:=Aside0.mk (n24_ : g2 ≠ g4);have NB:=Aside0.mk (nb_ : b ≠ g4);clear n34_ n24_ nb_ hsz_;clear hbox hb_ hg_;have hB23_0 : w4.cell? ⟨g2,0,none⟩ = some _:=(blk_cell B2.out 0).trans rfl;have hB33_0 : w4.cell? ⟨g3,0,none⟩ = some _:=(blk_cell B3.out 0).trans rfl;have hB33_1 : w4.cell? ⟨g3,1,none⟩ = some _:=(blk_cell B3.out 1).trans rfl;have hB33_2 : w4.cell? ⟨g3,2,none⟩ = some _:=(blk_cell B3.out 2).trans rfl;have hB33_3 : w4.cell? ⟨g3,3,none⟩ = some _:=(blk_cell B3.out 3).trans rfl;have hB33_4 : w4.cell? ⟨g3,4,none⟩ = some _:=(blk_cell B3.out 4).trans rfl;have hB33_5 : w4.cell? ⟨g3,5,none⟩ = some _:=(blk_cell B3.out 5).trans rfl;have hB43_0 : w4.cell? ⟨g4,0,none⟩ = some _:=(blk_cell B4.out 0).trans rfl;have hB43_1 : w4.cell? ⟨g4,1,none⟩ = some _:=(blk_cell B4.out 1).trans rfl;have hB43_2 : w4.cell? ⟨g4,2,none⟩ = some _:=(blk_cell B4.out 2).trans rfl;have hB43_3 : w4.cell? ⟨g4,3,none⟩ = some _:=(blk_cell B4.out 3).trans rfl;have hB43_4 : w4.cell? ⟨g4,4,none⟩ = some _:=(blk_cell B4.out 4).trans rfl;have hB43_5 : w4.cell? ⟨g4,5,none⟩ = some _:=(blk_cell B4.out 5).trans rfl) | ((with_reducible refine gate_ (.store 41 (.tmp 4) (.tmp 12)) rfl ?_);refine store_event 41 (.tmp 4) (.tmp 12) rfl rfl rfl 0 41 _ #[.string x.f0,.int .i64 x.f1.f0,.int .i64 x.f1.f1,.int .i64 x.f1.f2,.string x.f1.f3,.string x.f1.f4] _ [.string x.f0,.int .i64 x.f1.f0,.int .i64 x.f1.f1,.int .i64 x.f1.f2,.string x.f1.f3,.string x.f1.f4] rfl rfl rfl q9_ q44_ B4.out (Nat.le_refl 6) q55_ ?_;intro w5 hh5 hg5;have q3:=Aside0.mk (blk_grown B3.out hg5 (fun he => N34.out (Option.some.inj he)));have q2:=Aside0.mk (blk_grown B2.out hg5 (fun he => N24.out (Option.some.inj he)));have q4:=Aside0.mk hh5;have m1:=Aside0.mk (below_grown HB.out hg5 (Nat.le_trans HS.out G4.out) HB.out.size);have m2:=Aside0.mk (below_grown HD.out hg5 G4.out HD.out.size);have m3:=Aside0.mk (HM.out.kept hg5 (fun he => NB.out (Option.some.inj he)));clear HB HD HM B2 B3 B4 hh5 hg5;have HB:=m1;have HD:=m2;have HM:=m3;have B2:=q2;have B3:=q3;have B4:=q4;clear m1 m2 m3 q2 q3 q4;have hB24_0 : w5.cell? ⟨g2,0,none⟩ = some _:=(blk_cell B2.out 0).trans rfl;have hB34_0 : w5.cell? ⟨g3,0,none⟩ = some _:=(blk_cell B3.out 0).trans rfl;have hB34_1 : w5.cell? ⟨g3,1,none⟩ = some _:=(blk_cell B3.out 1).trans rfl;have hB34_2 : w5.cell? ⟨g3,2,none⟩ = some _:=(blk_cell B3.out 2).trans rfl;have hB34_3 : w5.cell? ⟨g3,3,none⟩ = some _:=(blk_cell B3.out 3).trans rfl;have hB34_4 : w5.cell? ⟨g3,4,none⟩ = some _:=(blk_cell B3.out 4).trans rfl;have hB34_5 : w5.cell? ⟨g3,5,none⟩ = some _:=(blk_cell B3.out 5).trans rfl;have hB44_0 : w5.cell? ⟨g4,0,none⟩ = some _:=(blk_cell B4.out 0).trans rfl;have hB44_1 : w5.cell? ⟨g4,1,none⟩ = some _:=(blk_cell B4.out 1).trans rfl;have hB44_2 : w5.cell? ⟨g4,2,none⟩ = some _:=(blk_cell B4.out 2).trans rfl;have hB44_3 : w5.cell? ⟨g4,3,none⟩ = some _:=(blk_cell B4.out 3).trans rfl;have hB44_4 : w5.cell? ⟨g4,4,none⟩ = some _:=(blk_cell B4.out 4).trans rfl;have hB44_5 : w5.cell? ⟨g4,5,none⟩ = some _:=(blk_cell B4.out 5).trans rfl) | (go_at_call 44;with_reducible refine (ver_Compare.calls fuelR r.f1.f0 r.f1.f1 r.f1.f2 r.f1.f3 r.f1.f4 x.f1.f0 x.f1.f1 x.f1.f2 x.f1.f3 x.f1.f4 c _ hc ?sideG).mono ?_;(case sideG => exact Env.below HE.out HB.out);rintro e w6 ⟨rfl,hb6⟩;replace HB:=Aside0.mk (below_then HB.out HB.out.size hb6);replace HD:=Aside0.mk (below_then HD.out HD.out.size hb6);replace HM:=Aside0.mk (HM.out.below hb6);replace B2:=Aside0.mk (blk_below B2.out hb6);replace B3:=Aside0.mk (blk_below B3.out hb6);replace B4:=Aside0.mk (blk_below B4.out hb6);have hB25_0 : w6.cell? ⟨g2,0,none⟩ = some _:=(blk_cell B2.out 0).trans rfl;have hB35_0 : w6.cell? ⟨g3,0,none⟩ = some _:=(blk_cell B3.out 0).trans rfl;have hB35_1 : w6.cell? ⟨g3,1,none⟩ = some _:=(blk_cell B3.out 1).trans rfl;have hB35_2 : w6.cell? ⟨g3,2,none⟩ = some _:=(blk_cell B3.out 2).trans rfl;have hB35_3 : w6.cell? ⟨g3,3,none⟩ = some _:=(blk_cell B3.out 3).trans rfl;have hB35_4 : w6.cell? ⟨g3,4,none⟩ = some _:=(blk_cell B3.out 4).trans rfl;have hB35_5 : w6.cell? ⟨g3,5,none⟩ = some _:=(blk_cell B3.out 5).trans rfl;have hB45_0 : w6.cell? ⟨g4,0,none⟩ = some _:=(blk_cell B4.out 0).trans rfl;have hB45_1 : w6.cell? ⟨g4,1,none⟩ = some _:=(blk_cell B4.out 1).trans rfl;have hB45_2 : w6.cell? ⟨g4,2,none⟩ = some _:=(blk_cell B4.out 2).trans rfl;have hB45_3 : w6.cell? ⟨g4,3,none⟩ = some _:=(blk_cell B4.out 3).trans rfl;have hB45_4 : w6.cell? ⟨g4,4,none⟩ = some _:=(blk_cell B4.out 4).trans rfl;have hB45_5 : w6.cell? ⟨g4,5,none⟩ = some _:=(blk_cell B4.out 5).trans rfl;clear hb6))
   go_end0
   exact ⟨rfl,HM.out.mono (Nat.le_succ _),HB.out,(below_grow HD.out).but _⟩
set_option maxRecDepth 100000 in
set_option maxHeartbeats 4000000 in
theorem each_calls (b n : Nat) (L L' l : List Req) (A : Option Addr) (c : Nat) (w0 w : World) (hb0 : Below w0.heap.size w0 w) (hbB : w0.heap.size ≤ b) (hE : Env w0) (hm0 : OwnB w b n L)
  (hr : Kd.R k41 41 w w0.heap.size (fun k => k ≠ b) (.slice A l.length c) l) (hnn : n + l.length < maxLen) (ht0 : eachP L l = some L') :
  Calls Tryz.prog 51 #[.slice A l.length c,.func (.func 52) #[.agg #[.map (some b)]] #[]] w fun e w' => e = .returned (.tuple #[]) ∧ OwnB w' b (n + l.length) L' ∧ Below w0.heap.size w0 w' ∧ w.grownBy w' (some b):=by
 have HB:=Aside0.mk hb0
 have HM:=Aside0.mk hm0
 have HE:=Aside0.mk hE
 have HO:=Aside0.mk hr
 have HH:=Aside0.mk ht0
 have HG : Aside0 (w.grownBy w (some b)):=⟨rfl,rfl,rfl,Nat.le_refl _,fun _ _ _ => rfl⟩
 clear hb0 hm0 hE hr ht0
 go_enter Tryz.func51,Tryz.ntmps51
 go_wp2
 go_loopw [8] (fun v8 wr => ∃ (i : Nat) (L1 : List Req),v8 = .int .i64 i ∧ i ≤ l.length ∧ Aside0 (eachP L1 (l.drop i) = some L') ∧ Aside0 (OwnB wr b (n + i) L1) ∧ Aside0 (Kd.R k41 41 wr w0.heap.size (fun k => k ≠ b) (.slice A l.length c) l) ∧ Aside0 (Below w0.heap.size w0 wr) ∧ Aside0 (w.grownBy wr (some b))) (fun v8 _ => l.length - (intOf v8).toNat)
 case atStart => exact ⟨0,L,rfl,Nat.zero_le _,HH,HM,HO,HB,HG⟩
 case round =>
  clear HM HO HB HH HG
  obtain ⟨i,L1,rfl,hi,HH,HM,HO,HB,HG⟩:=hrel
  by_cases h : i < l.length
  ·have hg : ((i : Int) < (l.length : Int)) = True:=eq_true q5_
   have hp : (0 ≤ (i : Int)) = True:=eq_true q5_
   have hmax:=Kd.C_max (Kd.R_reads' HO.out).2.2
   have hw : wrap64 ((i : Int) + 1) = (i : Int) + 1:=by clear hnn;unfold wrap64;omega
   have hni : n + i < maxLen:=Nat.lt_trans (Nat.add_lt_add_left h n) hnn
   obtain ⟨ad,e1,hx0,hx1,hx2,hx3,hx4,hx5⟩:=at_T41 (Kd.R_reads' HO.out).2.2 (i : Int) q5_ q5_
   cases e1
   simp only [Int.toNat_natCast] at hx0 hx1 hx2 hx3 hx4 hx5
   obtain ⟨x,hx⟩ : ∃ x,rd_T41 l (i : Int) = x:=⟨_,rfl⟩
   rw [hx] at hx0 hx1 hx2 hx3 hx4 hx5
   have hlx : l.drop i = x :: l.drop (i + 1):=by rw [List.drop_eq_getElem_cons h,← hx];simp [rd_T41,h]
   have H:=HH.out
   rw [hlx,eachP] at H
   clear HH
   obtain ⟨L2,ht,H⟩:=Option.bind_eq_some_iff.mp H
   have HH:=Aside0.mk H
   clear H
   go_wp2_with (first | ((with_reducible refine gate_dst (N:=5) rfl ?_);refine bx_ 5 41 #[.string (⟨#[]⟩ : ByteArray),.int .i64 0,.int .i64 0,.int .i64 0,.string (⟨#[]⟩ : ByteArray),.string (⟨#[]⟩ : ByteArray)] ?_;intro g5 hg5 w1 hbox hb1;replace HO:=Aside0.mk (Kd.R_below (Kd.R_mono (Kd.R_bound HO.out) (fun k hk => (⟨hk.1,by have:=hk.2.2.1;omega⟩ : k ≠ b ∧ k ≠ g5))) hb1);have BK5:=Aside0.mk hbox;have GE5:=Aside0.mk ((by rw [hg5];exact HB.out.size) : w0.heap.size ≤ g5);replace HB:=Aside0.mk (below_then HB.out HB.out.size hb1);have NE5:=Aside0.mk ((by rw [hg5];exact Nat.ne_of_lt HM.out.lt) : b ≠ g5);replace HM:=Aside0.mk (HM.out.below hb1);have GW5:=Aside0.mk ((by rw [hg5];exact HG.out.size) : w.heap.size ≤ g5);replace HG:=Aside0.mk (HG.out.andThen (row':=none) (below_grow hb1) (fun j hj => absurd hj q25_));clear hbox hb1 hg5) | ((with_reducible refine gate_ (.store 41 (.tmp 5) (.tmp 11)) rfl ?_);refine store_event 41 (.tmp 5) (.tmp 11) rfl rfl rfl 0 41 _ #[.string x.f0,.int .i64 x.f1.f0,.int .i64 x.f1.f1,.int .i64 x.f1.f2,.string x.f1.f3,.string x.f1.f4] _ [.string x.f0,.int .i64 x.f1.f0,.int .i64 x.f1.f1,.int .i64 x.f1.f2,.string x.f1.f3,.string x.f1.f4] rfl rfl rfl q9_ q44_ BK5.out (Nat.le_refl 6) q55_ ?_;intro w2 hh2 hgr2;replace HM:=Aside0.mk (HM.out.kept hgr2 (fun he => NE5.out (Option.some.inj he)));replace HO:=Aside0.mk (Kd.R_mono (Kd.R_grown HO.out hgr2 (fun k hk he => hk.2 (Option.some.inj he))) (fun k hk => hk.1));replace HB:=Aside0.mk (below_grown HB.out hgr2 GE5.out HB.out.size);replace BK5:=Aside0.mk hh2;replace HG:=Aside0.mk (HG.out.andThen hgr2 (fun j hj => .inl (by cases hj;exact GW5.out)));clear hh2 hgr2;have hz0 : w2.cell? ⟨g5,0,none⟩ = some _:=(blk_cell BK5.out 0).trans rfl;have hz1 : w2.cell? ⟨g5,1,none⟩ = some _:=(blk_cell BK5.out 1).trans rfl;have hz2 : w2.cell? ⟨g5,2,none⟩ = some _:=(blk_cell BK5.out 2).trans rfl;have hz3 : w2.cell? ⟨g5,3,none⟩ = some _:=(blk_cell BK5.out 3).trans rfl;have hz4 : w2.cell? ⟨g5,4,none⟩ = some _:=(blk_cell BK5.out 4).trans rfl;have hz5 : w2.cell? ⟨g5,5,none⟩ = some _:=(blk_cell BK5.out 5).trans rfl) | (go_at_call 52;(with_reducible refine (take_calls b (n + i) L1 L2 x w0 _ HB.out hbB HE.out HM.out hni ht).mono ?_);rintro e w3 ⟨rfl,hm3,hb3,hg3⟩;replace HM:=Aside0.mk hm3;replace HO:=Aside0.mk (Kd.R_grown HO.out hg3 (fun k hk he => hk (Option.some.inj he)));replace HB:=Aside0.mk hb3;replace HG:=Aside0.mk (HG.out.andThen hg3 (fun j hj => .inr hj));clear hm3 hb3 hg3))
   refine ⟨⟨i + 1,L2,by simp [hw],h,HH,HM,HO,HB,HG⟩,?_⟩
   simp only [intOf,hw]
   omega
  ·have hg : ((i : Int) < (l.length : Int)) = False:=eq_false q5_
   have hil : l.drop i = []:=List.drop_eq_nil_of_le q5_
   obtain rfl : i = l.length:=by omega
   have hrr : L1 = L':=by have H:=HH.out;rw [hil,eachP] at H;exact Option.some.inj H
   subst hrr
   go_wp2
   go_end0
   exact ⟨rfl,HM.out,HB.out,HG.out⟩
end Go.Proofs.YtennhpoemdaghaaGreatDoor.P
end
section
namespace Go.Proofs.YtennhpoemdaghaaGreatDoor.P
open Go Go.RowKit Go.Proofs.YtennhpoemdaghaaGreatDoorW.PrintWords Go.Proofs.YtennhpoemdaghaaGreatDoorW.PrintLast Go.Proofs.YtennhpoemdaghaaGreatDoorW.PrintMore
attribute [local go_sem] run_makeMap
def leR (a b : Req) : Bool:=decide (¬ b.f0.data.toList < a.f0.data.toList)
def insR (x : Req) : List Req → List Req
 | [] => [x]
 | y :: ys => if leR x y then x :: y :: ys else y :: insR x ys
def sortP : List Req → List Req
 | [] => []
 | x :: xs => insR x (sortP xs)
theorem insR_perm (x : Req) : ∀ l : List Req,(insR x l).Perm (x :: l)
 | [] => List.Perm.refl _
 | y :: ys => by
  rw [insR]
  split
  ·exact List.Perm.refl _
  ·exact ((insR_perm x ys).cons y).trans (List.Perm.swap _ _ _)
theorem sortP_perm : ∀ l : List Req,(sortP l).Perm l
 | [] => List.Perm.refl _
 | x :: xs => (insR_perm x _).trans ((sortP_perm xs).cons x)
theorem insR_sorted (x : Req) : ∀ l : List Req,SortedR l → SortedR (insR x l)
 | [],_ => List.pairwise_singleton _ _
 | y :: ys,h => by
  obtain ⟨h1,h2⟩:=List.pairwise_cons.1 h
  rw [insR]
  split
  ·rename_i hle
   have hle' : ¬ y.f0.data.toList < x.f0.data.toList:=of_decide_eq_true hle
   refine List.pairwise_cons.2 ⟨fun z hz => ?_,h⟩
   rcases List.mem_cons.1 hz with rfl | hz
   ·exact hle'
   ·exact List.not_lt.2 (List.le_trans (List.not_lt.1 hle') (List.not_lt.1 (h1 z hz)))
  ·rename_i hle
   have hle' : y.f0.data.toList < x.f0.data.toList:=by
    unfold leR at hle
    simpa using hle
   refine List.pairwise_cons.2 ⟨fun z hz => ?_,insR_sorted x ys h2⟩
   rcases List.mem_cons.1 ((insR_perm x ys).mem_iff.1 hz) with rfl | hz
   ·exact List.lt_asymm hle'
   ·exact h1 z hz
theorem sortP_sorted : ∀ l : List Req,SortedR (sortP l)
 | [] => List.Pairwise.nil
 | x :: xs => insR_sorted x _ (sortP_sorted xs)
theorem path_inj : ∀ {L : List Req},L.Pairwise (fun x y => x.f0 ≠ y.f0) → ∀ {a b : Req},a ∈ L → b ∈ L → a.f0 = b.f0 → a = b
 | [],_,_,_,h,_,_ => absurd h q25_
 | x :: L,hd,a,b,ha,hb,he => by
  obtain ⟨h1,h2⟩:=List.pairwise_cons.1 hd
  rcases List.mem_cons.1 ha with rfl | ha'
  ·rcases List.mem_cons.1 hb with rfl | hb'
   ·rfl
   ·exact absurd he (h1 b hb')
  ·rcases List.mem_cons.1 hb with rfl | hb'
   ·exact absurd he.symm (h1 a ha')
   ·exact path_inj h2 ha' hb' he
theorem sortP_eq {L ys : List Req} (hd : L.Pairwise (fun x y => x.f0 ≠ y.f0)) (hp : ys.Perm L) (hs : SortedR ys) : ys = sortP L:=by
 have h1:=sortP_sorted L
 have hpp : ys.Perm (sortP L):=hp.trans (sortP_perm L).symm
 refine List.Perm.eq_of_pairwise (le:=fun a b : Req => ¬ b.f0.data.toList < a.f0.data.toList) (fun a b ha hb h1 h2 => ?_) hs h1 hpp
 have hab : a.f0 = b.f0:=bytes_inj (List.le_antisymm (List.not_lt.1 h1) (List.not_lt.1 h2))
 have ha' : a ∈ L:=hp.mem_iff.1 ha
 have hb' : b ∈ L:=(sortP_perm L).mem_iff.1 hb
 exact path_inj hd ha' hb' hab
theorem below_of_grown0 {w w' : World} (h : w.grownBy w' none) : Below w.heap.size w w':=⟨h.os,h.tape,h.output,h.size,fun k hk => h.block k hk q25_⟩
theorem below_grownR {w0 W w1 : World} {base : Nat} {row : Option Nat} (h : Below base w0 W) (hg : W.grownBy w1 row) (hb : ∀ g,row = some g → base ≤ g) (hs : base ≤ W.heap.size) : Below base w0 w1 :=
 h.trans ⟨hg.os,hg.tape,hg.output,hg.size,fun k hk => hg.block k (Nat.lt_of_lt_of_le hk hs) (fun he => by have:=hb k he.symm;omega)⟩
theorem filter_step {L : List Req} (hd : L.Pairwise (fun x y => x.f0 ≠ y.f0)) (left : Lit → Bool) {x : Req} (hx : x ∈ L) (hl : left (keyL x.f0) = true) :
  (L.filter fun y => left (keyL y.f0)).Perm (x :: L.filter fun y => left (keyL y.f0) && !(keyL y.f0).sameKey (keyL x.f0)):=by
 induction L with
 | nil => exact absurd hx q25_
 | cons y L ih =>
  obtain ⟨hy,hd'⟩:=List.pairwise_cons.1 hd
  rcases List.mem_cons.1 hx with rfl | hx'
  ·have hs : (keyL x.f0).sameKey (keyL x.f0) = true:=WideAt.sameKey_self (keyL_key _)
   have hrest : L.filter (fun y => left (keyL y.f0) && !(keyL y.f0).sameKey (keyL x.f0)) = L.filter (fun y => left (keyL y.f0)):=by
    refine List.filter_congr (fun z hz => ?_)
    have hne : (keyL z.f0).sameKey (keyL x.f0) = false:=by
     cases hb : (keyL z.f0).sameKey (keyL x.f0)
     ·rfl
     ·exact absurd (keyL_inj (WideAt.sameKey_eq hb)).symm (hy z hz)
    simp [hne]
   simp only [List.filter_cons,hl,hs,if_true,Bool.not_true,Bool.and_false,Bool.false_eq_true,if_false,hrest]
   exact List.Perm.refl _
  ·have hne : (keyL y.f0).sameKey (keyL x.f0) = false:=by
    cases hb : (keyL y.f0).sameKey (keyL x.f0)
    ·rfl
    ·exact absurd (keyL_inj (WideAt.sameKey_eq hb)) (hy x hx')
   have ih':=ih hd' hx'
   cases hly : left (keyL y.f0)
   ·simpa only [List.filter_cons,hly,Bool.false_and,Bool.false_eq_true,if_false] using ih'
   ·simp only [List.filter_cons,hly,hne,if_true,Bool.not_false,Bool.and_true]
    exact (ih'.cons y).trans (List.Perm.swap _ _ _)
def mvs_List.f (l0 : List Req) (l1 : List Node) : Option (List Req):=(mvs_Reached.f l0 l1).bind fun all => (eachP [] all).bind fun L => if all.length ≤ 1000000 ∧ L.length ≤ 1000000 then some (sortP L) else none
set_option maxRecDepth 100000 in
set_option maxHeartbeats 4000000 in
theorem mvs_List.calls (A0 : Option Addr) (c0 : Nat) (l0 : List Req) (A1 : Option Addr) (c1 : Nat) (l1 : List Node) (r : List Req) (w : World) (hr0 : Kd.C k41 w A0 l0.length l0) (hc0 : l0.length ≤ c0) (hr1 : Kd.C k70 w A1 l1.length l1) (hc1 : l1.length ≤ c1) (h : mvs_List.f l0 l1 = some r) (hG : Env w) :
  Calls Tryz.prog 27 #[.slice A0 l0.length c0,.slice A1 l1.length c1] w fun e w' => ∃ v0_ : Value,e = .returned (v0_) ∧ Kd.R k41 41 w' w.heap.size (fun _ => True) v0_ r ∧ Below w.heap.size w w':=by
 obtain ⟨all,hall,h⟩:=Option.bind_eq_some_iff.mp h
 obtain ⟨L,hL,h⟩:=Option.bind_eq_some_iff.mp h
 split at h
 case isFalse => exact absurd h q25_
 case isTrue hsz =>
 obtain ⟨hsa,hsl⟩:=hsz
 have hmx : 0 + all.length < maxLen:=by unfold maxLen;omega
 obtain rfl:=Option.some.inj h
 have HR0:=Aside0.mk hr0
 have HC0:=Aside0.mk hc0
 have HR1:=Aside0.mk hr1
 have HC1:=Aside0.mk hc1
 have HE:=Aside0.mk hG
 clear hr0 hc0 hr1 hc1 hG h
 go_enter Tryz.func27,Tryz.ntmps27
 go_upto_region 2 with (first | ((with_reducible refine gate_dst (N:=5) rfl ?_);refine bx_ 5 80 #[.map none] ?_;intro g5 hg5 w1 hbox hb1;have HM:=Aside0.mk (OwnB.below ⟨_,World.ownsMap_made w Tryz.prog 9 reqR,BestD.nil⟩ hb1);have HB:=Aside0.mk (below_then (below_alloc (Below.refl _ w) _) q25_ hb1);have BK5:=Aside0.mk hbox;have G5:=Aside0.mk ((by rw [hg5];simp) : w.heap.size < g5);clear hbox hb1 hg5) | ((with_reducible refine gate_ (.store 80 (.tmp 5) (.tmp 10)) rfl ?_);refine store_event 80 (.tmp 5) (.tmp 10) rfl rfl rfl 0 80 _ #[.map (some w.heap.size)] _ [.map (some w.heap.size)] rfl rfl rfl q9_ q44_ BK5.out (Nat.le_refl 1) q55_ ?_;intro w2 hh2 hg2;replace HM:=Aside0.mk (HM.out.kept hg2 (fun he => absurd (Option.some.inj he) (Nat.ne_of_lt G5.out)));replace HB:=Aside0.mk (below_grown HB.out hg2 (Nat.le_of_lt G5.out) HB.out.size);replace BK5:=Aside0.mk hh2;clear hh2 hg2;have hz0 : w2.cell? ⟨g5,0,none⟩ = some _:=(blk_cell BK5.out 0).trans rfl))
 go_frame
 go_cut [5] (fun v5 wc => v5 = .pointer (some ⟨g5,0,none⟩) ∧ Aside0 (wc.heap[g5]? = some (.cells #[.map (some w.heap.size)] 80 (0,0))) ∧ Aside0 (OwnB wc w.heap.size all.length L) ∧ Aside0 (Below w.heap.size w wc))
 case first =>
  replace BK5:=Aside0.mk (blk_drew BK5.out);replace HM:=Aside0.mk (OwnB.below HM.out (below_drew (Below.refl _ _)));replace HB:=Aside0.mk (below_drew HB.out)
  first | (go_region_held3 (fun w' => w'.cell? ⟨g5,0,none⟩ = some (.map (some w.heap.size))) (first | (exact (blk_cell BK5.out 0).trans rfl)) ((first | (go_at_call 25;(with_reducible refine (mvs_Reached.calls A0 c0 l0 A1 c1 l1 all _ (Kd.C_below HR0.out HB.out) HC0.out (Kd.C_below HR1.out HB.out) HC1.out hall (Env.below HE.out HB.out)).mono ?_);rintro e w3 ⟨v3,rfl,hR3,hb3⟩;obtain ⟨A3,c3,rfl⟩:=Kd.R_slice hR3;have HO:=Aside0.mk (Kd.R_lower (Kd.R_mono (Kd.R_bound hR3) (fun k hk => (by have:=hk.2.1;have:=HM.out.lt;omega : k ≠ w.heap.size))) HB.out.size);replace BK5:=Aside0.mk (blk_below BK5.out hb3);replace HM:=Aside0.mk (HM.out.below hb3);replace HB:=Aside0.mk (below_then HB.out HB.out.size hb3);clear hR3 hb3) | (go_at_call 51;(with_reducible refine (each_calls w.heap.size 0 [] L all A3 c3 w _ HB.out (Nat.le_refl _) HE.out HM.out HO.out hmx hL).mono ?_);rintro e w4 ⟨rfl,hm4,hb4,hg4⟩;replace BK5:=Aside0.mk (blk_grown BK5.out hg4 (fun he => absurd (Option.some.inj he) (Nat.ne_of_gt G5.out)));replace HM:=Aside0.mk (by have h_:=hm4;rwa [Nat.zero_add] at h_);replace HB:=Aside0.mk hb4;clear HO hm4 hb4 hg4)))) | fail
  all_goals (go_wp2;go_meet;(case rel => exact ⟨rfl,BK5,HM,HB⟩))
 case rest =>
 clear BK5 HM HB
 obtain ⟨rfl,BK5,HM,HB⟩:=hcut
 have hz0 : wc.cell? ⟨g5,0,none⟩ = some (.map (some w.heap.size)):=(blk_cell BK5.out 0).trans rfl
 have GR : Aside0 (w.heap.size < wc.heap.size):=Aside0.mk HM.out.lt
 go_wp2_with (first | (at_range;obtain ⟨D,ho,hbe⟩:=HM.out;refine wpList_range_own _ rfl (.tmp 18) 78 rfl 9 41 lawS Tryz.underlying78 reqR w.heap.size all.length D rfl ho ?_;intro w5 hrg hg5' hs5;have HRG:=Aside0.mk hrg;have HBE:=Aside0.mk hbe;have hb5:=below_of_grown0 hg5';replace HB:=Aside0.mk (below_then HB.out HB.out.size hb5);clear HM BK5 hrg hbe ho hg5' hb5))
 go_frame
 generalize hrr : wc.heap.size = rr at HRG GR hs5 ⊢
 go_loopw [6] (fun v6 wr => ∃ (left : Lit → Bool) (cnt : Nat) (acc : List Req),Aside0 (Kd.R k41 41 wr w.heap.size (fun k => k ≠ w.heap.size ∧ k ≠ rr) v6 acc) ∧ Aside0 ((acc ++ L.filter (fun x => left (keyL x.f0))).Perm L) ∧ Aside0 (∀ kl,left kl = true → Maps.has D kl = true) ∧ Aside0 (wr.ranges Tryz.prog 9 reqR w.heap.size rr all.length D left cnt) ∧ Aside0 (Below w.heap.size w wr)) (fun _ wr => wr.rangeLeft w.heap.size rr)
 case atStart =>
  refine ⟨Maps.has D,Maps.size D,[],⟨Kd.R_nil _ _ _ _ _⟩,⟨?_⟩,⟨fun _ h => h⟩,HRG,HB⟩
  rw [List.nil_append,List.filter_eq_self.2 (fun x hx => by rw [HBE.out.has];exact List.any_eq_true.2 ⟨x,hx,sameP_iff.2 rfl⟩)]
 case round =>
  clear HRG HB
  obtain ⟨left,cnt,acc,HO,HP,HF,HRG,HB⟩:=hrel
  have hlacc : acc.length ≤ 1000000:=by
   have:=HP.out.length_eq
   rw [List.length_append] at this
   omega
  go_wp2_with (first | (at_next;refine wpList_next_ranges _ rfl (.tmp 19) rfl 9 lawS reqR (fun s : ByteArray => Value.string s) valR (fun key kl hk => Maps.keyOf_string_inv Tryz.underlying9 hk) (fun v y hv => by obtain ⟨q,h1,_⟩:=reqR_inv hv;exact ⟨q,h1⟩) w.heap.size rr all.length D left cnt rfl HRG.out ?_ ?_))
  ·intro hc0 hl0
   have hpl : acc.Perm L:=by
    have:=HP.out
    rwa [List.filter_eq_nil_iff.2 (fun x _ => by rw [hl0];simp),List.append_nil] at this
   go_wp2_with (first | (go_at_call 53;(with_reducible refine (sort_calls _ acc w.heap.size _ _ HO.out hlacc).mono ?_);rintro e w7 ⟨rfl,ys,hpy,hsy,hR7,hg7⟩))
   go_ret
   have hys:=sortP_eq HBE.out.nodup (hpy.trans hpl) hsy
   subst hys
   exact ⟨_,rfl,Kd.R_mono hR7 (fun _ _ => trivial),below_grownR HB.out hg7 (fun q hq => Kd.R_base HO.out q hq) HB.out.size⟩
  ·intro s c kl y yp w6 cnt6 hkey hleft hval hat hrg6 hlt6 hg6 hs6 hen
   have hmeas0:=HRG.out.left_eq
   have hy : y = datR c:=(Prod.mk.inj (Option.some.inj (hval.symm.trans (reqR_mk c)))).1
   have hcL : c ∈ L ∧ kl = keyL c.f0:=by
    obtain ⟨x,hx,rfl⟩:=HBE.out.keys kl (HF.out kl hleft)
    have h1:=HBE.out.at_ x hx .nil
    rw [hat .nil,hy] at h1
    obtain rfl:=datR_inj h1
    exact ⟨hx,rfl⟩
   obtain ⟨hcL,rfl⟩:=hcL
   have n1:=Aside0.mk (Kd.R_grown HO.out hg6 (fun k hk he => hk.2 (Option.some.inj he)))
   have n2:=Aside0.mk hrg6
   have n3:=Aside0.mk (below_grown HB.out hg6 (Nat.le_of_lt GR.out) HB.out.size)
   have hP6 : Aside0 ((acc ++ [c] ++ L.filter (fun x => left (keyL x.f0) && !(keyL x.f0).sameKey (keyL c.f0))).Perm L):=⟨by rw [List.append_assoc];exact (List.Perm.append_left acc (filter_step HBE.out.nodup left hcL hleft).symm).trans HP.out⟩
   have hF6 : Aside0 (∀ kl,(left kl && !kl.sameKey (keyL c.f0)) = true → Maps.has D kl = true):=⟨fun kl hk => HF.out kl (by simp only [Bool.and_eq_true] at hk;exact hk.1)⟩
   clear HO HRG HB HP HF hrg6 hg6 hat hval hkey
   have HO:=n1;have HRG:=n2;have HB:=n3;clear n1 n2 n3
   go_wp2_with (first | ((with_reducible refine gate_dst (N:=8) rfl ?_);refine bx_ 8 41 #[.string (⟨#[]⟩ : ByteArray),.int .i64 0,.int .i64 0,.int .i64 0,.string (⟨#[]⟩ : ByteArray),.string (⟨#[]⟩ : ByteArray)] ?_;intro g8 hg8 w8 hbox hb8;replace HO:=Aside0.mk (Kd.R_below (Kd.R_mono (Kd.R_bound HO.out) (fun k hk => (⟨hk.1,by have:=hk.2.2.1;omega⟩ : (k ≠ w.heap.size ∧ k ≠ rr) ∧ k ≠ g8))) hb8);have BK8:=Aside0.mk hbox;have GE8:=Aside0.mk ((by rw [hg8];exact HB.out.size) : w.heap.size ≤ g8);replace HB:=Aside0.mk (below_then HB.out HB.out.size hb8);have NB8:=Aside0.mk ((by rw [hg8];exact Nat.ne_of_lt HRG.out.owns.lt) : w.heap.size ≠ g8);have NR8:=Aside0.mk ((by rw [hg8];exact Nat.ne_of_lt HRG.out.lt) : rr ≠ g8);replace HRG:=Aside0.mk (HRG.out.kept (below_grow hb8) q25_ q25_);clear hbox hb8 hg8) | ((with_reducible refine gate_ (.store 41 (.tmp 8) (.tmp 23)) rfl ?_);refine store_event 41 (.tmp 8) (.tmp 23) rfl rfl rfl 0 41 _ #[.string c.f0,.int .i64 c.f1.f0,.int .i64 c.f1.f1,.int .i64 c.f1.f2,.string c.f1.f3,.string c.f1.f4] _ [.string c.f0,.int .i64 c.f1.f0,.int .i64 c.f1.f1,.int .i64 c.f1.f2,.string c.f1.f3,.string c.f1.f4] rfl rfl rfl q9_ q44_ BK8.out (Nat.le_refl 6) q55_ ?_;intro w9 hh9 hg9;replace HO:=Aside0.mk (Kd.R_mono (Kd.R_grown HO.out hg9 (fun k hk he => hk.2 (Option.some.inj he))) (fun k hk => hk.1));replace HB:=Aside0.mk (below_grown HB.out hg9 GE8.out HB.out.size);replace BK8:=Aside0.mk hh9;replace HRG:=Aside0.mk (HRG.out.kept hg9 (fun he => NB8.out (Option.some.inj he)) (fun he => NR8.out (Option.some.inj he)));clear hh9 hg9;have hy0 : w9.cell? ⟨g8,0,none⟩ = some _:=(blk_cell BK8.out 0).trans rfl;have hy1 : w9.cell? ⟨g8,1,none⟩ = some _:=(blk_cell BK8.out 1).trans rfl;have hy2 : w9.cell? ⟨g8,2,none⟩ = some _:=(blk_cell BK8.out 2).trans rfl;have hy3 : w9.cell? ⟨g8,3,none⟩ = some _:=(blk_cell BK8.out 3).trans rfl;have hy4 : w9.cell? ⟨g8,4,none⟩ = some _:=(blk_cell BK8.out 4).trans rfl;have hy5 : w9.cell? ⟨g8,5,none⟩ = some _:=(blk_cell BK8.out 5).trans rfl) | ((with_reducible refine gate_builtin (b:=.append) (xs:=#[.tmp 24,.tmp 26]) rfl ?_);at_builtin;refine Kd.R_append k41 (w0:=w) w.heap.size rfl (.tmp 24) (.tmp 26) 38 41 (.agg #[.string (⟨#[]⟩ : ByteArray),.int .i64 0,.int .i64 0,.int .i64 0,.string (⟨#[]⟩ : ByteArray),.string (⟨#[]⟩ : ByteArray)]) 72 rfl Tryz.underlying38 info41 rfl q30_ q5_ _ acc c [.string c.f0,.int .i64 c.f1.f0,.int .i64 c.f1.f1,.int .i64 c.f1.f2,.string c.f1.f3,.string c.f1.f4] (fun k => k ≠ w.heap.size ∧ k ≠ rr) _ rfl rfl (k41_mkM _ _ _ c) (fun _ hk => hk) ?aF HO.out HB.out HB.out.size q5_ ?_;(case aF => exact fun k hk => ⟨fun he => by have:=HRG.out.owns.lt;omega,fun he => by have:=HRG.out.lt;omega⟩);intro v10 w10 hR10 hB10 hg10 hat10;replace HB:=Aside0.mk hB10;replace HRG:=Aside0.mk (HRG.out.kept hg10 (fun he => (HO.out.1 _ he.symm).1 rfl) (fun he => (HO.out.1 _ he.symm).2 rfl));replace HO:=Aside0.mk hR10;clear hR10 hB10 hg10 hat10))
   refine ⟨⟨fun z => left z && !z.sameKey (keyL c.f0),cnt6,acc ++ [c],HO,hP6,hF6,HRG,HB⟩,?_⟩
   rw [HRG.out.left_eq,hmeas0]
   exact hlt6
end Go.Proofs.YtennhpoemdaghaaGreatDoor.P
end
section
namespace Go.Proofs.YtennhpoemdaghaaGreatDoor.P
open Go Go.RowKit Go.Proofs.YtennhpoemdaghaaGreatDoorW.PrintWords
def stepB (p : ByteArray) (o : Option Req) (r : Req) : Option Req :=
 if sameP p r then (match o with | none => some r | some x => if cmpB r x > 0 then some r else some x) else o
def bestO (p : ByteArray) (all : List Req) : Option Req:=all.foldl (stepB p) none
theorem find_setL (L : List Req) (r : Req) (p : ByteArray) : (setL L r).find? (sameP p) = if sameP p r then (L.find? (sameP p)).map (fun _ => r) else L.find? (sameP p):=by
 induction L with
 | nil => simp [setL]
 | cons y L ih =>
  have hs : setL (y :: L) r = (if sameP r.f0 y then r else y) :: setL L r:=rfl
  rw [hs,List.find?_cons,List.find?_cons,ih]
  cases hy : sameP r.f0 y
  ·simp only [Bool.false_eq_true,if_false]
   cases hp : sameP p y
   ·rfl
   ·have : sameP p r = false:=by
     cases h : sameP p r
     ·rfl
     ·rw [sameP_iff] at h hp
      rw [← Bool.not_eq_true,sameP_iff] at hy
      exact absurd (hp.trans h.symm) hy
    simp [this]
  ·simp only [if_true]
   rw [sameP_iff] at hy
   have e : sameP p y = sameP p r:=by unfold sameP;rw [hy]
   rw [e]
   cases sameP p r <;> simp
theorem find_takeL (L : List Req) (r : Req) (p : ByteArray) : (takeL L r).find? (sameP p) = stepB p (L.find? (sameP p)) r:=by
 unfold stepB
 cases hp : sameP p r
 ·simp only [Bool.false_eq_true,if_false]
  unfold takeL
  split
  ·rw [List.find?_append,List.find?_cons,hp]
   simp
  ·split
   ·rw [find_setL,hp];rfl
   ·rfl
 ·simp only [if_true]
  have e : sameP r.f0 = sameP p:=by rw [sameP_iff.1 hp]
  unfold takeL
  rw [e]
  cases hf : L.find? (sameP p) with
  | none =>
   simp only
   rw [List.find?_append,hf,List.find?_cons,hp]
   rfl
  | some x =>
   simp only
   split
   ·rw [find_setL,hp,hf];rfl
   ·exact hf
theorem find_takes (p : ByteArray) : ∀ (l L : List Req),(l.foldl takeL L).find? (sameP p) = l.foldl (stepB p) (L.find? (sameP p))
 | [],L => rfl
 | r :: rs,L => by rw [List.foldl_cons,find_takes p rs,find_takeL,List.foldl_cons]
theorem takeL_paths (L : List Req) (r : Req) (h : L.Pairwise (fun x y => x.f0 ≠ y.f0)) : (takeL L r).Pairwise (fun x y => x.f0 ≠ y.f0):=by
 unfold takeL
 split
 ·rename_i hf
  refine List.pairwise_append.2 ⟨h,List.pairwise_singleton _ _,fun a ha b hb => ?_⟩
  rw [List.mem_singleton.1 hb]
  have:=List.find?_eq_none.1 hf a ha
  exact fun e => this (sameP_iff.2 e)
 ·split
  ·have h1 : (L.map (·.f0)).Pairwise (· ≠ ·):=List.pairwise_map.2 h
   rw [← setL_path L r] at h1
   exact List.pairwise_map.1 h1
  ·exact h
theorem takes_paths : ∀ (l L : List Req),L.Pairwise (fun x y => x.f0 ≠ y.f0) → (l.foldl takeL L).Pairwise (fun x y => x.f0 ≠ y.f0)
 | [],L,h => h
 | r :: rs,L,h => by rw [List.foldl_cons];exact takes_paths rs _ (takeL_paths L r h)
theorem bestO_spec (p : ByteArray) : ∀ (l : List Req),(∀ r ∈ l,mayB r = true) → ∀ (o : Option Req),(∀ x,o = some x → x.f0 = p ∧ mayB x = true) →
  (∀ x,l.foldl (stepB p) o = some x → x.f0 = p ∧ mayB x = true ∧ (x ∈ l ∨ o = some x) ∧ (∀ y,(y ∈ l ∧ y.f0 = p) ∨ o = some y → cmpB x y ≥ 0)) ∧
  (l.foldl (stepB p) o = none → o = none ∧ ∀ y ∈ l,y.f0 ≠ p)
 | [],_,o,ho => by
  refine ⟨fun x hx => ⟨(ho x hx).1,(ho x hx).2,.inr hx,fun y hy => ?_⟩,fun h => ⟨h,fun y hy => absurd hy q25_⟩⟩
  rcases hy with ⟨hy,_⟩ | hy
  ·exact absurd hy q25_
  ·have e : x = y:=Option.some.inj (hx.symm.trans hy)
   subst e
   rw [cmpB_may (ho x hx).2 (ho x hx).2,vcmp_cmp.self]
   exact Int.le_refl _
 | r :: rs,hm,o,ho => by
  rw [List.foldl_cons]
  have hmr : mayB r = true:=hm r q25_
  have ho' : ∀ x,stepB p o r = some x → x.f0 = p ∧ mayB x = true:=by
   intro x hx
   unfold stepB at hx
   split at hx
   ·rename_i hs
    split at hx
    ·cases hx;exact ⟨sameP_iff.1 hs,hmr⟩
    ·rename_i z
     split at hx
     ·cases hx;exact ⟨sameP_iff.1 hs,hmr⟩
     ·cases hx;exact ho _ rfl
   ·exact ho x hx
  obtain ⟨h1,h2⟩:=bestO_spec p rs (fun x hx => hm x (by simp [hx])) (stepB p o r) ho'
  refine ⟨fun x hx => ?_,fun h => ?_⟩
  ·obtain ⟨a,b,c,d⟩:=h1 x hx
   have hs : ∀ z,stepB p o r = some z → (z = r ∧ r.f0 = p) ∨ o = some z:=by
    intro z hz
    unfold stepB at hz
    split at hz
    ·rename_i hs
     split at hz
     ·cases hz;exact .inl ⟨rfl,sameP_iff.1 hs⟩
     ·split at hz
      ·cases hz;exact .inl ⟨rfl,sameP_iff.1 hs⟩
      ·cases hz;exact .inr rfl
    ·exact .inr hz
   have hge : ∀ y,(y = r ∧ r.f0 = p) ∨ o = some y → ∃ z,stepB p o r = some z ∧ cmpB z y ≥ 0:=by
    intro y hy
    unfold stepB
    cases hp : sameP p r
    ·simp only [Bool.false_eq_true,if_false]
     rcases hy with ⟨rfl,hy⟩ | hy
     ·rw [sameP_iff.2 hy] at hp;exact absurd hp q30_
     ·refine ⟨y,hy,?_⟩
      rw [cmpB_may (ho y hy).2 (ho y hy).2,vcmp_cmp.self]
      exact Int.le_refl _
    ·simp only [if_true]
     cases ho2 : o with
     | none =>
      rcases hy with ⟨rfl,hy⟩ | hy
      ·refine ⟨y,rfl,?_⟩
       rw [cmpB_may hmr hmr,vcmp_cmp.self]
       exact Int.le_refl _
      ·rw [ho2] at hy;exact absurd hy q25_
     | some x0 =>
      have hx0:=(ho x0 ho2).2
      simp only
      split
      ·rename_i hc
       refine ⟨r,rfl,?_⟩
       rcases hy with ⟨rfl,hy⟩ | hy
       ·rw [cmpB_may hmr hmr,vcmp_cmp.self];exact Int.le_refl _
       ·rw [ho2] at hy
        obtain rfl:=Option.some.inj hy
        omega
      ·rename_i hc
       refine ⟨x0,rfl,?_⟩
       rcases hy with ⟨rfl,hy⟩ | hy
       ·rw [cmpB_may hx0 hmr]
        rw [cmpB_may hmr hx0] at hc
        have:=vcmp_cmp.swap y x0
        omega
       ·rw [ho2] at hy
        obtain rfl:=Option.some.inj hy
        rw [cmpB_may hx0 hx0,vcmp_cmp.self];exact Int.le_refl _
   refine ⟨a,b,?_,fun y hy => ?_⟩
   ·rcases c with c | c
    ·exact .inl (by simp [c])
    ·rcases hs x c with ⟨rfl,_⟩ | h
     ·exact .inl q25_
     ·exact .inr h
   ·have step : (y = r ∧ r.f0 = p) ∨ o = some y → cmpB x y ≥ 0:=fun hy' => by
     obtain ⟨z,hz,hzy⟩:=hge y hy'
     have hxz:=d z (.inr hz)
     have my : mayB y = true:=by
      rcases hy' with ⟨rfl,_⟩ | h
      ·exact hmr
      ·exact (ho y h).2
     have mz:=(ho' z hz).2
     rw [cmpB_may b my]
     rw [cmpB_may b mz] at hxz
     rw [cmpB_may mz my] at hzy
     have e1:=vcmp_cmp.swap x z
     have e2:=vcmp_cmp.swap z y
     have e3:=vcmp_cmp.swap x y
     have:=vcmp_cmp.trans y z x q5_ q5_
     omega
    rcases hy with ⟨hy,hyp⟩ | hy
    ·rcases List.mem_cons.1 hy with rfl | hy
     ·exact step (.inl ⟨rfl,hyp⟩)
     ·exact d y (.inl ⟨hy,hyp⟩)
    ·exact step (.inr hy)
  ·obtain ⟨a,b⟩:=h2 h
   have hn : o = none ∧ r.f0 ≠ p:=by
    unfold stepB at a
    split at a
    ·split at a
     ·exact absurd a q25_
     ·split at a <;> exact absurd a q25_
    ·rename_i hs
     exact ⟨a,fun e => hs (sameP_iff.2 e)⟩
   exact ⟨hn.1,fun y hy => by
    rcases List.mem_cons.1 hy with rfl | hy
    ·exact hn.2
    ·exact b y hy⟩
def listOf (all : List Req) : List Req:=sortP (all.foldl takeL [])
theorem listOf_len (all : List Req) : (listOf all).length ≤ all.length:=by
 have h:=takes_length all []
 unfold listOf
 rw [(sortP_perm _).length_eq]
 rw [List.length_nil,Nat.zero_add] at h
 exact h
theorem mem_listOf {all : List Req} {r : Req} : r ∈ listOf all ↔ bestO r.f0 all = some r:=by
 have hp:=takes_paths all [] List.Pairwise.nil
 have hf:=find_takes r.f0 all []
 unfold listOf bestO
 rw [(sortP_perm _).mem_iff]
 rw [List.find?_nil] at hf
 rw [← hf]
 constructor
 ·intro h
  cases hfind : (all.foldl takeL []).find? (sameP r.f0) with
  | none =>
   have:=List.find?_eq_none.1 hfind r h
   exact absurd (sameP_iff.2 rfl) this
  | some x =>
   have hx:=List.mem_of_find?_eq_some hfind
   have hxr:=sameP_iff.1 (List.find?_some hfind)
   rw [path_inj hp hx h hxr]
 ·exact fun h => List.mem_of_find?_eq_some h
def listL (root : List Req) (nodes : List Node) : List Req:=listOf (reachL root nodes)
theorem list_eq (root : List Req) (nodes : List Node) (hU : (univ root nodes).length ≤ 500000) : mvs_List.f root nodes = some (listL root nodes):=by
 have hi:=reachL_inv root nodes hU
 have hl:=hi.len
 have h2:=takes_length (reachL root nodes) []
 rw [List.length_nil,Nat.zero_add] at h2
 unfold mvs_List.f
 rw [reached_eq root nodes hU,Option.bind_some,eachP_eq _ _ (fun r hr => (hi.reach r hr).may),Option.bind_some,if_pos ⟨by omega,by omega⟩]
 rfl
theorem listL_spec {root : List Req} {nodes : List Node} (hU : (univ root nodes).length ≤ 500000) :
  (∀ y ∈ listL root nodes,Reach root nodes y ∧ ∀ x,Reach root nodes x → x.f0 = y.f0 → cmpB y x ≥ 0) ∧ (∀ x,Reach root nodes x → ∃ y ∈ listL root nodes,y.f0 = x.f0 ∧ cmpB y x ≥ 0):=by
 have hm : ∀ r ∈ reachL root nodes,mayB r = true:=fun r hr => ((mem_reachL hU).1 hr).may
 constructor
 ·intro y hy
  have hb:=mem_listOf.1 hy
  obtain ⟨_,_,h3,h4⟩:=(bestO_spec y.f0 _ hm none (fun x h => absurd h q25_)).1 y hb
  refine ⟨?_,fun x hx he => h4 x (.inl ⟨(mem_reachL hU).2 hx,he⟩)⟩
  rcases h3 with h3 | h3
  ·exact (mem_reachL hU).1 h3
  ·exact absurd h3 q25_
 ·intro x hx
  have hs:=bestO_spec x.f0 _ hm none (fun x h => absurd h q25_)
  cases hb : bestO x.f0 (reachL root nodes) with
  | none => exact absurd rfl ((hs.2 hb).2 x ((mem_reachL hU).2 hx))
  | some y =>
   obtain ⟨h1,_,h3,h4⟩:=hs.1 y hb
   refine ⟨y,mem_listOf.2 (h1 ▸ hb),h1,h4 x (.inl ⟨(mem_reachL hU).2 hx,rfl⟩)⟩
end Go.Proofs.YtennhpoemdaghaaGreatDoor.P
end
section
namespace Go.Proofs.YtennhpoemdaghaaGreatDoor.P
open Go.RowKit Go.Proofs.YtennhpoemdaghaaGreatDoorW.PrintWords Go.Proofs.YtennhpoemdaghaaGreatDoorW.PrintLast Go.Proofs.YtennhpoemdaghaaGreatDoorW.PrintMore
def Lw17_own.l0 : Nat → List (S68) → List (S70) → Int → Option ((List (S70)))
 | 0,_,_,_ => none
 | k + 1,x0,x3,x4 => if x4 < (x0.length : Int) then (if 0 ≤ x4 then (if x3.length < 1466015503701 then (Lw17_own.l0 k x0 (x3 ++ [(⟨(⟨(rd_T68 x0 x4).f0.f0,(⟨(rd_T68 x0 x4).f0.f1.f0,(rd_T68 x0 x4).f0.f1.f1,(rd_T68 x0 x4).f0.f1.f2,(rd_T68 x0 x4).f0.f1.f3,(rd_T68 x0 x4).f0.f1.f4⟩ : S24)⟩ : S41),(rd_T68 x0 x4).f1⟩ : S70)]) (wrap64 (x4 + 1))) else (none)) else (none)) else (some x3)
def Lw17_own.f (k : Nat) (l0 : List (S68)) : Option ((List (S70))):=Lw17_own.l0 k l0 ([] : List (S70)) 0
set_option maxHeartbeats 8000000 in
set_option maxRecDepth 100000 in
theorem Lw17_own.calls (k : Nat) (P0_ : Nat → Prop) (A0 : Option Addr) (c0 : Nat) (l0 : List (S68)) (r : List (S70)) (w : World) (hs0 : Kd.V k68 68 w w.heap.size (fun k_ => P0_ k_) (.slice A0 l0.length c0) l0) (h : Lw17_own.f k l0 = some r) :
  Calls Tryz.prog 23 #[.slice A0 l0.length c0] w fun e w' => ∃ v0_ : Value,e = .returned (v0_) ∧ Kd.N k70 70 w' w.heap.size (fun k_ => (P0_ k_ ∨ w.heap.size ≤ k_)) v0_ r ∧ Below w.heap.size w w':=by
 have hu68:=Tryz.underlying68
 have HO0:=Aside0.mk (show Kd.V k68 68 w w.heap.size (fun k_ => (P0_ k_ ∨ w.heap.size ≤ k_)) (.slice A0 l0.length c0) l0 from Kd.V_mono hs0 (fun k_ hk => .inl hk))
 have HB:=Aside0.mk (Below.refl w.heap.size w)
 have H : (Lw17_own.l0 k l0 ([] : List (S70)) 0) = some r:=h
 clear h
 have H':=Aside0.mk H
 clear H
 go_enter Tryz.func23,Tryz.ntmps23
 go_wp2
 go_loopg [3,4] k (fun kq v3 v4 w' => ∃ (x3_1 : List (S70)) (x4_1 : Int),v4 = .int .i64 x4_1 ∧ Aside0 (Lw17_own.l0 kq l0 x3_1 x4_1 = some r) ∧ Aside0 (kq ≤ k) ∧ Aside0 (Kd.V k68 68 w' w.heap.size (fun k_ => (P0_ k_ ∨ w.heap.size ≤ k_) ∧ some k_ ≠ (v3 : Value).ownBlock) (.slice A0 l0.length c0) l0) ∧ Aside0 (Kd.N k70 70 w' w.heap.size (fun k_ => (P0_ k_ ∨ w.heap.size ≤ k_)) v3 x3_1) ∧ Aside0 (Below w.heap.size w w'))
 case atStart => exact ⟨(([] : List (S70))),(0),q12_,H',⟨Nat.le_refl _⟩,⟨by (with_reducible repeat (first | apply Kd.V_alloc | apply Kd.V_drewN | apply Kd.V_drew));exact Kd.V_mono HO0.out (fun _ hk => ⟨hk,(by simp [Value.ownBlock])⟩)⟩,⟨by first | exact Kd.S_nil _ _ _ _ _ | exact Kd.N_nil _ _ _ _ _ | exact Kd.V_nil _ _ _ _ _ | exact Kd.Q_nil _ _ _ _ _ | exact Kd.R_nil _ _ _ _ _⟩,⟨by repeat (first | (with_reducible first | exact HB.out | apply below_alloc | apply pw_below_drewN | apply below_drew1) | exact HB.out)⟩⟩
 case round =>
  clear H'
  obtain ⟨x3_1,x4_1,rfl,HA,HK1,HO_0,HO_3,HB⟩:=hrel
  cases gk with
  | zero => exact absurd HA.out (by simp [Lw17_own.l0])
  | succ k1 =>
   have H:=HA.out
   clear HA
   simp only [Lw17_own.l0] at H
   by_cases c2 : x4_1 < (l0.length : Int)
   ·rw [if_pos c2] at H
    have c2b0:=decide_eq_true c2
    clear c2
    by_cases c3 : 0 ≤ x4_1
    ·rw [if_pos c3] at H
     have c3b0:=decide_eq_true c3
     clear c3
     by_cases c4 : x3_1.length < 1466015503701
     ·rw [if_pos c4] at H
      have LMc4:=Aside0.mk c4
      clear c4
      obtain ⟨y102,hy102⟩ : ∃ y_ : List (S70),y_ = (x3_1 ++ [(⟨(⟨(rd_T68 l0 x4_1).f0.f0,(⟨(rd_T68 l0 x4_1).f0.f1.f0,(rd_T68 l0 x4_1).f0.f1.f1,(rd_T68 l0 x4_1).f0.f1.f2,(rd_T68 l0 x4_1).f0.f1.f3,(rd_T68 l0 x4_1).f0.f1.f4⟩ : S24)⟩ : S41),(rd_T68 l0 x4_1).f1⟩ : S70)]):=⟨_,rfl⟩
      replace H : (Lw17_own.l0 k1 l0 y102 (wrap64 (x4_1 + 1))) = some r:=by first | (rw [hy102];with_reducible exact H) | (have H2_:=(Option.bind_some _ _).symm.trans H;rw [hy102];with_reducible exact H2_) | (have H2_:=(Option.bind_some _ _).symm.trans H;with_reducible exact H2_) | with_reducible exact H | (rw [hy102];exact H) | exact H
      have Ny102:=Aside0.mk hy102
      clear hy102
      have H':=Aside0.mk H
      clear H
      have p101 : 0 ≤ (x4_1 : Int):=of_decide_eq_true q1_
      have q101 : x4_1 < (l0.length : Int):=of_decide_eq_true q1_
      obtain ⟨ad101,A101_6,c101_6,e101,hx101_0,hx101_1,hx101_2,hx101_3,hx101_4,hx101_5,hx101_6,hl101_6,hi101_6⟩:=at_T68 (Kd.V_reads' HO_0.out).2.2 x4_1 p101 q101
      cases e101
      obtain ⟨ce101,hce101,hMe101,hcc101⟩:=Kd.V_get HO_0.out z68 x4_1 p101 (by first | exact q101 | exact of_decide_eq_true q1_ | (have e_:=(Kd.V_reads' HO_0.out).1;omega))
      obtain ⟨ua101_6,uc101_6,rfl,ul101_6,ge101_6⟩:=k68_openF hMe101
      have hv101_6:=hcc101 6 _ rfl
      rw [add_field _ _ 6 q5_] at hv101_6
      replace hv101_6:=Option.some.inj (hv101_6.symm.trans hx101_6)
      injection hv101_6 with hva_ hvn_ hvc_
      rw [hva_] at ge101_6
      rw [hvc_] at ul101_6
      have HL101_6:=Aside0.mk (show Kd.V k41 41 _ w.heap.size _ _ ((rd_T68 l0 x4_1).f1) from Kd.V_mk ul101_6 ge101_6)
      clear hva_ hvn_ hvc_ ge101_6 ul101_6
      clear hcc101 hce101
      have HR101_6:=Aside0.mk hi101_6
      have HC101_6:=Aside0.mk hl101_6
      clear hi101_6 hl101_6
      replace p101:=eq_true p101
      replace q101:=eq_true q101
      go_wp2_with (first | ((with_reducible refine gate_builtin (b:=.append) (xs:=#[.tmp 11,.tmp 16]) rfl ?_);at_builtin;refine Kd.N_append k70 (w0:=w) w.heap.size rfl (.tmp 11) (.tmp 16) 43 70 (.agg #[(.string ⟨#[]⟩),(.int .i64 0),(.int .i64 0),(.int .i64 0),(.string ⟨#[]⟩),(.string ⟨#[]⟩),(.slice none 0 0)]) 96 rfl Tryz.underlying43 info70 rfl q30_ q5_ u3 x3_1 (⟨(⟨(rd_T68 l0 x4_1).f0.f0,(⟨(rd_T68 l0 x4_1).f0.f1.f0,(rd_T68 l0 x4_1).f0.f1.f1,(rd_T68 l0 x4_1).f0.f1.f2,(rd_T68 l0 x4_1).f0.f1.f3,(rd_T68 l0 x4_1).f0.f1.f4⟩ : S24)⟩ : S41),(rd_T68 l0 x4_1).f1⟩ : S70) [.string ((rd_T68 l0 x4_1).f0.f0),.int .i64 ((rd_T68 l0 x4_1).f0.f1.f0),.int .i64 ((rd_T68 l0 x4_1).f0.f1.f1),.int .i64 ((rd_T68 l0 x4_1).f0.f1.f2),.string ((rd_T68 l0 x4_1).f0.f1.f3),.string ((rd_T68 l0 x4_1).f0.f1.f4),.slice A101_6 ((rd_T68 l0 x4_1).f1).length c101_6] (fun k_ => (P0_ k_ ∨ w.heap.size ≤ k_)) (fun k_ => ((fun k_ => (P0_ k_ ∨ w.heap.size ≤ k_))) k_ ∧ some k_ ≠ (u3 : Value).ownBlock) rfl rfl ?aP (fun _ hk => hk) ?aF ?aO ?aB ?aS ?aL ?_;(case aP => exact (k70_mkF _ _ (⟨(⟨(rd_T68 l0 x4_1).f0.f0,(⟨(rd_T68 l0 x4_1).f0.f1.f0,(rd_T68 l0 x4_1).f0.f1.f1,(rd_T68 l0 x4_1).f0.f1.f2,(rd_T68 l0 x4_1).f0.f1.f3,(rd_T68 l0 x4_1).f0.f1.f4⟩ : S24)⟩ : S41),(rd_T68 l0 x4_1).f1⟩ : S70) (Kd.V_reads' (Kd.V_mono (ok':=(fun k_ => ((fun k_ => (P0_ k_ ∨ w.heap.size ≤ k_))) k_ ∧ some k_ ≠ (u3 : Value).ownBlock)) (HL101_6.out) (fun k_ hk => ⟨hk.1,hk.2⟩))).2.1 (Kd.V_F (Kd.V_mono (ok':=(fun k_ => ((fun k_ => (P0_ k_ ∨ w.heap.size ≤ k_))) k_ ∧ some k_ ≠ (u3 : Value).ownBlock)) (HL101_6.out) (fun k_ hk => ⟨hk.1,hk.2⟩)))));(case aB => exact bh_);(case aF => exact (fun k_ hk => (.inr (Nat.le_trans (below_size bh_) hk))));(case aO => exact (by (with_reducible repeat (first | apply Kd.N_alloc | apply Kd.N_drewN | apply Kd.N_drew));exact HO_3.out));(case aS => exact (below_size bh_));(case aL => have:=LMc4.out;omega);intro v103 w5 ho hb hg hat;rw [← Ny102.out] at ho;replace HO_0:=Aside0.mk (Kd.V_afterv (ok:=(fun k_ => (P0_ k_ ∨ w.heap.size ≤ k_))) (by (with_reducible repeat (first | apply Kd.V_alloc | apply Kd.V_drewN | apply Kd.V_drew));exact HO_0.out) hg hat);replace HL101_6:=Aside0.mk (Kd.V_afterv (ok:=(fun k_ => (P0_ k_ ∨ w.heap.size ≤ k_))) (by (with_reducible repeat (first | apply Kd.V_alloc | apply Kd.V_drewN | apply Kd.V_drew));exact HL101_6.out) hg hat);replace HB:=Aside0.mk (hb);have HO104:=Aside0.mk (ho);clear HO_3;clear ho hb hg hat))
      go_roundg k1
      case measure => have:=HK1.out;omega
      case rel => exact ⟨(y102),(wrap64 (x4_1 + 1)),q12_,H',⟨by have:=HK1.out;omega⟩,⟨by (with_reducible repeat (first | apply Kd.V_alloc | apply Kd.V_drewN | apply Kd.V_drew));exact HO_0.out⟩,⟨by (with_reducible repeat (first | apply Kd.N_alloc | apply Kd.N_drewN | apply Kd.N_drew));exact HO104.out⟩,⟨by repeat (first | (with_reducible first | exact HB.out | apply below_alloc | apply pw_below_drewN | apply below_drew1) | exact HB.out)⟩⟩
     ·rw [if_neg c4] at H
      exact absurd H q25_
    ·rw [if_neg c3] at H
     exact absurd H q25_
   ·rw [if_neg c2] at H
    have c2b0:=decide_eq_false c2
    clear c2
    obtain rfl:=Option.some.inj H
    go_wp2
    go_ret
    exact ⟨_,by first | rfl | (simp [] <;> rfl) | (simp [*] <;> rfl) | (simp [bne_nil_];done) | (simp [*,bne_nil_];done),by (with_reducible repeat (first | apply Kd.N_alloc | apply Kd.N_drewN | apply Kd.N_drew));exact HO_3.out,by repeat (first | (with_reducible first | exact HB.out | apply below_alloc | apply pw_below_drewN | apply below_drew1) | exact HB.out)⟩
end Go.Proofs.YtennhpoemdaghaaGreatDoor.P
end
section

end
section

end
section
namespace Go.Proofs.YtennhpoemdaghaaGreatDoor.P
open Go.RowKit Go.Proofs.YtennhpoemdaghaaGreatDoorW.PrintWords Go.Proofs.YtennhpoemdaghaaGreatDoorW.PrintLast Go.Proofs.YtennhpoemdaghaaGreatDoorW.PrintMore
attribute [local go_sem high] eqA41
def Rf17_Same.l0 : Nat → List (S41) → List (S41) → Int → Option (Bool)
 | 0,_,_,_ => none
 | k + 1,x0,x1,x5 => if x5 < (x0.length : Int) then (if 0 ≤ x5 then (if x5 < (x1.length : Int) then (if (!((((rd_T41 x0 x5).f0).toList) == (((rd_T41 x1 x5).f0).toList)) || ((!(((rd_T41 x0 x5).f1.f0) == ((rd_T41 x1 x5).f1.f0)) || (!(((rd_T41 x0 x5).f1.f1) == ((rd_T41 x1 x5).f1.f1)) || (!(((rd_T41 x0 x5).f1.f2) == ((rd_T41 x1 x5).f1.f2)) || (!((((rd_T41 x0 x5).f1.f3).toList) == (((rd_T41 x1 x5).f1.f3).toList)) || (!((((rd_T41 x0 x5).f1.f4).toList) == (((rd_T41 x1 x5).f1.f4).toList))))))))) = true then (some false) else (Rf17_Same.l0 k x0 x1 (wrap64 (x5 + 1)))) else (none)) else (none)) else (some true)
def Rf17_Same.f (k : Nat) (l0 : List (S41)) (l1 : List (S41)) : Option (Bool):=if (l0.length : Int) = (l1.length : Int) then (Rf17_Same.l0 k l0 l1 0) else (some false)
theorem Rf17_Same.mono_l : ∀ k,(∀ y0 y1 y2,LeO (Rf17_Same.l0 k y0 y1 y2) (Rf17_Same.l0 (k + 1) y0 y1 y2))
 | 0 => fun _ _ _ r h => by simp [Rf17_Same.l0] at h
 | k + 1 => by
  have ih0:=Rf17_Same.mono_l k
  ·intro y0 y1 y2
   unfold Rf17_Same.l0
   repeat' first
   | (with_reducible exact ih0 _ _ _)
   | (with_reducible exact LeO.refl _)
   | (with_reducible exact LeO.none _)
   | (with_reducible refine LeO.ite ?_ ?_)
   | (with_reducible refine LeO.bind ?_ (fun _ => ?_))
   | exact ih0 _ _ _
   | exact LeO.none _
   | refine LeO.ite ?_ ?_
   | refine LeO.bind ?_ (fun _ => ?_)
theorem Rf17_Same.mono : ∀ a0 a1 k,LeO (Rf17_Same.f k a0 a1) (Rf17_Same.f (k + 1) a0 a1):=by
 intro a0 a1 k
 have ih0:=Rf17_Same.mono_l k
 unfold Rf17_Same.f
 repeat' first
   | (with_reducible exact ih0 _ _ _)
   | (with_reducible exact LeO.refl _)
   | (with_reducible exact LeO.none _)
   | (with_reducible refine LeO.ite ?_ ?_)
   | (with_reducible refine LeO.bind ?_ (fun _ => ?_))
   | exact ih0 _ _ _
   | exact LeO.none _
   | refine LeO.ite ?_ ?_
   | refine LeO.bind ?_ (fun _ => ?_)
set_option maxHeartbeats 8000000 in
set_option maxRecDepth 100000 in
theorem Rf17_Same.calls (k : Nat) (A0 : Option Addr) (c0 : Nat) (l0 : List (S41)) (A1 : Option Addr) (c1 : Nat) (l1 : List (S41)) (r : Bool) (w : World) (hr0 : Kd.C k41 w A0 l0.length l0) (hc0 : l0.length ≤ c0) (hr1 : Kd.C k41 w A1 l1.length l1) (hc1 : l1.length ≤ c1) (h : Rf17_Same.f k l0 l1 = some r) :
  Calls Tryz.prog 24 #[.slice A0 l0.length c0,.slice A1 l1.length c1] w fun e w' => e = .returned (.bool r) ∧ Drawn0 w w':=by
 have hu41:=Tryz.underlying41
 have HR0:=Aside0.mk hr0
 have HC0:=Aside0.mk hc0
 clear hr0 hc0
 have HR1:=Aside0.mk hr1
 have HC1:=Aside0.mk hc1
 clear hr1 hc1
 have H : (if (l0.length : Int) = (l1.length : Int) then (Rf17_Same.l0 k l0 l1 0) else (some false)) = some r:=h
 clear h
 by_cases c3 : (l0.length : Int) = (l1.length : Int)
 ·rw [if_pos c3] at H
  have c3b0:=beq_iff_eq.mpr c3
  have c3b1:=bne_eq_false_iff_eq.mpr c3
  have c3b2 : (l0.length == l1.length) = true:=by first | simpa using c3 | (simp at c3 ⊢;omega)
  clear c3
  have H':=Aside0.mk H
  clear H
  go_enter Tryz.func24,Tryz.ntmps24
  go_wp2
  repeat (go_quiet (fail);try go_wp2)
  go_loopg [5] k (fun kq v5 w' => ∃ (x5_1 : Int),v5 = .int .i64 x5_1 ∧ Aside0 (Rf17_Same.l0 kq l0 l1 x5_1 = some r) ∧ Aside0 (kq ≤ k) ∧ Drawn0 w w')
  case atStart => exact ⟨(0),q12_,H',⟨Nat.le_refl _⟩,by repeat (first | exact Drawn0.refl _ | apply Drawn0.step)⟩
  case round =>
   clear H'
   try clear c1
   try clear c2
   try clear p2
   try clear c3
   try clear c3b0
   try clear c3b1
   try clear c3b2
   obtain ⟨x5_1,rfl,HA,HK1,⟨m1,rfl⟩⟩:=hrel
   cases gk with
   | zero => exact absurd HA.out (by simp [Rf17_Same.l0])
   | succ k1 =>
    have H:=HA.out
    clear HA
    simp only [Rf17_Same.l0] at H
    by_cases c4 : x5_1 < (l0.length : Int)
    ·rw [if_pos c4] at H
     have c4b0:=decide_eq_true c4
     clear c4
     by_cases c5 : 0 ≤ x5_1
     ·rw [if_pos c5] at H
      have c5b0:=decide_eq_true c5
      clear c5
      by_cases c6 : x5_1 < (l1.length : Int)
      ·rw [if_pos c6] at H
       have c6b0:=decide_eq_true c6
       clear c6
       by_cases c7 : (!((((rd_T41 l0 x5_1).f0).toList) == (((rd_T41 l1 x5_1).f0).toList)) || ((!(((rd_T41 l0 x5_1).f1.f0) == ((rd_T41 l1 x5_1).f1.f0)) || (!(((rd_T41 l0 x5_1).f1.f1) == ((rd_T41 l1 x5_1).f1.f1)) || (!(((rd_T41 l0 x5_1).f1.f2) == ((rd_T41 l1 x5_1).f1.f2)) || (!((((rd_T41 l0 x5_1).f1.f3).toList) == (((rd_T41 l1 x5_1).f1.f3).toList)) || (!((((rd_T41 l0 x5_1).f1.f4).toList) == (((rd_T41 l1 x5_1).f1.f4).toList))))))))) = true
       ·rw [if_pos c7] at H
        have c7b0 : (!((((rd_T41 l0 x5_1).f0).toList) == (((rd_T41 l1 x5_1).f0).toList)) || ((!(((rd_T41 l0 x5_1).f1.f0) == ((rd_T41 l1 x5_1).f1.f0)) || (!(((rd_T41 l0 x5_1).f1.f1) == ((rd_T41 l1 x5_1).f1.f1)) || (!(((rd_T41 l0 x5_1).f1.f2) == ((rd_T41 l1 x5_1).f1.f2)) || (!((((rd_T41 l0 x5_1).f1.f3).toList) == (((rd_T41 l1 x5_1).f1.f3).toList)) || (!((((rd_T41 l0 x5_1).f1.f4).toList) == (((rd_T41 l1 x5_1).f1.f4).toList))))))))) = true:=c7
        clear c7
        obtain rfl:=Option.some.inj H
        have p101 : 0 ≤ (x5_1 : Int):=of_decide_eq_true q1_
        have q101 : x5_1 < (l0.length : Int):=of_decide_eq_true q1_
        obtain ⟨ad101,e101,hx101_0,hx101_1,hx101_2,hx101_3,hx101_4,hx101_5⟩:=at_T41 HR0.out x5_1 p101 q101
        cases e101
        replace p101:=eq_true p101
        replace q101:=eq_true q101
        have p102 : 0 ≤ (x5_1 : Int):=of_decide_eq_true q1_
        have q102 : x5_1 < (l1.length : Int):=of_decide_eq_true q1_
        obtain ⟨ad102,e102,hx102_0,hx102_1,hx102_2,hx102_3,hx102_4,hx102_5⟩:=at_T41 HR1.out x5_1 p102 q102
        cases e102
        replace p102:=eq_true p102
        replace q102:=eq_true q102
        go_wp2
        repeat (go_quiet (fail);try go_wp2)
        go_ret
        exact ⟨q3_,q4_⟩
       ·rw [if_neg c7] at H
        have c7b0 : (!((((rd_T41 l0 x5_1).f0).toList) == (((rd_T41 l1 x5_1).f0).toList)) || ((!(((rd_T41 l0 x5_1).f1.f0) == ((rd_T41 l1 x5_1).f1.f0)) || (!(((rd_T41 l0 x5_1).f1.f1) == ((rd_T41 l1 x5_1).f1.f1)) || (!(((rd_T41 l0 x5_1).f1.f2) == ((rd_T41 l1 x5_1).f1.f2)) || (!((((rd_T41 l0 x5_1).f1.f3).toList) == (((rd_T41 l1 x5_1).f1.f3).toList)) || (!((((rd_T41 l0 x5_1).f1.f4).toList) == (((rd_T41 l1 x5_1).f1.f4).toList))))))))) = false:=by simpa using c7
        clear c7
        have H':=Aside0.mk H
        clear H
        have p101 : 0 ≤ (x5_1 : Int):=of_decide_eq_true q1_
        have q101 : x5_1 < (l0.length : Int):=of_decide_eq_true q1_
        obtain ⟨ad101,e101,hx101_0,hx101_1,hx101_2,hx101_3,hx101_4,hx101_5⟩:=at_T41 HR0.out x5_1 p101 q101
        cases e101
        replace p101:=eq_true p101
        replace q101:=eq_true q101
        have p102 : 0 ≤ (x5_1 : Int):=of_decide_eq_true q1_
        have q102 : x5_1 < (l1.length : Int):=of_decide_eq_true q1_
        obtain ⟨ad102,e102,hx102_0,hx102_1,hx102_2,hx102_3,hx102_4,hx102_5⟩:=at_T41 HR1.out x5_1 p102 q102
        cases e102
        replace p102:=eq_true p102
        replace q102:=eq_true q102
        go_wp2
        repeat (go_quiet (fail);try go_wp2)
        go_roundg k1
        case measure => have:=HK1.out;omega
        case rel => exact ⟨(wrap64 (x5_1 + 1)),q12_,H',⟨by have:=HK1.out;omega⟩,by repeat (first | exact Drawn0.refl _ | apply Drawn0.step)⟩
      ·rw [if_neg c6] at H
       exact absurd H q25_
     ·rw [if_neg c5] at H
      exact absurd H q25_
    ·rw [if_neg c4] at H
     have c4b0:=decide_eq_false c4
     clear c4
     obtain rfl:=Option.some.inj H
     go_wp2
     repeat (go_quiet (fail);try go_wp2)
     go_ret
     exact ⟨q3_,q4_⟩
 ·rw [if_neg c3] at H
  have c3b0:=beq_eq_false_iff_ne.mpr c3
  have c3b1:=bne_iff_ne.mpr c3
  have c3b2 : (l0.length == l1.length) = false:=by first | simpa using c3 | (simp at c3 ⊢;omega)
  obtain rfl:=Option.some.inj H
  go_enter Tryz.func24,Tryz.ntmps24
  go_wp2
  repeat (go_quiet (fail);try go_wp2)
  go_ret
  exact ⟨q3_,q4_⟩
end Go.Proofs.YtennhpoemdaghaaGreatDoor.P
end
section
namespace Go.Proofs.YtennhpoemdaghaaGreatDoor.P
open Go Go.RowKit Go.Proofs.YtennhpoemdaghaaGreatDoorW.PrintWords
theorem wrap_at (i n : Nat) (h : i < n) (hn : n ≤ 9223372036854775807) : wrap64 ((i : Int) + 1) = ((i + 1 : Nat) : Int):=by unfold wrap64;omega
theorem loop_all {β : Type} (F : Nat → Int → Option β) (n K : Nat) (res : Option β) (hn : n ≤ 9223372036854775807) (step : ∀ (k i : Nat),i < n → K ≤ k → F (k + 1) (i : Int) = F k (wrap64 ((i : Int) + 1))) (fin : ∀ k,K ≤ k → F (k + 1) (n : Int) = res) :
  ∀ (k : Nat),K + n < k → F k 0 = res:=by
 have h : ∀ (d i k : Nat),i ≤ n → n - i = d → K + d < k → F k (i : Int) = res:=by
  intro d
  induction d with
  | zero =>
   intro i k hi hd hk
   obtain ⟨k,rfl⟩ : ∃ m,k = m + 1:=⟨k - 1,by omega⟩
   have e : i = n:=by omega
   rw [e]
   exact fin k q5_
  | succ d ih =>
   intro i k hi hd hk
   obtain ⟨k,rfl⟩ : ∃ m,k = m + 1:=⟨k - 1,by omega⟩
   rw [step k i q5_ q5_,wrap_at i n q5_ hn]
   exact ih (i + 1) k q5_ q5_ q5_
 intro k hk
 exact h n 0 k (Nat.zero_le _) rfl hk
def ownN (n : RNode) : Node:=⟨n.f0,n.f1⟩
theorem own_f (l : List RNode) (hl : l.length ≤ 1000000) (k : Nat) (hk : l.length < k) : Lw17_own.f k l = some (l.map ownN):=by
 have h : ∀ (d i k : Nat),i ≤ l.length → l.length - i = d → d < k → Lw17_own.l0 k l ((l.take i).map ownN) (i : Int) = some (l.map ownN):=by
  intro d
  induction d with
  | zero =>
   intro i k hi hd hk
   obtain ⟨k,rfl⟩ : ∃ m,k = m + 1:=⟨k - 1,by omega⟩
   rw [Lw17_own.l0,if_neg q5_,List.take_of_length_le q5_]
  | succ d ih =>
   intro i k hi hd hk
   obtain ⟨k,rfl⟩ : ∃ m,k = m + 1:=⟨k - 1,by omega⟩
   have h : i < l.length:=by omega
   have hr : rd_T68 l (i : Int) = l[i]:=by simp [rd_T68,h]
   have hw:=wrap_at i l.length h q5_
   have e : (l.take (i + 1)).map ownN = (l.take i).map ownN ++ [ownN l[i]]:=by rw [List.take_succ_eq_append_getElem h,List.map_append];rfl
   rw [Lw17_own.l0,if_pos q5_,if_pos q5_,if_pos (by rw [List.length_map,List.length_take];omega),hr,hw]
   have:=ih (i + 1) k q5_ q5_ q5_
   rw [e] at this
   exact this
 exact h l.length 0 k (Nat.zero_le _) rfl hk
theorem Same_f (l : List Req) (hl : l.length ≤ 1000000) (k : Nat) (hk : 1 + l.length < k) : Rf17_Same.f k l l = some true:=by
 unfold Rf17_Same.f
 rw [if_pos rfl]
 refine loop_all (fun k i => Rf17_Same.l0 k l l i) l.length 1 (some true) q5_ (fun k i hi _ => ?_) (fun k _ => ?_) k q5_
 ·show Rf17_Same.l0 (k + 1) l l (i : Int) = _
  rw [Rf17_Same.l0,if_pos q5_,if_pos q5_,if_pos q5_,if_neg q25_]
 ·show Rf17_Same.l0 (k + 1) l l (l.length : Int) = _
  rw [Rf17_Same.l0,if_neg q5_]
def fewN (l : List RNode) : Prop:=l.length ≤ 20 ∧ ∀ n ∈ l,n.f1.length ≤ 12
theorem small_root {root : List Req} {l : List RNode} (h : smallB root l = true) : root.length ≤ 12:=by
 unfold smallB fewB at h
 simp only [Bool.and_eq_true] at h
 exact of_decide_eq_true h.2.1.2
theorem small_few {root : List Req} {l : List RNode} (h : smallB root l = true) : fewN l:=by
 unfold smallB at h
 simp only [Bool.and_eq_true,List.all_eq_true] at h
 refine ⟨of_decide_eq_true h.2.2,fun n hn => ?_⟩
 have:=(h.1 n hn).1
 unfold fewB at this
 simp only [Bool.and_eq_true] at this
 exact of_decide_eq_true this.2
theorem sum_le : ∀ (l : List Nat) (m : Nat),(∀ a ∈ l,a ≤ m) → l.sum ≤ l.length * m
 | [],m,_ => by simp
 | a :: l,m,h => by
  have h1:=sum_le l m (fun b hb => h b (by simp [hb]))
  have h2:=h a q25_
  rw [List.sum_cons,List.length_cons,Nat.add_mul]
  omega
theorem univ_le {l : List RNode} (h : fewN l) (root : List Req) : (univ root (l.map ownN)).length ≤ root.length + 240:=by
 unfold univ
 rw [List.length_append,List.length_flatMap,List.map_map]
 have h1 : ∀ a ∈ l.map ((fun n : Node => n.f1.length) ∘ ownN),a ≤ 12:=fun a ha => by
  obtain ⟨n,hn,rfl⟩:=List.mem_map.1 ha
  exact h.2 n hn
 have h2:=sum_le _ 12 h1
 rw [List.length_map] at h2
 have h3:=h.1
 omega
theorem reach_len {l : List RNode} (h : fewN l) {root : List Req} (hr : root.length ≤ 1000) : (reachL root (l.map ownN)).length ≤ root.length + 240:=by
 have h1:=univ_le h root
 have:=(reachL_inv root (l.map ownN) q5_).len
 omega
theorem list_len {l : List RNode} (h : fewN l) {root : List Req} (hr : root.length ≤ 1000) : (listL root (l.map ownN)).length ≤ root.length + 240:=by
 have:=listOf_len (reachL root (l.map ownN))
 have:=reach_len h hr
 unfold listL
 omega
theorem Reach.sub {root root' : List Req} {nodes : List Node} (h : ∀ x ∈ root,x ∈ root') {r : Req} (hr : Reach root nodes r) : Reach root' nodes r:=by
 induction hr with
 | root h1 h2 => exact .root (h _ h1) h2
 | step _ h1 h2 ih => exact .step ih h1 h2
end Go.Proofs.YtennhpoemdaghaaGreatDoor.P
end
section
namespace Go.Proofs.YtennhpoemdaghaaGreatDoor.P
open Go Go.RowKit Go.Proofs.YtennhpoemdaghaaGreatDoorW.PrintWords Go.Proofs.YtennhpoemdaghaaGreatDoorW.PrintLast Go.Proofs.YtennhpoemdaghaaGreatDoorW.PrintMore
def predO (b y : Req) : Option Bool:=if y.f0.toList == b.f0.toList then (cmpP y b).bind fun c => some (decide (c > 0)) else some false
set_option maxRecDepth 100000 in
set_option maxHeartbeats 4000000 in
theorem out1_calls (y b : Req) (vn : Value) (g2 : Nat) (p : Bool) (w0 w : World) (hb0 : Below w0.heap.size w0 w) (hE : Env w0) (hb2 : w.heap[g2]? = some (.cells #[.string b.f0,.int .i64 b.f1.f0,.int .i64 b.f1.f1,.int .i64 b.f1.f2,.string b.f1.f3,.string b.f1.f4,vn] 91 (0,0))) (hp : predO b y = some p) :
  Calls Tryz.prog 93 #[.agg #[.string y.f0,.int .i64 y.f1.f0,.int .i64 y.f1.f1,.int .i64 y.f1.f2,.string y.f1.f3,.string y.f1.f4],.pointer (some ⟨g2,0,none⟩)] w fun e w' => e = .returned (.bool p) ∧ Below w.heap.size w w':=by
 have BK:=Aside0.mk hb2
 have HB:=Aside0.mk hb0
 have HE:=Aside0.mk hE
 have HD:=Aside0.mk (Below.refl w.heap.size w)
 clear hb2 hb0 hE
 unfold predO at hp
 cases he : (y.f0.toList == b.f0.toList) with
 | false =>
  rw [he] at hp
  obtain rfl:=Option.some.inj hp
  go_enter Tryz.func93,Tryz.ntmps93
  go_wp2_with (first | ((with_reducible refine gate_dst (N:=2) rfl ?_);refine bx_ 2 41 #[.string y.f0,.int .i64 y.f1.f0,.int .i64 y.f1.f1,.int .i64 y.f1.f2,.string y.f1.f3,.string y.f1.f4] ?_;intro g3 hg_ w3 hbox hb_;clear hg_;replace BK:=Aside0.mk (blk_below BK.out hb_);replace HB:=Aside0.mk (below_then HB.out HB.out.size hb_);replace HD:=Aside0.mk (below_then HD.out HD.out.size hb_);have B3:=Aside0.mk hbox;clear hbox hb_;have hz0 : w3.cell? ⟨g2,0,none⟩ = some _:=(blk_cell BK.out 0).trans rfl;have hz1 : w3.cell? ⟨g2,1,none⟩ = some _:=(blk_cell BK.out 1).trans rfl;have hz2 : w3.cell? ⟨g2,2,none⟩ = some _:=(blk_cell BK.out 2).trans rfl;have hz3 : w3.cell? ⟨g2,3,none⟩ = some _:=(blk_cell BK.out 3).trans rfl;have hz4 : w3.cell? ⟨g2,4,none⟩ = some _:=(blk_cell BK.out 4).trans rfl;have hz5 : w3.cell? ⟨g2,5,none⟩ = some _:=(blk_cell BK.out 5).trans rfl;have hz6 : w3.cell? ⟨g2,6,none⟩ = some _:=(blk_cell BK.out 6).trans rfl;have hy0 : w3.cell? ⟨g3,0,none⟩ = some _:=(blk_cell B3.out 0).trans rfl;have hy1 : w3.cell? ⟨g3,1,none⟩ = some _:=(blk_cell B3.out 1).trans rfl;have hy2 : w3.cell? ⟨g3,2,none⟩ = some _:=(blk_cell B3.out 2).trans rfl;have hy3 : w3.cell? ⟨g3,3,none⟩ = some _:=(blk_cell B3.out 3).trans rfl;have hy4 : w3.cell? ⟨g3,4,none⟩ = some _:=(blk_cell B3.out 4).trans rfl;have hy5 : w3.cell? ⟨g3,5,none⟩ = some _:=(blk_cell B3.out 5).trans rfl))
  go_ret
  exact ⟨rfl,HD.out⟩
 | true =>
  rw [he] at hp
  obtain ⟨c,hc,hp⟩:=Option.bind_eq_some_iff.mp hp
  replace hc : ver_Compare.f fuelR y.f1.f0 y.f1.f1 y.f1.f2 y.f1.f3 y.f1.f4 b.f1.f0 b.f1.f1 b.f1.f2 b.f1.f3 b.f1.f4 = some c:=hc
  obtain rfl:=Option.some.inj hp
  go_enter Tryz.func93,Tryz.ntmps93
  go_wp2_with (first | ((with_reducible refine gate_dst (N:=2) rfl ?_);refine bx_ 2 41 #[.string y.f0,.int .i64 y.f1.f0,.int .i64 y.f1.f1,.int .i64 y.f1.f2,.string y.f1.f3,.string y.f1.f4] ?_;intro g3 hg_ w3 hbox hb_;clear hg_;replace BK:=Aside0.mk (blk_below BK.out hb_);replace HB:=Aside0.mk (below_then HB.out HB.out.size hb_);replace HD:=Aside0.mk (below_then HD.out HD.out.size hb_);have B3:=Aside0.mk hbox;clear hbox hb_;have hz0 : w3.cell? ⟨g2,0,none⟩ = some _:=(blk_cell BK.out 0).trans rfl;have hz1 : w3.cell? ⟨g2,1,none⟩ = some _:=(blk_cell BK.out 1).trans rfl;have hz2 : w3.cell? ⟨g2,2,none⟩ = some _:=(blk_cell BK.out 2).trans rfl;have hz3 : w3.cell? ⟨g2,3,none⟩ = some _:=(blk_cell BK.out 3).trans rfl;have hz4 : w3.cell? ⟨g2,4,none⟩ = some _:=(blk_cell BK.out 4).trans rfl;have hz5 : w3.cell? ⟨g2,5,none⟩ = some _:=(blk_cell BK.out 5).trans rfl;have hz6 : w3.cell? ⟨g2,6,none⟩ = some _:=(blk_cell BK.out 6).trans rfl;have hy0 : w3.cell? ⟨g3,0,none⟩ = some _:=(blk_cell B3.out 0).trans rfl;have hy1 : w3.cell? ⟨g3,1,none⟩ = some _:=(blk_cell B3.out 1).trans rfl;have hy2 : w3.cell? ⟨g3,2,none⟩ = some _:=(blk_cell B3.out 2).trans rfl;have hy3 : w3.cell? ⟨g3,3,none⟩ = some _:=(blk_cell B3.out 3).trans rfl;have hy4 : w3.cell? ⟨g3,4,none⟩ = some _:=(blk_cell B3.out 4).trans rfl;have hy5 : w3.cell? ⟨g3,5,none⟩ = some _:=(blk_cell B3.out 5).trans rfl) | (go_at_call 44;(with_reducible refine (ver_Compare.calls fuelR y.f1.f0 y.f1.f1 y.f1.f2 y.f1.f3 y.f1.f4 b.f1.f0 b.f1.f1 b.f1.f2 b.f1.f3 b.f1.f4 c _ hc ?sideG).mono ?_);(case sideG => exact Env.below HE.out HB.out);rintro e w6 ⟨rfl,hb6⟩;replace HD:=Aside0.mk (below_then HD.out HD.out.size hb6);clear hb6))
  go_ret
  exact ⟨rfl,HD.out⟩
theorem idxP_any {α : Type} (pred : α → Bool) : ∀ (l : List α) (i : Nat),decide (0 ≤ idxP pred l i) = l.any pred
 | [],_ => rfl
 | x :: xs,i => by
  rw [idxP,List.any_cons]
  cases h : pred x
  ·simpa using idxP_any pred xs (i + 1)
  ·simp
set_option maxRecDepth 100000 in
set_option maxHeartbeats 4000000 in
theorem containsOut (A : Option Addr) (c : Nat) (l : List Req) (g2 : Nat) (b : Req) (vn : Value) (w0 w : World) (hb0 : Below w0.heap.size w0 w) (hE : Env w0) (hb2 : w.heap[g2]? = some (.cells #[.string b.f0,.int .i64 b.f1.f0,.int .i64 b.f1.f1,.int .i64 b.f1.f2,.string b.f1.f3,.string b.f1.f4,vn] 91 (0,0)))
  (hr : Kd.C k41 w A l.length l) (hc : l.length ≤ c) (hall : l.all (fun y => (predO b y).isSome) = true) :
  Calls Tryz.prog 92 #[.slice A l.length c,.func (.func 93) #[] #[.pointer (some ⟨g2,0,none⟩)]] w fun e w' => e = .returned (.bool (l.any fun y => (predO b y).getD false)) ∧ Below w.heap.size w w':=by
 have hcon:=indexOut A c l g2 (fun y => (predO b y).getD false) w hr hc (fun y W hy hbW => by
  have hs:=List.all_eq_true.1 hall y hy
  obtain ⟨p,hp⟩:=Option.isSome_iff_exists.1 hs
  rw [hp]
  exact out1_calls y b vn g2 p w0 W (below_then hb0 hb0.size hbW) hE (blk_below hb2 hbW) hp)
 have hany:=idxP_any (fun y => (predO b y).getD false) l 0
 generalize idxP (fun y => (predO b y).getD false) l 0 = ix at hcon hany
 rw [← hany]
 clear hr hall hany hb2 hb0 hE
 go_enter Tryz.func92,Tryz.ntmps92
 go_wp2_with (go_at_call 60;(with_reducible refine hcon.mono ?_);rintro e w1 ⟨rfl,hb1⟩)
 go_ret
 exact ⟨rfl,hb1⟩
def outP (b : Req) (nodes : List Node) (x : Req) : Option Bool:=(mvs_List.f [x] nodes).bind fun L => if L.all (fun y => (predO b y).isSome) then some (L.any fun y => (predO b y).getD false) else none
set_option maxRecDepth 100000 in
set_option maxHeartbeats 4000000 in
theorem out_calls (b x : Req) (A1 : Option Addr) (c1 : Nat) (nodes : List Node) (r : Bool) (w : World) (hn : Kd.C k70 w A1 nodes.length nodes) (hc : nodes.length ≤ c1) (h : outP b nodes x = some r) (hG : Env w) :
  Calls Tryz.prog 62 #[.agg #[.string b.f0,.int .i64 b.f1.f0,.int .i64 b.f1.f1,.int .i64 b.f1.f2,.string b.f1.f3,.string b.f1.f4,.slice A1 nodes.length c1],.agg #[.string x.f0,.int .i64 x.f1.f0,.int .i64 x.f1.f1,.int .i64 x.f1.f2,.string x.f1.f3,.string x.f1.f4]] w fun e w' => e = .returned (.bool r) ∧ Below w.heap.size w w':=by
 obtain ⟨L,hL,h⟩:=Option.bind_eq_some_iff.mp h
 split at h
 case isFalse => exact absurd h q25_
 case isTrue hall =>
 obtain rfl:=Option.some.inj h
 have HN:=Aside0.mk hn
 have HC:=Aside0.mk hc
 have HE:=Aside0.mk hG
 clear hn hc hG h
 generalize hres : (L.any fun y => (predO b y).getD false) = res
 go_enter Tryz.func62,Tryz.ntmps62
 go_wp2_with (first | ((with_reducible refine gate_dst (N:=2) rfl ?_);refine bx_ 2 91 #[.string b.f0,.int .i64 b.f1.f0,.int .i64 b.f1.f1,.int .i64 b.f1.f2,.string b.f1.f3,.string b.f1.f4,.slice A1 nodes.length c1] ?_;intro g2 hg_ w2 hbox hb_;clear hg_;have HB:=Aside0.mk hb_;have B2:=Aside0.mk hbox;clear hbox hb_) | ((with_reducible refine gate_dst (N:=3) rfl ?_);refine bx_ 3 41 #[.string x.f0,.int .i64 x.f1.f0,.int .i64 x.f1.f1,.int .i64 x.f1.f2,.string x.f1.f3,.string x.f1.f4] ?_;intro g3 hg_ w3 hbox hb_;clear hg_;replace B2:=Aside0.mk (blk_below B2.out hb_);replace HB:=Aside0.mk (below_then HB.out HB.out.size hb_);have B3:=Aside0.mk hbox;clear hbox hb_;have hz0 : w3.cell? ⟨g2,0,none⟩ = some _:=(blk_cell B2.out 0).trans rfl;have hz1 : w3.cell? ⟨g2,1,none⟩ = some _:=(blk_cell B2.out 1).trans rfl;have hz2 : w3.cell? ⟨g2,2,none⟩ = some _:=(blk_cell B2.out 2).trans rfl;have hz3 : w3.cell? ⟨g2,3,none⟩ = some _:=(blk_cell B2.out 3).trans rfl;have hz4 : w3.cell? ⟨g2,4,none⟩ = some _:=(blk_cell B2.out 4).trans rfl;have hz5 : w3.cell? ⟨g2,5,none⟩ = some _:=(blk_cell B2.out 5).trans rfl;have hz6 : w3.cell? ⟨g2,6,none⟩ = some _:=(blk_cell B2.out 6).trans rfl;have hy0 : w3.cell? ⟨g3,0,none⟩ = some _:=(blk_cell B3.out 0).trans rfl;have hy1 : w3.cell? ⟨g3,1,none⟩ = some _:=(blk_cell B3.out 1).trans rfl;have hy2 : w3.cell? ⟨g3,2,none⟩ = some _:=(blk_cell B3.out 2).trans rfl;have hy3 : w3.cell? ⟨g3,3,none⟩ = some _:=(blk_cell B3.out 3).trans rfl;have hy4 : w3.cell? ⟨g3,4,none⟩ = some _:=(blk_cell B3.out 4).trans rfl;have hy5 : w3.cell? ⟨g3,5,none⟩ = some _:=(blk_cell B3.out 5).trans rfl) | ((with_reducible refine gate_dst (N:=6) rfl ?_);refine Kd.R_lit k41 _ 41 ?hg (N:=6) ?hd (xs:=[x]) (inner:=[.string x.f0,.int .i64 x.f1.f0,.int .i64 x.f1.f1,.int .i64 x.f1.f2,.string x.f1.f3,.string x.f1.f4]) (ok:=fun _ => True) (okp:=fun _ => True) ?hr ?hp (fun _ hk => hk) trivial (Below.refl _ _) (Nat.le_refl _) q25_ ?_;(case hd => rfl);(case hg => rfl);(case hr => first | (go_simp;done) | (go_simp;rfl));(case hp => exact (Reps.c6 (show Kd.M k41 _ _ _ x [.string x.f0,.int .i64 x.f1.f0,.int .i64 x.f1.f1,.int .i64 x.f1.f2,.string x.f1.f3,.string x.f1.f4] from (k41_mkM _ _ _ x)) (Reps.none _ _)));intro v6 w6 ho6 hb6 hg6_ hnew6;clear hg6_ hnew6;replace B2:=Aside0.mk (blk_below B2.out hb6);replace HB:=Aside0.mk (below_then HB.out HB.out.size hb6);clear B3 hb6;obtain ⟨A6,c6,rfl⟩:=Kd.R_slice ho6;have HO6:=Aside0.mk ho6;clear ho6;have hu0 : w6.cell? ⟨g2,0,none⟩ = some _:=(blk_cell B2.out 0).trans rfl;have hu1 : w6.cell? ⟨g2,1,none⟩ = some _:=(blk_cell B2.out 1).trans rfl;have hu2 : w6.cell? ⟨g2,2,none⟩ = some _:=(blk_cell B2.out 2).trans rfl;have hu3 : w6.cell? ⟨g2,3,none⟩ = some _:=(blk_cell B2.out 3).trans rfl;have hu4 : w6.cell? ⟨g2,4,none⟩ = some _:=(blk_cell B2.out 4).trans rfl;have hu5 : w6.cell? ⟨g2,5,none⟩ = some _:=(blk_cell B2.out 5).trans rfl;have hu6 : w6.cell? ⟨g2,6,none⟩ = some _:=(blk_cell B2.out 6).trans rfl) | (go_at_call 27;(refine (mvs_List.calls A6 c6 [x] A1 c1 nodes L _ (Kd.R_reads' HO6.out).2.2 (Kd.R_reads' HO6.out).2.1 (Kd.C_below HN.out HB.out) HC.out hL (Env.below HE.out HB.out)).mono ?_);rintro e w7 ⟨v7,rfl,hR7,hb7⟩;obtain ⟨A7,c7,rfl⟩:=Kd.R_slice hR7;replace B2:=Aside0.mk (blk_below B2.out hb7);replace HB:=Aside0.mk (below_then HB.out HB.out.size hb7);clear HO6 hb7;have HO7:=Aside0.mk hR7;clear hR7) | (go_at_call 92;(with_reducible refine (containsOut A7 c7 L g2 b (.slice A1 nodes.length c1) w _ HB.out HE.out B2.out (Kd.R_reads' HO7.out).2.2 (Kd.R_reads' HO7.out).2.1 hall).mono ?_);rintro e w8 ⟨rfl,hb8⟩;replace HB:=Aside0.mk (below_then HB.out HB.out.size hb8);clear hb8))
 go_ret
 exact ⟨(by rw [← hres];rfl),HB.out⟩
def mvs_bound_out.f (a0_0 : ByteArray) (a0_1 : Int) (a0_2 : Int) (a0_3 : Int) (a0_4 : ByteArray) (a0_5 : ByteArray) (l0_6 : List Node) (a1_0 : ByteArray) (a1_1 : Int) (a1_2 : Int) (a1_3 : Int) (a1_4 : ByteArray) (a1_5 : ByteArray) : Option Bool:=outP ⟨a0_0,a0_1,a0_2,a0_3,a0_4,a0_5⟩ l0_6 ⟨a1_0,a1_1,a1_2,a1_3,a1_4,a1_5⟩
theorem mvs_bound_out.calls (a0_0 : ByteArray) (a0_1 : Int) (a0_2 : Int) (a0_3 : Int) (a0_4 : ByteArray) (a0_5 : ByteArray) (A0_6 : Option Addr) (c0_6 : Nat) (l0_6 : List Node) (a1_0 : ByteArray) (a1_1 : Int) (a1_2 : Int) (a1_3 : Int) (a1_4 : ByteArray) (a1_5 : ByteArray) (r : Bool) (w : World) (hr0_6 : Kd.C k70 w A0_6 l0_6.length l0_6) (hc0_6 : l0_6.length ≤ c0_6) (h : mvs_bound_out.f a0_0 a0_1 a0_2 a0_3 a0_4 a0_5 l0_6 a1_0 a1_1 a1_2 a1_3 a1_4 a1_5 = some r) (hG : Env w) :
  Calls Tryz.prog 62 #[.agg #[.string a0_0,.int .i64 a0_1,.int .i64 a0_2,.int .i64 a0_3,.string a0_4,.string a0_5,.slice A0_6 l0_6.length c0_6],.agg #[.string a1_0,.int .i64 a1_1,.int .i64 a1_2,.int .i64 a1_3,.string a1_4,.string a1_5]] w fun e w' => e = .returned (.bool r) ∧ Below w.heap.size w w' :=
 out_calls ⟨a0_0,a0_1,a0_2,a0_3,a0_4,a0_5⟩ ⟨a1_0,a1_1,a1_2,a1_3,a1_4,a1_5⟩ A0_6 c0_6 l0_6 r w hr0_6 hc0_6 h hG
end Go.Proofs.YtennhpoemdaghaaGreatDoor.P
end
section
namespace Go.Proofs.YtennhpoemdaghaaGreatDoor.P
open Go Go.RowKit Go.Proofs.YtennhpoemdaghaaGreatDoorW.PrintWords Go.Proofs.YtennhpoemdaghaaGreatDoorW.PrintLast Go.Proofs.YtennhpoemdaghaaGreatDoorW.PrintMore
attribute [local go_sem] run_makeMap
def condP (b : Req) (nodes : List Node) (x y : Req) : Option Bool :=
 if y.f0.toList == x.f0.toList then (mayP y).bind fun m => if m then (cmpP y x).bind fun c => if c < 0 then (outP b nodes y).bind fun o => some (!o) else some false else some false else some false
def lowP (b : Req) (nodes : List Node) (x : Req) : List Req → List Node → Option (List Req)
 | L,[] => some L
 | L,n :: ns => (condP b nodes x n.f0).bind fun c => if c then (takeP L n.f0).bind fun L' => lowP b nodes x L' ns else lowP b nodes x L ns
def lowerP (b : Req) (nodes : List Node) (x : Req) : Option (Req × Bool) :=
 if x.f0.size ≤ 4294967280 ∧ nodes.length ≤ 1000000 then (lowP b nodes x [] nodes).bind fun L => some (match L.find? (sameP x.f0) with | none => (zR,false) | some y => (y,true)) else none
set_option maxRecDepth 100000 in
set_option maxHeartbeats 8000000 in
theorem lower_calls (b x : Req) (A1 : Option Addr) (c1 : Nat) (nodes : List Node) (r : Req) (is : Bool) (w : World) (hn : Kd.C k70 w A1 nodes.length nodes) (hc : nodes.length ≤ c1) (h : lowerP b nodes x = some (r,is)) (hG : Env w) :
  Calls Tryz.prog 63 #[.agg #[.string b.f0,.int .i64 b.f1.f0,.int .i64 b.f1.f1,.int .i64 b.f1.f2,.string b.f1.f3,.string b.f1.f4,.slice A1 nodes.length c1],.agg #[.string x.f0,.int .i64 x.f1.f0,.int .i64 x.f1.f1,.int .i64 x.f1.f2,.string x.f1.f3,.string x.f1.f4]] w fun e w' => e = .returned (.tuple #[.agg #[.string r.f0,.int .i64 r.f1.f0,.int .i64 r.f1.f1,.int .i64 r.f1.f2,.string r.f1.f3,.string r.f1.f4],.bool is]) ∧ Below w.heap.size w w':=by
 unfold lowerP at h
 split at h
 case isFalse => exact absurd h q25_
 case isTrue hsz =>
 obtain ⟨hsx,hsn⟩:=hsz
 obtain ⟨Lf,hLf,h⟩:=Option.bind_eq_some_iff.mp h
 have HRES:=Aside0.mk (Option.some.inj h)
 have HN:=Aside0.mk hn
 have HC:=Aside0.mk hc
 have HE:=Aside0.mk hG
 have HB:=Aside0.mk (Below.refl w.heap.size w)
 clear hn hc hG h
 go_enter Tryz.func63,Tryz.ntmps63
 go_wp2_with (first | ((with_reducible refine gate_dst (N:=2) rfl ?_);refine bx_ 2 91 #[.string b.f0,.int .i64 b.f1.f0,.int .i64 b.f1.f1,.int .i64 b.f1.f2,.string b.f1.f3,.string b.f1.f4,.slice A1 nodes.length c1] ?_;intro gB2 hg_ w2 hbox hb_;replace HB:=Aside0.mk (below_then HB.out HB.out.size hb_);have B2:=Aside0.mk hbox;clear hbox hb_ hg_) | ((with_reducible refine gate_dst (N:=3) rfl ?_);refine bx_ 3 41 #[.string x.f0,.int .i64 x.f1.f0,.int .i64 x.f1.f1,.int .i64 x.f1.f2,.string x.f1.f3,.string x.f1.f4] ?_;intro gB3 hg_ w3 hbox hb_;replace HB:=Aside0.mk (below_then HB.out HB.out.size hb_);replace B2:=Aside0.mk (blk_below B2.out hb_);have B3:=Aside0.mk hbox;clear hbox hb_ hg_) | ((with_reducible refine gate_dst (N:=4) rfl ?_);refine bx_ 4 41 #[.string (⟨#[]⟩ : ByteArray),.int .i64 0,.int .i64 0,.int .i64 0,.string (⟨#[]⟩ : ByteArray),.string (⟨#[]⟩ : ByteArray)] ?_;intro gB4 hg_ w4 hbox hb_;have GEB4:=Aside0.mk (q39_ : w.heap.size ≤ gB4);have NB2B4:=Aside0.mk (q28_ : gB2 ≠ gB4);have NB3B4:=Aside0.mk (q27_ : gB3 ≠ gB4);replace HB:=Aside0.mk (below_then HB.out HB.out.size hb_);replace B2:=Aside0.mk (blk_below B2.out hb_);replace B3:=Aside0.mk (blk_below B3.out hb_);have B4:=Aside0.mk hbox;clear hbox hb_ hg_) | ((with_reducible refine gate_dst (N:=6) rfl ?_);refine bx_ 6 80 #[.map none] ?_;intro gB6 hg_ w6 hbox hb1_;have hb_:=below_then (below_alloc (Below.refl _ w4) _) q25_ hb1_;have HM:=Aside0.mk (OwnB.below ⟨_,World.ownsMap_made w4 Tryz.prog 9 reqR,BestD.nil⟩ hb1_);have GE6:=Aside0.mk ((by rw [hg_];have h_:=HB.out.size;simp;omega) : w.heap.size ≤ gB6);have NMB6:=Aside0.mk ((by rw [hg_];simp) : w4.heap.size ≠ gB6);have NB26:=Aside0.mk ((by rw [hg_];have h_:=blk_lt B2.out;simp;omega) : gB2 ≠ gB6);have NB36:=Aside0.mk ((by rw [hg_];have h_:=blk_lt B3.out;simp;omega) : gB3 ≠ gB6);have NB46:=Aside0.mk ((by rw [hg_];have h_:=blk_lt B4.out;simp;omega) : gB4 ≠ gB6);have MB:=Aside0.mk HB.out.size;have M2:=Aside0.mk (Nat.ne_of_lt (blk_lt B2.out));have M3:=Aside0.mk (Nat.ne_of_lt (blk_lt B3.out));have M4:=Aside0.mk (Nat.ne_of_lt (blk_lt B4.out));clear hb1_;replace HB:=Aside0.mk (below_then HB.out HB.out.size hb_);replace B2:=Aside0.mk (blk_below B2.out hb_);replace B3:=Aside0.mk (blk_below B3.out hb_);replace B4:=Aside0.mk (blk_below B4.out hb_);have B6:=Aside0.mk hbox;clear hbox hb_ hg_) | ((with_reducible refine gate_ (.store 80 (.tmp 6) (.tmp 13)) rfl ?_);refine store_event 80 (.tmp 6) (.tmp 13) rfl rfl rfl 0 80 _ #[.map (some w4.heap.size)] _ [.map (some w4.heap.size)] rfl rfl rfl q9_ q44_ B6.out (Nat.le_refl 1) q55_ ?_;intro w61 hn_ hg_;replace HB:=Aside0.mk (below_grown HB.out hg_ GE6.out HB.out.size);replace HM:=Aside0.mk (HM.out.kept hg_ (fun he => NMB6.out (Option.some.inj he)));replace B2:=Aside0.mk (blk_grown B2.out hg_ (fun he => NB26.out (Option.some.inj he)));replace B3:=Aside0.mk (blk_grown B3.out hg_ (fun he => NB36.out (Option.some.inj he)));replace B4:=Aside0.mk (blk_grown B4.out hg_ (fun he => NB46.out (Option.some.inj he)));replace B6:=Aside0.mk hn_;clear hg_ hn_;have hB25_0 : w61.cell? ⟨gB2,0,none⟩ = some _:=(blk_cell B2.out 0).trans rfl;have hB25_1 : w61.cell? ⟨gB2,1,none⟩ = some _:=(blk_cell B2.out 1).trans rfl;have hB25_2 : w61.cell? ⟨gB2,2,none⟩ = some _:=(blk_cell B2.out 2).trans rfl;have hB25_3 : w61.cell? ⟨gB2,3,none⟩ = some _:=(blk_cell B2.out 3).trans rfl;have hB25_4 : w61.cell? ⟨gB2,4,none⟩ = some _:=(blk_cell B2.out 4).trans rfl;have hB25_5 : w61.cell? ⟨gB2,5,none⟩ = some _:=(blk_cell B2.out 5).trans rfl;have hB25_6 : w61.cell? ⟨gB2,6,none⟩ = some _:=(blk_cell B2.out 6).trans rfl;have hB65_0 : w61.cell? ⟨gB6,0,none⟩ = some _:=(blk_cell B6.out 0).trans rfl))
 try go_frame
 generalize hbm : w4.heap.size = bm at HM NMB6 MB M2 M3 M4 B6 ⊢
 clear hbm
 go_loopw [17] (fun v17 wr => ∃ (i : Nat) (L1 : List Req),v17 = .int .i64 i ∧ i ≤ nodes.length ∧ Aside0 (lowP b nodes x L1 (nodes.drop i) = some Lf) ∧ Aside0 (OwnB wr bm i L1) ∧ Aside0 (wr.heap[gB2]? = some (.cells #[.string b.f0,.int .i64 b.f1.f0,.int .i64 b.f1.f1,.int .i64 b.f1.f2,.string b.f1.f3,.string b.f1.f4,.slice A1 nodes.length c1] 91 (0,0))) ∧ Aside0 (wr.heap[gB3]? = some (.cells #[.string x.f0,.int .i64 x.f1.f0,.int .i64 x.f1.f1,.int .i64 x.f1.f2,.string x.f1.f3,.string x.f1.f4] 41 (0,0))) ∧ Aside0 (wr.heap[gB4]? = some (.cells #[.string (⟨#[]⟩ : ByteArray),.int .i64 0,.int .i64 0,.int .i64 0,.string (⟨#[]⟩ : ByteArray),.string (⟨#[]⟩ : ByteArray)] 41 (0,0))) ∧ Aside0 (wr.heap[gB6]? = some (.cells #[.map (some bm)] 80 (0,0))) ∧ Aside0 (Below w.heap.size w wr)) (fun v17 _ => nodes.length - (intOf v17).toNat)
 case atStart => exact ⟨0,[],rfl,Nat.zero_le _,⟨hLf⟩,HM,B2,B3,B4,B6,HB⟩
 case round =>
  clear HM B2 B3 B4 B6 HB
  obtain ⟨i,L1,rfl,hi,HH,HM,B2,B3,B4,B6,HB⟩:=hrel
  have H:=HH.out
  clear HH
  by_cases h : i < nodes.length
  ·have hg : ((i : Int) < (nodes.length : Int)) = True:=eq_true q5_
   have hp : (0 ≤ (i : Int)) = True:=eq_true q5_
   have hw : wrap64 ((i : Int) + 1) = (i : Int) + 1:=by unfold wrap64;omega
   have hni : i < maxLen:=by unfold maxLen;omega
   obtain ⟨ad,A6,c6,e1,hx0,hx1,hx2,hx3,hx4,hx5,hx6,hl6,hC6⟩:=at_T70 (Kd.C_below HN.out HB.out) (i : Int) q5_ q5_
   cases e1
   simp only [Int.toNat_natCast] at hx0 hx1 hx2 hx3 hx4 hx5 hx6
   have hd : nodes.drop i = rd_T70 nodes (i : Int) :: nodes.drop (i + 1):=by rw [List.drop_eq_getElem_cons h];simp [rd_T70,h]
   rw [hd,lowP] at H
   obtain ⟨y,hy⟩ : ∃ y,(rd_T70 nodes (i : Int)).f0 = y:=⟨_,rfl⟩
   obtain ⟨n1,hn1⟩ : ∃ n1,(rd_T70 nodes (i : Int)).f1 = n1:=⟨_,rfl⟩
   rw [hy] at hx0 hx1 hx2 hx3 hx4 hx5 H
   rw [hn1] at hx6
   clear hl6 hC6 hd
   obtain ⟨cb,hcb,H⟩:=Option.bind_eq_some_iff.mp H
   unfold condP at hcb
   cases hpath : (y.f0.toList == x.f0.toList) with
   | false =>
    rw [hpath] at hcb
    obtain rfl:=Option.some.inj hcb
    replace H : lowP b nodes x L1 (nodes.drop (i + 1)) = some Lf:=H
    go_wp2_with (first | ((with_reducible refine gate_dst (N:=8) rfl ?_);refine bx_ 8 70 #[.string (⟨#[]⟩ : ByteArray),.int .i64 0,.int .i64 0,.int .i64 0,.string (⟨#[]⟩ : ByteArray),.string (⟨#[]⟩ : ByteArray),.slice none 0 0] ?_;intro gB8 hg_ w8 hbox hb_;have GEB8:=Aside0.mk (q39_ : w.heap.size ≤ gB8);have NMB8:=Aside0.mk (q29_ : bm ≠ gB8);have NB2B8:=Aside0.mk (q28_ : gB2 ≠ gB8);have NB3B8:=Aside0.mk (q27_ : gB3 ≠ gB8);have NB4B8:=Aside0.mk (q33_ : gB4 ≠ gB8);have NB6B8:=Aside0.mk (q38_ : gB6 ≠ gB8);replace HB:=Aside0.mk (below_then HB.out HB.out.size hb_);replace HM:=Aside0.mk (HM.out.below hb_);replace B2:=Aside0.mk (blk_below B2.out hb_);replace B3:=Aside0.mk (blk_below B3.out hb_);replace B4:=Aside0.mk (blk_below B4.out hb_);replace B6:=Aside0.mk (blk_below B6.out hb_);have B8:=Aside0.mk hbox;clear hbox hb_ hg_) | ((with_reducible refine gate_ (.store 70 (.tmp 8) (.tmp 20)) rfl ?_);refine store_event 70 (.tmp 8) (.tmp 20) rfl rfl rfl 0 70 _ #[.string y.f0,.int .i64 y.f1.f0,.int .i64 y.f1.f1,.int .i64 y.f1.f2,.string y.f1.f3,.string y.f1.f4,.slice A6 n1.length c6] _ [.string y.f0,.int .i64 y.f1.f0,.int .i64 y.f1.f1,.int .i64 y.f1.f2,.string y.f1.f3,.string y.f1.f4,.slice A6 n1.length c6] rfl rfl rfl q9_ q44_ B8.out (Nat.le_refl 7) q55_ ?_;intro w81 hn_ hg_;replace HB:=Aside0.mk (below_grown HB.out hg_ GEB8.out HB.out.size);replace HM:=Aside0.mk (HM.out.kept hg_ (fun he => NMB8.out (Option.some.inj he)));replace B2:=Aside0.mk (blk_grown B2.out hg_ (fun he => NB2B8.out (Option.some.inj he)));replace B3:=Aside0.mk (blk_grown B3.out hg_ (fun he => NB3B8.out (Option.some.inj he)));replace B4:=Aside0.mk (blk_grown B4.out hg_ (fun he => NB4B8.out (Option.some.inj he)));replace B6:=Aside0.mk (blk_grown B6.out hg_ (fun he => NB6B8.out (Option.some.inj he)));replace B8:=Aside0.mk hn_;clear hg_ hn_;have hB82_0 : w81.cell? ⟨gB8,0,none⟩ = some _:=(blk_cell B8.out 0).trans rfl;have hB82_1 : w81.cell? ⟨gB8,1,none⟩ = some _:=(blk_cell B8.out 1).trans rfl;have hB82_2 : w81.cell? ⟨gB8,2,none⟩ = some _:=(blk_cell B8.out 2).trans rfl;have hB82_3 : w81.cell? ⟨gB8,3,none⟩ = some _:=(blk_cell B8.out 3).trans rfl;have hB82_4 : w81.cell? ⟨gB8,4,none⟩ = some _:=(blk_cell B8.out 4).trans rfl;have hB82_5 : w81.cell? ⟨gB8,5,none⟩ = some _:=(blk_cell B8.out 5).trans rfl;have hB82_6 : w81.cell? ⟨gB8,6,none⟩ = some _:=(blk_cell B8.out 6).trans rfl) | ((with_reducible refine gate_dst (N:=9) rfl ?_);refine bx_ 9 41 #[.string (⟨#[]⟩ : ByteArray),.int .i64 0,.int .i64 0,.int .i64 0,.string (⟨#[]⟩ : ByteArray),.string (⟨#[]⟩ : ByteArray)] ?_;intro gB9 hg_ w9 hbox hb_;have GEB9:=Aside0.mk (q39_ : w.heap.size ≤ gB9);have NMB9:=Aside0.mk (q29_ : bm ≠ gB9);have NB2B9:=Aside0.mk (q28_ : gB2 ≠ gB9);have NB3B9:=Aside0.mk (q27_ : gB3 ≠ gB9);have NB4B9:=Aside0.mk (q33_ : gB4 ≠ gB9);have NB6B9:=Aside0.mk (q38_ : gB6 ≠ gB9);have NB8B9:=Aside0.mk (q52_ : gB8 ≠ gB9);replace HB:=Aside0.mk (below_then HB.out HB.out.size hb_);replace HM:=Aside0.mk (HM.out.below hb_);replace B2:=Aside0.mk (blk_below B2.out hb_);replace B3:=Aside0.mk (blk_below B3.out hb_);replace B4:=Aside0.mk (blk_below B4.out hb_);replace B6:=Aside0.mk (blk_below B6.out hb_);replace B8:=Aside0.mk (blk_below B8.out hb_);have B9:=Aside0.mk hbox;clear hbox hb_ hg_) | ((with_reducible refine gate_ (.store 41 (.tmp 9) (.tmp 22)) rfl ?_);refine store_event 41 (.tmp 9) (.tmp 22) rfl rfl rfl 0 41 _ #[.string y.f0,.int .i64 y.f1.f0,.int .i64 y.f1.f1,.int .i64 y.f1.f2,.string y.f1.f3,.string y.f1.f4] _ [.string y.f0,.int .i64 y.f1.f0,.int .i64 y.f1.f1,.int .i64 y.f1.f2,.string y.f1.f3,.string y.f1.f4] rfl rfl rfl q9_ q44_ B9.out (Nat.le_refl 6) q55_ ?_;intro w91 hn_ hg_;replace HB:=Aside0.mk (below_grown HB.out hg_ GEB9.out HB.out.size);replace HM:=Aside0.mk (HM.out.kept hg_ (fun he => NMB9.out (Option.some.inj he)));replace B2:=Aside0.mk (blk_grown B2.out hg_ (fun he => NB2B9.out (Option.some.inj he)));replace B3:=Aside0.mk (blk_grown B3.out hg_ (fun he => NB3B9.out (Option.some.inj he)));replace B4:=Aside0.mk (blk_grown B4.out hg_ (fun he => NB4B9.out (Option.some.inj he)));replace B6:=Aside0.mk (blk_grown B6.out hg_ (fun he => NB6B9.out (Option.some.inj he)));replace B8:=Aside0.mk (blk_grown B8.out hg_ (fun he => NB8B9.out (Option.some.inj he)));replace B9:=Aside0.mk hn_;clear hg_ hn_;have hB24_0 : w91.cell? ⟨gB2,0,none⟩ = some _:=(blk_cell B2.out 0).trans rfl;have hB24_1 : w91.cell? ⟨gB2,1,none⟩ = some _:=(blk_cell B2.out 1).trans rfl;have hB24_2 : w91.cell? ⟨gB2,2,none⟩ = some _:=(blk_cell B2.out 2).trans rfl;have hB24_3 : w91.cell? ⟨gB2,3,none⟩ = some _:=(blk_cell B2.out 3).trans rfl;have hB24_4 : w91.cell? ⟨gB2,4,none⟩ = some _:=(blk_cell B2.out 4).trans rfl;have hB24_5 : w91.cell? ⟨gB2,5,none⟩ = some _:=(blk_cell B2.out 5).trans rfl;have hB24_6 : w91.cell? ⟨gB2,6,none⟩ = some _:=(blk_cell B2.out 6).trans rfl;have hB34_0 : w91.cell? ⟨gB3,0,none⟩ = some _:=(blk_cell B3.out 0).trans rfl;have hB34_1 : w91.cell? ⟨gB3,1,none⟩ = some _:=(blk_cell B3.out 1).trans rfl;have hB34_2 : w91.cell? ⟨gB3,2,none⟩ = some _:=(blk_cell B3.out 2).trans rfl;have hB34_3 : w91.cell? ⟨gB3,3,none⟩ = some _:=(blk_cell B3.out 3).trans rfl;have hB34_4 : w91.cell? ⟨gB3,4,none⟩ = some _:=(blk_cell B3.out 4).trans rfl;have hB34_5 : w91.cell? ⟨gB3,5,none⟩ = some _:=(blk_cell B3.out 5).trans rfl;have hB64_0 : w91.cell? ⟨gB6,0,none⟩ = some _:=(blk_cell B6.out 0).trans rfl;have hB94_0 : w91.cell? ⟨gB9,0,none⟩ = some _:=(blk_cell B9.out 0).trans rfl;have hB94_1 : w91.cell? ⟨gB9,1,none⟩ = some _:=(blk_cell B9.out 1).trans rfl;have hB94_2 : w91.cell? ⟨gB9,2,none⟩ = some _:=(blk_cell B9.out 2).trans rfl;have hB94_3 : w91.cell? ⟨gB9,3,none⟩ = some _:=(blk_cell B9.out 3).trans rfl;have hB94_4 : w91.cell? ⟨gB9,4,none⟩ = some _:=(blk_cell B9.out 4).trans rfl;have hB94_5 : w91.cell? ⟨gB9,5,none⟩ = some _:=(blk_cell B9.out 5).trans rfl))
    refine ⟨⟨i + 1,L1,by simp [hw],h,⟨H⟩,⟨HM.out.mono (Nat.le_succ _)⟩,B2,B3,B4,B6,HB⟩,?_⟩
    simp only [intOf,hw]
    omega
   | true =>
    rw [hpath,if_pos rfl] at hcb
    obtain ⟨m,hmay,hcb⟩:=Option.bind_eq_some_iff.mp hcb
    replace hmay : mvs_may.f fuelR y.f0 y.f1.f0 y.f1.f1 y.f1.f2 y.f1.f3 y.f1.f4 = some m:=hmay
    cases m with
    | false =>
     obtain rfl:=Option.some.inj hcb
     replace H : lowP b nodes x L1 (nodes.drop (i + 1)) = some Lf:=H
     go_wp2_with (first | ((with_reducible refine gate_dst (N:=8) rfl ?_);refine bx_ 8 70 #[.string (⟨#[]⟩ : ByteArray),.int .i64 0,.int .i64 0,.int .i64 0,.string (⟨#[]⟩ : ByteArray),.string (⟨#[]⟩ : ByteArray),.slice none 0 0] ?_;intro gB8 hg_ w8 hbox hb_;have GEB8:=Aside0.mk (q39_ : w.heap.size ≤ gB8);have NMB8:=Aside0.mk (q29_ : bm ≠ gB8);have NB2B8:=Aside0.mk (q28_ : gB2 ≠ gB8);have NB3B8:=Aside0.mk (q27_ : gB3 ≠ gB8);have NB4B8:=Aside0.mk (q33_ : gB4 ≠ gB8);have NB6B8:=Aside0.mk (q38_ : gB6 ≠ gB8);replace HB:=Aside0.mk (below_then HB.out HB.out.size hb_);replace HM:=Aside0.mk (HM.out.below hb_);replace B2:=Aside0.mk (blk_below B2.out hb_);replace B3:=Aside0.mk (blk_below B3.out hb_);replace B4:=Aside0.mk (blk_below B4.out hb_);replace B6:=Aside0.mk (blk_below B6.out hb_);have B8:=Aside0.mk hbox;clear hbox hb_ hg_) | ((with_reducible refine gate_ (.store 70 (.tmp 8) (.tmp 20)) rfl ?_);refine store_event 70 (.tmp 8) (.tmp 20) rfl rfl rfl 0 70 _ #[.string y.f0,.int .i64 y.f1.f0,.int .i64 y.f1.f1,.int .i64 y.f1.f2,.string y.f1.f3,.string y.f1.f4,.slice A6 n1.length c6] _ [.string y.f0,.int .i64 y.f1.f0,.int .i64 y.f1.f1,.int .i64 y.f1.f2,.string y.f1.f3,.string y.f1.f4,.slice A6 n1.length c6] rfl rfl rfl q9_ q44_ B8.out (Nat.le_refl 7) q55_ ?_;intro w81 hn_ hg_;replace HB:=Aside0.mk (below_grown HB.out hg_ GEB8.out HB.out.size);replace HM:=Aside0.mk (HM.out.kept hg_ (fun he => NMB8.out (Option.some.inj he)));replace B2:=Aside0.mk (blk_grown B2.out hg_ (fun he => NB2B8.out (Option.some.inj he)));replace B3:=Aside0.mk (blk_grown B3.out hg_ (fun he => NB3B8.out (Option.some.inj he)));replace B4:=Aside0.mk (blk_grown B4.out hg_ (fun he => NB4B8.out (Option.some.inj he)));replace B6:=Aside0.mk (blk_grown B6.out hg_ (fun he => NB6B8.out (Option.some.inj he)));replace B8:=Aside0.mk hn_;clear hg_ hn_;have hB82_0 : w81.cell? ⟨gB8,0,none⟩ = some _:=(blk_cell B8.out 0).trans rfl;have hB82_1 : w81.cell? ⟨gB8,1,none⟩ = some _:=(blk_cell B8.out 1).trans rfl;have hB82_2 : w81.cell? ⟨gB8,2,none⟩ = some _:=(blk_cell B8.out 2).trans rfl;have hB82_3 : w81.cell? ⟨gB8,3,none⟩ = some _:=(blk_cell B8.out 3).trans rfl;have hB82_4 : w81.cell? ⟨gB8,4,none⟩ = some _:=(blk_cell B8.out 4).trans rfl;have hB82_5 : w81.cell? ⟨gB8,5,none⟩ = some _:=(blk_cell B8.out 5).trans rfl;have hB82_6 : w81.cell? ⟨gB8,6,none⟩ = some _:=(blk_cell B8.out 6).trans rfl) | ((with_reducible refine gate_dst (N:=9) rfl ?_);refine bx_ 9 41 #[.string (⟨#[]⟩ : ByteArray),.int .i64 0,.int .i64 0,.int .i64 0,.string (⟨#[]⟩ : ByteArray),.string (⟨#[]⟩ : ByteArray)] ?_;intro gB9 hg_ w9 hbox hb_;have GEB9:=Aside0.mk (q39_ : w.heap.size ≤ gB9);have NMB9:=Aside0.mk (q29_ : bm ≠ gB9);have NB2B9:=Aside0.mk (q28_ : gB2 ≠ gB9);have NB3B9:=Aside0.mk (q27_ : gB3 ≠ gB9);have NB4B9:=Aside0.mk (q33_ : gB4 ≠ gB9);have NB6B9:=Aside0.mk (q38_ : gB6 ≠ gB9);have NB8B9:=Aside0.mk (q52_ : gB8 ≠ gB9);replace HB:=Aside0.mk (below_then HB.out HB.out.size hb_);replace HM:=Aside0.mk (HM.out.below hb_);replace B2:=Aside0.mk (blk_below B2.out hb_);replace B3:=Aside0.mk (blk_below B3.out hb_);replace B4:=Aside0.mk (blk_below B4.out hb_);replace B6:=Aside0.mk (blk_below B6.out hb_);replace B8:=Aside0.mk (blk_below B8.out hb_);have B9:=Aside0.mk hbox;clear hbox hb_ hg_) | ((with_reducible refine gate_ (.store 41 (.tmp 9) (.tmp 22)) rfl ?_);refine store_event 41 (.tmp 9) (.tmp 22) rfl rfl rfl 0 41 _ #[.string y.f0,.int .i64 y.f1.f0,.int .i64 y.f1.f1,.int .i64 y.f1.f2,.string y.f1.f3,.string y.f1.f4] _ [.string y.f0,.int .i64 y.f1.f0,.int .i64 y.f1.f1,.int .i64 y.f1.f2,.string y.f1.f3,.string y.f1.f4] rfl rfl rfl q9_ q44_ B9.out (Nat.le_refl 6) q55_ ?_;intro w91 hn_ hg_;replace HB:=Aside0.mk (below_grown HB.out hg_ GEB9.out HB.out.size);replace HM:=Aside0.mk (HM.out.kept hg_ (fun he => NMB9.out (Option.some.inj he)));replace B2:=Aside0.mk (blk_grown B2.out hg_ (fun he => NB2B9.out (Option.some.inj he)));replace B3:=Aside0.mk (blk_grown B3.out hg_ (fun he => NB3B9.out (Option.some.inj he)));replace B4:=Aside0.mk (blk_grown B4.out hg_ (fun he => NB4B9.out (Option.some.inj he)));replace B6:=Aside0.mk (blk_grown B6.out hg_ (fun he => NB6B9.out (Option.some.inj he)));replace B8:=Aside0.mk (blk_grown B8.out hg_ (fun he => NB8B9.out (Option.some.inj he)));replace B9:=Aside0.mk hn_;clear hg_ hn_;have hB24_0 : w91.cell? ⟨gB2,0,none⟩ = some _:=(blk_cell B2.out 0).trans rfl;have hB24_1 : w91.cell? ⟨gB2,1,none⟩ = some _:=(blk_cell B2.out 1).trans rfl;have hB24_2 : w91.cell? ⟨gB2,2,none⟩ = some _:=(blk_cell B2.out 2).trans rfl;have hB24_3 : w91.cell? ⟨gB2,3,none⟩ = some _:=(blk_cell B2.out 3).trans rfl;have hB24_4 : w91.cell? ⟨gB2,4,none⟩ = some _:=(blk_cell B2.out 4).trans rfl;have hB24_5 : w91.cell? ⟨gB2,5,none⟩ = some _:=(blk_cell B2.out 5).trans rfl;have hB24_6 : w91.cell? ⟨gB2,6,none⟩ = some _:=(blk_cell B2.out 6).trans rfl;have hB34_0 : w91.cell? ⟨gB3,0,none⟩ = some _:=(blk_cell B3.out 0).trans rfl;have hB34_1 : w91.cell? ⟨gB3,1,none⟩ = some _:=(blk_cell B3.out 1).trans rfl;have hB34_2 : w91.cell? ⟨gB3,2,none⟩ = some _:=(blk_cell B3.out 2).trans rfl;have hB34_3 : w91.cell? ⟨gB3,3,none⟩ = some _:=(blk_cell B3.out 3).trans rfl;have hB34_4 : w91.cell? ⟨gB3,4,none⟩ = some _:=(blk_cell B3.out 4).trans rfl;have hB34_5 : w91.cell? ⟨gB3,5,none⟩ = some _:=(blk_cell B3.out 5).trans rfl;have hB64_0 : w91.cell? ⟨gB6,0,none⟩ = some _:=(blk_cell B6.out 0).trans rfl;have hB94_0 : w91.cell? ⟨gB9,0,none⟩ = some _:=(blk_cell B9.out 0).trans rfl;have hB94_1 : w91.cell? ⟨gB9,1,none⟩ = some _:=(blk_cell B9.out 1).trans rfl;have hB94_2 : w91.cell? ⟨gB9,2,none⟩ = some _:=(blk_cell B9.out 2).trans rfl;have hB94_3 : w91.cell? ⟨gB9,3,none⟩ = some _:=(blk_cell B9.out 3).trans rfl;have hB94_4 : w91.cell? ⟨gB9,4,none⟩ = some _:=(blk_cell B9.out 4).trans rfl;have hB94_5 : w91.cell? ⟨gB9,5,none⟩ = some _:=(blk_cell B9.out 5).trans rfl) | (go_at_call 59;(with_reducible refine (mvs_may.calls fuelR y.f0 y.f1.f0 y.f1.f1 y.f1.f2 y.f1.f3 y.f1.f4 false _ hmay ?sideG).mono ?_);(case sideG => exact Env.below HE.out HB.out);rintro e wm ⟨rfl,hb_⟩;replace HB:=Aside0.mk (below_then HB.out HB.out.size hb_);replace HM:=Aside0.mk (HM.out.below hb_);replace B2:=Aside0.mk (blk_below B2.out hb_);replace B3:=Aside0.mk (blk_below B3.out hb_);replace B4:=Aside0.mk (blk_below B4.out hb_);replace B6:=Aside0.mk (blk_below B6.out hb_);replace B8:=Aside0.mk (blk_below B8.out hb_);replace B9:=Aside0.mk (blk_below B9.out hb_);clear hb_;have hB25_0 : wm.cell? ⟨gB2,0,none⟩ = some _:=(blk_cell B2.out 0).trans rfl;have hB25_1 : wm.cell? ⟨gB2,1,none⟩ = some _:=(blk_cell B2.out 1).trans rfl;have hB25_2 : wm.cell? ⟨gB2,2,none⟩ = some _:=(blk_cell B2.out 2).trans rfl;have hB25_3 : wm.cell? ⟨gB2,3,none⟩ = some _:=(blk_cell B2.out 3).trans rfl;have hB25_4 : wm.cell? ⟨gB2,4,none⟩ = some _:=(blk_cell B2.out 4).trans rfl;have hB25_5 : wm.cell? ⟨gB2,5,none⟩ = some _:=(blk_cell B2.out 5).trans rfl;have hB25_6 : wm.cell? ⟨gB2,6,none⟩ = some _:=(blk_cell B2.out 6).trans rfl;have hB35_0 : wm.cell? ⟨gB3,0,none⟩ = some _:=(blk_cell B3.out 0).trans rfl;have hB35_1 : wm.cell? ⟨gB3,1,none⟩ = some _:=(blk_cell B3.out 1).trans rfl;have hB35_2 : wm.cell? ⟨gB3,2,none⟩ = some _:=(blk_cell B3.out 2).trans rfl;have hB35_3 : wm.cell? ⟨gB3,3,none⟩ = some _:=(blk_cell B3.out 3).trans rfl;have hB35_4 : wm.cell? ⟨gB3,4,none⟩ = some _:=(blk_cell B3.out 4).trans rfl;have hB35_5 : wm.cell? ⟨gB3,5,none⟩ = some _:=(blk_cell B3.out 5).trans rfl;have hB65_0 : wm.cell? ⟨gB6,0,none⟩ = some _:=(blk_cell B6.out 0).trans rfl;have hB95_0 : wm.cell? ⟨gB9,0,none⟩ = some _:=(blk_cell B9.out 0).trans rfl;have hB95_1 : wm.cell? ⟨gB9,1,none⟩ = some _:=(blk_cell B9.out 1).trans rfl;have hB95_2 : wm.cell? ⟨gB9,2,none⟩ = some _:=(blk_cell B9.out 2).trans rfl;have hB95_3 : wm.cell? ⟨gB9,3,none⟩ = some _:=(blk_cell B9.out 3).trans rfl;have hB95_4 : wm.cell? ⟨gB9,4,none⟩ = some _:=(blk_cell B9.out 4).trans rfl;have hB95_5 : wm.cell? ⟨gB9,5,none⟩ = some _:=(blk_cell B9.out 5).trans rfl))
     refine ⟨⟨i + 1,L1,by simp [hw],h,⟨H⟩,⟨HM.out.mono (Nat.le_succ _)⟩,B2,B3,B4,B6,HB⟩,?_⟩
     simp only [intOf,hw]
     omega
    | true =>
     rw [if_pos rfl] at hcb
     obtain ⟨c,hcmp,hcb⟩:=Option.bind_eq_some_iff.mp hcb
     replace hcmp : ver_Compare.f fuelR y.f1.f0 y.f1.f1 y.f1.f2 y.f1.f3 y.f1.f4 x.f1.f0 x.f1.f1 x.f1.f2 x.f1.f3 x.f1.f4 = some c:=hcmp
     by_cases hc0 : c < 0
     ·have hcc : (c < 0) = True:=eq_true hc0
      rw [if_pos hc0] at hcb
      obtain ⟨o,hout,hcb⟩:=Option.bind_eq_some_iff.mp hcb
      cases o with
      | true =>
       obtain rfl:=Option.some.inj hcb
       replace H : lowP b nodes x L1 (nodes.drop (i + 1)) = some Lf:=H
       go_wp2_with (first | ((with_reducible refine gate_dst (N:=8) rfl ?_);refine bx_ 8 70 #[.string (⟨#[]⟩ : ByteArray),.int .i64 0,.int .i64 0,.int .i64 0,.string (⟨#[]⟩ : ByteArray),.string (⟨#[]⟩ : ByteArray),.slice none 0 0] ?_;intro gB8 hg_ w8 hbox hb_;have GEB8:=Aside0.mk (q39_ : w.heap.size ≤ gB8);have NMB8:=Aside0.mk (q29_ : bm ≠ gB8);have NB2B8:=Aside0.mk (q28_ : gB2 ≠ gB8);have NB3B8:=Aside0.mk (q27_ : gB3 ≠ gB8);have NB4B8:=Aside0.mk (q33_ : gB4 ≠ gB8);have NB6B8:=Aside0.mk (q38_ : gB6 ≠ gB8);replace HB:=Aside0.mk (below_then HB.out HB.out.size hb_);replace HM:=Aside0.mk (HM.out.below hb_);replace B2:=Aside0.mk (blk_below B2.out hb_);replace B3:=Aside0.mk (blk_below B3.out hb_);replace B4:=Aside0.mk (blk_below B4.out hb_);replace B6:=Aside0.mk (blk_below B6.out hb_);have B8:=Aside0.mk hbox;clear hbox hb_ hg_) | ((with_reducible refine gate_ (.store 70 (.tmp 8) (.tmp 20)) rfl ?_);refine store_event 70 (.tmp 8) (.tmp 20) rfl rfl rfl 0 70 _ #[.string y.f0,.int .i64 y.f1.f0,.int .i64 y.f1.f1,.int .i64 y.f1.f2,.string y.f1.f3,.string y.f1.f4,.slice A6 n1.length c6] _ [.string y.f0,.int .i64 y.f1.f0,.int .i64 y.f1.f1,.int .i64 y.f1.f2,.string y.f1.f3,.string y.f1.f4,.slice A6 n1.length c6] rfl rfl rfl q9_ q44_ B8.out (Nat.le_refl 7) q55_ ?_;intro w81 hn_ hg_;replace HB:=Aside0.mk (below_grown HB.out hg_ GEB8.out HB.out.size);replace HM:=Aside0.mk (HM.out.kept hg_ (fun he => NMB8.out (Option.some.inj he)));replace B2:=Aside0.mk (blk_grown B2.out hg_ (fun he => NB2B8.out (Option.some.inj he)));replace B3:=Aside0.mk (blk_grown B3.out hg_ (fun he => NB3B8.out (Option.some.inj he)));replace B4:=Aside0.mk (blk_grown B4.out hg_ (fun he => NB4B8.out (Option.some.inj he)));replace B6:=Aside0.mk (blk_grown B6.out hg_ (fun he => NB6B8.out (Option.some.inj he)));replace B8:=Aside0.mk hn_;clear hg_ hn_;have hB82_0 : w81.cell? ⟨gB8,0,none⟩ = some _:=(blk_cell B8.out 0).trans rfl;have hB82_1 : w81.cell? ⟨gB8,1,none⟩ = some _:=(blk_cell B8.out 1).trans rfl;have hB82_2 : w81.cell? ⟨gB8,2,none⟩ = some _:=(blk_cell B8.out 2).trans rfl;have hB82_3 : w81.cell? ⟨gB8,3,none⟩ = some _:=(blk_cell B8.out 3).trans rfl;have hB82_4 : w81.cell? ⟨gB8,4,none⟩ = some _:=(blk_cell B8.out 4).trans rfl;have hB82_5 : w81.cell? ⟨gB8,5,none⟩ = some _:=(blk_cell B8.out 5).trans rfl;have hB82_6 : w81.cell? ⟨gB8,6,none⟩ = some _:=(blk_cell B8.out 6).trans rfl) | ((with_reducible refine gate_dst (N:=9) rfl ?_);refine bx_ 9 41 #[.string (⟨#[]⟩ : ByteArray),.int .i64 0,.int .i64 0,.int .i64 0,.string (⟨#[]⟩ : ByteArray),.string (⟨#[]⟩ : ByteArray)] ?_;intro gB9 hg_ w9 hbox hb_;have GEB9:=Aside0.mk (q39_ : w.heap.size ≤ gB9);have NMB9:=Aside0.mk (q29_ : bm ≠ gB9);have NB2B9:=Aside0.mk (q28_ : gB2 ≠ gB9);have NB3B9:=Aside0.mk (q27_ : gB3 ≠ gB9);have NB4B9:=Aside0.mk (q33_ : gB4 ≠ gB9);have NB6B9:=Aside0.mk (q38_ : gB6 ≠ gB9);have NB8B9:=Aside0.mk (q52_ : gB8 ≠ gB9);replace HB:=Aside0.mk (below_then HB.out HB.out.size hb_);replace HM:=Aside0.mk (HM.out.below hb_);replace B2:=Aside0.mk (blk_below B2.out hb_);replace B3:=Aside0.mk (blk_below B3.out hb_);replace B4:=Aside0.mk (blk_below B4.out hb_);replace B6:=Aside0.mk (blk_below B6.out hb_);replace B8:=Aside0.mk (blk_below B8.out hb_);have B9:=Aside0.mk hbox;clear hbox hb_ hg_) | ((with_reducible refine gate_ (.store 41 (.tmp 9) (.tmp 22)) rfl ?_);refine store_event 41 (.tmp 9) (.tmp 22) rfl rfl rfl 0 41 _ #[.string y.f0,.int .i64 y.f1.f0,.int .i64 y.f1.f1,.int .i64 y.f1.f2,.string y.f1.f3,.string y.f1.f4] _ [.string y.f0,.int .i64 y.f1.f0,.int .i64 y.f1.f1,.int .i64 y.f1.f2,.string y.f1.f3,.string y.f1.f4] rfl rfl rfl q9_ q44_ B9.out (Nat.le_refl 6) q55_ ?_;intro w91 hn_ hg_;replace HB:=Aside0.mk (below_grown HB.out hg_ GEB9.out HB.out.size);replace HM:=Aside0.mk (HM.out.kept hg_ (fun he => NMB9.out (Option.some.inj he)));replace B2:=Aside0.mk (blk_grown B2.out hg_ (fun he => NB2B9.out (Option.some.inj he)));replace B3:=Aside0.mk (blk_grown B3.out hg_ (fun he => NB3B9.out (Option.some.inj he)));replace B4:=Aside0.mk (blk_grown B4.out hg_ (fun he => NB4B9.out (Option.some.inj he)));replace B6:=Aside0.mk (blk_grown B6.out hg_ (fun he => NB6B9.out (Option.some.inj he)));replace B8:=Aside0.mk (blk_grown B8.out hg_ (fun he => NB8B9.out (Option.some.inj he)));replace B9:=Aside0.mk hn_;clear hg_ hn_;have hB24_0 : w91.cell? ⟨gB2,0,none⟩ = some _:=(blk_cell B2.out 0).trans rfl;have hB24_1 : w91.cell? ⟨gB2,1,none⟩ = some _:=(blk_cell B2.out 1).trans rfl;have hB24_2 : w91.cell? ⟨gB2,2,none⟩ = some _:=(blk_cell B2.out 2).trans rfl;have hB24_3 : w91.cell? ⟨gB2,3,none⟩ = some _:=(blk_cell B2.out 3).trans rfl;have hB24_4 : w91.cell? ⟨gB2,4,none⟩ = some _:=(blk_cell B2.out 4).trans rfl;have hB24_5 : w91.cell? ⟨gB2,5,none⟩ = some _:=(blk_cell B2.out 5).trans rfl;have hB24_6 : w91.cell? ⟨gB2,6,none⟩ = some _:=(blk_cell B2.out 6).trans rfl;have hB34_0 : w91.cell? ⟨gB3,0,none⟩ = some _:=(blk_cell B3.out 0).trans rfl;have hB34_1 : w91.cell? ⟨gB3,1,none⟩ = some _:=(blk_cell B3.out 1).trans rfl;have hB34_2 : w91.cell? ⟨gB3,2,none⟩ = some _:=(blk_cell B3.out 2).trans rfl;have hB34_3 : w91.cell? ⟨gB3,3,none⟩ = some _:=(blk_cell B3.out 3).trans rfl;have hB34_4 : w91.cell? ⟨gB3,4,none⟩ = some _:=(blk_cell B3.out 4).trans rfl;have hB34_5 : w91.cell? ⟨gB3,5,none⟩ = some _:=(blk_cell B3.out 5).trans rfl;have hB64_0 : w91.cell? ⟨gB6,0,none⟩ = some _:=(blk_cell B6.out 0).trans rfl;have hB94_0 : w91.cell? ⟨gB9,0,none⟩ = some _:=(blk_cell B9.out 0).trans rfl;have hB94_1 : w91.cell? ⟨gB9,1,none⟩ = some _:=(blk_cell B9.out 1).trans rfl;have hB94_2 : w91.cell? ⟨gB9,2,none⟩ = some _:=(blk_cell B9.out 2).trans rfl;have hB94_3 : w91.cell? ⟨gB9,3,none⟩ = some _:=(blk_cell B9.out 3).trans rfl;have hB94_4 : w91.cell? ⟨gB9,4,none⟩ = some _:=(blk_cell B9.out 4).trans rfl;have hB94_5 : w91.cell? ⟨gB9,5,none⟩ = some _:=(blk_cell B9.out 5).trans rfl) | (go_at_call 59;(with_reducible refine (mvs_may.calls fuelR y.f0 y.f1.f0 y.f1.f1 y.f1.f2 y.f1.f3 y.f1.f4 true _ hmay ?sideG).mono ?_);(case sideG => exact Env.below HE.out HB.out);rintro e wm ⟨rfl,hb_⟩;replace HB:=Aside0.mk (below_then HB.out HB.out.size hb_);replace HM:=Aside0.mk (HM.out.below hb_);replace B2:=Aside0.mk (blk_below B2.out hb_);replace B3:=Aside0.mk (blk_below B3.out hb_);replace B4:=Aside0.mk (blk_below B4.out hb_);replace B6:=Aside0.mk (blk_below B6.out hb_);replace B8:=Aside0.mk (blk_below B8.out hb_);replace B9:=Aside0.mk (blk_below B9.out hb_);clear hb_;have hB25_0 : wm.cell? ⟨gB2,0,none⟩ = some _:=(blk_cell B2.out 0).trans rfl;have hB25_1 : wm.cell? ⟨gB2,1,none⟩ = some _:=(blk_cell B2.out 1).trans rfl;have hB25_2 : wm.cell? ⟨gB2,2,none⟩ = some _:=(blk_cell B2.out 2).trans rfl;have hB25_3 : wm.cell? ⟨gB2,3,none⟩ = some _:=(blk_cell B2.out 3).trans rfl;have hB25_4 : wm.cell? ⟨gB2,4,none⟩ = some _:=(blk_cell B2.out 4).trans rfl;have hB25_5 : wm.cell? ⟨gB2,5,none⟩ = some _:=(blk_cell B2.out 5).trans rfl;have hB25_6 : wm.cell? ⟨gB2,6,none⟩ = some _:=(blk_cell B2.out 6).trans rfl;have hB35_0 : wm.cell? ⟨gB3,0,none⟩ = some _:=(blk_cell B3.out 0).trans rfl;have hB35_1 : wm.cell? ⟨gB3,1,none⟩ = some _:=(blk_cell B3.out 1).trans rfl;have hB35_2 : wm.cell? ⟨gB3,2,none⟩ = some _:=(blk_cell B3.out 2).trans rfl;have hB35_3 : wm.cell? ⟨gB3,3,none⟩ = some _:=(blk_cell B3.out 3).trans rfl;have hB35_4 : wm.cell? ⟨gB3,4,none⟩ = some _:=(blk_cell B3.out 4).trans rfl;have hB35_5 : wm.cell? ⟨gB3,5,none⟩ = some _:=(blk_cell B3.out 5).trans rfl;have hB65_0 : wm.cell? ⟨gB6,0,none⟩ = some _:=(blk_cell B6.out 0).trans rfl;have hB95_0 : wm.cell? ⟨gB9,0,none⟩ = some _:=(blk_cell B9.out 0).trans rfl;have hB95_1 : wm.cell? ⟨gB9,1,none⟩ = some _:=(blk_cell B9.out 1).trans rfl;have hB95_2 : wm.cell? ⟨gB9,2,none⟩ = some _:=(blk_cell B9.out 2).trans rfl;have hB95_3 : wm.cell? ⟨gB9,3,none⟩ = some _:=(blk_cell B9.out 3).trans rfl;have hB95_4 : wm.cell? ⟨gB9,4,none⟩ = some _:=(blk_cell B9.out 4).trans rfl;have hB95_5 : wm.cell? ⟨gB9,5,none⟩ = some _:=(blk_cell B9.out 5).trans rfl) | (go_at_call 44;(with_reducible refine (ver_Compare.calls fuelR y.f1.f0 y.f1.f1 y.f1.f2 y.f1.f3 y.f1.f4 x.f1.f0 x.f1.f1 x.f1.f2 x.f1.f3 x.f1.f4 c _ hcmp ?sideG).mono ?_);(case sideG => exact Env.below HE.out HB.out);rintro e wk ⟨rfl,hb_⟩;replace HB:=Aside0.mk (below_then HB.out HB.out.size hb_);replace HM:=Aside0.mk (HM.out.below hb_);replace B2:=Aside0.mk (blk_below B2.out hb_);replace B3:=Aside0.mk (blk_below B3.out hb_);replace B4:=Aside0.mk (blk_below B4.out hb_);replace B6:=Aside0.mk (blk_below B6.out hb_);replace B8:=Aside0.mk (blk_below B8.out hb_);replace B9:=Aside0.mk (blk_below B9.out hb_);clear hb_;have hB26_0 : wk.cell? ⟨gB2,0,none⟩ = some _:=(blk_cell B2.out 0).trans rfl;have hB26_1 : wk.cell? ⟨gB2,1,none⟩ = some _:=(blk_cell B2.out 1).trans rfl;have hB26_2 : wk.cell? ⟨gB2,2,none⟩ = some _:=(blk_cell B2.out 2).trans rfl;have hB26_3 : wk.cell? ⟨gB2,3,none⟩ = some _:=(blk_cell B2.out 3).trans rfl;have hB26_4 : wk.cell? ⟨gB2,4,none⟩ = some _:=(blk_cell B2.out 4).trans rfl;have hB26_5 : wk.cell? ⟨gB2,5,none⟩ = some _:=(blk_cell B2.out 5).trans rfl;have hB26_6 : wk.cell? ⟨gB2,6,none⟩ = some _:=(blk_cell B2.out 6).trans rfl;have hB66_0 : wk.cell? ⟨gB6,0,none⟩ = some _:=(blk_cell B6.out 0).trans rfl;have hB96_0 : wk.cell? ⟨gB9,0,none⟩ = some _:=(blk_cell B9.out 0).trans rfl;have hB96_1 : wk.cell? ⟨gB9,1,none⟩ = some _:=(blk_cell B9.out 1).trans rfl;have hB96_2 : wk.cell? ⟨gB9,2,none⟩ = some _:=(blk_cell B9.out 2).trans rfl;have hB96_3 : wk.cell? ⟨gB9,3,none⟩ = some _:=(blk_cell B9.out 3).trans rfl;have hB96_4 : wk.cell? ⟨gB9,4,none⟩ = some _:=(blk_cell B9.out 4).trans rfl;have hB96_5 : wk.cell? ⟨gB9,5,none⟩ = some _:=(blk_cell B9.out 5).trans rfl) | (go_at_call 62;(with_reducible refine (out_calls b y (some ad) c1 nodes true _ (Kd.C_below HN.out HB.out) HC.out hout (Env.below HE.out HB.out)).mono ?_);rintro e wo ⟨rfl,hb_⟩;replace HB:=Aside0.mk (below_then HB.out HB.out.size hb_);replace HM:=Aside0.mk (HM.out.below hb_);replace B2:=Aside0.mk (blk_below B2.out hb_);replace B3:=Aside0.mk (blk_below B3.out hb_);replace B4:=Aside0.mk (blk_below B4.out hb_);replace B6:=Aside0.mk (blk_below B6.out hb_);replace B8:=Aside0.mk (blk_below B8.out hb_);replace B9:=Aside0.mk (blk_below B9.out hb_);clear hb_;have hB67_0 : wo.cell? ⟨gB6,0,none⟩ = some _:=(blk_cell B6.out 0).trans rfl;have hB97_0 : wo.cell? ⟨gB9,0,none⟩ = some _:=(blk_cell B9.out 0).trans rfl;have hB97_1 : wo.cell? ⟨gB9,1,none⟩ = some _:=(blk_cell B9.out 1).trans rfl;have hB97_2 : wo.cell? ⟨gB9,2,none⟩ = some _:=(blk_cell B9.out 2).trans rfl;have hB97_3 : wo.cell? ⟨gB9,3,none⟩ = some _:=(blk_cell B9.out 3).trans rfl;have hB97_4 : wo.cell? ⟨gB9,4,none⟩ = some _:=(blk_cell B9.out 4).trans rfl;have hB97_5 : wo.cell? ⟨gB9,5,none⟩ = some _:=(blk_cell B9.out 5).trans rfl))
       refine ⟨⟨i + 1,L1,by simp [hw],h,⟨H⟩,⟨HM.out.mono (Nat.le_succ _)⟩,B2,B3,B4,B6,HB⟩,?_⟩
       simp only [intOf,hw]
       omega
      | false =>
       obtain rfl:=Option.some.inj hcb
       rw [Bool.not_false,if_pos rfl] at H
       obtain ⟨L2,ht,H⟩:=Option.bind_eq_some_iff.mp H
       go_wp2_with (first | ((with_reducible refine gate_dst (N:=8) rfl ?_);refine bx_ 8 70 #[.string (⟨#[]⟩ : ByteArray),.int .i64 0,.int .i64 0,.int .i64 0,.string (⟨#[]⟩ : ByteArray),.string (⟨#[]⟩ : ByteArray),.slice none 0 0] ?_;intro gB8 hg_ w8 hbox hb_;have GEB8:=Aside0.mk (q39_ : w.heap.size ≤ gB8);have NMB8:=Aside0.mk (q29_ : bm ≠ gB8);have NB2B8:=Aside0.mk (q28_ : gB2 ≠ gB8);have NB3B8:=Aside0.mk (q27_ : gB3 ≠ gB8);have NB4B8:=Aside0.mk (q33_ : gB4 ≠ gB8);have NB6B8:=Aside0.mk (q38_ : gB6 ≠ gB8);replace HB:=Aside0.mk (below_then HB.out HB.out.size hb_);replace HM:=Aside0.mk (HM.out.below hb_);replace B2:=Aside0.mk (blk_below B2.out hb_);replace B3:=Aside0.mk (blk_below B3.out hb_);replace B4:=Aside0.mk (blk_below B4.out hb_);replace B6:=Aside0.mk (blk_below B6.out hb_);have B8:=Aside0.mk hbox;clear hbox hb_ hg_) | ((with_reducible refine gate_ (.store 70 (.tmp 8) (.tmp 20)) rfl ?_);refine store_event 70 (.tmp 8) (.tmp 20) rfl rfl rfl 0 70 _ #[.string y.f0,.int .i64 y.f1.f0,.int .i64 y.f1.f1,.int .i64 y.f1.f2,.string y.f1.f3,.string y.f1.f4,.slice A6 n1.length c6] _ [.string y.f0,.int .i64 y.f1.f0,.int .i64 y.f1.f1,.int .i64 y.f1.f2,.string y.f1.f3,.string y.f1.f4,.slice A6 n1.length c6] rfl rfl rfl q9_ q44_ B8.out (Nat.le_refl 7) q55_ ?_;intro w81 hn_ hg_;replace HB:=Aside0.mk (below_grown HB.out hg_ GEB8.out HB.out.size);replace HM:=Aside0.mk (HM.out.kept hg_ (fun he => NMB8.out (Option.some.inj he)));replace B2:=Aside0.mk (blk_grown B2.out hg_ (fun he => NB2B8.out (Option.some.inj he)));replace B3:=Aside0.mk (blk_grown B3.out hg_ (fun he => NB3B8.out (Option.some.inj he)));replace B4:=Aside0.mk (blk_grown B4.out hg_ (fun he => NB4B8.out (Option.some.inj he)));replace B6:=Aside0.mk (blk_grown B6.out hg_ (fun he => NB6B8.out (Option.some.inj he)));replace B8:=Aside0.mk hn_;clear hg_ hn_;have hB82_0 : w81.cell? ⟨gB8,0,none⟩ = some _:=(blk_cell B8.out 0).trans rfl;have hB82_1 : w81.cell? ⟨gB8,1,none⟩ = some _:=(blk_cell B8.out 1).trans rfl;have hB82_2 : w81.cell? ⟨gB8,2,none⟩ = some _:=(blk_cell B8.out 2).trans rfl;have hB82_3 : w81.cell? ⟨gB8,3,none⟩ = some _:=(blk_cell B8.out 3).trans rfl;have hB82_4 : w81.cell? ⟨gB8,4,none⟩ = some _:=(blk_cell B8.out 4).trans rfl;have hB82_5 : w81.cell? ⟨gB8,5,none⟩ = some _:=(blk_cell B8.out 5).trans rfl;have hB82_6 : w81.cell? ⟨gB8,6,none⟩ = some _:=(blk_cell B8.out 6).trans rfl) | ((with_reducible refine gate_dst (N:=9) rfl ?_);refine bx_ 9 41 #[.string (⟨#[]⟩ : ByteArray),.int .i64 0,.int .i64 0,.int .i64 0,.string (⟨#[]⟩ : ByteArray),.string (⟨#[]⟩ : ByteArray)] ?_;intro gB9 hg_ w9 hbox hb_;have GEB9:=Aside0.mk (q39_ : w.heap.size ≤ gB9);have NMB9:=Aside0.mk (q29_ : bm ≠ gB9);have NB2B9:=Aside0.mk (q28_ : gB2 ≠ gB9);have NB3B9:=Aside0.mk (q27_ : gB3 ≠ gB9);have NB4B9:=Aside0.mk (q33_ : gB4 ≠ gB9);have NB6B9:=Aside0.mk (q38_ : gB6 ≠ gB9);have NB8B9:=Aside0.mk (q52_ : gB8 ≠ gB9);replace HB:=Aside0.mk (below_then HB.out HB.out.size hb_);replace HM:=Aside0.mk (HM.out.below hb_);replace B2:=Aside0.mk (blk_below B2.out hb_);replace B3:=Aside0.mk (blk_below B3.out hb_);replace B4:=Aside0.mk (blk_below B4.out hb_);replace B6:=Aside0.mk (blk_below B6.out hb_);replace B8:=Aside0.mk (blk_below B8.out hb_);have B9:=Aside0.mk hbox;clear hbox hb_ hg_) | ((with_reducible refine gate_ (.store 41 (.tmp 9) (.tmp 22)) rfl ?_);refine store_event 41 (.tmp 9) (.tmp 22) rfl rfl rfl 0 41 _ #[.string y.f0,.int .i64 y.f1.f0,.int .i64 y.f1.f1,.int .i64 y.f1.f2,.string y.f1.f3,.string y.f1.f4] _ [.string y.f0,.int .i64 y.f1.f0,.int .i64 y.f1.f1,.int .i64 y.f1.f2,.string y.f1.f3,.string y.f1.f4] rfl rfl rfl q9_ q44_ B9.out (Nat.le_refl 6) q55_ ?_;intro w91 hn_ hg_;replace HB:=Aside0.mk (below_grown HB.out hg_ GEB9.out HB.out.size);replace HM:=Aside0.mk (HM.out.kept hg_ (fun he => NMB9.out (Option.some.inj he)));replace B2:=Aside0.mk (blk_grown B2.out hg_ (fun he => NB2B9.out (Option.some.inj he)));replace B3:=Aside0.mk (blk_grown B3.out hg_ (fun he => NB3B9.out (Option.some.inj he)));replace B4:=Aside0.mk (blk_grown B4.out hg_ (fun he => NB4B9.out (Option.some.inj he)));replace B6:=Aside0.mk (blk_grown B6.out hg_ (fun he => NB6B9.out (Option.some.inj he)));replace B8:=Aside0.mk (blk_grown B8.out hg_ (fun he => NB8B9.out (Option.some.inj he)));replace B9:=Aside0.mk hn_;clear hg_ hn_;have hB24_0 : w91.cell? ⟨gB2,0,none⟩ = some _:=(blk_cell B2.out 0).trans rfl;have hB24_1 : w91.cell? ⟨gB2,1,none⟩ = some _:=(blk_cell B2.out 1).trans rfl;have hB24_2 : w91.cell? ⟨gB2,2,none⟩ = some _:=(blk_cell B2.out 2).trans rfl;have hB24_3 : w91.cell? ⟨gB2,3,none⟩ = some _:=(blk_cell B2.out 3).trans rfl;have hB24_4 : w91.cell? ⟨gB2,4,none⟩ = some _:=(blk_cell B2.out 4).trans rfl;have hB24_5 : w91.cell? ⟨gB2,5,none⟩ = some _:=(blk_cell B2.out 5).trans rfl;have hB24_6 : w91.cell? ⟨gB2,6,none⟩ = some _:=(blk_cell B2.out 6).trans rfl;have hB34_0 : w91.cell? ⟨gB3,0,none⟩ = some _:=(blk_cell B3.out 0).trans rfl;have hB34_1 : w91.cell? ⟨gB3,1,none⟩ = some _:=(blk_cell B3.out 1).trans rfl;have hB34_2 : w91.cell? ⟨gB3,2,none⟩ = some _:=(blk_cell B3.out 2).trans rfl;have hB34_3 : w91.cell? ⟨gB3,3,none⟩ = some _:=(blk_cell B3.out 3).trans rfl;have hB34_4 : w91.cell? ⟨gB3,4,none⟩ = some _:=(blk_cell B3.out 4).trans rfl;have hB34_5 : w91.cell? ⟨gB3,5,none⟩ = some _:=(blk_cell B3.out 5).trans rfl;have hB64_0 : w91.cell? ⟨gB6,0,none⟩ = some _:=(blk_cell B6.out 0).trans rfl;have hB94_0 : w91.cell? ⟨gB9,0,none⟩ = some _:=(blk_cell B9.out 0).trans rfl;have hB94_1 : w91.cell? ⟨gB9,1,none⟩ = some _:=(blk_cell B9.out 1).trans rfl;have hB94_2 : w91.cell? ⟨gB9,2,none⟩ = some _:=(blk_cell B9.out 2).trans rfl;have hB94_3 : w91.cell? ⟨gB9,3,none⟩ = some _:=(blk_cell B9.out 3).trans rfl;have hB94_4 : w91.cell? ⟨gB9,4,none⟩ = some _:=(blk_cell B9.out 4).trans rfl;have hB94_5 : w91.cell? ⟨gB9,5,none⟩ = some _:=(blk_cell B9.out 5).trans rfl) | (go_at_call 59;(with_reducible refine (mvs_may.calls fuelR y.f0 y.f1.f0 y.f1.f1 y.f1.f2 y.f1.f3 y.f1.f4 true _ hmay ?sideG).mono ?_);(case sideG => exact Env.below HE.out HB.out);rintro e wm ⟨rfl,hb_⟩;replace HB:=Aside0.mk (below_then HB.out HB.out.size hb_);replace HM:=Aside0.mk (HM.out.below hb_);replace B2:=Aside0.mk (blk_below B2.out hb_);replace B3:=Aside0.mk (blk_below B3.out hb_);replace B4:=Aside0.mk (blk_below B4.out hb_);replace B6:=Aside0.mk (blk_below B6.out hb_);replace B8:=Aside0.mk (blk_below B8.out hb_);replace B9:=Aside0.mk (blk_below B9.out hb_);clear hb_;have hB25_0 : wm.cell? ⟨gB2,0,none⟩ = some _:=(blk_cell B2.out 0).trans rfl;have hB25_1 : wm.cell? ⟨gB2,1,none⟩ = some _:=(blk_cell B2.out 1).trans rfl;have hB25_2 : wm.cell? ⟨gB2,2,none⟩ = some _:=(blk_cell B2.out 2).trans rfl;have hB25_3 : wm.cell? ⟨gB2,3,none⟩ = some _:=(blk_cell B2.out 3).trans rfl;have hB25_4 : wm.cell? ⟨gB2,4,none⟩ = some _:=(blk_cell B2.out 4).trans rfl;have hB25_5 : wm.cell? ⟨gB2,5,none⟩ = some _:=(blk_cell B2.out 5).trans rfl;have hB25_6 : wm.cell? ⟨gB2,6,none⟩ = some _:=(blk_cell B2.out 6).trans rfl;have hB35_0 : wm.cell? ⟨gB3,0,none⟩ = some _:=(blk_cell B3.out 0).trans rfl;have hB35_1 : wm.cell? ⟨gB3,1,none⟩ = some _:=(blk_cell B3.out 1).trans rfl;have hB35_2 : wm.cell? ⟨gB3,2,none⟩ = some _:=(blk_cell B3.out 2).trans rfl;have hB35_3 : wm.cell? ⟨gB3,3,none⟩ = some _:=(blk_cell B3.out 3).trans rfl;have hB35_4 : wm.cell? ⟨gB3,4,none⟩ = some _:=(blk_cell B3.out 4).trans rfl;have hB35_5 : wm.cell? ⟨gB3,5,none⟩ = some _:=(blk_cell B3.out 5).trans rfl;have hB65_0 : wm.cell? ⟨gB6,0,none⟩ = some _:=(blk_cell B6.out 0).trans rfl;have hB95_0 : wm.cell? ⟨gB9,0,none⟩ = some _:=(blk_cell B9.out 0).trans rfl;have hB95_1 : wm.cell? ⟨gB9,1,none⟩ = some _:=(blk_cell B9.out 1).trans rfl;have hB95_2 : wm.cell? ⟨gB9,2,none⟩ = some _:=(blk_cell B9.out 2).trans rfl;have hB95_3 : wm.cell? ⟨gB9,3,none⟩ = some _:=(blk_cell B9.out 3).trans rfl;have hB95_4 : wm.cell? ⟨gB9,4,none⟩ = some _:=(blk_cell B9.out 4).trans rfl;have hB95_5 : wm.cell? ⟨gB9,5,none⟩ = some _:=(blk_cell B9.out 5).trans rfl) | (go_at_call 44;(with_reducible refine (ver_Compare.calls fuelR y.f1.f0 y.f1.f1 y.f1.f2 y.f1.f3 y.f1.f4 x.f1.f0 x.f1.f1 x.f1.f2 x.f1.f3 x.f1.f4 c _ hcmp ?sideG).mono ?_);(case sideG => exact Env.below HE.out HB.out);rintro e wk ⟨rfl,hb_⟩;replace HB:=Aside0.mk (below_then HB.out HB.out.size hb_);replace HM:=Aside0.mk (HM.out.below hb_);replace B2:=Aside0.mk (blk_below B2.out hb_);replace B3:=Aside0.mk (blk_below B3.out hb_);replace B4:=Aside0.mk (blk_below B4.out hb_);replace B6:=Aside0.mk (blk_below B6.out hb_);replace B8:=Aside0.mk (blk_below B8.out hb_);replace B9:=Aside0.mk (blk_below B9.out hb_);clear hb_;have hB26_0 : wk.cell? ⟨gB2,0,none⟩ = some _:=(blk_cell B2.out 0).trans rfl;have hB26_1 : wk.cell? ⟨gB2,1,none⟩ = some _:=(blk_cell B2.out 1).trans rfl;have hB26_2 : wk.cell? ⟨gB2,2,none⟩ = some _:=(blk_cell B2.out 2).trans rfl;have hB26_3 : wk.cell? ⟨gB2,3,none⟩ = some _:=(blk_cell B2.out 3).trans rfl;have hB26_4 : wk.cell? ⟨gB2,4,none⟩ = some _:=(blk_cell B2.out 4).trans rfl;have hB26_5 : wk.cell? ⟨gB2,5,none⟩ = some _:=(blk_cell B2.out 5).trans rfl;have hB26_6 : wk.cell? ⟨gB2,6,none⟩ = some _:=(blk_cell B2.out 6).trans rfl;have hB66_0 : wk.cell? ⟨gB6,0,none⟩ = some _:=(blk_cell B6.out 0).trans rfl;have hB96_0 : wk.cell? ⟨gB9,0,none⟩ = some _:=(blk_cell B9.out 0).trans rfl;have hB96_1 : wk.cell? ⟨gB9,1,none⟩ = some _:=(blk_cell B9.out 1).trans rfl;have hB96_2 : wk.cell? ⟨gB9,2,none⟩ = some _:=(blk_cell B9.out 2).trans rfl;have hB96_3 : wk.cell? ⟨gB9,3,none⟩ = some _:=(blk_cell B9.out 3).trans rfl;have hB96_4 : wk.cell? ⟨gB9,4,none⟩ = some _:=(blk_cell B9.out 4).trans rfl;have hB96_5 : wk.cell? ⟨gB9,5,none⟩ = some _:=(blk_cell B9.out 5).trans rfl) | (go_at_call 62;(with_reducible refine (out_calls b y (some ad) c1 nodes false _ (Kd.C_below HN.out HB.out) HC.out hout (Env.below HE.out HB.out)).mono ?_);rintro e wo ⟨rfl,hb_⟩;replace HB:=Aside0.mk (below_then HB.out HB.out.size hb_);replace HM:=Aside0.mk (HM.out.below hb_);replace B2:=Aside0.mk (blk_below B2.out hb_);replace B3:=Aside0.mk (blk_below B3.out hb_);replace B4:=Aside0.mk (blk_below B4.out hb_);replace B6:=Aside0.mk (blk_below B6.out hb_);replace B8:=Aside0.mk (blk_below B8.out hb_);replace B9:=Aside0.mk (blk_below B9.out hb_);clear hb_;have hB67_0 : wo.cell? ⟨gB6,0,none⟩ = some _:=(blk_cell B6.out 0).trans rfl;have hB97_0 : wo.cell? ⟨gB9,0,none⟩ = some _:=(blk_cell B9.out 0).trans rfl;have hB97_1 : wo.cell? ⟨gB9,1,none⟩ = some _:=(blk_cell B9.out 1).trans rfl;have hB97_2 : wo.cell? ⟨gB9,2,none⟩ = some _:=(blk_cell B9.out 2).trans rfl;have hB97_3 : wo.cell? ⟨gB9,3,none⟩ = some _:=(blk_cell B9.out 3).trans rfl;have hB97_4 : wo.cell? ⟨gB9,4,none⟩ = some _:=(blk_cell B9.out 4).trans rfl;have hB97_5 : wo.cell? ⟨gB9,5,none⟩ = some _:=(blk_cell B9.out 5).trans rfl) | (go_at_call 52;(with_reducible refine (take_calls bm i L1 L2 y w _ HB.out MB.out HE.out HM.out hni ht).mono ?_);rintro e wt ⟨rfl,hm_,hb_,hg_⟩;have n1:=Aside0.mk hm_;have n2:=Aside0.mk hb_;have nB2:=Aside0.mk (blk_grown B2.out hg_ (fun he => M2.out (Option.some.inj he)));have nB3:=Aside0.mk (blk_grown B3.out hg_ (fun he => M3.out (Option.some.inj he)));have nB4:=Aside0.mk (blk_grown B4.out hg_ (fun he => M4.out (Option.some.inj he)));have nB6:=Aside0.mk (blk_grown B6.out hg_ (fun he => NMB6.out (Option.some.inj he).symm));clear HM HB B2 B3 B4 B6 B8 B9 hm_ hb_ hg_;have HM:=n1;have HB:=n2;have B2:=nB2;have B3:=nB3;have B4:=nB4;have B6:=nB6;clear n1 n2 nB2 nB3 nB4 nB6))
       refine ⟨⟨i + 1,L2,by simp [hw],h,⟨H⟩,HM,B2,B3,B4,B6,HB⟩,?_⟩
       simp only [intOf,hw]
       omega
     ·have hcc : (c < 0) = False:=eq_false hc0
      rw [if_neg hc0] at hcb
      obtain rfl:=Option.some.inj hcb
      replace H : lowP b nodes x L1 (nodes.drop (i + 1)) = some Lf:=H
      go_wp2_with (first | ((with_reducible refine gate_dst (N:=8) rfl ?_);refine bx_ 8 70 #[.string (⟨#[]⟩ : ByteArray),.int .i64 0,.int .i64 0,.int .i64 0,.string (⟨#[]⟩ : ByteArray),.string (⟨#[]⟩ : ByteArray),.slice none 0 0] ?_;intro gB8 hg_ w8 hbox hb_;have GEB8:=Aside0.mk (q39_ : w.heap.size ≤ gB8);have NMB8:=Aside0.mk (q29_ : bm ≠ gB8);have NB2B8:=Aside0.mk (q28_ : gB2 ≠ gB8);have NB3B8:=Aside0.mk (q27_ : gB3 ≠ gB8);have NB4B8:=Aside0.mk (q33_ : gB4 ≠ gB8);have NB6B8:=Aside0.mk (q38_ : gB6 ≠ gB8);replace HB:=Aside0.mk (below_then HB.out HB.out.size hb_);replace HM:=Aside0.mk (HM.out.below hb_);replace B2:=Aside0.mk (blk_below B2.out hb_);replace B3:=Aside0.mk (blk_below B3.out hb_);replace B4:=Aside0.mk (blk_below B4.out hb_);replace B6:=Aside0.mk (blk_below B6.out hb_);have B8:=Aside0.mk hbox;clear hbox hb_ hg_) | ((with_reducible refine gate_ (.store 70 (.tmp 8) (.tmp 20)) rfl ?_);refine store_event 70 (.tmp 8) (.tmp 20) rfl rfl rfl 0 70 _ #[.string y.f0,.int .i64 y.f1.f0,.int .i64 y.f1.f1,.int .i64 y.f1.f2,.string y.f1.f3,.string y.f1.f4,.slice A6 n1.length c6] _ [.string y.f0,.int .i64 y.f1.f0,.int .i64 y.f1.f1,.int .i64 y.f1.f2,.string y.f1.f3,.string y.f1.f4,.slice A6 n1.length c6] rfl rfl rfl q9_ q44_ B8.out (Nat.le_refl 7) q55_ ?_;intro w81 hn_ hg_;replace HB:=Aside0.mk (below_grown HB.out hg_ GEB8.out HB.out.size);replace HM:=Aside0.mk (HM.out.kept hg_ (fun he => NMB8.out (Option.some.inj he)));replace B2:=Aside0.mk (blk_grown B2.out hg_ (fun he => NB2B8.out (Option.some.inj he)));replace B3:=Aside0.mk (blk_grown B3.out hg_ (fun he => NB3B8.out (Option.some.inj he)));replace B4:=Aside0.mk (blk_grown B4.out hg_ (fun he => NB4B8.out (Option.some.inj he)));replace B6:=Aside0.mk (blk_grown B6.out hg_ (fun he => NB6B8.out (Option.some.inj he)));replace B8:=Aside0.mk hn_;clear hg_ hn_;have hB82_0 : w81.cell? ⟨gB8,0,none⟩ = some _:=(blk_cell B8.out 0).trans rfl;have hB82_1 : w81.cell? ⟨gB8,1,none⟩ = some _:=(blk_cell B8.out 1).trans rfl;have hB82_2 : w81.cell? ⟨gB8,2,none⟩ = some _:=(blk_cell B8.out 2).trans rfl;have hB82_3 : w81.cell? ⟨gB8,3,none⟩ = some _:=(blk_cell B8.out 3).trans rfl;have hB82_4 : w81.cell? ⟨gB8,4,none⟩ = some _:=(blk_cell B8.out 4).trans rfl;have hB82_5 : w81.cell? ⟨gB8,5,none⟩ = some _:=(blk_cell B8.out 5).trans rfl;have hB82_6 : w81.cell? ⟨gB8,6,none⟩ = some _:=(blk_cell B8.out 6).trans rfl) | ((with_reducible refine gate_dst (N:=9) rfl ?_);refine bx_ 9 41 #[.string (⟨#[]⟩ : ByteArray),.int .i64 0,.int .i64 0,.int .i64 0,.string (⟨#[]⟩ : ByteArray),.string (⟨#[]⟩ : ByteArray)] ?_;intro gB9 hg_ w9 hbox hb_;have GEB9:=Aside0.mk (q39_ : w.heap.size ≤ gB9);have NMB9:=Aside0.mk (q29_ : bm ≠ gB9);have NB2B9:=Aside0.mk (q28_ : gB2 ≠ gB9);have NB3B9:=Aside0.mk (q27_ : gB3 ≠ gB9);have NB4B9:=Aside0.mk (q33_ : gB4 ≠ gB9);have NB6B9:=Aside0.mk (q38_ : gB6 ≠ gB9);have NB8B9:=Aside0.mk (q52_ : gB8 ≠ gB9);replace HB:=Aside0.mk (below_then HB.out HB.out.size hb_);replace HM:=Aside0.mk (HM.out.below hb_);replace B2:=Aside0.mk (blk_below B2.out hb_);replace B3:=Aside0.mk (blk_below B3.out hb_);replace B4:=Aside0.mk (blk_below B4.out hb_);replace B6:=Aside0.mk (blk_below B6.out hb_);replace B8:=Aside0.mk (blk_below B8.out hb_);have B9:=Aside0.mk hbox;clear hbox hb_ hg_) | ((with_reducible refine gate_ (.store 41 (.tmp 9) (.tmp 22)) rfl ?_);refine store_event 41 (.tmp 9) (.tmp 22) rfl rfl rfl 0 41 _ #[.string y.f0,.int .i64 y.f1.f0,.int .i64 y.f1.f1,.int .i64 y.f1.f2,.string y.f1.f3,.string y.f1.f4] _ [.string y.f0,.int .i64 y.f1.f0,.int .i64 y.f1.f1,.int .i64 y.f1.f2,.string y.f1.f3,.string y.f1.f4] rfl rfl rfl q9_ q44_ B9.out (Nat.le_refl 6) q55_ ?_;intro w91 hn_ hg_;replace HB:=Aside0.mk (below_grown HB.out hg_ GEB9.out HB.out.size);replace HM:=Aside0.mk (HM.out.kept hg_ (fun he => NMB9.out (Option.some.inj he)));replace B2:=Aside0.mk (blk_grown B2.out hg_ (fun he => NB2B9.out (Option.some.inj he)));replace B3:=Aside0.mk (blk_grown B3.out hg_ (fun he => NB3B9.out (Option.some.inj he)));replace B4:=Aside0.mk (blk_grown B4.out hg_ (fun he => NB4B9.out (Option.some.inj he)));replace B6:=Aside0.mk (blk_grown B6.out hg_ (fun he => NB6B9.out (Option.some.inj he)));replace B8:=Aside0.mk (blk_grown B8.out hg_ (fun he => NB8B9.out (Option.some.inj he)));replace B9:=Aside0.mk hn_;clear hg_ hn_;have hB24_0 : w91.cell? ⟨gB2,0,none⟩ = some _:=(blk_cell B2.out 0).trans rfl;have hB24_1 : w91.cell? ⟨gB2,1,none⟩ = some _:=(blk_cell B2.out 1).trans rfl;have hB24_2 : w91.cell? ⟨gB2,2,none⟩ = some _:=(blk_cell B2.out 2).trans rfl;have hB24_3 : w91.cell? ⟨gB2,3,none⟩ = some _:=(blk_cell B2.out 3).trans rfl;have hB24_4 : w91.cell? ⟨gB2,4,none⟩ = some _:=(blk_cell B2.out 4).trans rfl;have hB24_5 : w91.cell? ⟨gB2,5,none⟩ = some _:=(blk_cell B2.out 5).trans rfl;have hB24_6 : w91.cell? ⟨gB2,6,none⟩ = some _:=(blk_cell B2.out 6).trans rfl;have hB34_0 : w91.cell? ⟨gB3,0,none⟩ = some _:=(blk_cell B3.out 0).trans rfl;have hB34_1 : w91.cell? ⟨gB3,1,none⟩ = some _:=(blk_cell B3.out 1).trans rfl;have hB34_2 : w91.cell? ⟨gB3,2,none⟩ = some _:=(blk_cell B3.out 2).trans rfl;have hB34_3 : w91.cell? ⟨gB3,3,none⟩ = some _:=(blk_cell B3.out 3).trans rfl;have hB34_4 : w91.cell? ⟨gB3,4,none⟩ = some _:=(blk_cell B3.out 4).trans rfl;have hB34_5 : w91.cell? ⟨gB3,5,none⟩ = some _:=(blk_cell B3.out 5).trans rfl;have hB64_0 : w91.cell? ⟨gB6,0,none⟩ = some _:=(blk_cell B6.out 0).trans rfl;have hB94_0 : w91.cell? ⟨gB9,0,none⟩ = some _:=(blk_cell B9.out 0).trans rfl;have hB94_1 : w91.cell? ⟨gB9,1,none⟩ = some _:=(blk_cell B9.out 1).trans rfl;have hB94_2 : w91.cell? ⟨gB9,2,none⟩ = some _:=(blk_cell B9.out 2).trans rfl;have hB94_3 : w91.cell? ⟨gB9,3,none⟩ = some _:=(blk_cell B9.out 3).trans rfl;have hB94_4 : w91.cell? ⟨gB9,4,none⟩ = some _:=(blk_cell B9.out 4).trans rfl;have hB94_5 : w91.cell? ⟨gB9,5,none⟩ = some _:=(blk_cell B9.out 5).trans rfl) | (go_at_call 59;(with_reducible refine (mvs_may.calls fuelR y.f0 y.f1.f0 y.f1.f1 y.f1.f2 y.f1.f3 y.f1.f4 true _ hmay ?sideG).mono ?_);(case sideG => exact Env.below HE.out HB.out);rintro e wm ⟨rfl,hb_⟩;replace HB:=Aside0.mk (below_then HB.out HB.out.size hb_);replace HM:=Aside0.mk (HM.out.below hb_);replace B2:=Aside0.mk (blk_below B2.out hb_);replace B3:=Aside0.mk (blk_below B3.out hb_);replace B4:=Aside0.mk (blk_below B4.out hb_);replace B6:=Aside0.mk (blk_below B6.out hb_);replace B8:=Aside0.mk (blk_below B8.out hb_);replace B9:=Aside0.mk (blk_below B9.out hb_);clear hb_;have hB25_0 : wm.cell? ⟨gB2,0,none⟩ = some _:=(blk_cell B2.out 0).trans rfl;have hB25_1 : wm.cell? ⟨gB2,1,none⟩ = some _:=(blk_cell B2.out 1).trans rfl;have hB25_2 : wm.cell? ⟨gB2,2,none⟩ = some _:=(blk_cell B2.out 2).trans rfl;have hB25_3 : wm.cell? ⟨gB2,3,none⟩ = some _:=(blk_cell B2.out 3).trans rfl;have hB25_4 : wm.cell? ⟨gB2,4,none⟩ = some _:=(blk_cell B2.out 4).trans rfl;have hB25_5 : wm.cell? ⟨gB2,5,none⟩ = some _:=(blk_cell B2.out 5).trans rfl;have hB25_6 : wm.cell? ⟨gB2,6,none⟩ = some _:=(blk_cell B2.out 6).trans rfl;have hB35_0 : wm.cell? ⟨gB3,0,none⟩ = some _:=(blk_cell B3.out 0).trans rfl;have hB35_1 : wm.cell? ⟨gB3,1,none⟩ = some _:=(blk_cell B3.out 1).trans rfl;have hB35_2 : wm.cell? ⟨gB3,2,none⟩ = some _:=(blk_cell B3.out 2).trans rfl;have hB35_3 : wm.cell? ⟨gB3,3,none⟩ = some _:=(blk_cell B3.out 3).trans rfl;have hB35_4 : wm.cell? ⟨gB3,4,none⟩ = some _:=(blk_cell B3.out 4).trans rfl;have hB35_5 : wm.cell? ⟨gB3,5,none⟩ = some _:=(blk_cell B3.out 5).trans rfl;have hB65_0 : wm.cell? ⟨gB6,0,none⟩ = some _:=(blk_cell B6.out 0).trans rfl;have hB95_0 : wm.cell? ⟨gB9,0,none⟩ = some _:=(blk_cell B9.out 0).trans rfl;have hB95_1 : wm.cell? ⟨gB9,1,none⟩ = some _:=(blk_cell B9.out 1).trans rfl;have hB95_2 : wm.cell? ⟨gB9,2,none⟩ = some _:=(blk_cell B9.out 2).trans rfl;have hB95_3 : wm.cell? ⟨gB9,3,none⟩ = some _:=(blk_cell B9.out 3).trans rfl;have hB95_4 : wm.cell? ⟨gB9,4,none⟩ = some _:=(blk_cell B9.out 4).trans rfl;have hB95_5 : wm.cell? ⟨gB9,5,none⟩ = some _:=(blk_cell B9.out 5).trans rfl) | (go_at_call 44;(with_reducible refine (ver_Compare.calls fuelR y.f1.f0 y.f1.f1 y.f1.f2 y.f1.f3 y.f1.f4 x.f1.f0 x.f1.f1 x.f1.f2 x.f1.f3 x.f1.f4 c _ hcmp ?sideG).mono ?_);(case sideG => exact Env.below HE.out HB.out);rintro e wk ⟨rfl,hb_⟩;replace HB:=Aside0.mk (below_then HB.out HB.out.size hb_);replace HM:=Aside0.mk (HM.out.below hb_);replace B2:=Aside0.mk (blk_below B2.out hb_);replace B3:=Aside0.mk (blk_below B3.out hb_);replace B4:=Aside0.mk (blk_below B4.out hb_);replace B6:=Aside0.mk (blk_below B6.out hb_);replace B8:=Aside0.mk (blk_below B8.out hb_);replace B9:=Aside0.mk (blk_below B9.out hb_);clear hb_;have hB26_0 : wk.cell? ⟨gB2,0,none⟩ = some _:=(blk_cell B2.out 0).trans rfl;have hB26_1 : wk.cell? ⟨gB2,1,none⟩ = some _:=(blk_cell B2.out 1).trans rfl;have hB26_2 : wk.cell? ⟨gB2,2,none⟩ = some _:=(blk_cell B2.out 2).trans rfl;have hB26_3 : wk.cell? ⟨gB2,3,none⟩ = some _:=(blk_cell B2.out 3).trans rfl;have hB26_4 : wk.cell? ⟨gB2,4,none⟩ = some _:=(blk_cell B2.out 4).trans rfl;have hB26_5 : wk.cell? ⟨gB2,5,none⟩ = some _:=(blk_cell B2.out 5).trans rfl;have hB26_6 : wk.cell? ⟨gB2,6,none⟩ = some _:=(blk_cell B2.out 6).trans rfl;have hB66_0 : wk.cell? ⟨gB6,0,none⟩ = some _:=(blk_cell B6.out 0).trans rfl;have hB96_0 : wk.cell? ⟨gB9,0,none⟩ = some _:=(blk_cell B9.out 0).trans rfl;have hB96_1 : wk.cell? ⟨gB9,1,none⟩ = some _:=(blk_cell B9.out 1).trans rfl;have hB96_2 : wk.cell? ⟨gB9,2,none⟩ = some _:=(blk_cell B9.out 2).trans rfl;have hB96_3 : wk.cell? ⟨gB9,3,none⟩ = some _:=(blk_cell B9.out 3).trans rfl;have hB96_4 : wk.cell? ⟨gB9,4,none⟩ = some _:=(blk_cell B9.out 4).trans rfl;have hB96_5 : wk.cell? ⟨gB9,5,none⟩ = some _:=(blk_cell B9.out 5).trans rfl))
      refine ⟨⟨i + 1,L1,by simp [hw],h,⟨H⟩,⟨HM.out.mono (Nat.le_succ _)⟩,B2,B3,B4,B6,HB⟩,?_⟩
      simp only [intOf,hw]
      omega
  ·have hg : ((i : Int) < (nodes.length : Int)) = False:=eq_false q5_
   rw [List.drop_eq_nil_of_le q5_,lowP] at H
   obtain rfl:=Option.some.inj H
   have hkey : keyOf Tryz.prog 9 (.string x.f0) = some (keyL x.f0):=WideMaps.keyOf_string_mk Tryz.underlying9 (by unfold maxLen;omega)
   have hz3 : wr.cell? ⟨gB3,0,none⟩ = some _:=(blk_cell B3.out 0).trans rfl
   have hz6 : wr.cell? ⟨gB6,0,none⟩ = some _:=(blk_cell B6.out 0).trans rfl
   obtain ⟨D,ho,hbe⟩:=HM.out
   have NMB4:=Aside0.mk (fun e : bm = gB4 => M4.out e.symm)
   rcases hbe.find x.f0 (datR zR) with ⟨hf,hhas,hat⟩ | ⟨y,hf,hhas,hat⟩
   ·have hR:=HRES.out
    rw [hf] at hR
    obtain ⟨rfl,rfl⟩:=Prod.mk.inj hR
    go_wp2_with (first | ((with_reducible refine gate_dst (N:=55) rfl ?_);refine wpList_lookup_own_ok _ rfl (.tmp 52) (.tmp 54) 78 rfl 9 41 lawS Tryz.underlying78 reqR (zeroReq _) (datR zR) [] rfl bm i D rfl ho _ (keyL x.f0) rfl hkey ?_;intro v_ ps hv;obtain ⟨rv,hrv,hy_⟩:=reqR_inv hv;obtain rfl : zR = rv:=(datR_inj ((Prod.mk.inj hy_).1.symm.trans hat)).symm;subst hrv;rw [hhas];clear hv hy_) | ((with_reducible refine gate_dst (N:=10) rfl ?_);refine bx_ 10 41 #[.string (⟨#[]⟩ : ByteArray),.int .i64 0,.int .i64 0,.int .i64 0,.string (⟨#[]⟩ : ByteArray),.string (⟨#[]⟩ : ByteArray)] ?_;intro gB10 hg_ w10 hbox hb_;have GEB10:=Aside0.mk (q39_ : w.heap.size ≤ gB10);have NMB10:=Aside0.mk (q29_ : bm ≠ gB10);have NB4B10:=Aside0.mk (q33_ : gB4 ≠ gB10);replace HB:=Aside0.mk (below_then HB.out HB.out.size hb_);replace HM:=Aside0.mk (HM.out.below hb_);replace B4:=Aside0.mk (blk_below B4.out hb_);have B10:=Aside0.mk hbox;have NB104:=Aside0.mk ((fun e => NB4B10.out e.symm) : gB10 ≠ gB4);clear hbox hb_ hg_) | ((with_reducible refine gate_ (.store 41 (.tmp 10) (.tmp 56)) rfl ?_);refine store_event 41 (.tmp 10) (.tmp 56) rfl rfl rfl 0 41 _ #[.string zR.f0,.int .i64 zR.f1.f0,.int .i64 zR.f1.f1,.int .i64 zR.f1.f2,.string zR.f1.f3,.string zR.f1.f4] _ [.string zR.f0,.int .i64 zR.f1.f0,.int .i64 zR.f1.f1,.int .i64 zR.f1.f2,.string zR.f1.f3,.string zR.f1.f4] rfl rfl rfl q9_ q44_ B10.out (Nat.le_refl 6) q55_ ?_;intro w101 hn_ hg_;replace HB:=Aside0.mk (below_grown HB.out hg_ GEB10.out HB.out.size);replace HM:=Aside0.mk (HM.out.kept hg_ (fun he => NMB10.out (Option.some.inj he)));replace B4:=Aside0.mk (blk_grown B4.out hg_ (fun he => NB4B10.out (Option.some.inj he)));replace B10:=Aside0.mk hn_;clear hg_ hn_;have hB42_0 : w101.cell? ⟨gB4,0,none⟩ = some _:=(blk_cell B4.out 0).trans rfl;have hB42_1 : w101.cell? ⟨gB4,1,none⟩ = some _:=(blk_cell B4.out 1).trans rfl;have hB42_2 : w101.cell? ⟨gB4,2,none⟩ = some _:=(blk_cell B4.out 2).trans rfl;have hB42_3 : w101.cell? ⟨gB4,3,none⟩ = some _:=(blk_cell B4.out 3).trans rfl;have hB42_4 : w101.cell? ⟨gB4,4,none⟩ = some _:=(blk_cell B4.out 4).trans rfl;have hB42_5 : w101.cell? ⟨gB4,5,none⟩ = some _:=(blk_cell B4.out 5).trans rfl;have hB102_0 : w101.cell? ⟨gB10,0,none⟩ = some _:=(blk_cell B10.out 0).trans rfl;have hB102_1 : w101.cell? ⟨gB10,1,none⟩ = some _:=(blk_cell B10.out 1).trans rfl;have hB102_2 : w101.cell? ⟨gB10,2,none⟩ = some _:=(blk_cell B10.out 2).trans rfl;have hB102_3 : w101.cell? ⟨gB10,3,none⟩ = some _:=(blk_cell B10.out 3).trans rfl;have hB102_4 : w101.cell? ⟨gB10,4,none⟩ = some _:=(blk_cell B10.out 4).trans rfl;have hB102_5 : w101.cell? ⟨gB10,5,none⟩ = some _:=(blk_cell B10.out 5).trans rfl) | ((with_reducible refine gate_ (.store 41 (.tmp 4) (.tmp 58)) rfl ?_);refine store_event 41 (.tmp 4) (.tmp 58) rfl rfl rfl 0 41 _ #[.string zR.f0,.int .i64 zR.f1.f0,.int .i64 zR.f1.f1,.int .i64 zR.f1.f2,.string zR.f1.f3,.string zR.f1.f4] _ [.string zR.f0,.int .i64 zR.f1.f0,.int .i64 zR.f1.f1,.int .i64 zR.f1.f2,.string zR.f1.f3,.string zR.f1.f4] rfl rfl rfl q9_ q44_ B4.out (Nat.le_refl 6) q55_ ?_;intro w102 hn_ hg_;replace HB:=Aside0.mk (below_grown HB.out hg_ GEB4.out HB.out.size);replace HM:=Aside0.mk (HM.out.kept hg_ (fun he => NMB4.out (Option.some.inj he)));replace B4:=Aside0.mk hn_;replace B10:=Aside0.mk (blk_grown B10.out hg_ (fun he => NB104.out (Option.some.inj he)));clear hg_ hn_;have hB43_0 : w102.cell? ⟨gB4,0,none⟩ = some _:=(blk_cell B4.out 0).trans rfl;have hB43_1 : w102.cell? ⟨gB4,1,none⟩ = some _:=(blk_cell B4.out 1).trans rfl;have hB43_2 : w102.cell? ⟨gB4,2,none⟩ = some _:=(blk_cell B4.out 2).trans rfl;have hB43_3 : w102.cell? ⟨gB4,3,none⟩ = some _:=(blk_cell B4.out 3).trans rfl;have hB43_4 : w102.cell? ⟨gB4,4,none⟩ = some _:=(blk_cell B4.out 4).trans rfl;have hB43_5 : w102.cell? ⟨gB4,5,none⟩ = some _:=(blk_cell B4.out 5).trans rfl))
    refine bodyPost_ret (v:=.tuple #[.agg #[.string zR.f0,.int .i64 zR.f1.f0,.int .i64 zR.f1.f1,.int .i64 zR.f1.f2,.string zR.f1.f3,.string zR.f1.f4],.bool false]) ?_ rfl ⟨rfl,HB.out⟩
    simp only [results,Tryz.results63]
    go_simp
   ·have hR:=HRES.out
    rw [hf] at hR
    obtain ⟨rfl,rfl⟩:=Prod.mk.inj hR
    go_wp2_with (first | ((with_reducible refine gate_dst (N:=55) rfl ?_);refine wpList_lookup_own_ok _ rfl (.tmp 52) (.tmp 54) 78 rfl 9 41 lawS Tryz.underlying78 reqR (zeroReq _) (datR zR) [] rfl bm i D rfl ho _ (keyL x.f0) rfl hkey ?_;intro v_ ps hv;obtain ⟨rv,hrv,hy_⟩:=reqR_inv hv;obtain rfl : y = rv:=(datR_inj ((Prod.mk.inj hy_).1.symm.trans hat)).symm;subst hrv;rw [hhas];clear hv hy_) | ((with_reducible refine gate_dst (N:=10) rfl ?_);refine bx_ 10 41 #[.string (⟨#[]⟩ : ByteArray),.int .i64 0,.int .i64 0,.int .i64 0,.string (⟨#[]⟩ : ByteArray),.string (⟨#[]⟩ : ByteArray)] ?_;intro gB10 hg_ w10 hbox hb_;have GEB10:=Aside0.mk (q39_ : w.heap.size ≤ gB10);have NMB10:=Aside0.mk (q29_ : bm ≠ gB10);have NB4B10:=Aside0.mk (q33_ : gB4 ≠ gB10);replace HB:=Aside0.mk (below_then HB.out HB.out.size hb_);replace HM:=Aside0.mk (HM.out.below hb_);replace B4:=Aside0.mk (blk_below B4.out hb_);have B10:=Aside0.mk hbox;have NB104:=Aside0.mk ((fun e => NB4B10.out e.symm) : gB10 ≠ gB4);clear hbox hb_ hg_) | ((with_reducible refine gate_ (.store 41 (.tmp 10) (.tmp 56)) rfl ?_);refine store_event 41 (.tmp 10) (.tmp 56) rfl rfl rfl 0 41 _ #[.string y.f0,.int .i64 y.f1.f0,.int .i64 y.f1.f1,.int .i64 y.f1.f2,.string y.f1.f3,.string y.f1.f4] _ [.string y.f0,.int .i64 y.f1.f0,.int .i64 y.f1.f1,.int .i64 y.f1.f2,.string y.f1.f3,.string y.f1.f4] rfl rfl rfl q9_ q44_ B10.out (Nat.le_refl 6) q55_ ?_;intro w101 hn_ hg_;replace HB:=Aside0.mk (below_grown HB.out hg_ GEB10.out HB.out.size);replace HM:=Aside0.mk (HM.out.kept hg_ (fun he => NMB10.out (Option.some.inj he)));replace B4:=Aside0.mk (blk_grown B4.out hg_ (fun he => NB4B10.out (Option.some.inj he)));replace B10:=Aside0.mk hn_;clear hg_ hn_;have hB42_0 : w101.cell? ⟨gB4,0,none⟩ = some _:=(blk_cell B4.out 0).trans rfl;have hB42_1 : w101.cell? ⟨gB4,1,none⟩ = some _:=(blk_cell B4.out 1).trans rfl;have hB42_2 : w101.cell? ⟨gB4,2,none⟩ = some _:=(blk_cell B4.out 2).trans rfl;have hB42_3 : w101.cell? ⟨gB4,3,none⟩ = some _:=(blk_cell B4.out 3).trans rfl;have hB42_4 : w101.cell? ⟨gB4,4,none⟩ = some _:=(blk_cell B4.out 4).trans rfl;have hB42_5 : w101.cell? ⟨gB4,5,none⟩ = some _:=(blk_cell B4.out 5).trans rfl;have hB102_0 : w101.cell? ⟨gB10,0,none⟩ = some _:=(blk_cell B10.out 0).trans rfl;have hB102_1 : w101.cell? ⟨gB10,1,none⟩ = some _:=(blk_cell B10.out 1).trans rfl;have hB102_2 : w101.cell? ⟨gB10,2,none⟩ = some _:=(blk_cell B10.out 2).trans rfl;have hB102_3 : w101.cell? ⟨gB10,3,none⟩ = some _:=(blk_cell B10.out 3).trans rfl;have hB102_4 : w101.cell? ⟨gB10,4,none⟩ = some _:=(blk_cell B10.out 4).trans rfl;have hB102_5 : w101.cell? ⟨gB10,5,none⟩ = some _:=(blk_cell B10.out 5).trans rfl) | ((with_reducible refine gate_ (.store 41 (.tmp 4) (.tmp 58)) rfl ?_);refine store_event 41 (.tmp 4) (.tmp 58) rfl rfl rfl 0 41 _ #[.string y.f0,.int .i64 y.f1.f0,.int .i64 y.f1.f1,.int .i64 y.f1.f2,.string y.f1.f3,.string y.f1.f4] _ [.string y.f0,.int .i64 y.f1.f0,.int .i64 y.f1.f1,.int .i64 y.f1.f2,.string y.f1.f3,.string y.f1.f4] rfl rfl rfl q9_ q44_ B4.out (Nat.le_refl 6) q55_ ?_;intro w102 hn_ hg_;replace HB:=Aside0.mk (below_grown HB.out hg_ GEB4.out HB.out.size);replace HM:=Aside0.mk (HM.out.kept hg_ (fun he => NMB4.out (Option.some.inj he)));replace B4:=Aside0.mk hn_;replace B10:=Aside0.mk (blk_grown B10.out hg_ (fun he => NB104.out (Option.some.inj he)));clear hg_ hn_;have hB43_0 : w102.cell? ⟨gB4,0,none⟩ = some _:=(blk_cell B4.out 0).trans rfl;have hB43_1 : w102.cell? ⟨gB4,1,none⟩ = some _:=(blk_cell B4.out 1).trans rfl;have hB43_2 : w102.cell? ⟨gB4,2,none⟩ = some _:=(blk_cell B4.out 2).trans rfl;have hB43_3 : w102.cell? ⟨gB4,3,none⟩ = some _:=(blk_cell B4.out 3).trans rfl;have hB43_4 : w102.cell? ⟨gB4,4,none⟩ = some _:=(blk_cell B4.out 4).trans rfl;have hB43_5 : w102.cell? ⟨gB4,5,none⟩ = some _:=(blk_cell B4.out 5).trans rfl))
    refine bodyPost_ret (v:=.tuple #[.agg #[.string y.f0,.int .i64 y.f1.f0,.int .i64 y.f1.f1,.int .i64 y.f1.f2,.string y.f1.f3,.string y.f1.f4],.bool true]) ?_ rfl ⟨rfl,HB.out⟩
    simp only [results,Tryz.results63]
    go_simp
def mvs_bound_lower.f (a0_0 : ByteArray) (a0_1 : Int) (a0_2 : Int) (a0_3 : Int) (a0_4 : ByteArray) (a0_5 : ByteArray) (l0_6 : List Node) (a1_0 : ByteArray) (a1_1 : Int) (a1_2 : Int) (a1_3 : Int) (a1_4 : ByteArray) (a1_5 : ByteArray) : Option (ByteArray × Int × Int × Int × ByteArray × ByteArray × Bool) :=
 (lowerP ⟨a0_0,a0_1,a0_2,a0_3,a0_4,a0_5⟩ l0_6 ⟨a1_0,a1_1,a1_2,a1_3,a1_4,a1_5⟩).bind fun t => some (t.1.f0,t.1.f1.f0,t.1.f1.f1,t.1.f1.f2,t.1.f1.f3,t.1.f1.f4,t.2)
theorem mvs_bound_lower.calls (a0_0 : ByteArray) (a0_1 : Int) (a0_2 : Int) (a0_3 : Int) (a0_4 : ByteArray) (a0_5 : ByteArray) (A0_6 : Option Addr) (c0_6 : Nat) (l0_6 : List Node) (a1_0 : ByteArray) (a1_1 : Int) (a1_2 : Int) (a1_3 : Int) (a1_4 : ByteArray) (a1_5 : ByteArray) (r1 : ByteArray) (r2 : Int) (r3 : Int) (r4 : Int) (r5 : ByteArray) (r6 : ByteArray) (r7 : Bool) (w : World) (hr0_6 : Kd.C k70 w A0_6 l0_6.length l0_6) (hc0_6 : l0_6.length ≤ c0_6) (h : mvs_bound_lower.f a0_0 a0_1 a0_2 a0_3 a0_4 a0_5 l0_6 a1_0 a1_1 a1_2 a1_3 a1_4 a1_5 = some (r1,r2,r3,r4,r5,r6,r7)) (hG : Env w) :
  Calls Tryz.prog 63 #[.agg #[.string a0_0,.int .i64 a0_1,.int .i64 a0_2,.int .i64 a0_3,.string a0_4,.string a0_5,.slice A0_6 l0_6.length c0_6],.agg #[.string a1_0,.int .i64 a1_1,.int .i64 a1_2,.int .i64 a1_3,.string a1_4,.string a1_5]] w fun e w' => e = .returned (.tuple #[.agg #[.string r1,.int .i64 r2,.int .i64 r3,.int .i64 r4,.string r5,.string r6],.bool r7]) ∧ Below w.heap.size w w':=by
 obtain ⟨⟨r,is⟩,hl,he⟩:=Option.bind_eq_some_iff.mp h
 have he':=Option.some.inj he
 simp only [Prod.mk.injEq] at he'
 obtain ⟨rfl,rfl,rfl,rfl,rfl,rfl,rfl⟩:=he'
 exact lower_calls ⟨a0_0,a0_1,a0_2,a0_3,a0_4,a0_5⟩ ⟨a1_0,a1_1,a1_2,a1_3,a1_4,a1_5⟩ A0_6 c0_6 l0_6 r is w hr0_6 hc0_6 hl hG
end Go.Proofs.YtennhpoemdaghaaGreatDoor.P
end
section
namespace Go.Proofs.YtennhpoemdaghaaGreatDoor.P
open Go Go.RowKit Go.Proofs.YtennhpoemdaghaaGreatDoorW.PrintWords Go.Proofs.YtennhpoemdaghaaGreatDoorW.PrintLast Go.Proofs.YtennhpoemdaghaaGreatDoorW.PrintMore
def slices_Clone_apiReq.f (l0 : List S41) : Option (List S41):=if l0.length ≤ 1000000 then some l0 else none
set_option maxRecDepth 100000 in
set_option maxHeartbeats 4000000 in
theorem slices_Clone_apiReq.calls (A0 : Option Addr) (c0 : Nat) (l0 : List S41) (r : List S41) (w : World) (hr0 : Kd.C k41 w A0 l0.length l0) (hc0 : l0.length ≤ c0) (h : slices_Clone_apiReq.f l0 = some r) :
  Calls Tryz.prog 58 #[.slice A0 l0.length c0] w fun e w' => ∃ v0_ : Value,e = .returned (v0_) ∧ Kd.R k41 41 w' w.heap.size (fun _ => True) v0_ r ∧ Below w.heap.size w w':=by
 unfold slices_Clone_apiReq.f at h
 split at h
 case isFalse => exact absurd h q25_
 case isTrue hsz =>
 obtain rfl:=Option.some.inj h
 have q : ∀ (w : World) (a : Option Addr) (n c n' c' : Nat),(binOp .eql 38 (.slice a n c) (.slice none n' c')).run Tryz.prog w = .ok (.bool a.isNone) w:=fun w a n c n' c' => Lib.run_eql_slice_nil w _ _ a n c n' c' Tryz.underlying38
 cases A0 with
 | none =>
  have h0 : l0 = []:=by
   rcases Nat.eq_zero_or_pos l0.length with h | h
   ·exact List.eq_nil_of_length_eq_zero h
   ·obtain ⟨_,e1,_⟩:=at_T41 hr0 0 q5_ q5_
    exact absurd e1 q25_
  subst h0
  go_enter Tryz.func58,Tryz.ntmps58
  go_wp2
  go_ret
  exact ⟨_,rfl,Kd.R_nil _ _ _ _ _,Below.refl _ _⟩
 | some ad =>
  go_enter Tryz.func58,Tryz.ntmps58
  go_wp2_with (first | ((with_reducible refine gate_dst (N:=5) rfl ?_);refine Kd.R_lit k41 _ 41 ?hg (N:=5) ?hd (xs:=([] : List S41)) (inner:=[]) (ok:=fun _ => True) (okp:=fun _ => True) ?hr ?hp (fun _ hk => hk) trivial (Below.refl _ _) (Nat.le_refl _) q25_ ?_;(case hd => rfl);(case hg => rfl);(case hr => first | (go_simp;done) | (go_simp;rfl));(case hp => exact (Reps.none _ _));intro v5 w5 ho5 hb5 hg5_ hnew_;clear hg5_ hnew_;have HO:=Aside0.mk ho5;have HB:=Aside0.mk hb5;clear ho5 hb5) | ((with_reducible refine gate_builtin (b:=.append) (xs:=#[.tmp 5,.tmp 6]) rfl ?_);at_builtin;refine Kd.R_append_rows k41 (w0:=w) w.heap.size rfl (.tmp 5) (.tmp 6) 38 41 (.agg #[.string (⟨#[]⟩ : ByteArray),.int .i64 0,.int .i64 0,.int .i64 0,.string (⟨#[]⟩ : ByteArray),.string (⟨#[]⟩ : ByteArray)]) 72 rfl Tryz.underlying38 info41 rfl q30_ q5_ v5 [] l0 (some ad) l0.length c0 (fun _ => True) (fun _ => False) rfl rfl HO.out (Kd.C_below hr0 HB.out) (fun _ _ h => h) (fun _ h => h.elim) (fun _ _ => trivial) HB.out HB.out.size q46_ ?_;intro v7 w7 ho7 hb7 hg7 hat7))
  go_ret
  exact ⟨_,rfl,ho7,hb7⟩
set_option maxRecDepth 100000 in
set_option maxHeartbeats 4000000 in
theorem up1_calls (y r : Req) (g3 : Nat) (w : World) (hb3 : w.heap[g3]? = some (.cells #[.string r.f0,.int .i64 r.f1.f0,.int .i64 r.f1.f1,.int .i64 r.f1.f2,.string r.f1.f3,.string r.f1.f4] 41 (0,0))) :
  Calls Tryz.prog 61 #[.agg #[.string y.f0,.int .i64 y.f1.f0,.int .i64 y.f1.f1,.int .i64 y.f1.f2,.string y.f1.f3,.string y.f1.f4],.pointer (some ⟨g3,0,none⟩)] w fun e w' => e = .returned (.bool (y.f0.toList == r.f0.toList)) ∧ Below w.heap.size w w':=by
 have BK:=Aside0.mk hb3
 have HB:=Aside0.mk (Below.refl w.heap.size w)
 clear hb3
 go_enter Tryz.func61,Tryz.ntmps61
 go_wp2_with (first | ((with_reducible refine gate_dst (N:=2) rfl ?_);refine bx_ 2 41 #[.string y.f0,.int .i64 y.f1.f0,.int .i64 y.f1.f1,.int .i64 y.f1.f2,.string y.f1.f3,.string y.f1.f4] ?_;intro g2 hg_ w2 hbox hb_;clear hg_;replace BK:=Aside0.mk (blk_below BK.out hb_);replace HB:=Aside0.mk (below_then HB.out HB.out.size hb_);have B2:=Aside0.mk hbox;clear hbox hb_;have hz0 : w2.cell? ⟨g3,0,none⟩ = some _:=(blk_cell BK.out 0).trans rfl;have hz1 : w2.cell? ⟨g3,1,none⟩ = some _:=(blk_cell BK.out 1).trans rfl;have hz2 : w2.cell? ⟨g3,2,none⟩ = some _:=(blk_cell BK.out 2).trans rfl;have hz3 : w2.cell? ⟨g3,3,none⟩ = some _:=(blk_cell BK.out 3).trans rfl;have hz4 : w2.cell? ⟨g3,4,none⟩ = some _:=(blk_cell BK.out 4).trans rfl;have hz5 : w2.cell? ⟨g3,5,none⟩ = some _:=(blk_cell BK.out 5).trans rfl;have hy0 : w2.cell? ⟨g2,0,none⟩ = some _:=(blk_cell B2.out 0).trans rfl;have hy1 : w2.cell? ⟨g2,1,none⟩ = some _:=(blk_cell B2.out 1).trans rfl;have hy2 : w2.cell? ⟨g2,2,none⟩ = some _:=(blk_cell B2.out 2).trans rfl;have hy3 : w2.cell? ⟨g2,3,none⟩ = some _:=(blk_cell B2.out 3).trans rfl;have hy4 : w2.cell? ⟨g2,4,none⟩ = some _:=(blk_cell B2.out 4).trans rfl;have hy5 : w2.cell? ⟨g2,5,none⟩ = some _:=(blk_cell B2.out 5).trans rfl))
 go_ret
 exact ⟨(by first | rfl | (simp;done)),HB.out⟩
def upP (root : List Req) (r : Req) : Option (List Req) :=
 if root.length ≤ 1000000 then (mayP r).bind fun m => if m then
  (match (idxP (fun y : Req => y.f0.toList == r.f0.toList) root 0) with
  | .negSucc _ => some (root ++ [r])
  | .ofNat j => if h : j < root.length then (mayP root[j]).bind fun mj => if mj then (cmpP root[j] r).bind fun c => some (if c < 0 then root.set j r else root) else some (root.set j r) else none)
  else some root
 else none
theorem idxP_cases {α : Type} (pred : α → Bool) : ∀ (l : List α) (i : Nat),idxP pred l i = -1 ∨ ∃ j : Nat,idxP pred l i = (j : Int)
 | [],_ => .inl rfl
 | x :: xs,i => by
  rw [idxP]
  cases pred x
  ·simpa using idxP_cases pred xs (i + 1)
  ·exact .inr ⟨i,by simp⟩
theorem elemZ {w : World} {ad : Addr} {l : List Req} {z : Req} (h : Kd.C k41 w (some ad) l.length l) (j : Nat) (hj : j < l.length) (hz : rd_T41 l (j : Int) = z) :
  w.cell? (ad.add (j * 6)) = some (.string z.f0) ∧ w.cell? ⟨(ad.add (j * 6)).block,(ad.add (j * 6)).off + 1,none⟩ = some (.int .i64 z.f1.f0) ∧ w.cell? ⟨(ad.add (j * 6)).block,(ad.add (j * 6)).off + 2,none⟩ = some (.int .i64 z.f1.f1) ∧ w.cell? ⟨(ad.add (j * 6)).block,(ad.add (j * 6)).off + 3,none⟩ = some (.int .i64 z.f1.f2) ∧ w.cell? ⟨(ad.add (j * 6)).block,(ad.add (j * 6)).off + 4,none⟩ = some (.string z.f1.f3) ∧ w.cell? ⟨(ad.add (j * 6)).block,(ad.add (j * 6)).off + 5,none⟩ = some (.string z.f1.f4):=by
 obtain ⟨ad',e1,h0,h1,h2,h3,h4,h5⟩:=at_T41 h (j : Int) q5_ q5_
 cases e1
 simp only [Int.toNat_natCast,hz] at h0 h1 h2 h3 h4 h5
 exact ⟨h0,h1,h2,h3,h4,h5⟩
theorem addr0 (gg n : Nat) : Addr.add ⟨gg,0,none⟩ n = ⟨gg,n,none⟩:=by
 cases n with
 | zero => rfl
 | succ n => simp [Addr.add]
set_option maxRecDepth 100000 in
set_option maxHeartbeats 8000000 in
theorem up_calls (A0 : Option Addr) (c0 : Nat) (l0 : List Req) (r : Req) (res : List Req) (w : World) (hr0 : Kd.C k41 w A0 l0.length l0) (hc0 : l0.length ≤ c0) (h : upP l0 r = some res) (hG : Env w) :
  Calls Tryz.prog 29 #[.slice A0 l0.length c0,.agg #[.string r.f0,.int .i64 r.f1.f0,.int .i64 r.f1.f1,.int .i64 r.f1.f2,.string r.f1.f3,.string r.f1.f4]] w fun e w' => ∃ v0_ : Value,e = .returned (v0_) ∧ Kd.R k41 41 w' w.heap.size (fun _ => True) v0_ res ∧ Below w.heap.size w w':=by
 unfold upP at h
 split at h
 case isFalse => exact absurd h q25_
 case isTrue hsz =>
 have HR0:=Aside0.mk hr0
 have HC0:=Aside0.mk hc0
 have HE:=Aside0.mk hG
 clear hr0 hc0 hG
 obtain ⟨m,hmay,h⟩:=Option.bind_eq_some_iff.mp h
 replace hmay : mvs_may.f fuelR r.f0 r.f1.f0 r.f1.f1 r.f1.f2 r.f1.f3 r.f1.f4 = some m:=hmay
 cases m with
 | false =>
  obtain rfl:=Option.some.inj h
  go_enter Tryz.func29,Tryz.ntmps29
  go_wp2_with (first | ((with_reducible refine gate_dst (N:=3) rfl ?_);refine bx_ 3 41 #[.string r.f0,.int .i64 r.f1.f0,.int .i64 r.f1.f1,.int .i64 r.f1.f2,.string r.f1.f3,.string r.f1.f4] ?_;intro g3 hg_ w3 hbox hb_;have G3:=Aside0.mk ((by rw [hg_];exact Nat.le_refl _) : w.heap.size ≤ g3);clear hg_;have HB:=Aside0.mk hb_;have BK:=Aside0.mk hbox;clear hbox hb_) | (go_at_call 58;refine (slices_Clone_apiReq.calls A0 c0 l0 l0 _ (Kd.C_below HR0.out HB.out) HC0.out (if_pos hsz)).mono ?_;rintro e w4 ⟨v4,rfl,hR4,hb4⟩;have HO:=Aside0.mk (Kd.R_lower (Kd.R_mono (Kd.R_bound hR4) (fun k hk => (by have h_:=hk.2.1;have h2_:=blk_lt BK.out;omega : k ≠ g3))) HB.out.size);replace BK:=Aside0.mk (blk_below BK.out hb4);replace HB:=Aside0.mk (below_then HB.out HB.out.size hb4);clear hR4 hb4;obtain ⟨A4,c4,rfl⟩:=Kd.R_slice HO.out;have hz0 : w4.cell? ⟨g3,0,none⟩ = some _:=(blk_cell BK.out 0).trans rfl;have hz1 : w4.cell? ⟨g3,1,none⟩ = some _:=(blk_cell BK.out 1).trans rfl;have hz2 : w4.cell? ⟨g3,2,none⟩ = some _:=(blk_cell BK.out 2).trans rfl;have hz3 : w4.cell? ⟨g3,3,none⟩ = some _:=(blk_cell BK.out 3).trans rfl;have hz4 : w4.cell? ⟨g3,4,none⟩ = some _:=(blk_cell BK.out 4).trans rfl;have hz5 : w4.cell? ⟨g3,5,none⟩ = some _:=(blk_cell BK.out 5).trans rfl) | (go_at_call 59;(with_reducible refine (mvs_may.calls fuelR r.f0 r.f1.f0 r.f1.f1 r.f1.f2 r.f1.f3 r.f1.f4 false _ hmay ?sideG).mono ?_);(case sideG => exact Env.below HE.out HB.out);rintro e wma ⟨rfl,hb_⟩;replace BK:=Aside0.mk (blk_below BK.out hb_);replace HO:=Aside0.mk (Kd.R_below HO.out hb_);replace HB:=Aside0.mk (below_then HB.out HB.out.size hb_);clear hb_;have hma0 : wma.cell? ⟨g3,0,none⟩ = some _:=(blk_cell BK.out 0).trans rfl;have hma1 : wma.cell? ⟨g3,1,none⟩ = some _:=(blk_cell BK.out 1).trans rfl;have hma2 : wma.cell? ⟨g3,2,none⟩ = some _:=(blk_cell BK.out 2).trans rfl;have hma3 : wma.cell? ⟨g3,3,none⟩ = some _:=(blk_cell BK.out 3).trans rfl;have hma4 : wma.cell? ⟨g3,4,none⟩ = some _:=(blk_cell BK.out 4).trans rfl;have hma5 : wma.cell? ⟨g3,5,none⟩ = some _:=(blk_cell BK.out 5).trans rfl))
  go_ret
  exact ⟨_,rfl,Kd.R_mono HO.out (fun _ _ => trivial),HB.out⟩
 | true =>
  rw [if_pos rfl] at h
  rcases idxP_cases (fun y : Req => y.f0.toList == r.f0.toList) l0 0 with hix | ⟨j,hix⟩
  ·rw [hix] at h
   obtain rfl:=Option.some.inj h
   go_enter Tryz.func29,Tryz.ntmps29
   go_wp2_with (first | ((with_reducible refine gate_dst (N:=3) rfl ?_);refine bx_ 3 41 #[.string r.f0,.int .i64 r.f1.f0,.int .i64 r.f1.f1,.int .i64 r.f1.f2,.string r.f1.f3,.string r.f1.f4] ?_;intro g3 hg_ w3 hbox hb_;have G3:=Aside0.mk ((by rw [hg_];exact Nat.le_refl _) : w.heap.size ≤ g3);clear hg_;have HB:=Aside0.mk hb_;have BK:=Aside0.mk hbox;clear hbox hb_) | (go_at_call 58;refine (slices_Clone_apiReq.calls A0 c0 l0 l0 _ (Kd.C_below HR0.out HB.out) HC0.out (if_pos hsz)).mono ?_;rintro e w4 ⟨v4,rfl,hR4,hb4⟩;have HO:=Aside0.mk (Kd.R_lower (Kd.R_mono (Kd.R_bound hR4) (fun k hk => (by have h_:=hk.2.1;have h2_:=blk_lt BK.out;omega : k ≠ g3))) HB.out.size);replace BK:=Aside0.mk (blk_below BK.out hb4);replace HB:=Aside0.mk (below_then HB.out HB.out.size hb4);clear hR4 hb4;obtain ⟨A4,c4,rfl⟩:=Kd.R_slice HO.out;have hz0 : w4.cell? ⟨g3,0,none⟩ = some _:=(blk_cell BK.out 0).trans rfl;have hz1 : w4.cell? ⟨g3,1,none⟩ = some _:=(blk_cell BK.out 1).trans rfl;have hz2 : w4.cell? ⟨g3,2,none⟩ = some _:=(blk_cell BK.out 2).trans rfl;have hz3 : w4.cell? ⟨g3,3,none⟩ = some _:=(blk_cell BK.out 3).trans rfl;have hz4 : w4.cell? ⟨g3,4,none⟩ = some _:=(blk_cell BK.out 4).trans rfl;have hz5 : w4.cell? ⟨g3,5,none⟩ = some _:=(blk_cell BK.out 5).trans rfl) | (go_at_call 59;(with_reducible refine (mvs_may.calls fuelR r.f0 r.f1.f0 r.f1.f1 r.f1.f2 r.f1.f3 r.f1.f4 true _ hmay ?sideG).mono ?_);(case sideG => exact Env.below HE.out HB.out);rintro e wma ⟨rfl,hb_⟩;replace BK:=Aside0.mk (blk_below BK.out hb_);replace HO:=Aside0.mk (Kd.R_below HO.out hb_);replace HB:=Aside0.mk (below_then HB.out HB.out.size hb_);clear hb_;have hma0 : wma.cell? ⟨g3,0,none⟩ = some _:=(blk_cell BK.out 0).trans rfl;have hma1 : wma.cell? ⟨g3,1,none⟩ = some _:=(blk_cell BK.out 1).trans rfl;have hma2 : wma.cell? ⟨g3,2,none⟩ = some _:=(blk_cell BK.out 2).trans rfl;have hma3 : wma.cell? ⟨g3,3,none⟩ = some _:=(blk_cell BK.out 3).trans rfl;have hma4 : wma.cell? ⟨g3,4,none⟩ = some _:=(blk_cell BK.out 4).trans rfl;have hma5 : wma.cell? ⟨g3,5,none⟩ = some _:=(blk_cell BK.out 5).trans rfl) | (go_at_call 60;(with_reducible refine (indexUp A4 c4 l0 g3 (fun y => y.f0.toList == r.f0.toList) _ (Kd.R_reads' HO.out).2.2 (Kd.R_reads' HO.out).2.1 ?cl).mono ?_);(case cl => exact fun y W hy hb => up1_calls y r g3 W (blk_below BK.out hb));rintro e w5 ⟨rfl,hb_⟩;replace BK:=Aside0.mk (blk_below BK.out hb_);replace HO:=Aside0.mk (Kd.R_below HO.out hb_);replace HB:=Aside0.mk (below_then HB.out HB.out.size hb_);clear hb_;rw [hix];have hi0 : w5.cell? ⟨g3,0,none⟩ = some _:=(blk_cell BK.out 0).trans rfl;have hi1 : w5.cell? ⟨g3,1,none⟩ = some _:=(blk_cell BK.out 1).trans rfl;have hi2 : w5.cell? ⟨g3,2,none⟩ = some _:=(blk_cell BK.out 2).trans rfl;have hi3 : w5.cell? ⟨g3,3,none⟩ = some _:=(blk_cell BK.out 3).trans rfl;have hi4 : w5.cell? ⟨g3,4,none⟩ = some _:=(blk_cell BK.out 4).trans rfl;have hi5 : w5.cell? ⟨g3,5,none⟩ = some _:=(blk_cell BK.out 5).trans rfl) | ((with_reducible refine gate_builtin (b:=.append) (xs:=#[.tmp 18,.tmp 20]) rfl ?_);at_builtin;refine Kd.R_append k41 (w0:=w) w.heap.size rfl (.tmp 18) (.tmp 20) 38 41 (.agg #[.string (⟨#[]⟩ : ByteArray),.int .i64 0,.int .i64 0,.int .i64 0,.string (⟨#[]⟩ : ByteArray),.string (⟨#[]⟩ : ByteArray)]) 72 rfl Tryz.underlying38 info41 rfl q30_ q5_ (.slice A4 l0.length c4) l0 r [.string r.f0,.int .i64 r.f1.f0,.int .i64 r.f1.f1,.int .i64 r.f1.f2,.string r.f1.f3,.string r.f1.f4] (fun k => k ≠ g3) (fun k => k ≠ g3 ∧ some k ≠ (Value.slice A4 l0.length c4).ownBlock) rfl rfl (k41_mkM _ _ _ r) (fun _ hk => hk) ?aF HO.out HB.out HB.out.size q5_ ?_;(case aF => exact fun k hk => (by have:=blk_lt BK.out;omega));intro v7 w7 hR7 hB7 hg7 hat7))
   go_ret
   exact ⟨_,rfl,Kd.R_mono hR7 (fun _ _ => trivial),hB7⟩
  ·rw [hix] at h
   replace h : (if h : j < l0.length then (mayP l0[j]).bind fun mj => if mj then (cmpP l0[j] r).bind fun c => some (if c < 0 then l0.set j r else l0) else some (l0.set j r) else none) = some res:=h
   split at h
   case isFalse => exact absurd h q25_
   case isTrue hj =>
   obtain ⟨mj,hmj,h⟩:=Option.bind_eq_some_iff.mp h
   obtain ⟨z,hz⟩ : ∃ z,rd_T41 l0 (j : Int) = z:=⟨_,rfl⟩
   have hlz : l0[j] = z:=by rw [← hz];simp [rd_T41,hj]
   rw [hlz] at h hmj
   replace hmj : mvs_may.f fuelR z.f0 z.f1.f0 z.f1.f1 z.f1.f2 z.f1.f3 z.f1.f4 = some mj:=hmj
   have hg1 : ((j : Int) < (l0.length : Int)) = True:=eq_true q5_
   have hp1 : (0 ≤ (j : Int)) = True:=eq_true q5_
   have hn1 : ((j : Int) < 0) = False:=eq_false q5_
   go_enter Tryz.func29,Tryz.ntmps29
   go_upto_region 7 with (first | ((with_reducible refine gate_dst (N:=3) rfl ?_);refine bx_ 3 41 #[.string r.f0,.int .i64 r.f1.f0,.int .i64 r.f1.f1,.int .i64 r.f1.f2,.string r.f1.f3,.string r.f1.f4] ?_;intro g3 hg_ w3 hbox hb_;have G3:=Aside0.mk ((by rw [hg_];exact Nat.le_refl _) : w.heap.size ≤ g3);clear hg_;have HB:=Aside0.mk hb_;have BK:=Aside0.mk hbox;clear hbox hb_) | (go_at_call 58;refine (slices_Clone_apiReq.calls A0 c0 l0 l0 _ (Kd.C_below HR0.out HB.out) HC0.out (if_pos hsz)).mono ?_;rintro e w4 ⟨v4,rfl,hR4,hb4⟩;have HO:=Aside0.mk (Kd.R_lower (Kd.R_mono (Kd.R_bound hR4) (fun k hk => (by have h_:=hk.2.1;have h2_:=blk_lt BK.out;omega : k ≠ g3))) HB.out.size);replace BK:=Aside0.mk (blk_below BK.out hb4);replace HB:=Aside0.mk (below_then HB.out HB.out.size hb4);clear hR4 hb4;obtain ⟨A4,c4,rfl⟩:=Kd.R_slice HO.out;have hz0 : w4.cell? ⟨g3,0,none⟩ = some _:=(blk_cell BK.out 0).trans rfl;have hz1 : w4.cell? ⟨g3,1,none⟩ = some _:=(blk_cell BK.out 1).trans rfl;have hz2 : w4.cell? ⟨g3,2,none⟩ = some _:=(blk_cell BK.out 2).trans rfl;have hz3 : w4.cell? ⟨g3,3,none⟩ = some _:=(blk_cell BK.out 3).trans rfl;have hz4 : w4.cell? ⟨g3,4,none⟩ = some _:=(blk_cell BK.out 4).trans rfl;have hz5 : w4.cell? ⟨g3,5,none⟩ = some _:=(blk_cell BK.out 5).trans rfl) | (go_at_call 59;(with_reducible refine (mvs_may.calls fuelR r.f0 r.f1.f0 r.f1.f1 r.f1.f2 r.f1.f3 r.f1.f4 true _ hmay ?sideG).mono ?_);(case sideG => exact Env.below HE.out HB.out);rintro e wma ⟨rfl,hb_⟩;replace BK:=Aside0.mk (blk_below BK.out hb_);replace HO:=Aside0.mk (Kd.R_below HO.out hb_);replace HB:=Aside0.mk (below_then HB.out HB.out.size hb_);clear hb_;have hma0 : wma.cell? ⟨g3,0,none⟩ = some _:=(blk_cell BK.out 0).trans rfl;have hma1 : wma.cell? ⟨g3,1,none⟩ = some _:=(blk_cell BK.out 1).trans rfl;have hma2 : wma.cell? ⟨g3,2,none⟩ = some _:=(blk_cell BK.out 2).trans rfl;have hma3 : wma.cell? ⟨g3,3,none⟩ = some _:=(blk_cell BK.out 3).trans rfl;have hma4 : wma.cell? ⟨g3,4,none⟩ = some _:=(blk_cell BK.out 4).trans rfl;have hma5 : wma.cell? ⟨g3,5,none⟩ = some _:=(blk_cell BK.out 5).trans rfl) | (go_at_call 60;(with_reducible refine (indexUp A4 c4 l0 g3 (fun y => y.f0.toList == r.f0.toList) _ (Kd.R_reads' HO.out).2.2 (Kd.R_reads' HO.out).2.1 ?cl).mono ?_);(case cl => exact fun y W hy hb => up1_calls y r g3 W (blk_below BK.out hb));rintro e w5 ⟨rfl,hb_⟩;replace BK:=Aside0.mk (blk_below BK.out hb_);replace HO:=Aside0.mk (Kd.R_below HO.out hb_);replace HB:=Aside0.mk (below_then HB.out HB.out.size hb_);clear hb_;rw [hix];have hi0 : w5.cell? ⟨g3,0,none⟩ = some _:=(blk_cell BK.out 0).trans rfl;have hi1 : w5.cell? ⟨g3,1,none⟩ = some _:=(blk_cell BK.out 1).trans rfl;have hi2 : w5.cell? ⟨g3,2,none⟩ = some _:=(blk_cell BK.out 2).trans rfl;have hi3 : w5.cell? ⟨g3,3,none⟩ = some _:=(blk_cell BK.out 3).trans rfl;have hi4 : w5.cell? ⟨g3,4,none⟩ = some _:=(blk_cell BK.out 4).trans rfl;have hi5 : w5.cell? ⟨g3,5,none⟩ = some _:=(blk_cell BK.out 5).trans rfl))
   obtain ⟨gg,hgg⟩ : ∃ gg,A4 = some ⟨gg,0,none⟩:=by
    obtain ⟨_,inner,⟨_,ho⟩,_⟩:=HO.out
    rcases ho with ⟨hv,hn⟩ | ⟨gg,cap,cur,hv,_⟩
    ·omega
    ·injection hv with h1 _ _
     exact ⟨gg,h1⟩
   obtain ⟨ad,had⟩ : ∃ ad : Addr,ad = ⟨gg,0,none⟩:=⟨_,rfl⟩
   rw [← had] at hgg
   subst hgg
   replace had:=Aside0.mk had
   try go_frame
   replace BK:=Aside0.mk (blk_drew BK.out);replace HO:=Aside0.mk (Kd.R_drew HO.out);replace HB:=Aside0.mk (below_drew HB.out)
   cases mj with
   | false =>
    obtain rfl:=Option.some.inj h
    clear h
    obtain ⟨y0,y1,y2,y3,y4,y5⟩:=elemZ (Kd.R_reads' HO.out).2.2 j hj hz
    refine start_ (n:=18) (S:=fun w' => w'.cell? ⟨g3,0,none⟩ = some (.string r.f0) ∧ w'.cell? ⟨g3,1,none⟩ = some (.int .i64 r.f1.f0) ∧ w'.cell? ⟨g3,2,none⟩ = some (.int .i64 r.f1.f1) ∧ w'.cell? ⟨g3,3,none⟩ = some (.int .i64 r.f1.f2) ∧ w'.cell? ⟨g3,4,none⟩ = some (.string r.f1.f3) ∧ w'.cell? ⟨g3,5,none⟩ = some (.string r.f1.f4) ∧ w'.cell? (ad.add (j * 6)) = some (.string z.f0) ∧ w'.cell? ⟨(ad.add (j * 6)).block,(ad.add (j * 6)).off + 1,none⟩ = some (.int .i64 z.f1.f0) ∧ w'.cell? ⟨(ad.add (j * 6)).block,(ad.add (j * 6)).off + 2,none⟩ = some (.int .i64 z.f1.f1) ∧ w'.cell? ⟨(ad.add (j * 6)).block,(ad.add (j * 6)).off + 3,none⟩ = some (.int .i64 z.f1.f2) ∧ w'.cell? ⟨(ad.add (j * 6)).block,(ad.add (j * 6)).off + 4,none⟩ = some (.string z.f1.f3) ∧ w'.cell? ⟨(ad.add (j * 6)).block,(ad.add (j * 6)).off + 5,none⟩ = some (.string z.f1.f4)) (ds:=[]) #[false,false,false,false,false,false,false,false,false,false,false,false,false,false,false,false,false,false] q9_ rfl rfl ⟨(blk_cell BK.out 0).trans rfl,(blk_cell BK.out 1).trans rfl,(blk_cell BK.out 2).trans rfl,(blk_cell BK.out 3).trans rfl,(blk_cell BK.out 4).trans rfl,(blk_cell BK.out 5).trans rfl,y0,y1,y2,y3,y4,y5⟩ (fun hHeld => ?_)
    clear y0 y1 y2 y3 y4 y5
    refine pu_ 0 23 ?_
    refine pu_ 1 24 ?_
    refine pu_ 2 25 ?_
    refine tk_ 3 26 hHeld ?_
    refine one_ (i:=4) (N:=some 27) #[true,true,true,true,true,false,false,false,false,false,false,false,false,false,false,false,false,false] rfl rfl q9_ q30_ (fun K hK => ?_)
    refine goes_ Tryz.func59 q9_ rfl #[.agg #[.string z.f0,.int .i64 z.f1.f0,.int .i64 z.f1.f1,.int .i64 z.f1.f2,.string z.f1.f3,.string z.f1.f4]] q55_ rfl rfl q43_ ?_
    (with_reducible refine (mvs_may.calls fuelR z.f0 z.f1.f0 z.f1.f1 z.f1.f2 z.f1.f3 z.f1.f4 false _ hmj ?sideG).mono ?_)
    (case sideG => exact Env.below HE.out HB.out)
    rintro e wq ⟨rfl,hb_⟩
    refine ⟨_,rfl,?_⟩
    replace BK:=Aside0.mk (blk_below BK.out hb_);replace HO:=Aside0.mk (Kd.R_below HO.out hb_);replace HB:=Aside0.mk (below_then HB.out HB.out.size hb_);clear hb_
    obtain ⟨y0,y1,y2,y3,y4,y5⟩:=elemZ (Kd.R_reads' HO.out).2.2 j hj hz
    refine hK.out _ _ ⟨(blk_cell BK.out 0).trans rfl,(blk_cell BK.out 1).trans rfl,(blk_cell BK.out 2).trans rfl,(blk_cell BK.out 3).trans rfl,(blk_cell BK.out 4).trans rfl,(blk_cell BK.out 5).trans rfl,y0,y1,y2,y3,y4,y5⟩ (fun hHeld => ?_)
    clear hK K y0 y1 y2 y3 y4 y5
    refine norm_ (a':=?_) ?_ ?_
    rotate_left
    ·show Act.put _ _ _ = _
     simp only [Act.put,List.setIfInBounds_toArray,List.set_cons_zero,List.set_cons_succ]
     rfl
    refine pu_ 5 28 ?_
    refine pu_ 6 29 ?_
    refine pn_ 7 30 ?_
    refine pn_ 8 31 ?_
    refine pn_ 9 32 ?_
    refine pn_ 10 33 ?_
    refine pn_ 11 34 ?_
    refine pn_ 12 35 ?_
    refine pn_ 13 36 ?_
    refine pn_ 14 37 ?_
    refine pn_ 15 38 ?_
    refine pu_ 16 39 ?_
    refine pu_ 17 22 ?_
    refine done_ q9_ ?_
    obtain rfl:=had.out
    obtain ⟨y0,y1,y2,y3,y4,y5⟩:=elemZ (Kd.R_reads' HO.out).2.2 j hj hz
    simp only [addr0] at y0 y1 y2 y3 y4 y5
    have hccZ : ∀ (q : Nat) (u : Value),[.string z.f0,.int .i64 z.f1.f0,.int .i64 z.f1.f1,.int .i64 z.f1.f2,.string z.f1.f3,.string z.f1.f4][q]? = some u → wq.cell? ⟨gg,(j : Int).toNat * 6 + q,none⟩ = some u:=by
     intro q u hq
     rw [Int.toNat_natCast]
     match q,hq with
     | 0,hq => exact y0.trans hq
     | 1,hq => exact y1.trans hq
     | 2,hq => exact y2.trans hq
     | 3,hq => exact y3.trans hq
     | 4,hq => exact y4.trans hq
     | 5,hq => exact y5.trans hq
     | q + 6,hq => exact absurd hq q25_
    have hs0 : wq.cell? ⟨g3,0,none⟩ = some _:=(blk_cell BK.out 0).trans rfl
    have hs1 : wq.cell? ⟨g3,1,none⟩ = some _:=(blk_cell BK.out 1).trans rfl
    have hs2 : wq.cell? ⟨g3,2,none⟩ = some _:=(blk_cell BK.out 2).trans rfl
    have hs3 : wq.cell? ⟨g3,3,none⟩ = some _:=(blk_cell BK.out 3).trans rfl
    have hs4 : wq.cell? ⟨g3,4,none⟩ = some _:=(blk_cell BK.out 4).trans rfl
    have hs5 : wq.cell? ⟨g3,5,none⟩ = some _:=(blk_cell BK.out 5).trans rfl
    clear y0 y1 y2 y3 y4 y5
    go_wp2_with (first | ((with_reducible refine gate_ (.store 41 (.tmp 43) (.tmp 42)) rfl ?_);refine Kd.R_store k41 (w0:=w) w.heap.size rfl rfl 41 (.tmp 43) (.tmp 42) rfl 41 (g:=gg) (o':=j * 6) (j : Int) 0 l0 r (.agg #[.string r.f0,.int .i64 r.f1.f0,.int .i64 r.f1.f1,.int .i64 r.f1.f2,.string r.f1.f3,.string r.f1.f4]) [.string r.f0,.int .i64 r.f1.f0,.int .i64 r.f1.f1,.int .i64 r.f1.f2,.string r.f1.f3,.string r.f1.f4] [.string z.f0,.int .i64 z.f1.f0,.int .i64 z.f1.f1,.int .i64 z.f1.f2,.string z.f1.f3,.string z.f1.f4] (fun k => k ≠ g3) (fun k => k ≠ g3 ∧ k ≠ gg) rfl (by show j * 6 = (j : Int).toNat * 6 + 0;omega) rfl rfl q9_ q44_ HO.out q5_ q5_ rfl ?hcc (Nat.le_refl 6) (k41_mkM _ _ _ r) (fun k hk => hk) HB.out ?_;(case hcc => exact hccZ);intro w9 hR9 hB9 hg9))
    go_ret
    exact ⟨_,rfl,Kd.R_mono hR9 (fun _ _ => trivial),hB9⟩
   | true =>
    rw [if_pos rfl] at h
    obtain ⟨c,hcmp,h⟩:=Option.bind_eq_some_iff.mp h
    replace hcmp : ver_Compare.f fuelR z.f1.f0 z.f1.f1 z.f1.f2 z.f1.f3 z.f1.f4 r.f1.f0 r.f1.f1 r.f1.f2 r.f1.f3 r.f1.f4 = some c:=hcmp
    by_cases hc0 : c < 0
    ·have hcc : (c < 0) = True:=eq_true hc0
     rw [if_pos hc0] at h
     obtain rfl:=Option.some.inj h
     clear h
     obtain ⟨y0,y1,y2,y3,y4,y5⟩:=elemZ (Kd.R_reads' HO.out).2.2 j hj hz
     refine start_ (n:=18) (S:=fun w' => w'.cell? ⟨g3,0,none⟩ = some (.string r.f0) ∧ w'.cell? ⟨g3,1,none⟩ = some (.int .i64 r.f1.f0) ∧ w'.cell? ⟨g3,2,none⟩ = some (.int .i64 r.f1.f1) ∧ w'.cell? ⟨g3,3,none⟩ = some (.int .i64 r.f1.f2) ∧ w'.cell? ⟨g3,4,none⟩ = some (.string r.f1.f3) ∧ w'.cell? ⟨g3,5,none⟩ = some (.string r.f1.f4) ∧ w'.cell? (ad.add (j * 6)) = some (.string z.f0) ∧ w'.cell? ⟨(ad.add (j * 6)).block,(ad.add (j * 6)).off + 1,none⟩ = some (.int .i64 z.f1.f0) ∧ w'.cell? ⟨(ad.add (j * 6)).block,(ad.add (j * 6)).off + 2,none⟩ = some (.int .i64 z.f1.f1) ∧ w'.cell? ⟨(ad.add (j * 6)).block,(ad.add (j * 6)).off + 3,none⟩ = some (.int .i64 z.f1.f2) ∧ w'.cell? ⟨(ad.add (j * 6)).block,(ad.add (j * 6)).off + 4,none⟩ = some (.string z.f1.f3) ∧ w'.cell? ⟨(ad.add (j * 6)).block,(ad.add (j * 6)).off + 5,none⟩ = some (.string z.f1.f4)) (ds:=[]) #[false,false,false,false,false,false,false,false,false,false,false,false,false,false,false,false,false,false] q9_ rfl rfl ⟨(blk_cell BK.out 0).trans rfl,(blk_cell BK.out 1).trans rfl,(blk_cell BK.out 2).trans rfl,(blk_cell BK.out 3).trans rfl,(blk_cell BK.out 4).trans rfl,(blk_cell BK.out 5).trans rfl,y0,y1,y2,y3,y4,y5⟩ (fun hHeld => ?_)
     clear y0 y1 y2 y3 y4 y5
     refine pu_ 0 23 ?_
     refine pu_ 1 24 ?_
     refine pu_ 2 25 ?_
     refine tk_ 3 26 hHeld ?_
     refine one_ (i:=4) (N:=some 27) #[true,true,true,true,true,false,false,false,false,false,false,false,false,false,false,false,false,false] rfl rfl q9_ q30_ (fun K hK => ?_)
     refine goes_ Tryz.func59 q9_ rfl #[.agg #[.string z.f0,.int .i64 z.f1.f0,.int .i64 z.f1.f1,.int .i64 z.f1.f2,.string z.f1.f3,.string z.f1.f4]] q55_ rfl rfl q43_ ?_
     (with_reducible refine (mvs_may.calls fuelR z.f0 z.f1.f0 z.f1.f1 z.f1.f2 z.f1.f3 z.f1.f4 true _ hmj ?sideG).mono ?_)
     (case sideG => exact Env.below HE.out HB.out)
     rintro e wq ⟨rfl,hb_⟩
     refine ⟨_,rfl,?_⟩
     replace BK:=Aside0.mk (blk_below BK.out hb_);replace HO:=Aside0.mk (Kd.R_below HO.out hb_);replace HB:=Aside0.mk (below_then HB.out HB.out.size hb_);clear hb_
     obtain ⟨y0,y1,y2,y3,y4,y5⟩:=elemZ (Kd.R_reads' HO.out).2.2 j hj hz
     refine hK.out _ _ ⟨(blk_cell BK.out 0).trans rfl,(blk_cell BK.out 1).trans rfl,(blk_cell BK.out 2).trans rfl,(blk_cell BK.out 3).trans rfl,(blk_cell BK.out 4).trans rfl,(blk_cell BK.out 5).trans rfl,y0,y1,y2,y3,y4,y5⟩ (fun hHeld => ?_)
     clear hK K y0 y1 y2 y3 y4 y5
     refine norm_ (a':=?_) ?_ ?_
     rotate_left
     ·show Act.put _ _ _ = _
      simp only [Act.put,List.setIfInBounds_toArray,List.set_cons_zero,List.set_cons_succ]
      rfl
     refine pu_ 5 28 ?_
     refine pu_ 6 29 ?_
     refine pu_ 7 30 ?_
     refine pu_ 8 31 ?_
     refine pu_ 9 32 ?_
     refine pu_ 10 33 ?_
     refine pu_ 12 35 ?_
     refine tk_ 11 34 hHeld ?_
     refine tk_ 13 36 hHeld ?_
     refine one_ (i:=14) (N:=some 37) #[true,true,true,true,true,true,true,true,true,true,true,true,true,true,true,false,false,false] rfl rfl q9_ q30_ (fun K hK => ?_)
     refine goes_ Tryz.func44 q9_ rfl #[.agg #[.int .i64 z.f1.f0,.int .i64 z.f1.f1,.int .i64 z.f1.f2,.string z.f1.f3,.string z.f1.f4],.agg #[.int .i64 r.f1.f0,.int .i64 r.f1.f1,.int .i64 r.f1.f2,.string r.f1.f3,.string r.f1.f4]] q55_ rfl rfl q43_ ?_
     (with_reducible refine (ver_Compare.calls fuelR z.f1.f0 z.f1.f1 z.f1.f2 z.f1.f3 z.f1.f4 r.f1.f0 r.f1.f1 r.f1.f2 r.f1.f3 r.f1.f4 c _ hcmp ?sideG).mono ?_)
     (case sideG => exact Env.below HE.out HB.out)
     rintro e wk ⟨rfl,hb_⟩
     refine ⟨_,rfl,?_⟩
     replace BK:=Aside0.mk (blk_below BK.out hb_);replace HO:=Aside0.mk (Kd.R_below HO.out hb_);replace HB:=Aside0.mk (below_then HB.out HB.out.size hb_);clear hb_
     obtain ⟨y0,y1,y2,y3,y4,y5⟩:=elemZ (Kd.R_reads' HO.out).2.2 j hj hz
     refine hK.out _ _ ⟨(blk_cell BK.out 0).trans rfl,(blk_cell BK.out 1).trans rfl,(blk_cell BK.out 2).trans rfl,(blk_cell BK.out 3).trans rfl,(blk_cell BK.out 4).trans rfl,(blk_cell BK.out 5).trans rfl,y0,y1,y2,y3,y4,y5⟩ (fun hHeld => ?_)
     clear hK K y0 y1 y2 y3 y4 y5
     refine norm_ (a':=?_) ?_ ?_
     rotate_left
     ·show Act.put _ _ _ = _
      simp only [Act.put,List.setIfInBounds_toArray,List.set_cons_zero,List.set_cons_succ]
      rfl
     refine pu_ 15 38 ?_
     refine pu_ 16 39 ?_
     refine pu_ 17 22 ?_
     refine done_ q9_ ?_
     obtain rfl:=had.out
     obtain ⟨y0,y1,y2,y3,y4,y5⟩:=elemZ (Kd.R_reads' HO.out).2.2 j hj hz
     simp only [addr0] at y0 y1 y2 y3 y4 y5
     have hccZ : ∀ (q : Nat) (u : Value),[.string z.f0,.int .i64 z.f1.f0,.int .i64 z.f1.f1,.int .i64 z.f1.f2,.string z.f1.f3,.string z.f1.f4][q]? = some u → wk.cell? ⟨gg,(j : Int).toNat * 6 + q,none⟩ = some u:=by
      intro q u hq
      rw [Int.toNat_natCast]
      match q,hq with
      | 0,hq => exact y0.trans hq
      | 1,hq => exact y1.trans hq
      | 2,hq => exact y2.trans hq
      | 3,hq => exact y3.trans hq
      | 4,hq => exact y4.trans hq
      | 5,hq => exact y5.trans hq
      | q + 6,hq => exact absurd hq q25_
     have hs0 : wk.cell? ⟨g3,0,none⟩ = some _:=(blk_cell BK.out 0).trans rfl
     have hs1 : wk.cell? ⟨g3,1,none⟩ = some _:=(blk_cell BK.out 1).trans rfl
     have hs2 : wk.cell? ⟨g3,2,none⟩ = some _:=(blk_cell BK.out 2).trans rfl
     have hs3 : wk.cell? ⟨g3,3,none⟩ = some _:=(blk_cell BK.out 3).trans rfl
     have hs4 : wk.cell? ⟨g3,4,none⟩ = some _:=(blk_cell BK.out 4).trans rfl
     have hs5 : wk.cell? ⟨g3,5,none⟩ = some _:=(blk_cell BK.out 5).trans rfl
     clear y0 y1 y2 y3 y4 y5
     go_wp2_with (first | ((with_reducible refine gate_ (.store 41 (.tmp 43) (.tmp 42)) rfl ?_);refine Kd.R_store k41 (w0:=w) w.heap.size rfl rfl 41 (.tmp 43) (.tmp 42) rfl 41 (g:=gg) (o':=j * 6) (j : Int) 0 l0 r (.agg #[.string r.f0,.int .i64 r.f1.f0,.int .i64 r.f1.f1,.int .i64 r.f1.f2,.string r.f1.f3,.string r.f1.f4]) [.string r.f0,.int .i64 r.f1.f0,.int .i64 r.f1.f1,.int .i64 r.f1.f2,.string r.f1.f3,.string r.f1.f4] [.string z.f0,.int .i64 z.f1.f0,.int .i64 z.f1.f1,.int .i64 z.f1.f2,.string z.f1.f3,.string z.f1.f4] (fun k => k ≠ g3) (fun k => k ≠ g3 ∧ k ≠ gg) rfl (by show j * 6 = (j : Int).toNat * 6 + 0;omega) rfl rfl q9_ q44_ HO.out q5_ q5_ rfl ?hcc (Nat.le_refl 6) (k41_mkM _ _ _ r) (fun k hk => hk) HB.out ?_;(case hcc => exact hccZ);intro w9 hR9 hB9 hg9))
     go_ret
     exact ⟨_,rfl,Kd.R_mono hR9 (fun _ _ => trivial),hB9⟩
    ·have hcc : (c < 0) = False:=eq_false hc0
     rw [if_neg hc0] at h
     obtain rfl:=Option.some.inj h
     clear h
     obtain ⟨y0,y1,y2,y3,y4,y5⟩:=elemZ (Kd.R_reads' HO.out).2.2 j hj hz
     refine start_ (n:=18) (S:=fun w' => w'.cell? ⟨g3,0,none⟩ = some (.string r.f0) ∧ w'.cell? ⟨g3,1,none⟩ = some (.int .i64 r.f1.f0) ∧ w'.cell? ⟨g3,2,none⟩ = some (.int .i64 r.f1.f1) ∧ w'.cell? ⟨g3,3,none⟩ = some (.int .i64 r.f1.f2) ∧ w'.cell? ⟨g3,4,none⟩ = some (.string r.f1.f3) ∧ w'.cell? ⟨g3,5,none⟩ = some (.string r.f1.f4) ∧ w'.cell? (ad.add (j * 6)) = some (.string z.f0) ∧ w'.cell? ⟨(ad.add (j * 6)).block,(ad.add (j * 6)).off + 1,none⟩ = some (.int .i64 z.f1.f0) ∧ w'.cell? ⟨(ad.add (j * 6)).block,(ad.add (j * 6)).off + 2,none⟩ = some (.int .i64 z.f1.f1) ∧ w'.cell? ⟨(ad.add (j * 6)).block,(ad.add (j * 6)).off + 3,none⟩ = some (.int .i64 z.f1.f2) ∧ w'.cell? ⟨(ad.add (j * 6)).block,(ad.add (j * 6)).off + 4,none⟩ = some (.string z.f1.f3) ∧ w'.cell? ⟨(ad.add (j * 6)).block,(ad.add (j * 6)).off + 5,none⟩ = some (.string z.f1.f4)) (ds:=[]) #[false,false,false,false,false,false,false,false,false,false,false,false,false,false,false,false,false,false] q9_ rfl rfl ⟨(blk_cell BK.out 0).trans rfl,(blk_cell BK.out 1).trans rfl,(blk_cell BK.out 2).trans rfl,(blk_cell BK.out 3).trans rfl,(blk_cell BK.out 4).trans rfl,(blk_cell BK.out 5).trans rfl,y0,y1,y2,y3,y4,y5⟩ (fun hHeld => ?_)
     clear y0 y1 y2 y3 y4 y5
     refine pu_ 0 23 ?_
     refine pu_ 1 24 ?_
     refine pu_ 2 25 ?_
     refine tk_ 3 26 hHeld ?_
     refine one_ (i:=4) (N:=some 27) #[true,true,true,true,true,false,false,false,false,false,false,false,false,false,false,false,false,false] rfl rfl q9_ q30_ (fun K hK => ?_)
     refine goes_ Tryz.func59 q9_ rfl #[.agg #[.string z.f0,.int .i64 z.f1.f0,.int .i64 z.f1.f1,.int .i64 z.f1.f2,.string z.f1.f3,.string z.f1.f4]] q55_ rfl rfl q43_ ?_
     (with_reducible refine (mvs_may.calls fuelR z.f0 z.f1.f0 z.f1.f1 z.f1.f2 z.f1.f3 z.f1.f4 true _ hmj ?sideG).mono ?_)
     (case sideG => exact Env.below HE.out HB.out)
     rintro e wq ⟨rfl,hb_⟩
     refine ⟨_,rfl,?_⟩
     replace BK:=Aside0.mk (blk_below BK.out hb_);replace HO:=Aside0.mk (Kd.R_below HO.out hb_);replace HB:=Aside0.mk (below_then HB.out HB.out.size hb_);clear hb_
     obtain ⟨y0,y1,y2,y3,y4,y5⟩:=elemZ (Kd.R_reads' HO.out).2.2 j hj hz
     refine hK.out _ _ ⟨(blk_cell BK.out 0).trans rfl,(blk_cell BK.out 1).trans rfl,(blk_cell BK.out 2).trans rfl,(blk_cell BK.out 3).trans rfl,(blk_cell BK.out 4).trans rfl,(blk_cell BK.out 5).trans rfl,y0,y1,y2,y3,y4,y5⟩ (fun hHeld => ?_)
     clear hK K y0 y1 y2 y3 y4 y5
     refine norm_ (a':=?_) ?_ ?_
     rotate_left
     ·show Act.put _ _ _ = _
      simp only [Act.put,List.setIfInBounds_toArray,List.set_cons_zero,List.set_cons_succ]
      rfl
     refine pu_ 5 28 ?_
     refine pu_ 6 29 ?_
     refine pu_ 7 30 ?_
     refine pu_ 8 31 ?_
     refine pu_ 9 32 ?_
     refine pu_ 10 33 ?_
     refine pu_ 12 35 ?_
     refine tk_ 11 34 hHeld ?_
     refine tk_ 13 36 hHeld ?_
     refine one_ (i:=14) (N:=some 37) #[true,true,true,true,true,true,true,true,true,true,true,true,true,true,true,false,false,false] rfl rfl q9_ q30_ (fun K hK => ?_)
     refine goes_ Tryz.func44 q9_ rfl #[.agg #[.int .i64 z.f1.f0,.int .i64 z.f1.f1,.int .i64 z.f1.f2,.string z.f1.f3,.string z.f1.f4],.agg #[.int .i64 r.f1.f0,.int .i64 r.f1.f1,.int .i64 r.f1.f2,.string r.f1.f3,.string r.f1.f4]] q55_ rfl rfl q43_ ?_
     (with_reducible refine (ver_Compare.calls fuelR z.f1.f0 z.f1.f1 z.f1.f2 z.f1.f3 z.f1.f4 r.f1.f0 r.f1.f1 r.f1.f2 r.f1.f3 r.f1.f4 c _ hcmp ?sideG).mono ?_)
     (case sideG => exact Env.below HE.out HB.out)
     rintro e wk ⟨rfl,hb_⟩
     refine ⟨_,rfl,?_⟩
     replace BK:=Aside0.mk (blk_below BK.out hb_);replace HO:=Aside0.mk (Kd.R_below HO.out hb_);replace HB:=Aside0.mk (below_then HB.out HB.out.size hb_);clear hb_
     obtain ⟨y0,y1,y2,y3,y4,y5⟩:=elemZ (Kd.R_reads' HO.out).2.2 j hj hz
     refine hK.out _ _ ⟨(blk_cell BK.out 0).trans rfl,(blk_cell BK.out 1).trans rfl,(blk_cell BK.out 2).trans rfl,(blk_cell BK.out 3).trans rfl,(blk_cell BK.out 4).trans rfl,(blk_cell BK.out 5).trans rfl,y0,y1,y2,y3,y4,y5⟩ (fun hHeld => ?_)
     clear hK K y0 y1 y2 y3 y4 y5
     refine norm_ (a':=?_) ?_ ?_
     rotate_left
     ·show Act.put _ _ _ = _
      simp only [Act.put,List.setIfInBounds_toArray,List.set_cons_zero,List.set_cons_succ]
      rfl
     refine pu_ 15 38 ?_
     refine pu_ 16 39 ?_
     refine pu_ 17 22 ?_
     refine done_ q9_ ?_
     go_wp2
     go_ret
     exact ⟨_,rfl,Kd.R_mono HO.out (fun _ _ => trivial),HB.out⟩
def mvs_Upgrade.f (l0 : List Req) (a1_0 : ByteArray) (a1_1 : Int) (a1_2 : Int) (a1_3 : Int) (a1_4 : ByteArray) (a1_5 : ByteArray) : Option (List Req):=upP l0 ⟨a1_0,a1_1,a1_2,a1_3,a1_4,a1_5⟩
theorem mvs_Upgrade.calls (A0 : Option Addr) (c0 : Nat) (l0 : List Req) (a1_0 : ByteArray) (a1_1 : Int) (a1_2 : Int) (a1_3 : Int) (a1_4 : ByteArray) (a1_5 : ByteArray) (r : List Req) (w : World) (hr0 : Kd.C k41 w A0 l0.length l0) (hc0 : l0.length ≤ c0) (h : mvs_Upgrade.f l0 a1_0 a1_1 a1_2 a1_3 a1_4 a1_5 = some r) (hG : Env w) :
  Calls Tryz.prog 29 #[.slice A0 l0.length c0,.agg #[.string a1_0,.int .i64 a1_1,.int .i64 a1_2,.int .i64 a1_3,.string a1_4,.string a1_5]] w fun e w' => ∃ v0_ : Value,e = .returned (v0_) ∧ Kd.R k41 41 w' w.heap.size (fun _ => True) v0_ r ∧ Below w.heap.size w w' :=
 up_calls A0 c0 l0 ⟨a1_0,a1_1,a1_2,a1_3,a1_4,a1_5⟩ r w hr0 hc0 h hG
end Go.Proofs.YtennhpoemdaghaaGreatDoor.P
end
section
namespace Go.Proofs.YtennhpoemdaghaaGreatDoor.P
open Go.RowKit Go.Proofs.YtennhpoemdaghaaGreatDoorW.PrintWords Go.Proofs.YtennhpoemdaghaaGreatDoorW.PrintLast Go.Proofs.YtennhpoemdaghaaGreatDoorW.PrintMore
def mvs_Downgrade.l0 : Nat → List (S41) → List (S41) → Int → Int → ByteArray → Int → Int → Int → ByteArray → ByteArray → List (S70) → Option ((List (S41)))
 | 0,_,_,_,_,_,_,_,_,_,_,_ => none
 | k + 1,x8,x20,x21,x22,x107000,x107001,x107002,x107003,x107004,x107005,x107006 => if x22 < x21 then (if 0 ≤ x22 then (if x22 < (x20.length : Int) then ((mvs_bound_out.f x107000 x107001 x107002 x107003 x107004 x107005 x107006 ((rd_T41 x20 x22).f0) ((rd_T41 x20 x22).f1.f0) ((rd_T41 x20 x22).f1.f1) ((rd_T41 x20 x22).f1.f2) ((rd_T41 x20 x22).f1.f3) ((rd_T41 x20 x22).f1.f4)).bind fun t109 => (if t109 = true then ((mvs_bound_lower.f x107000 x107001 x107002 x107003 x107004 x107005 x107006 ((rd_T41 x20 x22).f0) ((rd_T41 x20 x22).f1.f0) ((rd_T41 x20 x22).f1.f1) ((rd_T41 x20 x22).f1.f2) ((rd_T41 x20 x22).f1.f3) ((rd_T41 x20 x22).f1.f4)).bind fun bt110 => (if bt110.2.2.2.2.2.2 = true then (if x8.length < 1954687338268 then (mvs_Downgrade.l0 k (x8 ++ [(⟨bt110.1,(⟨bt110.2.1,bt110.2.2.1,bt110.2.2.2.1,bt110.2.2.2.2.1,bt110.2.2.2.2.2.1⟩ : S24)⟩ : S41)]) x20 x21 (wrap64 (x22 + 1)) x107000 x107001 x107002 x107003 x107004 x107005 x107006) else (none)) else (mvs_Downgrade.l0 k x8 x20 x21 (wrap64 (x22 + 1)) x107000 x107001 x107002 x107003 x107004 x107005 x107006))) else (if x8.length < 1954687338268 then (mvs_Downgrade.l0 k (x8 ++ [(⟨(rd_T41 x20 x22).f0,(⟨(rd_T41 x20 x22).f1.f0,(rd_T41 x20 x22).f1.f1,(rd_T41 x20 x22).f1.f2,(rd_T41 x20 x22).f1.f3,(rd_T41 x20 x22).f1.f4⟩ : S24)⟩ : S41)]) x20 x21 (wrap64 (x22 + 1)) x107000 x107001 x107002 x107003 x107004 x107005 x107006) else (none)))) else (none)) else (none)) else (some x8)
def mvs_Downgrade.f (k : Nat) (l0 : List (S41)) (l1 : List (S70)) (a2_0 : ByteArray) (a2_1 : Int) (a2_2 : Int) (a2_3 : Int) (a2_4 : ByteArray) (a2_5 : ByteArray) : Option ((List (S41))):=(mvs_may.f k a2_0 a2_1 a2_2 a2_3 a2_4 a2_5).bind fun t102 => (if t102 = true then (mvs_Downgrade.l0 k ([] : List (S41)) l0 (l0.length : Int) 0 a2_0 a2_1 a2_2 a2_3 a2_4 a2_5 l1) else ((slices_Clone_apiReq.f l0).bind fun t103 => (some t103)))
theorem mvs_Downgrade.mono_l : ∀ k,(∀ y0 y1 y2 y3 y4 y5 y6 y7 y8 y9 y10,LeO (mvs_Downgrade.l0 k y0 y1 y2 y3 y4 y5 y6 y7 y8 y9 y10) (mvs_Downgrade.l0 (k + 1) y0 y1 y2 y3 y4 y5 y6 y7 y8 y9 y10))
 | 0 => fun _ _ _ _ _ _ _ _ _ _ _ r h => by simp [mvs_Downgrade.l0] at h
 | k + 1 => by
  have ih0:=mvs_Downgrade.mono_l k
  ·intro y0 y1 y2 y3 y4 y5 y6 y7 y8 y9 y10
   unfold mvs_Downgrade.l0
   repeat' first
   | (with_reducible exact ih0 _ _ _ _ _ _ _ _ _ _ _)
   | (with_reducible exact mvs_may.mono _ _ _ _ _ _ _)
   | (with_reducible exact LeO.refl _)
   | (with_reducible exact LeO.none _)
   | (with_reducible refine LeO.ite ?_ ?_)
   | (with_reducible refine LeO.bind ?_ (fun _ => ?_))
   | exact ih0 _ _ _ _ _ _ _ _ _ _ _
   | exact mvs_may.mono _ _ _ _ _ _ _
   | exact LeO.none _
   | refine LeO.ite ?_ ?_
   | refine LeO.bind ?_ (fun _ => ?_)
theorem mvs_Downgrade.mono : ∀ a0 a1 a2 a3 a4 a5 a6 a7 k,LeO (mvs_Downgrade.f k a0 a1 a2 a3 a4 a5 a6 a7) (mvs_Downgrade.f (k + 1) a0 a1 a2 a3 a4 a5 a6 a7):=by
 intro a0 a1 a2 a3 a4 a5 a6 a7 k
 have ih0:=mvs_Downgrade.mono_l k
 unfold mvs_Downgrade.f
 repeat' first
   | (with_reducible exact ih0 _ _ _ _ _ _ _ _ _ _ _)
   | (with_reducible exact mvs_may.mono _ _ _ _ _ _ _)
   | (with_reducible exact LeO.refl _)
   | (with_reducible exact LeO.none _)
   | (with_reducible refine LeO.ite ?_ ?_)
   | (with_reducible refine LeO.bind ?_ (fun _ => ?_))
   | exact ih0 _ _ _ _ _ _ _ _ _ _ _
   | exact mvs_may.mono _ _ _ _ _ _ _
   | exact LeO.none _
   | refine LeO.ite ?_ ?_
   | refine LeO.bind ?_ (fun _ => ?_)
set_option maxHeartbeats 8000000 in
set_option maxRecDepth 100000 in
theorem mvs_Downgrade.calls (k : Nat) (A0 : Option Addr) (c0 : Nat) (l0 : List (S41)) (A1 : Option Addr) (c1 : Nat) (l1 : List (S70)) (a2_0 : ByteArray) (a2_1 : Int) (a2_2 : Int) (a2_3 : Int) (a2_4 : ByteArray) (a2_5 : ByteArray) (r : List (S41)) (w : World) (hr0 : Kd.C k41 w A0 l0.length l0) (hc0 : l0.length ≤ c0) (hr1 : Kd.C k70 w A1 l1.length l1) (hc1 : l1.length ≤ c1) (h : mvs_Downgrade.f k l0 l1 a2_0 a2_1 a2_2 a2_3 a2_4 a2_5 = some r) (hG : Env w) :
  Calls Tryz.prog 31 #[.slice A0 l0.length c0,.slice A1 l1.length c1,.agg #[.string a2_0,.int .i64 a2_1,.int .i64 a2_2,.int .i64 a2_3,.string a2_4,.string a2_5]] w fun e w' => ∃ v0_ : Value,e = .returned (v0_) ∧ Kd.R k41 41 w' w.heap.size (fun _ => True) v0_ r ∧ Below w.heap.size w w':=by
 have HG:=Aside0.mk hG
 clear hG
 have hu41:=Tryz.underlying41
 have hu91:=Tryz.underlying91
 have HR0:=Aside0.mk hr0
 have HC0:=Aside0.mk hc0
 clear hr0 hc0
 have HR1:=Aside0.mk hr1
 have HC1:=Aside0.mk hc1
 clear hr1 hc1
 have HB:=Aside0.mk (Below.refl w.heap.size w)
 have H : ((mvs_may.f k a2_0 a2_1 a2_2 a2_3 a2_4 a2_5).bind fun t102 => (if t102 = true then (mvs_Downgrade.l0 k ([] : List (S41)) l0 (l0.length : Int) 0 a2_0 a2_1 a2_2 a2_3 a2_4 a2_5 l1) else ((slices_Clone_apiReq.f l0).bind fun t103 => (some t103)))) = some r:=h
 clear h
 obtain ⟨t102,A40,H⟩:=Option.bind_eq_some_iff.mp H
 have A4:=Aside0.mk A40
 clear A40
 by_cases c5 : t102 = true
 ·subst c5
  rw [if_pos rfl] at H
  have H':=Aside0.mk H
  clear H
  go_enter Tryz.func31,Tryz.ntmps31
  go_wp2_with (first | ((with_reducible refine gate_dst (N:=5) rfl ?_);refine bx_ 5 41 #[.string a2_0,.int .i64 a2_1,.int .i64 a2_2,.int .i64 a2_3,.string a2_4,.string a2_5] ?_;intro gb101 hg w6 hbox hb;have BK101:=Aside0.mk (hbox);have GW101:=Aside0.mk ((q17_ : w.heap.size ≤ gb101));have GE101:=Aside0.mk ((q17_ : w.heap.size ≤ gb101));replace HB:=Aside0.mk (below_step bh_ hb);clear hb hbox hg;have hcz7_0 : w6.cell? ⟨gb101,0,none⟩ = some (.string a2_0):=(blk_cell BK101.out 0).trans rfl;have hcz7_1 : w6.cell? ⟨gb101,1,none⟩ = some (.int .i64 a2_1):=(blk_cell BK101.out 1).trans rfl;have hcz7_2 : w6.cell? ⟨gb101,2,none⟩ = some (.int .i64 a2_2):=(blk_cell BK101.out 2).trans rfl;have hcz7_3 : w6.cell? ⟨gb101,3,none⟩ = some (.int .i64 a2_3):=(blk_cell BK101.out 3).trans rfl;have hcz7_4 : w6.cell? ⟨gb101,4,none⟩ = some (.string a2_4):=(blk_cell BK101.out 4).trans rfl;have hcz7_5 : w6.cell? ⟨gb101,5,none⟩ = some (.string a2_5):=(blk_cell BK101.out 5).trans rfl;have hfz7_0:=blk_frozen BK101.out 0;have hfz7_1:=blk_frozen BK101.out 1;have hfz7_2:=blk_frozen BK101.out 2;have hfz7_3:=blk_frozen BK101.out 3;have hfz7_4:=blk_frozen BK101.out 4;have hfz7_5:=blk_frozen BK101.out 5) | ((with_reducible refine gate_callee (f:=59) rfl ?_);refine gl_ 13 Tryz.func59 #[.agg #[.string a2_0,.int .i64 a2_1,.int .i64 a2_2,.int .i64 a2_3,.string a2_4,.string a2_5]] ?_;(with_reducible refine (mvs_may.calls k a2_0 a2_1 a2_2 a2_3 a2_4 a2_5 true _ A4.out ?sideG).mono ?_);(case sideG => first | exact HG.out | exact Env.below HG.out bh_);rintro e w8 ⟨rfl,hb⟩;refine ⟨_,rfl,?_⟩;replace BK101:=Aside0.mk (blk_below bk101_ hb);replace HB:=Aside0.mk (below_step bh_ hb);(try clear hb);have hcz9_0 : w8.cell? ⟨gb101,0,none⟩ = some (.string a2_0):=(blk_cell BK101.out 0).trans rfl;have hcz9_1 : w8.cell? ⟨gb101,1,none⟩ = some (.int .i64 a2_1):=(blk_cell BK101.out 1).trans rfl;have hcz9_2 : w8.cell? ⟨gb101,2,none⟩ = some (.int .i64 a2_2):=(blk_cell BK101.out 2).trans rfl;have hcz9_3 : w8.cell? ⟨gb101,3,none⟩ = some (.int .i64 a2_3):=(blk_cell BK101.out 3).trans rfl;have hcz9_4 : w8.cell? ⟨gb101,4,none⟩ = some (.string a2_4):=(blk_cell BK101.out 4).trans rfl;have hcz9_5 : w8.cell? ⟨gb101,5,none⟩ = some (.string a2_5):=(blk_cell BK101.out 5).trans rfl;have hfz9_0:=blk_frozen BK101.out 0;have hfz9_1:=blk_frozen BK101.out 1;have hfz9_2:=blk_frozen BK101.out 2;have hfz9_3:=blk_frozen BK101.out 3;have hfz9_4:=blk_frozen BK101.out 4;have hfz9_5:=blk_frozen BK101.out 5) | ((with_reducible refine gate_dst (N:=7) rfl ?_);refine bx_ 7 91 #[.string (⟨#[]⟩ : ByteArray),.int .i64 0,.int .i64 0,.int .i64 0,.string (⟨#[]⟩ : ByteArray),.string (⟨#[]⟩ : ByteArray),.slice none 0 0] ?_;intro gb106 hg w10 hbox hb;have BK106:=Aside0.mk (hbox);have GW106:=Aside0.mk ((q17_ : w.heap.size ≤ gb106));have GE106:=Aside0.mk ((q17_ : w.heap.size ≤ gb106));replace HB:=Aside0.mk (below_step bh_ hb);have NB101_106:=Aside0.mk ((q48_ : gb101 ≠ gb106));have NB106_101:=Aside0.mk ((q49_ : gb106 ≠ gb101));replace BK101:=Aside0.mk (blk_below bk101_ hb);clear hb hbox hg;have hnb11:=NB106_101.out;have hnc11:=NB101_106.out;have hcz12_0 : w10.cell? ⟨gb106,0,none⟩ = some (.string (⟨#[]⟩ : ByteArray)):=(blk_cell BK106.out 0).trans rfl;have hcz12_1 : w10.cell? ⟨gb106,1,none⟩ = some (.int .i64 0):=(blk_cell BK106.out 1).trans rfl;have hcz12_2 : w10.cell? ⟨gb106,2,none⟩ = some (.int .i64 0):=(blk_cell BK106.out 2).trans rfl;have hcz12_3 : w10.cell? ⟨gb106,3,none⟩ = some (.int .i64 0):=(blk_cell BK106.out 3).trans rfl;have hcz12_4 : w10.cell? ⟨gb106,4,none⟩ = some (.string (⟨#[]⟩ : ByteArray)):=(blk_cell BK106.out 4).trans rfl;have hcz12_5 : w10.cell? ⟨gb106,5,none⟩ = some (.string (⟨#[]⟩ : ByteArray)):=(blk_cell BK106.out 5).trans rfl;have hcz12_6 : w10.cell? ⟨gb106,6,none⟩ = some (.slice none 0 0):=(blk_cell BK106.out 6).trans rfl;have hfz12_0:=blk_frozen BK106.out 0;have hfz12_1:=blk_frozen BK106.out 1;have hfz12_2:=blk_frozen BK106.out 2;have hfz12_3:=blk_frozen BK106.out 3;have hfz12_4:=blk_frozen BK106.out 4;have hfz12_5:=blk_frozen BK106.out 5;have hfz12_6:=blk_frozen BK106.out 6))
  go_loopg [8,22] k (fun kq v8 v22 w' => ∃ (x8_1 : List (S41)) (x22_1 : Int),v22 = .int .i64 x22_1 ∧ Aside0 (mvs_Downgrade.l0 kq x8_1 l0 (l0.length : Int) x22_1 a2_0 a2_1 a2_2 a2_3 a2_4 a2_5 l1 = some r) ∧ Aside0 (kq ≤ k) ∧ Aside0 (Kd.R k41 41 w' w.heap.size (fun k_ => k_ ≠ gb101) v8 x8_1) ∧ Aside0 (w'.heap[gb101]? = some (.cells #[.string a2_0,.int .i64 a2_1,.int .i64 a2_2,.int .i64 a2_3,.string a2_4,.string a2_5] 41 (0,0))) ∧ Aside0 (w'.heap[gb106]? = some (.cells #[.string a2_0,.int .i64 a2_1,.int .i64 a2_2,.int .i64 a2_3,.string a2_4,.string a2_5,(.slice A1 l1.length c1)] 91 (0,0))) ∧ Aside0 (Below w.heap.size w w'))
  case atStart => exact ⟨(([] : List (S41))),(0),q12_,H',⟨Nat.le_refl _⟩,⟨by first | exact Kd.R_nil _ _ _ _ _ | exact Kd.N_nil _ _ _ _ _ | exact Kd.V_nil _ _ _ _ _ | exact Kd.Q_nil _ _ _ _ _ | exact Kd.S_nil _ _ _ _ _⟩,⟨by (with_reducible repeat (first | refine blk_drewN ?_ _ | refine blk_drew ?_ | refine blk_alloc ?_ _));refine blk_far ?_ NB101_106.out _;(with_reducible repeat (first | refine blk_drewN ?_ _ | refine blk_drew ?_ | refine blk_alloc ?_ _));refine blk_far ?_ NB101_106.out _;(with_reducible repeat (first | refine blk_drewN ?_ _ | refine blk_drew ?_ | refine blk_alloc ?_ _));refine blk_far ?_ NB101_106.out _;(with_reducible repeat (first | refine blk_drewN ?_ _ | refine blk_drew ?_ | refine blk_alloc ?_ _));refine blk_far ?_ NB101_106.out _;(with_reducible repeat (first | refine blk_drewN ?_ _ | refine blk_drew ?_ | refine blk_alloc ?_ _));refine blk_far ?_ NB101_106.out _;(with_reducible repeat (first | refine blk_drewN ?_ _ | refine blk_drew ?_ | refine blk_alloc ?_ _));refine blk_far ?_ NB101_106.out _;(with_reducible repeat (first | refine blk_drewN ?_ _ | refine blk_drew ?_ | refine blk_alloc ?_ _));refine blk_far ?_ NB101_106.out _;(with_reducible repeat (first | refine blk_drewN ?_ _ | refine blk_drew ?_ | refine blk_alloc ?_ _));exact BK101.out⟩,⟨by (with_reducible repeat (first | refine blk_drewN ?_ _ | refine blk_drew ?_ | refine blk_alloc ?_ _));refine blk_put (cs:=#[.string a2_0,.int .i64 a2_1,.int .i64 a2_2,.int .i64 a2_3,.string a2_4,.string a2_5,.slice none 0 0]) ?_ 6 _ rfl;(with_reducible repeat (first | refine blk_drewN ?_ _ | refine blk_drew ?_ | refine blk_alloc ?_ _));refine blk_put (cs:=#[.string a2_0,.int .i64 a2_1,.int .i64 a2_2,.int .i64 a2_3,.string a2_4,.string (⟨#[]⟩ : ByteArray),.slice none 0 0]) ?_ 5 _ rfl;(with_reducible repeat (first | refine blk_drewN ?_ _ | refine blk_drew ?_ | refine blk_alloc ?_ _));refine blk_put (cs:=#[.string a2_0,.int .i64 a2_1,.int .i64 a2_2,.int .i64 a2_3,.string (⟨#[]⟩ : ByteArray),.string (⟨#[]⟩ : ByteArray),.slice none 0 0]) ?_ 4 _ rfl;(with_reducible repeat (first | refine blk_drewN ?_ _ | refine blk_drew ?_ | refine blk_alloc ?_ _));refine blk_put (cs:=#[.string a2_0,.int .i64 a2_1,.int .i64 a2_2,.int .i64 0,.string (⟨#[]⟩ : ByteArray),.string (⟨#[]⟩ : ByteArray),.slice none 0 0]) ?_ 3 _ rfl;(with_reducible repeat (first | refine blk_drewN ?_ _ | refine blk_drew ?_ | refine blk_alloc ?_ _));refine blk_put (cs:=#[.string a2_0,.int .i64 a2_1,.int .i64 0,.int .i64 0,.string (⟨#[]⟩ : ByteArray),.string (⟨#[]⟩ : ByteArray),.slice none 0 0]) ?_ 2 _ rfl;(with_reducible repeat (first | refine blk_drewN ?_ _ | refine blk_drew ?_ | refine blk_alloc ?_ _));refine blk_put (cs:=#[.string a2_0,.int .i64 0,.int .i64 0,.int .i64 0,.string (⟨#[]⟩ : ByteArray),.string (⟨#[]⟩ : ByteArray),.slice none 0 0]) ?_ 1 _ rfl;(with_reducible repeat (first | refine blk_drewN ?_ _ | refine blk_drew ?_ | refine blk_alloc ?_ _));refine blk_put (cs:=#[.string (⟨#[]⟩ : ByteArray),.int .i64 0,.int .i64 0,.int .i64 0,.string (⟨#[]⟩ : ByteArray),.string (⟨#[]⟩ : ByteArray),.slice none 0 0]) ?_ 0 _ rfl;(with_reducible repeat (first | refine blk_drewN ?_ _ | refine blk_drew ?_ | refine blk_alloc ?_ _));exact BK106.out⟩,⟨by repeat (first | (with_reducible first | exact HB.out | apply below_alloc | apply pw_below_drewN | apply below_drew1 | refine below_set ?_ GE101.out | refine below_set ?_ GE106.out) | exact HB.out)⟩⟩
  case round =>
   clear H'
   try clear c1
   try clear p2
   try clear c3
   try clear c5
   try clear c11
   try clear hcz12_0
   try clear hcz12_1
   try clear hcz12_2
   try clear hcz12_3
   try clear hcz12_4
   try clear hcz12_5
   try clear hcz12_6
   try clear hcz7_0
   try clear hcz7_1
   try clear hcz7_2
   try clear hcz7_3
   try clear hcz7_4
   try clear hcz7_5
   try clear hcz9_0
   try clear hcz9_1
   try clear hcz9_2
   try clear hcz9_3
   try clear hcz9_4
   try clear hcz9_5
   try clear hfz12_0
   try clear hfz12_1
   try clear hfz12_2
   try clear hfz12_3
   try clear hfz12_4
   try clear hfz12_5
   try clear hfz12_6
   try clear hfz7_0
   try clear hfz7_1
   try clear hfz7_2
   try clear hfz7_3
   try clear hfz7_4
   try clear hfz7_5
   try clear hfz9_0
   try clear hfz9_1
   try clear hfz9_2
   try clear hfz9_3
   try clear hfz9_4
   try clear hfz9_5
   obtain ⟨x8_1,x22_1,rfl,HA,HK1,HO_8,BK101,BK106,HB⟩:=hrel
   cases gk with
   | zero => exact absurd HA.out (by simp [mvs_Downgrade.l0])
   | succ k1 =>
    have H:=HA.out
    clear HA
    simp only [mvs_Downgrade.l0] at H
    by_cases c13 : x22_1 < (l0.length : Int)
    ·rw [if_pos c13] at H
     have c13b0:=decide_eq_true c13
     clear c13
     by_cases c14 : 0 ≤ x22_1
     ·rw [if_pos c14] at H
      have c14b0:=decide_eq_true c14
      clear c14
      by_cases c15 : x22_1 < (l0.length : Int)
      ·rw [if_pos c15] at H
       have c15b0:=decide_eq_true c15
       clear c15
       obtain ⟨t109,A160,H⟩:=Option.bind_eq_some_iff.mp H
       have A16:=Aside0.mk A160
       clear A160
       by_cases c17 : t109 = true
       ·subst c17
        rw [if_pos rfl] at H
        obtain ⟨⟨t110,t111,t112,t113,t114,t115,t116⟩,A180,H⟩:=Option.bind_eq_some_iff.mp H
        dsimp only at H
        have A18:=Aside0.mk A180
        clear A180
        by_cases c19 : t116 = true
        ·subst c19
         rw [if_pos rfl] at H
         by_cases c20 : x8_1.length < 1954687338268
         ·rw [if_pos c20] at H
          have LMc20:=Aside0.mk c20
          clear c20
          obtain ⟨y117,hy117⟩ : ∃ y_ : List (S41),y_ = (x8_1 ++ [(⟨t110,(⟨t111,t112,t113,t114,t115⟩ : S24)⟩ : S41)]):=⟨_,rfl⟩
          replace H : (mvs_Downgrade.l0 k1 y117 l0 (l0.length : Int) (wrap64 (x22_1 + 1)) a2_0 a2_1 a2_2 a2_3 a2_4 a2_5 l1) = some r:=by first | (rw [hy117];with_reducible exact H) | (have H2_:=(Option.bind_some _ _).symm.trans H;rw [hy117];with_reducible exact H2_) | (have H2_:=(Option.bind_some _ _).symm.trans H;with_reducible exact H2_) | with_reducible exact H | (rw [hy117];exact H) | exact H
          have Ny117:=Aside0.mk hy117
          clear hy117
          have H':=Aside0.mk H
          clear H
          have p107 : 0 ≤ (x22_1 : Int):=of_decide_eq_true q1_
          have q107 : x22_1 < (l0.length : Int):=of_decide_eq_true q1_
          obtain ⟨ad107,e107,hx107_0,hx107_1,hx107_2,hx107_3,hx107_4,hx107_5⟩:=at_T41 HR0.out x22_1 p107 q107
          cases e107
          replace hx107_0:=cl_ HB.out hx107_0
          replace hx107_1:=cl_ HB.out hx107_1
          replace hx107_2:=cl_ HB.out hx107_2
          replace hx107_3:=cl_ HB.out hx107_3
          replace hx107_4:=cl_ HB.out hx107_4
          replace hx107_5:=cl_ HB.out hx107_5
          replace p107:=eq_true p107
          replace q107:=eq_true q107
          go_wp2_with (first | ((with_reducible refine gate_dst (N:=10) rfl ?_);refine bx_ 10 41 #[.string (⟨#[]⟩ : ByteArray),.int .i64 0,.int .i64 0,.int .i64 0,.string (⟨#[]⟩ : ByteArray),.string (⟨#[]⟩ : ByteArray)] ?_;intro gb108 hg w21 hbox hb;replace HO_8:=Aside0.mk (Kd.R_below (Kd.R_elderB q22_ gb108 (Nat.le_of_eq hg.symm)) hb);have BK108:=Aside0.mk (hbox);have GW108:=Aside0.mk ((q17_ : w.heap.size ≤ gb108));have GE108:=Aside0.mk ((q17_ : w.heap.size ≤ gb108));replace HB:=Aside0.mk (below_step bh_ hb);have NB101_108:=Aside0.mk ((q48_ : gb101 ≠ gb108));have NB108_101:=Aside0.mk ((q49_ : gb108 ≠ gb101));replace BK101:=Aside0.mk (blk_below bk101_ hb);have NB106_108:=Aside0.mk ((q62_ : gb106 ≠ gb108));have NB108_106:=Aside0.mk ((q63_ : gb108 ≠ gb106));replace BK106:=Aside0.mk (blk_below bk106_ hb);clear hb hbox hg;have hnb22:=NB108_101.out;have hnc22:=NB101_108.out;have hnb23:=NB108_106.out;have hnc23:=NB106_108.out;have hcz24_0 : w21.cell? ⟨gb108,0,none⟩ = some (.string (⟨#[]⟩ : ByteArray)):=(blk_cell BK108.out 0).trans rfl;have hcz24_1 : w21.cell? ⟨gb108,1,none⟩ = some (.int .i64 0):=(blk_cell BK108.out 1).trans rfl;have hcz24_2 : w21.cell? ⟨gb108,2,none⟩ = some (.int .i64 0):=(blk_cell BK108.out 2).trans rfl;have hcz24_3 : w21.cell? ⟨gb108,3,none⟩ = some (.int .i64 0):=(blk_cell BK108.out 3).trans rfl;have hcz24_4 : w21.cell? ⟨gb108,4,none⟩ = some (.string (⟨#[]⟩ : ByteArray)):=(blk_cell BK108.out 4).trans rfl;have hcz24_5 : w21.cell? ⟨gb108,5,none⟩ = some (.string (⟨#[]⟩ : ByteArray)):=(blk_cell BK108.out 5).trans rfl;have hfz24_0:=blk_frozen BK108.out 0;have hfz24_1:=blk_frozen BK108.out 1;have hfz24_2:=blk_frozen BK108.out 2;have hfz24_3:=blk_frozen BK108.out 3;have hfz24_4:=blk_frozen BK108.out 4;have hfz24_5:=blk_frozen BK108.out 5;have hnb25:=NB106_101.out;have hnc25:=NB101_106.out;have hcz26_0 : w21.cell? ⟨gb106,0,none⟩ = some (.string a2_0):=(blk_cell BK106.out 0).trans rfl;have hcz26_1 : w21.cell? ⟨gb106,1,none⟩ = some (.int .i64 a2_1):=(blk_cell BK106.out 1).trans rfl;have hcz26_2 : w21.cell? ⟨gb106,2,none⟩ = some (.int .i64 a2_2):=(blk_cell BK106.out 2).trans rfl;have hcz26_3 : w21.cell? ⟨gb106,3,none⟩ = some (.int .i64 a2_3):=(blk_cell BK106.out 3).trans rfl;have hcz26_4 : w21.cell? ⟨gb106,4,none⟩ = some (.string a2_4):=(blk_cell BK106.out 4).trans rfl;have hcz26_5 : w21.cell? ⟨gb106,5,none⟩ = some (.string a2_5):=(blk_cell BK106.out 5).trans rfl;have hcz26_6 : w21.cell? ⟨gb106,6,none⟩ = some (.slice A1 l1.length c1):=(blk_cell BK106.out 6).trans rfl;have hfz26_0:=blk_frozen BK106.out 0;have hfz26_1:=blk_frozen BK106.out 1;have hfz26_2:=blk_frozen BK106.out 2;have hfz26_3:=blk_frozen BK106.out 3;have hfz26_4:=blk_frozen BK106.out 4;have hfz26_5:=blk_frozen BK106.out 5;have hfz26_6:=blk_frozen BK106.out 6) | ((with_reducible refine gate_callee (f:=62) rfl ?_);refine gl_ 28 Tryz.func62 #[.agg #[.string a2_0,.int .i64 a2_1,.int .i64 a2_2,.int .i64 a2_3,.string a2_4,.string a2_5,.slice A1 l1.length c1],.agg #[.string ((rd_T41 l0 x22_1).f0),.int .i64 ((rd_T41 l0 x22_1).f1.f0),.int .i64 ((rd_T41 l0 x22_1).f1.f1),.int .i64 ((rd_T41 l0 x22_1).f1.f2),.string ((rd_T41 l0 x22_1).f1.f3),.string ((rd_T41 l0 x22_1).f1.f4)]] ?_;(with_reducible refine (mvs_bound_out.calls a2_0 a2_1 a2_2 a2_3 a2_4 a2_5 _ _ l1 ((rd_T41 l0 x22_1).f0) ((rd_T41 l0 x22_1).f1.f0) ((rd_T41 l0 x22_1).f1.f1) ((rd_T41 l0 x22_1).f1.f2) ((rd_T41 l0 x22_1).f1.f3) ((rd_T41 l0 x22_1).f1.f4) true _ ?side1 ?side2 A16.out ?sideG).mono ?_);(case sideG => first | exact HG.out | exact Env.below HG.out bh_);(case side1 => exact Kd.C_below HR1.out bh_);(case side2 => exact HC1.out);rintro e w27 ⟨rfl,hb⟩;refine ⟨_,rfl,?_⟩;replace HO_8:=Aside0.mk (Kd.R_below q18_ hb);replace BK101:=Aside0.mk (blk_below (g:=gb101) (o:=.cells #[.string a2_0,.int .i64 a2_1,.int .i64 a2_2,.int .i64 a2_3,.string a2_4,.string a2_5] 41 (0,0)) q7_ hb);replace BK106:=Aside0.mk (blk_below (g:=gb106) (o:=.cells #[.string a2_0,.int .i64 a2_1,.int .i64 a2_2,.int .i64 a2_3,.string a2_4,.string a2_5,.slice A1 l1.length c1] 91 (0,0)) q10_ hb);replace BK108:=Aside0.mk (blk_below (g:=gb108) (o:=.cells #[.string ((rd_T41 l0 x22_1).f0),.int .i64 ((rd_T41 l0 x22_1).f1.f0),.int .i64 ((rd_T41 l0 x22_1).f1.f1),.int .i64 ((rd_T41 l0 x22_1).f1.f2),.string ((rd_T41 l0 x22_1).f1.f3),.string ((rd_T41 l0 x22_1).f1.f4)] 41 (0,0)) q6_ hb);replace HB:=Aside0.mk (below_step bh_ hb);(try clear hb);(try clear hb2);(try clear hk);(try clear hi);have hcz28_0 : w27.cell? ⟨gb106,0,none⟩ = some (.string a2_0):=(blk_cell BK106.out 0).trans rfl;have hcz28_1 : w27.cell? ⟨gb106,1,none⟩ = some (.int .i64 a2_1):=(blk_cell BK106.out 1).trans rfl;have hcz28_2 : w27.cell? ⟨gb106,2,none⟩ = some (.int .i64 a2_2):=(blk_cell BK106.out 2).trans rfl;have hcz28_3 : w27.cell? ⟨gb106,3,none⟩ = some (.int .i64 a2_3):=(blk_cell BK106.out 3).trans rfl;have hcz28_4 : w27.cell? ⟨gb106,4,none⟩ = some (.string a2_4):=(blk_cell BK106.out 4).trans rfl;have hcz28_5 : w27.cell? ⟨gb106,5,none⟩ = some (.string a2_5):=(blk_cell BK106.out 5).trans rfl;have hcz28_6 : w27.cell? ⟨gb106,6,none⟩ = some (.slice A1 l1.length c1):=(blk_cell BK106.out 6).trans rfl;have hfz28_0:=blk_frozen BK106.out 0;have hfz28_1:=blk_frozen BK106.out 1;have hfz28_2:=blk_frozen BK106.out 2;have hfz28_3:=blk_frozen BK106.out 3;have hfz28_4:=blk_frozen BK106.out 4;have hfz28_5:=blk_frozen BK106.out 5;have hfz28_6:=blk_frozen BK106.out 6;have hcz29_0 : w27.cell? ⟨gb108,0,none⟩ = some (.string ((rd_T41 l0 x22_1).f0)):=(blk_cell BK108.out 0).trans rfl;have hcz29_1 : w27.cell? ⟨gb108,1,none⟩ = some (.int .i64 ((rd_T41 l0 x22_1).f1.f0)):=(blk_cell BK108.out 1).trans rfl;have hcz29_2 : w27.cell? ⟨gb108,2,none⟩ = some (.int .i64 ((rd_T41 l0 x22_1).f1.f1)):=(blk_cell BK108.out 2).trans rfl;have hcz29_3 : w27.cell? ⟨gb108,3,none⟩ = some (.int .i64 ((rd_T41 l0 x22_1).f1.f2)):=(blk_cell BK108.out 3).trans rfl;have hcz29_4 : w27.cell? ⟨gb108,4,none⟩ = some (.string ((rd_T41 l0 x22_1).f1.f3)):=(blk_cell BK108.out 4).trans rfl;have hcz29_5 : w27.cell? ⟨gb108,5,none⟩ = some (.string ((rd_T41 l0 x22_1).f1.f4)):=(blk_cell BK108.out 5).trans rfl;have hfz29_0:=blk_frozen BK108.out 0;have hfz29_1:=blk_frozen BK108.out 1;have hfz29_2:=blk_frozen BK108.out 2;have hfz29_3:=blk_frozen BK108.out 3;have hfz29_4:=blk_frozen BK108.out 4;have hfz29_5:=blk_frozen BK108.out 5) | ((with_reducible refine gate_callee (f:=63) rfl ?_);refine gl_ 32 Tryz.func63 #[.agg #[.string a2_0,.int .i64 a2_1,.int .i64 a2_2,.int .i64 a2_3,.string a2_4,.string a2_5,.slice A1 l1.length c1],.agg #[.string ((rd_T41 l0 x22_1).f0),.int .i64 ((rd_T41 l0 x22_1).f1.f0),.int .i64 ((rd_T41 l0 x22_1).f1.f1),.int .i64 ((rd_T41 l0 x22_1).f1.f2),.string ((rd_T41 l0 x22_1).f1.f3),.string ((rd_T41 l0 x22_1).f1.f4)]] ?_;(with_reducible refine (mvs_bound_lower.calls a2_0 a2_1 a2_2 a2_3 a2_4 a2_5 _ _ l1 ((rd_T41 l0 x22_1).f0) ((rd_T41 l0 x22_1).f1.f0) ((rd_T41 l0 x22_1).f1.f1) ((rd_T41 l0 x22_1).f1.f2) ((rd_T41 l0 x22_1).f1.f3) ((rd_T41 l0 x22_1).f1.f4) t110 t111 t112 t113 t114 t115 true _ ?side1 ?side2 A18.out ?sideG).mono ?_);(case sideG => first | exact HG.out | exact Env.below HG.out bh_);(case side1 => repeat (first | exact (Kd.C_below HR1.out HB.out) | (with_reducible refine Kd.C_alloc ?_ _) | (with_reducible refine Kd.C_drewN ?_ _) | (with_reducible refine Kd.C_drew ?_)));(case side2 => exact HC1.out);rintro e w30 ⟨rfl,hb⟩;refine ⟨_,rfl,?_⟩;replace HO_8:=Aside0.mk (Kd.R_below q22_ hb);replace BK101:=Aside0.mk (blk_below bk101_ hb);replace BK106:=Aside0.mk (blk_below bk106_ hb);replace BK108:=Aside0.mk (blk_below bk108_ hb);replace HB:=Aside0.mk (below_step bh_ hb);(try clear hb);have hcz31_0 : w30.cell? ⟨gb108,0,none⟩ = some (.string ((rd_T41 l0 x22_1).f0)):=(blk_cell BK108.out 0).trans rfl;have hcz31_1 : w30.cell? ⟨gb108,1,none⟩ = some (.int .i64 ((rd_T41 l0 x22_1).f1.f0)):=(blk_cell BK108.out 1).trans rfl;have hcz31_2 : w30.cell? ⟨gb108,2,none⟩ = some (.int .i64 ((rd_T41 l0 x22_1).f1.f1)):=(blk_cell BK108.out 2).trans rfl;have hcz31_3 : w30.cell? ⟨gb108,3,none⟩ = some (.int .i64 ((rd_T41 l0 x22_1).f1.f2)):=(blk_cell BK108.out 3).trans rfl;have hcz31_4 : w30.cell? ⟨gb108,4,none⟩ = some (.string ((rd_T41 l0 x22_1).f1.f3)):=(blk_cell BK108.out 4).trans rfl;have hcz31_5 : w30.cell? ⟨gb108,5,none⟩ = some (.string ((rd_T41 l0 x22_1).f1.f4)):=(blk_cell BK108.out 5).trans rfl;have hfz31_0:=blk_frozen BK108.out 0;have hfz31_1:=blk_frozen BK108.out 1;have hfz31_2:=blk_frozen BK108.out 2;have hfz31_3:=blk_frozen BK108.out 3;have hfz31_4:=blk_frozen BK108.out 4;have hfz31_5:=blk_frozen BK108.out 5) | ((with_reducible refine gate_builtin (b:=.append) (xs:=#[.tmp 36,.tmp 38]) rfl ?_);at_builtin;refine Kd.R_append k41 (w0:=w) w.heap.size rfl (.tmp 36) (.tmp 38) 38 41 (.agg #[(.string ⟨#[]⟩),(.int .i64 0),(.int .i64 0),(.int .i64 0),(.string ⟨#[]⟩),(.string ⟨#[]⟩)]) 72 rfl Tryz.underlying38 info41 rfl q30_ q5_ u8 x8_1 (⟨t110,(⟨t111,t112,t113,t114,t115⟩ : S24)⟩ : S41) [.string t110,.int .i64 t111,.int .i64 t112,.int .i64 t113,.string t114,.string t115] (fun k_ => k_ ≠ gb101 ∧ k_ ≠ gb108) (fun _ => False) rfl (by first | (go_simp;done) | (go_simp;rfl)) ?aP (fun _ hk => hk.elim) ?aF ?aO ?aB ?aS ?aL ?_;(case aP => exact k41_mkM _ _ _ (⟨t110,(⟨t111,t112,t113,t114,t115⟩ : S24)⟩ : S41));(case aB => exact bh_);(case aF => exact (fun k_ hk => ⟨Kd.freshB (g:=gb101) (o:=.cells #[.string a2_0,.int .i64 a2_1,.int .i64 a2_2,.int .i64 a2_3,.string a2_4,.string a2_5] 41 (0,0)) q7_ k_ hk,Kd.freshB (g:=gb108) (o:=.cells #[.string t110,.int .i64 t111,.int .i64 t112,.int .i64 t113,.string t114,.string t115] 41 (0,0)) q16_ k_ hk⟩));(case aO => exact (by (with_reducible repeat (first | apply Kd.R_alloc | apply Kd.R_drewN | apply Kd.R_drew));exact Kd.R_mono (Kd.R_far (p:=⟨gb108,5,none⟩) (Kd.R_far (p:=⟨gb108,4,none⟩) (Kd.R_far (p:=⟨gb108,3,none⟩) (Kd.R_far (p:=⟨gb108,2,none⟩) (Kd.R_far (p:=⟨gb108,1,none⟩) (Kd.R_far (p:=⟨gb108,0,none⟩) (Kd.R_mono HO_8.out (fun k_ hk => (⟨hk,hk.2⟩ : _ ∧ k_ ≠ gb108))) (fun _ hk => hk.2) (.string t110)) (fun _ hk => hk.2) (.int .i64 t111)) (fun _ hk => hk.2) (.int .i64 t112)) (fun _ hk => hk.2) (.int .i64 t113)) (fun _ hk => hk.2) (.string t114)) (fun _ hk => hk.2) (.string t115)) (fun _ hk => ⟨hk.1.1,hk.1.2⟩)));(case aS => exact (below_size bh_));(case aL => have:=LMc20.out;omega);intro v118 w32 ho hb hg hat;rw [← Ny117.out] at ho;replace BK101:=Aside0.mk (blk_grown (g:=gb101) (o:=.cells #[.string a2_0,.int .i64 a2_1,.int .i64 a2_2,.int .i64 a2_3,.string a2_4,.string a2_5] 41 (0,0)) q7_ hg (Kd.R_away HO_8.out (fun _ hk => hk.1)));replace BK106:=Aside0.mk (blk_grown (g:=gb106) (o:=.cells #[.string a2_0,.int .i64 a2_1,.int .i64 a2_2,.int .i64 a2_3,.string a2_4,.string a2_5,.slice A1 l1.length c1] 91 (0,0)) q10_ hg (Kd.R_ne HO_8.out BK106.out q30_));replace BK108:=Aside0.mk (blk_grown (g:=gb108) (o:=.cells #[.string t110,.int .i64 t111,.int .i64 t112,.int .i64 t113,.string t114,.string t115] 41 (0,0)) q16_ hg (Kd.R_away HO_8.out (fun _ hk => hk.2)));replace HB:=Aside0.mk (hb);have HO119:=Aside0.mk (ho);clear HO_8;clear ho hb hg hat))
          go_roundg k1
          case measure => have:=HK1.out;omega
          case rel => exact ⟨(y117),(wrap64 (x22_1 + 1)),q12_,H',⟨by have:=HK1.out;omega⟩,⟨by (with_reducible repeat (first | apply Kd.R_alloc | apply Kd.R_drewN | apply Kd.R_drew));exact Kd.R_mono HO119.out (fun _ hk => hk.1)⟩,⟨by (with_reducible repeat (first | refine blk_drewN ?_ _ | refine blk_drew ?_ | refine blk_alloc ?_ _));exact BK101.out⟩,⟨by (with_reducible repeat (first | refine blk_drewN ?_ _ | refine blk_drew ?_ | refine blk_alloc ?_ _));exact BK106.out⟩,⟨by repeat (first | (with_reducible first | exact HB.out | apply below_alloc | apply pw_below_drewN | apply below_drew1 | refine below_set ?_ GE101.out | refine below_set ?_ GE106.out | refine below_set ?_ GE108.out) | exact HB.out)⟩⟩
         ·rw [if_neg c20] at H
          exact absurd H q25_
        ·replace c19:=Bool.eq_false_iff.mpr c19
         subst c19
         rw [if_neg (show ¬ (false = true) by decide)] at H
         have H':=Aside0.mk H
         clear H
         have p107 : 0 ≤ (x22_1 : Int):=of_decide_eq_true q1_
         have q107 : x22_1 < (l0.length : Int):=of_decide_eq_true q1_
         obtain ⟨ad107,e107,hx107_0,hx107_1,hx107_2,hx107_3,hx107_4,hx107_5⟩:=at_T41 HR0.out x22_1 p107 q107
         cases e107
         replace hx107_0:=cl_ HB.out hx107_0
         replace hx107_1:=cl_ HB.out hx107_1
         replace hx107_2:=cl_ HB.out hx107_2
         replace hx107_3:=cl_ HB.out hx107_3
         replace hx107_4:=cl_ HB.out hx107_4
         replace hx107_5:=cl_ HB.out hx107_5
         replace p107:=eq_true p107
         replace q107:=eq_true q107
         go_wp2_with (first | ((with_reducible refine gate_dst (N:=10) rfl ?_);refine bx_ 10 41 #[.string (⟨#[]⟩ : ByteArray),.int .i64 0,.int .i64 0,.int .i64 0,.string (⟨#[]⟩ : ByteArray),.string (⟨#[]⟩ : ByteArray)] ?_;intro gb108 hg w33 hbox hb;replace HO_8:=Aside0.mk (Kd.R_below (Kd.R_elderB q22_ gb108 (Nat.le_of_eq hg.symm)) hb);have BK108:=Aside0.mk (hbox);have GW108:=Aside0.mk ((q17_ : w.heap.size ≤ gb108));have GE108:=Aside0.mk ((q17_ : w.heap.size ≤ gb108));replace HB:=Aside0.mk (below_step bh_ hb);have NB101_108:=Aside0.mk ((q48_ : gb101 ≠ gb108));have NB108_101:=Aside0.mk ((q49_ : gb108 ≠ gb101));replace BK101:=Aside0.mk (blk_below bk101_ hb);have NB106_108:=Aside0.mk ((q62_ : gb106 ≠ gb108));have NB108_106:=Aside0.mk ((q63_ : gb108 ≠ gb106));replace BK106:=Aside0.mk (blk_below bk106_ hb);clear hb hbox hg;have hnb34:=NB108_101.out;have hnc34:=NB101_108.out;have hnb35:=NB108_106.out;have hnc35:=NB106_108.out;have hcz36_0 : w33.cell? ⟨gb108,0,none⟩ = some (.string (⟨#[]⟩ : ByteArray)):=(blk_cell BK108.out 0).trans rfl;have hcz36_1 : w33.cell? ⟨gb108,1,none⟩ = some (.int .i64 0):=(blk_cell BK108.out 1).trans rfl;have hcz36_2 : w33.cell? ⟨gb108,2,none⟩ = some (.int .i64 0):=(blk_cell BK108.out 2).trans rfl;have hcz36_3 : w33.cell? ⟨gb108,3,none⟩ = some (.int .i64 0):=(blk_cell BK108.out 3).trans rfl;have hcz36_4 : w33.cell? ⟨gb108,4,none⟩ = some (.string (⟨#[]⟩ : ByteArray)):=(blk_cell BK108.out 4).trans rfl;have hcz36_5 : w33.cell? ⟨gb108,5,none⟩ = some (.string (⟨#[]⟩ : ByteArray)):=(blk_cell BK108.out 5).trans rfl;have hfz36_0:=blk_frozen BK108.out 0;have hfz36_1:=blk_frozen BK108.out 1;have hfz36_2:=blk_frozen BK108.out 2;have hfz36_3:=blk_frozen BK108.out 3;have hfz36_4:=blk_frozen BK108.out 4;have hfz36_5:=blk_frozen BK108.out 5;have hnb37:=NB106_101.out;have hnc37:=NB101_106.out;have hcz38_0 : w33.cell? ⟨gb106,0,none⟩ = some (.string a2_0):=(blk_cell BK106.out 0).trans rfl;have hcz38_1 : w33.cell? ⟨gb106,1,none⟩ = some (.int .i64 a2_1):=(blk_cell BK106.out 1).trans rfl;have hcz38_2 : w33.cell? ⟨gb106,2,none⟩ = some (.int .i64 a2_2):=(blk_cell BK106.out 2).trans rfl;have hcz38_3 : w33.cell? ⟨gb106,3,none⟩ = some (.int .i64 a2_3):=(blk_cell BK106.out 3).trans rfl;have hcz38_4 : w33.cell? ⟨gb106,4,none⟩ = some (.string a2_4):=(blk_cell BK106.out 4).trans rfl;have hcz38_5 : w33.cell? ⟨gb106,5,none⟩ = some (.string a2_5):=(blk_cell BK106.out 5).trans rfl;have hcz38_6 : w33.cell? ⟨gb106,6,none⟩ = some (.slice A1 l1.length c1):=(blk_cell BK106.out 6).trans rfl;have hfz38_0:=blk_frozen BK106.out 0;have hfz38_1:=blk_frozen BK106.out 1;have hfz38_2:=blk_frozen BK106.out 2;have hfz38_3:=blk_frozen BK106.out 3;have hfz38_4:=blk_frozen BK106.out 4;have hfz38_5:=blk_frozen BK106.out 5;have hfz38_6:=blk_frozen BK106.out 6) | ((with_reducible refine gate_callee (f:=62) rfl ?_);refine gl_ 28 Tryz.func62 #[.agg #[.string a2_0,.int .i64 a2_1,.int .i64 a2_2,.int .i64 a2_3,.string a2_4,.string a2_5,.slice A1 l1.length c1],.agg #[.string ((rd_T41 l0 x22_1).f0),.int .i64 ((rd_T41 l0 x22_1).f1.f0),.int .i64 ((rd_T41 l0 x22_1).f1.f1),.int .i64 ((rd_T41 l0 x22_1).f1.f2),.string ((rd_T41 l0 x22_1).f1.f3),.string ((rd_T41 l0 x22_1).f1.f4)]] ?_;(with_reducible refine (mvs_bound_out.calls a2_0 a2_1 a2_2 a2_3 a2_4 a2_5 _ _ l1 ((rd_T41 l0 x22_1).f0) ((rd_T41 l0 x22_1).f1.f0) ((rd_T41 l0 x22_1).f1.f1) ((rd_T41 l0 x22_1).f1.f2) ((rd_T41 l0 x22_1).f1.f3) ((rd_T41 l0 x22_1).f1.f4) true _ ?side1 ?side2 A16.out ?sideG).mono ?_);(case sideG => first | exact HG.out | exact Env.below HG.out bh_);(case side1 => exact Kd.C_below HR1.out bh_);(case side2 => exact HC1.out);rintro e w39 ⟨rfl,hb⟩;refine ⟨_,rfl,?_⟩;replace HO_8:=Aside0.mk (Kd.R_below q18_ hb);replace BK101:=Aside0.mk (blk_below (g:=gb101) (o:=.cells #[.string a2_0,.int .i64 a2_1,.int .i64 a2_2,.int .i64 a2_3,.string a2_4,.string a2_5] 41 (0,0)) q7_ hb);replace BK106:=Aside0.mk (blk_below (g:=gb106) (o:=.cells #[.string a2_0,.int .i64 a2_1,.int .i64 a2_2,.int .i64 a2_3,.string a2_4,.string a2_5,.slice A1 l1.length c1] 91 (0,0)) q10_ hb);replace BK108:=Aside0.mk (blk_below (g:=gb108) (o:=.cells #[.string ((rd_T41 l0 x22_1).f0),.int .i64 ((rd_T41 l0 x22_1).f1.f0),.int .i64 ((rd_T41 l0 x22_1).f1.f1),.int .i64 ((rd_T41 l0 x22_1).f1.f2),.string ((rd_T41 l0 x22_1).f1.f3),.string ((rd_T41 l0 x22_1).f1.f4)] 41 (0,0)) q6_ hb);replace HB:=Aside0.mk (below_step bh_ hb);(try clear hb);(try clear hb2);(try clear hk);(try clear hi);have hcz40_0 : w39.cell? ⟨gb106,0,none⟩ = some (.string a2_0):=(blk_cell BK106.out 0).trans rfl;have hcz40_1 : w39.cell? ⟨gb106,1,none⟩ = some (.int .i64 a2_1):=(blk_cell BK106.out 1).trans rfl;have hcz40_2 : w39.cell? ⟨gb106,2,none⟩ = some (.int .i64 a2_2):=(blk_cell BK106.out 2).trans rfl;have hcz40_3 : w39.cell? ⟨gb106,3,none⟩ = some (.int .i64 a2_3):=(blk_cell BK106.out 3).trans rfl;have hcz40_4 : w39.cell? ⟨gb106,4,none⟩ = some (.string a2_4):=(blk_cell BK106.out 4).trans rfl;have hcz40_5 : w39.cell? ⟨gb106,5,none⟩ = some (.string a2_5):=(blk_cell BK106.out 5).trans rfl;have hcz40_6 : w39.cell? ⟨gb106,6,none⟩ = some (.slice A1 l1.length c1):=(blk_cell BK106.out 6).trans rfl;have hfz40_0:=blk_frozen BK106.out 0;have hfz40_1:=blk_frozen BK106.out 1;have hfz40_2:=blk_frozen BK106.out 2;have hfz40_3:=blk_frozen BK106.out 3;have hfz40_4:=blk_frozen BK106.out 4;have hfz40_5:=blk_frozen BK106.out 5;have hfz40_6:=blk_frozen BK106.out 6;have hcz41_0 : w39.cell? ⟨gb108,0,none⟩ = some (.string ((rd_T41 l0 x22_1).f0)):=(blk_cell BK108.out 0).trans rfl;have hcz41_1 : w39.cell? ⟨gb108,1,none⟩ = some (.int .i64 ((rd_T41 l0 x22_1).f1.f0)):=(blk_cell BK108.out 1).trans rfl;have hcz41_2 : w39.cell? ⟨gb108,2,none⟩ = some (.int .i64 ((rd_T41 l0 x22_1).f1.f1)):=(blk_cell BK108.out 2).trans rfl;have hcz41_3 : w39.cell? ⟨gb108,3,none⟩ = some (.int .i64 ((rd_T41 l0 x22_1).f1.f2)):=(blk_cell BK108.out 3).trans rfl;have hcz41_4 : w39.cell? ⟨gb108,4,none⟩ = some (.string ((rd_T41 l0 x22_1).f1.f3)):=(blk_cell BK108.out 4).trans rfl;have hcz41_5 : w39.cell? ⟨gb108,5,none⟩ = some (.string ((rd_T41 l0 x22_1).f1.f4)):=(blk_cell BK108.out 5).trans rfl;have hfz41_0:=blk_frozen BK108.out 0;have hfz41_1:=blk_frozen BK108.out 1;have hfz41_2:=blk_frozen BK108.out 2;have hfz41_3:=blk_frozen BK108.out 3;have hfz41_4:=blk_frozen BK108.out 4;have hfz41_5:=blk_frozen BK108.out 5) | ((with_reducible refine gate_callee (f:=63) rfl ?_);refine gl_ 32 Tryz.func63 #[.agg #[.string a2_0,.int .i64 a2_1,.int .i64 a2_2,.int .i64 a2_3,.string a2_4,.string a2_5,.slice A1 l1.length c1],.agg #[.string ((rd_T41 l0 x22_1).f0),.int .i64 ((rd_T41 l0 x22_1).f1.f0),.int .i64 ((rd_T41 l0 x22_1).f1.f1),.int .i64 ((rd_T41 l0 x22_1).f1.f2),.string ((rd_T41 l0 x22_1).f1.f3),.string ((rd_T41 l0 x22_1).f1.f4)]] ?_;(with_reducible refine (mvs_bound_lower.calls a2_0 a2_1 a2_2 a2_3 a2_4 a2_5 _ _ l1 ((rd_T41 l0 x22_1).f0) ((rd_T41 l0 x22_1).f1.f0) ((rd_T41 l0 x22_1).f1.f1) ((rd_T41 l0 x22_1).f1.f2) ((rd_T41 l0 x22_1).f1.f3) ((rd_T41 l0 x22_1).f1.f4) t110 t111 t112 t113 t114 t115 false _ ?side1 ?side2 A18.out ?sideG).mono ?_);(case sideG => first | exact HG.out | exact Env.below HG.out bh_);(case side1 => repeat (first | exact (Kd.C_below HR1.out HB.out) | (with_reducible refine Kd.C_alloc ?_ _) | (with_reducible refine Kd.C_drewN ?_ _) | (with_reducible refine Kd.C_drew ?_)));(case side2 => exact HC1.out);rintro e w42 ⟨rfl,hb⟩;refine ⟨_,rfl,?_⟩;replace HO_8:=Aside0.mk (Kd.R_below q22_ hb);replace BK101:=Aside0.mk (blk_below bk101_ hb);replace BK106:=Aside0.mk (blk_below bk106_ hb);replace BK108:=Aside0.mk (blk_below bk108_ hb);replace HB:=Aside0.mk (below_step bh_ hb);(try clear hb);have hcz43_0 : w42.cell? ⟨gb108,0,none⟩ = some (.string ((rd_T41 l0 x22_1).f0)):=(blk_cell BK108.out 0).trans rfl;have hcz43_1 : w42.cell? ⟨gb108,1,none⟩ = some (.int .i64 ((rd_T41 l0 x22_1).f1.f0)):=(blk_cell BK108.out 1).trans rfl;have hcz43_2 : w42.cell? ⟨gb108,2,none⟩ = some (.int .i64 ((rd_T41 l0 x22_1).f1.f1)):=(blk_cell BK108.out 2).trans rfl;have hcz43_3 : w42.cell? ⟨gb108,3,none⟩ = some (.int .i64 ((rd_T41 l0 x22_1).f1.f2)):=(blk_cell BK108.out 3).trans rfl;have hcz43_4 : w42.cell? ⟨gb108,4,none⟩ = some (.string ((rd_T41 l0 x22_1).f1.f3)):=(blk_cell BK108.out 4).trans rfl;have hcz43_5 : w42.cell? ⟨gb108,5,none⟩ = some (.string ((rd_T41 l0 x22_1).f1.f4)):=(blk_cell BK108.out 5).trans rfl;have hfz43_0:=blk_frozen BK108.out 0;have hfz43_1:=blk_frozen BK108.out 1;have hfz43_2:=blk_frozen BK108.out 2;have hfz43_3:=blk_frozen BK108.out 3;have hfz43_4:=blk_frozen BK108.out 4;have hfz43_5:=blk_frozen BK108.out 5))
         go_roundg k1
         case measure => have:=HK1.out;omega
         case rel => exact ⟨(x8_1),(wrap64 (x22_1 + 1)),q12_,H',⟨by have:=HK1.out;omega⟩,⟨by (with_reducible repeat (first | apply Kd.R_alloc | apply Kd.R_drewN | apply Kd.R_drew));exact Kd.R_mono (Kd.R_far (p:=⟨gb108,5,none⟩) (Kd.R_far (p:=⟨gb108,4,none⟩) (Kd.R_far (p:=⟨gb108,3,none⟩) (Kd.R_far (p:=⟨gb108,2,none⟩) (Kd.R_far (p:=⟨gb108,1,none⟩) (Kd.R_far (p:=⟨gb108,0,none⟩) (Kd.R_mono HO_8.out (fun k_ hk => (⟨hk,hk.2⟩ : _ ∧ k_ ≠ gb108))) (fun _ hk => hk.2) (.string t110)) (fun _ hk => hk.2) (.int .i64 t111)) (fun _ hk => hk.2) (.int .i64 t112)) (fun _ hk => hk.2) (.int .i64 t113)) (fun _ hk => hk.2) (.string t114)) (fun _ hk => hk.2) (.string t115)) (fun _ hk => hk.1.1)⟩,⟨by (with_reducible repeat (first | refine blk_drewN ?_ _ | refine blk_drew ?_ | refine blk_alloc ?_ _));refine blk_far ?_ NB101_108.out _;(with_reducible repeat (first | refine blk_drewN ?_ _ | refine blk_drew ?_ | refine blk_alloc ?_ _));refine blk_far ?_ NB101_108.out _;(with_reducible repeat (first | refine blk_drewN ?_ _ | refine blk_drew ?_ | refine blk_alloc ?_ _));refine blk_far ?_ NB101_108.out _;(with_reducible repeat (first | refine blk_drewN ?_ _ | refine blk_drew ?_ | refine blk_alloc ?_ _));refine blk_far ?_ NB101_108.out _;(with_reducible repeat (first | refine blk_drewN ?_ _ | refine blk_drew ?_ | refine blk_alloc ?_ _));refine blk_far ?_ NB101_108.out _;(with_reducible repeat (first | refine blk_drewN ?_ _ | refine blk_drew ?_ | refine blk_alloc ?_ _));refine blk_far ?_ NB101_108.out _;(with_reducible repeat (first | refine blk_drewN ?_ _ | refine blk_drew ?_ | refine blk_alloc ?_ _));exact BK101.out⟩,⟨by (with_reducible repeat (first | refine blk_drewN ?_ _ | refine blk_drew ?_ | refine blk_alloc ?_ _));refine blk_far ?_ NB106_108.out _;(with_reducible repeat (first | refine blk_drewN ?_ _ | refine blk_drew ?_ | refine blk_alloc ?_ _));refine blk_far ?_ NB106_108.out _;(with_reducible repeat (first | refine blk_drewN ?_ _ | refine blk_drew ?_ | refine blk_alloc ?_ _));refine blk_far ?_ NB106_108.out _;(with_reducible repeat (first | refine blk_drewN ?_ _ | refine blk_drew ?_ | refine blk_alloc ?_ _));refine blk_far ?_ NB106_108.out _;(with_reducible repeat (first | refine blk_drewN ?_ _ | refine blk_drew ?_ | refine blk_alloc ?_ _));refine blk_far ?_ NB106_108.out _;(with_reducible repeat (first | refine blk_drewN ?_ _ | refine blk_drew ?_ | refine blk_alloc ?_ _));refine blk_far ?_ NB106_108.out _;(with_reducible repeat (first | refine blk_drewN ?_ _ | refine blk_drew ?_ | refine blk_alloc ?_ _));exact BK106.out⟩,⟨by repeat (first | (with_reducible first | exact HB.out | apply below_alloc | apply pw_below_drewN | apply below_drew1 | refine below_set ?_ GE101.out | refine below_set ?_ GE106.out | refine below_set ?_ GE108.out) | exact HB.out)⟩⟩
       ·replace c17:=Bool.eq_false_iff.mpr c17
        subst c17
        rw [if_neg (show ¬ (false = true) by decide)] at H
        by_cases c44 : x8_1.length < 1954687338268
        ·rw [if_pos c44] at H
         have LMc44:=Aside0.mk c44
         clear c44
         obtain ⟨y120,hy120⟩ : ∃ y_ : List (S41),y_ = (x8_1 ++ [(⟨(rd_T41 l0 x22_1).f0,(⟨(rd_T41 l0 x22_1).f1.f0,(rd_T41 l0 x22_1).f1.f1,(rd_T41 l0 x22_1).f1.f2,(rd_T41 l0 x22_1).f1.f3,(rd_T41 l0 x22_1).f1.f4⟩ : S24)⟩ : S41)]):=⟨_,rfl⟩
         replace H : (mvs_Downgrade.l0 k1 y120 l0 (l0.length : Int) (wrap64 (x22_1 + 1)) a2_0 a2_1 a2_2 a2_3 a2_4 a2_5 l1) = some r:=by first | (rw [hy120];with_reducible exact H) | (have H2_:=(Option.bind_some _ _).symm.trans H;rw [hy120];with_reducible exact H2_) | (have H2_:=(Option.bind_some _ _).symm.trans H;with_reducible exact H2_) | with_reducible exact H | (rw [hy120];exact H) | exact H
         have Ny120:=Aside0.mk hy120
         clear hy120
         have H':=Aside0.mk H
         clear H
         have p107 : 0 ≤ (x22_1 : Int):=of_decide_eq_true q1_
         have q107 : x22_1 < (l0.length : Int):=of_decide_eq_true q1_
         obtain ⟨ad107,e107,hx107_0,hx107_1,hx107_2,hx107_3,hx107_4,hx107_5⟩:=at_T41 HR0.out x22_1 p107 q107
         cases e107
         replace hx107_0:=cl_ HB.out hx107_0
         replace hx107_1:=cl_ HB.out hx107_1
         replace hx107_2:=cl_ HB.out hx107_2
         replace hx107_3:=cl_ HB.out hx107_3
         replace hx107_4:=cl_ HB.out hx107_4
         replace hx107_5:=cl_ HB.out hx107_5
         replace p107:=eq_true p107
         replace q107:=eq_true q107
         go_wp2_with (first | ((with_reducible refine gate_dst (N:=10) rfl ?_);refine bx_ 10 41 #[.string (⟨#[]⟩ : ByteArray),.int .i64 0,.int .i64 0,.int .i64 0,.string (⟨#[]⟩ : ByteArray),.string (⟨#[]⟩ : ByteArray)] ?_;intro gb108 hg w45 hbox hb;replace HO_8:=Aside0.mk (Kd.R_below (Kd.R_elderB q22_ gb108 (Nat.le_of_eq hg.symm)) hb);have BK108:=Aside0.mk (hbox);have GW108:=Aside0.mk ((q17_ : w.heap.size ≤ gb108));have GE108:=Aside0.mk ((q17_ : w.heap.size ≤ gb108));replace HB:=Aside0.mk (below_step bh_ hb);have NB101_108:=Aside0.mk ((q48_ : gb101 ≠ gb108));have NB108_101:=Aside0.mk ((q49_ : gb108 ≠ gb101));replace BK101:=Aside0.mk (blk_below bk101_ hb);have NB106_108:=Aside0.mk ((q62_ : gb106 ≠ gb108));have NB108_106:=Aside0.mk ((q63_ : gb108 ≠ gb106));replace BK106:=Aside0.mk (blk_below bk106_ hb);clear hb hbox hg;have hnb46:=NB108_101.out;have hnc46:=NB101_108.out;have hnb47:=NB108_106.out;have hnc47:=NB106_108.out;have hcz48_0 : w45.cell? ⟨gb108,0,none⟩ = some (.string (⟨#[]⟩ : ByteArray)):=(blk_cell BK108.out 0).trans rfl;have hcz48_1 : w45.cell? ⟨gb108,1,none⟩ = some (.int .i64 0):=(blk_cell BK108.out 1).trans rfl;have hcz48_2 : w45.cell? ⟨gb108,2,none⟩ = some (.int .i64 0):=(blk_cell BK108.out 2).trans rfl;have hcz48_3 : w45.cell? ⟨gb108,3,none⟩ = some (.int .i64 0):=(blk_cell BK108.out 3).trans rfl;have hcz48_4 : w45.cell? ⟨gb108,4,none⟩ = some (.string (⟨#[]⟩ : ByteArray)):=(blk_cell BK108.out 4).trans rfl;have hcz48_5 : w45.cell? ⟨gb108,5,none⟩ = some (.string (⟨#[]⟩ : ByteArray)):=(blk_cell BK108.out 5).trans rfl;have hfz48_0:=blk_frozen BK108.out 0;have hfz48_1:=blk_frozen BK108.out 1;have hfz48_2:=blk_frozen BK108.out 2;have hfz48_3:=blk_frozen BK108.out 3;have hfz48_4:=blk_frozen BK108.out 4;have hfz48_5:=blk_frozen BK108.out 5;have hnb49:=NB106_101.out;have hnc49:=NB101_106.out;have hcz50_0 : w45.cell? ⟨gb106,0,none⟩ = some (.string a2_0):=(blk_cell BK106.out 0).trans rfl;have hcz50_1 : w45.cell? ⟨gb106,1,none⟩ = some (.int .i64 a2_1):=(blk_cell BK106.out 1).trans rfl;have hcz50_2 : w45.cell? ⟨gb106,2,none⟩ = some (.int .i64 a2_2):=(blk_cell BK106.out 2).trans rfl;have hcz50_3 : w45.cell? ⟨gb106,3,none⟩ = some (.int .i64 a2_3):=(blk_cell BK106.out 3).trans rfl;have hcz50_4 : w45.cell? ⟨gb106,4,none⟩ = some (.string a2_4):=(blk_cell BK106.out 4).trans rfl;have hcz50_5 : w45.cell? ⟨gb106,5,none⟩ = some (.string a2_5):=(blk_cell BK106.out 5).trans rfl;have hcz50_6 : w45.cell? ⟨gb106,6,none⟩ = some (.slice A1 l1.length c1):=(blk_cell BK106.out 6).trans rfl;have hfz50_0:=blk_frozen BK106.out 0;have hfz50_1:=blk_frozen BK106.out 1;have hfz50_2:=blk_frozen BK106.out 2;have hfz50_3:=blk_frozen BK106.out 3;have hfz50_4:=blk_frozen BK106.out 4;have hfz50_5:=blk_frozen BK106.out 5;have hfz50_6:=blk_frozen BK106.out 6) | ((with_reducible refine gate_callee (f:=62) rfl ?_);refine gl_ 28 Tryz.func62 #[.agg #[.string a2_0,.int .i64 a2_1,.int .i64 a2_2,.int .i64 a2_3,.string a2_4,.string a2_5,.slice A1 l1.length c1],.agg #[.string ((rd_T41 l0 x22_1).f0),.int .i64 ((rd_T41 l0 x22_1).f1.f0),.int .i64 ((rd_T41 l0 x22_1).f1.f1),.int .i64 ((rd_T41 l0 x22_1).f1.f2),.string ((rd_T41 l0 x22_1).f1.f3),.string ((rd_T41 l0 x22_1).f1.f4)]] ?_;(with_reducible refine (mvs_bound_out.calls a2_0 a2_1 a2_2 a2_3 a2_4 a2_5 _ _ l1 ((rd_T41 l0 x22_1).f0) ((rd_T41 l0 x22_1).f1.f0) ((rd_T41 l0 x22_1).f1.f1) ((rd_T41 l0 x22_1).f1.f2) ((rd_T41 l0 x22_1).f1.f3) ((rd_T41 l0 x22_1).f1.f4) false _ ?side1 ?side2 A16.out ?sideG).mono ?_);(case sideG => first | exact HG.out | exact Env.below HG.out bh_);(case side1 => exact Kd.C_below HR1.out bh_);(case side2 => exact HC1.out);rintro e w51 ⟨rfl,hb⟩;refine ⟨_,rfl,?_⟩;replace HO_8:=Aside0.mk (Kd.R_below q18_ hb);replace BK101:=Aside0.mk (blk_below (g:=gb101) (o:=.cells #[.string a2_0,.int .i64 a2_1,.int .i64 a2_2,.int .i64 a2_3,.string a2_4,.string a2_5] 41 (0,0)) q7_ hb);replace BK106:=Aside0.mk (blk_below (g:=gb106) (o:=.cells #[.string a2_0,.int .i64 a2_1,.int .i64 a2_2,.int .i64 a2_3,.string a2_4,.string a2_5,.slice A1 l1.length c1] 91 (0,0)) q10_ hb);replace BK108:=Aside0.mk (blk_below (g:=gb108) (o:=.cells #[.string ((rd_T41 l0 x22_1).f0),.int .i64 ((rd_T41 l0 x22_1).f1.f0),.int .i64 ((rd_T41 l0 x22_1).f1.f1),.int .i64 ((rd_T41 l0 x22_1).f1.f2),.string ((rd_T41 l0 x22_1).f1.f3),.string ((rd_T41 l0 x22_1).f1.f4)] 41 (0,0)) q6_ hb);replace HB:=Aside0.mk (below_step bh_ hb);(try clear hb);(try clear hb2);(try clear hk);(try clear hi);have hcz52_0 : w51.cell? ⟨gb108,0,none⟩ = some (.string ((rd_T41 l0 x22_1).f0)):=(blk_cell BK108.out 0).trans rfl;have hcz52_1 : w51.cell? ⟨gb108,1,none⟩ = some (.int .i64 ((rd_T41 l0 x22_1).f1.f0)):=(blk_cell BK108.out 1).trans rfl;have hcz52_2 : w51.cell? ⟨gb108,2,none⟩ = some (.int .i64 ((rd_T41 l0 x22_1).f1.f1)):=(blk_cell BK108.out 2).trans rfl;have hcz52_3 : w51.cell? ⟨gb108,3,none⟩ = some (.int .i64 ((rd_T41 l0 x22_1).f1.f2)):=(blk_cell BK108.out 3).trans rfl;have hcz52_4 : w51.cell? ⟨gb108,4,none⟩ = some (.string ((rd_T41 l0 x22_1).f1.f3)):=(blk_cell BK108.out 4).trans rfl;have hcz52_5 : w51.cell? ⟨gb108,5,none⟩ = some (.string ((rd_T41 l0 x22_1).f1.f4)):=(blk_cell BK108.out 5).trans rfl;have hfz52_0:=blk_frozen BK108.out 0;have hfz52_1:=blk_frozen BK108.out 1;have hfz52_2:=blk_frozen BK108.out 2;have hfz52_3:=blk_frozen BK108.out 3;have hfz52_4:=blk_frozen BK108.out 4;have hfz52_5:=blk_frozen BK108.out 5) | ((with_reducible refine gate_builtin (b:=.append) (xs:=#[.tmp 36,.tmp 38]) rfl ?_);at_builtin;refine Kd.R_append k41 (w0:=w) w.heap.size rfl (.tmp 36) (.tmp 38) 38 41 (.agg #[(.string ⟨#[]⟩),(.int .i64 0),(.int .i64 0),(.int .i64 0),(.string ⟨#[]⟩),(.string ⟨#[]⟩)]) 72 rfl Tryz.underlying38 info41 rfl q30_ q5_ u8 x8_1 (⟨(rd_T41 l0 x22_1).f0,(⟨(rd_T41 l0 x22_1).f1.f0,(rd_T41 l0 x22_1).f1.f1,(rd_T41 l0 x22_1).f1.f2,(rd_T41 l0 x22_1).f1.f3,(rd_T41 l0 x22_1).f1.f4⟩ : S24)⟩ : S41) [.string ((rd_T41 l0 x22_1).f0),.int .i64 ((rd_T41 l0 x22_1).f1.f0),.int .i64 ((rd_T41 l0 x22_1).f1.f1),.int .i64 ((rd_T41 l0 x22_1).f1.f2),.string ((rd_T41 l0 x22_1).f1.f3),.string ((rd_T41 l0 x22_1).f1.f4)] (fun k_ => k_ ≠ gb101 ∧ k_ ≠ gb108) (fun _ => False) rfl rfl ?aP (fun _ hk => hk.elim) ?aF ?aO ?aB ?aS ?aL ?_;(case aP => exact k41_mkM _ _ _ (⟨(rd_T41 l0 x22_1).f0,(⟨(rd_T41 l0 x22_1).f1.f0,(rd_T41 l0 x22_1).f1.f1,(rd_T41 l0 x22_1).f1.f2,(rd_T41 l0 x22_1).f1.f3,(rd_T41 l0 x22_1).f1.f4⟩ : S24)⟩ : S41));(case aB => exact bh_);(case aF => exact (fun k_ hk => ⟨Kd.freshB bk101_ k_ hk,Kd.freshB bk108_ k_ hk⟩));(case aO => exact q22_);(case aS => exact (below_size bh_));(case aL => have:=LMc44.out;omega);intro v121 w53 ho hb hg hat;rw [← Ny120.out] at ho;replace BK101:=Aside0.mk (blk_grown bk101_ hg (Kd.R_away HO_8.out (fun _ hk => hk.1)));replace BK106:=Aside0.mk (blk_grown bk106_ hg (Kd.R_ne HO_8.out BK106.out q30_));replace BK108:=Aside0.mk (blk_grown bk108_ hg (Kd.R_away HO_8.out (fun _ hk => hk.2)));replace HB:=Aside0.mk (hb);have HO122:=Aside0.mk (ho);clear HO_8;clear ho hb hg hat))
         go_roundg k1
         case measure => have:=HK1.out;omega
         case rel => exact ⟨(y120),(wrap64 (x22_1 + 1)),q12_,H',⟨by have:=HK1.out;omega⟩,⟨by (with_reducible repeat (first | apply Kd.R_alloc | apply Kd.R_drewN | apply Kd.R_drew));exact Kd.R_mono HO122.out (fun _ hk => hk.1)⟩,⟨by (with_reducible repeat (first | refine blk_drewN ?_ _ | refine blk_drew ?_ | refine blk_alloc ?_ _));exact BK101.out⟩,⟨by (with_reducible repeat (first | refine blk_drewN ?_ _ | refine blk_drew ?_ | refine blk_alloc ?_ _));exact BK106.out⟩,⟨by repeat (first | (with_reducible first | exact HB.out | apply below_alloc | apply pw_below_drewN | apply below_drew1 | refine below_set ?_ GE101.out | refine below_set ?_ GE106.out | refine below_set ?_ GE108.out) | exact HB.out)⟩⟩
        ·rw [if_neg c44] at H
         exact absurd H q25_
      ·rw [if_neg c15] at H
       exact absurd H q25_
     ·rw [if_neg c14] at H
      exact absurd H q25_
    ·rw [if_neg c13] at H
     have c13b0:=decide_eq_false c13
     clear c13
     obtain rfl:=Option.some.inj H
     go_wp2
     go_ret
     exact ⟨_,by first | rfl | (simp [] <;> rfl) | (simp [*] <;> rfl) | (simp [bne_nil_];done) | (simp [*,bne_nil_];done),by (with_reducible repeat (first | apply Kd.R_alloc | apply Kd.R_drewN | apply Kd.R_drew));exact Kd.R_mono HO_8.out (fun _ hk => trivial),by repeat (first | (with_reducible first | exact HB.out | apply below_alloc | apply pw_below_drewN | apply below_drew1 | refine below_set ?_ GE101.out | refine below_set ?_ GE106.out) | exact HB.out)⟩
 ·replace c5:=Bool.eq_false_iff.mpr c5
  subst c5
  rw [if_neg (show ¬ (false = true) by decide)] at H
  obtain ⟨t103,A540,H⟩:=Option.bind_eq_some_iff.mp H
  have A54:=Aside0.mk A540
  clear A540
  obtain rfl:=Option.some.inj H
  go_enter Tryz.func31,Tryz.ntmps31
  go_wp2_with (first | ((with_reducible refine gate_dst (N:=5) rfl ?_);refine bx_ 5 41 #[.string a2_0,.int .i64 a2_1,.int .i64 a2_2,.int .i64 a2_3,.string a2_4,.string a2_5] ?_;intro gb101 hg w55 hbox hb;have BK101:=Aside0.mk (hbox);have GW101:=Aside0.mk ((q17_ : w.heap.size ≤ gb101));have GE101:=Aside0.mk ((q17_ : w.heap.size ≤ gb101));replace HB:=Aside0.mk (below_step bh_ hb);clear hb hbox hg;have hcz56_0 : w55.cell? ⟨gb101,0,none⟩ = some (.string a2_0):=(blk_cell BK101.out 0).trans rfl;have hcz56_1 : w55.cell? ⟨gb101,1,none⟩ = some (.int .i64 a2_1):=(blk_cell BK101.out 1).trans rfl;have hcz56_2 : w55.cell? ⟨gb101,2,none⟩ = some (.int .i64 a2_2):=(blk_cell BK101.out 2).trans rfl;have hcz56_3 : w55.cell? ⟨gb101,3,none⟩ = some (.int .i64 a2_3):=(blk_cell BK101.out 3).trans rfl;have hcz56_4 : w55.cell? ⟨gb101,4,none⟩ = some (.string a2_4):=(blk_cell BK101.out 4).trans rfl;have hcz56_5 : w55.cell? ⟨gb101,5,none⟩ = some (.string a2_5):=(blk_cell BK101.out 5).trans rfl;have hfz56_0:=blk_frozen BK101.out 0;have hfz56_1:=blk_frozen BK101.out 1;have hfz56_2:=blk_frozen BK101.out 2;have hfz56_3:=blk_frozen BK101.out 3;have hfz56_4:=blk_frozen BK101.out 4;have hfz56_5:=blk_frozen BK101.out 5) | ((with_reducible refine gate_callee (f:=59) rfl ?_);refine gl_ 13 Tryz.func59 #[.agg #[.string a2_0,.int .i64 a2_1,.int .i64 a2_2,.int .i64 a2_3,.string a2_4,.string a2_5]] ?_;(with_reducible refine (mvs_may.calls k a2_0 a2_1 a2_2 a2_3 a2_4 a2_5 false _ A4.out ?sideG).mono ?_);(case sideG => first | exact HG.out | exact Env.below HG.out bh_);rintro e w57 ⟨rfl,hb⟩;refine ⟨_,rfl,?_⟩;replace BK101:=Aside0.mk (blk_below bk101_ hb);replace HB:=Aside0.mk (below_step bh_ hb);(try clear hb)) | ((with_reducible refine gate_callee (f:=58) rfl ?_);refine gl_ 16 Tryz.func58 #[.slice A0 l0.length c0] ?_;(with_reducible refine (slices_Clone_apiReq.calls _ _ l0 t103 _ ?side1 ?side2 A54.out).mono ?_);(case side1 => repeat (first | exact (Kd.C_below HR0.out HB.out) | (with_reducible refine Kd.C_alloc ?_ _) | (with_reducible refine Kd.C_drewN ?_ _) | (with_reducible refine Kd.C_drew ?_)));(case side2 => exact HC0.out);rintro e w58 ⟨v104,rfl,ho0,hb⟩;refine ⟨_,rfl,?_⟩;have HO105:=Aside0.mk (Kd.R_lower (Kd.R_newB ho0 bk101_) (below_size bh_));replace BK101:=Aside0.mk (blk_below bk101_ hb);replace HB:=Aside0.mk (below_step bh_ hb);(try clear hb);(try clear ho0)))
  go_ret
  exact ⟨_,by first | rfl | (simp [] <;> rfl) | (simp [*] <;> rfl) | (simp [bne_nil_];done) | (simp [*,bne_nil_];done),by (with_reducible repeat (first | apply Kd.R_alloc | apply Kd.R_drewN | apply Kd.R_drew));exact Kd.R_mono HO105.out (fun _ hk => trivial),by repeat (first | (with_reducible first | exact HB.out | apply below_alloc | apply pw_below_drewN | apply below_drew1 | refine below_set ?_ GE101.out) | exact HB.out)⟩
end Go.Proofs.YtennhpoemdaghaaGreatDoor.P
end
section
namespace Go.Proofs.YtennhpoemdaghaaGreatDoor.P
open Go Go.RowKit Go.Proofs.YtennhpoemdaghaaGreatDoorW.PrintWords
def isOut (b : Req) (nodes : List Node) (x : Req) : Bool:=(listL [x] nodes).any fun y => sameP b.f0 y && decide (cmpB y b > 0)
theorem predO_eq (b y : Req) : predO b y = some (sameP b.f0 y && decide (cmpB y b > 0)):=by
 unfold predO
 rw [toList_eq,toList_eq,cmpP_eq]
 unfold sameP
 cases y.f0.data.toList == b.f0.data.toList <;> rfl
theorem outP_eq (b : Req) (nodes : List Node) (x : Req) (hU : (univ [x] nodes).length ≤ 500000) : outP b nodes x = some (isOut b nodes x):=by
 unfold outP
 rw [list_eq [x] nodes hU,Option.bind_some,if_pos (List.all_eq_true.2 fun y _ => by rw [predO_eq];rfl)]
 unfold isOut
 congr 1
 congr 1
 funext y
 rw [predO_eq]
 rfl
def candB (b : Req) (nodes : List Node) (x y : Req) : Bool:=sameP x.f0 y && (mayB y && (decide (cmpB y x < 0) && !isOut b nodes y))
theorem condP_eq (b : Req) (nodes : List Node) (x y : Req) (hU : (univ [y] nodes).length ≤ 500000) : condP b nodes x y = some (candB b nodes x y):=by
 unfold condP candB
 rw [toList_eq,toList_eq,mayP_eq,cmpP_eq,outP_eq b nodes y hU]
 unfold sameP
 cases y.f0.data.toList == x.f0.data.toList
 ·rfl
 ·cases mayB y
  ·rfl
  ·by_cases h : cmpB y x < 0
   ·simp [h]
   ·simp [h]
def lowB (b : Req) (nodes : List Node) (x : Req) : Option Req:=bestO x.f0 ((nodes.map (·.f0)).filter (candB b nodes x))
theorem lowP_eq (b : Req) (nodes : List Node) (x : Req) : ∀ (ns : List Node) (L : List Req),(∀ n ∈ ns,(univ [n.f0] nodes).length ≤ 500000) → lowP b nodes x L ns = some (((ns.map (·.f0)).filter (candB b nodes x)).foldl takeL L)
 | [],L,_ => rfl
 | n :: ns,L,h => by
  rw [lowP,condP_eq b nodes x n.f0 (h n q25_),Option.bind_some,List.map_cons,List.filter_cons]
  cases hc : candB b nodes x n.f0 with
  | false =>
   rw [if_neg q30_,if_neg q30_]
   exact lowP_eq b nodes x ns L (fun m hm => h m (by simp [hm]))
  | true =>
   have hm : mayB n.f0 = true:=by
    unfold candB at hc
    simp only [Bool.and_eq_true] at hc
    exact hc.2.1
   rw [if_pos rfl,if_pos rfl,takeP_eq L n.f0 hm,Option.bind_some,List.foldl_cons]
   exact lowP_eq b nodes x ns _ (fun m hm => h m (by simp [hm]))
theorem univ_one (x : Req) (nodes : List Node) (hU : (univ [] nodes).length ≤ 400000) : (univ [x] nodes).length ≤ 500000:=by
 unfold univ at *
 rw [List.length_append] at *
 simp only [List.length_nil,List.length_singleton] at *
 omega
theorem lowerP_eq (b : Req) (nodes : List Node) (x : Req) (hx : x.f0.size ≤ 4294967280) (hn : nodes.length ≤ 1000000) (hU : (univ [] nodes).length ≤ 400000) : lowerP b nodes x = some (match lowB b nodes x with | none => (zR,false) | some y => (y,true)):=by
 unfold lowerP
 rw [if_pos ⟨hx,hn⟩,lowP_eq b nodes x nodes [] (fun n _ => univ_one n.f0 nodes hU),Option.bind_some,find_takes]
 rfl
def downL (b : Req) (nodes : List Node) (root : List Req) : List Req:=root.filterMap fun x => if isOut b nodes x then lowB b nodes x else some x
theorem mayV_f (r : Req) (k : Nat) (hk : 1300 < k) : mvs_may.f k r.f0 r.f1.f0 r.f1.f1 r.f1.f2 r.f1.f3 r.f1.f4 = some (mayB r):=by
 unfold mvs_may.f
 rw [pfits_f _ _ _ _ _ _ k q5_]
 rfl
def packL : Option Req → ByteArray × Int × Int × Int × ByteArray × ByteArray × Bool
 | none => (zR.f0,zR.f1.f0,zR.f1.f1,zR.f1.f2,zR.f1.f3,zR.f1.f4,false)
 | some x => (x.f0,x.f1.f0,x.f1.f1,x.f1.f2,x.f1.f3,x.f1.f4,true)
theorem lower_f (b x : Req) (nodes : List Node) (hx : x.f0.size ≤ 4294967280) (hn : nodes.length ≤ 1000000) (hU : (univ [] nodes).length ≤ 400000) :
  mvs_bound_lower.f b.f0 b.f1.f0 b.f1.f1 b.f1.f2 b.f1.f3 b.f1.f4 nodes x.f0 x.f1.f0 x.f1.f1 x.f1.f2 x.f1.f3 x.f1.f4 = some (packL (lowB b nodes x)):=by
 show (lowerP b nodes x).bind _ = _
 rw [lowerP_eq b nodes x hx hn hU,Option.bind_some]
 cases lowB b nodes x <;> rfl
theorem downL_length (b : Req) (nodes : List Node) (root : List Req) : (downL b nodes root).length ≤ root.length:=List.length_filterMap_le _ _
theorem downP_f (b : Req) (nodes : List Node) (root : List Req) (hr : root.length ≤ 1000000) (hx : ∀ x ∈ root,x.f0.size ≤ 4294967280) (hn : nodes.length ≤ 1000000) (hU : (univ [] nodes).length ≤ 400000) (k : Nat) (hk : 1400 + root.length < k) :
  mvs_Downgrade.f k root nodes b.f0 b.f1.f0 b.f1.f1 b.f1.f2 b.f1.f3 b.f1.f4 = some (if mayB b then downL b nodes root else root):=by
 unfold mvs_Downgrade.f
 rw [mayV_f b k q5_,Option.bind_some]
 cases mayB b with
 | false =>
  rw [if_neg q30_,if_neg q30_]
  unfold slices_Clone_apiReq.f
  rw [if_pos hr]
  rfl
 | true =>
  rw [if_pos rfl,if_pos rfl]
  have h : ∀ (d i k : Nat),i ≤ root.length → root.length - i = d → 1400 + d < k → mvs_Downgrade.l0 k (downL b nodes (root.take i)) root (root.length : Int) (i : Int) b.f0 b.f1.f0 b.f1.f1 b.f1.f2 b.f1.f3 b.f1.f4 nodes = some (downL b nodes root):=by
   intro d
   induction d with
   | zero =>
    intro i k hi hd hk
    obtain ⟨k,rfl⟩ : ∃ m,k = m + 1:=⟨k - 1,by omega⟩
    rw [mvs_Downgrade.l0,if_neg q5_,List.take_of_length_le q5_]
   | succ d ih =>
    intro i k hi hd hk
    obtain ⟨k,rfl⟩ : ∃ m,k = m + 1:=⟨k - 1,by omega⟩
    have h : i < root.length:=by omega
    have hw:=wrap_at i root.length h q5_
    have hlen:=downL_length b nodes (root.take i)
    rw [List.length_take] at hlen
    have ihn:=ih (i + 1) k q5_ q5_ q5_
    have e : downL b nodes (root.take (i + 1)) = downL b nodes (root.take i) ++ (match (if isOut b nodes root[i] then lowB b nodes root[i] else some root[i]) with | none => [] | some y => [y]):=by
     unfold downL
     rw [List.take_succ_eq_append_getElem h,List.filterMap_append]
     congr 1
     rw [List.filterMap_cons]
     split <;> rename_i he <;> rw [he] <;> rfl
    rw [e] at ihn
    rw [mvs_Downgrade.l0,if_pos q5_,if_pos q5_,if_pos q5_,rd_at root i h,hw,(show mvs_bound_out.f b.f0 b.f1.f0 b.f1.f1 b.f1.f2 b.f1.f3 b.f1.f4 nodes root[i].f0 root[i].f1.f0 root[i].f1.f1 root[i].f1.f2 root[i].f1.f3 root[i].f1.f4 = some (isOut b nodes root[i]) from outP_eq b nodes root[i] (univ_one _ _ hU)),Option.bind_some]
    cases ho : isOut b nodes root[i] with
    | false =>
     rw [ho,if_neg q30_] at ihn
     rw [if_neg q30_,if_pos q5_]
     exact ihn
    | true =>
     rw [ho,if_pos rfl] at ihn
     rw [if_pos rfl,lower_f b root[i] nodes (hx _ (List.getElem_mem h)) hn hU,Option.bind_some]
     cases hl : lowB b nodes root[i] with
     | none =>
      rw [hl] at ihn
      rw [if_neg (show ¬ (packL none).2.2.2.2.2.2 = true by decide)]
      simp only [List.append_nil] at ihn
      exact ihn
     | some y =>
      rw [hl] at ihn
      rw [if_pos (show (packL (some y)).2.2.2.2.2.2 = true from rfl),if_pos q5_]
      exact ihn
  exact h root.length 0 k (Nat.zero_le _) rfl hk
end Go.Proofs.YtennhpoemdaghaaGreatDoor.P
end
section
namespace Go.Proofs.YtennhpoemdaghaaGreatDoor.P
open Go.RowKit Go.Proofs.YtennhpoemdaghaaGreatDoorW.PrintWords Go.Proofs.YtennhpoemdaghaaGreatDoorW.PrintLast Go.Proofs.YtennhpoemdaghaaGreatDoorW.PrintMore
def Lw17_req.f (a0 : ByteArray) (a1 : Int) : Option (ByteArray × Int × Int × Int × ByteArray × ByteArray):=some (a0,1,a1,0,(⟨#[]⟩ : ByteArray),(⟨#[]⟩ : ByteArray))
set_option maxHeartbeats 8000000 in
set_option maxRecDepth 100000 in
theorem Lw17_req.calls (a0 : ByteArray) (a1 : Int) (r1 : ByteArray) (r2 : Int) (r3 : Int) (r4 : Int) (r5 : ByteArray) (r6 : ByteArray) (w : World) (h : Lw17_req.f a0 a1 = some (r1,r2,r3,r4,r5,r6)) :
  Calls Tryz.prog 46 #[.string a0,.int .i64 a1] w fun e w' => e = .returned (.agg #[.string r1,.int .i64 r2,.int .i64 r3,.int .i64 r4,.string r5,.string r6]) ∧ Below w.heap.size w w':=by
 have hu41:=Tryz.underlying41
 have hu24:=Tryz.underlying24
 have HB:=Aside0.mk (Below.refl w.heap.size w)
 have H : (some (a0,1,a1,0,(⟨#[]⟩ : ByteArray),(⟨#[]⟩ : ByteArray))) = some (r1,r2,r3,r4,r5,r6):=h
 clear h
 simp only [Option.some.injEq,Prod.mk.injEq] at H
 obtain ⟨rfl,rfl,rfl,rfl,rfl,rfl⟩:=H
 go_enter Tryz.func46,Tryz.ntmps46
 go_wp2_with (first | ((with_reducible refine gate_dst (N:=4) rfl ?_);refine bx_ 4 41 #[.string (⟨#[]⟩ : ByteArray),.int .i64 0,.int .i64 0,.int .i64 0,.string (⟨#[]⟩ : ByteArray),.string (⟨#[]⟩ : ByteArray)] ?_;intro gb101 hg w3 hbox hb;have BK101:=Aside0.mk (hbox);have GW101:=Aside0.mk ((q17_ : w.heap.size ≤ gb101));have GE101:=Aside0.mk ((q17_ : w.heap.size ≤ gb101));replace HB:=Aside0.mk (below_step bh_ hb);clear hb hbox hg;have hcz4_0 : w3.cell? ⟨gb101,0,none⟩ = some (.string (⟨#[]⟩ : ByteArray)):=(blk_cell BK101.out 0).trans rfl;have hcz4_1 : w3.cell? ⟨gb101,1,none⟩ = some (.int .i64 0):=(blk_cell BK101.out 1).trans rfl;have hcz4_2 : w3.cell? ⟨gb101,2,none⟩ = some (.int .i64 0):=(blk_cell BK101.out 2).trans rfl;have hcz4_3 : w3.cell? ⟨gb101,3,none⟩ = some (.int .i64 0):=(blk_cell BK101.out 3).trans rfl;have hcz4_4 : w3.cell? ⟨gb101,4,none⟩ = some (.string (⟨#[]⟩ : ByteArray)):=(blk_cell BK101.out 4).trans rfl;have hcz4_5 : w3.cell? ⟨gb101,5,none⟩ = some (.string (⟨#[]⟩ : ByteArray)):=(blk_cell BK101.out 5).trans rfl;have hfz4_0:=blk_frozen BK101.out 0;have hfz4_1:=blk_frozen BK101.out 1;have hfz4_2:=blk_frozen BK101.out 2;have hfz4_3:=blk_frozen BK101.out 3;have hfz4_4:=blk_frozen BK101.out 4;have hfz4_5:=blk_frozen BK101.out 5))
 refine bodyPost_ret (results_cell_row rfl _ _ gb101 41 #[.string a0,.int .i64 1,.int .i64 a1,.int .i64 0,.string (⟨#[]⟩ : ByteArray),.string (⟨#[]⟩ : ByteArray)] (0,0) _ rfl (by (with_reducible repeat (first | refine blk_drewN ?_ _ | refine blk_drew ?_ | refine blk_alloc ?_ _));refine blk_put (cs:=#[.string a0,.int .i64 1,.int .i64 a1,.int .i64 0,.string (⟨#[]⟩ : ByteArray),.string (⟨#[]⟩ : ByteArray)]) ?_ 5 _ rfl;(with_reducible repeat (first | refine blk_drewN ?_ _ | refine blk_drew ?_ | refine blk_alloc ?_ _));refine blk_put (cs:=#[.string a0,.int .i64 1,.int .i64 a1,.int .i64 0,.string (⟨#[]⟩ : ByteArray),.string (⟨#[]⟩ : ByteArray)]) ?_ 4 _ rfl;(with_reducible repeat (first | refine blk_drewN ?_ _ | refine blk_drew ?_ | refine blk_alloc ?_ _));refine blk_put (cs:=#[.string a0,.int .i64 1,.int .i64 a1,.int .i64 0,.string (⟨#[]⟩ : ByteArray),.string (⟨#[]⟩ : ByteArray)]) ?_ 3 _ rfl;(with_reducible repeat (first | refine blk_drewN ?_ _ | refine blk_drew ?_ | refine blk_alloc ?_ _));refine blk_put (cs:=#[.string a0,.int .i64 1,.int .i64 0,.int .i64 0,.string (⟨#[]⟩ : ByteArray),.string (⟨#[]⟩ : ByteArray)]) ?_ 2 _ rfl;(with_reducible repeat (first | refine blk_drewN ?_ _ | refine blk_drew ?_ | refine blk_alloc ?_ _));refine blk_put (cs:=#[.string a0,.int .i64 0,.int .i64 0,.int .i64 0,.string (⟨#[]⟩ : ByteArray),.string (⟨#[]⟩ : ByteArray)]) ?_ 1 _ rfl;(with_reducible repeat (first | refine blk_drewN ?_ _ | refine blk_drew ?_ | refine blk_alloc ?_ _));refine blk_put (cs:=#[.string (⟨#[]⟩ : ByteArray),.int .i64 0,.int .i64 0,.int .i64 0,.string (⟨#[]⟩ : ByteArray),.string (⟨#[]⟩ : ByteArray)]) ?_ 0 _ rfl;(with_reducible repeat (first | refine blk_drewN ?_ _ | refine blk_drew ?_ | refine blk_alloc ?_ _));exact BK101.out) Tryz.underlying41 rfl q9_) rfl ?_
 exact ⟨q2_,bh_⟩
end Go.Proofs.YtennhpoemdaghaaGreatDoor.P
end
