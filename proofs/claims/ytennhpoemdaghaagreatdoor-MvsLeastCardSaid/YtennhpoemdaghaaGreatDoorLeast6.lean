/- MvsLeast: called with any requirements and nodes, the law returns true, and its arguments read behind the call as they read before. Proved of the given program, for every input that can be read as data; the package-level variables that the card lists begin as the program's text lays them (the card ties them to it); nothing else is assumed. -/
import Derived.Test.YtennhpoemdaghaaGreatDoorLeast5
import Derived.Test.YtennhpoemdaghaaGreatDoorTie
import Derived.Test.YtennhpoemdaghaaGreatDoorCards
set_option linter.unusedVariables false
set_option linter.unusedSimpArgs false
section
namespace Go.Proofs.YtennhpoemdaghaaGreatDoor.P
open Go Go.RowKit Go.Proofs.YtennhpoemdaghaaGreatDoorW.PrintWords
section
variable {H : Type} {enc : TypeId × Value → H} {w : World} {base : Nat} {spare : Nat → Bool} {held : Bool}
set_option maxRecDepth 100000 in
theorem trod_ver {fuel : Nat} {cs : List Value} {x : DataW H × List MemPlace} (h : DataW.trod enc Tryz.prog w base spare held fuel 24 cs = some x) :
  ∃ v : S24,cs = [.int .i64 v.f0,.int .i64 v.f1,.int .i64 v.f2,.string v.f3,.string v.f4]:=by
 obtain ⟨xs,n,_,_,hl,hlen,hf⟩:=DataW.trod_struct Tryz.underlying24 h
 have hc : Tryz.prog.cellsOf 24 = 5:=by kernel_rfl
 have hci : Tryz.prog.cellsOf 3 = 1:=by kernel_rfl
 have hcs : Tryz.prog.cellsOf 9 = 1:=by kernel_rfl
 rw [hc] at hl
 match cs,hl with
 | [c0,c1,c2,c3,c4],_ =>
  have g : ∀ i (hi : i < 5),∃ y,xs[i]? = some y:=fun i hi => ⟨xs[i]'(by rw [hlen];exact hi),List.getElem?_eq_getElem _⟩
  obtain ⟨y0,e0⟩:=g 0 q5_
  obtain ⟨y1,e1⟩:=g 1 q5_
  obtain ⟨y2,e2⟩:=g 2 q5_
  obtain ⟨y3,e3⟩:=g 3 q5_
  obtain ⟨y4,e4⟩:=g 4 q5_
  have h0:=hf 0 _ rfl
  have h1:=hf 1 _ rfl
  have h2:=hf 2 _ rfl
  have h3:=hf 3 _ rfl
  have h4:=hf 4 _ rfl
  simp only [e0,e1,e2,e3,e4] at h0 h1 h2 h3 h4
  obtain ⟨a,ha,_⟩:=DataW.trod_int Tryz.underlying3 h0
  obtain ⟨b,hb,_⟩:=DataW.trod_int Tryz.underlying3 h1
  obtain ⟨c,hc,_⟩:=DataW.trod_int Tryz.underlying3 h2
  obtain ⟨d,hd,_⟩:=DataW.trod_string Tryz.underlying9 h3
  obtain ⟨e,he,_⟩:=DataW.trod_string Tryz.underlying9 h4
  simp [hci,hcs] at ha hb hc hd he
  exact ⟨⟨a,b,c,d,e⟩,by rw [ha,hb,hc,hd,he]⟩
set_option maxRecDepth 100000 in
theorem trod_req {fuel : Nat} {cs : List Value} {x : DataW H × List MemPlace} (h : DataW.trod enc Tryz.prog w base spare held fuel 41 cs = some x) : ∃ r : Req,cs = encR r:=by
 obtain ⟨xs,n,_,_,hl,hlen,hf⟩:=DataW.trod_struct Tryz.underlying41 h
 have hc : Tryz.prog.cellsOf 41 = 6:=by kernel_rfl
 have hcv : Tryz.prog.cellsOf 24 = 5:=by kernel_rfl
 have hcs : Tryz.prog.cellsOf 9 = 1:=by kernel_rfl
 rw [hc] at hl
 match cs,hl with
 | [c0,c1,c2,c3,c4,c5],_ =>
  have g : ∀ i (hi : i < 2),∃ y,xs[i]? = some y:=fun i hi => ⟨xs[i]'(by rw [hlen];exact hi),List.getElem?_eq_getElem _⟩
  obtain ⟨y0,e0⟩:=g 0 q5_
  obtain ⟨y1,e1⟩:=g 1 q5_
  have h0:=hf 0 _ rfl
  have h1:=hf 1 _ rfl
  simp only [e0,e1] at h0 h1
  obtain ⟨p,hp,_⟩:=DataW.trod_string Tryz.underlying9 h0
  obtain ⟨v,hv⟩:=trod_ver h1
  simp [hcs,hcv] at hp hv
  obtain ⟨v0,v1,v2,v3,v4⟩:=hv
  exact ⟨⟨p,v⟩,by rw [hp,v0,v1,v2,v3,v4];rfl⟩
theorem open_reqs {fuel : Nat} {cs : List Value} {x : DataW H × List MemPlace} (h : DataW.trod enc Tryz.prog w base spare held fuel 38 cs = some x) :
  ∃ (A : Option Addr) (c : Nat) (l : List Req),cs = [.slice A l.length c] ∧ l.length ≤ c ∧ Kd.C k41 w A l.length l:=by
 have hc : Tryz.prog.cellsOf 41 = 6:=by kernel_rfl
 rcases Go.Deep.open_slice Tryz.underlying38 h with ⟨rfl,_⟩ | ⟨a,len,cap,m,n,D,Pl,rfl,hb,hl,hm,rfl,_,hel⟩
 ·exact ⟨none,0,[],rfl,Nat.le_refl _,Kd.C_nil _ _⟩
 ·have hlm : len ≤ (if spare a.block then cap else len):=by split <;> omega
  have hr : ∀ i,i < len → ∃ r : Req,w.cells? base (a.add (i * 6)) 6 = some (encR r):=fun i hi => by
   obtain ⟨cs',h1,h2⟩:=hel i q5_
   obtain ⟨r,rfl⟩:=trod_req h2
   rw [hc] at h1
   exact ⟨r,h1⟩
  refine ⟨some a,cap,(List.range len).map (fun i => if hi : i < len then (hr i hi).choose else default),by simp,by simpa using hl,?_⟩
  refine ⟨rfl,?_,fun _ => ⟨a,rfl,fun j p hp => ?_⟩⟩
  ·unfold maxLen at hm
   simp
   omega
  ·have hj : j < len:=by
    rcases Nat.lt_or_ge j len with h1 | h1
    ·exact h1
    ·rw [List.getElem?_eq_none (by simpa using h1)] at hp;exact absurd hp q21_
   have hpe : p = (hr j hj).choose:=by
    rw [List.getElem?_map,List.getElem?_range hj] at hp
    simp only [Option.map_some,dif_pos hj,Option.some.injEq] at hp
    exact hp.symm
   have hsp:=(hr j hj).choose_spec
   rw [← hpe] at hsp
   obtain ⟨_,hlen,hcell⟩:=World.cells?_some hsp
   refine ⟨encR p,rfl,k41_mk w p,fun i u hu => ?_⟩
   have hi : i < 6:=by
    rcases Nat.lt_or_ge i 6 with h1 | h1
    ·exact h1
    ·rw [List.getElem?_eq_none (show (encR p).length ≤ i from h1)] at hu;exact absurd hu q21_
   have:=hcell i hi
   rw [hu] at this
   rw [← this]
   show w.cell? (a.add (j * 6 + i)) = _
   rw [← add_add]
end
end Go.Proofs.YtennhpoemdaghaaGreatDoor.P
end
section
namespace Go
theorem returnsInHanded_and_shaped {a : Assume} {C : Checked} {os : Os} {f : FuncId} {fn : Func} {s : ChangeSpec} {conds : List PathCond} {apart fresh handsOn again : Bool} {H : Type} {enc : TypeId × Value → H} {X : World → Array Value → Prop}
  (hX : ∀ (w w' : World) (args : Array Value),w.heap = w'.heap → X w args → X w' args)
  (own : ownKnob C.prog.godebug = none) (started : os.Started) (noInit : C.prog.inits.idxOf? f = none) (hfn : C.prog.funcs[f]? = some fn)
  (witness : ∃ (w : World) (tape : Tape) (i : Input),w.os = os ∧ (w.forCall tape i).Shaped C.prog ∧ i.vars = [] ∧ Input.okWide C.prog (w.forCall tape i) .any w.heap.size f i ∧
   ((s.pre enc C.prog fn conds apart (w.forCall tape i).memory i.args ∧ X (w.forCall tape i).memory i.args) ∧ sizedMet enc C.prog fn (OpenSpec.ofChange s) apart (w.forCall tape i).memory i.args) ∧ a.holds C.prog (lone (Frame.enter C.prog f i.args .normal) [] (w.forCall tape i)))
  (contract : ∀ (W : World) (base : Nat) (args : Array Value) (ds gs : List (DataW H)) (before : List MemPlace),
   (∀ (j : Nat) t v,fn.params[j]? = some t → args[j]? = some v → Value.okWide C.prog W .any base t v) →
   DataW.Whole enc C.prog fn.params.toList s.vars apart W args.toList ds gs before →
   (DataW.weightsEach C.prog (fn.params.toList ++ s.plain.varTypes C.prog) (ds ++ gs)).all (· ≤ reachBytes) = true → X W args → W.ShapedOpen C.prog →
   Calls C.prog f args W fun e W' => ∃ v,e = .returned v ∧ s.post enc C.prog fn apart fresh handsOn again W args v W') :
  ReturnsInHanded a C os f .any (fun w args => (s.pre enc C.prog fn conds apart w args ∧ X w args) ∧ sizedMet enc C.prog fn (OpenSpec.ofChange s) apart w args) (s.post enc C.prog fn apart fresh handsOn again):=by
 refine returnsInHanded_of_calls own started noInit witness ?_
 intro w tape i _ hsh _ hok hpre hholds
 obtain ⟨_,_,_,fn',hfn',_,_,_,_,hval⟩:=hok
 have e : fn' = fn:=Option.some.inj (hfn'.symm.trans hfn)
 subst e
 obtain ⟨⟨⟨ds,gs,before,hw,hc⟩,hx⟩,hz⟩:=hpre
 have hw':=DataW.Whole.of_heap (w':=w.forCall tape i) q50_ hw
 refine (contract (w.forCall tape i) w.heap.size i.args ds gs before hval hw' (hz.weights hw) (hX _ _ _ q50_ hx) hsh).mono fun e W' ⟨v,he,hp⟩ => ?_
 subst he
 exact ChangeSpec.post_blind hp
end Go
namespace Go.Proofs.YtennhpoemdaghaaGreatDoor.P
open Go Go.RowKit Go.ChangeShapes Go.WideShapes
theorem ownKnob_here : ownKnob Tryz.prog.godebug = none:=by kernel_rfl
theorem laidOut_here : laidOutB Tryz.prog = true:=by kernel_rfl
theorem laid_at {w : World} {name : String} {d : DataW Unit} (h : laidMetH Tryz.prog Go.Proofs.YtennhpoemdaghaaGreatDoor.Rows.mvsAloneRow.laid w)
  (e : (Go.Proofs.YtennhpoemdaghaaGreatDoor.Rows.mvsAloneRow.laid.filter fun x => x.1 == name) = [(name,d)]) : laidMet Tryz.prog [(name,d)] w:=by
 rw [MakeChecks.laidMetH_plain _ _ _ q4_] at h
 have h2:=h.filter (fun x => x.1 == name)
 rw [e] at h2
 exact h2
theorem err_of_laid {w : World} {name : String} {g : Nat} {t : TypeId} {ms : Array (String × TypeId)} {text : List UInt8} (hg : Tryz.prog.globalNamed name = some g) (ht : (Tryz.prog.globals[g]?).map (·.type) = some t) (hi : Tryz.prog.underlying t = some (.interface ms))
  (h : laidMet Tryz.prog [(name,.iface "*errors.errorString" (.ptr (.agg [.lit (.string text)])))] w) : ∃ ev,w.cell? ⟨g,0,none⟩ = some ev ∧ (ev = .nilIface ∨ ∃ te pe,ev = .iface te pe):=by
 obtain ⟨ps,⟨g0,t0,cs0,f0,p0,q0,hg0,ht0,hv0,hd0,_,_⟩,_,_⟩:=h
 obtain rfl:=Option.some.inj (hg.symm.trans hg0)
 obtain rfl:=Option.some.inj (ht.symm.trans ht0)
 obtain ⟨_,u,v,hcs,_,_⟩:=iface_of_trod hi hd0
 have:=World.var?_cell hg0 hv0 0
 rw [Array.eq_one_of_toList hcs] at this
 exact ⟨.iface u v,by simpa using this,.inr ⟨u,v,rfl⟩⟩
set_option maxRecDepth 100000 in
theorem env_of_laid {w : World} (h : laidMetH Tryz.prog Go.Proofs.YtennhpoemdaghaaGreatDoor.Rows.mvsAloneRow.laid w) (hs : w.ShapedOpen Tryz.prog) : Env w:=by
 have ht:=tab_of_laid h
 refine ⟨?_,?_,?_,ht,?_⟩
 ·exact cell_of_shapedOpen_int (P:=Tryz.prog) (g:=0) (t:=3) (zero:=#[.int .i64 0]) hs (of_decide_eq_true q4_) q4_ rfl q4_ q4_ Tryz.underlying3
 ·exact err_of_laid (text:=[105,110,118,97,108,105,100,32,115,121,110,116,97,120]) q4_ q4_ Tryz.underlying111 (laid_at (name := "strconv.ErrSyntax") h q4_)
 ·exact err_of_laid (text:=[118,97,108,117,101,32,111,117,116,32,111,102,32,114,97,110,103,101]) q4_ q4_ Tryz.underlying111 (laid_at (name := "strconv.ErrRange") h q4_)
 ·have h1:=World.var?_cell (g:=5) q4_ ht 0
  exact Lib.lt_of_cell (v:=.int .u64 1) (h1.trans q4_)
end Go.Proofs.YtennhpoemdaghaaGreatDoor.P
end
section
namespace Go.Proofs.YtennhpoemdaghaaGreatDoor.P
open Go Go.RowKit Go.ChangeShapes Go.WideShapes Go.Proofs.YtennhpoemdaghaaGreatDoorW.PrintWords
section
variable {H : Type} {enc : TypeId × Value → H} {w : World} {base : Nat} {spare : Nat → Bool} {held : Bool}
theorem open_list {α : Type} [Inhabited α] (kd : Kd α) {t e : TypeId} (ht : Tryz.prog.underlying t = some (.slice e)) (hc : Tryz.prog.cellsOf e = kd.sz)
  (he : ∀ (fuel : Nat) (cs : List Value) (x : DataW H × List MemPlace),DataW.trod enc Tryz.prog w base spare held fuel e cs = some x → ∃ v : α,kd.K w v cs)
  {fuel : Nat} {cs : List Value} {x : DataW H × List MemPlace} (h : DataW.trod enc Tryz.prog w base spare held fuel t cs = some x) :
  ∃ (A : Option Addr) (c : Nat) (l : List α),cs = [.slice A l.length c] ∧ l.length ≤ c ∧ c ≤ maxLen ∧ Kd.C kd w A l.length l:=by
 rcases Go.Deep.open_slice ht h with ⟨rfl,_⟩ | ⟨a,len,cap,m,n,D,Pl,rfl,hb,hl,hm,rfl,_,hel⟩
 ·exact ⟨none,0,[],rfl,Nat.le_refl _,Nat.zero_le _,Kd.C_nil _ _⟩
 ·have hlm : len ≤ (if spare a.block then cap else len):=by split <;> omega
  have hr : ∀ i,i < len → ∃ (r : α) (cs' : List Value),w.cells? base (a.add (i * kd.sz)) kd.sz = some cs' ∧ kd.K w r cs':=fun i hi => by
   obtain ⟨cs',h1,h2⟩:=hel i q5_
   obtain ⟨r,hr⟩:=he _ _ _ h2
   rw [hc] at h1
   exact ⟨r,cs',h1,hr⟩
  refine ⟨some a,cap,(List.range len).map (fun i => if hi : i < len then (hr i hi).choose else default),by simp,by simpa using hl,hm,?_⟩
  refine ⟨rfl,?_,fun _ => ⟨a,rfl,fun j p hp => ?_⟩⟩
  ·unfold maxLen at hm
   simp
   omega
  ·have hj : j < len:=by
    rcases Nat.lt_or_ge j len with h1 | h1
    ·exact h1
    ·rw [List.getElem?_eq_none (by simpa using h1)] at hp;exact absurd hp q21_
   have hpe : p = (hr j hj).choose:=by
    rw [List.getElem?_map,List.getElem?_range hj] at hp
    simp only [Option.map_some,dif_pos hj,Option.some.injEq] at hp
    exact hp.symm
   have hsp:=(hr j hj).choose_spec
   rw [← hpe] at hsp
   obtain ⟨cs',hcs,hk⟩:=hsp
   obtain ⟨_,hlen,hcell⟩:=World.cells?_some hcs
   refine ⟨cs',hlen,hk,fun i u hu => ?_⟩
   have hi : i < kd.sz:=by
    rcases Nat.lt_or_ge i kd.sz with h1 | h1
    ·exact h1
    ·rw [List.getElem?_eq_none q5_] at hu;exact absurd hu q21_
   have:=hcell i hi
   rw [hu] at this
   rw [← this]
   show w.cell? (a.add (j * kd.sz + i)) = _
   rw [← add_add]
set_option maxRecDepth 100000 in
theorem trod_node {fuel : Nat} {cs : List Value} {x : DataW H × List MemPlace} (h : DataW.trod enc Tryz.prog w base spare held fuel 68 cs = some x) :
  ∃ v : S68,k68.K w v cs:=by
 obtain ⟨xs,n,_,_,hl,hlen,hf⟩:=DataW.trod_struct Tryz.underlying68 h
 have hc : Tryz.prog.cellsOf 68 = 7:=by kernel_rfl
 have hc1 : Tryz.prog.cellsOf 41 = 6:=by kernel_rfl
 have hc2 : Tryz.prog.cellsOf 38 = 1:=by kernel_rfl
 rw [hc] at hl
 match cs,hl with
 | [c0,c1,c2,c3,c4,c5,c6],_ =>
  have g : ∀ i (hi : i < 2),∃ y,xs[i]? = some y:=fun i hi => ⟨xs[i]'(by rw [hlen];exact hi),List.getElem?_eq_getElem _⟩
  obtain ⟨y0,e0⟩:=g 0 q5_
  obtain ⟨y1,e1⟩:=g 1 q5_
  have h0:=hf 0 _ rfl
  have h1:=hf 1 _ rfl
  simp only [e0,e1] at h0 h1
  obtain ⟨r,hr⟩:=trod_req h0
  obtain ⟨A,c,l,hv,hlc,hC⟩:=open_reqs h1
  simp [hc1,hc2,encR] at hr hv
  obtain ⟨r0,r1,r2,r3,r4,r5⟩:=hr
  refine ⟨⟨r,l⟩,?_⟩
  rw [r0,r1,r2,r3,r4,r5,hv]
  exact k68_mk w ⟨r,l⟩ hlc hC
instance : Inhabited S68:=⟨⟨default,[]⟩⟩
theorem open_nodes {fuel : Nat} {cs : List Value} {x : DataW H × List MemPlace} (h : DataW.trod enc Tryz.prog w base spare held fuel 39 cs = some x) :
  ∃ (A : Option Addr) (c : Nat) (l : List S68),cs = [.slice A l.length c] ∧ l.length ≤ c ∧ c ≤ maxLen ∧ Kd.C k68 w A l.length l :=
 open_list k68 Tryz.underlying39 q4_ (fun _ _ _ h => trod_node h) h
theorem nodes_len {A : Option Addr} {l : List S68} (h : Kd.C k68 w A l.length l) : ∀ n ∈ l,n.f1.length ≤ 9223372036854775807:=by
 intro n hn
 obtain ⟨j,hj,rfl⟩:=List.mem_iff_getElem.1 hn
 obtain ⟨a,_,hp⟩:=h.2.2 q5_
 obtain ⟨cs,_,hk,_⟩:=hp j l[j] (List.getElem?_eq_getElem hj)
 obtain ⟨A6,c6,_,_,hC⟩:=k68_open hk
 have:=hC.2.1
 omega
end
end Go.Proofs.YtennhpoemdaghaaGreatDoor.P
end
section
namespace Go.Proofs.YtennhpoemdaghaaGreatDoor.P
open Go Go.RowKit Go.ChangeShapes Go.WideShapes Go.ChangeAt
open Go.ChangeMaps (open_string shut_string)
set_option maxRecDepth 100000 in
theorem mvsLeast_lifted (os : Os) (started : os.Started) (H : Type) (enc : TypeId × Value → H) :
  ReturnsInHanded {} Tryz.checked os 5 .any (fun w args => (Rows.mvsLeastSpec.pre enc Tryz.prog Tryz.f5 [] false w args ∧ laidMetH Tryz.prog Rows.mvsLeastRow.laid w) ∧ sizedMet enc Tryz.prog Tryz.f5 (OpenSpec.ofChange Rows.mvsLeastSpec) false w args)
   (Rows.mvsLeastSpec.post enc Tryz.prog Tryz.f5 false true false false):=by
 refine returnsInHanded_and_shaped (C:=Tryz.checked) (X:=fun w _ => laidMetH Tryz.prog Rows.mvsLeastRow.laid w) (fun _ _ _ hh h => h.of_heap hh) ownKnob_here started q4_ Tryz.func5
  (ChangeSpec.witness_shaped (enc:=enc) (C:=Tryz.checked) (os:=os) (X:=fun w _ => laidMetH Tryz.prog Rows.mvsLeastRow.laid w) false (World.laidAll Tryz.prog os Rows.mvsLeastRow.laid) #[.slice none 0 0,.slice none 0 0] 8 (World.laidAll_os _ _ _)
   (World.shaped_of_ZipB q4_ q4_) q4_ q4_ q4_
   (by rw [MakeChecks.laidMetH_plain _ _ _ q4_];exact laidMet_laidAll _ q4_ q4_)) ?_
 intro W base args ds gs before hval0 hW hsz0 hL hsh
 have hE : Env W:=env_of_laid hL hsh
 have hval : ∀ (j : Nat) t v,Tryz.f5.params[j]? = some t → args[j]? = some v → Value.okWide Tryz.prog W .any base t v:=hval0
 have hW':=hW
 obtain ⟨p,q,hA0,hV,rfl,hfz,hnd⟩:=hW
 have hA : DataW.TrodAll enc Tryz.prog W 0 (fun _ => true) true Tryz.f5.params.toList args.toList ds p:=hA0
 rw [Tryz.params5] at hA hval
 obtain ⟨v0,vs0,d0,ds0,p0,q0,hargs,rfl,rfl,h0,r0⟩:=trodAll_cons hA
 obtain ⟨v1,vs1,d1,ds1,p1,q1,rfl,rfl,rfl,h1,r1⟩:=trodAll_cons r0
 obtain ⟨rfl,rfl,rfl⟩:=trodAll_nil r1
 obtain rfl : args = #[v0,v1]:=by cases args;simp_all
 obtain ⟨rfl,rfl⟩:=trodVars_none hV
 obtain ⟨a0,len0,cap0,rfl⟩:=okWide_slice Tryz.underlying38 (hval 0 38 v0 rfl rfl)
 have k0:=h0
 have lt0 : ∀ x ∈ p0,x.block < W.heap.size:=by obtain ⟨m,hm⟩:=k0;exact DataW.trod_lt m _ _ _ hm
 obtain ⟨fu0,hf0⟩:=h0
 obtain ⟨A0,c0,l0,hcs0,hc0,hC0⟩:=open_reqs hf0
 simp [Value.cells] at hcs0
 obtain ⟨rfl,rfl,rfl⟩:=hcs0
 obtain ⟨a1,len1,cap1,rfl⟩:=okWide_slice Tryz.underlying39 (hval 1 39 v1 rfl rfl)
 have k1:=h1
 have lt1 : ∀ x ∈ p1,x.block < W.heap.size:=by obtain ⟨m,hm⟩:=k1;exact DataW.trod_lt m _ _ _ hm
 obtain ⟨fu1,hf1⟩:=h1
 obtain ⟨A1,c1,l1,hcs1,hc1,_,hC1⟩:=open_nodes hf1
 simp [Value.cells] at hcs1
 obtain ⟨rfl,rfl,rfl⟩:=hcs1
 clear hA0 hval0 hsz0
 obtain ⟨K,hK⟩:=least_f l0 l1 hC0.2.1 hC1.2.1 (nodes_len hC1)
 refine (Lw17_MvsLeast.calls K _ _ l0 _ _ l1 true W hC0 hc0 hC1 hc1 (hK K (Nat.le_refl _)) rfl hE).mono fun e W' ⟨he,bel⟩ => ?_
 subst he
 exact ⟨_,rfl,_,_,_,[],_,[],hW',trodAll_mk1 (shut_bool Tryz.underlying4 _),(trodAll_cons_mk (Below.trod laidOut_here q4_ (of_decide_eq_true q4_) k0 bel lt0) (trodAll_cons_mk (Below.trod laidOut_here q4_ (of_decide_eq_true q4_) k1 bel lt1) trodAll_mk0)),rfl,bel.frame _,fun h => by cases h⟩
theorem mvsLeast_row : Rows.MvsLeastSaid :=
 OpenClaim.holds_of_wide 5 Tryz.f5 rfl rfl rfl rfl rfl rfl rfl ⟨rfl,rfl,rfl,rfl,rfl⟩ rfl rfl rfl rfl rfl q4_ Tryz.func5 q4_
  (of_decide_eq_true q4_) (by unfold Func.isWrapper;first | (rw [if_pos q51_];kernel_rfl) | (rw [if_neg q51_];exact ⟨rfl,rfl⟩))
  (fun os started H enc _ => mvsLeast_lifted os started H enc)
end Go.Proofs.YtennhpoemdaghaaGreatDoor.P
namespace Go.Proofs.YtennhpoemdaghaaGreatDoor
open Go
theorem mvsLeast_card : Rows.MvsLeastCardSaid :=
 Claim7.holds_tied_plain_at .later [] [.data,.data,.data,.data,.sentinel,.sentinel,.pinned] true (true, "6b7efa70bd55ada926e5eb756efdd62c05decfa7f1cf08258461f7006b2a8a09") true
  P.mvsLeast_row (fun _ h => by cases h) q4_ (fun _ h => by cases h) mvsLeast_row_tie rfl ⟨rfl,rfl⟩ q4_ rfl
  (fun f fn hf hfn => by
   obtain rfl : f = 5:=Option.some.inj ((show Tryz.prog.funcNamed "armada/armadalaw17.MvsLeast" = some 5 by kernel_rfl).symm.trans hf) |>.symm
   obtain rfl : fn = Tryz.f5:=(Option.some.inj (Tryz.func5.symm.trans hfn)).symm
   exact ⟨by kernel_rfl,fun j t ht => by
    rw [Tryz.params5] at ht
    have hm : t ∈ [38,39]:=by simpa using Array.mem_of_getElem? ht
    have hall : ([38,39].all fun u => !Tryz.prog.wantsStandIn u) = true:=by kernel_rfl
    exact (show Tryz.prog.wantsStandIn t = false by simpa using List.all_eq_true.1 hall t hm)⟩)
  q4_
end Go.Proofs.YtennhpoemdaghaaGreatDoor
end
