/- A part of the same claim: what its first file says. -/
import Derived.Test.YtennhpoemdaghaaGreatDoorFewer1
set_option linter.unusedVariables false
set_option linter.unusedSimpArgs false
section
namespace Go.Proofs.YtennhpoemdaghaaGreatDoor.P
open Go Go.RowKit Go.Shelf Go.Proofs.YtennhpoemdaghaaGreatDoorW.PrintWords
def numB (n : Int) : Bool:=decide (0 ≤ n) && decide (n ≤ 999999999)
def identsB (l : List UInt8) : Bool:=(splitL 46 l).all wordsB
def preB (l : List UInt8) : Bool:=(splitL 46 l).all (fun p => wordsB p && tightB p)
def verB (a b c : Int) (pre build : List UInt8) : Bool :=
 numB a && numB b && numB c && decide (pre.length ≤ 30) && decide (build.length ≤ 30) && (pre == [] || preB pre) && (build == [] || identsB build)
def ver_Check.f (a0_0 : Int) (a0_1 : Int) (a0_2 : Int) (a0_3 : ByteArray) (a0_4 : ByteArray) : Option Bool:=some (verB a0_0 a0_1 a0_2 a0_3.data.toList a0_4.data.toList)
theorem num_any (n : Int) (w : World) : Calls Tryz.prog 107 #[.int .i64 n] w fun e w' => e = .returned (.bool (numB n)) ∧ w = w':=by
 by_cases h : 0 ≤ n
 ·have e : numB n = decide (n ≤ 999999999):=by unfold numB;simp [h]
  rw [e]
  go_enter Tryz.func107,Tryz.ntmps107
  go_wp2
  go_ret
  exact ⟨rfl,rfl⟩
 ·have e : numB n = false:=by unfold numB;simp [h]
  rw [e]
  have h' : ¬ (0 ≤ n):=h
  go_enter Tryz.func107,Tryz.ntmps107
  go_wp2
  go_ret
  exact ⟨rfl,rfl⟩
theorem any_calls (x : ByteArray) (w : World) : Calls Tryz.prog 106 #[.string x] w fun e w' => e = .returned (.bool true) ∧ Drawn0 w w':=by
 go_enter Tryz.func106,Tryz.ntmps106
 go_wp2
 go_ret
 exact ⟨rfl,Drawn0.refl _⟩
theorem words_tight (s : ByteArray) (w : World) (h : s.size ≤ 60) : Calls Tryz.prog 108 #[.string s,.func (.func 109) #[] #[]] w fun e w' => e = .returned (.bool (preB s.data.toList)) ∧ Below w.heap.size w w':=by
 have hp:=callsIn_wide.1 (ver_words_in s w h 109 tightB (fun x W hx => ver_tight.calls (x.size + 1) x _ W (tight_f x q8_ _ q8_)) (enters_of Tryz.func109 q11_ rfl))
 have e : (splitS 46 s).all (fun p => wordsB p.data.toList && tightB p.data.toList) = preB s.data.toList:=by unfold splitS preB;rw [List.all_map];rfl
 rw [e] at hp
 exact hp
theorem words_any (s : ByteArray) (w : World) (h : s.size ≤ 60) : Calls Tryz.prog 108 #[.string s,.func (.func 106) #[] #[]] w fun e w' => e = .returned (.bool (identsB s.data.toList)) ∧ Below w.heap.size w w':=by
 have hp:=callsIn_wide.1 (ver_words_in s w h 106 (fun _ => true) (fun x W hx => any_calls x W) (enters_of Tryz.func106 q11_ rfl))
 have e : (splitS 46 s).all (fun p => wordsB p.data.toList && true) = identsB s.data.toList:=by unfold splitS identsB;rw [List.all_map];simp;rfl
 rw [e] at hp
 exact hp
theorem bcell {W w1 : World} (hb : Below W.heap.size W w1) : (∀ b o,b < W.heap.size → w1.cell? ⟨b,o,none⟩ = W.cell? ⟨b,o,none⟩) ∧ (∀ b o,b < W.heap.size → w1.frozen? ⟨b,o,none⟩ = W.frozen? ⟨b,o,none⟩) :=
 ⟨fun b o h => hb.cell (p:=⟨b,o,none⟩) h,fun b o h => hb.frozen (p:=⟨b,o,none⟩) h⟩
theorem below_box {w w1 : World} {o : Obj} (hb : Below (w.alloc o).heap.size (w.alloc o) w1) : Below w.heap.size w w1 :=
 ((Below.refl _ w).alloc (Nat.le_refl _) o).trans (hb.mono q43_)
set_option maxRecDepth 100000 in
set_option maxHeartbeats 4000000 in
theorem check_n1 (a b c : Int) (p q : ByteArray) (w : World) (h1 : numB a = false) : Calls Tryz.prog 74 #[.agg #[.int .i64 a,.int .i64 b,.int .i64 c,.string p,.string q]] w fun e w' => e = .returned (.bool false) ∧ Below w.heap.size w w':=by
 go_enter Tryz.func74,Tryz.ntmps74
 go_wp2_with (first | (go_at_call 107;refine (num_any _ _).mono ?_;rintro e w' ⟨rfl,rfl⟩))
 go_ret
 exact ⟨rfl,(Below.refl _ w).alloc (Nat.le_refl _) _⟩
set_option maxRecDepth 100000 in
set_option maxHeartbeats 4000000 in
theorem check_n2 (a b c : Int) (p q : ByteArray) (w : World) (h1 : numB a = true) (h2 : numB b = false) : Calls Tryz.prog 74 #[.agg #[.int .i64 a,.int .i64 b,.int .i64 c,.string p,.string q]] w fun e w' => e = .returned (.bool false) ∧ Below w.heap.size w w':=by
 go_enter Tryz.func74,Tryz.ntmps74
 go_wp2_with (first | (go_at_call 107;refine (num_any _ _).mono ?_;rintro e w' ⟨rfl,rfl⟩))
 go_ret
 exact ⟨rfl,(Below.refl _ w).alloc (Nat.le_refl _) _⟩
set_option maxRecDepth 100000 in
set_option maxHeartbeats 4000000 in
theorem check_n3 (a b c : Int) (p q : ByteArray) (w : World) (h1 : numB a = true) (h2 : numB b = true) (h3 : numB c = false) : Calls Tryz.prog 74 #[.agg #[.int .i64 a,.int .i64 b,.int .i64 c,.string p,.string q]] w fun e w' => e = .returned (.bool false) ∧ Below w.heap.size w w':=by
 go_enter Tryz.func74,Tryz.ntmps74
 go_wp2_with (first | (go_at_call 107;refine (num_any _ _).mono ?_;rintro e w' ⟨rfl,rfl⟩))
 go_ret
 exact ⟨rfl,(Below.refl _ w).alloc (Nat.le_refl _) _⟩
set_option maxRecDepth 100000 in
set_option maxHeartbeats 4000000 in
theorem check_p (a b c : Int) (p q : ByteArray) (w : World) (h1 : numB a = true) (h2 : numB b = true) (h3 : numB c = true) (hp : (30 : Int) < (p.size : Int)) : Calls Tryz.prog 74 #[.agg #[.int .i64 a,.int .i64 b,.int .i64 c,.string p,.string q]] w fun e w' => e = .returned (.bool false) ∧ Below w.heap.size w w':=by
 go_enter Tryz.func74,Tryz.ntmps74
 go_wp2_with (first | (go_at_call 107;refine (num_any _ _).mono ?_;rintro e w' ⟨rfl,rfl⟩))
 go_ret
 exact ⟨rfl,(Below.refl _ w).alloc (Nat.le_refl _) _⟩
set_option maxRecDepth 100000 in
set_option maxHeartbeats 4000000 in
theorem check_q (a b c : Int) (p q : ByteArray) (w : World) (h1 : numB a = true) (h2 : numB b = true) (h3 : numB c = true) (hp : ¬ (30 : Int) < (p.size : Int)) (hq : (30 : Int) < (q.size : Int)) : Calls Tryz.prog 74 #[.agg #[.int .i64 a,.int .i64 b,.int .i64 c,.string p,.string q]] w fun e w' => e = .returned (.bool false) ∧ Below w.heap.size w w':=by
 go_enter Tryz.func74,Tryz.ntmps74
 go_wp2_with (first | (go_at_call 107;refine (num_any _ _).mono ?_;rintro e w' ⟨rfl,rfl⟩))
 go_ret
 exact ⟨rfl,(Below.refl _ w).alloc (Nat.le_refl _) _⟩
set_option maxRecDepth 100000 in
set_option maxHeartbeats 4000000 in
theorem check_ee (a b c : Int) (p q : ByteArray) (w : World) (h1 : numB a = true) (h2 : numB b = true) (h3 : numB c = true) (hp : ¬ (30 : Int) < (p.size : Int)) (hq : ¬ (30 : Int) < (q.size : Int)) (e1 : p.toList.isEmpty = true) (e2 : q.toList.isEmpty = true) : Calls Tryz.prog 74 #[.agg #[.int .i64 a,.int .i64 b,.int .i64 c,.string p,.string q]] w fun e w' => e = .returned (.bool true) ∧ Below w.heap.size w w':=by
 have hp60 : p.size ≤ 60:=by omega
 have hq60 : q.size ≤ 60:=by omega
 go_enter Tryz.func74,Tryz.ntmps74
 go_wp2_with (first | (go_at_call 107;refine (num_any _ _).mono ?_;rintro e w' ⟨rfl,rfl⟩))
 go_ret
 exact ⟨rfl,(Below.refl _ w).alloc (Nat.le_refl _) _⟩
set_option maxRecDepth 100000 in
set_option maxHeartbeats 4000000 in
theorem check_eq (a b c : Int) (p q : ByteArray) (w : World) (h1 : numB a = true) (h2 : numB b = true) (h3 : numB c = true) (hp : ¬ (30 : Int) < (p.size : Int)) (hq : ¬ (30 : Int) < (q.size : Int)) (e1 : p.toList.isEmpty = true) (e2 : q.toList.isEmpty = false) : Calls Tryz.prog 74 #[.agg #[.int .i64 a,.int .i64 b,.int .i64 c,.string p,.string q]] w fun e w' => e = .returned (.bool (identsB q.data.toList)) ∧ Below w.heap.size w w':=by
 have hp60 : p.size ≤ 60:=by omega
 have hq60 : q.size ≤ 60:=by omega
 go_enter Tryz.func74,Tryz.ntmps74
 go_wp2_with (first | (go_at_call 107;refine (num_any _ _).mono ?_;rintro e w' ⟨rfl,rfl⟩) | (go_at_call 108;with_reducible refine (words_any _ _ hq60).mono ?_;rintro e w3 ⟨rfl,hb3⟩))
 go_ret
 exact ⟨rfl,below_box hb3⟩
set_option maxRecDepth 100000 in
set_option maxHeartbeats 4000000 in
theorem check_pf (a b c : Int) (p q : ByteArray) (w : World) (h1 : numB a = true) (h2 : numB b = true) (h3 : numB c = true) (hp : ¬ (30 : Int) < (p.size : Int)) (hq : ¬ (30 : Int) < (q.size : Int)) (e1 : p.toList.isEmpty = false) (HPQ : RowKit.Hid (preB p.data.toList = false)) : Calls Tryz.prog 74 #[.agg #[.int .i64 a,.int .i64 b,.int .i64 c,.string p,.string q]] w fun e w' => e = .returned (.bool false) ∧ Below w.heap.size w w':=by
 have hp60 : p.size ≤ 60:=by omega
 have hq60 : q.size ≤ 60:=by omega
 go_enter Tryz.func74,Tryz.ntmps74
 go_wp2_with (first | (go_at_call 107;refine (num_any _ _).mono ?_;rintro e w' ⟨rfl,rfl⟩) | (go_at_call 108;with_reducible refine (words_tight _ _ hp60).mono ?_;rintro e w2 ⟨rfl,hb⟩;obtain ⟨hcell,hfro⟩:=bcell hb;have HB:=Lib.hid (below_box hb);clear hb;rw [HPQ.out]))
 go_ret
 exact ⟨rfl,HB.out⟩
set_option maxRecDepth 100000 in
set_option maxHeartbeats 4000000 in
theorem check_pe (a b c : Int) (p q : ByteArray) (w : World) (h1 : numB a = true) (h2 : numB b = true) (h3 : numB c = true) (hp : ¬ (30 : Int) < (p.size : Int)) (hq : ¬ (30 : Int) < (q.size : Int)) (e1 : p.toList.isEmpty = false) (HPQ : RowKit.Hid (preB p.data.toList = true)) (e2 : q.toList.isEmpty = true) : Calls Tryz.prog 74 #[.agg #[.int .i64 a,.int .i64 b,.int .i64 c,.string p,.string q]] w fun e w' => e = .returned (.bool true) ∧ Below w.heap.size w w':=by
 have hp60 : p.size ≤ 60:=by omega
 have hq60 : q.size ≤ 60:=by omega
 go_enter Tryz.func74,Tryz.ntmps74
 go_wp2_with (first | (go_at_call 107;refine (num_any _ _).mono ?_;rintro e w' ⟨rfl,rfl⟩) | (go_at_call 108;with_reducible refine (words_tight _ _ hp60).mono ?_;rintro e w2 ⟨rfl,hb⟩;obtain ⟨hcell,hfro⟩:=bcell hb;have HB:=Lib.hid (below_box hb);clear hb;rw [HPQ.out]))
 go_ret
 exact ⟨rfl,HB.out⟩
set_option maxRecDepth 100000 in
set_option maxHeartbeats 4000000 in
theorem check_pq (a b c : Int) (p q : ByteArray) (w : World) (h1 : numB a = true) (h2 : numB b = true) (h3 : numB c = true) (hp : ¬ (30 : Int) < (p.size : Int)) (hq : ¬ (30 : Int) < (q.size : Int)) (e1 : p.toList.isEmpty = false) (HPQ : RowKit.Hid (preB p.data.toList = true)) (e2 : q.toList.isEmpty = false) : Calls Tryz.prog 74 #[.agg #[.int .i64 a,.int .i64 b,.int .i64 c,.string p,.string q]] w fun e w' => e = .returned (.bool (identsB q.data.toList)) ∧ Below w.heap.size w w':=by
 have hp60 : p.size ≤ 60:=by omega
 have hq60 : q.size ≤ 60:=by omega
 go_enter Tryz.func74,Tryz.ntmps74
 go_wp2_with (first | (go_at_call 108;with_reducible refine (words_any _ _ hq60).mono ?_;rintro e w3 ⟨rfl,hb3⟩) | (go_at_call 107;refine (num_any _ _).mono ?_;rintro e w' ⟨rfl,rfl⟩) | (go_at_call 108;with_reducible refine (words_tight _ _ hp60).mono ?_;rintro e w2 ⟨rfl,hb⟩;obtain ⟨hcell,hfro⟩:=bcell hb;have HB:=Lib.hid (below_box hb);have hsz:=hb.size;clear hb;rw [HPQ.out]))
 go_ret
 exact ⟨rfl,HB.out.trans (hb3.mono (by simp at hsz;omega))⟩
theorem ver_Check.calls (a0_0 : Int) (a0_1 : Int) (a0_2 : Int) (a0_3 : ByteArray) (a0_4 : ByteArray) (r : Bool) (w : World) (h : ver_Check.f a0_0 a0_1 a0_2 a0_3 a0_4 = some r) :
  Calls Tryz.prog 74 #[.agg #[.int .i64 a0_0,.int .i64 a0_1,.int .i64 a0_2,.string a0_3,.string a0_4]] w fun e w' => e = .returned (.bool r) ∧ Below w.heap.size w w':=by
 obtain rfl:=Option.some.inj h
 have hzp : a0_3.data.toList.length = a0_3.size:=rfl
 have hzq : a0_4.data.toList.length = a0_4.size:=rfl
 have te : ∀ s : ByteArray,s.toList.isEmpty = (s.data.toList == []):=fun s => by rw [toList_eq];cases s.data.toList <;> rfl
 unfold verB
 rw [hzp,hzq]
 cases h1 : numB a0_0 with
 | false => simpa using check_n1 _ _ _ _ _ w h1
 | true =>
 cases h2 : numB a0_1 with
 | false => simpa using check_n2 _ _ _ _ _ w h1 h2
 | true =>
 cases h3 : numB a0_2 with
 | false => simpa using check_n3 _ _ _ _ _ w h1 h2 h3
 | true =>
 by_cases hp : (30 : Int) < (a0_3.size : Int)
 ·rw [decide_eq_false (show ¬ a0_3.size ≤ 30 by omega)];simpa using check_p _ _ _ _ _ w h1 h2 h3 hp
 by_cases hq : (30 : Int) < (a0_4.size : Int)
 ·rw [decide_eq_false (show ¬ a0_4.size ≤ 30 by omega)];simpa using check_q _ _ _ _ _ w h1 h2 h3 hp hq
 rw [decide_eq_true (show a0_3.size ≤ 30 by omega),decide_eq_true (show a0_4.size ≤ 30 by omega),← te,← te]
 cases e1 : a0_3.toList.isEmpty with
 | true =>
  cases e2 : a0_4.toList.isEmpty with
  | true => simpa using check_ee _ _ _ _ _ w h1 h2 h3 hp hq e1 e2
  | false => simpa using check_eq _ _ _ _ _ w h1 h2 h3 hp hq e1 e2
 | false =>
  cases hpq : preB a0_3.data.toList with
  | false => simpa using check_pf _ _ _ _ _ w h1 h2 h3 hp hq e1 (Lib.hid hpq)
  | true =>
   cases e2 : a0_4.toList.isEmpty with
   | true => simpa using check_pe _ _ _ _ _ w h1 h2 h3 hp hq e1 (Lib.hid hpq) e2
   | false => simpa using check_pq _ _ _ _ _ w h1 h2 h3 hp hq e1 (Lib.hid hpq) e2
end Go.Proofs.YtennhpoemdaghaaGreatDoor.P
end
section
namespace Go.Proofs.YtennhpoemdaghaaGreatDoor.P
open Go.RowKit Go.Proofs.YtennhpoemdaghaaGreatDoorW.PrintWords Go.Proofs.YtennhpoemdaghaaGreatDoorW.PrintLast Go.Proofs.YtennhpoemdaghaaGreatDoorW.PrintMore
def Rf07_digits.l0 : Nat → ByteArray → Int → Option (Bool)
 | 0,_,_ => none
 | k + 1,x0,x3 => if x3 < (x0.size : Int) then (if 0 ≤ x3 then (if (bt x0 x3) < 48 then (some false) else (if (bt x0 x3) > 57 then (some false) else (Rf07_digits.l0 k x0 (wrap64 (x3 + 1))))) else (none)) else (some (x0.toList != ([] : List UInt8)))
def Rf07_digits.f (k : Nat) (a0 : ByteArray) : Option (Bool):=Rf07_digits.l0 k a0 0
set_option maxHeartbeats 8000000 in
set_option maxRecDepth 100000 in
theorem Rf07_digits.calls (k : Nat) (a0 : ByteArray) (r : Bool) (w : World) (h : Rf07_digits.f k a0 = some r) :
  Calls Tryz.prog 135 #[.string a0] w fun e w' => e = .returned (.bool r) ∧ Drawn0 w w':=by
 have H : (Rf07_digits.l0 k a0 0) = some r:=h
 clear h
 have H':=Aside0.mk H
 clear H
 go_enter Tryz.func135,Tryz.ntmps135
 go_wp2
 go_loopg [3] k (fun kq v3 w' => ∃ (x3_1 : Int),v3 = .int .i64 x3_1 ∧ Aside0 (Rf07_digits.l0 kq a0 x3_1 = some r) ∧ Aside0 (kq ≤ k) ∧ Drawn0 w w')
 case atStart => exact ⟨(0),q5_,H',⟨Nat.le_refl _⟩,by repeat (first | exact Drawn0.refl _ | apply Drawn0.step)⟩
 case round =>
  clear H'
  try clear c1
  obtain ⟨x3_1,rfl,HA,HK1,⟨m1,rfl⟩⟩:=hrel
  cases gk with
  | zero => exact absurd HA.out (by simp [Rf07_digits.l0])
  | succ k1 =>
   have H:=HA.out
   clear HA
   simp only [Rf07_digits.l0] at H
   by_cases c2 : x3_1 < (a0.size : Int)
   ·rw [if_pos c2] at H
    have c2b0:=decide_eq_true c2
    clear c2
    by_cases c3 : 0 ≤ x3_1
    ·rw [if_pos c3] at H
     have c3b0:=decide_eq_true c3
     clear c3
     by_cases c5 : (bt a0 x3_1) < 48
     ·rw [if_pos c5] at H
      have c5b0:=decide_eq_true c5
      clear c5
      obtain rfl:=Option.some.inj H
      have p4 : 0 ≤ (x3_1 : Int):=of_decide_eq_true q1_
      have q4 : x3_1 < (a0.size : Int):=of_decide_eq_true q1_
      have hx4:=bt_at a0 x3_1
      replace p4:=eq_true p4
      replace q4:=eq_true q4
      go_wp2
      go_ret
      exact ⟨q3_,q4_⟩
     ·rw [if_neg c5] at H
      have c5b0:=decide_eq_false c5
      clear c5
      by_cases c7 : (bt a0 x3_1) > 57
      ·rw [if_pos c7] at H
       have c7b0 : decide (57 < (bt a0 x3_1)) = true:=decide_eq_true c7
       clear c7
       obtain rfl:=Option.some.inj H
       have p4 : 0 ≤ (x3_1 : Int):=of_decide_eq_true q1_
       have q4 : x3_1 < (a0.size : Int):=of_decide_eq_true q1_
       have hx4:=bt_at a0 x3_1
       replace p4:=eq_true p4
       replace q4:=eq_true q4
       have p6 : 0 ≤ (x3_1 : Int):=of_decide_eq_true q1_
       have q6 : x3_1 < (a0.size : Int):=of_decide_eq_true q1_
       have hx6:=bt_at a0 x3_1
       replace p6:=eq_true p6
       replace q6:=eq_true q6
       go_wp2
       go_ret
       exact ⟨q3_,q4_⟩
      ·rw [if_neg c7] at H
       have c7b0 : decide (57 < (bt a0 x3_1)) = false:=decide_eq_false c7
       clear c7
       have H':=Aside0.mk H
       clear H
       have p4 : 0 ≤ (x3_1 : Int):=of_decide_eq_true q1_
       have q4 : x3_1 < (a0.size : Int):=of_decide_eq_true q1_
       have hx4:=bt_at a0 x3_1
       replace p4:=eq_true p4
       replace q4:=eq_true q4
       have p6 : 0 ≤ (x3_1 : Int):=of_decide_eq_true q1_
       have q6 : x3_1 < (a0.size : Int):=of_decide_eq_true q1_
       have hx6:=bt_at a0 x3_1
       replace p6:=eq_true p6
       replace q6:=eq_true q6
       go_wp2
       go_roundg k1
       case measure => have:=HK1.out;omega
       case rel => exact ⟨(wrap64 (x3_1 + 1)),q5_,H',⟨by have:=HK1.out;omega⟩,by repeat (first | exact Drawn0.refl _ | apply Drawn0.step)⟩
    ·rw [if_neg c3] at H
     exact absurd H q43_
   ·rw [if_neg c2] at H
    have c2b0:=decide_eq_false c2
    clear c2
    obtain rfl:=Option.some.inj H
    go_wp2
    go_ret
    exact ⟨q3_,q4_⟩
end Go.Proofs.YtennhpoemdaghaaGreatDoor.P
end
section
namespace Go.Proofs.YtennhpoemdaghaaGreatDoor.P
open Go.RowKit Go.Proofs.YtennhpoemdaghaaGreatDoorW.PrintWords Go.Proofs.YtennhpoemdaghaaGreatDoorW.PrintLast Go.Proofs.YtennhpoemdaghaaGreatDoorW.PrintMore
mutual
def Rf07_identifiers.l0 : Nat → Bool → List ByteArray → Int → Option (Bool)
 | 0,_,_,_ => none
 | k + 1,x1,x5,x6 => if x6 < (x5.length : Int) then (Rf07_identifiers.l1 k x1 x5 x6 0) else (some true)
def Rf07_identifiers.l1 : Nat → Bool → List ByteArray → Int → Int → Option (Bool)
 | 0,_,_,_,_ => none
 | k + 1,x1,x5,x6,x7 => if 0 ≤ x6 then (if x6 < (x5.length : Int) then (if x7 < ((rdOf ByteArray.empty x5 x6).size : Int) then (if 0 ≤ x7 then (if (bt (rdOf ByteArray.empty x5 x6) x7) ≥ 97 then (if ((bt (rdOf ByteArray.empty x5 x6) x7) ≤ 122) then (Rf07_identifiers.l1 k x1 x5 x6 (wrap64 (x7 + 1))) else (if (bt (rdOf ByteArray.empty x5 x6) x7) ≥ 65 then (if ((bt (rdOf ByteArray.empty x5 x6) x7) ≤ 90) then (Rf07_identifiers.l1 k x1 x5 x6 (wrap64 (x7 + 1))) else (if (bt (rdOf ByteArray.empty x5 x6) x7) ≥ 48 then (if ((bt (rdOf ByteArray.empty x5 x6) x7) ≤ 57) then (Rf07_identifiers.l1 k x1 x5 x6 (wrap64 (x7 + 1))) else (if (bt (rdOf ByteArray.empty x5 x6) x7) = 45 then (Rf07_identifiers.l1 k x1 x5 x6 (wrap64 (x7 + 1))) else (some false))) else (if (bt (rdOf ByteArray.empty x5 x6) x7) = 45 then (Rf07_identifiers.l1 k x1 x5 x6 (wrap64 (x7 + 1))) else (some false)))) else (if (bt (rdOf ByteArray.empty x5 x6) x7) ≥ 48 then (if ((bt (rdOf ByteArray.empty x5 x6) x7) ≤ 57) then (Rf07_identifiers.l1 k x1 x5 x6 (wrap64 (x7 + 1))) else (if (bt (rdOf ByteArray.empty x5 x6) x7) = 45 then (Rf07_identifiers.l1 k x1 x5 x6 (wrap64 (x7 + 1))) else (some false))) else (if (bt (rdOf ByteArray.empty x5 x6) x7) = 45 then (Rf07_identifiers.l1 k x1 x5 x6 (wrap64 (x7 + 1))) else (some false))))) else (if (bt (rdOf ByteArray.empty x5 x6) x7) ≥ 65 then (if ((bt (rdOf ByteArray.empty x5 x6) x7) ≤ 90) then (Rf07_identifiers.l1 k x1 x5 x6 (wrap64 (x7 + 1))) else (if (bt (rdOf ByteArray.empty x5 x6) x7) ≥ 48 then (if ((bt (rdOf ByteArray.empty x5 x6) x7) ≤ 57) then (Rf07_identifiers.l1 k x1 x5 x6 (wrap64 (x7 + 1))) else (if (bt (rdOf ByteArray.empty x5 x6) x7) = 45 then (Rf07_identifiers.l1 k x1 x5 x6 (wrap64 (x7 + 1))) else (some false))) else (if (bt (rdOf ByteArray.empty x5 x6) x7) = 45 then (Rf07_identifiers.l1 k x1 x5 x6 (wrap64 (x7 + 1))) else (some false)))) else (if (bt (rdOf ByteArray.empty x5 x6) x7) ≥ 48 then (if ((bt (rdOf ByteArray.empty x5 x6) x7) ≤ 57) then (Rf07_identifiers.l1 k x1 x5 x6 (wrap64 (x7 + 1))) else (if (bt (rdOf ByteArray.empty x5 x6) x7) = 45 then (Rf07_identifiers.l1 k x1 x5 x6 (wrap64 (x7 + 1))) else (some false))) else (if (bt (rdOf ByteArray.empty x5 x6) x7) = 45 then (Rf07_identifiers.l1 k x1 x5 x6 (wrap64 (x7 + 1))) else (some false))))) else (none)) else (if (rdOf ByteArray.empty x5 x6).toList = ([] : List UInt8) then (some false) else (if x1 = true then (Rf07_identifiers.l0 k x1 x5 (wrap64 (x6 + 1))) else ((Rf07_digits.f k (rdOf ByteArray.empty x5 x6)).bind fun t108 => (if t108 = true then (if ((rdOf ByteArray.empty x5 x6).size : Int) > 1 then (if 0 < ((rdOf ByteArray.empty x5 x6).size : Int) then (if (bt (rdOf ByteArray.empty x5 x6) 0) = 48 then (some false) else (Rf07_identifiers.l0 k x1 x5 (wrap64 (x6 + 1)))) else (none)) else (Rf07_identifiers.l0 k x1 x5 (wrap64 (x6 + 1)))) else (Rf07_identifiers.l0 k x1 x5 (wrap64 (x6 + 1)))))))) else (none)) else (none)
end
def Rf07_identifiers.f (k : Nat) (a0 : ByteArray) (a1 : Bool) : Option (Bool):=(Rf05_Split.f k a0 46).bind fun t101 => (Rf07_identifiers.l0 k a1 t101 0)
set_option maxHeartbeats 8000000 in
set_option maxRecDepth 100000 in
theorem Rf07_identifiers.calls (k : Nat) (a0 : ByteArray) (a1 : Bool) (r : Bool) (w : World) (h : Rf07_identifiers.f k a0 a1 = some r) :
  Calls Tryz.prog 96 #[.string a0,.bool a1] w fun e w' => e = .returned (.bool r) ∧ Below w.heap.size w w':=by
 have HB:=Aside0.mk (Below.refl w.heap.size w)
 have H : ((Rf05_Split.f k a0 46).bind fun t101 => (Rf07_identifiers.l0 k a1 t101 0)) = some r:=h
 clear h
 obtain ⟨t101,A30,H⟩:=Option.bind_eq_some_iff.mp H
 have A3:=Aside0.mk A30
 clear A30
 have H':=Aside0.mk H
 clear H
 go_enter Tryz.func96,Tryz.ntmps96
 go_wp2_with (first | ((with_reducible refine gate_callee (f:=98) rfl ?_);refine gl_ 10 Tryz.func98 #[.string a0,.int .u8 46] ?_;(with_reducible refine (Rf05_Split.calls k a0 46 t101 _ A3.out).mono ?_);rintro e w4 ⟨v102,rfl,ho0,hb⟩;refine ⟨_,rfl,?_⟩;have HO103:=Aside0.mk (Kd.R_lower ho0 (below_size bh_));replace HB:=Aside0.mk (below_step bh_ hb);(try clear hb);(try clear ho0)))
 go_loopg [6] k (fun kq v6 w' => ∃ (x6_1 : Int),v6 = .int .i64 x6_1 ∧ Aside0 (Rf07_identifiers.l0 kq a1 t101 x6_1 = some r) ∧ Aside0 (kq ≤ k) ∧ Aside0 (Kd.R Kd.string 9 w' w.heap.size (fun _ => True) v102 t101) ∧ Aside0 (Below w.heap.size w w'))
 case atStart => exact ⟨(0),q5_,H',⟨Nat.le_refl _⟩,⟨by (with_reducible repeat (first | apply Kd.R_alloc | apply Kd.R_drewN | apply Kd.R_drew));exact HO103.out⟩,⟨by repeat (first | (with_reducible first | exact HB.out | apply below_alloc | apply pw_below_drewN | apply below_drew1) | exact HB.out)⟩⟩
 case round =>
  clear H'
  try clear p2
  obtain ⟨x6_1,rfl,HA,HK1,HO_5,HB⟩:=hrel
  cases gk with
  | zero => exact absurd HA.out (by simp [Rf07_identifiers.l0])
  | succ k1 =>
   have H:=HA.out
   clear HA
   simp only [Rf07_identifiers.l0] at H
   by_cases c5 : x6_1 < (t101.length : Int)
   ·rw [if_pos c5] at H
    have c5b0:=decide_eq_true c5
    clear c5
    have H':=Aside0.mk H
    clear H
    obtain ⟨Ao6,co6,eo6⟩:=Kd.R_slice HO_5.out
    subst eo6
    go_wp2
    go_loopg [7] k1 (fun kq v7 w' => ∃ (x7_2 : Int),v7 = .int .i64 x7_2 ∧ Aside0 (Rf07_identifiers.l1 kq a1 t101 x6_1 x7_2 = some r) ∧ Aside0 (kq ≤ k1) ∧ Aside0 (Kd.R Kd.string 9 w' w.heap.size (fun _ => True) (.slice Ao6 t101.length co6) t101) ∧ Aside0 (Below w.heap.size w w'))
    case atStart => exact ⟨(0),q5_,H',⟨Nat.le_refl _⟩,⟨by (with_reducible repeat (first | apply Kd.R_alloc | apply Kd.R_drewN | apply Kd.R_drew));exact HO_5.out⟩,⟨by repeat (first | (with_reducible first | exact HB.out | apply below_alloc | apply pw_below_drewN | apply below_drew1) | exact HB.out)⟩⟩
    case round =>
     clear H'
     try clear p2
     try clear c5
     try clear c5b0
     try clear p2
     obtain ⟨x7_2,rfl,HA,HK2,HO_5,HB⟩:=hrel
     cases gk with
     | zero => exact absurd HA.out (by simp [Rf07_identifiers.l1])
     | succ k2 =>
      have H:=HA.out
      clear HA
      simp only [Rf07_identifiers.l1] at H
      by_cases c7 : 0 ≤ x6_1
      ·rw [if_pos c7] at H
       have c7b0:=decide_eq_true c7
       clear c7
       by_cases c8 : x6_1 < (t101.length : Int)
       ·rw [if_pos c8] at H
        have c8b0:=decide_eq_true c8
        clear c8
        by_cases c9 : x7_2 < ((rdOf ByteArray.empty t101 x6_1).size : Int)
        ·rw [if_pos c9] at H
         have c9b0:=decide_eq_true c9
         clear c9
         by_cases c10 : 0 ≤ x7_2
         ·rw [if_pos c10] at H
          have c10b0:=decide_eq_true c10
          clear c10
          by_cases c12 : (bt (rdOf ByteArray.empty t101 x6_1) x7_2) ≥ 97
          ·rw [if_pos c12] at H
           have c12b0 : decide (97 ≤ (bt (rdOf ByteArray.empty t101 x6_1) x7_2)) = true:=decide_eq_true c12
           clear c12
           by_cases c13 : ((bt (rdOf ByteArray.empty t101 x6_1) x7_2) ≤ 122)
           ·rw [if_pos c13] at H
            have c13b0 : decide ((bt (rdOf ByteArray.empty t101 x6_1) x7_2) ≤ 122) = true:=decide_eq_true c13
            clear c13
            have H':=Aside0.mk H
            clear H
            have p104 : 0 ≤ (x6_1 : Int):=of_decide_eq_true q1_
            have q104 : x6_1 < (t101.length : Int):=of_decide_eq_true q1_
            obtain ⟨ad104,e104,hx104_0⟩:=Kd.at_string (Kd.R_reads' HO_5.out).2.2 x6_1 p104 q104
            cases e104
            replace p104:=eq_true p104
            replace q104:=eq_true q104
            have p105 : 0 ≤ (x6_1 : Int):=of_decide_eq_true q1_
            have q105 : x6_1 < (t101.length : Int):=of_decide_eq_true q1_
            obtain ⟨ad105,e105,hx105_0⟩:=Kd.at_string (Kd.R_reads' HO_5.out).2.2 x6_1 p105 q105
            obtain rfl : ad104 = ad105:=q39_
            replace p105:=eq_true p105
            replace q105:=eq_true q105
            have p11 : 0 ≤ (x7_2 : Int):=of_decide_eq_true q1_
            have q11 : x7_2 < ((rdOf ByteArray.empty t101 x6_1).size : Int):=of_decide_eq_true q1_
            have hx11:=bt_at (rdOf ByteArray.empty t101 x6_1) x7_2
            replace p11:=eq_true p11
            replace q11:=eq_true q11
            go_wp2
            go_roundg k2
            case measure => have:=HK1.out;have:=HK2.out;omega
            case rel => exact ⟨(wrap64 (x7_2 + 1)),q5_,H',⟨by have:=HK1.out;have:=HK2.out;omega⟩,⟨by (with_reducible repeat (first | apply Kd.R_alloc | apply Kd.R_drewN | apply Kd.R_drew));exact HO_5.out⟩,⟨by repeat (first | (with_reducible first | exact HB.out | apply below_alloc | apply pw_below_drewN | apply below_drew1) | exact HB.out)⟩⟩
           ·rw [if_neg c13] at H
            have c13b0 : decide ((bt (rdOf ByteArray.empty t101 x6_1) x7_2) ≤ 122) = false:=decide_eq_false c13
            clear c13
            by_cases c14 : (bt (rdOf ByteArray.empty t101 x6_1) x7_2) ≥ 65
            ·rw [if_pos c14] at H
             have c14b0 : decide (65 ≤ (bt (rdOf ByteArray.empty t101 x6_1) x7_2)) = true:=decide_eq_true c14
             clear c14
             by_cases c15 : ((bt (rdOf ByteArray.empty t101 x6_1) x7_2) ≤ 90)
             ·rw [if_pos c15] at H
              have c15b0 : decide ((bt (rdOf ByteArray.empty t101 x6_1) x7_2) ≤ 90) = true:=decide_eq_true c15
              clear c15
              have H':=Aside0.mk H
              clear H
              have p104 : 0 ≤ (x6_1 : Int):=of_decide_eq_true q1_
              have q104 : x6_1 < (t101.length : Int):=of_decide_eq_true q1_
              obtain ⟨ad104,e104,hx104_0⟩:=Kd.at_string (Kd.R_reads' HO_5.out).2.2 x6_1 p104 q104
              cases e104
              replace p104:=eq_true p104
              replace q104:=eq_true q104
              have p105 : 0 ≤ (x6_1 : Int):=of_decide_eq_true q1_
              have q105 : x6_1 < (t101.length : Int):=of_decide_eq_true q1_
              obtain ⟨ad105,e105,hx105_0⟩:=Kd.at_string (Kd.R_reads' HO_5.out).2.2 x6_1 p105 q105
              obtain rfl : ad104 = ad105:=q39_
              replace p105:=eq_true p105
              replace q105:=eq_true q105
              have p11 : 0 ≤ (x7_2 : Int):=of_decide_eq_true q1_
              have q11 : x7_2 < ((rdOf ByteArray.empty t101 x6_1).size : Int):=of_decide_eq_true q1_
              have hx11:=bt_at (rdOf ByteArray.empty t101 x6_1) x7_2
              replace p11:=eq_true p11
              replace q11:=eq_true q11
              go_wp2
              go_roundg k2
              case measure => have:=HK1.out;have:=HK2.out;omega
              case rel => exact ⟨(wrap64 (x7_2 + 1)),q5_,H',⟨by have:=HK1.out;have:=HK2.out;omega⟩,⟨by (with_reducible repeat (first | apply Kd.R_alloc | apply Kd.R_drewN | apply Kd.R_drew));exact HO_5.out⟩,⟨by repeat (first | (with_reducible first | exact HB.out | apply below_alloc | apply pw_below_drewN | apply below_drew1) | exact HB.out)⟩⟩
             ·rw [if_neg c15] at H
              have c15b0 : decide ((bt (rdOf ByteArray.empty t101 x6_1) x7_2) ≤ 90) = false:=decide_eq_false c15
              clear c15
              by_cases c16 : (bt (rdOf ByteArray.empty t101 x6_1) x7_2) ≥ 48
              ·rw [if_pos c16] at H
               have c16b0 : decide (48 ≤ (bt (rdOf ByteArray.empty t101 x6_1) x7_2)) = true:=decide_eq_true c16
               clear c16
               by_cases c17 : ((bt (rdOf ByteArray.empty t101 x6_1) x7_2) ≤ 57)
               ·rw [if_pos c17] at H
                have c17b0 : decide ((bt (rdOf ByteArray.empty t101 x6_1) x7_2) ≤ 57) = true:=decide_eq_true c17
                clear c17
                have H':=Aside0.mk H
                clear H
                have p104 : 0 ≤ (x6_1 : Int):=of_decide_eq_true q1_
                have q104 : x6_1 < (t101.length : Int):=of_decide_eq_true q1_
                obtain ⟨ad104,e104,hx104_0⟩:=Kd.at_string (Kd.R_reads' HO_5.out).2.2 x6_1 p104 q104
                cases e104
                replace p104:=eq_true p104
                replace q104:=eq_true q104
                have p105 : 0 ≤ (x6_1 : Int):=of_decide_eq_true q1_
                have q105 : x6_1 < (t101.length : Int):=of_decide_eq_true q1_
                obtain ⟨ad105,e105,hx105_0⟩:=Kd.at_string (Kd.R_reads' HO_5.out).2.2 x6_1 p105 q105
                obtain rfl : ad104 = ad105:=q39_
                replace p105:=eq_true p105
                replace q105:=eq_true q105
                have p11 : 0 ≤ (x7_2 : Int):=of_decide_eq_true q1_
                have q11 : x7_2 < ((rdOf ByteArray.empty t101 x6_1).size : Int):=of_decide_eq_true q1_
                have hx11:=bt_at (rdOf ByteArray.empty t101 x6_1) x7_2
                replace p11:=eq_true p11
                replace q11:=eq_true q11
                go_wp2
                go_roundg k2
                case measure => have:=HK1.out;have:=HK2.out;omega
                case rel => exact ⟨(wrap64 (x7_2 + 1)),q5_,H',⟨by have:=HK1.out;have:=HK2.out;omega⟩,⟨by (with_reducible repeat (first | apply Kd.R_alloc | apply Kd.R_drewN | apply Kd.R_drew));exact HO_5.out⟩,⟨by repeat (first | (with_reducible first | exact HB.out | apply below_alloc | apply pw_below_drewN | apply below_drew1) | exact HB.out)⟩⟩
               ·rw [if_neg c17] at H
                have c17b0 : decide ((bt (rdOf ByteArray.empty t101 x6_1) x7_2) ≤ 57) = false:=decide_eq_false c17
                clear c17
                by_cases c18 : (bt (rdOf ByteArray.empty t101 x6_1) x7_2) = 45
                ·rw [if_pos c18] at H
                 have c18b0:=beq_iff_eq.mpr c18
                 have c18b1:=bne_eq_false_iff_eq.mpr c18
                 clear c18
                 have H':=Aside0.mk H
                 clear H
                 have p104 : 0 ≤ (x6_1 : Int):=of_decide_eq_true q1_
                 have q104 : x6_1 < (t101.length : Int):=of_decide_eq_true q1_
                 obtain ⟨ad104,e104,hx104_0⟩:=Kd.at_string (Kd.R_reads' HO_5.out).2.2 x6_1 p104 q104
                 cases e104
                 replace p104:=eq_true p104
                 replace q104:=eq_true q104
                 have p105 : 0 ≤ (x6_1 : Int):=of_decide_eq_true q1_
                 have q105 : x6_1 < (t101.length : Int):=of_decide_eq_true q1_
                 obtain ⟨ad105,e105,hx105_0⟩:=Kd.at_string (Kd.R_reads' HO_5.out).2.2 x6_1 p105 q105
                 obtain rfl : ad104 = ad105:=q39_
                 replace p105:=eq_true p105
                 replace q105:=eq_true q105
                 have p11 : 0 ≤ (x7_2 : Int):=of_decide_eq_true q1_
                 have q11 : x7_2 < ((rdOf ByteArray.empty t101 x6_1).size : Int):=of_decide_eq_true q1_
                 have hx11:=bt_at (rdOf ByteArray.empty t101 x6_1) x7_2
                 replace p11:=eq_true p11
                 replace q11:=eq_true q11
                 go_wp2
                 go_roundg k2
                 case measure => have:=HK1.out;have:=HK2.out;omega
                 case rel => exact ⟨(wrap64 (x7_2 + 1)),q5_,H',⟨by have:=HK1.out;have:=HK2.out;omega⟩,⟨by (with_reducible repeat (first | apply Kd.R_alloc | apply Kd.R_drewN | apply Kd.R_drew));exact HO_5.out⟩,⟨by repeat (first | (with_reducible first | exact HB.out | apply below_alloc | apply pw_below_drewN | apply below_drew1) | exact HB.out)⟩⟩
                ·rw [if_neg c18] at H
                 have c18b0:=beq_eq_false_iff_ne.mpr c18
                 have c18b1:=bne_iff_ne.mpr c18
                 obtain rfl:=Option.some.inj H
                 have p104 : 0 ≤ (x6_1 : Int):=of_decide_eq_true q1_
                 have q104 : x6_1 < (t101.length : Int):=of_decide_eq_true q1_
                 obtain ⟨ad104,e104,hx104_0⟩:=Kd.at_string (Kd.R_reads' HO_5.out).2.2 x6_1 p104 q104
                 cases e104
                 replace p104:=eq_true p104
                 replace q104:=eq_true q104
                 have p105 : 0 ≤ (x6_1 : Int):=of_decide_eq_true q1_
                 have q105 : x6_1 < (t101.length : Int):=of_decide_eq_true q1_
                 obtain ⟨ad105,e105,hx105_0⟩:=Kd.at_string (Kd.R_reads' HO_5.out).2.2 x6_1 p105 q105
                 obtain rfl : ad104 = ad105:=q39_
                 replace p105:=eq_true p105
                 replace q105:=eq_true q105
                 have p11 : 0 ≤ (x7_2 : Int):=of_decide_eq_true q1_
                 have q11 : x7_2 < ((rdOf ByteArray.empty t101 x6_1).size : Int):=of_decide_eq_true q1_
                 have hx11:=bt_at (rdOf ByteArray.empty t101 x6_1) x7_2
                 replace p11:=eq_true p11
                 replace q11:=eq_true q11
                 go_wp2
                 go_ret
                 exact ⟨q2_,bh_⟩
              ·rw [if_neg c16] at H
               have c16b0 : decide (48 ≤ (bt (rdOf ByteArray.empty t101 x6_1) x7_2)) = false:=decide_eq_false c16
               clear c16
               by_cases c19 : (bt (rdOf ByteArray.empty t101 x6_1) x7_2) = 45
               ·rw [if_pos c19] at H
                have c19b0:=beq_iff_eq.mpr c19
                have c19b1:=bne_eq_false_iff_eq.mpr c19
                clear c19
                have H':=Aside0.mk H
                clear H
                have p104 : 0 ≤ (x6_1 : Int):=of_decide_eq_true q1_
                have q104 : x6_1 < (t101.length : Int):=of_decide_eq_true q1_
                obtain ⟨ad104,e104,hx104_0⟩:=Kd.at_string (Kd.R_reads' HO_5.out).2.2 x6_1 p104 q104
                cases e104
                replace p104:=eq_true p104
                replace q104:=eq_true q104
                have p105 : 0 ≤ (x6_1 : Int):=of_decide_eq_true q1_
                have q105 : x6_1 < (t101.length : Int):=of_decide_eq_true q1_
                obtain ⟨ad105,e105,hx105_0⟩:=Kd.at_string (Kd.R_reads' HO_5.out).2.2 x6_1 p105 q105
                obtain rfl : ad104 = ad105:=q39_
                replace p105:=eq_true p105
                replace q105:=eq_true q105
                have p11 : 0 ≤ (x7_2 : Int):=of_decide_eq_true q1_
                have q11 : x7_2 < ((rdOf ByteArray.empty t101 x6_1).size : Int):=of_decide_eq_true q1_
                have hx11:=bt_at (rdOf ByteArray.empty t101 x6_1) x7_2
                replace p11:=eq_true p11
                replace q11:=eq_true q11
                go_wp2
                go_roundg k2
                case measure => have:=HK1.out;have:=HK2.out;omega
                case rel => exact ⟨(wrap64 (x7_2 + 1)),q5_,H',⟨by have:=HK1.out;have:=HK2.out;omega⟩,⟨by (with_reducible repeat (first | apply Kd.R_alloc | apply Kd.R_drewN | apply Kd.R_drew));exact HO_5.out⟩,⟨by repeat (first | (with_reducible first | exact HB.out | apply below_alloc | apply pw_below_drewN | apply below_drew1) | exact HB.out)⟩⟩
               ·rw [if_neg c19] at H
                have c19b0:=beq_eq_false_iff_ne.mpr c19
                have c19b1:=bne_iff_ne.mpr c19
                obtain rfl:=Option.some.inj H
                have p104 : 0 ≤ (x6_1 : Int):=of_decide_eq_true q1_
                have q104 : x6_1 < (t101.length : Int):=of_decide_eq_true q1_
                obtain ⟨ad104,e104,hx104_0⟩:=Kd.at_string (Kd.R_reads' HO_5.out).2.2 x6_1 p104 q104
                cases e104
                replace p104:=eq_true p104
                replace q104:=eq_true q104
                have p105 : 0 ≤ (x6_1 : Int):=of_decide_eq_true q1_
                have q105 : x6_1 < (t101.length : Int):=of_decide_eq_true q1_
                obtain ⟨ad105,e105,hx105_0⟩:=Kd.at_string (Kd.R_reads' HO_5.out).2.2 x6_1 p105 q105
                obtain rfl : ad104 = ad105:=q39_
                replace p105:=eq_true p105
                replace q105:=eq_true q105
                have p11 : 0 ≤ (x7_2 : Int):=of_decide_eq_true q1_
                have q11 : x7_2 < ((rdOf ByteArray.empty t101 x6_1).size : Int):=of_decide_eq_true q1_
                have hx11:=bt_at (rdOf ByteArray.empty t101 x6_1) x7_2
                replace p11:=eq_true p11
                replace q11:=eq_true q11
                go_wp2
                go_ret
                exact ⟨q2_,bh_⟩
            ·rw [if_neg c14] at H
             have c14b0 : decide (65 ≤ (bt (rdOf ByteArray.empty t101 x6_1) x7_2)) = false:=decide_eq_false c14
             clear c14
             by_cases c20 : (bt (rdOf ByteArray.empty t101 x6_1) x7_2) ≥ 48
             ·rw [if_pos c20] at H
              have c20b0 : decide (48 ≤ (bt (rdOf ByteArray.empty t101 x6_1) x7_2)) = true:=decide_eq_true c20
              clear c20
              by_cases c21 : ((bt (rdOf ByteArray.empty t101 x6_1) x7_2) ≤ 57)
              ·rw [if_pos c21] at H
               have c21b0 : decide ((bt (rdOf ByteArray.empty t101 x6_1) x7_2) ≤ 57) = true:=decide_eq_true c21
               clear c21
               have H':=Aside0.mk H
               clear H
               have p104 : 0 ≤ (x6_1 : Int):=of_decide_eq_true q1_
               have q104 : x6_1 < (t101.length : Int):=of_decide_eq_true q1_
               obtain ⟨ad104,e104,hx104_0⟩:=Kd.at_string (Kd.R_reads' HO_5.out).2.2 x6_1 p104 q104
               cases e104
               replace p104:=eq_true p104
               replace q104:=eq_true q104
               have p105 : 0 ≤ (x6_1 : Int):=of_decide_eq_true q1_
               have q105 : x6_1 < (t101.length : Int):=of_decide_eq_true q1_
               obtain ⟨ad105,e105,hx105_0⟩:=Kd.at_string (Kd.R_reads' HO_5.out).2.2 x6_1 p105 q105
               obtain rfl : ad104 = ad105:=q39_
               replace p105:=eq_true p105
               replace q105:=eq_true q105
               have p11 : 0 ≤ (x7_2 : Int):=of_decide_eq_true q1_
               have q11 : x7_2 < ((rdOf ByteArray.empty t101 x6_1).size : Int):=of_decide_eq_true q1_
               have hx11:=bt_at (rdOf ByteArray.empty t101 x6_1) x7_2
               replace p11:=eq_true p11
               replace q11:=eq_true q11
               go_wp2
               go_roundg k2
               case measure => have:=HK1.out;have:=HK2.out;omega
               case rel => exact ⟨(wrap64 (x7_2 + 1)),q5_,H',⟨by have:=HK1.out;have:=HK2.out;omega⟩,⟨by (with_reducible repeat (first | apply Kd.R_alloc | apply Kd.R_drewN | apply Kd.R_drew));exact HO_5.out⟩,⟨by repeat (first | (with_reducible first | exact HB.out | apply below_alloc | apply pw_below_drewN | apply below_drew1) | exact HB.out)⟩⟩
              ·rw [if_neg c21] at H
               have c21b0 : decide ((bt (rdOf ByteArray.empty t101 x6_1) x7_2) ≤ 57) = false:=decide_eq_false c21
               clear c21
               by_cases c22 : (bt (rdOf ByteArray.empty t101 x6_1) x7_2) = 45
               ·rw [if_pos c22] at H
                have c22b0:=beq_iff_eq.mpr c22
                have c22b1:=bne_eq_false_iff_eq.mpr c22
                clear c22
                have H':=Aside0.mk H
                clear H
                have p104 : 0 ≤ (x6_1 : Int):=of_decide_eq_true q1_
                have q104 : x6_1 < (t101.length : Int):=of_decide_eq_true q1_
                obtain ⟨ad104,e104,hx104_0⟩:=Kd.at_string (Kd.R_reads' HO_5.out).2.2 x6_1 p104 q104
                cases e104
                replace p104:=eq_true p104
                replace q104:=eq_true q104
                have p105 : 0 ≤ (x6_1 : Int):=of_decide_eq_true q1_
                have q105 : x6_1 < (t101.length : Int):=of_decide_eq_true q1_
                obtain ⟨ad105,e105,hx105_0⟩:=Kd.at_string (Kd.R_reads' HO_5.out).2.2 x6_1 p105 q105
                obtain rfl : ad104 = ad105:=q39_
                replace p105:=eq_true p105
                replace q105:=eq_true q105
                have p11 : 0 ≤ (x7_2 : Int):=of_decide_eq_true q1_
                have q11 : x7_2 < ((rdOf ByteArray.empty t101 x6_1).size : Int):=of_decide_eq_true q1_
                have hx11:=bt_at (rdOf ByteArray.empty t101 x6_1) x7_2
                replace p11:=eq_true p11
                replace q11:=eq_true q11
                go_wp2
                go_roundg k2
                case measure => have:=HK1.out;have:=HK2.out;omega
                case rel => exact ⟨(wrap64 (x7_2 + 1)),q5_,H',⟨by have:=HK1.out;have:=HK2.out;omega⟩,⟨by (with_reducible repeat (first | apply Kd.R_alloc | apply Kd.R_drewN | apply Kd.R_drew));exact HO_5.out⟩,⟨by repeat (first | (with_reducible first | exact HB.out | apply below_alloc | apply pw_below_drewN | apply below_drew1) | exact HB.out)⟩⟩
               ·rw [if_neg c22] at H
                have c22b0:=beq_eq_false_iff_ne.mpr c22
                have c22b1:=bne_iff_ne.mpr c22
                obtain rfl:=Option.some.inj H
                have p104 : 0 ≤ (x6_1 : Int):=of_decide_eq_true q1_
                have q104 : x6_1 < (t101.length : Int):=of_decide_eq_true q1_
                obtain ⟨ad104,e104,hx104_0⟩:=Kd.at_string (Kd.R_reads' HO_5.out).2.2 x6_1 p104 q104
                cases e104
                replace p104:=eq_true p104
                replace q104:=eq_true q104
                have p105 : 0 ≤ (x6_1 : Int):=of_decide_eq_true q1_
                have q105 : x6_1 < (t101.length : Int):=of_decide_eq_true q1_
                obtain ⟨ad105,e105,hx105_0⟩:=Kd.at_string (Kd.R_reads' HO_5.out).2.2 x6_1 p105 q105
                obtain rfl : ad104 = ad105:=q39_
                replace p105:=eq_true p105
                replace q105:=eq_true q105
                have p11 : 0 ≤ (x7_2 : Int):=of_decide_eq_true q1_
                have q11 : x7_2 < ((rdOf ByteArray.empty t101 x6_1).size : Int):=of_decide_eq_true q1_
                have hx11:=bt_at (rdOf ByteArray.empty t101 x6_1) x7_2
                replace p11:=eq_true p11
                replace q11:=eq_true q11
                go_wp2
                go_ret
                exact ⟨q2_,bh_⟩
             ·rw [if_neg c20] at H
              have c20b0 : decide (48 ≤ (bt (rdOf ByteArray.empty t101 x6_1) x7_2)) = false:=decide_eq_false c20
              clear c20
              by_cases c23 : (bt (rdOf ByteArray.empty t101 x6_1) x7_2) = 45
              ·rw [if_pos c23] at H
               have c23b0:=beq_iff_eq.mpr c23
               have c23b1:=bne_eq_false_iff_eq.mpr c23
               clear c23
               have H':=Aside0.mk H
               clear H
               have p104 : 0 ≤ (x6_1 : Int):=of_decide_eq_true q1_
               have q104 : x6_1 < (t101.length : Int):=of_decide_eq_true q1_
               obtain ⟨ad104,e104,hx104_0⟩:=Kd.at_string (Kd.R_reads' HO_5.out).2.2 x6_1 p104 q104
               cases e104
               replace p104:=eq_true p104
               replace q104:=eq_true q104
               have p105 : 0 ≤ (x6_1 : Int):=of_decide_eq_true q1_
               have q105 : x6_1 < (t101.length : Int):=of_decide_eq_true q1_
               obtain ⟨ad105,e105,hx105_0⟩:=Kd.at_string (Kd.R_reads' HO_5.out).2.2 x6_1 p105 q105
               obtain rfl : ad104 = ad105:=q39_
               replace p105:=eq_true p105
               replace q105:=eq_true q105
               have p11 : 0 ≤ (x7_2 : Int):=of_decide_eq_true q1_
               have q11 : x7_2 < ((rdOf ByteArray.empty t101 x6_1).size : Int):=of_decide_eq_true q1_
               have hx11:=bt_at (rdOf ByteArray.empty t101 x6_1) x7_2
               replace p11:=eq_true p11
               replace q11:=eq_true q11
               go_wp2
               go_roundg k2
               case measure => have:=HK1.out;have:=HK2.out;omega
               case rel => exact ⟨(wrap64 (x7_2 + 1)),q5_,H',⟨by have:=HK1.out;have:=HK2.out;omega⟩,⟨by (with_reducible repeat (first | apply Kd.R_alloc | apply Kd.R_drewN | apply Kd.R_drew));exact HO_5.out⟩,⟨by repeat (first | (with_reducible first | exact HB.out | apply below_alloc | apply pw_below_drewN | apply below_drew1) | exact HB.out)⟩⟩
              ·rw [if_neg c23] at H
               have c23b0:=beq_eq_false_iff_ne.mpr c23
               have c23b1:=bne_iff_ne.mpr c23
               obtain rfl:=Option.some.inj H
               have p104 : 0 ≤ (x6_1 : Int):=of_decide_eq_true q1_
               have q104 : x6_1 < (t101.length : Int):=of_decide_eq_true q1_
               obtain ⟨ad104,e104,hx104_0⟩:=Kd.at_string (Kd.R_reads' HO_5.out).2.2 x6_1 p104 q104
               cases e104
               replace p104:=eq_true p104
               replace q104:=eq_true q104
               have p105 : 0 ≤ (x6_1 : Int):=of_decide_eq_true q1_
               have q105 : x6_1 < (t101.length : Int):=of_decide_eq_true q1_
               obtain ⟨ad105,e105,hx105_0⟩:=Kd.at_string (Kd.R_reads' HO_5.out).2.2 x6_1 p105 q105
               obtain rfl : ad104 = ad105:=q39_
               replace p105:=eq_true p105
               replace q105:=eq_true q105
               have p11 : 0 ≤ (x7_2 : Int):=of_decide_eq_true q1_
               have q11 : x7_2 < ((rdOf ByteArray.empty t101 x6_1).size : Int):=of_decide_eq_true q1_
               have hx11:=bt_at (rdOf ByteArray.empty t101 x6_1) x7_2
               replace p11:=eq_true p11
               replace q11:=eq_true q11
               go_wp2
               go_ret
               exact ⟨q2_,bh_⟩
          ·rw [if_neg c12] at H
           have c12b0 : decide (97 ≤ (bt (rdOf ByteArray.empty t101 x6_1) x7_2)) = false:=decide_eq_false c12
           clear c12
           by_cases c24 : (bt (rdOf ByteArray.empty t101 x6_1) x7_2) ≥ 65
           ·rw [if_pos c24] at H
            have c24b0 : decide (65 ≤ (bt (rdOf ByteArray.empty t101 x6_1) x7_2)) = true:=decide_eq_true c24
            clear c24
            by_cases c25 : ((bt (rdOf ByteArray.empty t101 x6_1) x7_2) ≤ 90)
            ·rw [if_pos c25] at H
             have c25b0 : decide ((bt (rdOf ByteArray.empty t101 x6_1) x7_2) ≤ 90) = true:=decide_eq_true c25
             clear c25
             have H':=Aside0.mk H
             clear H
             have p104 : 0 ≤ (x6_1 : Int):=of_decide_eq_true q1_
             have q104 : x6_1 < (t101.length : Int):=of_decide_eq_true q1_
             obtain ⟨ad104,e104,hx104_0⟩:=Kd.at_string (Kd.R_reads' HO_5.out).2.2 x6_1 p104 q104
             cases e104
             replace p104:=eq_true p104
             replace q104:=eq_true q104
             have p105 : 0 ≤ (x6_1 : Int):=of_decide_eq_true q1_
             have q105 : x6_1 < (t101.length : Int):=of_decide_eq_true q1_
             obtain ⟨ad105,e105,hx105_0⟩:=Kd.at_string (Kd.R_reads' HO_5.out).2.2 x6_1 p105 q105
             obtain rfl : ad104 = ad105:=q39_
             replace p105:=eq_true p105
             replace q105:=eq_true q105
             have p11 : 0 ≤ (x7_2 : Int):=of_decide_eq_true q1_
             have q11 : x7_2 < ((rdOf ByteArray.empty t101 x6_1).size : Int):=of_decide_eq_true q1_
             have hx11:=bt_at (rdOf ByteArray.empty t101 x6_1) x7_2
             replace p11:=eq_true p11
             replace q11:=eq_true q11
             go_wp2
             go_roundg k2
             case measure => have:=HK1.out;have:=HK2.out;omega
             case rel => exact ⟨(wrap64 (x7_2 + 1)),q5_,H',⟨by have:=HK1.out;have:=HK2.out;omega⟩,⟨by (with_reducible repeat (first | apply Kd.R_alloc | apply Kd.R_drewN | apply Kd.R_drew));exact HO_5.out⟩,⟨by repeat (first | (with_reducible first | exact HB.out | apply below_alloc | apply pw_below_drewN | apply below_drew1) | exact HB.out)⟩⟩
            ·rw [if_neg c25] at H
             have c25b0 : decide ((bt (rdOf ByteArray.empty t101 x6_1) x7_2) ≤ 90) = false:=decide_eq_false c25
             clear c25
             by_cases c26 : (bt (rdOf ByteArray.empty t101 x6_1) x7_2) ≥ 48
             ·rw [if_pos c26] at H
              have c26b0 : decide (48 ≤ (bt (rdOf ByteArray.empty t101 x6_1) x7_2)) = true:=decide_eq_true c26
              clear c26
              by_cases c27 : ((bt (rdOf ByteArray.empty t101 x6_1) x7_2) ≤ 57)
              ·rw [if_pos c27] at H
               have c27b0 : decide ((bt (rdOf ByteArray.empty t101 x6_1) x7_2) ≤ 57) = true:=decide_eq_true c27
               clear c27
               have H':=Aside0.mk H
               clear H
               have p104 : 0 ≤ (x6_1 : Int):=of_decide_eq_true q1_
               have q104 : x6_1 < (t101.length : Int):=of_decide_eq_true q1_
               obtain ⟨ad104,e104,hx104_0⟩:=Kd.at_string (Kd.R_reads' HO_5.out).2.2 x6_1 p104 q104
               cases e104
               replace p104:=eq_true p104
               replace q104:=eq_true q104
               have p105 : 0 ≤ (x6_1 : Int):=of_decide_eq_true q1_
               have q105 : x6_1 < (t101.length : Int):=of_decide_eq_true q1_
               obtain ⟨ad105,e105,hx105_0⟩:=Kd.at_string (Kd.R_reads' HO_5.out).2.2 x6_1 p105 q105
               obtain rfl : ad104 = ad105:=q39_
               replace p105:=eq_true p105
               replace q105:=eq_true q105
               have p11 : 0 ≤ (x7_2 : Int):=of_decide_eq_true q1_
               have q11 : x7_2 < ((rdOf ByteArray.empty t101 x6_1).size : Int):=of_decide_eq_true q1_
               have hx11:=bt_at (rdOf ByteArray.empty t101 x6_1) x7_2
               replace p11:=eq_true p11
               replace q11:=eq_true q11
               go_wp2
               go_roundg k2
               case measure => have:=HK1.out;have:=HK2.out;omega
               case rel => exact ⟨(wrap64 (x7_2 + 1)),q5_,H',⟨by have:=HK1.out;have:=HK2.out;omega⟩,⟨by (with_reducible repeat (first | apply Kd.R_alloc | apply Kd.R_drewN | apply Kd.R_drew));exact HO_5.out⟩,⟨by repeat (first | (with_reducible first | exact HB.out | apply below_alloc | apply pw_below_drewN | apply below_drew1) | exact HB.out)⟩⟩
              ·rw [if_neg c27] at H
               have c27b0 : decide ((bt (rdOf ByteArray.empty t101 x6_1) x7_2) ≤ 57) = false:=decide_eq_false c27
               clear c27
               by_cases c28 : (bt (rdOf ByteArray.empty t101 x6_1) x7_2) = 45
               ·rw [if_pos c28] at H
                have c28b0:=beq_iff_eq.mpr c28
                have c28b1:=bne_eq_false_iff_eq.mpr c28
                clear c28
                have H':=Aside0.mk H
                clear H
                have p104 : 0 ≤ (x6_1 : Int):=of_decide_eq_true q1_
                have q104 : x6_1 < (t101.length : Int):=of_decide_eq_true q1_
                obtain ⟨ad104,e104,hx104_0⟩:=Kd.at_string (Kd.R_reads' HO_5.out).2.2 x6_1 p104 q104
                cases e104
                replace p104:=eq_true p104
                replace q104:=eq_true q104
                have p105 : 0 ≤ (x6_1 : Int):=of_decide_eq_true q1_
                have q105 : x6_1 < (t101.length : Int):=of_decide_eq_true q1_
                obtain ⟨ad105,e105,hx105_0⟩:=Kd.at_string (Kd.R_reads' HO_5.out).2.2 x6_1 p105 q105
                obtain rfl : ad104 = ad105:=q39_
                replace p105:=eq_true p105
                replace q105:=eq_true q105
                have p11 : 0 ≤ (x7_2 : Int):=of_decide_eq_true q1_
                have q11 : x7_2 < ((rdOf ByteArray.empty t101 x6_1).size : Int):=of_decide_eq_true q1_
                have hx11:=bt_at (rdOf ByteArray.empty t101 x6_1) x7_2
                replace p11:=eq_true p11
                replace q11:=eq_true q11
                go_wp2
                go_roundg k2
                case measure => have:=HK1.out;have:=HK2.out;omega
                case rel => exact ⟨(wrap64 (x7_2 + 1)),q5_,H',⟨by have:=HK1.out;have:=HK2.out;omega⟩,⟨by (with_reducible repeat (first | apply Kd.R_alloc | apply Kd.R_drewN | apply Kd.R_drew));exact HO_5.out⟩,⟨by repeat (first | (with_reducible first | exact HB.out | apply below_alloc | apply pw_below_drewN | apply below_drew1) | exact HB.out)⟩⟩
               ·rw [if_neg c28] at H
                have c28b0:=beq_eq_false_iff_ne.mpr c28
                have c28b1:=bne_iff_ne.mpr c28
                obtain rfl:=Option.some.inj H
                have p104 : 0 ≤ (x6_1 : Int):=of_decide_eq_true q1_
                have q104 : x6_1 < (t101.length : Int):=of_decide_eq_true q1_
                obtain ⟨ad104,e104,hx104_0⟩:=Kd.at_string (Kd.R_reads' HO_5.out).2.2 x6_1 p104 q104
                cases e104
                replace p104:=eq_true p104
                replace q104:=eq_true q104
                have p105 : 0 ≤ (x6_1 : Int):=of_decide_eq_true q1_
                have q105 : x6_1 < (t101.length : Int):=of_decide_eq_true q1_
                obtain ⟨ad105,e105,hx105_0⟩:=Kd.at_string (Kd.R_reads' HO_5.out).2.2 x6_1 p105 q105
                obtain rfl : ad104 = ad105:=q39_
                replace p105:=eq_true p105
                replace q105:=eq_true q105
                have p11 : 0 ≤ (x7_2 : Int):=of_decide_eq_true q1_
                have q11 : x7_2 < ((rdOf ByteArray.empty t101 x6_1).size : Int):=of_decide_eq_true q1_
                have hx11:=bt_at (rdOf ByteArray.empty t101 x6_1) x7_2
                replace p11:=eq_true p11
                replace q11:=eq_true q11
                go_wp2
                go_ret
                exact ⟨q2_,bh_⟩
             ·rw [if_neg c26] at H
              have c26b0 : decide (48 ≤ (bt (rdOf ByteArray.empty t101 x6_1) x7_2)) = false:=decide_eq_false c26
              clear c26
              by_cases c29 : (bt (rdOf ByteArray.empty t101 x6_1) x7_2) = 45
              ·rw [if_pos c29] at H
               have c29b0:=beq_iff_eq.mpr c29
               have c29b1:=bne_eq_false_iff_eq.mpr c29
               clear c29
               have H':=Aside0.mk H
               clear H
               have p104 : 0 ≤ (x6_1 : Int):=of_decide_eq_true q1_
               have q104 : x6_1 < (t101.length : Int):=of_decide_eq_true q1_
               obtain ⟨ad104,e104,hx104_0⟩:=Kd.at_string (Kd.R_reads' HO_5.out).2.2 x6_1 p104 q104
               cases e104
               replace p104:=eq_true p104
               replace q104:=eq_true q104
               have p105 : 0 ≤ (x6_1 : Int):=of_decide_eq_true q1_
               have q105 : x6_1 < (t101.length : Int):=of_decide_eq_true q1_
               obtain ⟨ad105,e105,hx105_0⟩:=Kd.at_string (Kd.R_reads' HO_5.out).2.2 x6_1 p105 q105
               obtain rfl : ad104 = ad105:=q39_
               replace p105:=eq_true p105
               replace q105:=eq_true q105
               have p11 : 0 ≤ (x7_2 : Int):=of_decide_eq_true q1_
               have q11 : x7_2 < ((rdOf ByteArray.empty t101 x6_1).size : Int):=of_decide_eq_true q1_
               have hx11:=bt_at (rdOf ByteArray.empty t101 x6_1) x7_2
               replace p11:=eq_true p11
               replace q11:=eq_true q11
               go_wp2
               go_roundg k2
               case measure => have:=HK1.out;have:=HK2.out;omega
               case rel => exact ⟨(wrap64 (x7_2 + 1)),q5_,H',⟨by have:=HK1.out;have:=HK2.out;omega⟩,⟨by (with_reducible repeat (first | apply Kd.R_alloc | apply Kd.R_drewN | apply Kd.R_drew));exact HO_5.out⟩,⟨by repeat (first | (with_reducible first | exact HB.out | apply below_alloc | apply pw_below_drewN | apply below_drew1) | exact HB.out)⟩⟩
              ·rw [if_neg c29] at H
               have c29b0:=beq_eq_false_iff_ne.mpr c29
               have c29b1:=bne_iff_ne.mpr c29
               obtain rfl:=Option.some.inj H
               have p104 : 0 ≤ (x6_1 : Int):=of_decide_eq_true q1_
               have q104 : x6_1 < (t101.length : Int):=of_decide_eq_true q1_
               obtain ⟨ad104,e104,hx104_0⟩:=Kd.at_string (Kd.R_reads' HO_5.out).2.2 x6_1 p104 q104
               cases e104
               replace p104:=eq_true p104
               replace q104:=eq_true q104
               have p105 : 0 ≤ (x6_1 : Int):=of_decide_eq_true q1_
               have q105 : x6_1 < (t101.length : Int):=of_decide_eq_true q1_
               obtain ⟨ad105,e105,hx105_0⟩:=Kd.at_string (Kd.R_reads' HO_5.out).2.2 x6_1 p105 q105
               obtain rfl : ad104 = ad105:=q39_
               replace p105:=eq_true p105
               replace q105:=eq_true q105
               have p11 : 0 ≤ (x7_2 : Int):=of_decide_eq_true q1_
               have q11 : x7_2 < ((rdOf ByteArray.empty t101 x6_1).size : Int):=of_decide_eq_true q1_
               have hx11:=bt_at (rdOf ByteArray.empty t101 x6_1) x7_2
               replace p11:=eq_true p11
               replace q11:=eq_true q11
               go_wp2
               go_ret
               exact ⟨q2_,bh_⟩
           ·rw [if_neg c24] at H
            have c24b0 : decide (65 ≤ (bt (rdOf ByteArray.empty t101 x6_1) x7_2)) = false:=decide_eq_false c24
            clear c24
            by_cases c30 : (bt (rdOf ByteArray.empty t101 x6_1) x7_2) ≥ 48
            ·rw [if_pos c30] at H
             have c30b0 : decide (48 ≤ (bt (rdOf ByteArray.empty t101 x6_1) x7_2)) = true:=decide_eq_true c30
             clear c30
             by_cases c31 : ((bt (rdOf ByteArray.empty t101 x6_1) x7_2) ≤ 57)
             ·rw [if_pos c31] at H
              have c31b0 : decide ((bt (rdOf ByteArray.empty t101 x6_1) x7_2) ≤ 57) = true:=decide_eq_true c31
              clear c31
              have H':=Aside0.mk H
              clear H
              have p104 : 0 ≤ (x6_1 : Int):=of_decide_eq_true q1_
              have q104 : x6_1 < (t101.length : Int):=of_decide_eq_true q1_
              obtain ⟨ad104,e104,hx104_0⟩:=Kd.at_string (Kd.R_reads' HO_5.out).2.2 x6_1 p104 q104
              cases e104
              replace p104:=eq_true p104
              replace q104:=eq_true q104
              have p105 : 0 ≤ (x6_1 : Int):=of_decide_eq_true q1_
              have q105 : x6_1 < (t101.length : Int):=of_decide_eq_true q1_
              obtain ⟨ad105,e105,hx105_0⟩:=Kd.at_string (Kd.R_reads' HO_5.out).2.2 x6_1 p105 q105
              obtain rfl : ad104 = ad105:=q39_
              replace p105:=eq_true p105
              replace q105:=eq_true q105
              have p11 : 0 ≤ (x7_2 : Int):=of_decide_eq_true q1_
              have q11 : x7_2 < ((rdOf ByteArray.empty t101 x6_1).size : Int):=of_decide_eq_true q1_
              have hx11:=bt_at (rdOf ByteArray.empty t101 x6_1) x7_2
              replace p11:=eq_true p11
              replace q11:=eq_true q11
              go_wp2
              go_roundg k2
              case measure => have:=HK1.out;have:=HK2.out;omega
              case rel => exact ⟨(wrap64 (x7_2 + 1)),q5_,H',⟨by have:=HK1.out;have:=HK2.out;omega⟩,⟨by (with_reducible repeat (first | apply Kd.R_alloc | apply Kd.R_drewN | apply Kd.R_drew));exact HO_5.out⟩,⟨by repeat (first | (with_reducible first | exact HB.out | apply below_alloc | apply pw_below_drewN | apply below_drew1) | exact HB.out)⟩⟩
             ·rw [if_neg c31] at H
              have c31b0 : decide ((bt (rdOf ByteArray.empty t101 x6_1) x7_2) ≤ 57) = false:=decide_eq_false c31
              clear c31
              by_cases c32 : (bt (rdOf ByteArray.empty t101 x6_1) x7_2) = 45
              ·rw [if_pos c32] at H
               have c32b0:=beq_iff_eq.mpr c32
               have c32b1:=bne_eq_false_iff_eq.mpr c32
               clear c32
               have H':=Aside0.mk H
               clear H
               have p104 : 0 ≤ (x6_1 : Int):=of_decide_eq_true q1_
               have q104 : x6_1 < (t101.length : Int):=of_decide_eq_true q1_
               obtain ⟨ad104,e104,hx104_0⟩:=Kd.at_string (Kd.R_reads' HO_5.out).2.2 x6_1 p104 q104
               cases e104
               replace p104:=eq_true p104
               replace q104:=eq_true q104
               have p105 : 0 ≤ (x6_1 : Int):=of_decide_eq_true q1_
               have q105 : x6_1 < (t101.length : Int):=of_decide_eq_true q1_
               obtain ⟨ad105,e105,hx105_0⟩:=Kd.at_string (Kd.R_reads' HO_5.out).2.2 x6_1 p105 q105
               obtain rfl : ad104 = ad105:=q39_
               replace p105:=eq_true p105
               replace q105:=eq_true q105
               have p11 : 0 ≤ (x7_2 : Int):=of_decide_eq_true q1_
               have q11 : x7_2 < ((rdOf ByteArray.empty t101 x6_1).size : Int):=of_decide_eq_true q1_
               have hx11:=bt_at (rdOf ByteArray.empty t101 x6_1) x7_2
               replace p11:=eq_true p11
               replace q11:=eq_true q11
               go_wp2
               go_roundg k2
               case measure => have:=HK1.out;have:=HK2.out;omega
               case rel => exact ⟨(wrap64 (x7_2 + 1)),q5_,H',⟨by have:=HK1.out;have:=HK2.out;omega⟩,⟨by (with_reducible repeat (first | apply Kd.R_alloc | apply Kd.R_drewN | apply Kd.R_drew));exact HO_5.out⟩,⟨by repeat (first | (with_reducible first | exact HB.out | apply below_alloc | apply pw_below_drewN | apply below_drew1) | exact HB.out)⟩⟩
              ·rw [if_neg c32] at H
               have c32b0:=beq_eq_false_iff_ne.mpr c32
               have c32b1:=bne_iff_ne.mpr c32
               obtain rfl:=Option.some.inj H
               have p104 : 0 ≤ (x6_1 : Int):=of_decide_eq_true q1_
               have q104 : x6_1 < (t101.length : Int):=of_decide_eq_true q1_
               obtain ⟨ad104,e104,hx104_0⟩:=Kd.at_string (Kd.R_reads' HO_5.out).2.2 x6_1 p104 q104
               cases e104
               replace p104:=eq_true p104
               replace q104:=eq_true q104
               have p105 : 0 ≤ (x6_1 : Int):=of_decide_eq_true q1_
               have q105 : x6_1 < (t101.length : Int):=of_decide_eq_true q1_
               obtain ⟨ad105,e105,hx105_0⟩:=Kd.at_string (Kd.R_reads' HO_5.out).2.2 x6_1 p105 q105
               obtain rfl : ad104 = ad105:=q39_
               replace p105:=eq_true p105
               replace q105:=eq_true q105
               have p11 : 0 ≤ (x7_2 : Int):=of_decide_eq_true q1_
               have q11 : x7_2 < ((rdOf ByteArray.empty t101 x6_1).size : Int):=of_decide_eq_true q1_
               have hx11:=bt_at (rdOf ByteArray.empty t101 x6_1) x7_2
               replace p11:=eq_true p11
               replace q11:=eq_true q11
               go_wp2
               go_ret
               exact ⟨q2_,bh_⟩
            ·rw [if_neg c30] at H
             have c30b0 : decide (48 ≤ (bt (rdOf ByteArray.empty t101 x6_1) x7_2)) = false:=decide_eq_false c30
             clear c30
             by_cases c33 : (bt (rdOf ByteArray.empty t101 x6_1) x7_2) = 45
             ·rw [if_pos c33] at H
              have c33b0:=beq_iff_eq.mpr c33
              have c33b1:=bne_eq_false_iff_eq.mpr c33
              clear c33
              have H':=Aside0.mk H
              clear H
              have p104 : 0 ≤ (x6_1 : Int):=of_decide_eq_true q1_
              have q104 : x6_1 < (t101.length : Int):=of_decide_eq_true q1_
              obtain ⟨ad104,e104,hx104_0⟩:=Kd.at_string (Kd.R_reads' HO_5.out).2.2 x6_1 p104 q104
              cases e104
              replace p104:=eq_true p104
              replace q104:=eq_true q104
              have p105 : 0 ≤ (x6_1 : Int):=of_decide_eq_true q1_
              have q105 : x6_1 < (t101.length : Int):=of_decide_eq_true q1_
              obtain ⟨ad105,e105,hx105_0⟩:=Kd.at_string (Kd.R_reads' HO_5.out).2.2 x6_1 p105 q105
              obtain rfl : ad104 = ad105:=q39_
              replace p105:=eq_true p105
              replace q105:=eq_true q105
              have p11 : 0 ≤ (x7_2 : Int):=of_decide_eq_true q1_
              have q11 : x7_2 < ((rdOf ByteArray.empty t101 x6_1).size : Int):=of_decide_eq_true q1_
              have hx11:=bt_at (rdOf ByteArray.empty t101 x6_1) x7_2
              replace p11:=eq_true p11
              replace q11:=eq_true q11
              go_wp2
              go_roundg k2
              case measure => have:=HK1.out;have:=HK2.out;omega
              case rel => exact ⟨(wrap64 (x7_2 + 1)),q5_,H',⟨by have:=HK1.out;have:=HK2.out;omega⟩,⟨by (with_reducible repeat (first | apply Kd.R_alloc | apply Kd.R_drewN | apply Kd.R_drew));exact HO_5.out⟩,⟨by repeat (first | (with_reducible first | exact HB.out | apply below_alloc | apply pw_below_drewN | apply below_drew1) | exact HB.out)⟩⟩
             ·rw [if_neg c33] at H
              have c33b0:=beq_eq_false_iff_ne.mpr c33
              have c33b1:=bne_iff_ne.mpr c33
              obtain rfl:=Option.some.inj H
              have p104 : 0 ≤ (x6_1 : Int):=of_decide_eq_true q1_
              have q104 : x6_1 < (t101.length : Int):=of_decide_eq_true q1_
              obtain ⟨ad104,e104,hx104_0⟩:=Kd.at_string (Kd.R_reads' HO_5.out).2.2 x6_1 p104 q104
              cases e104
              replace p104:=eq_true p104
              replace q104:=eq_true q104
              have p105 : 0 ≤ (x6_1 : Int):=of_decide_eq_true q1_
              have q105 : x6_1 < (t101.length : Int):=of_decide_eq_true q1_
              obtain ⟨ad105,e105,hx105_0⟩:=Kd.at_string (Kd.R_reads' HO_5.out).2.2 x6_1 p105 q105
              obtain rfl : ad104 = ad105:=q39_
              replace p105:=eq_true p105
              replace q105:=eq_true q105
              have p11 : 0 ≤ (x7_2 : Int):=of_decide_eq_true q1_
              have q11 : x7_2 < ((rdOf ByteArray.empty t101 x6_1).size : Int):=of_decide_eq_true q1_
              have hx11:=bt_at (rdOf ByteArray.empty t101 x6_1) x7_2
              replace p11:=eq_true p11
              replace q11:=eq_true q11
              go_wp2
              go_ret
              exact ⟨q2_,bh_⟩
         ·rw [if_neg c10] at H
          exact absurd H q43_
        ·rw [if_neg c9] at H
         have c9b0:=decide_eq_false c9
         clear c9
         by_cases c34 : (rdOf ByteArray.empty t101 x6_1).toList = ([] : List UInt8)
         ·rw [if_pos c34] at H
          have c34b0:=beq_iff_eq.mpr c34
          have c34b1:=bne_eq_false_iff_eq.mpr c34
          clear c34
          obtain rfl:=Option.some.inj H
          have p104 : 0 ≤ (x6_1 : Int):=of_decide_eq_true q1_
          have q104 : x6_1 < (t101.length : Int):=of_decide_eq_true q1_
          obtain ⟨ad104,e104,hx104_0⟩:=Kd.at_string (Kd.R_reads' HO_5.out).2.2 x6_1 p104 q104
          cases e104
          replace p104:=eq_true p104
          replace q104:=eq_true q104
          have p106 : 0 ≤ (x6_1 : Int):=of_decide_eq_true q1_
          have q106 : x6_1 < (t101.length : Int):=of_decide_eq_true q1_
          obtain ⟨ad106,e106,hx106_0⟩:=Kd.at_string (Kd.R_reads' HO_5.out).2.2 x6_1 p106 q106
          obtain rfl : ad104 = ad106:=(by injection e106)
          replace p106:=eq_true p106
          replace q106:=eq_true q106
          go_wp2
          go_ret
          exact ⟨q2_,bh_⟩
         ·rw [if_neg c34] at H
          have c34b0:=beq_eq_false_iff_ne.mpr c34
          have c34b1:=bne_iff_ne.mpr c34
          by_cases c35 : a1 = true
          ·subst c35
           rw [if_pos rfl] at H
           have H':=Aside0.mk H
           clear H
           have p104 : 0 ≤ (x6_1 : Int):=of_decide_eq_true q1_
           have q104 : x6_1 < (t101.length : Int):=of_decide_eq_true q1_
           obtain ⟨ad104,e104,hx104_0⟩:=Kd.at_string (Kd.R_reads' HO_5.out).2.2 x6_1 p104 q104
           cases e104
           replace p104:=eq_true p104
           replace q104:=eq_true q104
           have p106 : 0 ≤ (x6_1 : Int):=of_decide_eq_true q1_
           have q106 : x6_1 < (t101.length : Int):=of_decide_eq_true q1_
           obtain ⟨ad106,e106,hx106_0⟩:=Kd.at_string (Kd.R_reads' HO_5.out).2.2 x6_1 p106 q106
           obtain rfl : ad104 = ad106:=(by injection e106)
           replace p106:=eq_true p106
           replace q106:=eq_true q106
           go_wp2
           go_roundg k2
           case measure => have:=HK1.out;have:=HK2.out;omega
           case rel => exact ⟨(wrap64 (x6_1 + 1)),q5_,H',⟨by have:=HK1.out;have:=HK2.out;omega⟩,⟨by (with_reducible repeat (first | apply Kd.R_alloc | apply Kd.R_drewN | apply Kd.R_drew));exact HO_5.out⟩,⟨by repeat (first | (with_reducible first | exact HB.out | apply below_alloc | apply pw_below_drewN | apply below_drew1) | exact HB.out)⟩⟩
          ·replace c35:=Bool.eq_false_iff.mpr c35
           subst c35
           rw [if_neg (show ¬ (false = true) by decide)] at H
           obtain ⟨t108,A360,H⟩:=Option.bind_eq_some_iff.mp H
           have A36:=Aside0.mk A360
           clear A360
           by_cases c37 : t108 = true
           ·subst c37
            rw [if_pos rfl] at H
            by_cases c38 : ((rdOf ByteArray.empty t101 x6_1).size : Int) > 1
            ·rw [if_pos c38] at H
             have c38b0 : decide (1 < ((rdOf ByteArray.empty t101 x6_1).size : Int)) = true:=decide_eq_true c38
             have c38b1 : decide (1 < (rdOf ByteArray.empty t101 x6_1).size) = true:=decide_eq_true q8_
             clear c38
             by_cases c39 : 0 < ((rdOf ByteArray.empty t101 x6_1).size : Int)
             ·rw [if_pos c39] at H
              have c39b0:=decide_eq_true c39
              have c39b1 : decide (0 < (rdOf ByteArray.empty t101 x6_1).size) = true:=decide_eq_true q8_
              clear c39
              by_cases c41 : (bt (rdOf ByteArray.empty t101 x6_1) 0) = 48
              ·rw [if_pos c41] at H
               have c41b0:=beq_iff_eq.mpr c41
               have c41b1:=bne_eq_false_iff_eq.mpr c41
               clear c41
               obtain rfl:=Option.some.inj H
               have p104 : 0 ≤ (x6_1 : Int):=of_decide_eq_true q1_
               have q104 : x6_1 < (t101.length : Int):=of_decide_eq_true q1_
               obtain ⟨ad104,e104,hx104_0⟩:=Kd.at_string (Kd.R_reads' HO_5.out).2.2 x6_1 p104 q104
               cases e104
               replace p104:=eq_true p104
               replace q104:=eq_true q104
               have p106 : 0 ≤ (x6_1 : Int):=of_decide_eq_true q1_
               have q106 : x6_1 < (t101.length : Int):=of_decide_eq_true q1_
               obtain ⟨ad106,e106,hx106_0⟩:=Kd.at_string (Kd.R_reads' HO_5.out).2.2 x6_1 p106 q106
               obtain rfl : ad104 = ad106:=(by injection e106)
               replace p106:=eq_true p106
               replace q106:=eq_true q106
               have p107 : 0 ≤ (x6_1 : Int):=of_decide_eq_true q1_
               have q107 : x6_1 < (t101.length : Int):=of_decide_eq_true q1_
               obtain ⟨ad107,e107,hx107_0⟩:=Kd.at_string (Kd.R_reads' HO_5.out).2.2 x6_1 p107 q107
               obtain rfl : ad104 = ad107:=(by injection e107)
               replace p107:=eq_true p107
               replace q107:=eq_true q107
               go_wp2_with (first | (go_at_call 135;(with_reducible refine (Rf07_digits.calls k2 (rdOf ByteArray.empty t101 x6_1) true _ A36.out).mono ?_);rintro e w' ⟨rfl,⟨nd,rfl⟩⟩;have p109 : 0 ≤ (x6_1 : Int):=of_decide_eq_true q1_;have q109 : x6_1 < (t101.length : Int):=of_decide_eq_true q1_;obtain ⟨ad109,e109,hx109_0⟩:=Kd.at_string (Kd.R_reads' HO_5.out).2.2 x6_1 p109 q109;obtain rfl : ad104 = ad109:=(by injection e109);replace p109:=eq_true p109;replace q109:=eq_true q109;have p110 : 0 ≤ (x6_1 : Int):=of_decide_eq_true q1_;have q110 : x6_1 < (t101.length : Int):=of_decide_eq_true q1_;obtain ⟨ad110,e110,hx110_0⟩:=Kd.at_string (Kd.R_reads' HO_5.out).2.2 x6_1 p110 q110;obtain rfl : ad104 = ad110:=(by injection e110);replace p110:=eq_true p110;replace q110:=eq_true q110;have p40 : 0 ≤ (0 : Int):=q8_;have q40 : 0 < (rdOf ByteArray.empty t101 x6_1).size:=(by have : (0 : Int) < ((rdOf ByteArray.empty t101 x6_1).size : Int):=of_decide_eq_true q1_;omega);have hx40 : ∀ h : 0 < (rdOf ByteArray.empty t101 x6_1).size,(((rdOf ByteArray.empty t101 x6_1)[0]'h).toNat : Int) = bt (rdOf ByteArray.empty t101 x6_1) 0:=bt_at (rdOf ByteArray.empty t101 x6_1) 0;clear p40;have qi40 : (0 < ((rdOf ByteArray.empty t101 x6_1).size : Int)) = True:=eq_true (of_decide_eq_true q1_);replace q40:=eq_true q40))
               go_ret
               exact ⟨q2_,bh_⟩
              ·rw [if_neg c41] at H
               have c41b0:=beq_eq_false_iff_ne.mpr c41
               have c41b1:=bne_iff_ne.mpr c41
               have H':=Aside0.mk H
               clear H
               have p104 : 0 ≤ (x6_1 : Int):=of_decide_eq_true q1_
               have q104 : x6_1 < (t101.length : Int):=of_decide_eq_true q1_
               obtain ⟨ad104,e104,hx104_0⟩:=Kd.at_string (Kd.R_reads' HO_5.out).2.2 x6_1 p104 q104
               cases e104
               replace p104:=eq_true p104
               replace q104:=eq_true q104
               have p106 : 0 ≤ (x6_1 : Int):=of_decide_eq_true q1_
               have q106 : x6_1 < (t101.length : Int):=of_decide_eq_true q1_
               obtain ⟨ad106,e106,hx106_0⟩:=Kd.at_string (Kd.R_reads' HO_5.out).2.2 x6_1 p106 q106
               obtain rfl : ad104 = ad106:=(by injection e106)
               replace p106:=eq_true p106
               replace q106:=eq_true q106
               have p107 : 0 ≤ (x6_1 : Int):=of_decide_eq_true q1_
               have q107 : x6_1 < (t101.length : Int):=of_decide_eq_true q1_
               obtain ⟨ad107,e107,hx107_0⟩:=Kd.at_string (Kd.R_reads' HO_5.out).2.2 x6_1 p107 q107
               obtain rfl : ad104 = ad107:=(by injection e107)
               replace p107:=eq_true p107
               replace q107:=eq_true q107
               go_wp2_with (first | (go_at_call 135;(with_reducible refine (Rf07_digits.calls k2 (rdOf ByteArray.empty t101 x6_1) true _ A36.out).mono ?_);rintro e w' ⟨rfl,⟨nd,rfl⟩⟩;have p109 : 0 ≤ (x6_1 : Int):=of_decide_eq_true q1_;have q109 : x6_1 < (t101.length : Int):=of_decide_eq_true q1_;obtain ⟨ad109,e109,hx109_0⟩:=Kd.at_string (Kd.R_reads' HO_5.out).2.2 x6_1 p109 q109;obtain rfl : ad104 = ad109:=(by injection e109);replace p109:=eq_true p109;replace q109:=eq_true q109;have p110 : 0 ≤ (x6_1 : Int):=of_decide_eq_true q1_;have q110 : x6_1 < (t101.length : Int):=of_decide_eq_true q1_;obtain ⟨ad110,e110,hx110_0⟩:=Kd.at_string (Kd.R_reads' HO_5.out).2.2 x6_1 p110 q110;obtain rfl : ad104 = ad110:=(by injection e110);replace p110:=eq_true p110;replace q110:=eq_true q110;have p40 : 0 ≤ (0 : Int):=q8_;have q40 : 0 < (rdOf ByteArray.empty t101 x6_1).size:=(by have : (0 : Int) < ((rdOf ByteArray.empty t101 x6_1).size : Int):=of_decide_eq_true q1_;omega);have hx40 : ∀ h : 0 < (rdOf ByteArray.empty t101 x6_1).size,(((rdOf ByteArray.empty t101 x6_1)[0]'h).toNat : Int) = bt (rdOf ByteArray.empty t101 x6_1) 0:=bt_at (rdOf ByteArray.empty t101 x6_1) 0;clear p40;have qi40 : (0 < ((rdOf ByteArray.empty t101 x6_1).size : Int)) = True:=eq_true (of_decide_eq_true q1_);replace q40:=eq_true q40))
               go_roundg k2
               case measure => have:=HK1.out;have:=HK2.out;omega
               case rel => exact ⟨(wrap64 (x6_1 + 1)),q5_,H',⟨by have:=HK1.out;have:=HK2.out;omega⟩,⟨by (with_reducible repeat (first | apply Kd.R_alloc | apply Kd.R_drewN | apply Kd.R_drew));exact HO_5.out⟩,⟨by repeat (first | (with_reducible first | exact HB.out | apply below_alloc | apply pw_below_drewN | apply below_drew1) | exact HB.out)⟩⟩
             ·rw [if_neg c39] at H
              exact absurd H q43_
            ·rw [if_neg c38] at H
             have c38b0 : decide (1 < ((rdOf ByteArray.empty t101 x6_1).size : Int)) = false:=decide_eq_false c38
             have c38b1 : decide (1 < (rdOf ByteArray.empty t101 x6_1).size) = false:=decide_eq_false q8_
             clear c38
             have H':=Aside0.mk H
             clear H
             have p104 : 0 ≤ (x6_1 : Int):=of_decide_eq_true q1_
             have q104 : x6_1 < (t101.length : Int):=of_decide_eq_true q1_
             obtain ⟨ad104,e104,hx104_0⟩:=Kd.at_string (Kd.R_reads' HO_5.out).2.2 x6_1 p104 q104
             cases e104
             replace p104:=eq_true p104
             replace q104:=eq_true q104
             have p106 : 0 ≤ (x6_1 : Int):=of_decide_eq_true q1_
             have q106 : x6_1 < (t101.length : Int):=of_decide_eq_true q1_
             obtain ⟨ad106,e106,hx106_0⟩:=Kd.at_string (Kd.R_reads' HO_5.out).2.2 x6_1 p106 q106
             obtain rfl : ad104 = ad106:=(by injection e106)
             replace p106:=eq_true p106
             replace q106:=eq_true q106
             have p107 : 0 ≤ (x6_1 : Int):=of_decide_eq_true q1_
             have q107 : x6_1 < (t101.length : Int):=of_decide_eq_true q1_
             obtain ⟨ad107,e107,hx107_0⟩:=Kd.at_string (Kd.R_reads' HO_5.out).2.2 x6_1 p107 q107
             obtain rfl : ad104 = ad107:=(by injection e107)
             replace p107:=eq_true p107
             replace q107:=eq_true q107
             go_wp2_with (first | (go_at_call 135;(with_reducible refine (Rf07_digits.calls k2 (rdOf ByteArray.empty t101 x6_1) true _ A36.out).mono ?_);rintro e w' ⟨rfl,⟨nd,rfl⟩⟩;have p109 : 0 ≤ (x6_1 : Int):=of_decide_eq_true q1_;have q109 : x6_1 < (t101.length : Int):=of_decide_eq_true q1_;obtain ⟨ad109,e109,hx109_0⟩:=Kd.at_string (Kd.R_reads' HO_5.out).2.2 x6_1 p109 q109;obtain rfl : ad104 = ad109:=(by injection e109);replace p109:=eq_true p109;replace q109:=eq_true q109))
             go_roundg k2
             case measure => have:=HK1.out;have:=HK2.out;omega
             case rel => exact ⟨(wrap64 (x6_1 + 1)),q5_,H',⟨by have:=HK1.out;have:=HK2.out;omega⟩,⟨by (with_reducible repeat (first | apply Kd.R_alloc | apply Kd.R_drewN | apply Kd.R_drew));exact HO_5.out⟩,⟨by repeat (first | (with_reducible first | exact HB.out | apply below_alloc | apply pw_below_drewN | apply below_drew1) | exact HB.out)⟩⟩
           ·replace c37:=Bool.eq_false_iff.mpr c37
            subst c37
            rw [if_neg (show ¬ (false = true) by decide)] at H
            have H':=Aside0.mk H
            clear H
            have p104 : 0 ≤ (x6_1 : Int):=of_decide_eq_true q1_
            have q104 : x6_1 < (t101.length : Int):=of_decide_eq_true q1_
            obtain ⟨ad104,e104,hx104_0⟩:=Kd.at_string (Kd.R_reads' HO_5.out).2.2 x6_1 p104 q104
            cases e104
            replace p104:=eq_true p104
            replace q104:=eq_true q104
            have p106 : 0 ≤ (x6_1 : Int):=of_decide_eq_true q1_
            have q106 : x6_1 < (t101.length : Int):=of_decide_eq_true q1_
            obtain ⟨ad106,e106,hx106_0⟩:=Kd.at_string (Kd.R_reads' HO_5.out).2.2 x6_1 p106 q106
            obtain rfl : ad104 = ad106:=(by injection e106)
            replace p106:=eq_true p106
            replace q106:=eq_true q106
            have p107 : 0 ≤ (x6_1 : Int):=of_decide_eq_true q1_
            have q107 : x6_1 < (t101.length : Int):=of_decide_eq_true q1_
            obtain ⟨ad107,e107,hx107_0⟩:=Kd.at_string (Kd.R_reads' HO_5.out).2.2 x6_1 p107 q107
            obtain rfl : ad104 = ad107:=(by injection e107)
            replace p107:=eq_true p107
            replace q107:=eq_true q107
            go_wp2_with (first | (go_at_call 135;(with_reducible refine (Rf07_digits.calls k2 (rdOf ByteArray.empty t101 x6_1) false _ A36.out).mono ?_);rintro e w' ⟨rfl,⟨nd,rfl⟩⟩))
            go_roundg k2
            case measure => have:=HK1.out;have:=HK2.out;omega
            case rel => exact ⟨(wrap64 (x6_1 + 1)),q5_,H',⟨by have:=HK1.out;have:=HK2.out;omega⟩,⟨by (with_reducible repeat (first | apply Kd.R_alloc | apply Kd.R_drewN | apply Kd.R_drew));exact HO_5.out⟩,⟨by repeat (first | (with_reducible first | exact HB.out | apply below_alloc | apply pw_below_drewN | apply below_drew1) | exact HB.out)⟩⟩
       ·rw [if_neg c8] at H
        exact absurd H q43_
      ·rw [if_neg c7] at H
       exact absurd H q43_
   ·rw [if_neg c5] at H
    have c5b0:=decide_eq_false c5
    clear c5
    obtain rfl:=Option.some.inj H
    obtain ⟨Ao42,co42,eo42⟩:=Kd.R_slice HO_5.out
    subst eo42
    go_wp2
    go_ret
    exact ⟨q2_,bh_⟩
end Go.Proofs.YtennhpoemdaghaaGreatDoor.P
end
section
namespace Go.Proofs.YtennhpoemdaghaaGreatDoor.P
open Go.RowKit Go.Proofs.YtennhpoemdaghaaGreatDoorW.PrintWords Go.Proofs.YtennhpoemdaghaaGreatDoorW.PrintLast Go.Proofs.YtennhpoemdaghaaGreatDoorW.PrintMore
def Rf07_num.f (a0 : Int) : Option (Bool):=if a0 ≥ 0 then (some (decide (a0 ≤ 999999999))) else (some false)
set_option maxHeartbeats 8000000 in
set_option maxRecDepth 100000 in
theorem Rf07_num.calls (a0 : Int) (r : Bool) (w : World) (h : Rf07_num.f a0 = some r) :
  Calls Tryz.prog 95 #[.int .i64 a0] w fun e w' => e = .returned (.bool r) ∧ Drawn0 w w':=by
 have H : (if a0 ≥ 0 then (some (decide (a0 ≤ 999999999))) else (some false)) = some r:=h
 clear h
 by_cases c2 : a0 ≥ 0
 ·rw [if_pos c2] at H
  have c2b0 : decide (0 ≤ a0) = true:=decide_eq_true c2
  clear c2
  obtain rfl:=Option.some.inj H
  go_enter Tryz.func95,Tryz.ntmps95
  go_wp2
  go_ret
  exact ⟨q3_,q4_⟩
 ·rw [if_neg c2] at H
  have c2b0 : decide (0 ≤ a0) = false:=decide_eq_false c2
  clear c2
  obtain rfl:=Option.some.inj H
  go_enter Tryz.func95,Tryz.ntmps95
  go_wp2
  go_ret
  exact ⟨q3_,q4_⟩
def Rf07_Check.j0 : Nat → Bool → Int → Int → Int → ByteArray → ByteArray → Option (Bool)
 | 0,_,_,_,_,_,_ => none
 | k + 1,x30,x102000,x102001,x102002,x102003,x102004 => if x30 = true then (some false) else (if x102003.toList = ([] : List UInt8) then (if x102004.toList = ([] : List UInt8) then (some true) else ((Rf07_identifiers.f k x102004 true).bind fun t105 => (some t105))) else ((Rf07_identifiers.f k x102003 false).bind fun t106 => (if t106 = true then (if x102004.toList = ([] : List UInt8) then (some true) else ((Rf07_identifiers.f k x102004 true).bind fun t107 => (some t107))) else (some false))))
def Rf07_Check.f (k : Nat) (a0_0 : Int) (a0_1 : Int) (a0_2 : Int) (a0_3 : ByteArray) (a0_4 : ByteArray) : Option (Bool):=(Rf07_num.f a0_0).bind fun t102 => (if t102 = true then ((Rf07_num.f a0_1).bind fun t103 => (if t103 = true then ((Rf07_num.f a0_2).bind fun t104 => (if t104 = true then (if (a0_3.size : Int) > 30 then (Rf07_Check.j0 k true a0_0 a0_1 a0_2 a0_3 a0_4) else (Rf07_Check.j0 k (decide ((a0_4.size : Int) > 30)) a0_0 a0_1 a0_2 a0_3 a0_4)) else (Rf07_Check.j0 k true a0_0 a0_1 a0_2 a0_3 a0_4))) else (Rf07_Check.j0 k true a0_0 a0_1 a0_2 a0_3 a0_4))) else (Rf07_Check.j0 k true a0_0 a0_1 a0_2 a0_3 a0_4))
set_option maxHeartbeats 8000000 in
set_option maxRecDepth 100000 in
theorem Rf07_Check.calls (k : Nat) (a0_0 : Int) (a0_1 : Int) (a0_2 : Int) (a0_3 : ByteArray) (a0_4 : ByteArray) (r : Bool) (w : World) (h : Rf07_Check.f k a0_0 a0_1 a0_2 a0_3 a0_4 = some r) :
  Calls Tryz.prog 67 #[.agg #[.int .i64 a0_0,.int .i64 a0_1,.int .i64 a0_2,.string a0_3,.string a0_4]] w fun e w' => e = .returned (.bool r) ∧ Below w.heap.size w w':=by
 have hu24:=Tryz.underlying24
 have HB:=Aside0.mk (Below.refl w.heap.size w)
 have H : ((Rf07_num.f a0_0).bind fun t102 => (if t102 = true then ((Rf07_num.f a0_1).bind fun t103 => (if t103 = true then ((Rf07_num.f a0_2).bind fun t104 => (if t104 = true then (if (a0_3.size : Int) > 30 then (Rf07_Check.j0 k true a0_0 a0_1 a0_2 a0_3 a0_4) else (Rf07_Check.j0 k (decide ((a0_4.size : Int) > 30)) a0_0 a0_1 a0_2 a0_3 a0_4)) else (Rf07_Check.j0 k true a0_0 a0_1 a0_2 a0_3 a0_4))) else (Rf07_Check.j0 k true a0_0 a0_1 a0_2 a0_3 a0_4))) else (Rf07_Check.j0 k true a0_0 a0_1 a0_2 a0_3 a0_4))) = some r:=h
 clear h
 have HC2:=Aside0.mk H
 clear H
 go_enter Tryz.func67,Tryz.ntmps67
 go_upto_region 1 with (first | ((with_reducible refine gate_dst (N:=1) rfl ?_);(try (refine gate_guard q45_ ?_;dsimp only));refine bx_ 1 24 #[.int .i64 a0_0,.int .i64 a0_1,.int .i64 a0_2,.string a0_3,.string a0_4] ?_;intro gb101 hg w3 hbox hb;have BK101:=Aside0.mk (hbox);have GW101:=Aside0.mk ((q20_ : w.heap.size ≤ gb101));have GE101:=Aside0.mk ((q20_ : w.heap.size ≤ gb101));replace HB:=Aside0.mk (below_step bh_ hb);clear hb hbox hg))
 (try simp only [Act.put,List.setIfInBounds_toArray,List.set_cons_zero,List.set_cons_succ])
 go_cut [30] (fun v30 wc => ∃ (kq : Nat) (x30_1 : Bool),v30 = .bool x30_1 ∧ Aside0 (Rf07_Check.j0 kq x30_1 a0_0 a0_1 a0_2 a0_3 a0_4 = some r) ∧ Aside0 (kq ≤ k) ∧ Aside0 (wc.heap[gb101]? = some (.cells #[.int .i64 a0_0,.int .i64 a0_1,.int .i64 a0_2,.string a0_3,.string a0_4] 24 (0,0))) ∧ Aside0 (Below w.heap.size w wc))
 case first =>
  have H:=HC2.out
  clear HC2
  obtain ⟨t102,A40,H⟩:=Option.bind_eq_some_iff.mp H
  have A4:=Aside0.mk A40
  clear A40
  by_cases c5 : t102 = true
  ·subst c5
   rw [if_pos rfl] at H
   obtain ⟨t103,A60,H⟩:=Option.bind_eq_some_iff.mp H
   have A6:=Aside0.mk A60
   clear A60
   by_cases c7 : t103 = true
   ·subst c7
    rw [if_pos rfl] at H
    obtain ⟨t104,A80,H⟩:=Option.bind_eq_some_iff.mp H
    have A8:=Aside0.mk A80
    clear A80
    by_cases c9 : t104 = true
    ·subst c9
     rw [if_pos rfl] at H
     by_cases c10 : (a0_3.size : Int) > 30
     ·rw [if_pos c10] at H
      have c10b0 : decide (30 < (a0_3.size : Int)) = true:=decide_eq_true c10
      have c10b1 : decide (30 < a0_3.size) = true:=decide_eq_true q8_
      clear c10
      (first | rw [c10b0] | (simp only [];rw [c10b0]) | skip)
      have H':=Aside0.mk H
      clear H
      have hcz11_0 : w3.cell? ⟨gb101,0,none⟩ = some (.int .i64 a0_0):=(blk_cell BK101.out 0).trans rfl
      have hcz11_1 : w3.cell? ⟨gb101,1,none⟩ = some (.int .i64 a0_1):=(blk_cell BK101.out 1).trans rfl
      have hcz11_2 : w3.cell? ⟨gb101,2,none⟩ = some (.int .i64 a0_2):=(blk_cell BK101.out 2).trans rfl
      have hcz11_3 : w3.cell? ⟨gb101,3,none⟩ = some (.string a0_3):=(blk_cell BK101.out 3).trans rfl
      have hcz11_4 : w3.cell? ⟨gb101,4,none⟩ = some (.string a0_4):=(blk_cell BK101.out 4).trans rfl
      have hfz11_0:=blk_frozen BK101.out 0
      have hfz11_1:=blk_frozen BK101.out 1
      have hfz11_2:=blk_frozen BK101.out 2
      have hfz11_3:=blk_frozen BK101.out 3
      have hfz11_4:=blk_frozen BK101.out 4
      go_wp2_with (first | ((with_reducible refine gate_callee (f:=95) rfl ?_);refine gl_ 5 Tryz.func95 #[.int .i64 a0_0] ?_;(with_reducible refine (Rf07_num.calls a0_0 true _ A4.out).mono ?_);rintro e w' ⟨rfl,⟨nd,rfl⟩⟩;refine ⟨_,rfl,?_⟩) | (go_at_call 95;(with_reducible refine (Rf07_num.calls a0_1 true _ A6.out).mono ?_);rintro e w' ⟨rfl,⟨nd,rfl⟩⟩) | (go_at_call 95;(with_reducible refine (Rf07_num.calls a0_2 true _ A8.out).mono ?_);rintro e w' ⟨rfl,⟨nd,rfl⟩⟩))
      go_meet
      case rel => exact ⟨_,(true),q5_,H',⟨by first | omega | exact Nat.le_refl _⟩,⟨by (with_reducible repeat (first | refine blk_drewN ?_ _ | refine blk_drew ?_ | refine blk_alloc ?_ _));exact BK101.out⟩,⟨by repeat (first | (with_reducible first | exact HB.out | apply below_alloc | apply pw_below_drewN | apply below_drew1 | refine below_set ?_ GE101.out) | exact HB.out)⟩⟩
     ·rw [if_neg c10] at H
      have c10b0 : decide (30 < (a0_3.size : Int)) = false:=decide_eq_false c10
      have c10b1 : decide (30 < a0_3.size) = false:=decide_eq_false q8_
      clear c10
      (first | rw [c10b0] | (simp only [];rw [c10b0]) | skip)
      have H':=Aside0.mk H
      clear H
      have hcz12_0 : w3.cell? ⟨gb101,0,none⟩ = some (.int .i64 a0_0):=(blk_cell BK101.out 0).trans rfl
      have hcz12_1 : w3.cell? ⟨gb101,1,none⟩ = some (.int .i64 a0_1):=(blk_cell BK101.out 1).trans rfl
      have hcz12_2 : w3.cell? ⟨gb101,2,none⟩ = some (.int .i64 a0_2):=(blk_cell BK101.out 2).trans rfl
      have hcz12_3 : w3.cell? ⟨gb101,3,none⟩ = some (.string a0_3):=(blk_cell BK101.out 3).trans rfl
      have hcz12_4 : w3.cell? ⟨gb101,4,none⟩ = some (.string a0_4):=(blk_cell BK101.out 4).trans rfl
      have hfz12_0:=blk_frozen BK101.out 0
      have hfz12_1:=blk_frozen BK101.out 1
      have hfz12_2:=blk_frozen BK101.out 2
      have hfz12_3:=blk_frozen BK101.out 3
      have hfz12_4:=blk_frozen BK101.out 4
      go_wp2_with (first | ((with_reducible refine gate_callee (f:=95) rfl ?_);refine gl_ 5 Tryz.func95 #[.int .i64 a0_0] ?_;(with_reducible refine (Rf07_num.calls a0_0 true _ A4.out).mono ?_);rintro e w' ⟨rfl,⟨nd,rfl⟩⟩;refine ⟨_,rfl,?_⟩) | (go_at_call 95;(with_reducible refine (Rf07_num.calls a0_1 true _ A6.out).mono ?_);rintro e w' ⟨rfl,⟨nd,rfl⟩⟩) | (go_at_call 95;(with_reducible refine (Rf07_num.calls a0_2 true _ A8.out).mono ?_);rintro e w' ⟨rfl,⟨nd,rfl⟩⟩))
      go_meet
      case rel => exact ⟨_,(decide ((a0_4.size : Int) > 30)),q5_,H',⟨by first | omega | exact Nat.le_refl _⟩,⟨by (with_reducible repeat (first | refine blk_drewN ?_ _ | refine blk_drew ?_ | refine blk_alloc ?_ _));exact BK101.out⟩,⟨by repeat (first | (with_reducible first | exact HB.out | apply below_alloc | apply pw_below_drewN | apply below_drew1 | refine below_set ?_ GE101.out) | exact HB.out)⟩⟩
    ·replace c9:=Bool.eq_false_iff.mpr c9
     subst c9
     rw [if_neg (show ¬ (false = true) by decide)] at H
     have H':=Aside0.mk H
     clear H
     have hcz13_0 : w3.cell? ⟨gb101,0,none⟩ = some (.int .i64 a0_0):=(blk_cell BK101.out 0).trans rfl
     have hcz13_1 : w3.cell? ⟨gb101,1,none⟩ = some (.int .i64 a0_1):=(blk_cell BK101.out 1).trans rfl
     have hcz13_2 : w3.cell? ⟨gb101,2,none⟩ = some (.int .i64 a0_2):=(blk_cell BK101.out 2).trans rfl
     have hcz13_3 : w3.cell? ⟨gb101,3,none⟩ = some (.string a0_3):=(blk_cell BK101.out 3).trans rfl
     have hcz13_4 : w3.cell? ⟨gb101,4,none⟩ = some (.string a0_4):=(blk_cell BK101.out 4).trans rfl
     have hfz13_0:=blk_frozen BK101.out 0
     have hfz13_1:=blk_frozen BK101.out 1
     have hfz13_2:=blk_frozen BK101.out 2
     have hfz13_3:=blk_frozen BK101.out 3
     have hfz13_4:=blk_frozen BK101.out 4
     go_wp2_with (first | ((with_reducible refine gate_callee (f:=95) rfl ?_);refine gl_ 5 Tryz.func95 #[.int .i64 a0_0] ?_;(with_reducible refine (Rf07_num.calls a0_0 true _ A4.out).mono ?_);rintro e w' ⟨rfl,⟨nd,rfl⟩⟩;refine ⟨_,rfl,?_⟩) | (go_at_call 95;(with_reducible refine (Rf07_num.calls a0_1 true _ A6.out).mono ?_);rintro e w' ⟨rfl,⟨nd,rfl⟩⟩) | (go_at_call 95;(with_reducible refine (Rf07_num.calls a0_2 false _ A8.out).mono ?_);rintro e w' ⟨rfl,⟨nd,rfl⟩⟩))
     go_meet
     case rel => exact ⟨_,(true),q5_,H',⟨by first | omega | exact Nat.le_refl _⟩,⟨by (with_reducible repeat (first | refine blk_drewN ?_ _ | refine blk_drew ?_ | refine blk_alloc ?_ _));exact BK101.out⟩,⟨by repeat (first | (with_reducible first | exact HB.out | apply below_alloc | apply pw_below_drewN | apply below_drew1 | refine below_set ?_ GE101.out) | exact HB.out)⟩⟩
   ·replace c7:=Bool.eq_false_iff.mpr c7
    subst c7
    rw [if_neg (show ¬ (false = true) by decide)] at H
    have H':=Aside0.mk H
    clear H
    have hcz14_0 : w3.cell? ⟨gb101,0,none⟩ = some (.int .i64 a0_0):=(blk_cell BK101.out 0).trans rfl
    have hcz14_1 : w3.cell? ⟨gb101,1,none⟩ = some (.int .i64 a0_1):=(blk_cell BK101.out 1).trans rfl
    have hcz14_2 : w3.cell? ⟨gb101,2,none⟩ = some (.int .i64 a0_2):=(blk_cell BK101.out 2).trans rfl
    have hcz14_3 : w3.cell? ⟨gb101,3,none⟩ = some (.string a0_3):=(blk_cell BK101.out 3).trans rfl
    have hcz14_4 : w3.cell? ⟨gb101,4,none⟩ = some (.string a0_4):=(blk_cell BK101.out 4).trans rfl
    have hfz14_0:=blk_frozen BK101.out 0
    have hfz14_1:=blk_frozen BK101.out 1
    have hfz14_2:=blk_frozen BK101.out 2
    have hfz14_3:=blk_frozen BK101.out 3
    have hfz14_4:=blk_frozen BK101.out 4
    go_wp2_with (first | ((with_reducible refine gate_callee (f:=95) rfl ?_);refine gl_ 5 Tryz.func95 #[.int .i64 a0_0] ?_;(with_reducible refine (Rf07_num.calls a0_0 true _ A4.out).mono ?_);rintro e w' ⟨rfl,⟨nd,rfl⟩⟩;refine ⟨_,rfl,?_⟩) | (go_at_call 95;(with_reducible refine (Rf07_num.calls a0_1 false _ A6.out).mono ?_);rintro e w' ⟨rfl,⟨nd,rfl⟩⟩))
    go_meet
    case rel => exact ⟨_,(true),q5_,H',⟨by first | omega | exact Nat.le_refl _⟩,⟨by (with_reducible repeat (first | refine blk_drewN ?_ _ | refine blk_drew ?_ | refine blk_alloc ?_ _));exact BK101.out⟩,⟨by repeat (first | (with_reducible first | exact HB.out | apply below_alloc | apply pw_below_drewN | apply below_drew1 | refine below_set ?_ GE101.out) | exact HB.out)⟩⟩
  ·replace c5:=Bool.eq_false_iff.mpr c5
   subst c5
   rw [if_neg (show ¬ (false = true) by decide)] at H
   have H':=Aside0.mk H
   clear H
   have hcz15_0 : w3.cell? ⟨gb101,0,none⟩ = some (.int .i64 a0_0):=(blk_cell BK101.out 0).trans rfl
   have hcz15_1 : w3.cell? ⟨gb101,1,none⟩ = some (.int .i64 a0_1):=(blk_cell BK101.out 1).trans rfl
   have hcz15_2 : w3.cell? ⟨gb101,2,none⟩ = some (.int .i64 a0_2):=(blk_cell BK101.out 2).trans rfl
   have hcz15_3 : w3.cell? ⟨gb101,3,none⟩ = some (.string a0_3):=(blk_cell BK101.out 3).trans rfl
   have hcz15_4 : w3.cell? ⟨gb101,4,none⟩ = some (.string a0_4):=(blk_cell BK101.out 4).trans rfl
   have hfz15_0:=blk_frozen BK101.out 0
   have hfz15_1:=blk_frozen BK101.out 1
   have hfz15_2:=blk_frozen BK101.out 2
   have hfz15_3:=blk_frozen BK101.out 3
   have hfz15_4:=blk_frozen BK101.out 4
   go_wp2_with (first | ((with_reducible refine gate_callee (f:=95) rfl ?_);refine gl_ 5 Tryz.func95 #[.int .i64 a0_0] ?_;(with_reducible refine (Rf07_num.calls a0_0 false _ A4.out).mono ?_);rintro e w' ⟨rfl,⟨nd,rfl⟩⟩;refine ⟨_,rfl,?_⟩))
   go_meet
   case rel => exact ⟨_,(true),q5_,H',⟨by first | omega | exact Nat.le_refl _⟩,⟨by (with_reducible repeat (first | refine blk_drewN ?_ _ | refine blk_drew ?_ | refine blk_alloc ?_ _));exact BK101.out⟩,⟨by repeat (first | (with_reducible first | exact HB.out | apply below_alloc | apply pw_below_drewN | apply below_drew1 | refine below_set ?_ GE101.out) | exact HB.out)⟩⟩
 case rest =>
  clear HC2
  try clear c1
  try clear p2
  try clear c5
  try clear c6
  try clear c7
  try clear c9
  try clear c10
  try clear c10b0
  try clear c10b1
  try clear hcz11_0
  try clear hcz11_1
  try clear hcz11_2
  try clear hcz11_3
  try clear hcz11_4
  try clear hcz12_0
  try clear hcz12_1
  try clear hcz12_2
  try clear hcz12_3
  try clear hcz12_4
  try clear hcz13_0
  try clear hcz13_1
  try clear hcz13_2
  try clear hcz13_3
  try clear hcz13_4
  try clear hcz14_0
  try clear hcz14_1
  try clear hcz14_2
  try clear hcz14_3
  try clear hcz14_4
  try clear hcz15_0
  try clear hcz15_1
  try clear hcz15_2
  try clear hcz15_3
  try clear hcz15_4
  try clear hfz11_0
  try clear hfz11_1
  try clear hfz11_2
  try clear hfz11_3
  try clear hfz11_4
  try clear hfz12_0
  try clear hfz12_1
  try clear hfz12_2
  try clear hfz12_3
  try clear hfz12_4
  try clear hfz13_0
  try clear hfz13_1
  try clear hfz13_2
  try clear hfz13_3
  try clear hfz13_4
  try clear hfz14_0
  try clear hfz14_1
  try clear hfz14_2
  try clear hfz14_3
  try clear hfz14_4
  try clear hfz15_0
  try clear hfz15_1
  try clear hfz15_2
  try clear hfz15_3
  try clear hfz15_4
  obtain ⟨kq,x30_1,rfl,HA,HJ1,BK101,HB⟩:=hcut
  cases kq with
  | zero => exact absurd HA.out (by simp [Rf07_Check.j0])
  | succ kj1 =>
   have H:=HA.out
   clear HA
   simp only [Rf07_Check.j0] at H
   by_cases c16 : x30_1 = true
   ·subst c16
    rw [if_pos rfl] at H
    obtain rfl:=Option.some.inj H
    go_wp2
    go_ret
    exact ⟨q2_,bh_⟩
   ·replace c16:=Bool.eq_false_iff.mpr c16
    subst c16
    rw [if_neg (show ¬ (false = true) by decide)] at H
    by_cases c17 : a0_3.toList = ([] : List UInt8)
    ·rw [if_pos c17] at H
     have c17b0:=beq_iff_eq.mpr c17
     have c17b1:=bne_eq_false_iff_eq.mpr c17
     clear c17
     by_cases c18 : a0_4.toList = ([] : List UInt8)
     ·rw [if_pos c18] at H
      have c18b0:=beq_iff_eq.mpr c18
      have c18b1:=bne_eq_false_iff_eq.mpr c18
      clear c18
      obtain rfl:=Option.some.inj H
      have hcz19_0 : wc.cell? ⟨gb101,0,none⟩ = some (.int .i64 a0_0):=(blk_cell BK101.out 0).trans rfl
      have hcz19_1 : wc.cell? ⟨gb101,1,none⟩ = some (.int .i64 a0_1):=(blk_cell BK101.out 1).trans rfl
      have hcz19_2 : wc.cell? ⟨gb101,2,none⟩ = some (.int .i64 a0_2):=(blk_cell BK101.out 2).trans rfl
      have hcz19_3 : wc.cell? ⟨gb101,3,none⟩ = some (.string a0_3):=(blk_cell BK101.out 3).trans rfl
      have hcz19_4 : wc.cell? ⟨gb101,4,none⟩ = some (.string a0_4):=(blk_cell BK101.out 4).trans rfl
      have hfz19_0:=blk_frozen BK101.out 0
      have hfz19_1:=blk_frozen BK101.out 1
      have hfz19_2:=blk_frozen BK101.out 2
      have hfz19_3:=blk_frozen BK101.out 3
      have hfz19_4:=blk_frozen BK101.out 4
      go_wp2
      go_ret
      exact ⟨q2_,bh_⟩
     ·rw [if_neg c18] at H
      have c18b0:=beq_eq_false_iff_ne.mpr c18
      have c18b1:=bne_iff_ne.mpr c18
      obtain ⟨t105,A200,H⟩:=Option.bind_eq_some_iff.mp H
      have A20:=Aside0.mk A200
      clear A200
      obtain rfl:=Option.some.inj H
      have hcz21_0 : wc.cell? ⟨gb101,0,none⟩ = some (.int .i64 a0_0):=(blk_cell BK101.out 0).trans rfl
      have hcz21_1 : wc.cell? ⟨gb101,1,none⟩ = some (.int .i64 a0_1):=(blk_cell BK101.out 1).trans rfl
      have hcz21_2 : wc.cell? ⟨gb101,2,none⟩ = some (.int .i64 a0_2):=(blk_cell BK101.out 2).trans rfl
      have hcz21_3 : wc.cell? ⟨gb101,3,none⟩ = some (.string a0_3):=(blk_cell BK101.out 3).trans rfl
      have hcz21_4 : wc.cell? ⟨gb101,4,none⟩ = some (.string a0_4):=(blk_cell BK101.out 4).trans rfl
      have hfz21_0:=blk_frozen BK101.out 0
      have hfz21_1:=blk_frozen BK101.out 1
      have hfz21_2:=blk_frozen BK101.out 2
      have hfz21_3:=blk_frozen BK101.out 3
      have hfz21_4:=blk_frozen BK101.out 4
      go_wp2_with (first | (go_at_call 96;(with_reducible refine (Rf07_identifiers.calls kj1 a0_4 true t105 _ A20.out).mono ?_);rintro e w22 ⟨rfl,hb⟩;replace BK101:=Aside0.mk (blk_below bk101_ hb);replace HB:=Aside0.mk (below_step bh_ hb);(try clear hb)))
      go_ret
      exact ⟨q2_,bh_⟩
    ·rw [if_neg c17] at H
     have c17b0:=beq_eq_false_iff_ne.mpr c17
     have c17b1:=bne_iff_ne.mpr c17
     obtain ⟨t106,A230,H⟩:=Option.bind_eq_some_iff.mp H
     have A23:=Aside0.mk A230
     clear A230
     by_cases c24 : t106 = true
     ·subst c24
      rw [if_pos rfl] at H
      by_cases c25 : a0_4.toList = ([] : List UInt8)
      ·rw [if_pos c25] at H
       have c25b0:=beq_iff_eq.mpr c25
       have c25b1:=bne_eq_false_iff_eq.mpr c25
       clear c25
       obtain rfl:=Option.some.inj H
       have hcz26_0 : wc.cell? ⟨gb101,0,none⟩ = some (.int .i64 a0_0):=(blk_cell BK101.out 0).trans rfl
       have hcz26_1 : wc.cell? ⟨gb101,1,none⟩ = some (.int .i64 a0_1):=(blk_cell BK101.out 1).trans rfl
       have hcz26_2 : wc.cell? ⟨gb101,2,none⟩ = some (.int .i64 a0_2):=(blk_cell BK101.out 2).trans rfl
       have hcz26_3 : wc.cell? ⟨gb101,3,none⟩ = some (.string a0_3):=(blk_cell BK101.out 3).trans rfl
       have hcz26_4 : wc.cell? ⟨gb101,4,none⟩ = some (.string a0_4):=(blk_cell BK101.out 4).trans rfl
       have hfz26_0:=blk_frozen BK101.out 0
       have hfz26_1:=blk_frozen BK101.out 1
       have hfz26_2:=blk_frozen BK101.out 2
       have hfz26_3:=blk_frozen BK101.out 3
       have hfz26_4:=blk_frozen BK101.out 4
       go_wp2_with (first | (go_at_call 96;(with_reducible refine (Rf07_identifiers.calls kj1 a0_3 false true _ A23.out).mono ?_);rintro e w27 ⟨rfl,hb⟩;replace BK101:=Aside0.mk (blk_below bk101_ hb);replace HB:=Aside0.mk (below_step bh_ hb);(try clear hb);have hcz28_0 : w27.cell? ⟨gb101,0,none⟩ = some (.int .i64 a0_0):=(blk_cell BK101.out 0).trans rfl;have hcz28_1 : w27.cell? ⟨gb101,1,none⟩ = some (.int .i64 a0_1):=(blk_cell BK101.out 1).trans rfl;have hcz28_2 : w27.cell? ⟨gb101,2,none⟩ = some (.int .i64 a0_2):=(blk_cell BK101.out 2).trans rfl;have hcz28_3 : w27.cell? ⟨gb101,3,none⟩ = some (.string a0_3):=(blk_cell BK101.out 3).trans rfl;have hcz28_4 : w27.cell? ⟨gb101,4,none⟩ = some (.string a0_4):=(blk_cell BK101.out 4).trans rfl;have hfz28_0:=blk_frozen BK101.out 0;have hfz28_1:=blk_frozen BK101.out 1;have hfz28_2:=blk_frozen BK101.out 2;have hfz28_3:=blk_frozen BK101.out 3;have hfz28_4:=blk_frozen BK101.out 4))
       go_ret
       exact ⟨q2_,bh_⟩
      ·rw [if_neg c25] at H
       have c25b0:=beq_eq_false_iff_ne.mpr c25
       have c25b1:=bne_iff_ne.mpr c25
       obtain ⟨t107,A290,H⟩:=Option.bind_eq_some_iff.mp H
       have A29:=Aside0.mk A290
       clear A290
       obtain rfl:=Option.some.inj H
       have hcz30_0 : wc.cell? ⟨gb101,0,none⟩ = some (.int .i64 a0_0):=(blk_cell BK101.out 0).trans rfl
       have hcz30_1 : wc.cell? ⟨gb101,1,none⟩ = some (.int .i64 a0_1):=(blk_cell BK101.out 1).trans rfl
       have hcz30_2 : wc.cell? ⟨gb101,2,none⟩ = some (.int .i64 a0_2):=(blk_cell BK101.out 2).trans rfl
       have hcz30_3 : wc.cell? ⟨gb101,3,none⟩ = some (.string a0_3):=(blk_cell BK101.out 3).trans rfl
       have hcz30_4 : wc.cell? ⟨gb101,4,none⟩ = some (.string a0_4):=(blk_cell BK101.out 4).trans rfl
       have hfz30_0:=blk_frozen BK101.out 0
       have hfz30_1:=blk_frozen BK101.out 1
       have hfz30_2:=blk_frozen BK101.out 2
       have hfz30_3:=blk_frozen BK101.out 3
       have hfz30_4:=blk_frozen BK101.out 4
       go_wp2_with (first | (go_at_call 96;(with_reducible refine (Rf07_identifiers.calls kj1 a0_3 false true _ A23.out).mono ?_);rintro e w31 ⟨rfl,hb⟩;replace BK101:=Aside0.mk (blk_below bk101_ hb);replace HB:=Aside0.mk (below_step bh_ hb);(try clear hb);have hcz32_0 : w31.cell? ⟨gb101,0,none⟩ = some (.int .i64 a0_0):=(blk_cell BK101.out 0).trans rfl;have hcz32_1 : w31.cell? ⟨gb101,1,none⟩ = some (.int .i64 a0_1):=(blk_cell BK101.out 1).trans rfl;have hcz32_2 : w31.cell? ⟨gb101,2,none⟩ = some (.int .i64 a0_2):=(blk_cell BK101.out 2).trans rfl;have hcz32_3 : w31.cell? ⟨gb101,3,none⟩ = some (.string a0_3):=(blk_cell BK101.out 3).trans rfl;have hcz32_4 : w31.cell? ⟨gb101,4,none⟩ = some (.string a0_4):=(blk_cell BK101.out 4).trans rfl;have hfz32_0:=blk_frozen BK101.out 0;have hfz32_1:=blk_frozen BK101.out 1;have hfz32_2:=blk_frozen BK101.out 2;have hfz32_3:=blk_frozen BK101.out 3;have hfz32_4:=blk_frozen BK101.out 4) | (go_at_call 96;(with_reducible refine (Rf07_identifiers.calls kj1 a0_4 true t107 _ A29.out).mono ?_);rintro e w33 ⟨rfl,hb⟩;replace BK101:=Aside0.mk (blk_below bk101_ hb);replace HB:=Aside0.mk (below_step bh_ hb);(try clear hb)))
       go_ret
       exact ⟨q2_,bh_⟩
     ·replace c24:=Bool.eq_false_iff.mpr c24
      subst c24
      rw [if_neg (show ¬ (false = true) by decide)] at H
      obtain rfl:=Option.some.inj H
      have hcz34_0 : wc.cell? ⟨gb101,0,none⟩ = some (.int .i64 a0_0):=(blk_cell BK101.out 0).trans rfl
      have hcz34_1 : wc.cell? ⟨gb101,1,none⟩ = some (.int .i64 a0_1):=(blk_cell BK101.out 1).trans rfl
      have hcz34_2 : wc.cell? ⟨gb101,2,none⟩ = some (.int .i64 a0_2):=(blk_cell BK101.out 2).trans rfl
      have hcz34_3 : wc.cell? ⟨gb101,3,none⟩ = some (.string a0_3):=(blk_cell BK101.out 3).trans rfl
      have hcz34_4 : wc.cell? ⟨gb101,4,none⟩ = some (.string a0_4):=(blk_cell BK101.out 4).trans rfl
      have hfz34_0:=blk_frozen BK101.out 0
      have hfz34_1:=blk_frozen BK101.out 1
      have hfz34_2:=blk_frozen BK101.out 2
      have hfz34_3:=blk_frozen BK101.out 3
      have hfz34_4:=blk_frozen BK101.out 4
      go_wp2_with (first | (go_at_call 96;(with_reducible refine (Rf07_identifiers.calls kj1 a0_3 false false _ A23.out).mono ?_);rintro e w35 ⟨rfl,hb⟩;replace BK101:=Aside0.mk (blk_below bk101_ hb);replace HB:=Aside0.mk (below_step bh_ hb);(try clear hb)))
      go_ret
      exact ⟨q2_,bh_⟩
end Go.Proofs.YtennhpoemdaghaaGreatDoor.P
end
section
namespace Go.Proofs.YtennhpoemdaghaaGreatDoor.P
open Go Go.RowKit Go.Proofs.YtennhpoemdaghaaGreatDoorW.PrintWords
theorem digitB_int (b : UInt8) : digitB b = decide (48 ≤ (b.toNat : Int) ∧ (b.toNat : Int) ≤ 57) :=
 all_bytes (p:=fun b => digitB b = decide (48 ≤ (b.toNat : Int) ∧ (b.toNat : Int) ≤ 57)) q55_ b
theorem wordB_int (b : UInt8) : wordB b = decide ((97 ≤ (b.toNat : Int) ∧ (b.toNat : Int) ≤ 122) ∨ (65 ≤ (b.toNat : Int) ∧ (b.toNat : Int) ≤ 90) ∨ (48 ≤ (b.toNat : Int) ∧ (b.toNat : Int) ≤ 57) ∨ (b.toNat : Int) = 45) :=
 all_bytes (p:=fun b => wordB b = decide ((97 ≤ (b.toNat : Int) ∧ (b.toNat : Int) ≤ 122) ∨ (65 ≤ (b.toNat : Int) ∧ (b.toNat : Int) ≤ 90) ∨ (48 ≤ (b.toNat : Int) ∧ (b.toNat : Int) ≤ 57) ∨ (b.toNat : Int) = 45)) q55_ b
theorem refdigits_f (s : ByteArray) (hs : s.size ≤ 140737488355328) (k : Nat) (hk : s.size < k) : Rf07_digits.f k s = some (digitsB s.data.toList):=by
 unfold Rf07_digits.f
 have h:=scan_gen (fun k i => Rf07_digits.l0 k s i) s digitB (!(s.data.toList == [])) false (fun k i => by
  show Rf07_digits.l0 (k + 1) s (i : Int) = _
  simp only [Rf07_digits.l0]
  by_cases h : i < s.size
  ·rw [if_pos q8_,if_pos q8_,if_pos h,bt_byteAt s i h,wrap_succ i s.size h hs,digitB_int]
   generalize Rf07_digits.l0 k s ((i + 1 : Nat) : Int) = g
   generalize ((byteAt s i).toNat : Int) = n
   simp only [decide_eq_true_eq]
   repeat' split
   all_goals first | rfl | (exfalso;omega)
  ·rw [if_neg q8_,if_neg h,toList_eq];simp [bne]) (s.size - 0) k 0 rfl q8_
 rw [show ((0 : Nat) : Int) = 0 from rfl] at h
 simp only [List.drop_zero] at h
 rw [h]
 unfold digitsB
 cases s.data.toList.all digitB <;> simp
def idB (z : Bool) (l : List UInt8) : Bool:=wordsB l && (z || tightB l)
theorem ids_part (z : Bool) (l : List ByteArray) (i : Nat) (hi : i < l.length) (p : ByteArray) (hp : l[i] = p) (hsz : p.size ≤ 4294967296) (K : Nat) (hK : p.size < K) (R : Bool) (hR : ∀ k,K ≤ k → Rf07_identifiers.l0 k z l (wrap64 ((i : Int) + 1)) = some R) :
  ∀ (d j k : Nat),j ≤ p.size → p.size - j = d → K + d + 1 ≤ k → Rf07_identifiers.l1 k z l (i : Int) (j : Int) = some ((p.data.toList.drop j).all wordB && (!(p.data.toList == []) && (z || tightB p.data.toList)) && R):=by
 have hr : rdOf ByteArray.empty l (i : Int) = p:=by rw [← hp];simp [rdOf,hi]
 have hz : p.data.toList.length = p.size:=rfl
 intro d
 induction d with
 | zero =>
  intro j k hj hd hk
  obtain ⟨k,rfl⟩ : ∃ m,k = m + 1:=⟨k - 1,by omega⟩
  have hj' : j = p.size:=by omega
  rw [Rf07_identifiers.l1,hr,if_pos q8_,if_pos q8_,if_neg q8_,toList_eq,List.drop_eq_nil_of_le q8_]
  by_cases h0 : p.data.toList = []
  ·rw [if_pos h0];simp [h0]
  ·have e0 : (p.data.toList == []) = false:=by simpa using h0
   rw [if_neg h0,e0,hR k q8_]
   cases z with
   | true => simp
   | false =>
    rw [if_neg q37_,refdigits_f p q8_ k q8_,Option.bind_some]
    unfold tightB
    rw [hz]
    cases hd : digitsB p.data.toList with
    | false => simp
    | true =>
     rw [if_pos rfl]
     by_cases h2 : p.size < 2
     ·rw [if_neg q8_];simp [h2]
     ·rw [if_pos q8_,if_pos q8_,decide_eq_false h2]
      have hb:=bt_byteAt p 0 q8_
      rw [show ((0 : Nat) : Int) = 0 from rfl] at hb
      have hh : byteAt p 0 = p.data.toList.headD 0:=by
       unfold byteAt
       cases p.data.toList <;> rfl
      rw [hb,hh]
      generalize p.data.toList.headD 0 = hd0
      by_cases h48 : hd0 = 48
      ·rw [if_pos (by rw [h48];rfl)];simp [h48]
      ·have hne : ¬ ((hd0.toNat : Int) = 48):=fun e => h48 (UInt8.toNat_inj.1 (by rw [show (48 : UInt8).toNat = 48 from rfl];omega))
       rw [if_neg hne]
       have e48 : (hd0 == 48) = false:=by simpa using h48
       simp [e48]
 | succ d ih =>
  intro j k hj hd hk
  obtain ⟨k,rfl⟩ : ∃ m,k = m + 1:=⟨k - 1,by omega⟩
  have hj' : j < p.size:=by omega
  have hb : p.data.toList[j]'q8_ = byteAt p j:=by simp [byteAt,hz,hj']
  have hw : wrap64 ((j : Int) + 1) = ((j + 1 : Nat) : Int):=by unfold wrap64;omega
  rw [Rf07_identifiers.l1,hr,if_pos q8_,if_pos q8_,if_pos q8_,if_pos q8_,bt_byteAt p j hj',hw]
  rw [ih (j + 1) k q8_ q8_ q8_]
  rw [List.drop_eq_getElem_cons (show j < p.data.toList.length by omega),hb,List.all_cons,wordB_int]
  generalize (p.data.toList.drop (j + 1)).all wordB = g
  generalize (!(p.data.toList == []) && (z || tightB p.data.toList)) = q
  generalize ((byteAt p j).toNat : Int) = n
  by_cases hn : ((97 ≤ n ∧ n ≤ 122) ∨ (65 ≤ n ∧ n ≤ 90) ∨ (48 ≤ n ∧ n ≤ 57) ∨ n = 45)
  ·rw [decide_eq_true hn,Bool.true_and]
   repeat' split
   all_goals first | rfl | (exfalso;omega)
  ·rw [decide_eq_false hn,Bool.false_and,Bool.false_and]
   repeat' split
   all_goals first | rfl | (exfalso;omega)
theorem ids_gen (z : Bool) (l : List ByteArray) (M : Nat) (hM : ∀ p ∈ l,p.size ≤ M) (hM2 : M ≤ 4294967296) (hl : l.length ≤ 4294967296) : ∀ (d i k : Nat),i ≤ l.length → l.length - i = d → (d + 1) * (M + 3) ≤ k → Rf07_identifiers.l0 k z l (i : Int) = some ((l.drop i).all fun p => idB z p.data.toList):=by
 intro d
 induction d with
 | zero =>
  intro i k hi hd hk
  obtain ⟨k,rfl⟩ : ∃ m,k = m + 1:=⟨k - 1,by omega⟩
  rw [Rf07_identifiers.l0,if_neg q8_,List.drop_eq_nil_of_le q8_]
  rfl
 | succ d ih =>
  intro i k hi hd hk
  have hk2 : (d + 1) * (M + 3) + (M + 3) ≤ k:=by rw [Nat.succ_mul] at hk;exact hk
  obtain ⟨k,rfl⟩ : ∃ m,k = m + 1:=⟨k - 1,by omega⟩
  have h : i < l.length:=by omega
  have hw : wrap64 ((i : Int) + 1) = ((i + 1 : Nat) : Int):=by unfold wrap64;omega
  have hsz:=hM _ (List.getElem_mem h)
  have hkm : M < (d + 1) * (M + 3):=by
   have : 1 * (M + 3) ≤ (d + 1) * (M + 3):=Nat.mul_le_mul_right _ q8_
   omega
  have hp:=ids_part z l i h l[i] rfl q8_ ((d + 1) * (M + 3)) q8_ ((l.drop (i + 1)).all fun p => idB z p.data.toList) (fun k' hk' => by rw [hw];exact ih (i + 1) k' q8_ q8_ hk') (l[i].size) 0 k (Nat.zero_le _) rfl q8_
  rw [show ((0 : Nat) : Int) = 0 from rfl,List.drop_zero] at hp
  rw [Rf07_identifiers.l0,if_pos q8_,hp,List.drop_eq_getElem_cons h,List.all_cons]
  unfold idB wordsB
  simp only [Bool.and_assoc]
theorem ids_f (s : ByteArray) (z : Bool) (hs : s.size ≤ 30) (k : Nat) (hk : 1100 < k) : Rf07_identifiers.f k s z = some ((splitL 46 s.data.toList).all (idB z)):=by
 unfold Rf07_identifiers.f
 have hsp:=refSplit_f s 46 q8_ k q8_
 rw [show ((46 : UInt8).toNat : Int) = 46 from rfl] at hsp
 have hlen : (splitS 46 s).length ≤ s.size + 1:=by unfold splitS;rw [List.length_map];exact splitL_length _ _
 have hsz : ∀ p ∈ splitS 46 s,p.size ≤ 30:=fun p hp => Nat.le_trans (splitS_size 46 s p hp) hs
 have hb : ((splitS 46 s).length + 1) * (30 + 3) ≤ k:=by
  have : ((splitS 46 s).length + 1) * (30 + 3) ≤ 32 * 33:=Nat.mul_le_mul_right _ q8_
  omega
 have hg:=ids_gen z (splitS 46 s) 30 hsz q8_ q8_ (splitS 46 s).length 0 k (Nat.zero_le _) rfl hb
 rw [show ((0 : Nat) : Int) = 0 from rfl,List.drop_zero] at hg
 rw [hsp,Option.bind_some,hg]
 unfold splitS
 rw [List.all_map]
 rfl
theorem refVer_f (a b c : Int) (p q : ByteArray) (k : Nat) (hk : 1200 < k) : Rf07_Check.f k a b c p q = some (verB a b c p.data.toList q.data.toList):=by
 have hzp : p.data.toList.length = p.size:=rfl
 have hzq : q.data.toList.length = q.size:=rfl
 have hnum : ∀ n : Int,Rf07_num.f n = some (numB n):=fun n => by
  unfold Rf07_num.f numB
  by_cases h : 0 ≤ n
  ·rw [if_pos h,decide_eq_true h];rfl
  ·rw [if_neg h,decide_eq_false h];rfl
 have hj1 : ∀ k,1150 < k → Rf07_Check.j0 k true a b c p q = some false:=fun k hk => by
  obtain ⟨k,rfl⟩ : ∃ m,k = m + 1:=⟨k - 1,by omega⟩
  rw [Rf07_Check.j0,if_pos rfl]
 unfold Rf07_Check.f verB
 rw [hnum a,Option.bind_some,hnum b,hnum c,hzp,hzq]
 cases numB a with
 | false => rw [if_neg q37_,hj1 k q8_];rfl
 | true =>
 rw [if_pos rfl,Option.bind_some]
 cases numB b with
 | false => rw [if_neg q37_,hj1 k q8_];rfl
 | true =>
 rw [if_pos rfl,Option.bind_some]
 cases numB c with
 | false => rw [if_neg q37_,hj1 k q8_];rfl
 | true =>
 rw [if_pos rfl]
 by_cases hp : p.size ≤ 30
 ·rw [if_neg q8_,decide_eq_true hp]
  by_cases hq : q.size ≤ 30
  ·have e : decide ((q.size : Int) > 30) = false:=decide_eq_false q8_
   rw [e,decide_eq_true hq]
   obtain ⟨k,rfl⟩ : ∃ m,k = m + 1:=⟨k - 1,by omega⟩
   rw [Rf07_Check.j0,if_neg q37_,toList_eq,toList_eq,ids_f q true hq k q8_,ids_f p false hp k q8_]
   have e1 : (splitL 46 q.data.toList).all (idB true) = identsB q.data.toList:=by
    unfold identsB
    exact congrArg (fun f => (splitL 46 q.data.toList).all f) (funext fun l => by simp [idB])
   have e2 : (splitL 46 p.data.toList).all (idB false) = preB p.data.toList:=by
    unfold preB
    exact congrArg (fun f => (splitL 46 p.data.toList).all f) (funext fun l => by simp [idB])
   rw [e1,e2]
   by_cases h0 : p.data.toList = []
   ·by_cases h1 : q.data.toList = []
    ·simp [h0,h1]
    ·have e4 : (q.data.toList == []) = false:=by simpa using h1
     rw [if_pos h0,if_neg h1,e4,h0]
     simp
   ·have e3 : (p.data.toList == []) = false:=by simpa using h0
    rw [if_neg h0,e3]
    cases preB p.data.toList
    ·simp
    ·by_cases h1 : q.data.toList = []
     ·simp [h1]
     ·have e4 : (q.data.toList == []) = false:=by simpa using h1
      simp only [Option.bind_some,if_true,if_neg h1,e4]
      simp
  ·have e : decide ((q.size : Int) > 30) = true:=decide_eq_true q8_
   rw [e,hj1 k q8_,decide_eq_false hq]
   simp
 ·rw [if_pos q8_,hj1 k q8_,decide_eq_false hp]
  simp
end Go.Proofs.YtennhpoemdaghaaGreatDoor.P
end
section
namespace Go.Proofs.YtennhpoemdaghaaGreatDoor.P
open Go
def valFrom (acc : Nat) (l : List UInt8) : Nat:=l.foldl (fun a c => a * 10 + (c.toNat - 48)) acc
def valL (l : List UInt8) : Nat:=valFrom 0 l
theorem digitB_iff (b : UInt8) : digitB b = true ↔ 48 ≤ b.toNat ∧ b.toNat ≤ 57:=by
  unfold digitB
  rw [Bool.and_eq_true,decide_eq_true_iff,decide_eq_true_iff,UInt8.le_iff_toNat_le,UInt8.le_iff_toNat_le]
  exact Iff.rfl
theorem valFrom_cons (acc : Nat) (c : UInt8) (r : List UInt8) : valFrom acc (c :: r) = valFrom (acc * 10 + (c.toNat - 48)) r:=by simp only [valFrom,List.foldl_cons]
theorem valFrom_nil (acc : Nat) : valFrom acc [] = acc:=by simp only [valFrom,List.foldl_nil]
theorem valFrom_ge (l : List UInt8) : ∀ acc : Nat,acc ≤ valFrom acc l:=by
  induction l with
  | nil => intro acc;rw [valFrom_nil];exact Nat.le_refl _
  | cons c r ih =>
    intro acc
    rw [valFrom_cons]
    have:=ih (acc * 10 + (c.toNat - 48))
    omega
theorem valFrom_append (l m : List UInt8) (acc : Nat) : valFrom acc (l ++ m) = valFrom (valFrom acc l) m:=List.foldl_append
theorem valL_snoc (l : List UInt8) (c : UInt8) : valL (l ++ [c]) = valL l * 10 + (c.toNat - 48):=by
  unfold valL;rw [valFrom_append];rfl
theorem parseUint10_digits : ∀ (l : List UInt8) (acc : Nat),l.all digitB = true → acc < 18446744073709551616 →
    Lib.parseUint10 acc l = if valFrom acc l < 18446744073709551616 then .ok (valFrom acc l) else .range
  | [],acc,_,ha => by rw [valFrom_nil,if_pos ha];rfl
  | c :: r,acc,h,ha => by
    rw [List.all_cons,Bool.and_eq_true] at h
    have hd:=(digitB_iff c).1 h.1
    rw [valFrom_cons,Lib.parseUint10]
    have hge:=valFrom_ge r (acc * 10 + (c.toNat - 48))
    rw [if_pos hd]
    split
    · exact (if_neg q8_).symm
    · split
      · exact (if_neg q8_).symm
      · exact parseUint10_digits r _ h.2 q8_
theorem atoiAll_digits (l : List UInt8) (h : l.all digitB = true) (hne : l ≠ []) :
    Lib.atoiAll l = if valL l < 9223372036854775808 then .ok (valL l : Int) else .range:=by
  match l,hne with
  | c :: r,_ =>
    have hd:=(digitB_iff c).1 (by rw [List.all_cons,Bool.and_eq_true] at h;exact h.1)
    rw [Lib.atoiAll_plain c r q8_ q8_]
    unfold Lib.parseMag
    rw [if_neg q43_,parseUint10_digits _ 0 h q8_]
    show _ = if valFrom 0 (c :: r) < _ then Lib.NumEnd.ok (valFrom 0 (c :: r) : Int) else _
    by_cases h1 : valFrom 0 (c :: r) < 18446744073709551616
    · rw [if_pos h1]
      unfold Lib.signless
      by_cases h2 : valFrom 0 (c :: r) < 9223372036854775808
      · simp [h2]
      · simp [h2]
    · rw [if_neg h1,if_neg q8_]
      rfl
theorem decDigits_valL : ∀ (n : Nat) (l : List UInt8),l.length = n → l.all digitB = true → l ≠ [] → l.headD 0 ≠ 48 → Lib.decDigits (valL l) = l ∧ 1 ≤ valL l:=by
  intro n
  induction n with
  | zero => intro l hl _ hne;exact absurd (List.eq_nil_of_length_eq_zero hl) hne
  | succ n ih =>
    intro l hl hd hne hh
    obtain ⟨r,c,rfl⟩ : ∃ r c,l = r ++ [c]:=⟨l.dropLast,l.getLast hne,(List.dropLast_concat_getLast hne).symm⟩
    rw [List.all_append,Bool.and_eq_true] at hd
    have hc:=(digitB_iff c).1 (by simpa using hd.2)
    rw [valL_snoc]
    have hch : UInt8.ofNat (48 + (c.toNat - 48)) = c:=by
      rw [show 48 + (c.toNat - 48) = c.toNat by omega];simp
    by_cases hr : r = []
    · subst hr
      have h48 : c.toNat ≠ 48:=fun e => hh (by simp;exact UInt8.toNat_inj.1 (by rw [e];rfl))
      have e : valL [] * 10 + (c.toNat - 48) = c.toNat - 48:=by rw [valL,valFrom_nil];omega
      rw [e,Lib.decDigits_one q8_,hch]
      exact ⟨rfl,by omega⟩
    · have hh' : r.headD 0 ≠ 48:=by
        match r,hr with
        | x :: t,_ => simpa using hh
      obtain ⟨h1,h2⟩:=ih r (by simp at hl;exact hl) hd.1 hr hh'
      rw [Lib.decDigits,dif_neg q8_,show (valL r * 10 + (c.toNat - 48)) / 10 = valL r by omega,show (valL r * 10 + (c.toNat - 48)) % 10 = c.toNat - 48 by omega,h1,hch]
      exact ⟨rfl,by omega⟩
theorem decDigits_head (n : Nat) : ∀ u : Nat,u ≤ n → 1 ≤ u → Lib.decDigits u ≠ [] ∧ (Lib.decDigits u).headD 0 ≠ 48:=by
  induction n with
  | zero => intro u h1 h2;omega
  | succ n ih =>
    intro u h1 h2
    by_cases hs : u < 10
    · rw [Lib.decDigits_one hs]
      refine ⟨by simp,?_⟩
      have : ∀ i : Fin 10,1 ≤ i.val → UInt8.ofNat (48 + i.val) ≠ 48:=by decide
      simpa using this ⟨u,hs⟩ h2
    · obtain ⟨h3,h4⟩:=ih (u / 10) q8_ q8_
      rw [Lib.decDigits,dif_neg hs]
      refine ⟨by simp,?_⟩
      match hd : Lib.decDigits (u / 10),h3 with
      | x :: t,_ => rw [hd] at h4;simpa using h4
theorem itoa_digits (l : List UInt8) (h : l.all digitB = true) (hne : l ≠ []) (h1 : 1 ≤ valL l) : Lib.itoa (valL l : Int) = l ↔ l.headD 0 ≠ 48:=by
  have e : Lib.itoa (valL l : Int) = Lib.decDigits (valL l):=by
    unfold Lib.itoa;rw [if_neg q8_];simp
  rw [e]
  constructor
  · intro h2
    have:=(decDigits_head (valL l) (valL l) (Nat.le_refl _) h1).2
    rwa [h2] at this
  · intro h2
    exact (decDigits_valL _ l rfl h hne h2).1
def tenDigits : List UInt8:=[48,49,50,51,52,53,54,55,56,57]
theorem tenDigits_contains (b : UInt8) : tenDigits.contains b = digitB b :=
  all_bytes (p:=fun b => tenDigits.contains b = digitB b) q55_ b
theorem trimS_digits (l : List UInt8) : Lib.trimS l tenDigits = [] ↔ l.all digitB = true:=by
  have hf : (fun x => tenDigits.contains x) = digitB:=funext tenDigits_contains
  unfold Lib.trimS Lib.trimLeftS Lib.trimRightS
  rw [hf]
  constructor
  · intro h
    rw [List.all_eq_true]
    have key : ∀ m : List UInt8,m.dropWhile digitB = [] → ∀ x ∈ m,digitB x = true:=by
      intro m
      induction m with
      | nil => intro _ x hx;cases hx
      | cons a t ih =>
        intro hm x hx
        rw [List.dropWhile_cons] at hm
        split at hm
        · rename_i ha
          rcases List.mem_cons.1 hx with rfl | hx
          · exact ha
          · exact ih hm x hx
        · cases hm
    have h2:=key _ h
    intro x hx
    by_cases hx2 : x ∈ l.reverse.dropWhile digitB
    · exact h2 x (by simpa using hx2)
    · have h3 : x ∈ l.reverse:=by simpa using hx
      rw [← List.takeWhile_append_dropWhile (p:=digitB) (l:=l.reverse)] at h3
      rcases List.mem_append.1 h3 with h4 | h4
      · have:=List.all_takeWhile (p:=digitB) (l:=l.reverse)
        rw [List.all_eq_true] at this
        exact this x h4
      · exact absurd h4 hx2
  · intro h
    rw [List.all_eq_true] at h
    have e : l.reverse.dropWhile digitB = []:=by
      have key : ∀ m : List UInt8,(∀ x ∈ m,digitB x = true) → m.dropWhile digitB = []:=by
        intro m
        induction m with
        | nil => intro _;rfl
        | cons a t ih => intro hm;rw [List.dropWhile_cons,if_pos (hm a q43_)];exact ih (fun x hx => hm x (by simp [hx]))
      exact key _ (fun x hx => h x (by simpa using hx))
    rw [e];rfl
def majorB (l : List UInt8) : Int × Bool :=
  if l.headD 0 == 118 then
    (if l.tail == [] || !(l.tail.all digitB) then (0,false)
     else if l.tail.headD 0 == 48 || decide (valL l.tail < 2) || decide (999999999 < valL l.tail) then (0,true)
     else ((valL l.tail : Int),true))
  else (0,false)
end Go.Proofs.YtennhpoemdaghaaGreatDoor.P
end
section
namespace Go.Proofs.YtennhpoemdaghaaGreatDoor.P
open Go Go.RowKit
structure Env (w : World) : Prop where
 maxlen : ∃ m,w.cell? ⟨0,0,none⟩ = some (.int .i64 m)
 syn : ∃ ev,w.cell? ⟨1,0,none⟩ = some ev ∧ (ev = .nilIface ∨ ∃ te pe,ev = .iface te pe)
 rng : ∃ ev,w.cell? ⟨2,0,none⟩ = some ev ∧ (ev = .nilIface ∨ ∃ te pe,ev = .iface te pe)
 tab : Lib.TabIs Tryz.prog w "internal/strconv.uint64pow10" .u64 Lib.pow10Tab
 low : 5 < w.heap.size
theorem Env.below {w w1 : World} (h : Env w) (hb : Below w.heap.size w w1) : Env w1:=by
 obtain ⟨⟨m,hm⟩,⟨s,hs,hs'⟩,⟨r,hr,hr'⟩,ht,hl⟩:=h
 refine ⟨⟨m,?_⟩,⟨s,?_,hs'⟩,⟨r,?_,hr'⟩,?_,Nat.lt_of_lt_of_le hl hb.size⟩
 ·exact (hb.cell (Lib.lt_of_cell hm)).trans hm
 ·exact (hb.cell (Lib.lt_of_cell hs)).trans hs
 ·exact (hb.cell (Lib.lt_of_cell hr)).trans hr
 ·exact var?_below hb (g:=5) q11_ hl ht
end Go.Proofs.YtennhpoemdaghaaGreatDoor.P
end
section
namespace Go.Proofs.YtennhpoemdaghaaGreatDoor.P
open Go Go.RowKit Go.Proofs.YtennhpoemdaghaaGreatDoorW.PrintWords
def mpath_major.f (a0 : ByteArray) : Option (Int × Bool):=if a0.size ≤ 140737488351232 then some (majorB a0.data.toList) else none
theorem prefix_v (l : List UInt8) : Lib.hasPrefix l [118] = (l.headD 0 == 118):=by
 cases l with
 | nil => rfl
 | cons c r => simp only [Lib.hasPrefix,List.isPrefixOf,List.headD_cons,Bool.and_true];exact BEq.comm
set_option maxRecDepth 100000 in
set_option maxHeartbeats 2000000 in
theorem major_no (s : ByteArray) (w : World) (h : Lib.hasPrefix s.data.toList [118] = false) : Calls Tryz.prog 105 #[.string s] w fun e w' => e = .returned (.tuple #[.int .i64 0,.bool false]) ∧ Below w.heap.size w w':=by
 have H:=Lib.hid h
 clear h
 go_enter Tryz.func105,Tryz.ntmps105
 go_wp2_with (go_at_call 111;refine (Tryz.strings_CutPrefix _ _ _).mono ?_;rintro e w' ⟨rfl,rfl⟩;rw [show Lib.hasPrefix s.data.toList (⟨#[118]⟩ : ByteArray).data.toList = false from H.out])
 go_ret2
 exact ⟨rfl,Below.refl _ _⟩
set_option maxRecDepth 100000 in
set_option maxHeartbeats 2000000 in
theorem major_empty (s : ByteArray) (w : World) (h : Lib.hasPrefix s.data.toList [118] = true) (h2 : (⟨(Lib.trimPrefix s.data.toList [118]).toArray⟩ : ByteArray) = ⟨#[]⟩) : Calls Tryz.prog 105 #[.string s] w fun e w' => e = .returned (.tuple #[.int .i64 0,.bool false]) ∧ Below w.heap.size w w':=by
 have H:=Lib.hid h
 have H2:=Lib.hid h2
 clear h h2
 go_enter Tryz.func105,Tryz.ntmps105
 go_wp2_with (go_at_call 111;refine (Tryz.strings_CutPrefix _ _ _).mono ?_;rintro e w' ⟨rfl,rfl⟩;rw [show Lib.hasPrefix s.data.toList (⟨#[118]⟩ : ByteArray).data.toList = true from H.out,show (⟨(Lib.trimPrefix s.data.toList (⟨#[118]⟩ : ByteArray).data.toList).toArray⟩ : ByteArray) = ⟨#[]⟩ from H2.out])
 go_ret2
 exact ⟨rfl,Below.refl _ _⟩
theorem trim_calls (t : ByteArray) (w : World) (ht : t.size ≤ 9223372036854775807) : Calls Tryz.prog 143 #[.string t,.string ⟨#[48,49,50,51,52,53,54,55,56,57]⟩] w fun e w' => e = .returned (.string ⟨(Lib.trimS t.data.toList tenDigits).toArray⟩) ∧ Below w.heap.size w w' :=
 Any.strings_Trim_laid Tryz.lays160 q11_ t ⟨#[48,49,50,51,52,53,54,55,56,57]⟩ w ht q37_ (Go.Proofs.ascii_of_all q37_)
set_option maxRecDepth 100000 in
set_option maxHeartbeats 2000000 in
theorem major_odd (s t : ByteArray) (w : World) (h : Lib.hasPrefix s.data.toList [118] = true) (h2 : (⟨(Lib.trimPrefix s.data.toList [118]).toArray⟩ : ByteArray) = t) (ht : t.size ≤ 140737488351232) (h3 : t.toList.isEmpty = false) (u : ByteArray) (h4 : (⟨(Lib.trimS t.data.toList tenDigits).toArray⟩ : ByteArray) = u) (h5 : u.toList.isEmpty = false) : Calls Tryz.prog 105 #[.string s] w fun e w' => e = .returned (.tuple #[.int .i64 0,.bool false]) ∧ Below w.heap.size w w':=by
 have H:=Lib.hid h
 have H2:=Lib.hid h2
 have H4:=Lib.hid h4
 have ht' : t.size ≤ 9223372036854775807:=by omega
 clear h h2 h4
 go_enter Tryz.func105,Tryz.ntmps105
 go_wp2_with (first
  | (go_at_call 111;refine (Tryz.strings_CutPrefix _ _ _).mono ?_;rintro e w' ⟨rfl,rfl⟩;rw [show Lib.hasPrefix s.data.toList (⟨#[118]⟩ : ByteArray).data.toList = true from H.out,show (⟨(Lib.trimPrefix s.data.toList (⟨#[118]⟩ : ByteArray).data.toList).toArray⟩ : ByteArray) = t from H2.out])
  | (go_at_call 143;refine (trim_calls _ _ ht').mono ?_;rintro e w1 ⟨rfl,hb⟩;rw [H4.out]))
 go_ret2
 exact ⟨rfl,hb⟩
set_option maxRecDepth 100000 in
set_option maxHeartbeats 2000000 in
theorem major_range (s t : ByteArray) (w : World) (hG : Env w) (h : Lib.hasPrefix s.data.toList [118] = true) (h2 : (⟨(Lib.trimPrefix s.data.toList [118]).toArray⟩ : ByteArray) = t) (ht : t.size ≤ 140737488351232) (h3 : t.toList.isEmpty = false) (h4 : (⟨(Lib.trimS t.data.toList tenDigits).toArray⟩ : ByteArray) = ⟨#[]⟩) (h5 : Lib.atoiAll t.data.toList = .range) : Calls Tryz.prog 105 #[.string s] w fun e w' => e = .returned (.tuple #[.int .i64 0,.bool true]) ∧ Below w.heap.size w w':=by
 have H:=Lib.hid h
 have H2:=Lib.hid h2
 have H4:=Lib.hid h4
 have ht' : t.size ≤ 9223372036854775807:=by omega
 have HG:=Lib.hid hG
 have HA:=Lib.hid h5
 have hlim : t.size ≤ 281474976710656:=by omega
 clear h h2 h4 h5 hG
 go_enter Tryz.func105,Tryz.ntmps105
 go_wp2_with (first
  | (go_at_call 111;refine (Tryz.strings_CutPrefix _ _ _).mono ?_;rintro e w' ⟨rfl,rfl⟩;rw [show Lib.hasPrefix s.data.toList (⟨#[118]⟩ : ByteArray).data.toList = true from H.out,show (⟨(Lib.trimPrefix s.data.toList (⟨#[118]⟩ : ByteArray).data.toList).toArray⟩ : ByteArray) = t from H2.out])
  | (go_at_call 143;refine (trim_calls _ _ ht').mono ?_;rintro e w1 ⟨rfl,hb⟩;rw [H4.out])
  | (go_at_call 139;obtain ⟨ev,hv,hev⟩:=(Env.below HG.out hb).rng;refine (Tryz.strconv_Atoi_range _ hlim HA.out ev _ hv hev).mono ?_;clear hv hev;rintro e w2 ⟨Nn,rfl,hN,hcl,hb2⟩))
 go_ret2
 exact ⟨rfl,hb.trans (hb2.mono hb.size)⟩
set_option maxRecDepth 100000 in
set_option maxHeartbeats 2000000 in
theorem major_low (s t : ByteArray) (w : World) (hG : Env w) (h : Lib.hasPrefix s.data.toList [118] = true) (h2 : (⟨(Lib.trimPrefix s.data.toList [118]).toArray⟩ : ByteArray) = t) (ht : t.size ≤ 140737488351232) (h3 : t.toList.isEmpty = false) (h4 : (⟨(Lib.trimS t.data.toList tenDigits).toArray⟩ : ByteArray) = ⟨#[]⟩) (v : Int) (h5 : Lib.atoiAll t.data.toList = .ok v) (hl : v < 2) : Calls Tryz.prog 105 #[.string s] w fun e w' => e = .returned (.tuple #[.int .i64 0,.bool true]) ∧ Below w.heap.size w w':=by
 have H:=Lib.hid h
 have H2:=Lib.hid h2
 have H4:=Lib.hid h4
 have ht' : t.size ≤ 9223372036854775807:=by omega
 have HG:=Lib.hid hG
 have HA:=Lib.hid h5
 have hlim : t.size ≤ 9223372036854775806:=by omega
 have hvb:=Lib.atoiAll_bounds h5
 obtain ⟨hv0,hv1⟩:=hvb
 clear h h2 h4 h5 hG
 go_enter Tryz.func105,Tryz.ntmps105
 go_wp2_with (first
  | (go_at_call 111;refine (Tryz.strings_CutPrefix _ _ _).mono ?_;rintro e w' ⟨rfl,rfl⟩;rw [show Lib.hasPrefix s.data.toList (⟨#[118]⟩ : ByteArray).data.toList = true from H.out,show (⟨(Lib.trimPrefix s.data.toList (⟨#[118]⟩ : ByteArray).data.toList).toArray⟩ : ByteArray) = t from H2.out])
  | (go_at_call 143;refine (trim_calls _ _ ht').mono ?_;rintro e w1 ⟨rfl,hb⟩;rw [H4.out])
  | (go_at_call 139;refine (Tryz.strconv_Atoi_ok _ hlim v HA.out _).mono ?_;rintro e w2 ⟨rfl,hw2⟩;have hb2 : Below w1.heap.size w1 w2:=q44_;clear hw2))
 go_ret2
 exact ⟨rfl,hb.trans (hb2.mono hb.size)⟩
set_option maxRecDepth 100000 in
set_option maxHeartbeats 2000000 in
theorem major_high (s t : ByteArray) (w : World) (hG : Env w) (h : Lib.hasPrefix s.data.toList [118] = true) (h2 : (⟨(Lib.trimPrefix s.data.toList [118]).toArray⟩ : ByteArray) = t) (ht : t.size ≤ 140737488351232) (h3 : t.toList.isEmpty = false) (h4 : (⟨(Lib.trimS t.data.toList tenDigits).toArray⟩ : ByteArray) = ⟨#[]⟩) (v : Int) (h5 : Lib.atoiAll t.data.toList = .ok v) (hl : ¬ v < 2) (hh : 999999999 < v) : Calls Tryz.prog 105 #[.string s] w fun e w' => e = .returned (.tuple #[.int .i64 0,.bool true]) ∧ Below w.heap.size w w':=by
 have H:=Lib.hid h
 have H2:=Lib.hid h2
 have H4:=Lib.hid h4
 have ht' : t.size ≤ 9223372036854775807:=by omega
 have HG:=Lib.hid hG
 have HA:=Lib.hid h5
 have hlim : t.size ≤ 9223372036854775806:=by omega
 have hvb:=Lib.atoiAll_bounds h5
 obtain ⟨hv0,hv1⟩:=hvb
 clear h h2 h4 h5 hG
 go_enter Tryz.func105,Tryz.ntmps105
 go_wp2_with (first
  | (go_at_call 111;refine (Tryz.strings_CutPrefix _ _ _).mono ?_;rintro e w' ⟨rfl,rfl⟩;rw [show Lib.hasPrefix s.data.toList (⟨#[118]⟩ : ByteArray).data.toList = true from H.out,show (⟨(Lib.trimPrefix s.data.toList (⟨#[118]⟩ : ByteArray).data.toList).toArray⟩ : ByteArray) = t from H2.out])
  | (go_at_call 143;refine (trim_calls _ _ ht').mono ?_;rintro e w1 ⟨rfl,hb⟩;rw [H4.out])
  | (go_at_call 139;refine (Tryz.strconv_Atoi_ok _ hlim v HA.out _).mono ?_;rintro e w2 ⟨rfl,hw2⟩;have hb2 : Below w1.heap.size w1 w2:=q44_;clear hw2))
 go_ret2
 exact ⟨rfl,hb.trans (hb2.mono hb.size)⟩
set_option maxRecDepth 100000 in
set_option maxHeartbeats 2000000 in
theorem major_same (s t : ByteArray) (w : World) (hG : Env w) (h : Lib.hasPrefix s.data.toList [118] = true) (h2 : (⟨(Lib.trimPrefix s.data.toList [118]).toArray⟩ : ByteArray) = t) (ht : t.size ≤ 140737488351232) (h3 : t.toList.isEmpty = false) (h4 : (⟨(Lib.trimS t.data.toList tenDigits).toArray⟩ : ByteArray) = ⟨#[]⟩) (v : Int) (h5 : Lib.atoiAll t.data.toList = .ok v) (hl : ¬ v < 2) (hh : ¬ 999999999 < v) (i : ByteArray) (hi : (⟨(Lib.itoa v).toArray⟩ : ByteArray) = i) (hit : (i.toList == t.toList) = true) : Calls Tryz.prog 105 #[.string s] w fun e w' => e = .returned (.tuple #[.int .i64 v,.bool true]) ∧ Below w.heap.size w w':=by
 have H:=Lib.hid h
 have H2:=Lib.hid h2
 have H4:=Lib.hid h4
 have ht' : t.size ≤ 9223372036854775807:=by omega
 have HG:=Lib.hid hG
 have HA:=Lib.hid h5
 have hlim : t.size ≤ 9223372036854775806:=by omega
 have hvb:=Lib.atoiAll_bounds h5
 obtain ⟨hv0,hv1⟩:=hvb
 have HI:=Lib.hid hi
 clear hi
 clear h h2 h4 h5 hG
 go_enter Tryz.func105,Tryz.ntmps105
 go_wp2_with (first
  | (go_at_call 111;refine (Tryz.strings_CutPrefix _ _ _).mono ?_;rintro e w' ⟨rfl,rfl⟩;rw [show Lib.hasPrefix s.data.toList (⟨#[118]⟩ : ByteArray).data.toList = true from H.out,show (⟨(Lib.trimPrefix s.data.toList (⟨#[118]⟩ : ByteArray).data.toList).toArray⟩ : ByteArray) = t from H2.out])
  | (go_at_call 143;refine (trim_calls _ _ ht').mono ?_;rintro e w1 ⟨rfl,hb⟩;rw [H4.out])
  | (go_at_call 139;refine (Tryz.strconv_Atoi_ok _ hlim v HA.out _).mono ?_;rintro e w2 ⟨rfl,hw2⟩;have hb2 : Below w1.heap.size w1 w2:=q44_;clear hw2)
  | (go_at_call 144;refine (Tryz.strconv_Itoa v hv0 hv1 _ (Env.below (Env.below HG.out hb) hb2).tab).mono ?_;rintro e w3 ⟨rfl,hw3⟩;have hb3 : Below w2.heap.size w2 w3:=(by obtain ⟨kk,os,rfl⟩:=hw3;exact Lib.below_grow _ _ (Nat.le_refl _) _ _);clear hw3;rw [HI.out]))
 go_ret2
 exact ⟨rfl,(hb.trans (hb2.mono hb.size)).trans (hb3.mono (Nat.le_trans hb.size hb2.size))⟩
set_option maxRecDepth 100000 in
set_option maxHeartbeats 2000000 in
theorem major_other (s t : ByteArray) (w : World) (hG : Env w) (h : Lib.hasPrefix s.data.toList [118] = true) (h2 : (⟨(Lib.trimPrefix s.data.toList [118]).toArray⟩ : ByteArray) = t) (ht : t.size ≤ 140737488351232) (h3 : t.toList.isEmpty = false) (h4 : (⟨(Lib.trimS t.data.toList tenDigits).toArray⟩ : ByteArray) = ⟨#[]⟩) (v : Int) (h5 : Lib.atoiAll t.data.toList = .ok v) (hl : ¬ v < 2) (hh : ¬ 999999999 < v) (i : ByteArray) (hi : (⟨(Lib.itoa v).toArray⟩ : ByteArray) = i) (hit : (i.toList == t.toList) = false) : Calls Tryz.prog 105 #[.string s] w fun e w' => e = .returned (.tuple #[.int .i64 0,.bool true]) ∧ Below w.heap.size w w':=by
 have H:=Lib.hid h
 have H2:=Lib.hid h2
 have H4:=Lib.hid h4
 have ht' : t.size ≤ 9223372036854775807:=by omega
 have HG:=Lib.hid hG
 have HA:=Lib.hid h5
 have hlim : t.size ≤ 9223372036854775806:=by omega
 have hvb:=Lib.atoiAll_bounds h5
 obtain ⟨hv0,hv1⟩:=hvb
 have HI:=Lib.hid hi
 clear hi
 clear h h2 h4 h5 hG
 go_enter Tryz.func105,Tryz.ntmps105
 go_wp2_with (first
  | (go_at_call 111;refine (Tryz.strings_CutPrefix _ _ _).mono ?_;rintro e w' ⟨rfl,rfl⟩;rw [show Lib.hasPrefix s.data.toList (⟨#[118]⟩ : ByteArray).data.toList = true from H.out,show (⟨(Lib.trimPrefix s.data.toList (⟨#[118]⟩ : ByteArray).data.toList).toArray⟩ : ByteArray) = t from H2.out])
  | (go_at_call 143;refine (trim_calls _ _ ht').mono ?_;rintro e w1 ⟨rfl,hb⟩;rw [H4.out])
  | (go_at_call 139;refine (Tryz.strconv_Atoi_ok _ hlim v HA.out _).mono ?_;rintro e w2 ⟨rfl,hw2⟩;have hb2 : Below w1.heap.size w1 w2:=q44_;clear hw2)
  | (go_at_call 144;refine (Tryz.strconv_Itoa v hv0 hv1 _ (Env.below (Env.below HG.out hb) hb2).tab).mono ?_;rintro e w3 ⟨rfl,hw3⟩;have hb3 : Below w2.heap.size w2 w3:=(by obtain ⟨kk,os,rfl⟩:=hw3;exact Lib.below_grow _ _ (Nat.le_refl _) _ _);clear hw3;rw [HI.out]))
 go_ret2
 exact ⟨rfl,(hb.trans (hb2.mono hb.size)).trans (hb3.mono (Nat.le_trans hb.size hb2.size))⟩
theorem mpath_major.calls (a0 : ByteArray) (r1 : Int) (r2 : Bool) (w : World) (h : mpath_major.f a0 = some (r1,r2)) (hG : Env w) :
  Calls Tryz.prog 105 #[.string a0] w fun e w' => e = .returned (.tuple #[.int .i64 r1,.bool r2]) ∧ Below w.heap.size w w':=by
 unfold mpath_major.f at h
 split at h
 ·rename_i hs
  have h0:=Option.some.inj h
  clear h
  obtain ⟨l,hl⟩ : ∃ l,a0.data.toList = l:=⟨_,rfl⟩
  have hll : l.length = a0.size:=by rw [← hl];rfl
  have te : ∀ s : ByteArray,s.toList.isEmpty = (s.data.toList == []):=fun s => by rw [toList_eq];cases s.data.toList <;> rfl
  rw [hl] at h0
  unfold majorB at h0
  cases hp : (l.headD 0 == 118) with
  | false =>
   rw [hp] at h0
   obtain ⟨rfl,rfl⟩:=Prod.mk.inj h0
   exact major_no a0 w (by rw [hl,prefix_v];exact hp)
  | true =>
   rw [hp,if_pos rfl] at h0
   have hh : Lib.hasPrefix a0.data.toList [118] = true:=by rw [hl,prefix_v];exact hp
   have ht : Lib.trimPrefix a0.data.toList [118] = l.tail:=by
    unfold Lib.trimPrefix
    rw [hh,if_pos rfl,hl]
    simp
   generalize htl : l.tail = r at h0 ht
   have hrl : r.length ≤ 140737488351232:=by rw [← htl,List.length_tail];omega
   have h2 : (⟨(Lib.trimPrefix a0.data.toList [118]).toArray⟩ : ByteArray) = bytesB r:=by rw [ht];rfl
   have hd : (bytesB r).data.toList = r:=rfl
   have hsz : (bytesB r).size = r.length:=rfl
   cases he : (r == []) with
   | true =>
    rw [he,Bool.true_or,if_pos rfl] at h0
    obtain ⟨rfl,rfl⟩:=Prod.mk.inj h0
    have : r = []:=by simpa using he
    subst this
    exact major_empty a0 w hh h2
   | false =>
    have hne : r ≠ []:=by simpa using he
    have h3 : (bytesB r).toList.isEmpty = false:=by rw [te,hd];exact he
    cases hdig : r.all digitB with
    | false =>
     rw [he,hdig,Bool.false_or,Bool.not_false,if_pos rfl] at h0
     obtain ⟨rfl,rfl⟩:=Prod.mk.inj h0
     refine major_odd a0 (bytesB r) w hh h2 q8_ h3 _ rfl ?_
     rw [te]
     show (Lib.trimS r tenDigits == []) = false
     have : Lib.trimS r tenDigits ≠ []:=fun e => by rw [trimS_digits,hdig] at e;cases e
     simpa using this
    | true =>
     rw [he,hdig,Bool.false_or,Bool.not_true,if_neg q43_] at h0
     have h4 : (⟨(Lib.trimS (bytesB r).data.toList tenDigits).toArray⟩ : ByteArray) = ⟨#[]⟩:=by
      rw [hd,(trimS_digits r).2 hdig]
     have hat:=atoiAll_digits r hdig hne
     have hsz' : (bytesB r).size ≤ 140737488351232:=by omega
     by_cases hbig : valL r < 9223372036854775808
     ·rw [if_pos hbig] at hat
      have h5 : Lib.atoiAll (bytesB r).data.toList = .ok (valL r : Int):=hat
      by_cases hlow : valL r < 2
      ·rw [decide_eq_true hlow] at h0
       simp only [Bool.or_true,Bool.true_or,if_true] at h0
       obtain ⟨rfl,rfl⟩:=Prod.mk.inj h0
       exact major_low a0 _ w hG hh h2 hsz' h3 h4 _ h5 q8_
      ·rw [decide_eq_false hlow] at h0
       by_cases hhi : 999999999 < valL r
       ·rw [decide_eq_true hhi] at h0
        simp only [Bool.or_true,if_true] at h0
        obtain ⟨rfl,rfl⟩:=Prod.mk.inj h0
        exact major_high a0 _ w hG hh h2 hsz' h3 h4 _ h5 q8_ q8_
       ·rw [decide_eq_false hhi] at h0
        have hit:=itoa_digits r hdig hne q8_
        have hlist : ∀ m : List UInt8,(⟨m.toArray⟩ : ByteArray).toList = m:=fun m => by rw [toList_eq]
        cases hz : (r.headD 0 == 48) with
        | true =>
         rw [hz] at h0
         simp only [Bool.or_false,if_true] at h0
         obtain ⟨rfl,rfl⟩:=Prod.mk.inj h0
         refine major_other a0 _ w hG hh h2 hsz' h3 h4 _ h5 q8_ q8_ _ rfl ?_
         rw [hlist,toList_eq,hd]
         have : Lib.itoa (valL r : Int) ≠ r:=fun e => (hit.1 e) (by simpa using hz)
         simpa using this
        | false =>
         rw [hz] at h0
         simp only [Bool.or_false,Bool.false_eq_true,if_false] at h0
         obtain ⟨rfl,rfl⟩:=Prod.mk.inj h0
         refine major_same a0 _ w hG hh h2 hsz' h3 h4 _ h5 q8_ q8_ _ rfl ?_
         rw [hlist,toList_eq,hd]
         have : Lib.itoa (valL r : Int) = r:=hit.2 (by simpa using hz)
         simpa using this
     ·rw [if_neg hbig] at hat
      rw [decide_eq_true (show 999999999 < valL r by omega)] at h0
      simp only [Bool.or_true,if_true] at h0
      obtain ⟨rfl,rfl⟩:=Prod.mk.inj h0
      exact major_range a0 _ w hG hh h2 hsz' h3 h4 hat
 ·cases h
end Go.Proofs.YtennhpoemdaghaaGreatDoor.P
end
section

end
section

end
section
namespace Go.Proofs.YtennhpoemdaghaaGreatDoor.P
open Go Go.RowKit Go.Proofs.YtennhpoemdaghaaGreatDoorW.PrintWords
def strings_Compare.f (a0 : ByteArray) (a1 : ByteArray) : Option Int:=some (Lib.compareBytes a0.data.toList a1.data.toList)
theorem strings_Compare.calls (a0 : ByteArray) (a1 : ByteArray) (r : Int) (w : World) (h : strings_Compare.f a0 a1 = some r) :
  Calls Tryz.prog 55 #[.string a0,.string a1] w fun e w' => e = .returned (.int .i64 r) ∧ Drawn0 w w':=by
 obtain rfl:=Option.some.inj h
 refine (Tryz.strings_Compare a0 a1 w).mono ?_
 rintro e w' ⟨rfl,rfl⟩
 exact ⟨rfl,Drawn0.refl _⟩
def strings_LastIndex.f (a0 : ByteArray) (a1 : ByteArray) : Option Int:=if a0.size ≤ 140737488355328 then some (Lib.lastIndex a0.data.toList a1.data.toList) else none
theorem strings_LastIndex.calls (a0 : ByteArray) (a1 : ByteArray) (r : Int) (w : World) (h : strings_LastIndex.f a0 a1 = some r) :
  Calls Tryz.prog 179 #[.string a0,.string a1] w fun e w' => e = .returned (.int .i64 r) ∧ Drawn0 w w':=by
 unfold strings_LastIndex.f at h
 split at h
 ·obtain rfl:=Option.some.inj h
  refine (Tryz.strings_LastIndex a0 a1 q8_ w).mono ?_
  rintro e w' ⟨rfl,rfl⟩
  exact ⟨rfl,Drawn0.refl _⟩
 ·cases h
end Go.Proofs.YtennhpoemdaghaaGreatDoor.P
end
section
namespace Go.Proofs.YtennhpoemdaghaaGreatDoor.P
open Go.RowKit Go.Proofs.YtennhpoemdaghaaGreatDoorW.PrintWords Go.Proofs.YtennhpoemdaghaaGreatDoorW.PrintLast Go.Proofs.YtennhpoemdaghaaGreatDoorW.PrintMore
def mpath_Base.f (a0 : ByteArray) : Option (ByteArray):=(strings_LastIndex.f a0 (⟨#[47]⟩ : ByteArray)).bind fun t101 => (if t101 < 0 then (some (⟨#[]⟩ : ByteArray)) else (if 0 ≤ t101 then (if t101 ≤ (a0.size : Int) then (some (a0.extract 0 (t101 : Int).toNat)) else (none)) else (none)))
set_option maxHeartbeats 8000000 in
set_option maxRecDepth 100000 in
theorem mpath_Base.calls (a0 : ByteArray) (r : ByteArray) (w : World) (h : mpath_Base.f a0 = some r) :
  Calls Tryz.prog 147 #[.string a0] w fun e w' => e = .returned (.string r) ∧ Drawn0 w w':=by
 have H : ((strings_LastIndex.f a0 (⟨#[47]⟩ : ByteArray)).bind fun t101 => (if t101 < 0 then (some (⟨#[]⟩ : ByteArray)) else (if 0 ≤ t101 then (if t101 ≤ (a0.size : Int) then (some (a0.extract 0 (t101 : Int).toNat)) else (none)) else (none)))) = some r:=h
 clear h
 obtain ⟨t101,A20,H⟩:=Option.bind_eq_some_iff.mp H
 have A2:=Aside0.mk A20
 clear A20
 by_cases c3 : t101 < 0
 ·rw [if_pos c3] at H
  have c3b0:=decide_eq_true c3
  clear c3
  obtain rfl:=Option.some.inj H
  go_enter Tryz.func147,Tryz.ntmps147
  go_wp2_with (first | ((with_reducible refine gate_callee (f:=179) rfl ?_);refine gl_ 5 Tryz.func179 #[.string a0,.string (⟨#[47]⟩ : ByteArray)] ?_;(with_reducible refine (strings_LastIndex.calls a0 (⟨#[47]⟩ : ByteArray) t101 _ A2.out).mono ?_);rintro e w' ⟨rfl,⟨nd,rfl⟩⟩;refine ⟨_,rfl,?_⟩))
  go_ret
  exact ⟨q3_,q4_⟩
 ·rw [if_neg c3] at H
  have c3b0:=decide_eq_false c3
  clear c3
  by_cases c4 : 0 ≤ t101
  ·rw [if_pos c4] at H
   have c4b0:=eq_true c4
   have c4b1:=decide_eq_true c4
   clear c4
   by_cases c5 : t101 ≤ (a0.size : Int)
   ·rw [if_pos c5] at H
    have c5b0:=eq_true c5
    have c5b1:=decide_eq_true c5
    clear c5
    obtain rfl:=Option.some.inj H
    go_enter Tryz.func147,Tryz.ntmps147
    go_wp2_with (first | ((with_reducible refine gate_callee (f:=179) rfl ?_);refine gl_ 5 Tryz.func179 #[.string a0,.string (⟨#[47]⟩ : ByteArray)] ?_;(with_reducible refine (strings_LastIndex.calls a0 (⟨#[47]⟩ : ByteArray) t101 _ A2.out).mono ?_);rintro e w' ⟨rfl,⟨nd,rfl⟩⟩;refine ⟨_,rfl,?_⟩))
    go_ret
    exact ⟨q3_,q4_⟩
   ·rw [if_neg c5] at H
    exact absurd H q43_
  ·rw [if_neg c4] at H
   exact absurd H q43_
end Go.Proofs.YtennhpoemdaghaaGreatDoor.P
end
section
namespace Go.Proofs.YtennhpoemdaghaaGreatDoor.P
open Go Go.RowKit Go.Proofs.YtennhpoemdaghaaGreatDoorW.PrintWords
theorem splitB_eq (c : UInt8) : ∀ (n : Nat) (s : ByteArray),Lib.countB s ⟨#[c]⟩ ≤ n → Lib.splitB ⟨#[c]⟩ 0 n s = splitS c s:=by
 intro n
 induction n with
 | zero =>
  intro s h
  have hx : Lib.indexB s ⟨#[c]⟩ = Lib.indexByte s.data.toList c:=Lib.index_one _ _
  rcases Lib.indexB_cases s ⟨#[c]⟩ with h1 | ⟨i,hi,_⟩
  ·rw [Lib.splitB_miss _ _ _ _ h1,splitS_none c s (by rw [← hx];exact h1)]
  ·have:=Lib.countB_hit s ⟨#[c]⟩ i (Nat.le_refl 1) hi
   omega
 | succ n ih =>
  intro s h
  have hx : Lib.indexB s ⟨#[c]⟩ = Lib.indexByte s.data.toList c:=Lib.index_one _ _
  rcases Lib.indexB_cases s ⟨#[c]⟩ with h1 | ⟨i,hi,_⟩
  ·rw [Lib.splitB_miss _ _ _ _ h1,splitS_none c s (by rw [← hx];exact h1)]
  ·have h2:=Lib.countB_hit s ⟨#[c]⟩ i (Nat.le_refl 1) hi
   have h3 : (⟨#[c]⟩ : ByteArray).size = 1:=rfl
   rw [Lib.splitB_hit _ _ _ _ _ hi,splitS_some c s i (by rw [← hx];exact hi),h3,ih _ (by rw [h3] at h2;omega),Nat.add_zero]
theorem splitB_count (c : UInt8) (s : ByteArray) : (splitS c s).length = Lib.countB s ⟨#[c]⟩ + 1:=by
 suffices h : ∀ (n : Nat) (s : ByteArray),Lib.countB s ⟨#[c]⟩ = n → (splitS c s).length = n + 1 from h _ s rfl
 intro n
 induction n with
 | zero =>
  intro s h
  have hx : Lib.indexB s ⟨#[c]⟩ = Lib.indexByte s.data.toList c:=Lib.index_one _ _
  rcases Lib.indexB_cases s ⟨#[c]⟩ with h1 | ⟨i,hi,_⟩
  ·rw [splitS_none c s (by rw [← hx];exact h1)];rfl
  ·have:=Lib.countB_hit s ⟨#[c]⟩ i (Nat.le_refl 1) hi
   omega
 | succ n ih =>
  intro s h
  have hx : Lib.indexB s ⟨#[c]⟩ = Lib.indexByte s.data.toList c:=Lib.index_one _ _
  rcases Lib.indexB_cases s ⟨#[c]⟩ with h1 | ⟨i,hi,_⟩
  ·have:=Lib.countB_miss s ⟨#[c]⟩ h1;omega
  ·have h2:=Lib.countB_hit s ⟨#[c]⟩ i (Nat.le_refl 1) hi
   have h3 : (⟨#[c]⟩ : ByteArray).size = 1:=rfl
   rw [splitS_some c s i (by rw [← hx];exact hi),List.length_cons,ih _ (by rw [h3] at h2;omega)]
def strings_Split.f (a0 : ByteArray) (a1 : ByteArray) : Option (List ByteArray) :=
 if a1.size = 1 ∧ a0.size < 4294967281 then some (splitS (a1.data.toList.headD 0) a0) else none
theorem one_byte (a : ByteArray) (h : a.size = 1) : a = ⟨#[a.data.toList.headD 0]⟩:=by
 obtain ⟨⟨l⟩⟩:=a
 match l,h with
 | [x],_ => rfl
theorem strings_Split.calls (a0 : ByteArray) (a1 : ByteArray) (r : List ByteArray) (w : World) (h : strings_Split.f a0 a1 = some r) (hG : Env w) :
  Calls Tryz.prog 100 #[.string a0,.string a1] w fun e w' => ∃ v0_ : Value,e = .returned (v0_) ∧ Kd.R Kd.string 9 w' w.heap.size (fun _ => True) v0_ r ∧ Below w.heap.size w w':=by
 unfold strings_Split.f at h
 split at h
 ·rename_i hs
  obtain rfl:=Option.some.inj h
  obtain ⟨m,hm⟩:=hG.maxlen
  have e:=one_byte a1 hs.1
  generalize a1.data.toList.headD 0 = c at e ⊢
  subst e
  refine (Tryz.strings_Split a0 ⟨#[c]⟩ m w hs.2 hm (Nat.le_refl 1)).mono ?_
  rintro e w' ⟨rfl,rfl⟩
  rw [splitB_eq c _ a0 (Nat.le_refl _),← splitB_count c a0]
  refine ⟨_,rfl,Kd.R_of_own ?_ (fun _ _ => trivial),(Below.refl _ w).alloc (Nat.le_refl _) _⟩
  have hl : (splitS c a0).length ≤ 140737488355328:=by
   unfold splitS;rw [List.length_map]
   have:=splitL_length c a0.data.toList
   have hz : a0.data.toList.length = a0.size:=rfl
   omega
  have h2:=World.ownsRow_lit (base:=w.heap.size) (e:=9) (size:=1) w ((splitS c a0).map Value.string).toArray (splitS c a0).length (Nat.le_refl _) (by simp only [maxLen];omega) q43_
  simpa [encs] using h2
 ·cases h
def mpath_split.f (a0 : ByteArray) : Option (List ByteArray × ByteArray) :=
 if a0.size < 4294967281 then some ((splitS 47 a0).dropLast,(splitS 47 a0).getLastD ByteArray.empty) else none
set_option maxRecDepth 100000 in
set_option maxHeartbeats 2000000 in
theorem mpath_split.calls (a0 : ByteArray) (r1 : List ByteArray) (r2 : ByteArray) (w : World) (h : mpath_split.f a0 = some (r1,r2)) (hG : Env w) :
  Calls Tryz.prog 104 #[.string a0] w fun e w' => ∃ v0_ : Value,e = .returned (.tuple #[v0_,.string r2]) ∧ Kd.R Kd.string 9 w' w.heap.size (fun _ => True) v0_ r1 ∧ Below w.heap.size w w':=by
 unfold mpath_split.f at h
 split at h
 ·rename_i hs
  obtain ⟨rfl,rfl⟩:=Prod.mk.inj (Option.some.inj h)
  have hsp : strings_Split.f a0 ⟨#[47]⟩ = some (splitS 47 a0):=by unfold strings_Split.f;rw [if_pos ⟨rfl,hs⟩];rfl
  have hne : splitS 47 a0 ≠ []:=by unfold splitS;simp [splitL_ne]
  have hlen : (splitS 47 a0).length ≤ 4294967282:=by
   unfold splitS;rw [List.length_map]
   have:=splitL_length 47 a0.data.toList
   have hz : a0.data.toList.length = a0.size:=rfl
   omega
  have hpos : 0 < (splitS 47 a0).length:=List.length_pos_iff.2 hne
  have hd : (splitS 47 a0).dropLast = (splitS 47 a0).take ((splitS 47 a0).length - 1):=List.dropLast_eq_take
  have hl : (splitS 47 a0).getLastD ByteArray.empty = rdOf ByteArray.empty (splitS 47 a0) (((splitS 47 a0).length : Int) - 1):=by
   rw [List.getLastD_eq_getLast?,List.getLast?_eq_getElem?]
   unfold rdOf
   rw [List.getD_eq_getElem?_getD,show (((splitS 47 a0).length : Int) - 1).toNat = (splitS 47 a0).length - 1 by omega]
  rw [hd,hl]
  have HS:=strings_Split.calls a0 ⟨#[47]⟩ _ w hsp hG
  clear hd hl hsp h
  generalize splitS 47 a0 = xs at hne hlen hpos HS ⊢
  clear hne
  go_enter Tryz.func104,Tryz.ntmps104
  go_wp2_with (go_at_call 100;refine HS.mono ?_;rintro e w1 ⟨v,rfl,hR,hb⟩)
  obtain ⟨g,cap,rfl,hg1,hg2,cells,hcl⟩:=Kd.R_form hR hpos
  obtain ⟨_,hcap,hC⟩:=Kd.R_reads' hR
  obtain ⟨ad,e1,hcell⟩:=Kd.at_string hC ((xs.length : Int) - 1) q8_ q8_
  cases e1
  rw [add_plain] at hcell
  have e2 : ((xs.length : Int) - 1).toNat = xs.length - 1:=by omega
  obtain ⟨i0,hi,hzz⟩:=Option.map_eq_some_iff.1 info9
  simp only [Prod.mk.injEq] at hzz
  have hsl:=(print_take_of Value.string ByteArray.empty 98 9 .i64 Tryz.underlying98 hi hzz.2.1 (some ⟨g,0,none⟩) cap xs ((xs.length : Int) - 1) q8_ q8_ hcap).1
  have hwr : IntKind.i64.wrap ((xs.length : Int) - 1) = (xs.length : Int) - 1:=IntWalk.i64_in _ q8_
  have hlo : (0 : Int) ≤ (xs.length : Int) - 1:=by omega
  have hhi : (xs.length : Int) - 1 < (xs.length : Int):=by omega
  have h1i : (1 : Int) ≤ (xs.length : Int):=by omega
  have h1n : 1 ≤ xs.length:=hpos
  have hcell2:=hcell
  rw [e2] at hcell2
  go_quiet (fail)
  go_wp2
  go_ret2
  refine ⟨_,rfl,?_,?_⟩
  ·have h3:=Kd.R_take (m:=xs.length - 1) hR q8_
   exact Kd.R_drewN h3 _
  ·exact pw_below_drewN hb _
 ·cases h
end Go.Proofs.YtennhpoemdaghaaGreatDoor.P
end
section
namespace Go.Proofs.YtennhpoemdaghaaGreatDoor.P
open Go.RowKit Go.Proofs.YtennhpoemdaghaaGreatDoorW.PrintWords Go.Proofs.YtennhpoemdaghaaGreatDoorW.PrintLast Go.Proofs.YtennhpoemdaghaaGreatDoorW.PrintMore
def mpath_Check.l0 : Nat → List ByteArray → ByteArray → List ByteArray → Int → Int → Option (Bool)
 | 0,_,_,_,_,_ => none
 | k + 1,x3,x4,x19,x20,x21 => if x21 < x20 then (if 0 ≤ x21 then (if x21 < (x19.length : Int) then ((mpath_major.f (rdOf ByteArray.empty x19 x21)).bind fun bt107 => (if bt107.2 = true then (some false) else (mpath_Check.l0 k x3 x4 x19 x20 (wrap64 (x21 + 1))))) else (none)) else (none)) else ((mpath_major.f x4).bind fun bt109 => (if bt109.2 = true then (if bt109.1 > 0 then (some (decide ((x3.length : Int) > 0))) else (some false)) else (some true)))
def mpath_Check.f (k : Nat) (a0 : ByteArray) : Option (Bool):=(files_Path.f a0).bind fun t101 => (if t101 = true then ((mpath_split.f a0).bind fun bt102 => (mpath_Check.l0 k bt102.1 bt102.2 bt102.1 (bt102.1.length : Int) 0)) else (some false))
theorem mpath_Check.mono_l : ∀ k,(∀ y0 y1 y2 y3 y4,LeO (mpath_Check.l0 k y0 y1 y2 y3 y4) (mpath_Check.l0 (k + 1) y0 y1 y2 y3 y4))
 | 0 => fun _ _ _ _ _ r h => by simp [mpath_Check.l0] at h
 | k + 1 => by
  have ih0:=mpath_Check.mono_l k
  ·intro y0 y1 y2 y3 y4
   unfold mpath_Check.l0
   repeat' first
   | (with_reducible exact ih0 _ _ _ _ _)
   | (with_reducible exact LeO.refl _)
   | (with_reducible exact LeO.none _)
   | (with_reducible refine LeO.ite ?_ ?_)
   | (with_reducible refine LeO.bind ?_ (fun _ => ?_))
   | exact ih0 _ _ _ _ _
   | exact LeO.none _
   | refine LeO.ite ?_ ?_
   | refine LeO.bind ?_ (fun _ => ?_)
theorem mpath_Check.mono : ∀ a0 k,LeO (mpath_Check.f k a0) (mpath_Check.f (k + 1) a0):=by
 intro a0 k
 have ih0:=mpath_Check.mono_l k
 unfold mpath_Check.f
 repeat' first
   | (with_reducible exact ih0 _ _ _ _ _)
   | (with_reducible exact LeO.refl _)
   | (with_reducible exact LeO.none _)
   | (with_reducible refine LeO.ite ?_ ?_)
   | (with_reducible refine LeO.bind ?_ (fun _ => ?_))
   | exact ih0 _ _ _ _ _
   | exact LeO.none _
   | refine LeO.ite ?_ ?_
   | refine LeO.bind ?_ (fun _ => ?_)
set_option maxHeartbeats 8000000 in
set_option maxRecDepth 100000 in
theorem mpath_Check.calls (k : Nat) (a0 : ByteArray) (r : Bool) (w : World) (h : mpath_Check.f k a0 = some r) (hG : Env w) :
  Calls Tryz.prog 73 #[.string a0] w fun e w' => e = .returned (.bool r) ∧ Below w.heap.size w w':=by
 have HG:=Aside0.mk hG
 clear hG
 have HB:=Aside0.mk (Below.refl w.heap.size w)
 have H : ((files_Path.f a0).bind fun t101 => (if t101 = true then ((mpath_split.f a0).bind fun bt102 => (mpath_Check.l0 k bt102.1 bt102.2 bt102.1 (bt102.1.length : Int) 0)) else (some false))) = some r:=h
 clear h
 obtain ⟨t101,A20,H⟩:=Option.bind_eq_some_iff.mp H
 have A2:=Aside0.mk A20
 clear A20
 by_cases c3 : t101 = true
 ·subst c3
  rw [if_pos rfl] at H
  obtain ⟨⟨t102,t103⟩,A40,H⟩:=Option.bind_eq_some_iff.mp H
  dsimp only at H
  have A4:=Aside0.mk A40
  clear A40
  have H':=Aside0.mk H
  clear H
  go_enter Tryz.func73,Tryz.ntmps73
  go_wp2_with (first | ((with_reducible refine gate_callee (f:=103) rfl ?_);refine gl_ 12 Tryz.func103 #[.string a0] ?_;(with_reducible refine (files_Path.calls a0 true _ A2.out).mono ?_);rintro e w5 ⟨rfl,hb⟩;refine ⟨_,rfl,?_⟩;replace HB:=Aside0.mk (below_step bh_ hb);(try clear hb)) | ((with_reducible refine gate_callee (f:=104) rfl ?_);refine gl_ 16 Tryz.func104 #[.string a0] ?_;(with_reducible refine (mpath_split.calls a0 t102 t103 _ A4.out ?sideG).mono ?_);(case sideG => first | exact HG.out | exact Env.below HG.out bh_);rintro e w6 ⟨v104,rfl,ho0,hb⟩;refine ⟨_,rfl,?_⟩;have HO105:=Aside0.mk (Kd.R_lower ho0 (below_size bh_));replace HB:=Aside0.mk (below_step bh_ hb);(try clear hb);(try clear ho0);obtain ⟨Ao7,co7,eo7⟩:=Kd.R_slice HO105.out;subst eo7))
  go_loopg [21] k (fun kq v21 w' => ∃ (x21_1 : Int),v21 = .int .i64 x21_1 ∧ Aside0 (mpath_Check.l0 kq t102 t103 t102 (t102.length : Int) x21_1 = some r) ∧ Aside0 (kq ≤ k) ∧ Aside0 (Kd.R Kd.string 9 w' w.heap.size (fun _ => True) (.slice Ao7 t102.length co7) t102) ∧ Aside0 (Kd.R Kd.string 9 w' w.heap.size (fun _ => True) (.slice Ao7 t102.length co7) t102) ∧ Aside0 (Below w.heap.size w w'))
  case atStart => exact ⟨(0),q5_,H',⟨Nat.le_refl _⟩,⟨by (with_reducible repeat (first | apply Kd.R_alloc | apply Kd.R_drewN | apply Kd.R_drew));exact HO105.out⟩,⟨by (with_reducible repeat (first | apply Kd.R_alloc | apply Kd.R_drewN | apply Kd.R_drew));exact HO105.out⟩,⟨by repeat (first | (with_reducible first | exact HB.out | apply below_alloc | apply pw_below_drewN | apply below_drew1) | exact HB.out)⟩⟩
  case round =>
   clear H'
   try clear c1
   try clear p2
   try clear c3
   try clear c7
   obtain ⟨x21_1,rfl,HA,HK1,HO_3,HO_19,HB⟩:=hrel
   cases gk with
   | zero => exact absurd HA.out (by simp [mpath_Check.l0])
   | succ k1 =>
    have H:=HA.out
    clear HA
    simp only [mpath_Check.l0] at H
    by_cases c8 : x21_1 < (t102.length : Int)
    ·rw [if_pos c8] at H
     have c8b0:=decide_eq_true c8
     clear c8
     by_cases c9 : 0 ≤ x21_1
     ·rw [if_pos c9] at H
      have c9b0:=decide_eq_true c9
      clear c9
      by_cases c10 : x21_1 < (t102.length : Int)
      ·rw [if_pos c10] at H
       have c10b0:=decide_eq_true c10
       clear c10
       obtain ⟨⟨t107,t108⟩,A110,H⟩:=Option.bind_eq_some_iff.mp H
       dsimp only at H
       have A11:=Aside0.mk A110
       clear A110
       by_cases c12 : t108 = true
       ·subst c12
        rw [if_pos rfl] at H
        obtain rfl:=Option.some.inj H
        have p106 : 0 ≤ (x21_1 : Int):=of_decide_eq_true q1_
        have q106 : x21_1 < (t102.length : Int):=of_decide_eq_true q1_
        obtain ⟨ad106,e106,hx106_0⟩:=Kd.at_string (Kd.R_reads' HO_19.out).2.2 x21_1 p106 q106
        cases e106
        replace p106:=eq_true p106
        replace q106:=eq_true q106
        go_wp2_with (first | ((with_reducible refine gate_callee (f:=105) rfl ?_);refine gl_ 27 Tryz.func105 #[.string (rdOf ByteArray.empty t102 x21_1)] ?_;(with_reducible refine (mpath_major.calls (rdOf ByteArray.empty t102 x21_1) t107 true _ A11.out ?sideG).mono ?_);(case sideG => first | exact HG.out | exact Env.below HG.out bh_);rintro e w13 ⟨rfl,hb⟩;refine ⟨_,rfl,?_⟩;replace HO_3:=Aside0.mk (Kd.R_below q35_ hb);replace HO_19:=Aside0.mk (Kd.R_below q33_ hb);replace HB:=Aside0.mk (below_step bh_ hb);(try clear hb)))
        go_ret
        exact ⟨q2_,bh_⟩
       ·replace c12:=Bool.eq_false_iff.mpr c12
        subst c12
        rw [if_neg (show ¬ (false = true) by decide)] at H
        have H':=Aside0.mk H
        clear H
        have p106 : 0 ≤ (x21_1 : Int):=of_decide_eq_true q1_
        have q106 : x21_1 < (t102.length : Int):=of_decide_eq_true q1_
        obtain ⟨ad106,e106,hx106_0⟩:=Kd.at_string (Kd.R_reads' HO_19.out).2.2 x21_1 p106 q106
        cases e106
        replace p106:=eq_true p106
        replace q106:=eq_true q106
        go_wp2_with (first | ((with_reducible refine gate_callee (f:=105) rfl ?_);refine gl_ 27 Tryz.func105 #[.string (rdOf ByteArray.empty t102 x21_1)] ?_;(with_reducible refine (mpath_major.calls (rdOf ByteArray.empty t102 x21_1) t107 false _ A11.out ?sideG).mono ?_);(case sideG => first | exact HG.out | exact Env.below HG.out bh_);rintro e w14 ⟨rfl,hb⟩;refine ⟨_,rfl,?_⟩;replace HO_3:=Aside0.mk (Kd.R_below q35_ hb);replace HO_19:=Aside0.mk (Kd.R_below q33_ hb);replace HB:=Aside0.mk (below_step bh_ hb);(try clear hb)))
        go_roundg k1
        case measure => have:=HK1.out;omega
        case rel => exact ⟨(wrap64 (x21_1 + 1)),q5_,H',⟨by have:=HK1.out;omega⟩,⟨by (with_reducible repeat (first | apply Kd.R_alloc | apply Kd.R_drewN | apply Kd.R_drew));exact HO_3.out⟩,⟨by (with_reducible repeat (first | apply Kd.R_alloc | apply Kd.R_drewN | apply Kd.R_drew));exact HO_19.out⟩,⟨by repeat (first | (with_reducible first | exact HB.out | apply below_alloc | apply pw_below_drewN | apply below_drew1) | exact HB.out)⟩⟩
      ·rw [if_neg c10] at H
       exact absurd H q43_
     ·rw [if_neg c9] at H
      exact absurd H q43_
    ·rw [if_neg c8] at H
     have c8b0:=decide_eq_false c8
     clear c8
     obtain ⟨⟨t109,t110⟩,A150,H⟩:=Option.bind_eq_some_iff.mp H
     dsimp only at H
     have A15:=Aside0.mk A150
     clear A150
     by_cases c16 : t110 = true
     ·subst c16
      rw [if_pos rfl] at H
      by_cases c17 : t109 > 0
      ·rw [if_pos c17] at H
       have c17b0 : decide (0 < t109) = true:=decide_eq_true c17
       clear c17
       obtain rfl:=Option.some.inj H
       go_wp2_with (first | ((with_reducible refine gate_callee (f:=105) rfl ?_);refine gl_ 34 Tryz.func105 #[.string t103] ?_;(with_reducible refine (mpath_major.calls t103 t109 true _ A15.out ?sideG).mono ?_);(case sideG => first | exact HG.out | exact Env.below HG.out bh_);rintro e w18 ⟨rfl,hb⟩;refine ⟨_,rfl,?_⟩;replace HO_3:=Aside0.mk (Kd.R_below q35_ hb);replace HO_19:=Aside0.mk (Kd.R_below q33_ hb);replace HB:=Aside0.mk (below_step bh_ hb);(try clear hb)))
       go_ret
       exact ⟨q2_,bh_⟩
      ·rw [if_neg c17] at H
       have c17b0 : decide (0 < t109) = false:=decide_eq_false c17
       clear c17
       obtain rfl:=Option.some.inj H
       go_wp2_with (first | ((with_reducible refine gate_callee (f:=105) rfl ?_);refine gl_ 34 Tryz.func105 #[.string t103] ?_;(with_reducible refine (mpath_major.calls t103 t109 true _ A15.out ?sideG).mono ?_);(case sideG => first | exact HG.out | exact Env.below HG.out bh_);rintro e w19 ⟨rfl,hb⟩;refine ⟨_,rfl,?_⟩;replace HO_3:=Aside0.mk (Kd.R_below q35_ hb);replace HO_19:=Aside0.mk (Kd.R_below q33_ hb);replace HB:=Aside0.mk (below_step bh_ hb);(try clear hb)))
       go_ret
       exact ⟨q2_,bh_⟩
     ·replace c16:=Bool.eq_false_iff.mpr c16
      subst c16
      rw [if_neg (show ¬ (false = true) by decide)] at H
      obtain rfl:=Option.some.inj H
      go_wp2_with (first | ((with_reducible refine gate_callee (f:=105) rfl ?_);refine gl_ 34 Tryz.func105 #[.string t103] ?_;(with_reducible refine (mpath_major.calls t103 t109 false _ A15.out ?sideG).mono ?_);(case sideG => first | exact HG.out | exact Env.below HG.out bh_);rintro e w20 ⟨rfl,hb⟩;refine ⟨_,rfl,?_⟩;replace HO_3:=Aside0.mk (Kd.R_below q35_ hb);replace HO_19:=Aside0.mk (Kd.R_below q33_ hb);replace HB:=Aside0.mk (below_step bh_ hb);(try clear hb)))
      go_ret
      exact ⟨q2_,bh_⟩
 ·replace c3:=Bool.eq_false_iff.mpr c3
  subst c3
  rw [if_neg (show ¬ (false = true) by decide)] at H
  obtain rfl:=Option.some.inj H
  go_enter Tryz.func73,Tryz.ntmps73
  go_wp2_with (first | ((with_reducible refine gate_callee (f:=103) rfl ?_);refine gl_ 12 Tryz.func103 #[.string a0] ?_;(with_reducible refine (files_Path.calls a0 false _ A2.out).mono ?_);rintro e w21 ⟨rfl,hb⟩;refine ⟨_,rfl,?_⟩;replace HB:=Aside0.mk (below_step bh_ hb);(try clear hb)))
  go_ret
  exact ⟨q2_,bh_⟩
def mpath_Major.f (k : Nat) (a0 : ByteArray) : Option (ByteArray × Int × Bool):=(mpath_Check.f k a0).bind fun t101 => (if t101 = true then ((mpath_split.f a0).bind fun bt102 => ((mpath_major.f bt102.2).bind fun bt106 => (if bt106.2 = true then ((mpath_Base.f a0).bind fun t108 => (some (t108,bt106.1,true))) else (some (a0,0,true))))) else (some ((⟨#[]⟩ : ByteArray),0,false)))
theorem mpath_Major.mono : ∀ a0 k,LeO (mpath_Major.f k a0) (mpath_Major.f (k + 1) a0):=by
 intro a0 k
 unfold mpath_Major.f
 repeat' first
   | (with_reducible exact mpath_Check.mono _ _)
   | (with_reducible exact LeO.refl _)
   | (with_reducible exact LeO.none _)
   | (with_reducible refine LeO.ite ?_ ?_)
   | (with_reducible refine LeO.bind ?_ (fun _ => ?_))
   | exact mpath_Check.mono _ _
   | exact LeO.none _
   | refine LeO.ite ?_ ?_
   | refine LeO.bind ?_ (fun _ => ?_)
set_option maxHeartbeats 8000000 in
set_option maxRecDepth 100000 in
theorem mpath_Major.calls (k : Nat) (a0 : ByteArray) (r1 : ByteArray) (r2 : Int) (r3 : Bool) (w : World) (h : mpath_Major.f k a0 = some (r1,r2,r3)) (hG : Env w) :
  Calls Tryz.prog 110 #[.string a0] w fun e w' => e = .returned (.tuple #[.string r1,.int .i64 r2,.bool r3]) ∧ Below w.heap.size w w':=by
 have HG:=Aside0.mk hG
 clear hG
 have HB:=Aside0.mk (Below.refl w.heap.size w)
 have H : ((mpath_Check.f k a0).bind fun t101 => (if t101 = true then ((mpath_split.f a0).bind fun bt102 => ((mpath_major.f bt102.2).bind fun bt106 => (if bt106.2 = true then ((mpath_Base.f a0).bind fun t108 => (some (t108,bt106.1,true))) else (some (a0,0,true))))) else (some ((⟨#[]⟩ : ByteArray),0,false)))) = some (r1,r2,r3):=h
 clear h
 obtain ⟨t101,A20,H⟩:=Option.bind_eq_some_iff.mp H
 replace H : (if t101 = true then ((mpath_split.f a0).bind fun bt102 => ((mpath_major.f bt102.2).bind fun bt106 => (if bt106.2 = true then ((mpath_Base.f a0).bind fun t108 => (some (t108,bt106.1,true))) else (some (a0,0,true))))) else (some ((⟨#[]⟩ : ByteArray),0,false))) = some (r1,r2,r3):=H
 have A2:=Aside0.mk A20
 clear A20
 by_cases c3 : t101 = true
 ·subst c3
  rw [if_pos rfl] at H
  obtain ⟨⟨t102,t103⟩,A40,H⟩:=Option.bind_eq_some_iff.mp H
  replace H : ((mpath_major.f t103).bind fun bt106 => (if bt106.2 = true then ((mpath_Base.f a0).bind fun t108 => (some (t108,bt106.1,true))) else (some (a0,0,true)))) = some (r1,r2,r3):=H
  have A4:=Aside0.mk A40
  clear A40
  obtain ⟨⟨t106,t107⟩,A50,H⟩:=Option.bind_eq_some_iff.mp H
  replace H : (if t107 = true then ((mpath_Base.f a0).bind fun t108 => (some (t108,t106,true))) else (some (a0,0,true))) = some (r1,r2,r3):=H
  have A5:=Aside0.mk A50
  clear A50
  by_cases c6 : t107 = true
  ·subst c6
   rw [if_pos rfl] at H
   obtain ⟨t108,A70,H⟩:=Option.bind_eq_some_iff.mp H
   replace H : (some (t108,t106,true)) = some (r1,r2,r3):=H
   have A7:=Aside0.mk A70
   clear A70
   simp only [Option.some.injEq,Prod.mk.injEq] at H
   obtain ⟨rfl,rfl,rfl⟩:=H
   go_enter Tryz.func110,Tryz.ntmps110
   go_wp2_with (first | ((with_reducible refine gate_callee (f:=73) rfl ?_);refine gl_ 10 Tryz.func73 #[.string a0] ?_;(with_reducible refine (mpath_Check.calls k a0 true _ A2.out ?sideG).mono ?_);(case sideG => first | exact HG.out | exact Env.below HG.out bh_);rintro e w8 ⟨rfl,hb⟩;refine ⟨_,rfl,?_⟩;replace HB:=Aside0.mk (below_step bh_ hb);(try clear hb)) | ((with_reducible refine gate_callee (f:=104) rfl ?_);refine gl_ 14 Tryz.func104 #[.string a0] ?_;(with_reducible refine (mpath_split.calls a0 t102 t103 _ A4.out ?sideG).mono ?_);(case sideG => first | exact HG.out | exact Env.below HG.out bh_);rintro e w9 ⟨v104,rfl,ho0,hb⟩;refine ⟨_,rfl,?_⟩;have HO105:=Aside0.mk (Kd.R_lower ho0 (below_size bh_));replace HB:=Aside0.mk (below_step bh_ hb);(try clear hb);(try clear ho0)) | ((with_reducible refine gate_callee (f:=105) rfl ?_);refine gl_ 19 Tryz.func105 #[.string t103] ?_;(with_reducible refine (mpath_major.calls t103 t106 true _ A5.out ?sideG).mono ?_);(case sideG => first | exact HG.out | exact Env.below HG.out bh_);rintro e w10 ⟨rfl,hb⟩;refine ⟨_,rfl,?_⟩;replace HO105:=Aside0.mk (Kd.R_below q56_ hb);replace HB:=Aside0.mk (below_step bh_ hb);(try clear hb)) | ((with_reducible refine gate_callee (f:=147) rfl ?_);refine gl_ 24 Tryz.func147 #[.string a0] ?_;(with_reducible refine (mpath_Base.calls a0 t108 _ A7.out).mono ?_);rintro e w' ⟨rfl,⟨nd,rfl⟩⟩;refine ⟨_,rfl,?_⟩))
   go_ret3
   exact ⟨q2_,bh_⟩
  ·replace c6:=Bool.eq_false_iff.mpr c6
   subst c6
   rw [if_neg (show ¬ (false = true) by decide)] at H
   simp only [Option.some.injEq,Prod.mk.injEq] at H
   obtain ⟨rfl,rfl,rfl⟩:=H
   go_enter Tryz.func110,Tryz.ntmps110
   go_wp2_with (first | ((with_reducible refine gate_callee (f:=73) rfl ?_);refine gl_ 10 Tryz.func73 #[.string a0] ?_;(with_reducible refine (mpath_Check.calls k a0 true _ A2.out ?sideG).mono ?_);(case sideG => first | exact HG.out | exact Env.below HG.out bh_);rintro e w11 ⟨rfl,hb⟩;refine ⟨_,rfl,?_⟩;replace HB:=Aside0.mk (below_step bh_ hb);(try clear hb)) | ((with_reducible refine gate_callee (f:=104) rfl ?_);refine gl_ 14 Tryz.func104 #[.string a0] ?_;(with_reducible refine (mpath_split.calls a0 t102 t103 _ A4.out ?sideG).mono ?_);(case sideG => first | exact HG.out | exact Env.below HG.out bh_);rintro e w12 ⟨v104,rfl,ho0,hb⟩;refine ⟨_,rfl,?_⟩;have HO105:=Aside0.mk (Kd.R_lower ho0 (below_size bh_));replace HB:=Aside0.mk (below_step bh_ hb);(try clear hb);(try clear ho0)) | ((with_reducible refine gate_callee (f:=105) rfl ?_);refine gl_ 19 Tryz.func105 #[.string t103] ?_;(with_reducible refine (mpath_major.calls t103 t106 false _ A5.out ?sideG).mono ?_);(case sideG => first | exact HG.out | exact Env.below HG.out bh_);rintro e w13 ⟨rfl,hb⟩;refine ⟨_,rfl,?_⟩;replace HO105:=Aside0.mk (Kd.R_below q56_ hb);replace HB:=Aside0.mk (below_step bh_ hb);(try clear hb)))
   go_ret3
   exact ⟨q2_,bh_⟩
 ·replace c3:=Bool.eq_false_iff.mpr c3
  subst c3
  rw [if_neg (show ¬ (false = true) by decide)] at H
  simp only [Option.some.injEq,Prod.mk.injEq] at H
  obtain ⟨rfl,rfl,rfl⟩:=H
  go_enter Tryz.func110,Tryz.ntmps110
  go_wp2_with (first | ((with_reducible refine gate_callee (f:=73) rfl ?_);refine gl_ 10 Tryz.func73 #[.string a0] ?_;(with_reducible refine (mpath_Check.calls k a0 false _ A2.out ?sideG).mono ?_);(case sideG => first | exact HG.out | exact Env.below HG.out bh_);rintro e w14 ⟨rfl,hb⟩;refine ⟨_,rfl,?_⟩;replace HB:=Aside0.mk (below_step bh_ hb);(try clear hb)))
  go_ret3
  exact ⟨q2_,bh_⟩
def mpath_Fits.j0 : Nat → Int → Bool → Int → Int → Int → ByteArray → ByteArray → Option (Bool)
 | 0,_,_,_,_,_,_,_ => none
 | k + 1,x6,x14,x102000,x102001,x102002,x102003,x102004 => if x14 = true then (some false) else (if x6 = 0 then (some (decide (x102000 < 2))) else (some (x102000 == x6)))
def mpath_Fits.f (k : Nat) (a0 : ByteArray) (a1_0 : Int) (a1_1 : Int) (a1_2 : Int) (a1_3 : ByteArray) (a1_4 : ByteArray) : Option (Bool):=(mpath_Major.f k a0).bind fun bt102 => (if bt102.2.2 = true then ((ver_Check.f a1_0 a1_1 a1_2 a1_3 a1_4).bind fun t105 => (mpath_Fits.j0 k bt102.2.1 (!t105) a1_0 a1_1 a1_2 a1_3 a1_4)) else (mpath_Fits.j0 k bt102.2.1 true a1_0 a1_1 a1_2 a1_3 a1_4))
theorem mpath_Fits.mono_l : ∀ k,(∀ y0 y1 y2 y3 y4 y5 y6,LeO (mpath_Fits.j0 k y0 y1 y2 y3 y4 y5 y6) (mpath_Fits.j0 (k + 1) y0 y1 y2 y3 y4 y5 y6))
 | 0 => fun _ _ _ _ _ _ _ r h => by simp [mpath_Fits.j0] at h
 | k + 1 => by
  have ih0:=mpath_Fits.mono_l k
  ·intro y0 y1 y2 y3 y4 y5 y6
   unfold mpath_Fits.j0
   repeat' first
   | (with_reducible exact ih0 _ _ _ _ _ _ _)
   | (with_reducible exact mpath_Major.mono _ _)
   | (with_reducible exact LeO.refl _)
   | (with_reducible exact LeO.none _)
   | (with_reducible refine LeO.ite ?_ ?_)
   | (with_reducible refine LeO.bind ?_ (fun _ => ?_))
   | exact ih0 _ _ _ _ _ _ _
   | exact mpath_Major.mono _ _
   | exact LeO.none _
   | refine LeO.ite ?_ ?_
   | refine LeO.bind ?_ (fun _ => ?_)
theorem mpath_Fits.mono : ∀ a0 a1 a2 a3 a4 a5 k,LeO (mpath_Fits.f k a0 a1 a2 a3 a4 a5) (mpath_Fits.f (k + 1) a0 a1 a2 a3 a4 a5):=by
 intro a0 a1 a2 a3 a4 a5 k
 have ih0:=mpath_Fits.mono_l k
 unfold mpath_Fits.f
 repeat' first
   | (with_reducible exact ih0 _ _ _ _ _ _ _)
   | (with_reducible exact mpath_Major.mono _ _)
   | (with_reducible exact LeO.refl _)
   | (with_reducible exact LeO.none _)
   | (with_reducible refine LeO.ite ?_ ?_)
   | (with_reducible refine LeO.bind ?_ (fun _ => ?_))
   | exact ih0 _ _ _ _ _ _ _
   | exact mpath_Major.mono _ _
   | exact LeO.none _
   | refine LeO.ite ?_ ?_
   | refine LeO.bind ?_ (fun _ => ?_)
set_option maxHeartbeats 8000000 in
set_option maxRecDepth 100000 in
theorem mpath_Fits.calls (k : Nat) (a0 : ByteArray) (a1_0 : Int) (a1_1 : Int) (a1_2 : Int) (a1_3 : ByteArray) (a1_4 : ByteArray) (r : Bool) (w : World) (h : mpath_Fits.f k a0 a1_0 a1_1 a1_2 a1_3 a1_4 = some r) (hG : Env w) :
  Calls Tryz.prog 75 #[.string a0,.agg #[.int .i64 a1_0,.int .i64 a1_1,.int .i64 a1_2,.string a1_3,.string a1_4]] w fun e w' => e = .returned (.bool r) ∧ Below w.heap.size w w':=by
 have HG:=Aside0.mk hG
 clear hG
 have hu24:=Tryz.underlying24
 have HB:=Aside0.mk (Below.refl w.heap.size w)
 have H : ((mpath_Major.f k a0).bind fun bt102 => (if bt102.2.2 = true then ((ver_Check.f a1_0 a1_1 a1_2 a1_3 a1_4).bind fun t105 => (mpath_Fits.j0 k bt102.2.1 (!t105) a1_0 a1_1 a1_2 a1_3 a1_4)) else (mpath_Fits.j0 k bt102.2.1 true a1_0 a1_1 a1_2 a1_3 a1_4))) = some r:=h
 clear h
 obtain ⟨⟨t102,t103,t104⟩,A30,H⟩:=Option.bind_eq_some_iff.mp H
 dsimp only at H
 have A3:=Aside0.mk A30
 clear A30
 have HC4:=Aside0.mk H
 clear H
 go_enter Tryz.func75,Tryz.ntmps75
 go_upto_region 2 with (first | ((with_reducible refine gate_dst (N:=3) rfl ?_);refine bx_ 3 24 #[.int .i64 a1_0,.int .i64 a1_1,.int .i64 a1_2,.string a1_3,.string a1_4] ?_;intro gb101 hg w5 hbox hb;have BK101:=Aside0.mk (hbox);have GW101:=Aside0.mk ((q20_ : w.heap.size ≤ gb101));have GE101:=Aside0.mk ((q20_ : w.heap.size ≤ gb101));replace HB:=Aside0.mk (below_step bh_ hb);clear hb hbox hg) | ((with_reducible refine gate_callee (f:=110) rfl ?_);refine gl_ 10 Tryz.func110 #[.string a0] ?_;(with_reducible refine (mpath_Major.calls k a0 t102 t103 t104 _ A3.out ?sideG).mono ?_);(case sideG => first | exact HG.out | exact Env.below HG.out bh_);rintro e w6 ⟨rfl,hb⟩;refine ⟨_,rfl,?_⟩;replace BK101:=Aside0.mk (blk_below bk101_ hb);replace HB:=Aside0.mk (below_step bh_ hb);(try clear hb)))
 (try simp only [Act.put,List.setIfInBounds_toArray,List.set_cons_zero,List.set_cons_succ])
 go_cut [14] (fun v14 wc => ∃ (kq : Nat) (x14_3 : Bool),v14 = .bool x14_3 ∧ Aside0 (mpath_Fits.j0 kq t103 x14_3 a1_0 a1_1 a1_2 a1_3 a1_4 = some r) ∧ Aside0 (kq ≤ k) ∧ Aside0 (wc.heap[gb101]? = some (.cells #[.int .i64 a1_0,.int .i64 a1_1,.int .i64 a1_2,.string a1_3,.string a1_4] 24 (0,0))) ∧ Aside0 (Below w.heap.size w wc))
 case first =>
  have H:=HC4.out
  clear HC4
  by_cases c7 : t104 = true
  ·subst c7
   rw [if_pos rfl] at H
   obtain ⟨t105,A80,H⟩:=Option.bind_eq_some_iff.mp H
   have A8:=Aside0.mk A80
   clear A80
   have H':=Aside0.mk H
   clear H
   have hcz9_0 : w6.cell? ⟨gb101,0,none⟩ = some (.int .i64 a1_0):=(blk_cell BK101.out 0).trans rfl
   have hcz9_1 : w6.cell? ⟨gb101,1,none⟩ = some (.int .i64 a1_1):=(blk_cell BK101.out 1).trans rfl
   have hcz9_2 : w6.cell? ⟨gb101,2,none⟩ = some (.int .i64 a1_2):=(blk_cell BK101.out 2).trans rfl
   have hcz9_3 : w6.cell? ⟨gb101,3,none⟩ = some (.string a1_3):=(blk_cell BK101.out 3).trans rfl
   have hcz9_4 : w6.cell? ⟨gb101,4,none⟩ = some (.string a1_4):=(blk_cell BK101.out 4).trans rfl
   have hfz9_0:=blk_frozen BK101.out 0
   have hfz9_1:=blk_frozen BK101.out 1
   have hfz9_2:=blk_frozen BK101.out 2
   have hfz9_3:=blk_frozen BK101.out 3
   have hfz9_4:=blk_frozen BK101.out 4
   go_wp2_with (first | (go_at_call 74;(with_reducible refine (ver_Check.calls a1_0 a1_1 a1_2 a1_3 a1_4 t105 _ A8.out).mono ?_);rintro e w10 ⟨rfl,hb⟩;replace BK101:=Aside0.mk (blk_below bk101_ hb);replace HB:=Aside0.mk (below_step bh_ hb);(try clear hb)))
   go_meet
   case rel => exact ⟨_,(!t105),q5_,H',⟨by first | omega | exact Nat.le_refl _⟩,⟨by (with_reducible repeat (first | refine blk_drewN ?_ _ | refine blk_drew ?_ | refine blk_alloc ?_ _));exact BK101.out⟩,⟨by repeat (first | (with_reducible first | exact HB.out | apply below_alloc | apply pw_below_drewN | apply below_drew1 | refine below_set ?_ GE101.out) | exact HB.out)⟩⟩
  ·replace c7:=Bool.eq_false_iff.mpr c7
   subst c7
   rw [if_neg (show ¬ (false = true) by decide)] at H
   have H':=Aside0.mk H
   clear H
   go_wp2
   go_meet
   case rel => exact ⟨_,(true),q5_,H',⟨by first | omega | exact Nat.le_refl _⟩,⟨by (with_reducible repeat (first | refine blk_drewN ?_ _ | refine blk_drew ?_ | refine blk_alloc ?_ _));exact BK101.out⟩,⟨by repeat (first | (with_reducible first | exact HB.out | apply below_alloc | apply pw_below_drewN | apply below_drew1 | refine below_set ?_ GE101.out) | exact HB.out)⟩⟩
 case rest =>
  clear HC4
  try clear c1
  try clear p2
  try clear c7
  try clear hcz9_0
  try clear hcz9_1
  try clear hcz9_2
  try clear hcz9_3
  try clear hcz9_4
  try clear hfz9_0
  try clear hfz9_1
  try clear hfz9_2
  try clear hfz9_3
  try clear hfz9_4
  obtain ⟨kq,x14_3,rfl,HA,HJ3,BK101,HB⟩:=hcut
  cases kq with
  | zero => exact absurd HA.out (by simp [mpath_Fits.j0])
  | succ kj3 =>
   have H:=HA.out
   clear HA
   simp only [mpath_Fits.j0] at H
   by_cases c11 : x14_3 = true
   ·subst c11
    rw [if_pos rfl] at H
    obtain rfl:=Option.some.inj H
    go_wp2
    go_ret
    exact ⟨q2_,bh_⟩
   ·replace c11:=Bool.eq_false_iff.mpr c11
    subst c11
    rw [if_neg (show ¬ (false = true) by decide)] at H
    by_cases c12 : t103 = 0
    ·rw [if_pos c12] at H
     have c12b0:=beq_iff_eq.mpr c12
     have c12b1:=bne_eq_false_iff_eq.mpr c12
     clear c12
     obtain rfl:=Option.some.inj H
     have hcz13_0 : wc.cell? ⟨gb101,0,none⟩ = some (.int .i64 a1_0):=(blk_cell BK101.out 0).trans rfl
     have hcz13_1 : wc.cell? ⟨gb101,1,none⟩ = some (.int .i64 a1_1):=(blk_cell BK101.out 1).trans rfl
     have hcz13_2 : wc.cell? ⟨gb101,2,none⟩ = some (.int .i64 a1_2):=(blk_cell BK101.out 2).trans rfl
     have hcz13_3 : wc.cell? ⟨gb101,3,none⟩ = some (.string a1_3):=(blk_cell BK101.out 3).trans rfl
     have hcz13_4 : wc.cell? ⟨gb101,4,none⟩ = some (.string a1_4):=(blk_cell BK101.out 4).trans rfl
     have hfz13_0:=blk_frozen BK101.out 0
     have hfz13_1:=blk_frozen BK101.out 1
     have hfz13_2:=blk_frozen BK101.out 2
     have hfz13_3:=blk_frozen BK101.out 3
     have hfz13_4:=blk_frozen BK101.out 4
     go_wp2
     go_ret
     exact ⟨q2_,bh_⟩
    ·rw [if_neg c12] at H
     have c12b0:=beq_eq_false_iff_ne.mpr c12
     have c12b1:=bne_iff_ne.mpr c12
     obtain rfl:=Option.some.inj H
     have hcz14_0 : wc.cell? ⟨gb101,0,none⟩ = some (.int .i64 a1_0):=(blk_cell BK101.out 0).trans rfl
     have hcz14_1 : wc.cell? ⟨gb101,1,none⟩ = some (.int .i64 a1_1):=(blk_cell BK101.out 1).trans rfl
     have hcz14_2 : wc.cell? ⟨gb101,2,none⟩ = some (.int .i64 a1_2):=(blk_cell BK101.out 2).trans rfl
     have hcz14_3 : wc.cell? ⟨gb101,3,none⟩ = some (.string a1_3):=(blk_cell BK101.out 3).trans rfl
     have hcz14_4 : wc.cell? ⟨gb101,4,none⟩ = some (.string a1_4):=(blk_cell BK101.out 4).trans rfl
     have hfz14_0:=blk_frozen BK101.out 0
     have hfz14_1:=blk_frozen BK101.out 1
     have hfz14_2:=blk_frozen BK101.out 2
     have hfz14_3:=blk_frozen BK101.out 3
     have hfz14_4:=blk_frozen BK101.out 4
     go_wp2
     go_ret
     exact ⟨q2_,bh_⟩
end Go.Proofs.YtennhpoemdaghaaGreatDoor.P
end
section

end
section

end
section

end
section

end
section

end
section
namespace Go.Proofs.YtennhpoemdaghaaGreatDoor.P
open Go Go.RowKit Go.Proofs.YtennhpoemdaghaaGreatDoorW.PrintWords
def tellB (p : ByteArray) : Bool:=(majorB p.data.toList).2
def numbB (p : ByteArray) : Int:=(majorB p.data.toList).1
def finB (D : List ByteArray) (z : ByteArray) : Bool:=!tellB z || (decide (0 < numbB z) && decide (0 < D.length))
def chkB (s : ByteArray) : Bool:=pathB s.data.toList && ((splitS 47 s).dropLast.all (fun p => !tellB p) && finB (splitS 47 s).dropLast ((splitS 47 s).getLastD ByteArray.empty))
theorem major_f (p : ByteArray) (h : p.size ≤ 4294967296) : mpath_major.f p = some (numbB p,tellB p):=by unfold mpath_major.f;rw [if_pos q8_];rfl
theorem pchk_gen (D : List ByteArray) (z : ByteArray) (hD : ∀ p ∈ D,p.size ≤ 4294967296) (hz : z.size ≤ 4294967296) (hl : D.length ≤ 4294967296) : ∀ (d i k : Nat),i ≤ D.length → D.length - i = d → d < k → mpath_Check.l0 k D z D (D.length : Int) (i : Int) = some ((D.drop i).all (fun p => !tellB p) && finB D z):=by
 intro d
 induction d with
 | zero =>
  intro i k hi hd hk
  obtain ⟨k,rfl⟩ : ∃ m,k = m + 1:=⟨k - 1,by omega⟩
  rw [mpath_Check.l0,if_neg q8_,major_f z hz,Option.bind_some,List.drop_eq_nil_of_le q8_]
  unfold finB
  cases tellB z with
  | false => simp
  | true =>
   by_cases h : numbB z > 0
   ·simp [h]
   ·simp [h]
 | succ d ih =>
  intro i k hi hd hk
  obtain ⟨k,rfl⟩ : ∃ m,k = m + 1:=⟨k - 1,by omega⟩
  have h : i < D.length:=by omega
  have hr : rdOf ByteArray.empty D (i : Int) = D[i]:=by simp [rdOf,h]
  have hw : wrap64 ((i : Int) + 1) = ((i + 1 : Nat) : Int):=by unfold wrap64;omega
  rw [mpath_Check.l0,if_pos q8_,if_pos q8_,if_pos q8_,hr,major_f _ (hD _ (List.getElem_mem h)),Option.bind_some,hw,ih (i + 1) k q8_ q8_ q8_,List.drop_eq_getElem_cons h,List.all_cons]
  cases tellB D[i] <;> simp
theorem split_last (s : ByteArray) : splitS 47 s = (splitS 47 s).dropLast ++ [(splitS 47 s).getLastD ByteArray.empty]:=by
 have hne : splitS 47 s ≠ []:=by
  unfold splitS
  intro e
  exact splitL_ne 47 s.data.toList (List.map_eq_nil_iff.1 e)
 rw [List.getLastD_eq_getLast?,List.getLast?_eq_some_getLast hne]
 exact (List.dropLast_concat_getLast hne).symm
theorem pathB_size {s : ByteArray} (h : pathB s.data.toList = true) : s.size ≤ 60:=by
 unfold pathB at h
 rw [Bool.and_eq_true] at h
 exact of_decide_eq_true h.1
theorem parts_small (s : ByteArray) (h : s.size ≤ 60) : (∀ p ∈ (splitS 47 s).dropLast,p.size ≤ 60) ∧ ((splitS 47 s).getLastD ByteArray.empty).size ≤ 60 ∧ (splitS 47 s).dropLast.length ≤ 60:=by
 have h1 : ∀ p ∈ splitS 47 s,p.size ≤ 60:=fun p hp => Nat.le_trans (splitS_size 47 s p hp) h
 have hl : (splitS 47 s).length ≤ s.size + 1:=by unfold splitS;rw [List.length_map];exact splitL_length _ _
 refine ⟨fun p hp => h1 p ((List.dropLast_sublist _).subset hp),?_,by rw [List.length_dropLast];omega⟩
 have hsl:=split_last s
 exact h1 _ (by rw [hsl];simp)
theorem pchk_f (s : ByteArray) (k : Nat) (hk : 100 < k) : mpath_Check.f k s = some (chkB s):=by
 unfold mpath_Check.f files_Path.f chkB
 rw [Option.bind_some]
 cases hp : pathB s.data.toList with
 | false => rfl
 | true =>
  have hs:=pathB_size hp
  obtain ⟨h1,h2,h3⟩:=parts_small s hs
  rw [if_pos rfl]
  unfold mpath_split.f
  rw [if_pos q8_,Option.bind_some]
  exact pchk_gen (splitS 47 s).dropLast ((splitS 47 s).getLastD ByteArray.empty) (fun p hp => by have:=h1 p hp;omega) q8_ q8_ (splitS 47 s).dropLast.length 0 k (Nat.zero_le _) rfl q8_
end Go.Proofs.YtennhpoemdaghaaGreatDoor.P
end
section
namespace Go.Proofs.YtennhpoemdaghaaGreatDoor.P
open Go.RowKit Go.Proofs.YtennhpoemdaghaaGreatDoorW.PrintWords Go.Proofs.YtennhpoemdaghaaGreatDoorW.PrintLast Go.Proofs.YtennhpoemdaghaaGreatDoorW.PrintMore
theorem eqA24 (d : Nat) (w : World) (x0 y0 : Int) (x1 y1 : Int) (x2 y2 : Int) (x3 y3 : ByteArray) (x4 y4 : ByteArray) :
  (Op.equalIn (d + 2) 24 (.agg #[.int .i64 x0,.int .i64 x1,.int .i64 x2,.string x3,.string x4]) (.agg #[.int .i64 y0,.int .i64 y1,.int .i64 y2,.string y3,.string y4])).run Tryz.prog w = .ok (x0 == y0 && (x1 == y1 && (x2 == y2 && (x3.toList == y3.toList && (x4.toList == y4.toList))))) w:=by
 refine eqA_of Tryz.underlying24 q11_ ?_
 refine eqf_cons q45_ q52_ q52_ (by go_simp) ?_
 refine eqf_cons q45_ q52_ q52_ (by go_simp) ?_
 refine eqf_cons q45_ q52_ q52_ (by go_simp) ?_
 refine eqf_cons q45_ q52_ q52_ (by go_simp) ?_
 exact eqf_last q45_ q52_ q52_ (by go_simp)
theorem eqA41 (d : Nat) (w : World) (x0 y0 : ByteArray) (x1 y1 : Int) (x2 y2 : Int) (x3 y3 : Int) (x4 y4 : ByteArray) (x5 y5 : ByteArray) :
  (Op.equalIn (d + 3) 41 (.agg #[.string x0,.int .i64 x1,.int .i64 x2,.int .i64 x3,.string x4,.string x5]) (.agg #[.string y0,.int .i64 y1,.int .i64 y2,.int .i64 y3,.string y4,.string y5])).run Tryz.prog w = .ok (x0.toList == y0.toList && ((x1 == y1 && (x2 == y2 && (x3 == y3 && (x4.toList == y4.toList && (x5.toList == y5.toList))))))) w:=by
 refine eqA_of Tryz.underlying41 q11_ ?_
 refine eqf_cons q45_ q52_ q52_ (by go_simp) ?_
 exact eqf_last q45_ (by go_simp) (by go_simp) (eqA24 (d + 0) w _ _ _ _ _ _ _ _ _ _)
end Go.Proofs.YtennhpoemdaghaaGreatDoor.P
end
section
namespace Go.Proofs.YtennhpoemdaghaaGreatDoor.P
open Go.RowKit Go.Proofs.YtennhpoemdaghaaGreatDoorW.PrintWords Go.Proofs.YtennhpoemdaghaaGreatDoorW.PrintLast Go.Proofs.YtennhpoemdaghaaGreatDoorW.PrintMore
attribute [local go_sem high] eqA41
def slices_Index_apiReq.l0 : Nat → List (S41) → Int → Int → ByteArray → Int → Int → Int → ByteArray → ByteArray → Option (Int)
 | 0,_,_,_,_,_,_,_,_,_ => none
 | k + 1,x0,x7,x8,x102000,x102001,x102002,x102003,x102004,x102005 => if x8 < x7 then (if 0 ≤ x8 then (if x8 < (x0.length : Int) then (if (x102000.toList == (((rd_T41 x0 x8).f0).toList) && ((x102001 == ((rd_T41 x0 x8).f1.f0) && (x102002 == ((rd_T41 x0 x8).f1.f1) && (x102003 == ((rd_T41 x0 x8).f1.f2) && (x102004.toList == (((rd_T41 x0 x8).f1.f3).toList) && (x102005.toList == (((rd_T41 x0 x8).f1.f4).toList)))))))) = true then (some x8) else (slices_Index_apiReq.l0 k x0 x7 (wrap64 (x8 + 1)) x102000 x102001 x102002 x102003 x102004 x102005)) else (none)) else (none)) else (some (-1))
def slices_Index_apiReq.f (k : Nat) (l0 : List (S41)) (a1_0 : ByteArray) (a1_1 : Int) (a1_2 : Int) (a1_3 : Int) (a1_4 : ByteArray) (a1_5 : ByteArray) : Option (Int):=slices_Index_apiReq.l0 k l0 (l0.length : Int) 0 a1_0 a1_1 a1_2 a1_3 a1_4 a1_5
set_option maxHeartbeats 8000000 in
set_option maxRecDepth 100000 in
theorem slices_Index_apiReq.calls (k : Nat) (A0 : Option Addr) (c0 : Nat) (l0 : List (S41)) (a1_0 : ByteArray) (a1_1 : Int) (a1_2 : Int) (a1_3 : Int) (a1_4 : ByteArray) (a1_5 : ByteArray) (r : Int) (w : World) (hr0 : Kd.C k41 w A0 l0.length l0) (hc0 : l0.length ≤ c0) (h : slices_Index_apiReq.f k l0 a1_0 a1_1 a1_2 a1_3 a1_4 a1_5 = some r) :
  Calls Tryz.prog 122 #[.slice A0 l0.length c0,.agg #[.string a1_0,.int .i64 a1_1,.int .i64 a1_2,.int .i64 a1_3,.string a1_4,.string a1_5]] w fun e w' => e = .returned (.int .i64 r) ∧ Below w.heap.size w w':=by
 have hu41:=Tryz.underlying41
 have HR0:=Aside0.mk hr0
 have HC0:=Aside0.mk hc0
 clear hr0 hc0
 have HB:=Aside0.mk (Below.refl w.heap.size w)
 have H : (slices_Index_apiReq.l0 k l0 (l0.length : Int) 0 a1_0 a1_1 a1_2 a1_3 a1_4 a1_5) = some r:=h
 clear h
 have H':=Aside0.mk H
 clear H
 go_enter Tryz.func122,Tryz.ntmps122
 go_wp2_with (first | ((with_reducible refine gate_dst (N:=3) rfl ?_);refine bx_ 3 41 #[.string a1_0,.int .i64 a1_1,.int .i64 a1_2,.int .i64 a1_3,.string a1_4,.string a1_5] ?_;intro gb101 hg w3 hbox hb;have BK101:=Aside0.mk (hbox);have GW101:=Aside0.mk ((q20_ : w.heap.size ≤ gb101));have GE101:=Aside0.mk ((q20_ : w.heap.size ≤ gb101));replace HB:=Aside0.mk (below_step bh_ hb);clear hb hbox hg))
 repeat (go_quiet (first | ((with_reducible refine gate_dst (N:=3) rfl ?_);refine bx_ 3 41 #[.string a1_0,.int .i64 a1_1,.int .i64 a1_2,.int .i64 a1_3,.string a1_4,.string a1_5] ?_;intro gb101 hg w3 hbox hb;have BK101:=Aside0.mk (hbox);have GW101:=Aside0.mk ((q20_ : w.heap.size ≤ gb101));have GE101:=Aside0.mk ((q20_ : w.heap.size ≤ gb101));replace HB:=Aside0.mk (below_step bh_ hb);clear hb hbox hg));try go_wp2_with (first | ((with_reducible refine gate_dst (N:=3) rfl ?_);refine bx_ 3 41 #[.string a1_0,.int .i64 a1_1,.int .i64 a1_2,.int .i64 a1_3,.string a1_4,.string a1_5] ?_;intro gb101 hg w3 hbox hb;have BK101:=Aside0.mk (hbox);have GW101:=Aside0.mk ((q20_ : w.heap.size ≤ gb101));have GE101:=Aside0.mk ((q20_ : w.heap.size ≤ gb101));replace HB:=Aside0.mk (below_step bh_ hb);clear hb hbox hg)))
 go_loopg [8] k (fun kq v8 w' => ∃ (x8_1 : Int),v8 = .int .i64 x8_1 ∧ Aside0 (slices_Index_apiReq.l0 kq l0 (l0.length : Int) x8_1 a1_0 a1_1 a1_2 a1_3 a1_4 a1_5 = some r) ∧ Aside0 (kq ≤ k) ∧ Aside0 (w'.heap[gb101]? = some (.cells #[.string a1_0,.int .i64 a1_1,.int .i64 a1_2,.int .i64 a1_3,.string a1_4,.string a1_5] 41 (0,0))) ∧ Aside0 (Below w.heap.size w w'))
 case atStart => exact ⟨(0),q5_,H',⟨Nat.le_refl _⟩,⟨by (with_reducible repeat (first | refine blk_drewN ?_ _ | refine blk_drew ?_ | refine blk_alloc ?_ _));exact BK101.out⟩,⟨by repeat (first | (with_reducible first | exact HB.out | apply below_alloc | apply pw_below_drewN | apply below_drew1 | refine below_set ?_ GE101.out) | exact HB.out)⟩⟩
 case round =>
  clear H'
  try clear c1
  try clear p2
  obtain ⟨x8_1,rfl,HA,HK1,BK101,HB⟩:=hrel
  cases gk with
  | zero => exact absurd HA.out (by simp [slices_Index_apiReq.l0])
  | succ k1 =>
   have H:=HA.out
   clear HA
   simp only [slices_Index_apiReq.l0] at H
   by_cases c4 : x8_1 < (l0.length : Int)
   ·rw [if_pos c4] at H
    have c4b0:=decide_eq_true c4
    clear c4
    by_cases c5 : 0 ≤ x8_1
    ·rw [if_pos c5] at H
     have c5b0:=decide_eq_true c5
     clear c5
     by_cases c6 : x8_1 < (l0.length : Int)
     ·rw [if_pos c6] at H
      have c6b0:=decide_eq_true c6
      clear c6
      by_cases c7 : (a1_0.toList == (((rd_T41 l0 x8_1).f0).toList) && ((a1_1 == ((rd_T41 l0 x8_1).f1.f0) && (a1_2 == ((rd_T41 l0 x8_1).f1.f1) && (a1_3 == ((rd_T41 l0 x8_1).f1.f2) && (a1_4.toList == (((rd_T41 l0 x8_1).f1.f3).toList) && (a1_5.toList == (((rd_T41 l0 x8_1).f1.f4).toList)))))))) = true
      ·rw [if_pos c7] at H
       have c7b0 : (a1_0.toList == (((rd_T41 l0 x8_1).f0).toList) && ((a1_1 == ((rd_T41 l0 x8_1).f1.f0) && (a1_2 == ((rd_T41 l0 x8_1).f1.f1) && (a1_3 == ((rd_T41 l0 x8_1).f1.f2) && (a1_4.toList == (((rd_T41 l0 x8_1).f1.f3).toList) && (a1_5.toList == (((rd_T41 l0 x8_1).f1.f4).toList)))))))) = true:=c7
       (try (have c7b1 : decide (a1_0.toList = (((rd_T41 l0 x8_1).f0).toList) && ((a1_1 == ((rd_T41 l0 x8_1).f1.f0) && (a1_2 == ((rd_T41 l0 x8_1).f1.f1) && (a1_3 == ((rd_T41 l0 x8_1).f1.f2) && (a1_4.toList == (((rd_T41 l0 x8_1).f1.f3).toList) && (a1_5.toList == (((rd_T41 l0 x8_1).f1.f4).toList)))))))) = true:=by simpa using c7))
       (try (have c7b2 : (a1_0.toList == (((rd_T41 l0 x8_1).f0).toList) && ((a1_1 == ((rd_T41 l0 x8_1).f1.f0) && (a1_2 == ((rd_T41 l0 x8_1).f1.f1) && (a1_3 == ((rd_T41 l0 x8_1).f1.f2) && (a1_4.toList == (((rd_T41 l0 x8_1).f1.f3).toList) && (a1_5.toList == (((rd_T41 l0 x8_1).f1.f4).toList)))))))) = true:=by simpa using c7))
       clear c7
       obtain rfl:=Option.some.inj H
       have hcz8_0 : wr.cell? ⟨gb101,0,none⟩ = some (.string a1_0):=(blk_cell BK101.out 0).trans rfl
       have hcz8_1 : wr.cell? ⟨gb101,1,none⟩ = some (.int .i64 a1_1):=(blk_cell BK101.out 1).trans rfl
       have hcz8_2 : wr.cell? ⟨gb101,2,none⟩ = some (.int .i64 a1_2):=(blk_cell BK101.out 2).trans rfl
       have hcz8_3 : wr.cell? ⟨gb101,3,none⟩ = some (.int .i64 a1_3):=(blk_cell BK101.out 3).trans rfl
       have hcz8_4 : wr.cell? ⟨gb101,4,none⟩ = some (.string a1_4):=(blk_cell BK101.out 4).trans rfl
       have hcz8_5 : wr.cell? ⟨gb101,5,none⟩ = some (.string a1_5):=(blk_cell BK101.out 5).trans rfl
       have hfz8_0:=blk_frozen BK101.out 0
       have hfz8_1:=blk_frozen BK101.out 1
       have hfz8_2:=blk_frozen BK101.out 2
       have hfz8_3:=blk_frozen BK101.out 3
       have hfz8_4:=blk_frozen BK101.out 4
       have hfz8_5:=blk_frozen BK101.out 5
       have p102 : 0 ≤ (x8_1 : Int):=of_decide_eq_true q1_
       have q102 : x8_1 < (l0.length : Int):=of_decide_eq_true q1_
       obtain ⟨ad102,e102,hx102_0,hx102_1,hx102_2,hx102_3,hx102_4,hx102_5⟩:=at_T41 HR0.out x8_1 p102 q102
       cases e102
       replace hx102_0:=cl_ HB.out hx102_0
       replace hx102_1:=cl_ HB.out hx102_1
       replace hx102_2:=cl_ HB.out hx102_2
       replace hx102_3:=cl_ HB.out hx102_3
       replace hx102_4:=cl_ HB.out hx102_4
       replace hx102_5:=cl_ HB.out hx102_5
       replace p102:=eq_true p102
       replace q102:=eq_true q102
       go_wp2
       repeat (go_quiet (fail);try go_wp2)
       go_ret
       exact ⟨q2_,bh_⟩
      ·rw [if_neg c7] at H
       have c7b0 : (a1_0.toList == (((rd_T41 l0 x8_1).f0).toList) && ((a1_1 == ((rd_T41 l0 x8_1).f1.f0) && (a1_2 == ((rd_T41 l0 x8_1).f1.f1) && (a1_3 == ((rd_T41 l0 x8_1).f1.f2) && (a1_4.toList == (((rd_T41 l0 x8_1).f1.f3).toList) && (a1_5.toList == (((rd_T41 l0 x8_1).f1.f4).toList)))))))) = false:=by simpa using c7
       (try (have c7b1 : decide (a1_0.toList = (((rd_T41 l0 x8_1).f0).toList) && ((a1_1 == ((rd_T41 l0 x8_1).f1.f0) && (a1_2 == ((rd_T41 l0 x8_1).f1.f1) && (a1_3 == ((rd_T41 l0 x8_1).f1.f2) && (a1_4.toList == (((rd_T41 l0 x8_1).f1.f3).toList) && (a1_5.toList == (((rd_T41 l0 x8_1).f1.f4).toList)))))))) = false:=by simpa using c7))
       (try (have c7b2 : (a1_0.toList == (((rd_T41 l0 x8_1).f0).toList) && ((a1_1 == ((rd_T41 l0 x8_1).f1.f0) && (a1_2 == ((rd_T41 l0 x8_1).f1.f1) && (a1_3 == ((rd_T41 l0 x8_1).f1.f2) && (a1_4.toList == (((rd_T41 l0 x8_1).f1.f3).toList) && (a1_5.toList == (((rd_T41 l0 x8_1).f1.f4).toList)))))))) = false:=by simpa using c7))
       (try (have c7b3 : ¬ (a1_0.toList = (((rd_T41 l0 x8_1).f0).toList) && ((a1_1 == ((rd_T41 l0 x8_1).f1.f0) && (a1_2 == ((rd_T41 l0 x8_1).f1.f1) && (a1_3 == ((rd_T41 l0 x8_1).f1.f2) && (a1_4.toList == (((rd_T41 l0 x8_1).f1.f3).toList) && (a1_5.toList == (((rd_T41 l0 x8_1).f1.f4).toList)))))))):=by simpa using c7))
       clear c7
       have H':=Aside0.mk H
       clear H
       have hcz9_0 : wr.cell? ⟨gb101,0,none⟩ = some (.string a1_0):=(blk_cell BK101.out 0).trans rfl
       have hcz9_1 : wr.cell? ⟨gb101,1,none⟩ = some (.int .i64 a1_1):=(blk_cell BK101.out 1).trans rfl
       have hcz9_2 : wr.cell? ⟨gb101,2,none⟩ = some (.int .i64 a1_2):=(blk_cell BK101.out 2).trans rfl
       have hcz9_3 : wr.cell? ⟨gb101,3,none⟩ = some (.int .i64 a1_3):=(blk_cell BK101.out 3).trans rfl
       have hcz9_4 : wr.cell? ⟨gb101,4,none⟩ = some (.string a1_4):=(blk_cell BK101.out 4).trans rfl
       have hcz9_5 : wr.cell? ⟨gb101,5,none⟩ = some (.string a1_5):=(blk_cell BK101.out 5).trans rfl
       have hfz9_0:=blk_frozen BK101.out 0
       have hfz9_1:=blk_frozen BK101.out 1
       have hfz9_2:=blk_frozen BK101.out 2
       have hfz9_3:=blk_frozen BK101.out 3
       have hfz9_4:=blk_frozen BK101.out 4
       have hfz9_5:=blk_frozen BK101.out 5
       have p102 : 0 ≤ (x8_1 : Int):=of_decide_eq_true q1_
       have q102 : x8_1 < (l0.length : Int):=of_decide_eq_true q1_
       obtain ⟨ad102,e102,hx102_0,hx102_1,hx102_2,hx102_3,hx102_4,hx102_5⟩:=at_T41 HR0.out x8_1 p102 q102
       cases e102
       replace hx102_0:=cl_ HB.out hx102_0
       replace hx102_1:=cl_ HB.out hx102_1
       replace hx102_2:=cl_ HB.out hx102_2
       replace hx102_3:=cl_ HB.out hx102_3
       replace hx102_4:=cl_ HB.out hx102_4
       replace hx102_5:=cl_ HB.out hx102_5
       replace p102:=eq_true p102
       replace q102:=eq_true q102
       go_wp2
       repeat (go_quiet (fail);try go_wp2)
       go_roundg k1
       case measure => have:=HK1.out;omega
       case rel => exact ⟨(wrap64 (x8_1 + 1)),q5_,H',⟨by have:=HK1.out;omega⟩,⟨by (with_reducible repeat (first | refine blk_drewN ?_ _ | refine blk_drew ?_ | refine blk_alloc ?_ _));exact BK101.out⟩,⟨by repeat (first | (with_reducible first | exact HB.out | apply below_alloc | apply pw_below_drewN | apply below_drew1 | refine below_set ?_ GE101.out) | exact HB.out)⟩⟩
     ·rw [if_neg c6] at H
      exact absurd H q43_
    ·rw [if_neg c5] at H
     exact absurd H q43_
   ·rw [if_neg c4] at H
    have c4b0:=decide_eq_false c4
    clear c4
    obtain rfl:=Option.some.inj H
    go_wp2
    repeat (go_quiet (fail);try go_wp2)
    go_ret
    exact ⟨q2_,bh_⟩
end Go.Proofs.YtennhpoemdaghaaGreatDoor.P
end
section
namespace Go.Proofs.YtennhpoemdaghaaGreatDoor.P
open Go.RowKit Go.Proofs.YtennhpoemdaghaaGreatDoorW.PrintWords Go.Proofs.YtennhpoemdaghaaGreatDoorW.PrintLast Go.Proofs.YtennhpoemdaghaaGreatDoorW.PrintMore
def slices_Contains_apiReq.f (k : Nat) (l0 : List (S41)) (a1_0 : ByteArray) (a1_1 : Int) (a1_2 : Int) (a1_3 : Int) (a1_4 : ByteArray) (a1_5 : ByteArray) : Option (Bool):=(slices_Index_apiReq.f k l0 a1_0 a1_1 a1_2 a1_3 a1_4 a1_5).bind fun t102 => (some (decide (t102 ≥ 0)))
set_option maxHeartbeats 8000000 in
set_option maxRecDepth 100000 in
theorem slices_Contains_apiReq.calls (k : Nat) (A0 : Option Addr) (c0 : Nat) (l0 : List (S41)) (a1_0 : ByteArray) (a1_1 : Int) (a1_2 : Int) (a1_3 : Int) (a1_4 : ByteArray) (a1_5 : ByteArray) (r : Bool) (w : World) (hr0 : Kd.C k41 w A0 l0.length l0) (hc0 : l0.length ≤ c0) (h : slices_Contains_apiReq.f k l0 a1_0 a1_1 a1_2 a1_3 a1_4 a1_5 = some r) :
  Calls Tryz.prog 86 #[.slice A0 l0.length c0,.agg #[.string a1_0,.int .i64 a1_1,.int .i64 a1_2,.int .i64 a1_3,.string a1_4,.string a1_5]] w fun e w' => e = .returned (.bool r) ∧ Below w.heap.size w w':=by
 have hu41:=Tryz.underlying41
 have HR0:=Aside0.mk hr0
 have HC0:=Aside0.mk hc0
 clear hr0 hc0
 have HB:=Aside0.mk (Below.refl w.heap.size w)
 have H : ((slices_Index_apiReq.f k l0 a1_0 a1_1 a1_2 a1_3 a1_4 a1_5).bind fun t102 => (some (decide (t102 ≥ 0)))) = some r:=h
 clear h
 obtain ⟨t102,A30,H⟩:=Option.bind_eq_some_iff.mp H
 have A3:=Aside0.mk A30
 clear A30
 obtain rfl:=Option.some.inj H
 go_enter Tryz.func86,Tryz.ntmps86
 go_wp2_with (first | ((with_reducible refine gate_dst (N:=3) rfl ?_);refine bx_ 3 41 #[.string a1_0,.int .i64 a1_1,.int .i64 a1_2,.int .i64 a1_3,.string a1_4,.string a1_5] ?_;intro gb101 hg w4 hbox hb;have BK101:=Aside0.mk (hbox);have GW101:=Aside0.mk ((q20_ : w.heap.size ≤ gb101));have GE101:=Aside0.mk ((q20_ : w.heap.size ≤ gb101));replace HB:=Aside0.mk (below_step bh_ hb);clear hb hbox hg;have hcz5_0 : w4.cell? ⟨gb101,0,none⟩ = some (.string a1_0):=(blk_cell BK101.out 0).trans rfl;have hcz5_1 : w4.cell? ⟨gb101,1,none⟩ = some (.int .i64 a1_1):=(blk_cell BK101.out 1).trans rfl;have hcz5_2 : w4.cell? ⟨gb101,2,none⟩ = some (.int .i64 a1_2):=(blk_cell BK101.out 2).trans rfl;have hcz5_3 : w4.cell? ⟨gb101,3,none⟩ = some (.int .i64 a1_3):=(blk_cell BK101.out 3).trans rfl;have hcz5_4 : w4.cell? ⟨gb101,4,none⟩ = some (.string a1_4):=(blk_cell BK101.out 4).trans rfl;have hcz5_5 : w4.cell? ⟨gb101,5,none⟩ = some (.string a1_5):=(blk_cell BK101.out 5).trans rfl;have hfz5_0:=blk_frozen BK101.out 0;have hfz5_1:=blk_frozen BK101.out 1;have hfz5_2:=blk_frozen BK101.out 2;have hfz5_3:=blk_frozen BK101.out 3;have hfz5_4:=blk_frozen BK101.out 4;have hfz5_5:=blk_frozen BK101.out 5) | ((with_reducible refine gate_callee (f:=122) rfl ?_);refine gl_ 7 Tryz.func122 #[.slice A0 l0.length c0,.agg #[.string a1_0,.int .i64 a1_1,.int .i64 a1_2,.int .i64 a1_3,.string a1_4,.string a1_5]] ?_;(with_reducible refine (slices_Index_apiReq.calls k _ _ l0 a1_0 a1_1 a1_2 a1_3 a1_4 a1_5 t102 _ ?side1 ?side2 A3.out).mono ?_);(case side1 => repeat (first | exact (Kd.C_below HR0.out HB.out) | (with_reducible refine Kd.C_alloc ?_ _) | (with_reducible refine Kd.C_drewN ?_ _) | (with_reducible refine Kd.C_drew ?_)));(case side2 => exact HC0.out);rintro e w6 ⟨rfl,hb⟩;refine ⟨_,rfl,?_⟩;replace BK101:=Aside0.mk (blk_below bk101_ hb);replace HB:=Aside0.mk (below_step bh_ hb);(try clear hb)))
 go_ret
 exact ⟨q2_,bh_⟩
def mvs_may.f (k : Nat) (a0_0 : ByteArray) (a0_1 : Int) (a0_2 : Int) (a0_3 : Int) (a0_4 : ByteArray) (a0_5 : ByteArray) : Option (Bool):=(mpath_Fits.f k a0_0 a0_1 a0_2 a0_3 a0_4 a0_5).bind fun t102 => (some t102)
theorem mvs_may.mono : ∀ a0 a1 a2 a3 a4 a5 k,LeO (mvs_may.f k a0 a1 a2 a3 a4 a5) (mvs_may.f (k + 1) a0 a1 a2 a3 a4 a5):=by
 intro a0 a1 a2 a3 a4 a5 k
 unfold mvs_may.f
 repeat' first
   | (with_reducible exact mpath_Fits.mono _ _ _ _ _ _ _)
   | (with_reducible exact LeO.refl _)
   | (with_reducible exact LeO.none _)
   | (with_reducible refine LeO.ite ?_ ?_)
   | (with_reducible refine LeO.bind ?_ (fun _ => ?_))
   | exact mpath_Fits.mono _ _ _ _ _ _ _
   | exact LeO.none _
   | refine LeO.ite ?_ ?_
   | refine LeO.bind ?_ (fun _ => ?_)
set_option maxHeartbeats 8000000 in
set_option maxRecDepth 100000 in
theorem mvs_may.calls (k : Nat) (a0_0 : ByteArray) (a0_1 : Int) (a0_2 : Int) (a0_3 : Int) (a0_4 : ByteArray) (a0_5 : ByteArray) (r : Bool) (w : World) (h : mvs_may.f k a0_0 a0_1 a0_2 a0_3 a0_4 a0_5 = some r) (hG : Env w) :
  Calls Tryz.prog 59 #[.agg #[.string a0_0,.int .i64 a0_1,.int .i64 a0_2,.int .i64 a0_3,.string a0_4,.string a0_5]] w fun e w' => e = .returned (.bool r) ∧ Below w.heap.size w w':=by
 have HG:=Aside0.mk hG
 clear hG
 have hu41:=Tryz.underlying41
 have hu24:=Tryz.underlying24
 have HB:=Aside0.mk (Below.refl w.heap.size w)
 have H : ((mpath_Fits.f k a0_0 a0_1 a0_2 a0_3 a0_4 a0_5).bind fun t102 => (some t102)) = some r:=h
 clear h
 obtain ⟨t102,A20,H⟩:=Option.bind_eq_some_iff.mp H
 have A2:=Aside0.mk A20
 clear A20
 obtain rfl:=Option.some.inj H
 go_enter Tryz.func59,Tryz.ntmps59
 go_wp2_with (first | ((with_reducible refine gate_dst (N:=1) rfl ?_);refine bx_ 1 41 #[.string a0_0,.int .i64 a0_1,.int .i64 a0_2,.int .i64 a0_3,.string a0_4,.string a0_5] ?_;intro gb101 hg w3 hbox hb;have BK101:=Aside0.mk (hbox);have GW101:=Aside0.mk ((q20_ : w.heap.size ≤ gb101));have GE101:=Aside0.mk ((q20_ : w.heap.size ≤ gb101));replace HB:=Aside0.mk (below_step bh_ hb);clear hb hbox hg;have hcz4_0 : w3.cell? ⟨gb101,0,none⟩ = some (.string a0_0):=(blk_cell BK101.out 0).trans rfl;have hcz4_1 : w3.cell? ⟨gb101,1,none⟩ = some (.int .i64 a0_1):=(blk_cell BK101.out 1).trans rfl;have hcz4_2 : w3.cell? ⟨gb101,2,none⟩ = some (.int .i64 a0_2):=(blk_cell BK101.out 2).trans rfl;have hcz4_3 : w3.cell? ⟨gb101,3,none⟩ = some (.int .i64 a0_3):=(blk_cell BK101.out 3).trans rfl;have hcz4_4 : w3.cell? ⟨gb101,4,none⟩ = some (.string a0_4):=(blk_cell BK101.out 4).trans rfl;have hcz4_5 : w3.cell? ⟨gb101,5,none⟩ = some (.string a0_5):=(blk_cell BK101.out 5).trans rfl;have hfz4_0:=blk_frozen BK101.out 0;have hfz4_1:=blk_frozen BK101.out 1;have hfz4_2:=blk_frozen BK101.out 2;have hfz4_3:=blk_frozen BK101.out 3;have hfz4_4:=blk_frozen BK101.out 4;have hfz4_5:=blk_frozen BK101.out 5) | ((with_reducible refine gate_callee (f:=75) rfl ?_);refine gl_ 7 Tryz.func75 #[.string a0_0,.agg #[.int .i64 a0_1,.int .i64 a0_2,.int .i64 a0_3,.string a0_4,.string a0_5]] ?_;(with_reducible refine (mpath_Fits.calls k a0_0 a0_1 a0_2 a0_3 a0_4 a0_5 t102 _ A2.out ?sideG).mono ?_);(case sideG => first | exact HG.out | exact Env.below HG.out bh_);rintro e w5 ⟨rfl,hb⟩;refine ⟨_,rfl,?_⟩;replace BK101:=Aside0.mk (blk_below bk101_ hb);replace HB:=Aside0.mk (below_step bh_ hb);(try clear hb)))
 go_ret
 exact ⟨q2_,bh_⟩
end Go.Proofs.YtennhpoemdaghaaGreatDoor.P
end
section
namespace Go.Proofs.YtennhpoemdaghaaGreatDoor.P
open Go Go.RowKit Go.Proofs.YtennhpoemdaghaaGreatDoorW.PrintWords Go.Proofs.YtennhpoemdaghaaGreatDoorW.PrintLast Go.Proofs.YtennhpoemdaghaaGreatDoorW.PrintMore
abbrev Req:=S41
abbrev Node:=S70
def idxP {α : Type} (pred : α → Bool) : List α → Nat → Int
 | [],_ => -1
 | x :: xs,i => if pred x then (i : Int) else idxP pred xs (i + 1)
set_option maxRecDepth 100000 in
set_option maxHeartbeats 4000000 in
theorem indexNode (A : Option Addr) (c : Nat) (l : List Node) (g3 : Nat) (pred : Node → Bool) (w : World) (hr : Kd.C k70 w A l.length l) (hc : l.length ≤ c)
  (hcl : ∀ (x : Node) (A6 : Option Addr) (c6 : Nat) (W : World),x ∈ l → Below w.heap.size w W → Calls Tryz.prog 88 #[.agg #[.string x.f0.f0,.int .i64 x.f0.f1.f0,.int .i64 x.f0.f1.f1,.int .i64 x.f0.f1.f2,.string x.f0.f1.f3,.string x.f0.f1.f4,.slice A6 x.f1.length c6],.pointer (some ⟨g3,0,none⟩)] W fun e w' => e = .returned (.bool (pred x)) ∧ Below W.heap.size W w') :
  Calls Tryz.prog 87 #[.slice A l.length c,.func (.func 88) #[] #[.pointer (some ⟨g3,0,none⟩)]] w fun e w' => e = .returned (.int .i64 (idxP pred l 0)) ∧ Below w.heap.size w w':=by
 have HR:=Aside0.mk hr
 have HC:=Aside0.mk hc
 have HCL:=Aside0.mk hcl
 have HB:=Aside0.mk (Below.refl w.heap.size w)
 clear hr hc hcl
 go_enter Tryz.func87,Tryz.ntmps87
 go_wp2
 go_loopw [8] (fun v8 wr => ∃ i : Nat,v8 = .int .i64 i ∧ i ≤ l.length ∧ Aside0 (idxP pred l 0 = idxP pred (l.drop i) i) ∧ Aside0 (Below w.heap.size w wr)) (fun v8 _ => l.length - (intOf v8).toNat)
 case atStart => exact ⟨0,rfl,Nat.zero_le _,⟨rfl⟩,HB⟩
 case round =>
  clear HB
  obtain ⟨i,rfl,hi,HH,HB⟩:=hrel
  by_cases h : i < l.length
  ·have hg : ((i : Int) < (l.length : Int)) = True:=eq_true q8_
   have hp : (0 ≤ (i : Int)) = True:=eq_true q8_
   have hmax:=Kd.C_max HR.out
   have hw : wrap64 ((i : Int) + 1) = (i : Int) + 1:=by unfold wrap64;omega
   obtain ⟨ad,A6,c6,e1,hx0,hx1,hx2,hx3,hx4,hx5,hx6,hl6,hC6⟩:=at_T70 (Kd.C_below HR.out HB.out) (i : Int) q8_ q8_
   cases e1
   simp only [Int.toNat_natCast] at hx0 hx1 hx2 hx3 hx4 hx5 hx6
   obtain ⟨x,hx⟩ : ∃ x,rd_T70 l (i : Int) = x:=⟨_,rfl⟩
   rw [hx] at hx0 hx1 hx2 hx3 hx4 hx5 hx6 hl6 hC6
   have hlx : l.drop i = x :: l.drop (i + 1):=by rw [List.drop_eq_getElem_cons h,← hx];simp [rd_T70,h]
   have hmem : x ∈ l:=List.mem_of_mem_drop (i:=i) (by rw [hlx];exact List.mem_cons_self)
   have H:=HH.out
   rw [hlx,idxP] at H
   clear HH
   cases hpx : pred x with
   | true =>
    rw [hpx,if_pos rfl] at H
    have HH:=Aside0.mk H
    clear H
    go_wp2_with (go_at_call 88;with_reducible refine (HCL.out x A6 c6 _ hmem HB.out).mono ?_;rintro e w' ⟨rfl,hb⟩;rw [hpx])
    go_ret
    exact ⟨q61_,below_then HB.out HB.out.size hb⟩
   | false =>
    rw [hpx,if_neg q37_] at H
    have HH:=Aside0.mk H
    clear H
    go_wp2_with (go_at_call 88;with_reducible refine (HCL.out x A6 c6 _ hmem HB.out).mono ?_;rintro e w' ⟨rfl,hb⟩;rw [hpx])
    refine ⟨⟨i + 1,by simp [hw],h,HH,⟨below_then HB.out HB.out.size hb⟩⟩,?_⟩
    simp only [intOf,hw]
    omega
  ·have hg : ((i : Int) < (l.length : Int)) = False:=eq_false q8_
   have hil : l.drop i = []:=List.drop_eq_nil_of_le q8_
   have H:=HH.out
   rw [hil,idxP] at H
   have HH:=Aside0.mk H
   clear H
   go_wp2
   go_ret
   exact ⟨q61_,HB.out⟩
set_option maxRecDepth 100000 in
set_option maxHeartbeats 4000000 in
theorem indexUp (A : Option Addr) (c : Nat) (l : List Req) (g3 : Nat) (pred : Req → Bool) (w : World) (hr : Kd.C k41 w A l.length l) (hc : l.length ≤ c)
  (hcl : ∀ (x : Req) (W : World),x ∈ l → Below w.heap.size w W → Calls Tryz.prog 61 #[.agg #[.string x.f0,.int .i64 x.f1.f0,.int .i64 x.f1.f1,.int .i64 x.f1.f2,.string x.f1.f3,.string x.f1.f4],.pointer (some ⟨g3,0,none⟩)] W fun e w' => e = .returned (.bool (pred x)) ∧ Below W.heap.size W w') :
  Calls Tryz.prog 60 #[.slice A l.length c,.func (.func 61) #[] #[.pointer (some ⟨g3,0,none⟩)]] w fun e w' => e = .returned (.int .i64 (idxP pred l 0)) ∧ Below w.heap.size w w':=by
 have HR:=Aside0.mk hr
 have HC:=Aside0.mk hc
 have HCL:=Aside0.mk hcl
 have HB:=Aside0.mk (Below.refl w.heap.size w)
 clear hr hc hcl
 go_enter Tryz.func60,Tryz.ntmps60
 go_wp2
 go_loopw [8] (fun v8 wr => ∃ i : Nat,v8 = .int .i64 i ∧ i ≤ l.length ∧ Aside0 (idxP pred l 0 = idxP pred (l.drop i) i) ∧ Aside0 (Below w.heap.size w wr)) (fun v8 _ => l.length - (intOf v8).toNat)
 case atStart => exact ⟨0,rfl,Nat.zero_le _,⟨rfl⟩,HB⟩
 case round =>
  clear HB
  obtain ⟨i,rfl,hi,HH,HB⟩:=hrel
  by_cases h : i < l.length
  ·have hg : ((i : Int) < (l.length : Int)) = True:=eq_true q8_
   have hp : (0 ≤ (i : Int)) = True:=eq_true q8_
   have hmax:=Kd.C_max HR.out
   have hw : wrap64 ((i : Int) + 1) = (i : Int) + 1:=by unfold wrap64;omega
   obtain ⟨ad,e1,hx0,hx1,hx2,hx3,hx4,hx5⟩:=at_T41 (Kd.C_below HR.out HB.out) (i : Int) q8_ q8_
   cases e1
   simp only [Int.toNat_natCast] at hx0 hx1 hx2 hx3 hx4 hx5
   obtain ⟨x,hx⟩ : ∃ x,rd_T41 l (i : Int) = x:=⟨_,rfl⟩
   rw [hx] at hx0 hx1 hx2 hx3 hx4 hx5
   have hlx : l.drop i = x :: l.drop (i + 1):=by rw [List.drop_eq_getElem_cons h,← hx];simp [rd_T41,h]
   have hmem : x ∈ l:=List.mem_of_mem_drop (i:=i) (by rw [hlx];exact List.mem_cons_self)
   have H:=HH.out
   rw [hlx,idxP] at H
   clear HH
   cases hpx : pred x with
   | true =>
    rw [hpx,if_pos rfl] at H
    have HH:=Aside0.mk H
    clear H
    go_wp2_with (go_at_call 61;with_reducible refine (HCL.out x _ hmem HB.out).mono ?_;rintro e w' ⟨rfl,hb⟩;rw [hpx])
    go_ret
    exact ⟨q61_,below_then HB.out HB.out.size hb⟩
   | false =>
    rw [hpx,if_neg q37_] at H
    have HH:=Aside0.mk H
    clear H
    go_wp2_with (go_at_call 61;with_reducible refine (HCL.out x _ hmem HB.out).mono ?_;rintro e w' ⟨rfl,hb⟩;rw [hpx])
    refine ⟨⟨i + 1,by simp [hw],h,HH,⟨below_then HB.out HB.out.size hb⟩⟩,?_⟩
    simp only [intOf,hw]
    omega
  ·have hg : ((i : Int) < (l.length : Int)) = False:=eq_false q8_
   have hil : l.drop i = []:=List.drop_eq_nil_of_le q8_
   have H:=HH.out
   rw [hil,idxP] at H
   have HH:=Aside0.mk H
   clear H
   go_wp2
   go_ret
   exact ⟨q61_,HB.out⟩
set_option maxRecDepth 100000 in
set_option maxHeartbeats 4000000 in
theorem indexOut (A : Option Addr) (c : Nat) (l : List Req) (g3 : Nat) (pred : Req → Bool) (w : World) (hr : Kd.C k41 w A l.length l) (hc : l.length ≤ c)
  (hcl : ∀ (x : Req) (W : World),x ∈ l → Below w.heap.size w W → Calls Tryz.prog 93 #[.agg #[.string x.f0,.int .i64 x.f1.f0,.int .i64 x.f1.f1,.int .i64 x.f1.f2,.string x.f1.f3,.string x.f1.f4],.pointer (some ⟨g3,0,none⟩)] W fun e w' => e = .returned (.bool (pred x)) ∧ Below W.heap.size W w') :
  Calls Tryz.prog 60 #[.slice A l.length c,.func (.func 93) #[] #[.pointer (some ⟨g3,0,none⟩)]] w fun e w' => e = .returned (.int .i64 (idxP pred l 0)) ∧ Below w.heap.size w w':=by
 have HR:=Aside0.mk hr
 have HC:=Aside0.mk hc
 have HCL:=Aside0.mk hcl
 have HB:=Aside0.mk (Below.refl w.heap.size w)
 clear hr hc hcl
 go_enter Tryz.func60,Tryz.ntmps60
 go_wp2
 go_loopw [8] (fun v8 wr => ∃ i : Nat,v8 = .int .i64 i ∧ i ≤ l.length ∧ Aside0 (idxP pred l 0 = idxP pred (l.drop i) i) ∧ Aside0 (Below w.heap.size w wr)) (fun v8 _ => l.length - (intOf v8).toNat)
 case atStart => exact ⟨0,rfl,Nat.zero_le _,⟨rfl⟩,HB⟩
 case round =>
  clear HB
  obtain ⟨i,rfl,hi,HH,HB⟩:=hrel
  by_cases h : i < l.length
  ·have hg : ((i : Int) < (l.length : Int)) = True:=eq_true q8_
   have hp : (0 ≤ (i : Int)) = True:=eq_true q8_
   have hmax:=Kd.C_max HR.out
   have hw : wrap64 ((i : Int) + 1) = (i : Int) + 1:=by unfold wrap64;omega
   obtain ⟨ad,e1,hx0,hx1,hx2,hx3,hx4,hx5⟩:=at_T41 (Kd.C_below HR.out HB.out) (i : Int) q8_ q8_
   cases e1
   simp only [Int.toNat_natCast] at hx0 hx1 hx2 hx3 hx4 hx5
   obtain ⟨x,hx⟩ : ∃ x,rd_T41 l (i : Int) = x:=⟨_,rfl⟩
   rw [hx] at hx0 hx1 hx2 hx3 hx4 hx5
   have hlx : l.drop i = x :: l.drop (i + 1):=by rw [List.drop_eq_getElem_cons h,← hx];simp [rd_T41,h]
   have hmem : x ∈ l:=List.mem_of_mem_drop (i:=i) (by rw [hlx];exact List.mem_cons_self)
   have H:=HH.out
   rw [hlx,idxP] at H
   clear HH
   cases hpx : pred x with
   | true =>
    rw [hpx,if_pos rfl] at H
    have HH:=Aside0.mk H
    clear H
    go_wp2_with (go_at_call 93;with_reducible refine (HCL.out x _ hmem HB.out).mono ?_;rintro e w' ⟨rfl,hb⟩;rw [hpx])
    go_ret
    exact ⟨q61_,below_then HB.out HB.out.size hb⟩
   | false =>
    rw [hpx,if_neg q37_] at H
    have HH:=Aside0.mk H
    clear H
    go_wp2_with (go_at_call 93;with_reducible refine (HCL.out x _ hmem HB.out).mono ?_;rintro e w' ⟨rfl,hb⟩;rw [hpx])
    refine ⟨⟨i + 1,by simp [hw],h,HH,⟨below_then HB.out HB.out.size hb⟩⟩,?_⟩
    simp only [intOf,hw]
    omega
  ·have hg : ((i : Int) < (l.length : Int)) = False:=eq_false q8_
   have hil : l.drop i = []:=List.drop_eq_nil_of_le q8_
   have H:=HH.out
   rw [hil,idxP] at H
   have HH:=Aside0.mk H
   clear H
   go_wp2
   go_ret
   exact ⟨q61_,HB.out⟩
end Go.Proofs.YtennhpoemdaghaaGreatDoor.P
end
section
namespace Go.Proofs.YtennhpoemdaghaaGreatDoor.P
open Go Go.RowKit Go.Proofs.YtennhpoemdaghaaGreatDoorW.PrintWords
def eqR (x y : Req) : Bool:=x.f0.toList == y.f0.toList && (x.f1.f0 == y.f1.f0 && (x.f1.f1 == y.f1.f1 && (x.f1.f2 == y.f1.f2 && (x.f1.f3.toList == y.f1.f3.toList && (x.f1.f4.toList == y.f1.f4.toList)))))
def memR (l : List Req) (r : Req) : Bool:=l.any (fun x => eqR r x)
def fuelR : Nat:=100000
def mayP (r : Req) : Option Bool:=mvs_may.f fuelR r.f0 r.f1.f0 r.f1.f1 r.f1.f2 r.f1.f3 r.f1.f4
def moreP : List Req → List Req → Option (List Req)
 | all,[] => some all
 | all,r :: rs => (mayP r).bind fun b => if b && !memR all r then (if all.length < 1000000 then moreP (all ++ [r]) rs else none) else moreP all rs
def reqsP : List Node → Req → List Req
 | [],_ => []
 | n :: ns,r => if eqR n.f0 r then n.f1 else reqsP ns r
def walkP (nodes : List Node) : Nat → List Req → Nat → Option (List Req)
 | 0,_,_ => none
 | k + 1,all,i => if h : i < all.length then (moreP all (reqsP nodes all[i])).bind fun all' => walkP nodes k all' (i + 1) else some all
theorem index_gen (l : List Req) (r : Req) (hl : l.length ≤ 1000000) : ∀ d i : Nat,i ≤ l.length → l.length - i = d → ∀ k,d < k →
  ∃ j,slices_Index_apiReq.l0 k l (l.length : Int) (i : Int) r.f0 r.f1.f0 r.f1.f1 r.f1.f2 r.f1.f3 r.f1.f4 = some j ∧ (decide (0 ≤ j) = memR (l.drop i) r):=by
 intro d
 induction d with
 | zero =>
  intro i hi hd k hk
  obtain ⟨k,rfl⟩ : ∃ m,k = m + 1:=⟨k - 1,by omega⟩
  rw [slices_Index_apiReq.l0,if_neg q8_,List.drop_eq_nil_of_le q8_]
  exact ⟨-1,rfl,rfl⟩
 | succ d ih =>
  intro i hi hd k hk
  obtain ⟨k,rfl⟩ : ∃ m,k = m + 1:=⟨k - 1,by omega⟩
  have h : i < l.length:=by omega
  have hr : rd_T41 l (i : Int) = l[i]:=by simp [rd_T41,h]
  have hw : wrap64 ((i : Int) + 1) = ((i + 1 : Nat) : Int):=by unfold wrap64;omega
  rw [slices_Index_apiReq.l0,if_pos q8_,if_pos q8_,if_pos q8_,hr,hw,List.drop_eq_getElem_cons h]
  have hm : memR (l[i] :: l.drop (i + 1)) r = (eqR r l[i] || memR (l.drop (i + 1)) r):=rfl
  rw [hm]
  cases he : eqR r l[i] with
  | true => exact ⟨i,by unfold eqR at he;rw [if_pos he],by simp⟩
  | false =>
   obtain ⟨j,h1,h2⟩:=ih (i + 1) q8_ q8_ k q8_
   exact ⟨j,by unfold eqR at he;rw [if_neg (by rw [he];simp)];exact h1,by rw [h2];rfl⟩
theorem contains_f (l : List Req) (r : Req) (hl : l.length ≤ 1000000) (k : Nat) (hk : l.length < k) : slices_Contains_apiReq.f k l r.f0 r.f1.f0 r.f1.f1 r.f1.f2 r.f1.f3 r.f1.f4 = some (memR l r):=by
 obtain ⟨j,h1,h2⟩:=index_gen l r hl l.length 0 (Nat.zero_le _) rfl k hk
 unfold slices_Contains_apiReq.f slices_Index_apiReq.f
 rw [show ((0 : Nat) : Int) = 0 from rfl] at h1
 rw [List.drop_zero] at h2
 rw [h1,Option.bind_some,← h2]
theorem lastOcc_le (s sub : List UInt8) : ∀ n : Nat,Lib.lastOcc s sub n < n:=by
 intro n
 induction n with
 | zero => show (-1 : Int) < 0;decide
 | succ n ih =>
  unfold Lib.lastOcc
  split <;> omega
theorem base_some (s : ByteArray) (hs : s.size ≤ 60) : ∃ b,mpath_Base.f s = some b:=by
 unfold mpath_Base.f strings_LastIndex.f
 have hz : s.data.toList.length = s.size:=rfl
 rw [if_pos q8_,Option.bind_some]
 have hb : Lib.lastIndex s.data.toList [47] ≤ (s.size : Int):=by
  unfold Lib.lastIndex
  split
  ·have:=lastOcc_le s.data.toList [47] (s.data.toList.length - [(47 : UInt8)].length + 1)
   simp only [List.length_singleton] at *
   omega
  ·omega
 show ∃ b,(if Lib.lastIndex s.data.toList [47] < 0 then _ else _) = some b
 generalize Lib.lastIndex s.data.toList [47] = i at hb
 by_cases h : i < 0
 ·exact ⟨_,if_pos h⟩
 ·rw [if_neg h,if_pos q8_,if_pos hb]
  exact ⟨_,rfl⟩
def lastN (s : ByteArray) : Int:=if tellB ((splitS 47 s).getLastD ByteArray.empty) then numbB ((splitS 47 s).getLastD ByteArray.empty) else 0
theorem pmajor_f (s : ByteArray) (k : Nat) (hk : 100 < k) : ∃ b,mpath_Major.f k s = some (b,if chkB s then lastN s else 0,chkB s):=by
 unfold mpath_Major.f
 rw [pchk_f s k hk,Option.bind_some]
 cases hc : chkB s with
 | false => exact ⟨_,rfl⟩
 | true =>
  have hp : pathB s.data.toList = true:=by unfold chkB at hc;rw [Bool.and_eq_true] at hc;exact hc.1
  have hs:=pathB_size hp
  obtain ⟨h1,h2,h3⟩:=parts_small s hs
  obtain ⟨b,hb⟩:=base_some s hs
  rw [if_pos rfl]
  unfold mpath_split.f
  rw [if_pos q8_,Option.bind_some]
  rw [show mpath_major.f ((splitS 47 s).dropLast,(splitS 47 s).getLastD ByteArray.empty).2 = some (numbB ((splitS 47 s).getLastD ByteArray.empty),tellB ((splitS 47 s).getLastD ByteArray.empty)) from major_f ((splitS 47 s).getLastD ByteArray.empty) q8_,Option.bind_some,hb]
  unfold lastN
  cases tellB ((splitS 47 s).getLastD ByteArray.empty) with
  | false => exact ⟨_,rfl⟩
  | true => exact ⟨b,rfl⟩
def fitsB (s : ByteArray) (a b c : Int) (p q : ByteArray) : Bool:=chkB s && verB a b c p.data.toList q.data.toList && (if lastN s = 0 then decide (a < 2) else a == lastN s)
theorem pfits_f (s : ByteArray) (a b c : Int) (p q : ByteArray) (k : Nat) (hk : 100 < k) : mpath_Fits.f k s a b c p q = some (fitsB s a b c p q):=by
 obtain ⟨ba,hm⟩:=pmajor_f s k hk
 unfold mpath_Fits.f fitsB
 rw [hm,Option.bind_some]
 obtain ⟨k,rfl⟩ : ∃ m,k = m + 1:=⟨k - 1,by omega⟩
 cases chkB s with
 | false => rfl
 | true =>
  simp only [if_true,ver_Check.f,Option.bind_some,mpath_Fits.j0,Bool.true_and]
  cases verB a b c p.data.toList q.data.toList with
  | false => rfl
  | true =>
   rw [if_neg q37_]
   split <;> rfl
def mayB (r : Req) : Bool:=fitsB r.f0 r.f1.f0 r.f1.f1 r.f1.f2 r.f1.f3 r.f1.f4
theorem mayP_eq (r : Req) : mayP r = some (mayB r):=by
 unfold mayP mvs_may.f
 rw [pfits_f _ _ _ _ _ _ fuelR q37_]
 rfl
end Go.Proofs.YtennhpoemdaghaaGreatDoor.P
end
section
namespace Go.Proofs.YtennhpoemdaghaaGreatDoor.P
open Go.RowKit Go.Proofs.YtennhpoemdaghaaGreatDoorW.PrintWords Go.Proofs.YtennhpoemdaghaaGreatDoorW.PrintLast Go.Proofs.YtennhpoemdaghaaGreatDoorW.PrintMore
def cmp_isNaN_int.f (a0 : Int) : Option (Bool):=some (a0 != a0)
set_option maxHeartbeats 8000000 in
set_option maxRecDepth 100000 in
theorem cmp_isNaN_int.calls (a0 : Int) (r : Bool) (w : World) (h : cmp_isNaN_int.f a0 = some r) :
  Calls Tryz.prog 119 #[.int .i64 a0] w fun e w' => e = .returned (.bool r) ∧ Drawn0 w w':=by
 have H : (some (a0 != a0)) = some r:=h
 clear h
 obtain rfl:=Option.some.inj H
 go_enter Tryz.func119,Tryz.ntmps119
 go_wp2
 go_ret
 exact ⟨q3_,q4_⟩
def cmp_Compare_int.f (a0 : Int) (a1 : Int) : Option (Int):=(cmp_isNaN_int.f a0).bind fun t101 => ((cmp_isNaN_int.f a1).bind fun t102 => (if t101 = true then (if t102 = true then (some 0) else (some (-1))) else (if t102 = true then (some 1) else (if a0 < a1 then (some (-1)) else (if a0 > a1 then (some 1) else (some 0))))))
set_option maxHeartbeats 8000000 in
set_option maxRecDepth 100000 in
theorem cmp_Compare_int.calls (a0 : Int) (a1 : Int) (r : Int) (w : World) (h : cmp_Compare_int.f a0 a1 = some r) :
  Calls Tryz.prog 84 #[.int .i64 a0,.int .i64 a1] w fun e w' => e = .returned (.int .i64 r) ∧ Drawn0 w w':=by
 have H : ((cmp_isNaN_int.f a0).bind fun t101 => ((cmp_isNaN_int.f a1).bind fun t102 => (if t101 = true then (if t102 = true then (some 0) else (some (-1))) else (if t102 = true then (some 1) else (if a0 < a1 then (some (-1)) else (if a0 > a1 then (some 1) else (some 0))))))) = some r:=h
 clear h
 obtain ⟨t101,A30,H⟩:=Option.bind_eq_some_iff.mp H
 have A3:=Aside0.mk A30
 clear A30
 obtain ⟨t102,A40,H⟩:=Option.bind_eq_some_iff.mp H
 have A4:=Aside0.mk A40
 clear A40
 by_cases c5 : t101 = true
 ·subst c5
  rw [if_pos rfl] at H
  by_cases c6 : t102 = true
  ·subst c6
   rw [if_pos rfl] at H
   obtain rfl:=Option.some.inj H
   go_enter Tryz.func84,Tryz.ntmps84
   go_wp2_with (first | ((with_reducible refine gate_callee (f:=119) rfl ?_);refine gl_ 8 Tryz.func119 #[.int .i64 a0] ?_;(with_reducible refine (cmp_isNaN_int.calls a0 true _ A3.out).mono ?_);rintro e w' ⟨rfl,⟨nd,rfl⟩⟩;refine ⟨_,rfl,?_⟩) | ((with_reducible refine gate_callee (f:=119) rfl ?_);refine gl_ 10 Tryz.func119 #[.int .i64 a1] ?_;(with_reducible refine (cmp_isNaN_int.calls a1 true _ A4.out).mono ?_);rintro e w' ⟨rfl,⟨nd,rfl⟩⟩;refine ⟨_,rfl,?_⟩))
   go_ret
   exact ⟨q3_,q4_⟩
  ·replace c6:=Bool.eq_false_iff.mpr c6
   subst c6
   rw [if_neg (show ¬ (false = true) by decide)] at H
   obtain rfl:=Option.some.inj H
   go_enter Tryz.func84,Tryz.ntmps84
   go_wp2_with (first | ((with_reducible refine gate_callee (f:=119) rfl ?_);refine gl_ 8 Tryz.func119 #[.int .i64 a0] ?_;(with_reducible refine (cmp_isNaN_int.calls a0 true _ A3.out).mono ?_);rintro e w' ⟨rfl,⟨nd,rfl⟩⟩;refine ⟨_,rfl,?_⟩) | ((with_reducible refine gate_callee (f:=119) rfl ?_);refine gl_ 10 Tryz.func119 #[.int .i64 a1] ?_;(with_reducible refine (cmp_isNaN_int.calls a1 false _ A4.out).mono ?_);rintro e w' ⟨rfl,⟨nd,rfl⟩⟩;refine ⟨_,rfl,?_⟩))
   go_ret
   exact ⟨q3_,q4_⟩
 ·replace c5:=Bool.eq_false_iff.mpr c5
  subst c5
  rw [if_neg (show ¬ (false = true) by decide)] at H
  by_cases c7 : t102 = true
  ·subst c7
   rw [if_pos rfl] at H
   obtain rfl:=Option.some.inj H
   go_enter Tryz.func84,Tryz.ntmps84
   go_wp2_with (first | ((with_reducible refine gate_callee (f:=119) rfl ?_);refine gl_ 8 Tryz.func119 #[.int .i64 a0] ?_;(with_reducible refine (cmp_isNaN_int.calls a0 false _ A3.out).mono ?_);rintro e w' ⟨rfl,⟨nd,rfl⟩⟩;refine ⟨_,rfl,?_⟩) | ((with_reducible refine gate_callee (f:=119) rfl ?_);refine gl_ 10 Tryz.func119 #[.int .i64 a1] ?_;(with_reducible refine (cmp_isNaN_int.calls a1 true _ A4.out).mono ?_);rintro e w' ⟨rfl,⟨nd,rfl⟩⟩;refine ⟨_,rfl,?_⟩))
   go_ret
   exact ⟨q3_,q4_⟩
  ·replace c7:=Bool.eq_false_iff.mpr c7
   subst c7
   rw [if_neg (show ¬ (false = true) by decide)] at H
   by_cases c8 : a0 < a1
   ·rw [if_pos c8] at H
    have c8b0:=decide_eq_true c8
    clear c8
    obtain rfl:=Option.some.inj H
    go_enter Tryz.func84,Tryz.ntmps84
    go_wp2_with (first | ((with_reducible refine gate_callee (f:=119) rfl ?_);refine gl_ 8 Tryz.func119 #[.int .i64 a0] ?_;(with_reducible refine (cmp_isNaN_int.calls a0 false _ A3.out).mono ?_);rintro e w' ⟨rfl,⟨nd,rfl⟩⟩;refine ⟨_,rfl,?_⟩) | ((with_reducible refine gate_callee (f:=119) rfl ?_);refine gl_ 10 Tryz.func119 #[.int .i64 a1] ?_;(with_reducible refine (cmp_isNaN_int.calls a1 false _ A4.out).mono ?_);rintro e w' ⟨rfl,⟨nd,rfl⟩⟩;refine ⟨_,rfl,?_⟩))
    go_ret
    exact ⟨q3_,q4_⟩
   ·rw [if_neg c8] at H
    have c8b0:=decide_eq_false c8
    clear c8
    by_cases c9 : a0 > a1
    ·rw [if_pos c9] at H
     have c9b0 : decide (a1 < a0) = true:=decide_eq_true c9
     clear c9
     obtain rfl:=Option.some.inj H
     go_enter Tryz.func84,Tryz.ntmps84
     go_wp2_with (first | ((with_reducible refine gate_callee (f:=119) rfl ?_);refine gl_ 8 Tryz.func119 #[.int .i64 a0] ?_;(with_reducible refine (cmp_isNaN_int.calls a0 false _ A3.out).mono ?_);rintro e w' ⟨rfl,⟨nd,rfl⟩⟩;refine ⟨_,rfl,?_⟩) | ((with_reducible refine gate_callee (f:=119) rfl ?_);refine gl_ 10 Tryz.func119 #[.int .i64 a1] ?_;(with_reducible refine (cmp_isNaN_int.calls a1 false _ A4.out).mono ?_);rintro e w' ⟨rfl,⟨nd,rfl⟩⟩;refine ⟨_,rfl,?_⟩))
     go_ret
     exact ⟨q3_,q4_⟩
    ·rw [if_neg c9] at H
     have c9b0 : decide (a1 < a0) = false:=decide_eq_false c9
     clear c9
     obtain rfl:=Option.some.inj H
     go_enter Tryz.func84,Tryz.ntmps84
     go_wp2_with (first | ((with_reducible refine gate_callee (f:=119) rfl ?_);refine gl_ 8 Tryz.func119 #[.int .i64 a0] ?_;(with_reducible refine (cmp_isNaN_int.calls a0 false _ A3.out).mono ?_);rintro e w' ⟨rfl,⟨nd,rfl⟩⟩;refine ⟨_,rfl,?_⟩) | ((with_reducible refine gate_callee (f:=119) rfl ?_);refine gl_ 10 Tryz.func119 #[.int .i64 a1] ?_;(with_reducible refine (cmp_isNaN_int.calls a1 false _ A4.out).mono ?_);rintro e w' ⟨rfl,⟨nd,rfl⟩⟩;refine ⟨_,rfl,?_⟩))
     go_ret
     exact ⟨q3_,q4_⟩
def cmp_Or_int.l0 : Nat → Int → List Int → Int → Int → Option (Int)
 | 0,_,_,_,_ => none
 | k + 1,x3,x6,x7,x8 => if x8 < x7 then (if 0 ≤ x8 then (if x8 < (x6.length : Int) then (if (rd x6 x8) = x3 then (cmp_Or_int.l0 k x3 x6 x7 (wrap64 (x8 + 1))) else (some (rd x6 x8))) else (none)) else (none)) else (some x3)
def cmp_Or_int.f (k : Nat) (l0 : List Int) : Option (Int):=cmp_Or_int.l0 k 0 l0 (l0.length : Int) 0
set_option maxHeartbeats 8000000 in
set_option maxRecDepth 100000 in
theorem cmp_Or_int.calls (k : Nat) (A0 : Option Addr) (c0 : Nat) (l0 : List Int) (r : Int) (w : World) (hr0 : Kd.C (Kd.int .i64) w A0 l0.length l0) (hc0 : l0.length ≤ c0) (h : cmp_Or_int.f k l0 = some r) :
  Calls Tryz.prog 83 #[.slice A0 l0.length c0] w fun e w' => e = .returned (.int .i64 r) ∧ Drawn0 w w':=by
 have HR0:=Aside0.mk hr0
 have HC0:=Aside0.mk hc0
 clear hr0 hc0
 have H : (cmp_Or_int.l0 k 0 l0 (l0.length : Int) 0) = some r:=h
 clear h
 have H':=Aside0.mk H
 clear H
 go_enter Tryz.func83,Tryz.ntmps83
 go_wp2
 go_loopg [8] k (fun kq v8 w' => ∃ (x8_1 : Int),v8 = .int .i64 x8_1 ∧ Aside0 (cmp_Or_int.l0 kq 0 l0 (l0.length : Int) x8_1 = some r) ∧ Aside0 (kq ≤ k) ∧ Drawn0 w w')
 case atStart => exact ⟨(0),q5_,H',⟨Nat.le_refl _⟩,by repeat (first | exact Drawn0.refl _ | apply Drawn0.step)⟩
 case round =>
  clear H'
  obtain ⟨x8_1,rfl,HA,HK1,⟨m1,rfl⟩⟩:=hrel
  cases gk with
  | zero => exact absurd HA.out (by simp [cmp_Or_int.l0])
  | succ k1 =>
   have H:=HA.out
   clear HA
   simp only [cmp_Or_int.l0] at H
   by_cases c2 : x8_1 < (l0.length : Int)
   ·rw [if_pos c2] at H
    have c2b0:=decide_eq_true c2
    clear c2
    by_cases c3 : 0 ≤ x8_1
    ·rw [if_pos c3] at H
     have c3b0:=decide_eq_true c3
     clear c3
     by_cases c4 : x8_1 < (l0.length : Int)
     ·rw [if_pos c4] at H
      have c4b0:=decide_eq_true c4
      clear c4
      by_cases c5 : (rd l0 x8_1) = 0
      ·rw [if_pos c5] at H
       have c5b0:=beq_iff_eq.mpr c5
       have c5b1:=bne_eq_false_iff_eq.mpr c5
       clear c5
       have H':=Aside0.mk H
       clear H
       have p101 : 0 ≤ (x8_1 : Int):=of_decide_eq_true q1_
       have q101 : x8_1 < (l0.length : Int):=of_decide_eq_true q1_
       obtain ⟨ad101,e101,hx101_0⟩:=Kd.at_int HR0.out x8_1 p101 q101
       cases e101
       replace p101:=eq_true p101
       replace q101:=eq_true q101
       go_wp2
       go_roundg k1
       case measure => have:=HK1.out;omega
       case rel => exact ⟨(wrap64 (x8_1 + 1)),q5_,H',⟨by have:=HK1.out;omega⟩,by repeat (first | exact Drawn0.refl _ | apply Drawn0.step)⟩
      ·rw [if_neg c5] at H
       have c5b0:=beq_eq_false_iff_ne.mpr c5
       have c5b1:=bne_iff_ne.mpr c5
       obtain rfl:=Option.some.inj H
       have p101 : 0 ≤ (x8_1 : Int):=of_decide_eq_true q1_
       have q101 : x8_1 < (l0.length : Int):=of_decide_eq_true q1_
       obtain ⟨ad101,e101,hx101_0⟩:=Kd.at_int HR0.out x8_1 p101 q101
       cases e101
       replace p101:=eq_true p101
       replace q101:=eq_true q101
       go_wp2
       go_ret
       exact ⟨q3_,q4_⟩
     ·rw [if_neg c4] at H
      exact absurd H q43_
    ·rw [if_neg c3] at H
     exact absurd H q43_
   ·rw [if_neg c2] at H
    have c2b0:=decide_eq_false c2
    clear c2
    obtain rfl:=Option.some.inj H
    go_wp2
    go_ret
    exact ⟨q3_,q4_⟩
def ver_byWord.j0 : Nat → ByteArray → ByteArray → Bool → Bool → Bool → Option (Int)
 | 0,_,_,_,_,_ => none
 | k + 1,x0,x1,x5,x6,x11 => if x11 = true then ((cmp_Compare_int.f (x0.size : Int) (x1.size : Int)).bind fun t103 => ((strings_Compare.f x0 x1).bind fun t104 => ((cmp_Or_int.f k (([t103,t104] : List Int))).bind fun t108 => (some t108)))) else (if x5 = true then (some (-1)) else (if x6 = true then (some 1) else ((strings_Compare.f x0 x1).bind fun t109 => (some t109))))
def ver_byWord.f (k : Nat) (a0 : ByteArray) (a1 : ByteArray) : Option (Int):=(ver_digits.f k a0).bind fun t101 => ((ver_digits.f k a1).bind fun t102 => (if t101 = true then (ver_byWord.j0 k a0 a1 t101 t102 t102) else (ver_byWord.j0 k a0 a1 t101 t102 false)))
set_option maxHeartbeats 8000000 in
set_option maxRecDepth 100000 in
theorem ver_byWord.calls (k : Nat) (a0 : ByteArray) (a1 : ByteArray) (r : Int) (w : World) (h : ver_byWord.f k a0 a1 = some r) :
  Calls Tryz.prog 121 #[.string a0,.string a1] w fun e w' => e = .returned (.int .i64 r) ∧ Below w.heap.size w w':=by
 have HB:=Aside0.mk (Below.refl w.heap.size w)
 have H : ((ver_digits.f k a0).bind fun t101 => ((ver_digits.f k a1).bind fun t102 => (if t101 = true then (ver_byWord.j0 k a0 a1 t101 t102 t102) else (ver_byWord.j0 k a0 a1 t101 t102 false)))) = some r:=h
 clear h
 obtain ⟨t101,A30,H⟩:=Option.bind_eq_some_iff.mp H
 have A3:=Aside0.mk A30
 clear A30
 obtain ⟨t102,A40,H⟩:=Option.bind_eq_some_iff.mp H
 have A4:=Aside0.mk A40
 clear A40
 have HC5:=Aside0.mk H
 clear H
 go_enter Tryz.func121,Tryz.ntmps121
 go_upto_region 2 with (first | ((with_reducible refine gate_callee (f:=146) rfl ?_);refine gl_ 8 Tryz.func146 #[.string a0] ?_;(with_reducible refine (ver_digits.calls k a0 t101 _ A3.out).mono ?_);rintro e w' ⟨rfl,⟨nd,rfl⟩⟩;refine ⟨_,rfl,?_⟩) | ((with_reducible refine gate_callee (f:=146) rfl ?_);refine gl_ 10 Tryz.func146 #[.string a1] ?_;(with_reducible refine (ver_digits.calls k a1 t102 _ A4.out).mono ?_);rintro e w' ⟨rfl,⟨nd,rfl⟩⟩;refine ⟨_,rfl,?_⟩))
 (try simp only [Act.put,List.setIfInBounds_toArray,List.set_cons_zero,List.set_cons_succ])
 go_cut [11] (fun v11 wc => ∃ (kq : Nat) (x11_4 : Bool),v11 = .bool x11_4 ∧ Aside0 (ver_byWord.j0 kq a0 a1 t101 t102 x11_4 = some r) ∧ Aside0 (kq ≤ k) ∧ Aside0 (Below w.heap.size w wc))
 case first =>
  have H:=HC5.out
  clear HC5
  by_cases c6 : t101 = true
  ·subst c6
   rw [if_pos rfl] at H
   have H':=Aside0.mk H
   clear H
   go_wp2
   go_meet
   case rel => exact ⟨_,(t102),q5_,H',⟨by first | omega | exact Nat.le_refl _⟩,⟨by repeat (first | (with_reducible first | exact HB.out | apply below_alloc | apply pw_below_drewN | apply below_drew1) | exact HB.out)⟩⟩
  ·replace c6:=Bool.eq_false_iff.mpr c6
   subst c6
   rw [if_neg (show ¬ (false = true) by decide)] at H
   have H':=Aside0.mk H
   clear H
   go_wp2
   go_meet
   case rel => exact ⟨_,(false),q5_,H',⟨by first | omega | exact Nat.le_refl _⟩,⟨by repeat (first | (with_reducible first | exact HB.out | apply below_alloc | apply pw_below_drewN | apply below_drew1) | exact HB.out)⟩⟩
 case rest =>
  clear HC5
  try clear c1
  try clear p2
  try clear c6
  obtain ⟨kq,x11_4,rfl,HA,HJ4,HB⟩:=hcut
  cases kq with
  | zero => exact absurd HA.out (by simp [ver_byWord.j0])
  | succ kj4 =>
   have H:=HA.out
   clear HA
   simp only [ver_byWord.j0] at H
   by_cases c7 : x11_4 = true
   ·subst c7
    rw [if_pos rfl] at H
    obtain ⟨t103,A80,H⟩:=Option.bind_eq_some_iff.mp H
    have A8:=Aside0.mk A80
    clear A80
    obtain ⟨t104,A90,H⟩:=Option.bind_eq_some_iff.mp H
    have A9:=Aside0.mk A90
    clear A90
    obtain ⟨y105,hy105⟩ : ∃ y_ : List Int,y_ = (([t103,t104] : List Int)):=⟨_,rfl⟩
    replace H : ((cmp_Or_int.f kj4 y105).bind fun t108 => (some t108)) = some r:=by first | (rw [hy105];with_reducible exact H) | (have H2_:=(Option.bind_some _ _).symm.trans H;rw [hy105];with_reducible exact H2_) | (have H2_:=(Option.bind_some _ _).symm.trans H;with_reducible exact H2_) | with_reducible exact H | (rw [hy105];exact H) | exact H
    have Ny105:=Aside0.mk hy105
    clear hy105
    obtain ⟨t108,A100,H⟩:=Option.bind_eq_some_iff.mp H
    have A10:=Aside0.mk A100
    clear A100
    obtain rfl:=Option.some.inj H
    go_wp2_with (first | ((with_reducible refine gate_callee (f:=84) rfl ?_);refine gl_ 20 Tryz.func84 #[.int .i64 (a0.size : Int),.int .i64 (a1.size : Int)] ?_;(with_reducible refine (cmp_Compare_int.calls (a0.size : Int) (a1.size : Int) t103 _ A8.out).mono ?_);rintro e w' ⟨rfl,⟨nd,rfl⟩⟩;refine ⟨_,rfl,?_⟩) | ((with_reducible refine gate_callee (f:=55) rfl ?_);refine gl_ 23 Tryz.func55 #[.string a0,.string a1] ?_;(with_reducible refine (strings_Compare.calls a0 a1 t104 _ A9.out).mono ?_);rintro e w' ⟨rfl,⟨nd,rfl⟩⟩;refine ⟨_,rfl,?_⟩) | ((with_reducible refine gate_dst (N:=24) rfl ?_);refine Kd.R_lit (Kd.int .i64) _ 3 ?hg (N:=24) ?hd (xs:=([t103,t104] : List Int)) (inner:=[.int .i64 t103,.int .i64 t104]) (ok:=fun _ => True) (okp:=fun _ => True) ?hr ?hp (fun _ hk => hk) trivial (Below.refl _ _) (Nat.le_refl _) q43_ ?_;(case hd => rfl);(case hg => rfl);(case hr => first | (go_simp;done) | (go_simp;rfl));(case hp => exact (Reps.one (show Kd.M (Kd.int .i64) _ _ _ t103 [.int .i64 t103] from rfl) (Reps.one (show Kd.M (Kd.int .i64) _ _ _ t104 [.int .i64 t104] from rfl) (Reps.none _ _))));intro v106 w11 ho12 hb hg_ hnew_;clear hg_ hnew_;(first | rw [← Ny105.out] at ho12 | (simp only [Int.reduceToNat] at ho12;rw [← Ny105.out] at ho12));have HO107:=Aside0.mk (Kd.R_lower ho12 (below_size bh_));replace HB:=Aside0.mk (below_step bh_ hb);clear hb ho12;obtain ⟨Ao13,co13,eo13⟩:=Kd.R_slice HO107.out;subst eo13) | ((with_reducible refine gate_callee (f:=83) rfl ?_);refine gl_ 25 Tryz.func83 #[.slice Ao13 y105.length co13] ?_;(with_reducible refine (cmp_Or_int.calls kj4 _ _ y105 t108 _ ?side1 ?side2 A10.out).mono ?_);(case side1 => repeat (first | exact (Kd.R_reads' HO107.out).2.2 | (with_reducible refine Kd.C_alloc ?_ _) | (with_reducible refine Kd.C_drewN ?_ _) | (with_reducible refine Kd.C_drew ?_)));(case side2 => exact (Kd.R_reads' HO107.out).2.1);rintro e w' ⟨rfl,⟨nd,rfl⟩⟩;refine ⟨_,rfl,?_⟩))
    go_ret
    exact ⟨q2_,bh_⟩
   ·replace c7:=Bool.eq_false_iff.mpr c7
    subst c7
    rw [if_neg (show ¬ (false = true) by decide)] at H
    by_cases c14 : t101 = true
    ·subst c14
     rw [if_pos rfl] at H
     obtain rfl:=Option.some.inj H
     go_wp2
     go_ret
     exact ⟨q2_,bh_⟩
    ·replace c14:=Bool.eq_false_iff.mpr c14
     subst c14
     rw [if_neg (show ¬ (false = true) by decide)] at H
     by_cases c15 : t102 = true
     ·subst c15
      rw [if_pos rfl] at H
      obtain rfl:=Option.some.inj H
      go_wp2
      go_ret
      exact ⟨q2_,bh_⟩
     ·replace c15:=Bool.eq_false_iff.mpr c15
      subst c15
      rw [if_neg (show ¬ (false = true) by decide)] at H
      obtain ⟨t109,A160,H⟩:=Option.bind_eq_some_iff.mp H
      have A16:=Aside0.mk A160
      clear A160
      obtain rfl:=Option.some.inj H
      go_wp2_with (first | ((with_reducible refine gate_callee (f:=55) rfl ?_);refine gl_ 32 Tryz.func55 #[.string a0,.string a1] ?_;(with_reducible refine (strings_Compare.calls a0 a1 t109 _ A16.out).mono ?_);rintro e w' ⟨rfl,⟨nd,rfl⟩⟩;refine ⟨_,rfl,?_⟩))
      go_ret
      exact ⟨q2_,bh_⟩
end Go.Proofs.YtennhpoemdaghaaGreatDoor.P
end
section
namespace Go.Proofs.YtennhpoemdaghaaGreatDoor.P
open Go Go.RowKit Go.Proofs.YtennhpoemdaghaaGreatDoorW.PrintWords
def wordCmp (x y : List UInt8) : Int :=
 if digitsB x && digitsB y then (if x.length < y.length then -1 else if y.length < x.length then 1 else Lib.compareBytes x y)
 else if digitsB x then -1 else if digitsB y then 1 else Lib.compareBytes x y
def wordsCmp : List (List UInt8) → List (List UInt8) → Int
 | [],[] => 0
 | [],_ :: _ => -1
 | _ :: _,[] => 1
 | x :: xs,y :: ys => if wordCmp x y = 0 then wordsCmp xs ys else wordCmp x y
def preCmp (a b : List UInt8) : Int :=
 if a = b then 0 else if a = [] then 1 else if b = [] then -1 else wordsCmp (splitL 46 a) (splitL 46 b)
theorem cmpInt_f (a b : Int) : cmp_Compare_int.f a b = some (if a < b then -1 else if a > b then 1 else 0):=by
 unfold cmp_Compare_int.f cmp_isNaN_int.f
 have h : ∀ x : Int,(x != x) = false:=fun x => by simp
 simp only [h,Option.bind_some,Bool.false_eq_true,if_false]
 split
 ·rfl
 ·split <;> rfl
theorem cmpOr_gen (l : List Int) (hl : l.length ≤ 4294967296) : ∀ d i : Nat,i ≤ l.length → l.length - i = d → ∀ k,d < k → cmp_Or_int.l0 k 0 l (l.length : Int) (i : Int) = some (((l.drop i).find? (· != 0)).getD 0):=by
 intro d
 induction d with
 | zero =>
  intro i hi hd k hk
  obtain ⟨k,rfl⟩ : ∃ m,k = m + 1:=⟨k - 1,by omega⟩
  rw [cmp_Or_int.l0,if_neg q8_,List.drop_eq_nil_of_le q8_]
  rfl
 | succ d ih =>
  intro i hi hd k hk
  obtain ⟨k,rfl⟩ : ∃ m,k = m + 1:=⟨k - 1,by omega⟩
  have h : i < l.length:=by omega
  have hr : rd l (i : Int) = l[i]:=by simp [rd,h]
  have hw : wrap64 ((i : Int) + 1) = ((i + 1 : Nat) : Int):=by unfold wrap64;omega
  rw [cmp_Or_int.l0,if_pos q8_,if_pos q8_,if_pos q8_,hr,hw,List.drop_eq_getElem_cons h,List.find?_cons]
  by_cases h0 : l[i] = 0
  ·rw [if_pos h0,ih (i + 1) q8_ q8_ k q8_]
   simp [h0]
  ·rw [if_neg h0]
   have h1 : (l[i] != 0) = true:=by simpa using h0
   rw [h1]
   rfl
theorem cmpOr_f (l : List Int) (hl : l.length ≤ 4294967296) (k : Nat) (hk : l.length < k) : cmp_Or_int.f k l = some ((l.find? (· != 0)).getD 0) :=
 cmpOr_gen l hl l.length 0 (Nat.zero_le _) rfl k hk
theorem cmpOr2_f (a b : Int) (k : Nat) (hk : 3 ≤ k) : cmp_Or_int.f k [a,b] = some (if a = 0 then b else a):=by
 rw [cmpOr_f [a,b] q43_ k (show 2 < k by omega)]
 by_cases h : a = 0
 ·by_cases h' : b = 0 <;> simp [h,h']
 ·simp [h]
theorem byWord_f (a b : ByteArray) (ha : a.size ≤ 140737488355328) (hb : b.size ≤ 140737488355328) (k : Nat) (h1 : a.size + 3 < k) (h2 : b.size + 3 < k) :
  ver_byWord.f k a b = some (wordCmp a.data.toList b.data.toList):=by
 obtain ⟨k,rfl⟩ : ∃ m,k = m + 1:=⟨k - 1,by omega⟩
 unfold ver_byWord.f wordCmp
 have hza : a.data.toList.length = a.size:=rfl
 have hzb : b.data.toList.length = b.size:=rfl
 rw [digits_f a ha _ q8_,digits_f b hb _ q8_,Option.bind_some,Option.bind_some,hza,hzb]
 cases hx : digitsB a.data.toList <;> cases hy : digitsB b.data.toList
 ·simp [ver_byWord.j0,strings_Compare.f]
 ·simp [ver_byWord.j0]
 ·simp [ver_byWord.j0]
 ·simp only [if_true,ver_byWord.j0,cmpInt_f,Option.bind_some,strings_Compare.f,cmpOr2_f _ _ k q8_,Bool.and_self]
  by_cases h : a.size < b.size
  ·simp [h]
  ·by_cases h' : b.size < a.size
   ·simp [h,h']
   ·simp [h,h']
theorem byWord_any (x y : ByteArray) (w : World) (hx : x.size ≤ 4294967281) (hy : y.size ≤ 4294967281) :
  Calls Tryz.prog 121 #[.string x,.string y] w fun e w' => e = .returned (.int .i64 (wordCmp x.data.toList y.data.toList)) ∧ Below w.heap.size w w' :=
 ver_byWord.calls _ _ _ _ w (byWord_f x y q8_ q8_ (x.size + y.size + 4) q8_ q8_)
theorem wordsCmp_at (xs ys : List ByteArray) (i : Nat) (h : i < xs.length) (h' : i < ys.length) : wordsCmp ((xs.drop i).map (·.data.toList)) ((ys.drop i).map (·.data.toList)) =
  if wordCmp (rdOf ByteArray.empty xs (i : Int)).data.toList (rdOf ByteArray.empty ys (i : Int)).data.toList = 0 then wordsCmp ((xs.drop (i + 1)).map (·.data.toList)) ((ys.drop (i + 1)).map (·.data.toList)) else wordCmp (rdOf ByteArray.empty xs (i : Int)).data.toList (rdOf ByteArray.empty ys (i : Int)).data.toList:=by
 have hr : ∀ (l : List ByteArray) (h : i < l.length),rdOf ByteArray.empty l (i : Int) = l[i]:=fun l h => by simp [rdOf,h]
 rw [hr xs h,hr ys h',List.drop_eq_getElem_cons h,List.drop_eq_getElem_cons h']
 rfl
set_option maxRecDepth 100000 in
set_option maxHeartbeats 4000000 in
theorem compareFunc_calls (A1 A2 : Option Addr) (c1 c2 : Nat) (xs ys : List ByteArray) (w : World) (hr1 : Kd.C Kd.string w A1 xs.length xs) (hr2 : Kd.C Kd.string w A2 ys.length ys) (hx1 : xs.length ≤ c1) (hx2 : ys.length ≤ c2)
  (hsx : ∀ x ∈ xs,x.size ≤ 4294967281) (hsy : ∀ y ∈ ys,y.size ≤ 4294967281) (hlx : xs.length ≤ 4294967290) (hly : ys.length ≤ 4294967290) :
  Calls Tryz.prog 120 #[.slice A1 xs.length c1,.slice A2 ys.length c2,.func (.func 121) #[] #[]] w fun e w' => e = .returned (.int .i64 (wordsCmp (xs.map (·.data.toList)) (ys.map (·.data.toList)))) ∧ Below w.heap.size w w':=by
 have HB:=Lib.hid (Below.refl w.heap.size w)
 go_enter Tryz.func120,Tryz.ntmps120
 go_wp2
 go_loopw [7,8,9,10,13] (fun _ _ _ _ v13 wr => ∃ i : Nat,i ≤ xs.length ∧ v13 = .int .i64 i ∧ i ≤ ys.length ∧ RowKit.Hid (wordsCmp (xs.map (·.data.toList)) (ys.map (·.data.toList)) = wordsCmp ((xs.drop i).map (·.data.toList)) ((ys.drop i).map (·.data.toList))) ∧ RowKit.Hid (Below w.heap.size w wr)) (fun _ _ _ _ v13 _ => xs.length - (intOf v13).toNat)
 case atStart => exact ⟨0,Nat.zero_le _,rfl,Nat.zero_le _,rfl,HB⟩
 case round =>
  obtain ⟨i,hi,rfl,hiy,HW,HB⟩:=hrel
  have hR1:=Kd.C_below hr1 HB.out
  have hR2:=Kd.C_below hr2 HB.out
  by_cases h : i < xs.length
  ·obtain ⟨a1,rfl,hq1⟩:=Kd.at_string hR1 (i : Int) q8_ q8_
   simp only [Int.toNat_natCast] at hq1
   have hg : ((i : Int) < (xs.length : Int)) = True:=eq_true q8_
   have hp : (0 ≤ (i : Int)) = True:=eq_true q8_
   by_cases h' : i < ys.length
   ·obtain ⟨a2,rfl,hq2⟩:=Kd.at_string hR2 (i : Int) q8_ q8_
    simp only [Int.toNat_natCast] at hq2
    have hg' : ((i : Int) < (ys.length : Int)) = True:=eq_true q8_
    have hge : ((ys.length : Int) ≤ (i : Int)) = False:=eq_false q8_
    have hzx : (rdOf ByteArray.empty xs (i : Int)).size ≤ 4294967281:=by
     have hr : rdOf ByteArray.empty xs (i : Int) = xs[i]:=by simp [rdOf,h]
     rw [hr];exact hsx _ (List.getElem_mem _)
    have hzy : (rdOf ByteArray.empty ys (i : Int)).size ≤ 4294967281:=by
     have hr : rdOf ByteArray.empty ys (i : Int) = ys[i]:=by simp [rdOf,h']
     rw [hr];exact hsy _ (List.getElem_mem _)
    have hat:=wordsCmp_at xs ys i h h'
    obtain ⟨c,hc⟩ : ∃ c,wordCmp (rdOf ByteArray.empty xs (i : Int)).data.toList (rdOf ByteArray.empty ys (i : Int)).data.toList = c:=⟨_,rfl⟩
    rw [hc] at hat
    by_cases h0 : c = 0
    ·subst h0
     rw [if_pos rfl] at hat
     go_wp2_with (go_at_call 121;refine (byWord_any _ _ _ hzx hzy).mono ?_;rintro e w' ⟨rfl,hb⟩;rw [hc])
     refine ⟨⟨i + 1,h,by simp,h',Lib.hid (HW.out.trans hat),Lib.hid (below_then HB.out HB.out.size hb)⟩,?_⟩
     simp only [intOf]
     omega
    ·have h00 : (c = 0) = False:=eq_false h0
     rw [if_neg h0] at hat
     go_wp2_with (go_at_call 121;refine (byWord_any _ _ _ hzx hzy).mono ?_;rintro e w' ⟨rfl,hb⟩;rw [hc])
     go_ret
     exact ⟨(by rw [HW.out,hat];rfl),below_then HB.out HB.out.size hb⟩
   ·have hge : ((ys.length : Int) ≤ (i : Int)) = True:=eq_true q8_
    go_wp2
    go_ret
    refine ⟨?_,HB.out⟩
    rw [HW.out,List.drop_eq_getElem_cons h,List.drop_eq_nil_of_le (show ys.length ≤ i by omega)]
    rfl
  ·have hg : ((i : Int) < (xs.length : Int)) = False:=eq_false q8_
   by_cases h' : xs.length < ys.length
   ·have hg' : ((xs.length : Int) < (ys.length : Int)) = True:=eq_true q8_
    go_wp2
    go_ret
    refine ⟨?_,HB.out⟩
    obtain rfl : i = xs.length:=by omega
    rw [HW.out,List.drop_eq_nil_of_le (Nat.le_refl xs.length),List.drop_eq_getElem_cons h']
    rfl
   ·have hg' : ((xs.length : Int) < (ys.length : Int)) = False:=eq_false q8_
    go_wp2
    go_ret
    refine ⟨?_,HB.out⟩
    obtain rfl : i = xs.length:=by omega
    rw [HW.out,List.drop_eq_nil_of_le (Nat.le_refl xs.length),List.drop_eq_nil_of_le (show ys.length ≤ xs.length by omega)]
    rfl
def ver_byPre.f (a0 : ByteArray) (a1 : ByteArray) : Option (Int):=if a0.size ≤ 4294967280 ∧ a1.size ≤ 4294967280 then some (preCmp a0.data.toList a1.data.toList) else none
set_option maxRecDepth 100000 in
set_option maxHeartbeats 4000000 in
theorem ver_byPre.calls (a0 : ByteArray) (a1 : ByteArray) (r : Int) (w : World) (h : ver_byPre.f a0 a1 = some r) (hG : Env w) :
  Calls Tryz.prog 85 #[.string a0,.string a1] w fun e w' => e = .returned (.int .i64 r) ∧ Below w.heap.size w w':=by
 unfold ver_byPre.f at h
 split at h
 case isFalse => exact absurd h q43_
 case isTrue hz =>
 obtain ⟨hz0,hz1⟩:=hz
 obtain rfl:=Option.some.inj h
 have HB:=Lib.hid (Below.refl w.heap.size w)
 have te : ∀ s : ByteArray,s.toList.isEmpty = (s.data.toList == []):=fun s => by rw [toList_eq];cases s.data.toList <;> rfl
 cases c1 : (a0.toList == a1.toList)
 ·have n1 : ¬ a0.data.toList = a1.data.toList:=by rw [toList_eq,toList_eq] at c1;simpa using c1
  cases c2 : a0.toList.isEmpty
  ·have n2 : ¬ a0.data.toList = []:=by rw [te] at c2;simpa using c2
   cases c3 : a1.toList.isEmpty
   ·have n3 : ¬ a1.data.toList = []:=by rw [te] at c3;simpa using c3
    have e0 : strings_Split.f a0 ⟨#[46]⟩ = some (splitS 46 a0):=by unfold strings_Split.f;rw [if_pos ⟨rfl,by omega⟩];rfl
    have e1 : strings_Split.f a1 ⟨#[46]⟩ = some (splitS 46 a1):=by unfold strings_Split.f;rw [if_pos ⟨rfl,by omega⟩];rfl
    have hl : ∀ s : ByteArray,(splitS 46 s).map (·.data.toList) = splitL 46 s.data.toList:=fun s => by unfold splitS;rw [List.map_map];exact (List.map_congr_left (fun x _ => rfl)).trans (List.map_id _)
    have hn : ∀ s : ByteArray,(splitS 46 s).length ≤ s.size + 1:=fun s => by unfold splitS;rw [List.length_map];exact splitL_length _ _
    unfold preCmp
    rw [if_neg n1,if_neg n2,if_neg n3]
    clear te
    go_enter Tryz.func85,Tryz.ntmps85
    go_wp2_with (first | (go_at_call 100;refine (strings_Split.calls a0 _ _ _ e0 hG).mono ?_;rintro e w1 ⟨v1,rfl,hv1,hb1⟩) | (go_at_call 100;refine (strings_Split.calls a1 _ _ _ e1 (hG.below hb1)).mono ?_;rintro e w2 ⟨v2,rfl,hv2,hb2⟩;obtain ⟨A1,c1,rfl,hc1,hr1⟩:=Kd.R_reads hv1;obtain ⟨A2,c2,rfl,hc2,hr2⟩:=Kd.R_reads hv2;replace hr1:=Kd.C_below hr1 hb2) | (go_at_call 120;refine (compareFunc_calls A1 A2 c1 c2 _ _ _ hr1 hr2 hc1 hc2 (fun x hx => Nat.le_trans (splitS_size 46 a0 x hx) (Nat.le_succ_of_le hz0)) (fun x hx => Nat.le_trans (splitS_size 46 a1 x hx) (Nat.le_succ_of_le hz1)) (Nat.le_trans (hn a0) q8_) (Nat.le_trans (hn a1) q8_)).mono ?_;rintro e w3 ⟨rfl,hb3⟩;rw [hl,hl]))
    go_ret
    exact ⟨rfl,below_then (below_then hb1 hb1.size hb2) (Nat.le_trans hb1.size hb2.size) hb3⟩
   ·have n3 : a1.data.toList = []:=by rw [te] at c3;simpa using c3
    unfold preCmp
    rw [if_neg n1,if_neg n2,if_pos n3]
    clear te
    go_enter Tryz.func85,Tryz.ntmps85
    go_wp2
    go_ret
    exact ⟨rfl,HB.out⟩
  ·have n2 : a0.data.toList = []:=by rw [te] at c2;simpa using c2
   unfold preCmp
   rw [if_neg n1,if_pos n2]
   clear te
   go_enter Tryz.func85,Tryz.ntmps85
   go_wp2
   go_ret
   exact ⟨rfl,HB.out⟩
 ·have n1 : a0.data.toList = a1.data.toList:=by rw [toList_eq,toList_eq] at c1;simpa using c1
  unfold preCmp
  rw [if_pos n1]
  clear te
  go_enter Tryz.func85,Tryz.ntmps85
  go_wp2
  go_ret
  exact ⟨rfl,HB.out⟩
end Go.Proofs.YtennhpoemdaghaaGreatDoor.P
end
section
namespace Go.Proofs.YtennhpoemdaghaaGreatDoor.P
open Go.RowKit Go.Proofs.YtennhpoemdaghaaGreatDoorW.PrintWords Go.Proofs.YtennhpoemdaghaaGreatDoorW.PrintLast Go.Proofs.YtennhpoemdaghaaGreatDoorW.PrintMore
def ver_Compare.j0 : Nat → Bool → Int → Int → Int → ByteArray → ByteArray → Int → Int → Int → ByteArray → ByteArray → Option (Int)
 | 0,_,_,_,_,_,_,_,_,_,_,_ => none
 | k + 1,x12,x102000,x102001,x102002,x102003,x102004,x103000,x103001,x103002,x103003,x103004 => if x12 = true then (some 0) else ((cmp_Compare_int.f x102000 x103000).bind fun t105 => ((cmp_Compare_int.f x102001 x103001).bind fun t106 => ((cmp_Compare_int.f x102002 x103002).bind fun t107 => ((ver_byPre.f x102003 x103003).bind fun t108 => ((cmp_Or_int.f k (([t105,t106,t107,t108] : List Int))).bind fun t112 => (some t112))))))
def ver_Compare.f (k : Nat) (a0_0 : Int) (a0_1 : Int) (a0_2 : Int) (a0_3 : ByteArray) (a0_4 : ByteArray) (a1_0 : Int) (a1_1 : Int) (a1_2 : Int) (a1_3 : ByteArray) (a1_4 : ByteArray) : Option (Int):=(ver_Check.f a0_0 a0_1 a0_2 a0_3 a0_4).bind fun t103 => (if t103 = true then ((ver_Check.f a1_0 a1_1 a1_2 a1_3 a1_4).bind fun t104 => (ver_Compare.j0 k (!t104) a0_0 a0_1 a0_2 a0_3 a0_4 a1_0 a1_1 a1_2 a1_3 a1_4)) else (ver_Compare.j0 k true a0_0 a0_1 a0_2 a0_3 a0_4 a1_0 a1_1 a1_2 a1_3 a1_4))
def ver_Compare.T3 : Bool × List (List Nat × List Nat):=(true,[([],[]),([0],[0]),([],[]),([2],[2]),([1,3],[1,3]),([],[]),([5],[5]),([],[]),([7],[7]),([6,8,4],[6,8]),([],[]),([10],[10]),([],[]),([12],[12]),([11,13,9],[11,13]),([],[]),([15],[15]),([],[]),([17],[17]),([16,18,14],[16,18]),([4,9,14,19],[4,9,14,19]),([20,19],[20]),([21,21,0,1,2,3,4,5,6,7,8,9,10,11,12,13,14,15,16,17,18,19,20,21],[21])])
def ver_Compare.B3 : List Nat:=[0,1,0,4,15,0,32,0,128,511,0,1024,0,4096,16383,0,32768,0,131072,524287,1048575,2097151,4194303]
theorem ver_Compare.tab3 : rtab .any (opsOf Tryz.f44 3) = ver_Compare.T3:=by kernel_rfl
theorem ver_Compare.bits3 : waitsOk ver_Compare.T3.2 ver_Compare.B3 = true:=by kernel_rfl
set_option maxHeartbeats 8000000 in
set_option maxRecDepth 100000 in
theorem ver_Compare.calls (k : Nat) (a0_0 : Int) (a0_1 : Int) (a0_2 : Int) (a0_3 : ByteArray) (a0_4 : ByteArray) (a1_0 : Int) (a1_1 : Int) (a1_2 : Int) (a1_3 : ByteArray) (a1_4 : ByteArray) (r : Int) (w : World) (h : ver_Compare.f k a0_0 a0_1 a0_2 a0_3 a0_4 a1_0 a1_1 a1_2 a1_3 a1_4 = some r) (hG : Env w) :
  Calls Tryz.prog 44 #[.agg #[.int .i64 a0_0,.int .i64 a0_1,.int .i64 a0_2,.string a0_3,.string a0_4],.agg #[.int .i64 a1_0,.int .i64 a1_1,.int .i64 a1_2,.string a1_3,.string a1_4]] w fun e w' => e = .returned (.int .i64 r) ∧ Below w.heap.size w w':=by
 have HG:=Aside0.mk hG
 clear hG
 have hu24:=Tryz.underlying24
 have HB:=Aside0.mk (Below.refl w.heap.size w)
 have H : ((ver_Check.f a0_0 a0_1 a0_2 a0_3 a0_4).bind fun t103 => (if t103 = true then ((ver_Check.f a1_0 a1_1 a1_2 a1_3 a1_4).bind fun t104 => (ver_Compare.j0 k (!t104) a0_0 a0_1 a0_2 a0_3 a0_4 a1_0 a1_1 a1_2 a1_3 a1_4)) else (ver_Compare.j0 k true a0_0 a0_1 a0_2 a0_3 a0_4 a1_0 a1_1 a1_2 a1_3 a1_4))) = some r:=h
 clear h
 have HC3:=Aside0.mk H
 clear H
 go_enter Tryz.func44,Tryz.ntmps44
 go_upto_region 1 with (first | ((with_reducible refine gate_dst (N:=2) rfl ?_);refine bx_ 2 24 #[.int .i64 a0_0,.int .i64 a0_1,.int .i64 a0_2,.string a0_3,.string a0_4] ?_;intro gb101 hg w4 hbox hb;have BK101:=Aside0.mk (hbox);have GW101:=Aside0.mk ((q20_ : w.heap.size ≤ gb101));have GE101:=Aside0.mk ((q20_ : w.heap.size ≤ gb101));replace HB:=Aside0.mk (below_step bh_ hb);clear hb hbox hg) | ((with_reducible refine gate_dst (N:=3) rfl ?_);refine bx_ 3 24 #[.int .i64 a1_0,.int .i64 a1_1,.int .i64 a1_2,.string a1_3,.string a1_4] ?_;intro gb102 hg w5 hbox hb;have BK102:=Aside0.mk (hbox);have GW102:=Aside0.mk ((q20_ : w.heap.size ≤ gb102));have GE102:=Aside0.mk ((q20_ : w.heap.size ≤ gb102));replace HB:=Aside0.mk (below_step bh_ hb);have NB101_102:=Aside0.mk ((q46_ : gb101 ≠ gb102));have NB102_101:=Aside0.mk ((q47_ : gb102 ≠ gb101));replace BK101:=Aside0.mk (blk_below bk101_ hb);clear hb hbox hg))
 (try simp only [Act.put,List.setIfInBounds_toArray,List.set_cons_zero,List.set_cons_succ])
 go_cut [12] (fun v12 wc => ∃ (kq : Nat) (x12_2 : Bool),v12 = .bool x12_2 ∧ Aside0 (ver_Compare.j0 kq x12_2 a0_0 a0_1 a0_2 a0_3 a0_4 a1_0 a1_1 a1_2 a1_3 a1_4 = some r) ∧ Aside0 (kq ≤ k) ∧ Aside0 (wc.heap[gb101]? = some (.cells #[.int .i64 a0_0,.int .i64 a0_1,.int .i64 a0_2,.string a0_3,.string a0_4] 24 (0,0))) ∧ Aside0 (wc.heap[gb102]? = some (.cells #[.int .i64 a1_0,.int .i64 a1_1,.int .i64 a1_2,.string a1_3,.string a1_4] 24 (0,0))) ∧ Aside0 (Below w.heap.size w wc))
 case first =>
  have H:=HC3.out
  clear HC3
  obtain ⟨t103,A60,H⟩:=Option.bind_eq_some_iff.mp H
  have A6:=Aside0.mk A60
  clear A60
  by_cases c7 : t103 = true
  ·subst c7
   rw [if_pos rfl] at H
   obtain ⟨t104,A80,H⟩:=Option.bind_eq_some_iff.mp H
   have A8:=Aside0.mk A80
   clear A80
   have H':=Aside0.mk H
   clear H
   have hnb9:=NB101_102.out
   have hnc9:=NB102_101.out
   have hcz10_0 : w5.cell? ⟨gb101,0,none⟩ = some (.int .i64 a0_0):=(blk_cell BK101.out 0).trans rfl
   have hcz10_1 : w5.cell? ⟨gb101,1,none⟩ = some (.int .i64 a0_1):=(blk_cell BK101.out 1).trans rfl
   have hcz10_2 : w5.cell? ⟨gb101,2,none⟩ = some (.int .i64 a0_2):=(blk_cell BK101.out 2).trans rfl
   have hcz10_3 : w5.cell? ⟨gb101,3,none⟩ = some (.string a0_3):=(blk_cell BK101.out 3).trans rfl
   have hcz10_4 : w5.cell? ⟨gb101,4,none⟩ = some (.string a0_4):=(blk_cell BK101.out 4).trans rfl
   have hfz10_0:=blk_frozen BK101.out 0
   have hfz10_1:=blk_frozen BK101.out 1
   have hfz10_2:=blk_frozen BK101.out 2
   have hfz10_3:=blk_frozen BK101.out 3
   have hfz10_4:=blk_frozen BK101.out 4
   go_wp2_with (first | ((with_reducible refine gate_callee (f:=74) rfl ?_);refine gl_ 6 Tryz.func74 #[.agg #[.int .i64 a0_0,.int .i64 a0_1,.int .i64 a0_2,.string a0_3,.string a0_4]] ?_;(with_reducible refine (ver_Check.calls a0_0 a0_1 a0_2 a0_3 a0_4 true _ A6.out).mono ?_);rintro e w11 ⟨rfl,hb⟩;refine ⟨_,rfl,?_⟩;replace BK101:=Aside0.mk (blk_below bk101_ hb);replace BK102:=Aside0.mk (blk_below bk102_ hb);replace HB:=Aside0.mk (below_step bh_ hb);(try clear hb);have hcz12_0 : w11.cell? ⟨gb102,0,none⟩ = some (.int .i64 a1_0):=(blk_cell BK102.out 0).trans rfl;have hcz12_1 : w11.cell? ⟨gb102,1,none⟩ = some (.int .i64 a1_1):=(blk_cell BK102.out 1).trans rfl;have hcz12_2 : w11.cell? ⟨gb102,2,none⟩ = some (.int .i64 a1_2):=(blk_cell BK102.out 2).trans rfl;have hcz12_3 : w11.cell? ⟨gb102,3,none⟩ = some (.string a1_3):=(blk_cell BK102.out 3).trans rfl;have hcz12_4 : w11.cell? ⟨gb102,4,none⟩ = some (.string a1_4):=(blk_cell BK102.out 4).trans rfl;have hfz12_0:=blk_frozen BK102.out 0;have hfz12_1:=blk_frozen BK102.out 1;have hfz12_2:=blk_frozen BK102.out 2;have hfz12_3:=blk_frozen BK102.out 3;have hfz12_4:=blk_frozen BK102.out 4) | (go_at_call 74;(with_reducible refine (ver_Check.calls a1_0 a1_1 a1_2 a1_3 a1_4 t104 _ A8.out).mono ?_);rintro e w13 ⟨rfl,hb⟩;replace BK101:=Aside0.mk (blk_below bk101_ hb);replace BK102:=Aside0.mk (blk_below bk102_ hb);replace HB:=Aside0.mk (below_step bh_ hb);(try clear hb)))
   go_meet
   case rel => exact ⟨_,(!t104),q5_,H',⟨by first | omega | exact Nat.le_refl _⟩,⟨by (with_reducible repeat (first | refine blk_drewN ?_ _ | refine blk_drew ?_ | refine blk_alloc ?_ _));exact BK101.out⟩,⟨by (with_reducible repeat (first | refine blk_drewN ?_ _ | refine blk_drew ?_ | refine blk_alloc ?_ _));exact BK102.out⟩,⟨by repeat (first | (with_reducible first | exact HB.out | apply below_alloc | apply pw_below_drewN | apply below_drew1 | refine below_set ?_ GE101.out | refine below_set ?_ GE102.out) | exact HB.out)⟩⟩
  ·replace c7:=Bool.eq_false_iff.mpr c7
   subst c7
   rw [if_neg (show ¬ (false = true) by decide)] at H
   have H':=Aside0.mk H
   clear H
   have hnb14:=NB101_102.out
   have hnc14:=NB102_101.out
   have hcz15_0 : w5.cell? ⟨gb101,0,none⟩ = some (.int .i64 a0_0):=(blk_cell BK101.out 0).trans rfl
   have hcz15_1 : w5.cell? ⟨gb101,1,none⟩ = some (.int .i64 a0_1):=(blk_cell BK101.out 1).trans rfl
   have hcz15_2 : w5.cell? ⟨gb101,2,none⟩ = some (.int .i64 a0_2):=(blk_cell BK101.out 2).trans rfl
   have hcz15_3 : w5.cell? ⟨gb101,3,none⟩ = some (.string a0_3):=(blk_cell BK101.out 3).trans rfl
   have hcz15_4 : w5.cell? ⟨gb101,4,none⟩ = some (.string a0_4):=(blk_cell BK101.out 4).trans rfl
   have hfz15_0:=blk_frozen BK101.out 0
   have hfz15_1:=blk_frozen BK101.out 1
   have hfz15_2:=blk_frozen BK101.out 2
   have hfz15_3:=blk_frozen BK101.out 3
   have hfz15_4:=blk_frozen BK101.out 4
   go_wp2_with (first | ((with_reducible refine gate_callee (f:=74) rfl ?_);refine gl_ 6 Tryz.func74 #[.agg #[.int .i64 a0_0,.int .i64 a0_1,.int .i64 a0_2,.string a0_3,.string a0_4]] ?_;(with_reducible refine (ver_Check.calls a0_0 a0_1 a0_2 a0_3 a0_4 false _ A6.out).mono ?_);rintro e w16 ⟨rfl,hb⟩;refine ⟨_,rfl,?_⟩;replace BK101:=Aside0.mk (blk_below bk101_ hb);replace BK102:=Aside0.mk (blk_below bk102_ hb);replace HB:=Aside0.mk (below_step bh_ hb);(try clear hb)))
   go_meet
   case rel => exact ⟨_,(true),q5_,H',⟨by first | omega | exact Nat.le_refl _⟩,⟨by (with_reducible repeat (first | refine blk_drewN ?_ _ | refine blk_drew ?_ | refine blk_alloc ?_ _));exact BK101.out⟩,⟨by (with_reducible repeat (first | refine blk_drewN ?_ _ | refine blk_drew ?_ | refine blk_alloc ?_ _));exact BK102.out⟩,⟨by repeat (first | (with_reducible first | exact HB.out | apply below_alloc | apply pw_below_drewN | apply below_drew1 | refine below_set ?_ GE101.out | refine below_set ?_ GE102.out) | exact HB.out)⟩⟩
 case rest =>
  clear HC3
  try clear c1
  try clear p2
  try clear c4
  try clear c7
  try clear c9
  try clear c14
  try clear hcz10_0
  try clear hcz10_1
  try clear hcz10_2
  try clear hcz10_3
  try clear hcz10_4
  try clear hcz12_0
  try clear hcz12_1
  try clear hcz12_2
  try clear hcz12_3
  try clear hcz12_4
  try clear hcz15_0
  try clear hcz15_1
  try clear hcz15_2
  try clear hcz15_3
  try clear hcz15_4
  try clear hfz10_0
  try clear hfz10_1
  try clear hfz10_2
  try clear hfz10_3
  try clear hfz10_4
  try clear hfz12_0
  try clear hfz12_1
  try clear hfz12_2
  try clear hfz12_3
  try clear hfz12_4
  try clear hfz15_0
  try clear hfz15_1
  try clear hfz15_2
  try clear hfz15_3
  try clear hfz15_4
  obtain ⟨kq,x12_2,rfl,HA,HJ2,BK101,BK102,HB⟩:=hcut
  cases kq with
  | zero => exact absurd HA.out (by simp [ver_Compare.j0])
  | succ kj2 =>
   have H:=HA.out
   clear HA
   simp only [ver_Compare.j0] at H
   by_cases c17 : x12_2 = true
   ·subst c17
    rw [if_pos rfl] at H
    obtain rfl:=Option.some.inj H
    go_wp2
    go_ret
    exact ⟨q2_,bh_⟩
   ·replace c17:=Bool.eq_false_iff.mpr c17
    subst c17
    rw [if_neg (show ¬ (false = true) by decide)] at H
    obtain ⟨t105,A180,H⟩:=Option.bind_eq_some_iff.mp H
    have A18:=Aside0.mk A180
    clear A180
    obtain ⟨t106,A190,H⟩:=Option.bind_eq_some_iff.mp H
    have A19:=Aside0.mk A190
    clear A190
    obtain ⟨t107,A200,H⟩:=Option.bind_eq_some_iff.mp H
    have A20:=Aside0.mk A200
    clear A200
    obtain ⟨t108,A210,H⟩:=Option.bind_eq_some_iff.mp H
    have A21:=Aside0.mk A210
    clear A210
    obtain ⟨y109,hy109⟩ : ∃ y_ : List Int,y_ = (([t105,t106,t107,t108] : List Int)):=⟨_,rfl⟩
    replace H : ((cmp_Or_int.f kj2 y109).bind fun t112 => (some t112)) = some r:=by first | (rw [hy109];with_reducible exact H) | (have H2_:=(Option.bind_some _ _).symm.trans H;rw [hy109];with_reducible exact H2_) | (have H2_:=(Option.bind_some _ _).symm.trans H;with_reducible exact H2_) | with_reducible exact H | (rw [hy109];exact H) | exact H
    have Ny109:=Aside0.mk hy109
    clear hy109
    obtain ⟨t112,A220,H⟩:=Option.bind_eq_some_iff.mp H
    have A22:=Aside0.mk A220
    clear A220
    obtain rfl:=Option.some.inj H
    try go_wp2
    replace BK101:=Aside0.mk (blk_drew BK101.out)
    replace BK102:=Aside0.mk (blk_drew BK102.out)
    replace HB:=Aside0.mk (below_drew1 HB.out)
    refine start_ (n:=23) (S:=fun w' => w'.cell? ⟨gb101,0,none⟩ = some (.int .i64 a0_0) ∧ w'.cell? ⟨gb101,1,none⟩ = some (.int .i64 a0_1) ∧ w'.cell? ⟨gb101,2,none⟩ = some (.int .i64 a0_2) ∧ w'.cell? ⟨gb101,3,none⟩ = some (.string a0_3) ∧ w'.cell? ⟨gb101,4,none⟩ = some (.string a0_4) ∧ w'.cell? ⟨gb102,0,none⟩ = some (.int .i64 a1_0) ∧ w'.cell? ⟨gb102,1,none⟩ = some (.int .i64 a1_1) ∧ w'.cell? ⟨gb102,2,none⟩ = some (.int .i64 a1_2) ∧ w'.cell? ⟨gb102,3,none⟩ = some (.string a1_3) ∧ w'.cell? ⟨gb102,4,none⟩ = some (.string a1_4)) (ds:=[]) #[false,false,false,false,false,false,false,false,false,false,false,false,false,false,false,false,false,false,false,false,false,false,false] q11_ rfl rfl ⟨(blk_cell BK101.out 0).trans rfl,(blk_cell BK101.out 1).trans rfl,(blk_cell BK101.out 2).trans rfl,(blk_cell BK101.out 3).trans rfl,(blk_cell BK101.out 4).trans rfl,(blk_cell BK102.out 0).trans rfl,(blk_cell BK102.out 1).trans rfl,(blk_cell BK102.out 2).trans rfl,(blk_cell BK102.out 3).trans rfl,(blk_cell BK102.out 4).trans rfl⟩ (fun hHeld => ?_);refine with_tabW ver_Compare.tab3 ver_Compare.bits3 (fun HT_ HW_ => ?_)
    generalize wc.drew = w23 at BK101 BK102 HB hHeld ⊢
    refine pu_ 0 13 ?_
    refine pu_ 2 15 ?_
    refine pu_ 5 18 ?_
    refine pu_ 7 20 ?_
    refine pu_ 10 23 ?_
    refine pu_ 12 25 ?_
    refine pu_ 15 28 ?_
    refine pu_ 17 30 ?_
    refine tk_ 1 14 hHeld ?_
    refine tk_ 3 16 hHeld ?_
    refine tk_ 6 19 hHeld ?_
    refine tk_ 8 21 hHeld ?_
    refine tk_ 11 24 hHeld ?_
    refine tk_ 13 26 hHeld ?_
    refine tk_ 16 29 hHeld ?_
    refine tk_ 18 31 hHeld ?_
    refine one_ (i:=4) (N:=some 17) #[true,true,true,true,true,true,true,true,true,false,true,true,true,true,false,true,true,true,true,false,false,false,false] rfl rfl (one_of HT_.out q11_) q37_ (fun K hK => ?_)
    refine goes_ Tryz.func84 q11_ rfl #[.int .i64 a0_0,.int .i64 a1_0] q45_ rfl rfl q21_ ?_
    with_reducible refine (cmp_Compare_int.calls a0_0 a1_0 t105 _ A18.out).mono ?_
    rintro e w' ⟨rfl,⟨nd,rfl⟩⟩
    refine ⟨_,rfl,?_⟩
    refine hK.out _ _ ⟨(blk_cell BK101.out 0).trans rfl,(blk_cell BK101.out 1).trans rfl,(blk_cell BK101.out 2).trans rfl,(blk_cell BK101.out 3).trans rfl,(blk_cell BK101.out 4).trans rfl,(blk_cell BK102.out 0).trans rfl,(blk_cell BK102.out 1).trans rfl,(blk_cell BK102.out 2).trans rfl,(blk_cell BK102.out 3).trans rfl,(blk_cell BK102.out 4).trans rfl⟩ (fun hHeld => ?_)
    clear hK K
    refine norm_ (a':=?_) ?_ ?_
    rotate_left
    ·show Act.put _ (some 17) _ = _
     simp only [Act.put,List.setIfInBounds_toArray,List.set_cons_zero,List.set_cons_succ]
     rfl
    refine one_ (i:=9) (N:=some 22) #[true,true,true,true,true,true,true,true,true,true,true,true,true,true,false,true,true,true,true,false,false,false,false] rfl rfl (one_of HT_.out q11_) q37_ (fun K hK => ?_)
    refine goes_ Tryz.func84 q11_ rfl #[.int .i64 a0_1,.int .i64 a1_1] q45_ rfl rfl q21_ ?_
    with_reducible refine (cmp_Compare_int.calls a0_1 a1_1 t106 _ A19.out).mono ?_
    rintro e w' ⟨rfl,⟨nd,rfl⟩⟩
    refine ⟨_,rfl,?_⟩
    refine hK.out _ _ ⟨(blk_cell BK101.out 0).trans rfl,(blk_cell BK101.out 1).trans rfl,(blk_cell BK101.out 2).trans rfl,(blk_cell BK101.out 3).trans rfl,(blk_cell BK101.out 4).trans rfl,(blk_cell BK102.out 0).trans rfl,(blk_cell BK102.out 1).trans rfl,(blk_cell BK102.out 2).trans rfl,(blk_cell BK102.out 3).trans rfl,(blk_cell BK102.out 4).trans rfl⟩ (fun hHeld => ?_)
    clear hK K
    refine norm_ (a':=?_) ?_ ?_
    rotate_left
    ·show Act.put _ (some 22) _ = _
     simp only [Act.put,List.setIfInBounds_toArray,List.set_cons_zero,List.set_cons_succ]
     rfl
    refine one_ (i:=14) (N:=some 27) #[true,true,true,true,true,true,true,true,true,true,true,true,true,true,true,true,true,true,true,false,false,false,false] rfl rfl (one_of HT_.out q11_) q37_ (fun K hK => ?_)
    refine goes_ Tryz.func84 q11_ rfl #[.int .i64 a0_2,.int .i64 a1_2] q45_ rfl rfl q21_ ?_
    with_reducible refine (cmp_Compare_int.calls a0_2 a1_2 t107 _ A20.out).mono ?_
    rintro e w' ⟨rfl,⟨nd,rfl⟩⟩
    refine ⟨_,rfl,?_⟩
    refine hK.out _ _ ⟨(blk_cell BK101.out 0).trans rfl,(blk_cell BK101.out 1).trans rfl,(blk_cell BK101.out 2).trans rfl,(blk_cell BK101.out 3).trans rfl,(blk_cell BK101.out 4).trans rfl,(blk_cell BK102.out 0).trans rfl,(blk_cell BK102.out 1).trans rfl,(blk_cell BK102.out 2).trans rfl,(blk_cell BK102.out 3).trans rfl,(blk_cell BK102.out 4).trans rfl⟩ (fun hHeld => ?_)
    clear hK K
    refine norm_ (a':=?_) ?_ ?_
    rotate_left
    ·show Act.put _ (some 27) _ = _
     simp only [Act.put,List.setIfInBounds_toArray,List.set_cons_zero,List.set_cons_succ]
     rfl
    refine one_ (i:=19) (N:=some 32) #[true,true,true,true,true,true,true,true,true,true,true,true,true,true,true,true,true,true,true,true,false,false,false] rfl rfl (one_of HT_.out q11_) q37_ (fun K hK => ?_)
    refine goes_ Tryz.func85 q11_ rfl #[.string a0_3,.string a1_3] q45_ rfl rfl q21_ ?_
    with_reducible refine (ver_byPre.calls a0_3 a1_3 t108 _ A21.out ?sideG).mono ?_
    (case sideG => first | exact HG.out | exact Env.below HG.out bh_)
    rintro e w24 ⟨rfl,hb⟩
    refine ⟨_,rfl,?_⟩
    replace BK101:=Aside0.mk (blk_below bk101_ hb)
    replace BK102:=Aside0.mk (blk_below bk102_ hb)
    replace HB:=Aside0.mk (below_step bh_ hb)
    (try clear hb)
    refine hK.out _ _ ⟨(blk_cell BK101.out 0).trans rfl,(blk_cell BK101.out 1).trans rfl,(blk_cell BK101.out 2).trans rfl,(blk_cell BK101.out 3).trans rfl,(blk_cell BK101.out 4).trans rfl,(blk_cell BK102.out 0).trans rfl,(blk_cell BK102.out 1).trans rfl,(blk_cell BK102.out 2).trans rfl,(blk_cell BK102.out 3).trans rfl,(blk_cell BK102.out 4).trans rfl⟩ (fun hHeld => ?_)
    clear hK K
    refine norm_ (a':=?_) ?_ ?_
    rotate_left
    ·show Act.put _ (some 32) _ = _
     simp only [Act.put,List.setIfInBounds_toArray,List.set_cons_zero,List.set_cons_succ]
     rfl
    refine one_ (i:=20) (N:=some 33) #[true,true,true,true,true,true,true,true,true,true,true,true,true,true,true,true,true,true,true,true,true,false,false] rfl rfl (one_of HT_.out q11_) q37_ (fun K hK => ?_)
    refine Kd.R_lit_step (Kd.int .i64) _ 3 ?hg (N:=33) ?hd (xs:=([t105,t106,t107,t108] : List Int)) (inner:=[.int .i64 t105,.int .i64 t106,.int .i64 t107,.int .i64 t108]) (ok:=fun _ => True) (okp:=fun _ => True) ?hr ?hp (fun _ hk => hk) trivial (Below.refl _ _) (Nat.le_refl _) q43_ ?_;(case hd => rfl);(case hg => rfl);(case hr => first | (go_simp;done) | (go_simp;rfl));(case hp => exact (Reps.one (show Kd.M (Kd.int .i64) _ _ _ t105 [.int .i64 t105] from rfl) (Reps.one (show Kd.M (Kd.int .i64) _ _ _ t106 [.int .i64 t106] from rfl) (Reps.one (show Kd.M (Kd.int .i64) _ _ _ t107 [.int .i64 t107] from rfl) (Reps.one (show Kd.M (Kd.int .i64) _ _ _ t108 [.int .i64 t108] from rfl) (Reps.none _ _))))))
    intro v110 w25 ho26 hb hg_ hnew_
    clear hg_ hnew_
    (first | rw [← Ny109.out] at ho26 | (simp only [Int.reduceToNat] at ho26;rw [← Ny109.out] at ho26))
    have HO111:=Aside0.mk (Kd.R_lower ho26 (below_size bh_))
    replace BK101:=Aside0.mk (blk_below bk101_ hb)
    replace BK102:=Aside0.mk (blk_below bk102_ hb)
    replace HB:=Aside0.mk (below_step bh_ hb)
    clear hb ho26
    obtain ⟨Ao27,co27,eo27⟩:=Kd.R_slice HO111.out
    (first | subst eo27 | (injection eo27 with f1_ f2_ f3_;have f4_:=f1_.symm;have f5_:=f3_.symm;clear f1_ f2_ f3_;subst f4_;subst f5_))
    refine hK.out _ _ ⟨(blk_cell BK101.out 0).trans rfl,(blk_cell BK101.out 1).trans rfl,(blk_cell BK101.out 2).trans rfl,(blk_cell BK101.out 3).trans rfl,(blk_cell BK101.out 4).trans rfl,(blk_cell BK102.out 0).trans rfl,(blk_cell BK102.out 1).trans rfl,(blk_cell BK102.out 2).trans rfl,(blk_cell BK102.out 3).trans rfl,(blk_cell BK102.out 4).trans rfl⟩ (fun hHeld => ?_)
    clear hK K
    refine norm_ (a':=?_) ?_ ?_
    rotate_left
    ·show Act.put _ (some 33) _ = _
     simp only [Act.put,List.setIfInBounds_toArray,List.set_cons_zero,List.set_cons_succ]
     rfl
    refine one_ (i:=21) (N:=some 34) #[true,true,true,true,true,true,true,true,true,true,true,true,true,true,true,true,true,true,true,true,true,true,false] rfl rfl (one_of HT_.out q11_) q37_ (fun K hK => ?_)
    refine goes_ Tryz.func83 q11_ rfl #[.slice Ao27 y109.length co27] q45_ rfl rfl q21_ ?_
    with_reducible refine (cmp_Or_int.calls kj2 _ _ y109 t112 _ ?side1 ?side2 A22.out).mono ?_
    (case side1 => repeat (first | exact (Kd.R_reads' HO111.out).2.2 | (with_reducible refine Kd.C_alloc ?_ _) | (with_reducible refine Kd.C_drewN ?_ _) | (with_reducible refine Kd.C_drew ?_)))
    (case side2 => exact (Kd.R_reads' HO111.out).2.1)
    rintro e w' ⟨rfl,⟨nd,rfl⟩⟩
    refine ⟨_,rfl,?_⟩
    refine hK.out _ _ ⟨(blk_cell BK101.out 0).trans rfl,(blk_cell BK101.out 1).trans rfl,(blk_cell BK101.out 2).trans rfl,(blk_cell BK101.out 3).trans rfl,(blk_cell BK101.out 4).trans rfl,(blk_cell BK102.out 0).trans rfl,(blk_cell BK102.out 1).trans rfl,(blk_cell BK102.out 2).trans rfl,(blk_cell BK102.out 3).trans rfl,(blk_cell BK102.out 4).trans rfl⟩ (fun hHeld => ?_)
    clear hK K
    refine norm_ (a':=?_) ?_ ?_
    rotate_left
    ·show Act.put _ (some 34) _ = _
     simp only [Act.put,List.setIfInBounds_toArray,List.set_cons_zero,List.set_cons_succ]
     rfl
    refine pu_ 22 4 ?_
    refine done_ (done_of HT_.out q11_) ?_
    try go_wp2
    go_ret
    exact ⟨q2_,bh_⟩
end Go.Proofs.YtennhpoemdaghaaGreatDoor.P
end
section
namespace Go.Proofs.YtennhpoemdaghaaGreatDoor.P
open Go Go.RowKit Go.Proofs.YtennhpoemdaghaaGreatDoorW.PrintWords Go.Proofs.YtennhpoemdaghaaGreatDoorW.PrintLast Go.Proofs.YtennhpoemdaghaaGreatDoorW.PrintMore
abbrev DW:=DataW Unit
def valR (r : Req) : Value:=.agg #[.string r.f0,.int .i64 r.f1.f0,.int .i64 r.f1.f1,.int .i64 r.f1.f2,.string r.f1.f3,.string r.f1.f4]
def datR (r : Req) : DW:=.agg [.lit (.string r.f0.data.toList),.lit (.int .i64 r.f1.f0),.lit (.int .i64 r.f1.f1),.lit (.int .i64 r.f1.f2),.lit (.string r.f1.f3.data.toList),.lit (.string r.f1.f4.data.toList)]
def cutR (l : List Value) : Option (DW × List MemPlace) :=
 match l with
 | [.string p,.int .i64 a,.int .i64 b,.int .i64 c,.string d,.string e] => some (datR ⟨p,a,b,c,d,e⟩,[])
 | _ => none
def reqR (v : Value) : Option (DW × List MemPlace) :=
 match v with
 | .agg cs => cutR cs.toList
 | _ => none
theorem reqR_mk (r : Req) : reqR (valR r) = some (datR r,[]):=rfl
theorem reqR_inv {v : Value} {y : DW × List MemPlace} (h : reqR v = some y) : ∃ r,v = valR r ∧ y = (datR r,[]):=by
 unfold reqR at h
 split at h
 ·rename_i cs
  unfold cutR at h
  split at h
  ·rename_i p a b c d e hl
   refine ⟨⟨p,a,b,c,d,e⟩,?_,(Option.some.inj h).symm⟩
   unfold valR
   congr 1
   apply Array.ext'
   rw [hl]
  ·exact absurd h q43_
 ·exact absurd h q43_
theorem bytes_inj {a b : ByteArray} (h : a.data.toList = b.data.toList) : a = b:=by
 obtain ⟨⟨a⟩⟩:=a
 obtain ⟨⟨b⟩⟩:=b
 simpa using h
theorem datR_inj {r x : Req} (h : datR r = datR x) : r = x:=by
 obtain ⟨p,a,b,c,d,e⟩:=r
 obtain ⟨p',a',b',c',d',e'⟩:=x
 unfold datR at h
 simp only [DataW.agg.injEq,List.cons.injEq,DataW.lit.injEq,Lit.string.injEq,Lit.int.injEq,and_true,true_and] at h
 obtain ⟨h1,h2,h3,h4,h5,h6⟩:=h
 rw [bytes_inj h1,h2,h3,h4,bytes_inj h5,bytes_inj h6]
def keyL (s : ByteArray) : Lit:=.string s.data.toList
theorem keyL_inj {a b : ByteArray} (h : keyL a = keyL b) : a = b:=bytes_inj (Lit.string.inj h)
theorem keyL_key (s : ByteArray) : WideAt.IsKeyLit (keyL s):=trivial
def sameP (p : ByteArray) (y : Req) : Bool:=y.f0.data.toList == p.data.toList
theorem sameP_iff {p : ByteArray} {y : Req} : sameP p y = true ↔ y.f0 = p:=⟨fun h => bytes_inj (by simpa [sameP] using h),fun h => by simp [sameP,h]⟩
structure BestD (D : DW) (L : List Req) : Prop where
 isMap : Maps.IsMap D
 has : ∀ s : ByteArray,Maps.has D (keyL s) = L.any (sameP s)
 at_ : ∀ x ∈ L,∀ zd,D.atKey (keyL x.f0) zd = datR x
 keys : ∀ kl,Maps.has D kl = true → ∃ x ∈ L,kl = keyL x.f0
 nodup : L.Pairwise (fun x y => x.f0 ≠ y.f0)
theorem BestD.nil : BestD (.map []) []:=⟨Maps.isMap_empty,fun s => rfl,fun x h => absurd h q43_,fun kl h => absurd h (by simp [Maps.has_eq]),List.Pairwise.nil⟩
theorem BestD.add {D : DW} {L : List Req} (h : BestD D L) {r : Req} (hn : L.find? (sameP r.f0) = none) : BestD (D.put (keyL r.f0) (datR r)) (L ++ [r]):=by
 have hne : ∀ x ∈ L,x.f0 ≠ r.f0:=fun x hx he => by
  have:=List.find?_eq_none.mp hn x hx
  exact this (sameP_iff.2 he)
 refine ⟨h.isMap.put _ _,fun s => ?_,fun x hx zd => ?_,fun kl hk => ?_,?_⟩
 ·by_cases hs : s = r.f0
  ·subst hs
   rw [Maps.has_put_same h.isMap (keyL_key _),List.any_append]
   simp [sameP]
  ·rw [Maps.has_put_other (fun e => hs (keyL_inj e)),h.has,List.any_append]
   have : sameP s r = false:=by
    cases hb : sameP s r
    ·rfl
    ·exact absurd (sameP_iff.1 hb).symm hs
   simp [this]
 ·rcases List.mem_append.1 hx with hx | hx
  ·rw [Maps.atKey_put_other (fun e => hne x hx (keyL_inj e)),h.at_ x hx]
  ·obtain rfl:=List.mem_singleton.1 hx
   exact Maps.atKey_put_same h.isMap (keyL_key _) _ _
 ·by_cases hk' : kl = keyL r.f0
  ·exact ⟨r,by simp,hk'⟩
  ·rw [Maps.has_put_other hk'] at hk
   obtain ⟨x,hx,he⟩:=h.keys kl hk
   exact ⟨x,by simp [hx],he⟩
 ·refine List.pairwise_append.2 ⟨h.nodup,List.pairwise_singleton _ _,fun a ha b hb => ?_⟩
  obtain rfl:=List.mem_singleton.1 hb
  exact hne a ha
def setL (L : List Req) (r : Req) : List Req:=L.map fun y => if sameP r.f0 y then r else y
theorem setL_path (L : List Req) (r : Req) : (setL L r).map (·.f0) = L.map (·.f0):=by
 unfold setL
 rw [List.map_map]
 refine List.map_congr_left (fun y _ => ?_)
 simp only [Function.comp]
 split
 ·rename_i h;exact (sameP_iff.1 h).symm
 ·rfl
theorem BestD.turn {D : DW} {L : List Req} (h : BestD D L) {r x : Req} (hs : L.find? (sameP r.f0) = some x) : BestD (D.put (keyL r.f0) (datR r)) (setL L r):=by
 have hx : x ∈ L:=List.mem_of_find?_eq_some hs
 have hxr : x.f0 = r.f0:=sameP_iff.1 (List.find?_some hs)
 have hany : ∀ (p : ByteArray) (M : List Req),M.any (sameP p) = (M.map (·.f0)).any (fun q => q.data.toList == p.data.toList):=fun p M => by rw [List.any_map];rfl
 refine ⟨h.isMap.put _ _,fun s => ?_,fun y hy zd => ?_,fun kl hk => ?_,?_⟩
 ·rw [hany,setL_path,← hany]
  by_cases hs' : s = r.f0
  ·subst hs'
   rw [Maps.has_put_same h.isMap (keyL_key _)]
   exact (List.any_eq_true.2 ⟨x,hx,sameP_iff.2 hxr⟩).symm
  ·rw [Maps.has_put_other (fun e => hs' (keyL_inj e)),h.has]
 ·unfold setL at hy
  obtain ⟨y',hy',rfl⟩:=List.mem_map.1 hy
  cases hsy : sameP r.f0 y'
  ·have hne : y'.f0 ≠ r.f0:=fun e => by rw [sameP_iff.2 e] at hsy;exact absurd hsy q43_
   simp only [Bool.false_eq_true,if_false]
   rw [Maps.atKey_put_other (fun e => hne (keyL_inj e)),h.at_ y' hy']
  ·simp only [if_true]
   exact Maps.atKey_put_same h.isMap (keyL_key _) _ _
 ·by_cases hk' : kl = keyL r.f0
  ·exact ⟨r,List.mem_map.2 ⟨x,hx,by rw [if_pos (sameP_iff.2 hxr)]⟩,hk'⟩
  ·rw [Maps.has_put_other hk'] at hk
   obtain ⟨y,hy,he⟩:=h.keys kl hk
   refine ⟨y,List.mem_map.2 ⟨y,hy,?_⟩,he⟩
   rw [if_neg]
   intro hsy
   exact hk' (by rw [he,sameP_iff.1 hsy])
 ·have h1 : (L.map (·.f0)).Pairwise (· ≠ ·):=List.pairwise_map.2 h.nodup
  rw [← setL_path L r] at h1
  exact List.pairwise_map.1 h1
theorem BestD.find {D : DW} {L : List Req} (h : BestD D L) (s : ByteArray) (zd : DW) : (L.find? (sameP s) = none ∧ Maps.has D (keyL s) = false ∧ D.atKey (keyL s) zd = zd) ∨ ∃ x,L.find? (sameP s) = some x ∧ Maps.has D (keyL s) = true ∧ D.atKey (keyL s) zd = datR x:=by
 cases hf : L.find? (sameP s) with
 | none =>
  have hh : Maps.has D (keyL s) = false:=by
   rw [h.has,List.any_eq_false]
   exact fun x hx => List.find?_eq_none.mp hf x hx
  exact .inl ⟨rfl,hh,Maps.atKey_of_not_has hh _⟩
 | some x =>
  have hx : x ∈ L:=List.mem_of_find?_eq_some hf
  have hxs : x.f0 = s:=sameP_iff.1 (List.find?_some hf)
  refine .inr ⟨x,rfl,?_,?_⟩
  ·rw [h.has];exact List.any_eq_true.2 ⟨x,hx,sameP_iff.2 hxs⟩
  ·rw [← hxs];exact h.at_ x hx zd
def cmpP (x y : Req) : Option Int:=ver_Compare.f fuelR x.f1.f0 x.f1.f1 x.f1.f2 x.f1.f3 x.f1.f4 y.f1.f0 y.f1.f1 y.f1.f2 y.f1.f3 y.f1.f4
def takeP (L : List Req) (r : Req) : Option (List Req) :=
 if r.f0.size ≤ 4294967280 then
  match L.find? (sameP r.f0) with
  | none => some (L ++ [r])
  | some x => (cmpP r x).bind fun c => some (if c > 0 then setL L r else L)
 else none
def eachP : List Req → List Req → Option (List Req)
 | L,[] => some L
 | L,r :: rs => (takeP L r).bind fun L' => eachP L' rs
def OwnB (w : World) (b n : Nat) (L : List Req) : Prop:=∃ D : DW,w.ownsMap Tryz.prog 9 reqR b n D ∧ BestD D L
theorem OwnB.kept {w w' : World} {b n : Nat} {L : List Req} {row : Option Nat} (h : OwnB w b n L) (hg : w.grownBy w' row) (hne : some b ≠ row) : OwnB w' b n L:=by
 obtain ⟨D,h1,h2⟩:=h
 exact ⟨D,h1.kept hg hne,h2⟩
theorem OwnB.lt {w : World} {b n : Nat} {L : List Req} (h : OwnB w b n L) : b < w.heap.size:=by
 obtain ⟨D,h1,h2⟩:=h
 exact h1.lt
theorem OwnB.below {w w' : World} {b n : Nat} {L : List Req} (h : OwnB w b n L) (hb : Below w.heap.size w w') : OwnB w' b n L :=
 h.kept (row:=none) ⟨hb.os,hb.tape,hb.output,hb.size,fun k hk _ => hb.block k hk⟩ q43_
theorem OwnB.mono {w : World} {b n m : Nat} {L : List Req} (h : OwnB w b n L) (hn : n ≤ m) : OwnB w b m L:=by
 obtain ⟨D,h1,h2⟩:=h
 exact ⟨D,h1.mono hn,h2⟩
end Go.Proofs.YtennhpoemdaghaaGreatDoor.P
end
section
namespace Go.Proofs.YtennhpoemdaghaaGreatDoor.P
open Go Go.RowKit Go.Proofs.YtennhpoemdaghaaGreatDoorW.PrintWords
def ordI (a b : Int) : Int:=if a < b then -1 else if a > b then 1 else 0
def verR (x : Req) : Bool:=verB x.f1.f0 x.f1.f1 x.f1.f2 x.f1.f3.data.toList x.f1.f4.data.toList
def cmpB (x y : Req) : Int :=
 if verR x && verR y then
  (if ordI x.f1.f0 y.f1.f0 ≠ 0 then ordI x.f1.f0 y.f1.f0 else if ordI x.f1.f1 y.f1.f1 ≠ 0 then ordI x.f1.f1 y.f1.f1 else if ordI x.f1.f2 y.f1.f2 ≠ 0 then ordI x.f1.f2 y.f1.f2 else preCmp x.f1.f3.data.toList y.f1.f3.data.toList)
 else 0
theorem verR_pre {x : Req} (h : verR x = true) : x.f1.f3.size ≤ 30:=by
 unfold verR verB at h
 simp only [Bool.and_eq_true] at h
 exact of_decide_eq_true h.1.1.1.2
theorem cmpP_eq (x y : Req) : cmpP x y = some (cmpB x y):=by
 unfold cmpP ver_Compare.f cmpB
 have e1 : ver_Check.f x.f1.f0 x.f1.f1 x.f1.f2 x.f1.f3 x.f1.f4 = some (verR x):=rfl
 have e2 : ver_Check.f y.f1.f0 y.f1.f1 y.f1.f2 y.f1.f3 y.f1.f4 = some (verR y):=rfl
 rw [e1,e2,Option.bind_some,Option.bind_some]
 obtain ⟨m,hm⟩ : ∃ m,fuelR = m + 1:=⟨fuelR - 1,rfl⟩
 have hm2 : 100 < m:=by have : fuelR = 100000:=rfl;omega
 rw [hm]
 cases hx : verR x with
 | false => rfl
 | true =>
  cases hy : verR y with
  | false => rfl
  | true =>
   have h1:=verR_pre hx
   have h2:=verR_pre hy
   rw [if_pos rfl,ver_Compare.j0,if_neg q37_,cmpInt_f,cmpInt_f,cmpInt_f,Option.bind_some,Option.bind_some,Option.bind_some]
   unfold ver_byPre.f
   rw [if_pos ⟨by omega,by omega⟩,Option.bind_some,cmpOr_f _ q43_ m (by show 4 < m;omega),Option.bind_some]
   show some ((List.find? (fun x => x != 0) [ordI x.f1.f0 y.f1.f0,ordI x.f1.f1 y.f1.f1,ordI x.f1.f2 y.f1.f2,preCmp x.f1.f3.data.toList y.f1.f3.data.toList]).getD 0) = _
   generalize ordI x.f1.f0 y.f1.f0 = a
   generalize ordI x.f1.f1 y.f1.f1 = b
   generalize ordI x.f1.f2 y.f1.f2 = c
   generalize preCmp x.f1.f3.data.toList y.f1.f3.data.toList = d
   by_cases ha : a = 0
   ·by_cases hb : b = 0
    ·by_cases hc : c = 0
     ·by_cases hd : d = 0 <;> simp [ha,hb,hc,hd]
     ·simp [ha,hb,hc]
    ·simp [ha,hb]
   ·simp [ha]
end Go.Proofs.YtennhpoemdaghaaGreatDoor.P
end
section
namespace Go.Proofs.YtennhpoemdaghaaGreatDoor.P
open Go Go.RowKit Go.Proofs.YtennhpoemdaghaaGreatDoorW.PrintWords Go.Proofs.YtennhpoemdaghaaGreatDoorW.PrintLast Go.Proofs.YtennhpoemdaghaaGreatDoorW.PrintMore
section
variable {P : Program} {ops : Array Oper} {rest : List Oper} {o : Oper} {a : Act} {Q : Exit → Act → World → Prop}
theorem store_event {W : World} (t : TypeId) (p x : Operand) (ho : o.op = .store t p x) (hN : o.dst = none) (hgd : o.guard = none) (off e : Nat) (cur new : Array Value) (u : Value) (seg : List Value) {g : Nat}
  (haddr : a.eval p = .pointer (some ⟨g,off,none⟩)) (hx : a.eval x = u) (hu : u.cells.toList = seg) (ht : (P.info? t).map (·.size) = some seg.length) (h1 : ∀ q ∈ seg,q.oneCell' = true)
  (hh : W.heap[g]? = some (.cells cur e (0,0))) (hfit : off + seg.length ≤ cur.size) (hnew : cur.toList.take off ++ seg ++ cur.toList.drop (off + seg.length) = new.toList)
  (h : ∀ w1,w1.heap[g]? = some (.cells new e (0,0)) → W.grownBy w1 (some g) → wpList P ops Q rest a w1) : wpList P ops Q (o :: rest) a W:=by
 obtain ⟨cur',h3,h4,h5⟩:=setCells_row seg off W cur hh hfit
 obtain ⟨s1,s2,s3,s4⟩:=setCells_same g seg off W
 have hfar : ∀ k,k ≠ g → (W.setCells g off seg).heap[k]? = W.heap[k]?:=fun k hk => setCells_far seg _ k hk
 have hn : cur' = new:=by
  apply Array.ext'
  rw [h5,hnew]
 subst hn
 refine wpList_plain hgd fun K hK => ?_
 have hrun : (Instr.storeAt t (.pointer (some ⟨g,off,none⟩)) u).run P W = .ok () (W.setCells g off seg):=run_store_run t u seg hh hu ht hfit h1
 unfold Oper.wp execOp
 simp only [ho,haddr,hx,Sem.run_bind,Sem.run_pure,Result.andThen_ok,hrun]
 show K (a.put o.dst undef) _
 rw [hN]
 exact hK a _ (h _ h3 ⟨s1,s2,s3,by rw [s4];exact Nat.le_refl _,fun k _ hk => hfar k (fun he => hk (by rw [he]))⟩)
theorem store_step {Kc : Act → World → Prop} {W : World} (hw : Region.wanted o (yielded ops a.tmps) = true) (t : TypeId) (p x : Operand) (ho : o.op = .store t p x) (hN : o.dst = none) (off e : Nat) (cur new : Array Value) (u : Value) (seg : List Value) {g : Nat} {N : Option Tmp}
  (haddr : a.eval p = .pointer (some ⟨g,off,none⟩)) (hx : a.eval x = u) (hu : u.cells.toList = seg) (ht : (P.info? t).map (·.size) = some seg.length) (h1 : ∀ q ∈ seg,q.oneCell' = true)
  (hh : W.heap[g]? = some (.cells cur e (0,0))) (hfit : off + seg.length ≤ cur.size) (hnew : cur.toList.take off ++ seg ++ cur.toList.drop (off + seg.length) = new.toList)
  (h : ∀ w1,w1.heap[g]? = some (.cells new e (0,0)) → W.grownBy w1 (some g) → Kc a w1) : if Region.wanted o (yielded ops a.tmps) = true then Oper.wp P o a W Kc Q else Kc (a.put N undef) W:=by
 rw [if_pos hw]
 obtain ⟨cur',h3,h4,h5⟩:=setCells_row seg off W cur hh hfit
 obtain ⟨s1,s2,s3,s4⟩:=setCells_same g seg off W
 have hfar : ∀ k,k ≠ g → (W.setCells g off seg).heap[k]? = W.heap[k]?:=fun k hk => setCells_far seg _ k hk
 have hn : cur' = new:=by
  apply Array.ext'
  rw [h5,hnew]
 subst hn
 have hrun : (Instr.storeAt t (.pointer (some ⟨g,off,none⟩)) u).run P W = .ok () (W.setCells g off seg):=run_store_run t u seg hh hu ht hfit h1
 unfold Oper.wp execOp
 simp only [ho,haddr,hx,Sem.run_bind,Sem.run_pure,Result.andThen_ok,hrun]
 show Kc (a.put o.dst undef) _
 rw [hN]
 exact h _ h3 ⟨s1,s2,s3,by rw [s4];exact Nat.le_refl _,fun k _ hk => hfar k (fun he => hk (by rw [he]))⟩
end
theorem below_grown {w0 W w1 : World} {base g : Nat} (h : Below base w0 W) (hg : W.grownBy w1 (some g)) (hb : base ≤ g) (hs : base ≤ W.heap.size) : Below base w0 w1 :=
 h.trans ⟨hg.os,hg.tape,hg.output,hg.size,fun k hk => hg.block k (Nat.lt_of_lt_of_le hk hs) (fun he => by injection he with he;omega)⟩
end Go.Proofs.YtennhpoemdaghaaGreatDoor.P
end
section
namespace Go.Proofs
open Go.Shelf
def Tryz.sortReq_ren : Go.Shelf.Ren:=⟨fun | 6 => 53 | 15 => 90 | 14 => 89 | 28 => 131 | 29 => 132 | 20 => 123 | 21 => 124 | 22 => 125 | 23 => 126 | 24 => 127 | 25 => 128 | 26 => 129 | 27 => 130 | 46 => 156 | 47 => 157 | 48 => 158 | 49 => 159 | 50 => 160 | 57 => 183 | n => n,fun | 22 => 38 | 24 => 41 | 25 => 85 | 3 => 3 | 39 => 121 | 0 => 0 | 53 => 155 | 55 => 157 | 4 => 4 | 46 => 149 | 45 => 148 | 50 => 135 | 5 => 5 | 9 => 9 | 66 => 171 | 70 => 162 | 76 => 188 | 77 => 189 | n => n,fun | n => n⟩
theorem Tryz.sortReq : Go.Proofs.SlLaysF0.n6 Tryz.prog Tryz.sortReq_ren:={
 mixed:=by kernel_rfl
 f6:=⟨Tryz.f53.name,by decide,Tryz.func53.trans (congrArg some q11_)⟩
 f14:=⟨Tryz.f89.name,by decide,Tryz.func89.trans (congrArg some q11_)⟩
 f15:=Tryz.func90.trans (congrArg some q11_)
 f20:=⟨Tryz.f123.name,by decide,Tryz.func123.trans (congrArg some q11_)⟩
 f21:=⟨Tryz.f124.name,by decide,Tryz.func124.trans (congrArg some q11_)⟩
 f22:=⟨Tryz.f125.name,by decide,Tryz.func125.trans (congrArg some q11_)⟩
 f23:=⟨Tryz.f126.name,by decide,Tryz.func126.trans (congrArg some q11_)⟩
 f24:=⟨Tryz.f127.name,by decide,Tryz.func127.trans (congrArg some q11_)⟩
 f25:=⟨Tryz.f128.name,by decide,Tryz.func128.trans (congrArg some q11_)⟩
 f26:=⟨Tryz.f129.name,by decide,Tryz.func129.trans (congrArg some q11_)⟩
 f27:=⟨Tryz.f130.name,by decide,Tryz.func130.trans (congrArg some q11_)⟩
 f28:=Tryz.func131.trans (congrArg some q11_)
 f29:=Tryz.func132.trans (congrArg some q11_)
 f46:=⟨Tryz.f156.name,by decide,Tryz.func156.trans (congrArg some q11_)⟩
 f47:=Tryz.func157.trans (congrArg some q11_)
 f48:=Tryz.func158.trans (congrArg some q11_)
 f49:=⟨Tryz.f159.name,by decide,Tryz.func159.trans (congrArg some q11_)⟩
 f50:=⟨Tryz.f160.name,by decide,Tryz.func160.trans (congrArg some q11_)⟩
 f57:=⟨Tryz.f183.name,by decide,Tryz.func183.trans (congrArg some q11_)⟩
 t0:=Tryz.underlying0
 a0:=Tryz.isAgg0
 z0:=Tryz.sizeOf0
 v0:=Tryz.zeroValue0
 t3:=Tryz.underlying3
 a3:=Tryz.isAgg3
 z3:=Tryz.sizeOf3
 v3:=Tryz.zeroValue3
 t4:=Tryz.underlying4
 a4:=Tryz.isAgg4
 z4:=Tryz.sizeOf4
 v4:=Tryz.zeroValue4
 t5:=Tryz.underlying5
 a5:=Tryz.isAgg5
 z5:=Tryz.sizeOf5
 v5:=Tryz.zeroValue5
 t9:=Tryz.underlying9
 a9:=Tryz.isAgg9
 z9:=Tryz.sizeOf9
 v9:=Tryz.zeroValue9
 t22:=Tryz.underlying38
 a22:=Tryz.isAgg38
 z22:=Tryz.sizeOf38
 v22:=Tryz.zeroValue38
 t25:=Tryz.underlying85
 a25:=Tryz.isAgg85
 z25:=Tryz.sizeOf85
 v25:=Tryz.zeroValue85
 t39:=Tryz.underlying121
 a39:=Tryz.isAgg121
 z39:=Tryz.sizeOf121
 v39:=Tryz.zeroValue121
 t45:=Tryz.underlying148
 a45:=Tryz.isAgg148
 z45:=Tryz.sizeOf148
 v45:=Tryz.zeroValue148
 t46:=Tryz.underlying149
 a46:=Tryz.isAgg149
 z46:=Tryz.sizeOf149
 v46:=Tryz.zeroValue149
 t50:=Tryz.underlying135
 a50:=Tryz.isAgg135
 z50:=Tryz.sizeOf135
 v50:=Tryz.zeroValue135
 t53:=Tryz.underlying155
 a53:=Tryz.isAgg155
 z53:=Tryz.sizeOf155
 v53:=Tryz.zeroValue155
 t55:=Tryz.underlying157
 a55:=Tryz.isAgg157
 z55:=Tryz.sizeOf157
 v55:=Tryz.zeroValue157
 t66:=Tryz.underlying171
 a66:=Tryz.isAgg171
 z66:=Tryz.sizeOf171
 v66:=Tryz.zeroValue171
 t70:=Tryz.underlying162
 a70:=Tryz.isAgg162
 z70:=Tryz.sizeOf162
 v70:=Tryz.zeroValue162
 t76:=Tryz.underlying188
 a76:=Tryz.isAgg188
 z76:=Tryz.sizeOf188
 v76:=Tryz.zeroValue188
 t77:=Tryz.underlying189
 a77:=Tryz.isAgg189
 z77:=Tryz.sizeOf189
 v77:=Tryz.zeroValue189 }
end Go.Proofs
end
