/- MvsDowns: called with any requirements, nodes and requirement, the law returns true, and its arguments read behind the call as they read before. Proved of the given program, for every input that can be read as data; the package-level variables that the card lists begin as the program's text lays them (the card ties them to it); nothing else is assumed. -/
import Derived.Below
import Derived.Deep.Draws
import Derived.Deep.AppendLies
import Derived.Maps.AppendAt
import Derived.OwnWalk
import Derived.Laws.BytesArg
import Derived.Laws.MakeOwn
import Derived.Laws.OwnMore
import Derived.Deep.OwnRows
import Derived.Tactics
import Derived.Lib.ConvBytes
import Derived.Laws.Slices
import Derived.WalkKit
import Derived.KernelRfl
import Derived.RowKit3
import Derived.Deep.LoopGhost
import Derived.Deep.QuietTactic
import Derived.BigQuiet
import Derived.WideLaws
import Derived.Deep.DeepCutAuto
import Derived.Deep.CutBlock
import Derived.Deep.RegionHeld3
import Derived.Laws.Rows
import Derived.Lib.AppendStr
import Derived.ArgAppend
import Derived.Laws.IdiomCopy
import Derived.RowKit
import Derived.OrdersHeld
import Derived.Laws.BitsLemmas
import Derived.Laws.StructEq
import Derived.Lib.Walk
import Derived.Lib.Strings
import Derived.Lib.Bytealg
import Derived.RangeFuncFrom
import Derived.RangeFuncBound
import Derived.RangeFuncCalls
import Derived.RangeFuncLeaves
import Derived.OwnWalkIn
import Derived.TacticsInMore
import Derived.LoopNIn
import Derived.LoopIn
import Derived.Shelf.Strings.Builder1
import Derived.Shelf.Strings.Trim
import Derived.Shelf.Small.Utf8
import Derived.Shelf.Small.Bits
import Derived.Shelf.Small.Strs
import Derived.Shelf.Small.Wraps
import Derived.Shelf.Strconv.Atoi
import Derived.Shelf.Strconv.Itoa0
import Derived.Shelf.Strconv.Itoa1
import Derived.Shelf.LaysM
import Derived.Shelf.Strconv.Itoa2
import Derived.Shelf.Strconv.Itoa3
import Derived.Shelf.Strconv.AtoiErrFast
import Derived.Shelf.Strconv.ParseIntEmpty
import Derived.Shelf.Strconv.AtoiFail
import Derived.Shelf.Strconv.Clone
import Derived.Shelf.Strconv.SyntaxError
import Derived.Shelf.LaysC
import Derived.Shelf.Strconv.ToError
import Derived.Shelf.Strconv.Lower
import Derived.Shelf.Strconv.ParseUint10
import Derived.Shelf.Strconv.ParseUint10Empty
import Derived.Shelf.Strconv.ParseUint10Any
import Derived.Shelf.Strconv.ParseInt10
import Derived.Shelf.Strconv.AtoiLong
import Derived.Shelf.Strconv.AtoiInnerAll
import Derived.Shelf.Strconv.RangeError
import Derived.Shelf.Strconv.ToErrorRange
import Derived.Shelf.Strconv.AtoiAll
import Derived.Shelf.Strconv.ErrVarAll
import Derived.Shelf.Strings.Search1
import Derived.Shelf.Strings.Search2
import Derived.Shelf.Strings.Search3
import Derived.Shelf.Strings.Cut
import Derived.Shelf.Strings.Count
import Derived.Shelf.Strings.Shaped
import Derived.Shelf.Strings.LastIndex
import Derived.Shelf.Strings.LastIndexAll
import Derived.Shelf.Strings.Prefix
import Derived.Shelf.Strings.Split
import Derived.Shelf.Strings.SplitShaped
import Derived.Shelf.Unicode.Decode
import Derived.Shelf.Strings.Runes
import Derived.Shelf.Strings.RuneCount
import Derived.Shelf.Strings.AsciiSet
import Derived.Shelf.Strings.Explode
import Derived.Shelf.Unicode.DecodeSlow
import Derived.Shelf.Unicode.DecodeAny
import Derived.Shelf.Slices.SearchI
import Derived.Shelf.Strings.SlTrimAscii
import Derived.Outline
import Derived.Laws.EntriesVeiled
import Derived.Lib.AtoiAllCases
import Derived.Lib.ItoaNum
import Derived.Lib.SlTrimSet
import Derived.WalkSmall
import Derived.Lib.AtoiErrMem
import Derived.Lib.AppendIntMem
import Derived.IntWalk
import Derived.Maps.OwnSet
import Derived.Maps.RangeWalk
import Derived.Sort.MapsRangeIn
import Derived.Shelf.SlSortCmp.WholeK
import Derived.Ground.SlsfProg
import Derived.Sort.Grow
import Derived.Sort.Walk0
import Derived.Laws.Strings
import Derived.Laws.Cover1
import Derived.Carry
import Derived.Shelf.Slices.In.Clone
import Derived.Lib.LaidTab
import Derived.LaidSub
import Derived.MakeChecks
import Derived.ChangeArms
import Derived.Deep.Slices
import Derived.HandedShaped
import Derived.Handed
import Derived.LaidLaws
import Derived.Shelf.Vars
import Derived.Lay
import Derived.LaidOnce
import Derived.ProofKit
import Derived.OpenShut
import Derived.ShutString
import Derived.ChangeOld
import Derived.SevenTiedAt
import Derived.Test.YtennhpoemdaghaaGreatDoorProg
namespace Foot
end Foot
namespace Go
end Go
namespace Go.Proofs
end Go.Proofs
namespace Go.Proofs.YtennhpoemdaghaaGreatDoor
end Go.Proofs.YtennhpoemdaghaaGreatDoor
namespace Go.Proofs.YtennhpoemdaghaaGreatDoor.P
end Go.Proofs.YtennhpoemdaghaaGreatDoor.P
namespace Go.Proofs.YtennhpoemdaghaaGreatDoorW.PrintLast
end Go.Proofs.YtennhpoemdaghaaGreatDoorW.PrintLast
namespace Go.Proofs.YtennhpoemdaghaaGreatDoorW.PrintMore
end Go.Proofs.YtennhpoemdaghaaGreatDoorW.PrintMore
namespace Go.Proofs.YtennhpoemdaghaaGreatDoorW.PrintWords
end Go.Proofs.YtennhpoemdaghaaGreatDoorW.PrintWords
namespace Kd
end Kd
set_option linter.unusedVariables false
set_option linter.unusedSimpArgs false
section
theorem q1_ {P : Prop} (h : P:=by first | (with_reducible assumption) | assumption) : P:=h
theorem q2_ {P : Prop} (h : P:=by first | rfl | (simp [] <;> rfl) | (simp [*] <;> rfl) | (simp [bne_nil_];done) | (simp [*,bne_nil_];done)) : P:=h
theorem q3_ {P : Prop} (h : P:=by first | rfl | (simp;done) | (simp [*];done) | (simp [bne_nil_];done)) : P:=h
theorem q4_ {P : Prop} (h : P:=by repeat (first | exact Drawn0.refl _ | apply Drawn0.step)) : P:=h
theorem q5_ {P : Prop} (h : P:=by omega) : P:=h
theorem q6_ {P : Prop} (h : P:=by (with_reducible repeat (first | refine blk_drewN ?_ _ | refine blk_drew ?_ | refine blk_alloc ?_ _));refine blk_put (cs:=#[.string ((rd_T41 l0 x22_1).f0),.int .i64 ((rd_T41 l0 x22_1).f1.f0),.int .i64 ((rd_T41 l0 x22_1).f1.f1),.int .i64 ((rd_T41 l0 x22_1).f1.f2),.string ((rd_T41 l0 x22_1).f1.f3),.string (⟨#[]⟩ : ByteArray)]) ?_ 5 _ rfl;(with_reducible repeat (first | refine blk_drewN ?_ _ | refine blk_drew ?_ | refine blk_alloc ?_ _));refine blk_put (cs:=#[.string ((rd_T41 l0 x22_1).f0),.int .i64 ((rd_T41 l0 x22_1).f1.f0),.int .i64 ((rd_T41 l0 x22_1).f1.f1),.int .i64 ((rd_T41 l0 x22_1).f1.f2),.string (⟨#[]⟩ : ByteArray),.string (⟨#[]⟩ : ByteArray)]) ?_ 4 _ rfl;(with_reducible repeat (first | refine blk_drewN ?_ _ | refine blk_drew ?_ | refine blk_alloc ?_ _));refine blk_put (cs:=#[.string ((rd_T41 l0 x22_1).f0),.int .i64 ((rd_T41 l0 x22_1).f1.f0),.int .i64 ((rd_T41 l0 x22_1).f1.f1),.int .i64 0,.string (⟨#[]⟩ : ByteArray),.string (⟨#[]⟩ : ByteArray)]) ?_ 3 _ rfl;(with_reducible repeat (first | refine blk_drewN ?_ _ | refine blk_drew ?_ | refine blk_alloc ?_ _));refine blk_put (cs:=#[.string ((rd_T41 l0 x22_1).f0),.int .i64 ((rd_T41 l0 x22_1).f1.f0),.int .i64 0,.int .i64 0,.string (⟨#[]⟩ : ByteArray),.string (⟨#[]⟩ : ByteArray)]) ?_ 2 _ rfl;(with_reducible repeat (first | refine blk_drewN ?_ _ | refine blk_drew ?_ | refine blk_alloc ?_ _));refine blk_put (cs:=#[.string ((rd_T41 l0 x22_1).f0),.int .i64 0,.int .i64 0,.int .i64 0,.string (⟨#[]⟩ : ByteArray),.string (⟨#[]⟩ : ByteArray)]) ?_ 1 _ rfl;(with_reducible repeat (first | refine blk_drewN ?_ _ | refine blk_drew ?_ | refine blk_alloc ?_ _));refine blk_put (cs:=#[.string (⟨#[]⟩ : ByteArray),.int .i64 0,.int .i64 0,.int .i64 0,.string (⟨#[]⟩ : ByteArray),.string (⟨#[]⟩ : ByteArray)]) ?_ 0 _ rfl;(with_reducible repeat (first | refine blk_drewN ?_ _ | refine blk_drew ?_ | refine blk_alloc ?_ _));exact BK108.out) : P:=h
theorem q7_ {P : Prop} (h : P:=by (with_reducible repeat (first | refine blk_drewN ?_ _ | refine blk_drew ?_ | refine blk_alloc ?_ _));refine blk_far ?_ NB101_108.out _;(with_reducible repeat (first | refine blk_drewN ?_ _ | refine blk_drew ?_ | refine blk_alloc ?_ _));refine blk_far ?_ NB101_108.out _;(with_reducible repeat (first | refine blk_drewN ?_ _ | refine blk_drew ?_ | refine blk_alloc ?_ _));refine blk_far ?_ NB101_108.out _;(with_reducible repeat (first | refine blk_drewN ?_ _ | refine blk_drew ?_ | refine blk_alloc ?_ _));refine blk_far ?_ NB101_108.out _;(with_reducible repeat (first | refine blk_drewN ?_ _ | refine blk_drew ?_ | refine blk_alloc ?_ _));refine blk_far ?_ NB101_108.out _;(with_reducible repeat (first | refine blk_drewN ?_ _ | refine blk_drew ?_ | refine blk_alloc ?_ _));refine blk_far ?_ NB101_108.out _;(with_reducible repeat (first | refine blk_drewN ?_ _ | refine blk_drew ?_ | refine blk_alloc ?_ _));exact BK101.out) : P:=h
theorem q8_ {P : Prop} (h : P:=by (with_reducible repeat (first | apply Kd.R_alloc | apply Kd.R_drewN | apply Kd.R_drew));exact HO169.out) : P:=h
theorem q9_ {P : Prop} (h : P:=by kernel_rfl) : P:=h
theorem q10_ {P : Prop} (h : P:=by (with_reducible repeat (first | refine blk_drewN ?_ _ | refine blk_drew ?_ | refine blk_alloc ?_ _));refine blk_far ?_ NB106_108.out _;(with_reducible repeat (first | refine blk_drewN ?_ _ | refine blk_drew ?_ | refine blk_alloc ?_ _));refine blk_far ?_ NB106_108.out _;(with_reducible repeat (first | refine blk_drewN ?_ _ | refine blk_drew ?_ | refine blk_alloc ?_ _));refine blk_far ?_ NB106_108.out _;(with_reducible repeat (first | refine blk_drewN ?_ _ | refine blk_drew ?_ | refine blk_alloc ?_ _));refine blk_far ?_ NB106_108.out _;(with_reducible repeat (first | refine blk_drewN ?_ _ | refine blk_drew ?_ | refine blk_alloc ?_ _));refine blk_far ?_ NB106_108.out _;(with_reducible repeat (first | refine blk_drewN ?_ _ | refine blk_drew ?_ | refine blk_alloc ?_ _));refine blk_far ?_ NB106_108.out _;(with_reducible repeat (first | refine blk_drewN ?_ _ | refine blk_drew ?_ | refine blk_alloc ?_ _));exact BK106.out) : P:=h
theorem q11_ {P : Prop} (h : P:=by (with_reducible repeat (first | apply Kd.R_alloc | apply Kd.R_drewN | apply Kd.R_drew));exact HO172.out) : P:=h
theorem q12_ {P : Prop} (h : P:=by first | rfl | (simp;done) | (simp [*];done)) : P:=h
theorem q13_ {P : Prop} (h : P:=by (with_reducible repeat (first | apply Kd.R_alloc | apply Kd.R_drewN | apply Kd.R_drew));exact HO181.out) : P:=h
theorem q14_ {P : Prop} (h : P:=by (with_reducible repeat (first | apply Kd.N_alloc | apply Kd.N_drewN | apply Kd.N_drew));exact HO154.out) : P:=h
theorem q15_ {P : Prop} (h : P:=by (with_reducible repeat (first | apply Kd.R_alloc | apply Kd.R_drewN | apply Kd.R_drew));exact HO190.out) : P:=h
theorem q16_ {P : Prop} (h : P:=by (with_reducible repeat (first | refine blk_drewN ?_ _ | refine blk_drew ?_ | refine blk_alloc ?_ _));refine blk_put (cs:=#[.string t110,.int .i64 t111,.int .i64 t112,.int .i64 t113,.string t114,.string ((rd_T41 l0 x22_1).f1.f4)]) ?_ 5 _ rfl;(with_reducible repeat (first | refine blk_drewN ?_ _ | refine blk_drew ?_ | refine blk_alloc ?_ _));refine blk_put (cs:=#[.string t110,.int .i64 t111,.int .i64 t112,.int .i64 t113,.string ((rd_T41 l0 x22_1).f1.f3),.string ((rd_T41 l0 x22_1).f1.f4)]) ?_ 4 _ rfl;(with_reducible repeat (first | refine blk_drewN ?_ _ | refine blk_drew ?_ | refine blk_alloc ?_ _));refine blk_put (cs:=#[.string t110,.int .i64 t111,.int .i64 t112,.int .i64 ((rd_T41 l0 x22_1).f1.f2),.string ((rd_T41 l0 x22_1).f1.f3),.string ((rd_T41 l0 x22_1).f1.f4)]) ?_ 3 _ rfl;(with_reducible repeat (first | refine blk_drewN ?_ _ | refine blk_drew ?_ | refine blk_alloc ?_ _));refine blk_put (cs:=#[.string t110,.int .i64 t111,.int .i64 ((rd_T41 l0 x22_1).f1.f1),.int .i64 ((rd_T41 l0 x22_1).f1.f2),.string ((rd_T41 l0 x22_1).f1.f3),.string ((rd_T41 l0 x22_1).f1.f4)]) ?_ 2 _ rfl;(with_reducible repeat (first | refine blk_drewN ?_ _ | refine blk_drew ?_ | refine blk_alloc ?_ _));refine blk_put (cs:=#[.string t110,.int .i64 ((rd_T41 l0 x22_1).f1.f0),.int .i64 ((rd_T41 l0 x22_1).f1.f1),.int .i64 ((rd_T41 l0 x22_1).f1.f2),.string ((rd_T41 l0 x22_1).f1.f3),.string ((rd_T41 l0 x22_1).f1.f4)]) ?_ 1 _ rfl;(with_reducible repeat (first | refine blk_drewN ?_ _ | refine blk_drew ?_ | refine blk_alloc ?_ _));refine blk_put (cs:=#[.string ((rd_T41 l0 x22_1).f0),.int .i64 ((rd_T41 l0 x22_1).f1.f0),.int .i64 ((rd_T41 l0 x22_1).f1.f1),.int .i64 ((rd_T41 l0 x22_1).f1.f2),.string ((rd_T41 l0 x22_1).f1.f3),.string ((rd_T41 l0 x22_1).f1.f4)]) ?_ 0 _ rfl;(with_reducible repeat (first | refine blk_drewN ?_ _ | refine blk_drew ?_ | refine blk_alloc ?_ _));exact BK108.out) : P:=h
theorem q17_ {P : Prop} (h : P:=by rw [hg];exact (below_size bh_)) : P:=h
theorem q18_ {P : Prop} (h : P:=by (with_reducible repeat (first | apply Kd.R_alloc | apply Kd.R_drewN | apply Kd.R_drew));exact (Kd.R_mono (Kd.R_far (p:=⟨gb108,5,none⟩) (Kd.R_far (p:=⟨gb108,4,none⟩) (Kd.R_far (p:=⟨gb108,3,none⟩) (Kd.R_far (p:=⟨gb108,2,none⟩) (Kd.R_far (p:=⟨gb108,1,none⟩) (Kd.R_far (p:=⟨gb108,0,none⟩) (Kd.R_mono HO_8.out (fun k_ hk => (⟨hk,hk.2⟩ : _ ∧ k_ ≠ gb108))) (fun _ hk => hk.2) (.string ((rd_T41 l0 x22_1).f0))) (fun _ hk => hk.2) (.int .i64 ((rd_T41 l0 x22_1).f1.f0))) (fun _ hk => hk.2) (.int .i64 ((rd_T41 l0 x22_1).f1.f1))) (fun _ hk => hk.2) (.int .i64 ((rd_T41 l0 x22_1).f1.f2))) (fun _ hk => hk.2) (.string ((rd_T41 l0 x22_1).f1.f3))) (fun _ hk => hk.2) (.string ((rd_T41 l0 x22_1).f1.f4))) (fun _ h_ => h_.1))) : P:=h
theorem q19_ {P : Prop} (h : P:=by (with_reducible repeat (first | apply Kd.R_alloc | apply Kd.R_drewN | apply Kd.R_drew));exact HO217.out) : P:=h
theorem q20_ {P : Prop} (h : P:=by (with_reducible repeat (first | apply Kd.R_alloc | apply Kd.R_drewN | apply Kd.R_drew));exact HO221.out) : P:=h
theorem q21_ {P : Prop} (h : P:=by (try simp only [List.map_toArray,List.map_cons,List.map_nil]);first | done | rfl | (simp only [List.length_drop,List.length_take];rfl)) : P:=h
theorem q22_ {P : Prop} (h : P:=by (with_reducible repeat (first | apply Kd.R_alloc | apply Kd.R_drewN | apply Kd.R_drew));exact HO_8.out) : P:=h
theorem q23_ {P : Prop} (h : P:=by (with_reducible repeat (first | apply Kd.R_alloc | apply Kd.R_drewN | apply Kd.R_drew));exact HO236.out) : P:=h
theorem q24_ {P : Prop} (h : P:=by (with_reducible repeat (first | apply Kd.R_alloc | apply Kd.R_drewN | apply Kd.R_drew));exact HO115.out) : P:=h
theorem q25_ {P : Prop} (h : P:=by simp) : P:=h
theorem q26_ {P : Prop} (h : P:=by (with_reducible repeat (first | apply Kd.R_alloc | apply Kd.R_drewN | apply Kd.R_drew));exact HO_7.out) : P:=h
theorem q27_ {P : Prop} (h : P:=by rw [hg_];exact Nat.ne_of_lt (blk_lt B3.out)) : P:=h
theorem q28_ {P : Prop} (h : P:=by rw [hg_];exact Nat.ne_of_lt (blk_lt B2.out)) : P:=h
theorem q29_ {P : Prop} (h : P:=by rw [hg_];exact Nat.ne_of_lt HM.out.lt) : P:=h
theorem q30_ {P : Prop} (h : P:=by decide) : P:=h
theorem q31_ {P : Prop} (h : P:=by (with_reducible repeat (first | apply Kd.R_alloc | apply Kd.R_drewN | apply Kd.R_drew));exact HO246.out) : P:=h
theorem q32_ {P : Prop} (h : P:=by (with_reducible repeat (first | apply Kd.R_alloc | apply Kd.R_drewN | apply Kd.R_drew));exact HO106.out) : P:=h
theorem q33_ {P : Prop} (h : P:=by rw [hg_];exact Nat.ne_of_lt (blk_lt B4.out)) : P:=h
theorem q34_ {P : Prop} (h : P:=by (with_reducible repeat (first | apply Kd.R_alloc | apply Kd.R_drewN | apply Kd.R_drew));exact HO_19.out) : P:=h
theorem q35_ {P : Prop} (h : P:=by (with_reducible repeat (first | apply Kd.R_alloc | apply Kd.R_drewN | apply Kd.R_drew));exact HO130.out) : P:=h
theorem q36_ {P : Prop} (h : P:=by (with_reducible repeat (first | apply Kd.R_alloc | apply Kd.R_drewN | apply Kd.R_drew));exact HO105.out) : P:=h
theorem q37_ {P : Prop} (h : P:=by (with_reducible repeat (first | apply Kd.R_alloc | apply Kd.R_drewN | apply Kd.R_drew));exact HO_3.out) : P:=h
theorem q38_ {P : Prop} (h : P:=by rw [hg_];exact Nat.ne_of_lt (blk_lt B6.out)) : P:=h
theorem q39_ {P : Prop} (h : P:=by rw [hg_];exact HB.out.size) : P:=h
theorem q40_ {P : Prop} (h : P:=by injection e105) : P:=h
theorem q41_ {P : Prop} (h : P:=by (with_reducible repeat (first | apply Kd.R_alloc | apply Kd.R_drewN | apply Kd.R_drew));exact HO114.out) : P:=h
theorem q42_ {P : Prop} (h : P:=by (with_reducible repeat (first | apply Kd.N_alloc | apply Kd.N_drewN | apply Kd.N_drew));exact HO111.out) : P:=h
theorem q43_ {P : Prop} (h : P:=by (try simp only [List.map_toArray,List.map_cons,List.map_nil]);first | done | rfl) : P:=h
theorem q44_ {P : Prop} (h : P:=by simp [Value.oneCell']) : P:=h
theorem q45_ {P : Prop} (h : P:=by (try simp only [List.map_toArray,List.map_cons,List.map_nil]);first | done | (simp only [hji5];rfl) | rfl | (simp only [List.length_drop,List.length_take];rfl)) : P:=h
theorem q46_ {P : Prop} (h : P:=by simp;omega) : P:=h
theorem q47_ {P : Prop} (h : P:=by rcases hw2 with rfl | ⟨tt,rfl⟩;exact Below.refl _ _;exact Lib.bytesWorld_below _ _ _) : P:=h
theorem q48_ {P : Prop} (h : P:=by rw [hg];exact Nat.ne_of_lt (blk_lt bk101_)) : P:=h
theorem q49_ {P : Prop} (h : P:=by rw [hg];exact Nat.ne_of_gt (blk_lt bk101_)) : P:=h
theorem q50_ {P : Prop} (h : P:=by (with_reducible repeat (first | apply Kd.R_alloc | apply Kd.R_drewN | apply Kd.R_drew));exact HO_10.out) : P:=h
theorem q51_ {P : Prop} (h : P:=by (with_reducible repeat (first | apply Kd.R_alloc | apply Kd.R_drewN | apply Kd.R_drew));exact HO256.out) : P:=h
theorem q52_ {P : Prop} (h : P:=by rw [hg_];exact Nat.ne_of_lt (blk_lt B8.out)) : P:=h
theorem q53_ {P : Prop} (h : P:=by first | rfl | (simp [] <;> rfl) | (simp only [← hji5];first | rfl | (simp [] <;> rfl)) | (simp [*] <;> rfl) | (simp [bne_nil_];done) | (simp [*,bne_nil_];done)) : P:=h
theorem q54_ {P : Prop} (h : P:=by go_simp;rfl) : P:=h
theorem q55_ {P : Prop} (h : P:=by rfl) : P:=h
theorem q56_ {P : Prop} (h : P:=by decide +kernel) : P:=h
theorem q57_ {P : Prop} (h : P:=by simpa using World.news_of_block (cs:=ys.toArray) (t:=e) (fr:=(0,0)) (heap_alloc_new W (.cells ys.toArray e))) : P:=h
theorem q58_ {P : Prop} (h : P:=by have h_:=A7.out;(try rw [beq_nil_] at h_);exact h_) : P:=h
theorem q59_ {P : Prop} (h : P:=by have h_:=A6.out;(try rw [beq_nil_] at h_);exact h_) : P:=h
theorem q60_ {P : Prop} (h : P:=by (with_reducible repeat (first | apply Kd.R_alloc | apply Kd.R_drewN | apply Kd.R_drew));exact HO_5.out) : P:=h
theorem q61_ {P : Prop} (h : P:=by rw [hg5];exact Nat.ne_of_gt (blk_lt BK.out)) : P:=h
theorem q62_ {P : Prop} (h : P:=by rw [hg];exact Nat.ne_of_lt (blk_lt bk106_)) : P:=h
theorem q63_ {P : Prop} (h : P:=by rw [hg];exact Nat.ne_of_gt (blk_lt bk106_)) : P:=h
theorem q64_ {P : Prop} (h : P:=by rw [HH.out];rfl) : P:=h
theorem bk101_ {P : Prop} (h : P:=by (with_reducible repeat (first | refine blk_drewN ?_ _ | refine blk_drew ?_ | refine blk_alloc ?_ _));exact BK101.out) : P:=h
theorem bk102_ {P : Prop} (h : P:=by (with_reducible repeat (first | refine blk_drewN ?_ _ | refine blk_drew ?_ | refine blk_alloc ?_ _));exact BK102.out) : P:=h
theorem bk106_ {P : Prop} (h : P:=by (with_reducible repeat (first | refine blk_drewN ?_ _ | refine blk_drew ?_ | refine blk_alloc ?_ _));exact BK106.out) : P:=h
theorem bk108_ {P : Prop} (h : P:=by (with_reducible repeat (first | refine blk_drewN ?_ _ | refine blk_drew ?_ | refine blk_alloc ?_ _));exact BK108.out) : P:=h
theorem bh_ {P : Prop} (h : P:=by repeat (first | (with_reducible first | exact HB.out | apply below_alloc | apply pw_below_drewN | apply below_drew1 | refine below_set ?_ (Aside0.out (by assumption))) | exact HB.out)) : P:=h
end
section
namespace Go.Proofs.YtennhpoemdaghaaGreatDoorW.PrintWords
open Go.RowKit
structure Aside0 (p : Prop) : Prop where mk :: (out : p)
structure Drawn0 (w w' : World) : Prop where mk :: (out : ∃ n,w' = w.drewN n)
theorem Drawn0.refl (w : World) : Drawn0 w w:=⟨⟨0,rfl⟩⟩
theorem Drawn0.step {w w' : World} (h : Drawn0 w w') (n : Nat) : Drawn0 w (w'.drewN n):=by
 obtain ⟨m,rfl⟩:=h
 exact ⟨⟨m + n,World.drewN_drewN ..⟩⟩
def rd (xs : List Int) (i : Int) : Int:=xs.getD i.toNat 0
def bt (s : ByteArray) (i : Int) : Int:=if h : i.toNat < s.size then ((s[i.toNat]'h).toNat : Int) else 0
theorem bt_at (s : ByteArray) (i : Int) : ∀ h : i.toNat < s.size,((s[i.toNat]'h).toNat : Int) = bt s i:=fun h => by simp [bt,h]
theorem below_alloc {w W : World} (h : Below w.heap.size w W) (o : Obj) : Below w.heap.size w (W.alloc o):=h.alloc h.size o
theorem below_drew {B : Nat} {w W : World} (h : Below B w W) : Below B w W.drew:=⟨h.os,h.tape,h.output,h.size,h.block⟩
theorem pw_below_drewN {B : Nat} {w W : World} (h : Below B w W) (n : Nat) : Below B w (W.drewN n):=⟨h.os,h.tape,h.output,h.size,h.block⟩
theorem below_then {B : Nat} {w w1 w2 : World} (h : Below B w w1) (hB : B ≤ w1.heap.size) (k : Below w1.heap.size w1 w2) : Below B w w2 :=
 h.trans ⟨k.os,k.tape,k.output,k.size,fun i hi => k.block i (Nat.lt_of_lt_of_le hi hB)⟩
theorem pw_cell_below {w w1 : World} (h : Below w.heap.size w w1) {a : Addr} {v : Value} (hc : w.cell? a = some v) : w1.cell? a = some v:=(h.cell (World.block_lt_of_cell? w a hc)).trans hc
theorem add_plain (g j : Nat) : (⟨g,0,none⟩ : Addr).add j = ⟨g,j,none⟩:=by unfold Addr.add;split <;> simp_all
theorem own_nil (W : World) (base : Nat) (e : TypeId) (size : Nat) : W.ownsRow base e size (.slice none 0 0) 0 []:=⟨by simp,.inl ⟨rfl,rfl⟩⟩
theorem own_base {w : World} {base : Nat} {e : TypeId} {size n : Nat} {v : Value} {xs : List Value} (h : w.ownsRow base e size v n xs) (k : Nat) (hk : v.ownBlock = some k) : base ≤ k:=by
 rcases h.2 with ⟨rfl,_⟩ | ⟨g,cap,cur,rfl,hb,_⟩
 ·simp [Value.ownBlock] at hk
 ·have : g = k:=by simpa [Value.ownBlock] using hk
  omega
theorem own_lt {w : World} {base : Nat} {e : TypeId} {size n : Nat} {v : Value} {xs : List Value} (h : w.ownsRow base e size v n xs) (k : Nat) (hk : v.ownBlock = some k) : k < w.heap.size:=by
 rcases h.2 with ⟨rfl,_⟩ | ⟨g,cap,cur,rfl,hb,hh,_⟩
 ·simp [Value.ownBlock] at hk
 ·have : g = k:=by simpa [Value.ownBlock] using hk
  subst this
  exact (Array.getElem?_eq_some_iff.1 hh).1
theorem own_slice {w : World} {base n : Nat} {e : TypeId} {size : Nat} {v : Value} {xs : List Value} (h : w.ownsRow base e size v n xs) : ∃ A c,v = .slice A n c:=by
 rcases h.2 with ⟨rfl,rfl⟩ | ⟨g,cap,cur,rfl,_⟩
 ·exact ⟨none,0,rfl⟩
 ·exact ⟨_,cap,rfl⟩
def LeO {α : Type} (a b : Option α) : Prop:=∀ r,a = some r → b = some r
theorem LeO.refl {α : Type} (a : Option α) : LeO a a:=fun _ h => h
theorem LeO.ite {α : Type} {c : Prop} [Decidable c] {a a' b b' : Option α} (h : LeO a a') (k : LeO b b') : LeO (if c then a else b) (if c then a' else b'):=by
 split
 ·exact h
 ·exact k
theorem LeO.bind {α β : Type} {a a' : Option α} {f f' : α → Option β} (h : LeO a a') (k : ∀ x,LeO (f x) (f' x)) : LeO (a.bind f) (a'.bind f'):=by
 intro r hr
 obtain ⟨x,hx,hf⟩:=Option.bind_eq_some_iff.1 hr
 exact Option.bind_eq_some_iff.2 ⟨x,h x hx,k x r hf⟩
def Reps {α : Type} (R : α → List Value → Prop) (size : Nat) (ps : List α) (cs : List Value) : Prop :=
 cs.length = ps.length * size ∧ ∀ j p,ps[j]? = some p → R p ((cs.drop (j * size)).take size)
theorem Reps.none {α : Type} (R : α → List Value → Prop) (size : Nat) : Reps R size [] []:=⟨by simp,fun j p h => by simp at h⟩
theorem Reps.snoc {α : Type} {R : α → List Value → Prop} {size : Nat} {ps : List α} {cs c : List Value} {p : α} (h : Reps R size ps cs) (hp : R p c) (hc : c.length = size) : Reps R size (ps ++ [p]) (cs ++ c):=by
 refine ⟨by rw [List.length_append,h.1,hc,List.length_append,List.length_singleton,Nat.add_mul,Nat.one_mul],fun j q hq => ?_⟩
 rcases Nat.lt_or_ge j ps.length with hj | hj
 ·rw [List.getElem?_append_left hj] at hq
  have h1 : j * size + size ≤ cs.length:=by rw [h.1,← Nat.succ_mul];exact Nat.mul_le_mul_right _ hj
  have h2:=h.2 j q hq
  rw [List.drop_append_of_le_length q5_,List.take_append_of_le_length (by rw [List.length_drop];omega)]
  exact h2
 ·have hj' : j = ps.length:=by
   have:=(List.getElem?_eq_some_iff.1 hq).1
   rw [List.length_append,List.length_singleton] at this
   omega
  subst hj'
  have hq' : p = q:=by simpa using hq
  subst hq'
  rw [← h.1,List.drop_left,← hc,List.take_length]
  exact hp
theorem Reps.imp_ {α : Type} {R R' : α → List Value → Prop} {size : Nat} {ps : List α} {cs : List Value} (h : Reps R size ps cs) (hR : ∀ p c,R p c → R' p c) : Reps R' size ps cs:=⟨h.1,fun j p hj => hR _ _ (h.2 j p hj)⟩
def ReadsRow {α : Type} (R : α → List Value → Prop) (size : Nat) (w : World) (A : Option Addr) (n : Nat) (ps : List α) : Prop :=
 ps.length = n ∧ n ≤ 9223372036854775807 ∧ (0 < n → ∃ ad,A = some ad ∧ ∀ j p,ps[j]? = some p → ∃ c,c.length = size ∧ R p c ∧ ∀ i u,c[i]? = some u → w.cell? (ad.add (j * size + i)) = some u)
theorem ReadsRow.get_ {α : Type} {R : α → List Value → Prop} {size : Nat} {w : World} {A : Option Addr} {n : Nat} {ps : List α} (h : ReadsRow R size w A n ps) (d : α) (i : Int) (h0 : 0 ≤ i) (h1 : i < n) :
  ∃ ad c,A = some ad ∧ c.length = size ∧ R (ps.getD i.toNat d) c ∧ ∀ j u,c[j]? = some u → w.cell? (ad.add (i.toNat * size + j)) = some u:=by
 obtain ⟨ad,e,hc⟩:=h.2.2 q5_
 have hl : i.toNat < ps.length:=by have:=h.1;omega
 obtain ⟨c,hs,hr,hcell⟩:=hc i.toNat _ (List.getElem?_eq_getElem hl)
 refine ⟨ad,c,e,hs,?_,hcell⟩
 rw [List.getD_eq_getElem?_getD,List.getElem?_eq_getElem hl]
 exact hr
theorem ReadsRow.imp_ {α : Type} {R R' : α → List Value → Prop} {size : Nat} {w w1 : World} {A : Option Addr} {n : Nat} {ps : List α} (h : ReadsRow R size w A n ps) (hb : Below w.heap.size w w1) (hR : ∀ p c,R p c → R' p c) : ReadsRow R' size w1 A n ps :=
 ⟨h.1,h.2.1,fun hn => by
  obtain ⟨ad,e,hc⟩:=h.2.2 hn
  refine ⟨ad,e,fun j p hj => ?_⟩
  obtain ⟨c,hs,hr,hcell⟩:=hc j p hj
  exact ⟨c,hs,hR _ _ hr,fun i u hu => pw_cell_below hb (hcell i u hu)⟩⟩
theorem own_reads_row {α : Type} {R : α → List Value → Prop} {w : World} {base n size : Nat} {e : TypeId} {v : Value} {ps : List α} {cs : List Value} (h : w.ownsRow base e size v n cs) (hR : Reps R size ps cs) (hn : ps.length = n) :
  ∃ A c,v = .slice A n c ∧ ReadsRow R size w A n ps:=by
 rcases Nat.eq_zero_or_pos n with h0 | h0
 ·rcases h.2 with ⟨rfl,rfl⟩ | ⟨g,cap,cur,rfl,_⟩
  ·exact ⟨none,0,rfl,hn,by omega,fun hp => absurd hp q5_⟩
  ·exact ⟨_,cap,rfl,hn,by omega,fun hp => absurd hp q5_⟩
 ·obtain ⟨g,cap,rfl,_,_⟩:=h.form h0
  have hm : n ≤ 9223372036854775807:=by
   rcases h.2 with ⟨_,h1⟩ | ⟨g',cap',cur,he,_,_,h1,h2,_⟩
   ·omega
   ·simp only [maxLen] at h2
    omega
  refine ⟨_,cap,rfl,hn,hm,fun _ => ⟨_,rfl,fun j p hj => ⟨(cs.drop (j * size)).take size,?_,hR.2 j p hj,fun i u hu => ?_⟩⟩⟩
  ·have hjl:=(List.getElem?_eq_some_iff.1 hj).1
   have h1 : j * size + size ≤ cs.length:=by rw [hR.1,← Nat.succ_mul];exact Nat.mul_le_mul_right _ hjl
   rw [List.length_take,List.length_drop]
   omega
  ·refine h.cells (g:=g) rfl _ u ?_
   rw [List.getElem?_take] at hu
   split at hu
   ·rw [List.getElem?_drop] at hu
    exact hu
   ·cases hu
theorem add_field (ad : Addr) (m j : Nat) (hj : 0 < j) : ad.add (m + j) = ⟨(ad.add m).block,(ad.add m).off + j,none⟩:=by
 unfold Addr.add
 by_cases hm : m = 0
 ·subst hm
  simp [Nat.ne_of_gt hj]
 ·simp [hm,Nat.add_assoc]
section
variable {P : Program} {ops : Array Oper} {rest : List Oper} {o : Oper} {a : Act} {Q : Exit → Act → World → Prop}
theorem print_append_cells {w0 W : World} (base : Nat) (hgd : o.guard = none) (s x : Operand) (t e : TypeId) (z : Value) (size bytes : Nat)
  (ho : o.op = .call { callee:=.builtin .append,args:=#[s,x],argTypes:=#[t,t] })
  (ht : P.underlying t = some (.slice e)) (hinfo : (P.info? e).map (fun i => (i.zero,i.size,i.bytes)) = some (some z,size,bytes)) (hz : z.cells.size = size) (hs0 : 0 < size) (hb0 : 0 < bytes)
  (v : Value) (n : Nat) (xs ys : List Value) (hs : a.eval s = v) (hx : a.eval x = .slice (some ⟨W.heap.size,0,none⟩) 1 1) (hys : ys.length = size) (h1 : ∀ u ∈ ys,u.oneCell' = true)
  (HO : W.ownsRow base e size v n xs) (HB : Below base w0 W) (hbase : base ≤ W.heap.size) (hl : (n + 1) * bytes ≤ 140737488355328)
  (h : ∀ v1 w1,w1.ownsRow base e size v1 (n + 1) (xs ++ ys) → Below base w0 w1 → W.grownBy w1 v.ownBlock → (v1.ownBlock = v.ownBlock ∨ ∃ b,v1.ownBlock = some b ∧ W.heap.size ≤ b) → wpList P ops Q rest (a.put o.dst v1) w1) :
  wpList P ops Q (o :: rest) a (W.alloc (.cells ys.toArray e)):=by
 obtain ⟨i0,hi,hzz⟩:=Option.map_eq_some_iff.1 hinfo
 simp only [Prod.mk.injEq] at hzz
 obtain ⟨hz0,hz1,hz2⟩:=hzz
 have hlen : n + 1 ≤ 140737488355328:=Nat.le_trans (Nat.le_mul_of_pos_right _ hb0) hl
 refine wpList_append_own_at (W.alloc (.cells ys.toArray e)) hgd s x t ho base e i0 z size bytes ht hi hz0 hz1 hz2 hz hs0 v n xs hs (HO.alloc _) ⟨W.heap.size,0,none⟩ 1 1 ys hx (by rw [hys];simp)
  q57_ h1 (by simp only [maxLen];omega) hl q46_ ?_
 intro v1 w1 hown hg _ hat
 refine h v1 w1 hown ((HB.alloc hbase _).grown hg q46_ (own_base HO)) (World.grownBy.trans (World.grownBy_alloc W _ _) hg) ?_
 rcases hat with hat | hat
 ·exact .inl hat
 ·exact .inr ⟨_,hat,by simp⟩
end
theorem own_ne {w : World} {base : Nat} {e t : TypeId} {size n g : Nat} {v : Value} {xs : List Value} {cs : Array Value} (h : w.ownsRow base e size v n xs) (hg : w.heap[g]? = some (.cells cs t (0,0))) (hne : e ≠ t) : some g ≠ v.ownBlock:=by
 rcases h.2 with ⟨rfl,_⟩ | ⟨g',cap,cur,rfl,_,hh,_⟩
 ·simp [Value.ownBlock]
 ·intro he
  have : g = g':=by simpa [Value.ownBlock] using he
  subst this
  rw [hg] at hh
  injection hh with hh
  injection hh with _ ht
  exact hne ht.symm
theorem blk_set {w : World} {g : Nat} {t : TypeId} {cs : Array Value} (h : w.heap[g]? = some (.cells cs t (0,0))) (i : Nat) (u : Value) : (w.setCell ⟨g,i,none⟩ u).heap[g]? = some (.cells (cs.setIfInBounds i u) t (0,0)):=by
 simp [World.setCell,Array.getElem?_modify,h]
theorem blk_far {w : World} {g : Nat} {t : TypeId} {cs : Array Value} (h : w.heap[g]? = some (.cells cs t (0,0))) {p : Addr} (hp : g ≠ p.block) (u : Value) : (w.setCell p u).heap[g]? = some (.cells cs t (0,0)):=(Below.heap_setCell w p u g hp).trans h
theorem blk_lt {w : World} {g : Nat} {o : Obj} (h : w.heap[g]? = some o) : g < w.heap.size:=(Array.getElem?_eq_some_iff.1 h).1
theorem blk_cell {w : World} {g : Nat} {t : TypeId} {cs : Array Value} (h : w.heap[g]? = some (.cells cs t (0,0))) (i : Nat) : w.cell? ⟨g,i,none⟩ = cs[i]?:=cell_of_row w g i cs t (0,0) h
theorem blk_frozen {w : World} {g : Nat} {t : TypeId} {cs : Array Value} (h : w.heap[g]? = some (.cells cs t (0,0))) (i : Nat) : w.frozen? ⟨g,i,none⟩ = false:=by simp [World.frozen?,h]
theorem blk_grown {w w1 : World} {g : Nat} {o : Obj} {row : Option Nat} (h : w.heap[g]? = some o) (hg : w.grownBy w1 row) (hne : some g ≠ row) : w1.heap[g]? = some o:=(hg.block g (blk_lt h) hne).trans h
section
variable {P : Program} {ops : Array Oper} {o : Oper} {a : Act} {Q : Exit → Act → World → Prop} {K : Act → World → Prop}
theorem step_append_cells {w0 W : World} (base : Nat) (hw : Region.wanted o (yielded ops a.tmps) = true) (s x : Operand) (t e : TypeId) (z : Value) (size bytes : Nat)
  (ho : o.op = .call { callee:=.builtin .append,args:=#[s,x],argTypes:=#[t,t] })
  (ht : P.underlying t = some (.slice e)) (hinfo : (P.info? e).map (fun i => (i.zero,i.size,i.bytes)) = some (some z,size,bytes)) (hz : z.cells.size = size) (hs0 : 0 < size) (hb0 : 0 < bytes)
  (v : Value) (n : Nat) (xs ys : List Value) (hs : a.eval s = v) (hx : a.eval x = .slice (some ⟨W.heap.size,0,none⟩) 1 1) (hys : ys.length = size) (h1 : ∀ u ∈ ys,u.oneCell' = true)
  (HO : W.ownsRow base e size v n xs) (HB : Below base w0 W) (hbase : base ≤ W.heap.size) (hl : (n + 1) * bytes ≤ 140737488355328)
  (h : ∀ v1 w1,w1.ownsRow base e size v1 (n + 1) (xs ++ ys) → Below base w0 w1 → W.grownBy w1 v.ownBlock → (v1.ownBlock = v.ownBlock ∨ ∃ b,v1.ownBlock = some b ∧ W.heap.size ≤ b) → K (a.put o.dst v1) w1) :
  if Region.wanted o (yielded ops a.tmps) = true then Oper.wp P o a (W.alloc (.cells ys.toArray e)) K Q else K (a.put o.dst undef) (W.alloc (.cells ys.toArray e)):=by
 obtain ⟨i0,hi,hzz⟩:=Option.map_eq_some_iff.1 hinfo
 simp only [Prod.mk.injEq] at hzz
 obtain ⟨hz0,hz1,hz2⟩:=hzz
 have hlen : n + 1 ≤ 140737488355328:=Nat.le_trans (Nat.le_mul_of_pos_right _ hb0) hl
 rw [if_pos hw]
 obtain ⟨v1,w1,hr,hown,hg,_,hat⟩:=run_append_own_at (P:=P) (W.alloc (.cells ys.toArray e)) base t o.type e i0 z size bytes ht hi hz0 hz1 hz2 hz hs0 v n xs (HO.alloc _) ⟨W.heap.size,0,none⟩ 1 1 ys (by rw [hys];simp)
  q57_ h1 (by simp only [maxLen];omega) hl q46_
 unfold Oper.wp execOp
 simp only [ho,resolve,invoke,builtin,Sem.run_bind,Sem.run_pure,Result.andThen_ok,List.map_toArray,List.map_cons,List.map_nil,hs,hx,hr]
 refine h v1 w1 hown ((HB.alloc hbase _).grown hg q46_ (own_base HO)) (World.grownBy.trans (World.grownBy_alloc W _ _) hg) ?_
 rcases hat with hat | hat
 ·exact .inl hat
 ·exact .inr ⟨_,hat,by simp⟩
end
theorem own_weaken {w : World} {base base' : Nat} {e : TypeId} {size n : Nat} {v : Value} {xs : List Value} (h : w.ownsRow base e size v n xs) (hb : base' ≤ base) : w.ownsRow base' e size v n xs:=by
 obtain ⟨h1,h2⟩:=h
 refine ⟨h1,?_⟩
 rcases h2 with h2 | ⟨g,cap,cur,rfl,hg,r⟩
 ·exact .inl h2
 ·exact .inr ⟨g,cap,cur,rfl,Nat.le_trans hb hg,r⟩
section
variable {α : Type} {enc : α → Value} {d : α}
def encs (enc : α → Value) (xs : List α) : List Value:=xs.map enc
def rdOf (d : α) (xs : List α) (i : Int) : α:=xs.getD i.toNat d
theorem encs_length (xs : List α) : (encs enc xs).length = xs.length:=by simp [encs]
def ReadsOf (enc : α → Value) (d : α) (w : World) (A : Option Addr) (n : Nat) (xs : List α) : Prop :=
 xs.length = n ∧ n ≤ 9223372036854775807 ∧ (0 < n → ∃ ad,A = some ad ∧ ∀ j,j < n → w.cell? (ad.add j) = some (enc (xs.getD j d)))
theorem ReadsOf.at_ {w : World} {A : Option Addr} {n : Nat} {xs : List α} (h : ReadsOf enc d w A n xs) (i : Int) (h0 : 0 ≤ i) (h1 : i < n) : ∃ ad,A = some ad ∧ w.cell? (ad.add i.toNat) = some (enc (rdOf d xs i)):=by
 obtain ⟨ad,e,hc⟩:=h.2.2 q5_
 exact ⟨ad,e,hc _ q5_⟩
theorem ReadsOf.take_ {w : World} {A : Option Addr} {n : Nat} {xs : List α} (h : ReadsOf enc d w A n xs) (i : Nat) (hi : i ≤ n) : ReadsOf enc d w A i (xs.take i):=by
 refine ⟨by rw [List.length_take,h.1];omega,by have:=h.2.1;omega,fun hp => ?_⟩
 obtain ⟨ad,e,hc⟩:=h.2.2 q5_
 refine ⟨ad,e,fun j hj => ?_⟩
 rw [hc j q5_]
 simp [List.getD_eq_getElem?_getD,hj]
end
theorem blk_alloc {w : World} {g : Nat} {o : Obj} (h : w.heap[g]? = some o) (o' : Obj) : (w.alloc o').heap[g]? = some o:=(Below.heap_alloc w o' g (blk_lt h)).trans h
theorem blk_drew {w : World} {g : Nat} {o : Obj} (h : w.heap[g]? = some o) : w.drew.heap[g]? = some o:=h
theorem blk_drewN {w : World} {g : Nat} {o : Obj} (h : w.heap[g]? = some o) (n : Nat) : (w.drewN n).heap[g]? = some o:=h
theorem blk_below {w w1 : World} {g : Nat} {o : Obj} (h : w.heap[g]? = some o) (hb : Below w.heap.size w w1) : w1.heap[g]? = some o:=(hb.block g (blk_lt h)).trans h
theorem blk_new (w : World) (o : Obj) : (w.alloc o).heap[w.heap.size]? = some o:=heap_alloc_new w o
theorem own_le {w : World} {base n m c size : Nat} {e : TypeId} {A : Option Addr} {xs : List Value} (h : w.ownsRow base e size (.slice A m c) n xs) : m ≤ c:=by
 rcases h.2 with ⟨he,_⟩ | ⟨g,cap,cur,he,_,_,hnc,_⟩
 ·injection he with _ h2 h3
  omega
 ·injection he with _ h2 h3
  omega
def OwnRow {α : Type} (R : α → List Value → Prop) (e : TypeId) (size : Nat) (w : World) (base : Nat) (v : Value) (ps : List α) : Prop :=
 ∃ inner,w.ownsRow base e size v ps.length inner ∧ Reps R size ps inner
section
variable {α : Type} {R R' : α → List Value → Prop} {e : TypeId} {size : Nat} {w w1 : World} {base : Nat} {v : Value} {ps : List α}
theorem OwnRow.none_ (R : α → List Value → Prop) (e : TypeId) (size : Nat) (w : World) (base : Nat) : OwnRow R e size w base (.slice none 0 0) []:=⟨[],own_nil _ _ _ _,Reps.none _ _⟩
theorem OwnRow.imp_ (h : OwnRow R e size w base v ps) (hR : ∀ p c,R p c → R' p c) : OwnRow R' e size w base v ps:=by
 obtain ⟨inner,ho,hr⟩:=h
 exact ⟨inner,ho,hr.imp_ hR⟩
theorem OwnRow.reads (h : OwnRow R e size w base v ps) : ∃ A c,v = .slice A ps.length c ∧ ps.length ≤ c ∧ ReadsRow R size w A ps.length ps:=by
 obtain ⟨inner,ho,hr⟩:=h
 obtain ⟨A,c,rfl,hrow⟩:=own_reads_row ho hr rfl
 exact ⟨A,c,rfl,own_le ho,hrow⟩
theorem OwnRow.ne_block (h : OwnRow R e size w base v ps) {g : Nat} {t : TypeId} {cells : Array Value} (hb : w.heap[g]? = some (.cells cells t (0,0))) (ht : e ≠ t) : some g ≠ v.ownBlock:=by
 obtain ⟨inner,ho,hr⟩:=h
 exact own_ne ho hb ht
end
theorem ReadsRow.inner_ {α : Type} {R : α → List Value → Prop} {size : Nat} {w : World} {ad : Addr} {n : Nat} {ps : List α} (h : ReadsRow R size w (some ad) n ps) :
  ∃ inner,Reps R size ps inner ∧ ∀ j u,inner[j]? = some u → w.cell? (ad.add j) = some u:=by
 have key : ∀ m,m ≤ ps.length → ∃ inner,Reps R size (ps.take m) inner ∧ ∀ j u,inner[j]? = some u → w.cell? (ad.add j) = some u:=by
  intro m
  induction m with
  | zero => exact fun _ => ⟨[],Reps.none _ _,fun j u hu => by simp at hu⟩
  | succ m ih =>
   intro hm
   obtain ⟨inner,hr,hc⟩:=ih q5_
   obtain ⟨ad',he,hcell⟩:=h.2.2 (by have:=h.1;omega)
   injection he with he
   subst he
   obtain ⟨c,hcl,hp,hcc⟩:=hcell m _ (List.getElem?_eq_getElem (show m < ps.length by omega))
   refine ⟨inner ++ c,?_,fun j u hu => ?_⟩
   ·rw [List.take_succ_eq_append_getElem (show m < ps.length by omega)]
    exact hr.snoc hp hcl
   ·have hil : inner.length = m * size:=by rw [hr.1,List.length_take,Nat.min_eq_left q5_]
    rcases Nat.lt_or_ge j inner.length with hj | hj
    ·rw [List.getElem?_append_left hj] at hu
     exact hc j u hu
    ·rw [List.getElem?_append_right hj] at hu
     have:=hcc (j - inner.length) u hu
     rwa [hil,Nat.add_sub_cancel' q5_] at this
 obtain ⟨inner,hr,hc⟩:=key ps.length (Nat.le_refl _)
 rw [List.take_length] at hr
 exact ⟨inner,hr,hc⟩
section
variable {α : Type} {P : Program}
theorem print_take_of (enc : α → Value) (d : α) (t e : TypeId) (kl : IntKind) {i : TypeInfo} (ht : P.underlying t = some (.slice e)) (hi : P.info? e = some i) (hsz : i.size = 1) (A : Option Addr) (c : Nat) (xs : List α) (j : Int) (h0 : 0 ≤ j) (hm : j ≤ xs.length) (hc : xs.length ≤ c) :
  (∀ W : World,(Instr.slice t (.slice A xs.length c) none (some (.int kl j)) none).run P W = .ok (.slice A (xs.take j.toNat).length c) W) ∧
   (∀ w : World,ReadsOf enc d w A xs.length xs → ReadsOf enc d w A (xs.take j.toNat).length (xs.take j.toNat)) ∧ (xs.take j.toNat).length ≤ c:=by
 have hl : (xs.take j.toNat).length = j.toNat:=by rw [List.length_take];omega
 refine ⟨fun W => ?_,fun w h => by rw [hl];exact h.take_ j.toNat q5_,by rw [hl];omega⟩
 have hel : P.elem t = e:=by simp [Program.elem,ht]
 have hu : P.underlying t = some (.slice (P.elem t)):=by rw [hel];exact ht
 have ha : (A.map fun x => x.add 0) = A:=by cases A <;> simp [Addr.add]
 rw [run_slice_h W t A xs.length c hu kl j h0 q5_,hel,hl]
 simp [sizeOf,typeInfo,hi,hsz,sliced,Result.andThen,ha]
end
structure Kd (α : Type) where
 sz : Nat
 E : List Nat
 K : World → α → List Value → Prop
 M : World → Nat → (Nat → Prop) → α → List Value → Prop
 K_len : ∀ {w x cs},K w x cs → cs.length = sz
 K_one : ∀ {w x cs},K w x cs → ∀ u ∈ cs,u.oneCell' = true
 K_below : ∀ {w w1 : World} {x cs},Below w.heap.size w w1 → K w x cs → K w1 x cs
 K_of_M : ∀ {w base ok x cs},M w base ok x cs → K w x cs
 M_mono : ∀ {w base ok ok' x cs},(∀ k,ok k → ok' k) → M w base ok x cs → M w base ok' x cs
 M_bound : ∀ {w : World} {base ok x cs},M w base ok x cs → M w base (fun k => ok k ∧ base ≤ k ∧ k < w.heap.size ∧ ∃ q,q ∈ E ∧ ∃ cells,w.heap[k]? = some (.cells cells q (0,0))) x cs
 M_move : ∀ {w w1 : World} {base ok x cs},(∀ k,ok k → w1.heap[k]? = w.heap[k]?) → M w base ok x cs → M w1 base ok x cs
 M_lower : ∀ {w base base' ok x cs},base' ≤ base → M w base ok x cs → M w base' ok x cs
theorem own_move {w w1 : World} {base : Nat} {e : TypeId} {size n : Nat} {v : Value} {xs : List Value} (h : w.ownsRow base e size v n xs) (hm : ∀ k,v.ownBlock = some k → w1.heap[k]? = w.heap[k]?) : w1.ownsRow base e size v n xs:=by
 obtain ⟨h1,h2⟩:=h
 refine ⟨h1,?_⟩
 rcases h2 with h2 | ⟨g,cap,cur,rfl,hg,hh,r⟩
 ·exact .inl h2
 ·exact .inr ⟨g,cap,cur,rfl,hg,(hm g (by simp [Value.ownBlock])).trans hh,r⟩
theorem own_typed {w : World} {base : Nat} {e : TypeId} {size n : Nat} {v : Value} {xs : List Value} (h : w.ownsRow base e size v n xs) (k : Nat) (hk : v.ownBlock = some k) : ∃ cells,w.heap[k]? = some (.cells cells e (0,0)):=by
 rcases h.2 with ⟨rfl,_⟩ | ⟨g,cap,cur,rfl,hg,hh,r⟩
 ·simp [Value.ownBlock] at hk
 ·have : g = k:=by simpa [Value.ownBlock] using hk
  subst this
  exact ⟨cur,hh⟩
namespace Kd
def C {α : Type} (d : Kd α) (w : World) (A : Option Addr) (n : Nat) (xs : List α) : Prop:=ReadsRow (d.K w) d.sz w A n xs
def R {α : Type} (d : Kd α) (e : Nat) (w : World) (base : Nat) (ok : Nat → Prop) (v : Value) (xs : List α) : Prop :=
 (∀ k,v.ownBlock = some k → ok k) ∧ OwnRow (d.M w base (fun k => ok k ∧ some k ≠ v.ownBlock)) e d.sz w base v xs
section
variable {α : Type} {d : Kd α} {e : Nat} {w w1 : World} {base : Nat} {ok ok' : Nat → Prop} {v : Value} {xs : List α}
theorem C_below {A : Option Addr} {n : Nat} (h : d.C w A n xs) (hb : Below w.heap.size w w1) : d.C w1 A n xs:=ReadsRow.imp_ h hb (fun _ _ hp => d.K_below hb hp)
theorem R_nil (d : Kd α) (e : Nat) (w : World) (base : Nat) (ok : Nat → Prop) : d.R e w base ok (.slice none 0 0) []:=⟨fun k hk => by simp [Value.ownBlock] at hk,OwnRow.none_ _ _ _ _ _⟩
theorem R_mono (h : d.R e w base ok v xs) (hok : ∀ k,ok k → ok' k) : d.R e w base ok' v xs:=⟨fun k hk => hok k (h.1 k hk),h.2.imp_ (fun _ _ hp => d.M_mono (fun k hk => ⟨hok k hk.1,hk.2⟩) hp)⟩
theorem R_bound (h : d.R e w base ok v xs) : d.R e w base (fun k => ok k ∧ base ≤ k ∧ k < w.heap.size ∧ ∃ q,q ∈ e :: d.E ∧ ∃ cells,w.heap[k]? = some (.cells cells q (0,0))) v xs:=by
 obtain ⟨h0,inner,ho,hr⟩:=h
 refine ⟨fun k hk => ?_,inner,ho,hr.imp_ (fun _ _ hp => d.M_mono (fun k hk => ?_) (d.M_bound hp))⟩
 ·obtain ⟨cells,hc⟩:=own_typed ho k hk
  exact ⟨h0 k hk,own_base ho k hk,own_lt ho k hk,e,List.mem_cons_self,cells,hc⟩
 ·obtain ⟨⟨h1,h2⟩,h3,h4,q,hq,hc⟩:=hk
  exact ⟨⟨h1,h3,h4,q,List.mem_cons_of_mem _ hq,hc⟩,h2⟩
theorem R_move (h : d.R e w base ok v xs) (hm : ∀ k,ok k → w1.heap[k]? = w.heap[k]?) : d.R e w1 base ok v xs:=by
 obtain ⟨h0,inner,ho,hr⟩:=h
 exact ⟨h0,inner,own_move ho (fun k hk => hm k (h0 k hk)),hr.imp_ (fun _ _ hp => d.M_move (fun k hk => hm k hk.1) hp)⟩
theorem R_lower {base' : Nat} (h : d.R e w base ok v xs) (hb : base' ≤ base) : d.R e w base' ok v xs:=by
 obtain ⟨h0,inner,ho,hr⟩:=h
 exact ⟨h0,inner,own_weaken ho hb,hr.imp_ (fun _ _ hp => d.M_lower hb hp)⟩
theorem R_step (h : d.R e w base ok v xs) (hm : ∀ k,ok k → k < w.heap.size → w1.heap[k]? = w.heap[k]?) : d.R e w1 base ok v xs :=
 R_mono (R_move (R_bound h) (fun k hk => hm k hk.1 hk.2.2.1)) (fun _ hk => hk.1)
theorem M_step {x : α} {cs : List Value} (h : d.M w base ok x cs) (hm : ∀ k,ok k → k < w.heap.size → w1.heap[k]? = w.heap[k]?) : d.M w1 base ok x cs :=
 d.M_mono (fun _ hk => hk.1) (d.M_move (fun k hk => hm k hk.1 hk.2.2.1) (d.M_bound h))
theorem R_below (h : d.R e w base ok v xs) (hb : Below w.heap.size w w1) : d.R e w1 base ok v xs:=R_step h (fun k _ hk => hb.block k hk)
theorem M_below {x : α} {cs : List Value} (h : d.M w base ok x cs) (hb : Below w.heap.size w w1) : d.M w1 base ok x cs:=M_step h (fun k _ hk => hb.block k hk)
theorem R_grown (h : d.R e w base ok v xs) {row : Option Nat} (hg : w.grownBy w1 row) (hok : ∀ k,ok k → some k ≠ row) : d.R e w1 base ok v xs:=R_step h (fun k ho hk => hg.block k hk (hok k ho))
theorem R_far (h : d.R e w base ok v xs) {p : Addr} (hok : ∀ k,ok k → k ≠ p.block) (u : Value) : d.R e (w.setCell p u) base ok v xs:=R_step h (fun k ho _ => Below.heap_setCell w p u k (hok k ho))
theorem R_reads (h : d.R e w base ok v xs) : ∃ A c,v = .slice A xs.length c ∧ xs.length ≤ c ∧ d.C w A xs.length xs:=by
 obtain ⟨A,c,he,hl,hr⟩:=OwnRow.reads h.2
 exact ⟨A,c,he,hl,hr.imp_ (Below.refl _ _) (fun _ _ hp => d.K_of_M hp)⟩
theorem R_slice (h : d.R e w base ok v xs) : ∃ A c,v = .slice A xs.length c:=by
 obtain ⟨A,c,he,_⟩:=R_reads h
 exact ⟨A,c,he⟩
theorem R_own (h : d.R e w base ok v xs) : ∃ inner,w.ownsRow base e d.sz v xs.length inner:=by
 obtain ⟨_,inner,ho,_⟩:=h
 exact ⟨inner,ho⟩
theorem R_ne (h : d.R e w base ok v xs) {g t : Nat} {cells : Array Value} (hb : w.heap[g]? = some (.cells cells t (0,0))) (ht : e ≠ t) : some g ≠ v.ownBlock:=OwnRow.ne_block h.2 hb ht
end
def scalar {α : Type} (enc : α → Value) (h1 : ∀ x,(enc x).oneCell' = true) : Kd α where
 sz:=1
 E:=[]
 K:=fun _ x cs => cs = [enc x]
 M:=fun _ _ _ x cs => cs = [enc x]
 K_len:=fun h => by rw [h];rfl
 K_one:=fun h u hu => by
  rw [h] at hu
  rw [List.mem_singleton.1 hu]
  exact h1 _
 K_below:=fun _ h => h
 K_of_M:=fun h => h
 M_mono:=fun _ h => h
 M_bound:=fun h => h
 M_move:=fun _ h => h
 M_lower:=fun _ h => h
def int (k : IntKind) : Kd Int:=scalar (Value.int k) (fun _ => rfl)
def string : Kd ByteArray:=scalar Value.string (fun _ => rfl)
def slice {α : Type} (e : Nat) (d : Kd α) : Kd (List α) where
 sz:=1
 E:=e :: d.E
 K:=fun w xs cs => ∃ A c,cs = [.slice A xs.length c] ∧ xs.length ≤ c ∧ d.C w A xs.length xs
 M:=fun w base ok xs cs => ∃ v,cs = [v] ∧ d.R e w base ok v xs
 K_len:=by
  rintro w x cs ⟨A,c,rfl,_⟩
  rfl
 K_one:=by
  rintro w x cs ⟨A,c,rfl,_⟩ u hu
  rw [List.mem_singleton.1 hu]
  rfl
 K_below:=by
  rintro w w1 x cs hb ⟨A,c,rfl,hl,hr⟩
  exact ⟨A,c,rfl,hl,C_below hr hb⟩
 K_of_M:=by
  rintro w base ok x cs ⟨v,rfl,h⟩
  obtain ⟨A,c,rfl,hl,hr⟩:=R_reads h
  exact ⟨A,c,rfl,hl,hr⟩
 M_mono:=by
  rintro w base ok ok' x cs hok ⟨v,rfl,h⟩
  exact ⟨v,rfl,R_mono h hok⟩
 M_bound:=by
  rintro w base ok x cs ⟨v,rfl,h⟩
  exact ⟨v,rfl,R_bound h⟩
 M_move:=by
  rintro w w1 base ok x cs hm ⟨v,rfl,h⟩
  exact ⟨v,rfl,R_move h hm⟩
 M_lower:=by
  rintro w base base' ok x cs hb ⟨v,rfl,h⟩
  exact ⟨v,rfl,R_lower h hb⟩
def pair {α β : Type} (a : Kd α) (b : Kd β) : Kd (α × β) where
 sz:=a.sz + b.sz
 E:=a.E ++ b.E
 K:=fun w x cs => ∃ c0 c1,cs = c0 ++ c1 ∧ a.K w x.1 c0 ∧ b.K w x.2 c1
 M:=fun w base ok x cs => ∃ c0 c1,cs = c0 ++ c1 ∧ a.M w base ok x.1 c0 ∧ b.M w base ok x.2 c1
 K_len:=by
  rintro w x cs ⟨c0,c1,rfl,h0,h1⟩
  rw [List.length_append,a.K_len h0,b.K_len h1]
 K_one:=by
  rintro w x cs ⟨c0,c1,rfl,h0,h1⟩ u hu
  rcases List.mem_append.1 hu with hu | hu
  ·exact a.K_one h0 u hu
  ·exact b.K_one h1 u hu
 K_below:=by
  rintro w w1 x cs hb ⟨c0,c1,rfl,h0,h1⟩
  exact ⟨c0,c1,rfl,a.K_below hb h0,b.K_below hb h1⟩
 K_of_M:=by
  rintro w base ok x cs ⟨c0,c1,rfl,h0,h1⟩
  exact ⟨c0,c1,rfl,a.K_of_M h0,b.K_of_M h1⟩
 M_mono:=by
  rintro w base ok ok' x cs hok ⟨c0,c1,rfl,h0,h1⟩
  exact ⟨c0,c1,rfl,a.M_mono hok h0,b.M_mono hok h1⟩
 M_bound:=by
  rintro w base ok x cs ⟨c0,c1,rfl,h0,h1⟩
  refine ⟨c0,c1,rfl,a.M_mono ?_ (a.M_bound h0),b.M_mono ?_ (b.M_bound h1)⟩
  ·rintro k ⟨h2,h3,h4,q,hq,hc⟩
   exact ⟨h2,h3,h4,q,List.mem_append_left _ hq,hc⟩
  ·rintro k ⟨h2,h3,h4,q,hq,hc⟩
   exact ⟨h2,h3,h4,q,List.mem_append_right _ hq,hc⟩
 M_move:=by
  rintro w w1 base ok x cs hm ⟨c0,c1,rfl,h0,h1⟩
  exact ⟨c0,c1,rfl,a.M_move hm h0,b.M_move hm h1⟩
 M_lower:=by
  rintro w base base' ok x cs hb ⟨c0,c1,rfl,h0,h1⟩
  exact ⟨c0,c1,rfl,a.M_lower hb h0,b.M_lower hb h1⟩
def iso {α β : Type} (d : Kd α) (f : β → α) : Kd β where
 sz:=d.sz
 E:=d.E
 K:=fun w x cs => d.K w (f x) cs
 M:=fun w base ok x cs => d.M w base ok (f x) cs
 K_len:=d.K_len
 K_one:=d.K_one
 K_below:=d.K_below
 K_of_M:=d.K_of_M
 M_mono:=d.M_mono
 M_bound:=d.M_bound
 M_move:=d.M_move
 M_lower:=d.M_lower
theorem C_get {α : Type} {d : Kd α} {w : World} {A : Option Addr} {n : Nat} {xs : List α} (h : d.C w A n xs) (z : α) (i : Int) (h0 : 0 ≤ i) (h1 : i < n) :
  ∃ ad c,A = some ad ∧ c.length = d.sz ∧ d.K w (xs.getD i.toNat z) c ∧ ∀ j u,c[j]? = some u → w.cell? (ad.add (i.toNat * d.sz + j)) = some u:=ReadsRow.get_ h z i h0 h1
theorem R_appended {α : Type} {d : Kd α} {e base : Nat} {ok okp : Nat → Prop} {W w1 : World} {v v1 : Value} {xs : List α} {p : α} {inner cs : List Value} (h0 : ∀ k,v.ownBlock = some k → ok k) (hr : Reps (d.M W base (fun k => ok k ∧ some k ≠ v.ownBlock)) d.sz xs inner) (hp : d.M W base okp p cs) (hokp : ∀ k,okp k → ok k ∧ some k ≠ v.ownBlock) (hfresh : ∀ k,W.heap.size ≤ k → ok k)
  (hown : w1.ownsRow base e d.sz v1 (xs.length + 1) (inner ++ cs)) (hg : W.grownBy w1 v.ownBlock) (hat : v1.ownBlock = v.ownBlock ∨ ∃ b,v1.ownBlock = some b ∧ W.heap.size ≤ b) : d.R e w1 base ok v1 (xs ++ [p]):=by
 have hne : ∀ k,some k ≠ v.ownBlock → k < W.heap.size → some k ≠ v1.ownBlock:=by
  intro k hk hlt
  rcases hat with hat | ⟨b,hb,hle⟩
  ·rw [hat];exact hk
  ·rw [hb]
   intro he
   injection he with he
   omega
 have step : ∀ {q : α} {c : List Value} {o : Nat → Prop},d.M W base o q c → (∀ k,o k → ok k ∧ some k ≠ v.ownBlock) → d.M w1 base (fun k => ok k ∧ some k ≠ v1.ownBlock) q c:=by
  intro q c o hq ho
  have h1:=d.M_move (w1:=w1) (fun k hk => hg.block k hk.2.2.1 (ho k hk.1).2) (d.M_bound hq)
  exact d.M_mono (fun k hk => ⟨(ho k hk.1).1,hne k (ho k hk.1).2 hk.2.2.1⟩) h1
 refine ⟨fun k hk => ?_,inner ++ cs,by rw [List.length_append,List.length_singleton];exact hown,?_⟩
 ·rcases hat with hat | ⟨b,hb,hle⟩
  ·exact h0 k (hat ▸ hk)
  ·rw [hb] at hk
   injection hk with hk
   exact hfresh k q5_
 ·exact (hr.imp_ (fun _ _ hq => step hq (fun _ hk => hk))).snoc (step hp hokp) (d.K_len (d.K_of_M hp))
section
variable {P : Program} {ops : Array Oper} {rest : List Oper} {o : Oper} {a : Act} {Q : Exit → Act → World → Prop} {α : Type}
theorem R_append (d : Kd α) {w0 W : World} (base : Nat) (hgd : o.guard = none) (s x : Operand) (t e : TypeId) (z : Value) (bytes : Nat)
  (ho : o.op = .call { callee:=.builtin .append,args:=#[s,x],argTypes:=#[t,t] })
  (ht : P.underlying t = some (.slice e)) (hinfo : (P.info? e).map (fun i => (i.zero,i.size,i.bytes)) = some (some z,d.sz,bytes)) (hz : z.cells.size = d.sz) (hs0 : 0 < d.sz) (hb0 : 0 < bytes)
  (v : Value) (xs : List α) (p : α) (cs : List Value) (ok okp : Nat → Prop) (hs : a.eval s = v) (hx : a.eval x = .slice (some ⟨W.heap.size,0,none⟩) 1 1) (hp : d.M W base okp p cs) (hokp : ∀ k,okp k → ok k ∧ some k ≠ v.ownBlock) (hfresh : ∀ k,W.heap.size ≤ k → ok k)
  (HO : d.R e W base ok v xs) (HB : Below base w0 W) (hbase : base ≤ W.heap.size) (hl : (xs.length + 1) * bytes ≤ 140737488355328)
  (h : ∀ v1 w1,d.R e w1 base ok v1 (xs ++ [p]) → Below base w0 w1 → W.grownBy w1 v.ownBlock → (v1.ownBlock = v.ownBlock ∨ ∃ b,v1.ownBlock = some b ∧ W.heap.size ≤ b) → wpList P ops Q rest (a.put o.dst v1) w1) :
  wpList P ops Q (o :: rest) a (W.alloc (.cells cs.toArray e)):=by
 obtain ⟨h0,inner,hown,hr⟩:=HO
 refine print_append_cells base hgd s x t e z d.sz bytes ho ht hinfo hz hs0 hb0 v xs.length inner cs hs hx (d.K_len (d.K_of_M hp)) (d.K_one (d.K_of_M hp)) hown HB hbase hl ?_
 intro v1 w1 hown1 hb1 hg1 hat1
 exact h v1 w1 (R_appended h0 hr hp hokp hfresh hown1 hg1 hat1) hb1 hg1 hat1
end
section
variable {P : Program} {ops : Array Oper} {o : Oper} {a : Act} {Q : Exit → Act → World → Prop} {Kc : Act → World → Prop} {α : Type}
theorem R_append_step (d : Kd α) {w0 W : World} (base : Nat) (hw : Region.wanted o (yielded ops a.tmps) = true) (s x : Operand) (t e : TypeId) (z : Value) (bytes : Nat)
  (ho : o.op = .call { callee:=.builtin .append,args:=#[s,x],argTypes:=#[t,t] })
  (ht : P.underlying t = some (.slice e)) (hinfo : (P.info? e).map (fun i => (i.zero,i.size,i.bytes)) = some (some z,d.sz,bytes)) (hz : z.cells.size = d.sz) (hs0 : 0 < d.sz) (hb0 : 0 < bytes)
  (v : Value) (xs : List α) (p : α) (cs : List Value) (ok okp : Nat → Prop) (hs : a.eval s = v) (hx : a.eval x = .slice (some ⟨W.heap.size,0,none⟩) 1 1) (hp : d.M W base okp p cs) (hokp : ∀ k,okp k → ok k ∧ some k ≠ v.ownBlock) (hfresh : ∀ k,W.heap.size ≤ k → ok k)
  (HO : d.R e W base ok v xs) (HB : Below base w0 W) (hbase : base ≤ W.heap.size) (hl : (xs.length + 1) * bytes ≤ 140737488355328)
  (h : ∀ v1 w1,d.R e w1 base ok v1 (xs ++ [p]) → Below base w0 w1 → W.grownBy w1 v.ownBlock → (v1.ownBlock = v.ownBlock ∨ ∃ b,v1.ownBlock = some b ∧ W.heap.size ≤ b) → Kc (a.put o.dst v1) w1) :
  if Region.wanted o (yielded ops a.tmps) = true then Oper.wp P o a (W.alloc (.cells cs.toArray e)) Kc Q else Kc (a.put o.dst undef) (W.alloc (.cells cs.toArray e)):=by
 obtain ⟨h0,inner,hown,hr⟩:=HO
 refine step_append_cells base hw s x t e z d.sz bytes ho ht hinfo hz hs0 hb0 v xs.length inner cs hs hx (d.K_len (d.K_of_M hp)) (d.K_one (d.K_of_M hp)) hown HB hbase hl ?_
 intro v1 w1 hown1 hb1 hg1 hat1
 exact h v1 w1 (R_appended h0 hr hp hokp hfresh hown1 hg1 hat1) hb1 hg1 hat1
end
theorem reps_scalar {α : Type} {enc : α → Value} (xs : List α) : Reps (fun (x : α) (cs : List Value) => cs = [enc x]) 1 xs (encs enc xs):=by
 refine ⟨by simp [encs],fun j p hj => ?_⟩
 obtain ⟨hl,hp⟩:=List.getElem?_eq_some_iff.1 hj
 have hl' : j < (encs enc xs).length:=by rw [encs_length];exact hl
 rw [Nat.mul_one,List.drop_eq_getElem_cons hl']
 simp [encs,hp]
theorem R_of_own {α : Type} {enc : α → Value} {h1 : ∀ x,(enc x).oneCell' = true} {e : Nat} {w : World} {base : Nat} {ok : Nat → Prop} {v : Value} {xs : List α} (ho : w.ownsRow base e 1 v xs.length (encs enc xs)) (hok : ∀ k,v.ownBlock = some k → ok k) : (scalar enc h1).R e w base ok v xs:=⟨hok,encs enc xs,ho,reps_scalar xs⟩
theorem reads_of_C {α : Type} {enc : α → Value} {d : α} {h1 : ∀ x,(enc x).oneCell' = true} {w : World} {A : Option Addr} {n : Nat} {xs : List α} (h : (scalar enc h1).C w A n xs) : ReadsOf enc d w A n xs:=by
 refine ⟨h.1,h.2.1,fun hn => ?_⟩
 obtain ⟨ad,e,hc⟩:=h.2.2 hn
 refine ⟨ad,e,fun j hj => ?_⟩
 have hl : j < xs.length:=by have:=h.1;omega
 obtain ⟨c,_,hK,hcell⟩:=hc j _ (List.getElem?_eq_getElem hl)
 have hK' : c = [enc xs[j]]:=hK
 subst hK'
 have:=hcell 0 _ rfl
 simpa [scalar,List.getD_eq_getElem?_getD,List.getElem?_eq_getElem hl] using this
end Kd
namespace Kd
section
variable {α β : Type} {d : Kd α} {d' : Kd β} {e e' : Nat} {w w1 W : World} {base b b' : Nat} {ok ok' okv oku : Nat → Prop} {v u : Value} {xs : List α} {ys : List β}
theorem R_drew (h : d.R e w base ok v xs) : d.R e w.drew base ok v xs:=R_below h (below_drew (Below.refl _ _))
theorem R_drewN (h : d.R e w base ok v xs) (m : Nat) : d.R e (w.drewN m) base ok v xs:=R_below h (pw_below_drewN (Below.refl _ _) m)
theorem C_nil (d : Kd α) (w : World) : d.C w none ([] : List α).length []:=⟨rfl,by simp,fun h => absurd h (Nat.lt_irrefl 0)⟩
theorem C_max {A : Option Addr} {n : Nat} (h : d.C w A n xs) : n ≤ 9223372036854775807:=h.2.1
theorem R_reads' {A : Option Addr} {n c : Nat} (h : d.R e w base ok (.slice A n c) xs) : n = xs.length ∧ n ≤ c ∧ d.C w A xs.length xs:=by
 obtain ⟨A',c',he,hl,hr⟩:=R_reads h
 injection he with h1 h2 h3
 subst h1
 exact ⟨h2,by omega,hr⟩
theorem R_lt (h : d.R e w base ok v xs) : ∀ k,v.ownBlock = some k → k < w.heap.size:=by
 obtain ⟨inner,ho⟩:=R_own h
 exact own_lt ho
theorem R_base (h : d.R e w base ok v xs) : ∀ k,v.ownBlock = some k → base ≤ k:=by
 obtain ⟨inner,ho⟩:=R_own h
 exact own_base ho
theorem R_away (h : d.R e w base ok v xs) {g : Nat} (hok : ∀ k,ok k → k ≠ g) : some g ≠ v.ownBlock:=fun e => hok g (h.1 g e.symm) rfl
theorem R_form (h : d.R e w base ok v xs) (hp : 0 < xs.length) : ∃ g cap,v = .slice (some ⟨g,0,none⟩) xs.length cap ∧ base ≤ g ∧ g < w.heap.size ∧ ∃ cells,w.heap[g]? = some (.cells cells e (0,0)):=by
 obtain ⟨inner,ho⟩:=R_own h
 obtain ⟨g,cap,he,hb,hl⟩:=ho.form hp
 obtain ⟨cells,hc⟩:=own_typed ho g (by rw [he];simp [Value.ownBlock])
 exact ⟨g,cap,he,hb,hl,cells,hc⟩
end
section
variable {w W : World} {A : Option Addr} {n : Nat}
theorem at_int {k : IntKind} {xs : List Int} (h : (Kd.int k).C w A n xs) (i : Int) (h0 : 0 ≤ i) (h1 : i < n) : ∃ ad,A = some ad ∧ w.cell? (ad.add i.toNat) = some (.int k (rd xs i)) :=
 ReadsOf.at_ (reads_of_C (enc:=Value.int k) (d:=(0 : Int)) (h1:=fun _ => rfl) h) i h0 h1
theorem at_string {xs : List ByteArray} (h : Kd.string.C w A n xs) (i : Int) (h0 : 0 ≤ i) (h1 : i < n) : ∃ ad,A = some ad ∧ w.cell? (ad.add i.toNat) = some (.string (rdOf ByteArray.empty xs i)) :=
 ReadsOf.at_ (reads_of_C (enc:=Value.string) (d:=ByteArray.empty) (h1:=fun _ => rfl) h) i h0 h1
variable {α : Type} {enc : α → Value} {h1 : ∀ x,(enc x).oneCell' = true} {e base g cap : Nat} {ok : Nat → Prop} {xs : List α}
end
section
variable {P : Program} {ops : Array Oper} {rest : List Oper} {o : Oper} {a : Act} {Q : Exit → Act → World → Prop}
theorem event_run {W w1 : World} {v : Value} (hgd : o.guard = none) (hrun : (execOp a.eval o).run P W = .ok (.value v) w1) (h : wpList P ops Q rest (a.put o.dst v) w1) : wpList P ops Q (o :: rest) a W:=by
 refine wpList_plain hgd fun K hK => ?_
 unfold Oper.wp
 rw [hrun]
 exact hK _ _ h
variable {α : Type}
theorem R_lit (d : Kd α) {w0 W : World} (base e : Nat) (hgd : o.guard = none) {N : Tmp} (_hd : o.dst = some N) {xs : List α} {inner : List Value} {ok okp : Nat → Prop}
  (hrun : (execOp a.eval o).run P W = .ok (.value (.slice (some ⟨W.heap.size,0,none⟩) xs.length xs.length)) (W.alloc (.cells inner.toArray e)))
  (hrep : Reps (d.M W base okp) d.sz xs inner) (hok : ∀ k,okp k → ok k) (hfresh : ok W.heap.size) (HB : Below base w0 W) (hbase : base ≤ W.heap.size) (hm : xs.length ≤ 9223372036854775807)
  (h : ∀ v1 w1,d.R e w1 base ok v1 xs → Below base w0 w1 → W.grownBy w1 none → (∃ b,v1.ownBlock = some b ∧ W.heap.size ≤ b) → wpList P ops Q rest (a.put o.dst v1) w1) : wpList P ops Q (o :: rest) a W:=by
 refine event_run hgd hrun (h _ _ ⟨fun k hk => ?_,inner,?_,?_⟩ (HB.alloc hbase _) (World.grownBy_alloc W _ none) ⟨W.heap.size,by simp [Value.ownBlock],Nat.le_refl _⟩)
 ·have : W.heap.size = k:=by simpa [Value.ownBlock] using hk
  subst this
  exact hfresh
 ·have h2:=World.ownsRow_lit (base:=base) (e:=e) (size:=d.sz) W inner.toArray xs.length hbase (by simpa [maxLen] using hm) (by simpa using hrep.1)
  simpa using h2
 ·refine hrep.imp_ (fun p c hp => d.M_mono (fun k hk => ⟨hok k hk.1,fun he => ?_⟩) (M_below (d.M_bound hp) (below_alloc (Below.refl _ _) _)))
  have h3 : k = W.heap.size:=by simpa [Value.ownBlock] using he
  have:=hk.2.2.1
  omega
end
end Kd
theorem own_take {w : World} {base n m c size : Nat} {e : TypeId} {A : Option Addr} {xs : List Value} (h : w.ownsRow base e size (.slice A n c) n xs) (hm : m ≤ n) : w.ownsRow base e size (.slice A m c) m (xs.take (m * size)):=by
 obtain ⟨h1,h2⟩:=h
 refine ⟨by rw [List.length_take,h1];exact Nat.min_eq_left (Nat.mul_le_mul_right _ hm),?_⟩
 rcases h2 with ⟨he,h0⟩ | ⟨g,cap,cur,he,hb,hh,hnc,hcm,hcs,ht⟩
 ·injection he with ha _ hc
  subst ha;subst hc
  exact .inl ⟨by rw [show m = 0 by omega],by omega⟩
 ·injection he with ha _ hc
  subst ha;subst hc
  refine .inr ⟨g,c,cur,rfl,hb,hh,by omega,hcm,hcs,?_⟩
  rw [← ht,List.take_take,Nat.min_eq_left (Nat.mul_le_mul_right _ hm)]
section
variable {w w1 : World} {base n size : Nat} {e : TypeId} {v : Value} {xs : List Value}
theorem setCells_far {g : Nat} : ∀ (vs : List Value) (o : Nat) {w : World} (k : Nat),k ≠ g → (w.setCells g o vs).heap[k]? = w.heap[k]?
 | [],_,_,_,_ => rfl
 | v :: r,o,w,k,hk => by
  rw [World.setCells,setCells_far r (o + 1) k hk]
  exact Below.heap_setCell w ⟨g,o,none⟩ v k hk
theorem setCells_same (g : Nat) : ∀ (vs : List Value) (o : Nat) (w : World),(w.setCells g o vs).os = w.os ∧ (w.setCells g o vs).tape = w.tape ∧ (w.setCells g o vs).output = w.output ∧ (w.setCells g o vs).heap.size = w.heap.size
 | [],_,_ => ⟨rfl,rfl,rfl,rfl⟩
 | v :: r,o,w => by
  obtain ⟨h1,h2,h3,h4⟩:=setCells_same g r (o + 1) (w.setCell ⟨g,o,none⟩ v)
  rw [World.setCells]
  exact ⟨h1,h2,h3,by rw [h4];simp [World.setCell]⟩
theorem setCells_row {g : Nat} {e : TypeId} : ∀ (vs : List Value) (o : Nat) (w : World) (cur : Array Value),w.heap[g]? = some (.cells cur e (0,0)) → o + vs.length ≤ cur.size →
  ∃ cur',(w.setCells g o vs).heap[g]? = some (.cells cur' e (0,0)) ∧ cur'.size = cur.size ∧ cur'.toList = cur.toList.take o ++ vs ++ cur.toList.drop (o + vs.length)
 | [],o,w,cur,h,_ => ⟨cur,h,rfl,by simp⟩
 | v :: r,o,w,cur,h,hl => by
  have h2:=blk_set h o v
  simp only [List.length_cons] at hl
  obtain ⟨cur',h3,h4,h5⟩:=setCells_row r (o + 1) (w.setCell ⟨g,o,none⟩ v) _ h2 q46_
  refine ⟨cur',h3,by rw [h4];simp,?_⟩
  rw [h5,Array.toList_setIfInBounds]
  have ho : o < cur.toList.length:=by rw [Array.length_toList];omega
  rw [List.take_set,List.drop_set_of_lt q5_]
  simp only [List.length_cons]
  rw [show o + 1 + r.length = o + (r.length + 1) by omega]
  congr 1
  rw [List.take_succ_eq_append_getElem ho,List.set_append_right _ _ (by rw [List.length_take];omega)]
  have ho' : o < cur.size:=by omega
  simp [Nat.min_eq_left (Nat.le_of_lt ho')]
end
namespace Kd
theorem reps_take {α : Type} {R : α → List Value → Prop} {size m : Nat} {ps : List α} {cs : List Value} (h : Reps R size ps cs) (hm : m ≤ ps.length) : Reps R size (ps.take m) (cs.take (m * size)):=by
 refine ⟨by rw [List.length_take,List.length_take,h.1,Nat.min_eq_left hm,Nat.min_eq_left (Nat.mul_le_mul_right _ hm)],fun j p hj => ?_⟩
 rw [List.getElem?_take] at hj
 split at hj
 ·rename_i hjm
  have:=h.2 j p hj
  have hle : j * size + size ≤ m * size:=by rw [← Nat.succ_mul];exact Nat.mul_le_mul_right _ hjm
  rw [List.drop_take,List.take_take,Nat.min_eq_left q5_]
  exact this
 ·cases hj
theorem R_take {α : Type} {d : Kd α} {e m n c : Nat} {w : World} {base : Nat} {ok : Nat → Prop} {A : Option Addr} {xs : List α} (h : d.R e w base ok (.slice A n c) xs) (hm : m ≤ xs.length) : d.R e w base ok (.slice A m c) (xs.take m):=by
 obtain ⟨h0,inner,ho,hr⟩:=h
 have hn : n = xs.length:=by
  obtain ⟨A',c',he⟩:=own_slice ho
  injection he
 subst hn
 have hb : ∀ x y : Nat,(Value.slice A x c).ownBlock = (Value.slice A y c).ownBlock:=by
  intro x y
  cases A <;> rfl
 refine ⟨fun k hk => h0 k (by rw [hb _ m];exact hk),inner.take (m * d.sz),?_,?_⟩
 ·rw [List.length_take,Nat.min_eq_left hm]
  exact own_take ho hm
 ·rw [hb m xs.length]
  exact reps_take hr hm
end Kd
namespace Kd
section
variable {α : Type} {d : Kd α} {e e' : Nat} {w w1 W : World} {base : Nat} {ok : Nat → Prop} {u v : Value} {xs : List α}
theorem R_elder' (hu : d.R e W base ok u xs) (hbase : ∀ k,v.ownBlock = some k → W.heap.size ≤ k) (hb : Below W.heap.size W w1) : d.R e w1 base (fun k => ok k ∧ some k ≠ v.ownBlock) u xs :=
 R_mono (R_move (R_bound hu) (fun k hk => hb.block k hk.2.2.1)) (fun k hk => ⟨hk.1,fun he => by have:=hbase k he.symm;have:=hk.2.2.1;omega⟩)
theorem R_new' (h : d.R e w1 W.heap.size ok v xs) (hlt : ∀ k,u.ownBlock = some k → k < W.heap.size) : d.R e w1 W.heap.size (fun k => ok k ∧ some k ≠ u.ownBlock) v xs :=
 R_mono (R_bound h) (fun k hk => ⟨hk.1,fun he => by have:=hlt k he.symm;have:=hk.2.1;omega⟩)
theorem fresh' (hlt : ∀ k,u.ownBlock = some k → k < W.heap.size) : ∀ k,W.heap.size ≤ k → some k ≠ u.ownBlock:=fun k hk he => by have:=hlt k he.symm;omega
end
end Kd
theorem seg_get {α : Type} (a seg : List α) (o : Nat) (h : o + seg.length ≤ a.length) (q : Nat) :
  (a.take o ++ seg ++ a.drop (o + seg.length))[q]? = if q < o then a[q]? else if q < o + seg.length then seg[q - o]? else a[q]?:=by
 have hl : (a.take o).length = o:=by rw [List.length_take];omega
 rw [List.append_assoc]
 by_cases h1 : q < o
 ·rw [if_pos h1,List.getElem?_append_left q5_,List.getElem?_take,if_pos h1]
 ·rw [if_neg h1,List.getElem?_append_right q5_,hl]
  by_cases h2 : q < o + seg.length
  ·rw [if_pos h2,List.getElem?_append_left q5_]
  ·rw [if_neg h2,List.getElem?_append_right q5_,List.getElem?_drop]
   congr 1
   omega
namespace Kd
section
variable {α : Type} {d : Kd α} {e base g n cap : Nat} {ok okp : Nat → Prop} {W : World} {xs : List α}
theorem R_seg (h : d.R e W base ok (.slice (some ⟨g,0,none⟩) n cap) xs) (i : Int) (h0 : 0 ≤ i) (h1 : i < n) {c seg : List Value} {j : Nat} (hcl : c.length = d.sz) (hcc : ∀ j u,c[j]? = some u → W.cell? ⟨g,i.toNat * d.sz + j,none⟩ = some u)
  (hj : j + seg.length ≤ d.sz) {x' : α} (hM : d.M W base okp x' (c.take j ++ seg ++ c.drop (j + seg.length))) (hokp : ∀ k,okp k → ok k ∧ k ≠ g) :
  d.R e (W.setCells g (i.toNat * d.sz + j) seg) base ok (.slice (some ⟨g,0,none⟩) n cap) (xs.set i.toNat x') ∧ W.grownBy (W.setCells g (i.toNat * d.sz + j) seg) (some g):=by
 obtain ⟨hn,hnc,_⟩:=R_reads' h
 obtain ⟨hok,inner,ho,hr⟩:=h
 have hil : i.toNat < xs.length:=by omega
 have hseg : i.toNat * d.sz + d.sz ≤ inner.length:=by rw [hr.1,← Nat.succ_mul];exact Nat.mul_le_mul_right _ hil
 have hin : inner.length = n * d.sz:=by rw [hr.1,hn]
 obtain ⟨ho1,ho2⟩:=ho
 rcases ho2 with ⟨hv,_⟩ | ⟨g',cap',cur,hv,hb,hh,hnc',hcm,hcs,ht⟩
 ·cases hv
 injection hv with ha _ hc
 injection ha with ha
 injection ha with hg
 subst hg;subst hc
 have hfit : i.toNat * d.sz + j + seg.length ≤ cur.size:=by
  have : n * d.sz ≤ cap * d.sz:=Nat.mul_le_mul_right _ hnc
  omega
 obtain ⟨cur',h3,h4,h5⟩:=setCells_row seg (i.toNat * d.sz + j) W cur hh hfit
 obtain ⟨s1,s2,s3,s4⟩:=setCells_same g seg (i.toNat * d.sz + j) W
 have hfar : ∀ k,k ≠ g → (W.setCells g (i.toNat * d.sz + j) seg).heap[k]? = W.heap[k]?:=fun k hk => setCells_far seg _ k hk
 have hcin : ∀ q,q < d.sz → c[q]? = inner[i.toNat * d.sz + q]?:=by
  intro q hq
  have hq' : q < c.length:=by omega
  have h6:=hcc q _ (List.getElem?_eq_getElem hq')
  rw [cell_of_row W g _ cur e (0,0) hh] at h6
  rw [List.getElem?_eq_getElem hq',← h6,← ht,List.getElem?_take,if_pos (by rw [← hn];omega),Array.getElem?_toList]
 refine ⟨⟨hok,inner.take (i.toNat * d.sz + j) ++ seg ++ inner.drop (i.toNat * d.sz + j + seg.length),⟨?_,.inr ⟨g,cap,cur',by rw [List.length_set,hn],hb,h3,by rw [List.length_set,← hn];exact hnc,hcm,by rw [h4,hcs],?_⟩⟩,?_⟩,
  ⟨s1,s2,s3,by rw [s4];exact Nat.le_refl _,fun k _ hk => hfar k (fun he => hk (by rw [he]))⟩⟩
 ·rw [List.length_set]
  simp only [List.length_append,List.length_take,List.length_drop]
  rw [hr.1] at hseg ⊢
  omega
 ·rw [List.length_set,← hn]
  apply List.ext_getElem?
  intro q
  rw [List.getElem?_take,h5]
  rw [seg_get cur.toList seg (i.toNat * d.sz + j) (by rw [Array.length_toList];omega) q,seg_get inner seg (i.toNat * d.sz + j) q5_ q]
  have hcur : ∀ q,q < n * d.sz → cur.toList[q]? = inner[q]?:=by
   intro q hq
   rw [← ht,List.getElem?_take,if_pos (by rw [← hn];exact hq)]
  by_cases hq : q < n * d.sz
  ·rw [if_pos hq,hcur q hq]
  ·rw [if_neg hq,if_neg q5_,if_neg q5_,List.getElem?_eq_none q5_]
 ·refine ⟨?_,fun m p hm => ?_⟩
  ·rw [List.length_set]
   simp only [List.length_append,List.length_take,List.length_drop]
   rw [hr.1] at hseg ⊢
   omega
  ·have hml : m < xs.length:=by
    have:=(List.getElem?_eq_some_iff.1 hm).1
    rwa [List.length_set] at this
   have hmfit : m * d.sz + d.sz ≤ inner.length:=by rw [hr.1,← Nat.succ_mul];exact Nat.mul_le_mul_right _ hml
   have hgo : some g = (Value.slice (some ⟨g,0,none⟩) n cap).ownBlock:=by simp [Value.ownBlock]
   by_cases hmi : m = i.toNat
   ·subst hmi
    rw [List.getElem?_set_self q5_] at hm
    injection hm with hm
    subst hm
    have hcells : ((inner.take (i.toNat * d.sz + j) ++ seg ++ inner.drop (i.toNat * d.sz + j + seg.length)).drop (i.toNat * d.sz)).take d.sz = c.take j ++ seg ++ c.drop (j + seg.length):=by
     apply List.ext_getElem?
     intro q
     rw [List.getElem?_take,List.getElem?_drop,seg_get inner seg _ q5_,seg_get c seg j q5_ q]
     by_cases hq : q < d.sz
     ·rw [if_pos hq,hcin q hq]
      by_cases hq1 : q < j
      ·rw [if_pos q5_,if_pos hq1]
      ·rw [if_neg q5_,if_neg hq1]
       by_cases hq2 : q < j + seg.length
       ·rw [if_pos q5_,if_pos hq2]
        congr 1
        omega
       ·rw [if_neg q5_,if_neg hq2]
     ·rw [if_neg hq,if_neg q5_,if_neg q5_,List.getElem?_eq_none q5_]
    rw [hcells]
    refine d.M_mono (fun k hk => ?_) (d.M_move (w1:=W.setCells g (i.toNat * d.sz + j) seg) (fun k hk => hfar k (hokp k hk).2) hM)
    exact ⟨(hokp k hk).1,fun he => (hokp k hk).2 (by rw [← hgo] at he;injection he)⟩
   ·rw [List.getElem?_set_ne q5_] at hm
    have hold:=hr.2 m p hm
    have hcells : ((inner.take (i.toNat * d.sz + j) ++ seg ++ inner.drop (i.toNat * d.sz + j + seg.length)).drop (m * d.sz)).take d.sz = (inner.drop (m * d.sz)).take d.sz:=by
     apply List.ext_getElem?
     intro q
     rw [List.getElem?_take,List.getElem?_take,List.getElem?_drop,List.getElem?_drop,seg_get inner seg _ q5_]
     by_cases hq : q < d.sz
     ·rw [if_pos hq,if_pos hq]
      rcases Nat.lt_or_gt_of_ne hmi with hlt | hgt
      ·have : m * d.sz + d.sz ≤ i.toNat * d.sz:=by rw [← Nat.succ_mul];exact Nat.mul_le_mul_right _ hlt
       rw [if_pos q5_]
      ·have : i.toNat * d.sz + d.sz ≤ m * d.sz:=by rw [← Nat.succ_mul];exact Nat.mul_le_mul_right _ hgt
       rw [if_neg q5_,if_neg q5_]
     ·rw [if_neg hq,if_neg hq]
    rw [hcells]
    refine d.M_move (fun k hk => hfar k (fun he => hk.2 (by rw [he];exact hgo))) hold
end
end Kd
namespace Kd
theorem reps_append {α : Type} {R : α → List Value → Prop} {size : Nat} {ps qs : List α} {cs ds : List Value} (h : Reps R size ps cs) (h' : Reps R size qs ds) : Reps R size (ps ++ qs) (cs ++ ds):=by
 refine ⟨by rw [List.length_append,List.length_append,h.1,h'.1,Nat.add_mul],fun j p hj => ?_⟩
 rcases Nat.lt_or_ge j ps.length with hlt | hge
 ·rw [List.getElem?_append_left hlt] at hj
  have hle : j * size + size ≤ cs.length:=by rw [h.1,← Nat.succ_mul];exact Nat.mul_le_mul_right _ hlt
  rw [List.drop_append_of_le_length q5_,List.take_append_of_le_length (by rw [List.length_drop];omega)]
  exact h.2 j p hj
 ·rw [List.getElem?_append_right hge] at hj
  have h2:=h'.2 (j - ps.length) p hj
  have hle : ps.length * size ≤ j * size:=Nat.mul_le_mul_right _ hge
  rw [List.drop_append,List.drop_eq_nil_of_le (by rw [h.1];exact hle),List.nil_append,h.1,← Nat.sub_mul]
  exact h2
section
variable {P : Program} {ops : Array Oper} {rest : List Oper} {o : Oper} {a : Act} {Q : Exit → Act → World → Prop} {α : Type}
theorem R_append_rows (d : Kd α) {Rr : α → List Value → Prop} {w0 W : World} (base : Nat) (hgd : o.guard = none) (s x : Operand) (t e : TypeId) (z : Value) (bytes : Nat)
  (ho : o.op = .call { callee:=.builtin .append,args:=#[s,x],argTypes:=#[t,t] })
  (ht : P.underlying t = some (.slice e)) (hinfo : (P.info? e).map (fun i => (i.zero,i.size,i.bytes)) = some (some z,d.sz,bytes)) (hz : z.cells.size = d.sz) (hs0 : 0 < d.sz) (hb0 : 0 < bytes)
  (v : Value) (xs ys : List α) (A : Option Addr) (m c : Nat) (ok okp : Nat → Prop) (hs : a.eval s = v) (hx : a.eval x = .slice A m c)
  (HO : d.R e W base ok v xs) (HR : ReadsRow Rr d.sz W A m ys) (hKM : ∀ x cs,Rr x cs → d.M W base okp x cs) (hokp : ∀ k,okp k → ok k ∧ some k ≠ v.ownBlock) (hfresh : ∀ k,W.heap.size ≤ k → ok k)
  (HB : Below base w0 W) (hbase : base ≤ W.heap.size) (hl : (xs.length + m) * bytes ≤ 140737488355328)
  (h : ∀ v1 w1,d.R e w1 base ok v1 (xs ++ ys) → Below base w0 w1 → W.grownBy w1 v.ownBlock → (v1.ownBlock = v.ownBlock ∨ ∃ b,v1.ownBlock = some b ∧ W.heap.size ≤ b) → wpList P ops Q rest (a.put o.dst v1) w1) :
  wpList P ops Q (o :: rest) a W:=by
 obtain ⟨i0,hi,hzz⟩:=Option.map_eq_some_iff.1 hinfo
 simp only [Prod.mk.injEq] at hzz
 obtain ⟨hz0,hz1,hz2⟩:=hzz
 have hm : ys.length = m:=HR.1
 have hlen : xs.length + m ≤ 140737488355328:=Nat.le_trans (Nat.le_mul_of_pos_right _ hb0) hl
 obtain ⟨hok,inner,hown,hr⟩:=HO
 have hrun : ∃ v1 w1,(Builtin.append_ #[t,t] o.type #[v,.slice A m c]).run P W = .ok v1 w1 ∧ d.R e w1 base ok v1 (xs ++ ys) ∧ W.grownBy w1 v.ownBlock ∧ (v1.ownBlock = v.ownBlock ∨ ∃ b,v1.ownBlock = some b ∧ W.heap.size ≤ b):=by
  rcases A with _ | ad
  ·have h0 : m = 0:=by
    rcases Nat.eq_zero_or_pos m with h0 | h0
    ·exact h0
    ·obtain ⟨ad,h,_⟩:=HR.2.2 h0
     cases h
   subst h0
   obtain rfl : ys = []:=List.eq_nil_of_length_eq_zero hm
   refine ⟨v,W,?_,by rw [List.append_nil];exact ⟨hok,inner,hown,hr⟩,World.grownBy.refl W _,.inl rfl⟩
   rcases hown.2 with ⟨rfl,hn⟩ | ⟨g,cap,cur,rfl,_,_,hnc,_⟩
   ·simp [Builtin.append_,run_underlying ht,sizeOf,typeInfo,hi,Builtin.lenOf,Builtin.firstCells]
   ·simp [Builtin.append_,run_underlying ht,sizeOf,typeInfo,hi,Builtin.lenOf,Builtin.firstCells,hnc,storeCells]
  ·obtain ⟨news,hnr,hnc⟩:=ReadsRow.inner_ HR
   have hnM : Reps (d.M W base okp) d.sz ys news:=hnr.imp_ (fun p c hp => hKM p c hp)
   have hone : ∀ u ∈ news,u.oneCell' = true:=by
    intro u hu
    obtain ⟨q,hq,rfl⟩:=List.mem_iff_getElem.1 hu
    have hql : q / d.sz < ys.length:=by
     rw [Nat.div_lt_iff_lt_mul hs0]
     rw [← hnM.1]
     exact hq
    have hc:=hnM.2 (q / d.sz) _ (List.getElem?_eq_getElem hql)
    refine d.K_one (d.K_of_M hc) _ ?_
    rw [List.mem_iff_getElem?]
    refine ⟨q % d.sz,?_⟩
    rw [List.getElem?_take,if_pos (Nat.mod_lt _ hs0),List.getElem?_drop,Nat.mul_comm,Nat.div_add_mod,List.getElem?_eq_getElem hq]
   obtain ⟨v1,w1,hrun,h2,hg,_,hat⟩:=run_append_own_at (P:=P) W base t o.type e i0 z d.sz bytes ht hi hz0 hz1 hz2 hz hs0 v xs.length inner hown ad m c news (by rw [hnM.1,hm]) hnc hone (by simp only [maxLen];omega) hl hbase
   have hat' : v1.ownBlock = v.ownBlock ∨ ∃ b,v1.ownBlock = some b ∧ W.heap.size ≤ b:=by
    rcases hat with hat | hat
    ·exact .inl hat
    ·exact .inr ⟨_,hat,Nat.le_refl _⟩
   have hne : ∀ k,some k ≠ v.ownBlock → k < W.heap.size → some k ≠ v1.ownBlock:=by
    intro k hk hlt
    rcases hat' with hat | ⟨b,hb,hle⟩
    ·rw [hat];exact hk
    ·rw [hb]
     intro he
     injection he with he
     omega
   have step : ∀ {q : α} {c : List Value} {o : Nat → Prop},d.M W base o q c → (∀ k,o k → ok k ∧ some k ≠ v.ownBlock) → d.M w1 base (fun k => ok k ∧ some k ≠ v1.ownBlock) q c:=by
    intro q c o hq ho
    have h1:=d.M_move (w1:=w1) (fun k hk => hg.block k hk.2.2.1 (ho k hk.1).2) (d.M_bound hq)
    exact d.M_mono (fun k hk => ⟨(ho k hk.1).1,hne k (ho k hk.1).2 hk.2.2.1⟩) h1
   refine ⟨v1,w1,hrun,⟨fun k hk => ?_,inner ++ news,by rw [List.length_append,hm];exact h2,reps_append (hr.imp_ (fun _ _ hq => step hq (fun _ hk => hk))) (hnM.imp_ (fun _ _ hq => step hq hokp))⟩,hg,hat'⟩
   rcases hat' with hat | ⟨b,hb,hle⟩
   ·exact hok k (hat ▸ hk)
   ·rw [hb] at hk
    injection hk with hk
    exact hfresh k q5_
 obtain ⟨v1,w1,hr1,h1,hg,hat⟩:=hrun
 refine wpList_plain hgd fun K hK => ?_
 unfold Oper.wp execOp
 simp only [ho,resolve,invoke,builtin,Sem.run_bind,Sem.run_pure,Result.andThen_ok,List.map_toArray,List.map_cons,List.map_nil,hs,hx,hr1]
 exact hK _ _ (h v1 w1 h1 (HB.grown hg hbase (own_base hown)) hg hat)
end
end Kd
theorem run_store_run {P : Program} {w : World} {g o : Nat} {e : TypeId} {cur : Array Value} (t : TypeId) (u : Value) (seg : List Value) (hh : w.heap[g]? = some (.cells cur e (0,0))) (hu : u.cells.toList = seg) (ht : (P.info? t).map (·.size) = some seg.length)
  (hfit : o + seg.length ≤ cur.size) (h1 : ∀ q ∈ seg,q.oneCell' = true) : (Instr.storeAt t (.pointer (some ⟨g,o,none⟩)) u).run P w = .ok () (w.setCells g o seg):=by
 obtain ⟨i,hi,hsz⟩:=Option.map_eq_some_iff.1 ht
 have hc : u.cells.size = i.size:=by rw [hsz,← hu,Array.length_toList]
 have hst:=run_storeCells_cells (P:=P) g o seg 0 w (fun j hj => by rw [cell_of_row w g _ cur e (0,0) hh];simp;omega) (fun j _ => blk_frozen hh _) h1
 simp only [Nat.add_zero] at hst
 simp [Instr.storeAt,Instr.sureAddr,storeVar,sizeOf,typeInfo,hi,hc,hu,hst]
theorem gate_ {P : Program} {ops : Array Oper} {rest : List Oper} {o : Oper} {a : Act} {Q : Exit → Act → World → Prop} {W : World} (op : Op) (_ho : o.op = op) (h : wpList P ops Q (o :: rest) a W) : wpList P ops Q (o :: rest) a W:=h
namespace Kd
section
variable {P : Program} {ops : Array Oper} {rest : List Oper} {o : Oper} {a : Act} {Q : Exit → Act → World → Prop} {α : Type}
theorem R_store (d : Kd α) {w0 W : World} (base : Nat) (hN : o.dst = none) (hgd : o.guard = none) (t : TypeId) (p x : Operand) (ho : o.op = .store t p x) (e : TypeId) {g n cap o' : Nat} (i : Int) (j : Nat) (xs : List α) (x' : α) (u : Value) (seg c : List Value) (ok okp : Nat → Prop)
  (haddr : a.eval p = .pointer (some ⟨g,o',none⟩)) (hoff : o' = i.toNat * d.sz + j) (hx : a.eval x = u) (hu : u.cells.toList = seg) (ht : (P.info? t).map (·.size) = some seg.length) (h1 : ∀ q ∈ seg,q.oneCell' = true)
  (HO : d.R e W base ok (.slice (some ⟨g,0,none⟩) n cap) xs) (h0 : 0 ≤ i) (hi : i < n) (hcl : c.length = d.sz) (hcc : ∀ j u,c[j]? = some u → W.cell? ⟨g,i.toNat * d.sz + j,none⟩ = some u)
  (hj : j + seg.length ≤ d.sz) (hM : d.M W base okp x' (c.take j ++ seg ++ c.drop (j + seg.length))) (hokp : ∀ k,okp k → ok k ∧ k ≠ g) (HB : Below base w0 W)
  (h : ∀ w1,d.R e w1 base ok (.slice (some ⟨g,0,none⟩) n cap) (xs.set i.toNat x') → Below base w0 w1 → W.grownBy w1 (some g) → wpList P ops Q rest a w1) : wpList P ops Q (o :: rest) a W:=by
 subst hoff
 obtain ⟨hrow,hg⟩:=R_seg HO i h0 hi hcl hcc hj hM hokp
 have hbg : base ≤ g:=R_base HO g (by simp [Value.ownBlock])
 have hnx : n = xs.length:=(R_reads' HO).1
 obtain ⟨_,inner,hown,hr⟩:=HO
 have hil : i.toNat < n:=by omega
 have hB : Below base w0 (W.setCells g (i.toNat * d.sz + j) seg):=HB.trans ⟨hg.os,hg.tape,hg.output,hg.size,fun k hk => by
  have hlt : k < W.heap.size ∨ W.heap.size ≤ k:=Nat.lt_or_ge _ _
  rcases hlt with hlt | hge
  ·exact hg.block k hlt (fun he => by injection he with he;omega)
  ·exact setCells_far seg _ k q5_⟩
 refine wpList_plain hgd fun K hK => ?_
 have hrun : (Instr.storeAt t (.pointer (some ⟨g,i.toNat * d.sz + j,none⟩)) u).run P W = .ok () (W.setCells g (i.toNat * d.sz + j) seg):=by
  rcases hown.2 with ⟨hv,_⟩ | ⟨g',cap',cur,hv,hb,hh,hnc,hcm,hcs,_⟩
  ·cases hv
  injection hv with ha _ hc
  injection ha with ha
  injection ha with hg'
  subst hg';subst hc
  refine run_store_run t u seg hh hu ht ?_ h1
  have h2 : i.toNat * d.sz + d.sz ≤ n * d.sz:=by rw [← Nat.succ_mul];exact Nat.mul_le_mul_right _ hil
  have h3 : n * d.sz ≤ cap * d.sz:=Nat.mul_le_mul_right _ q5_
  omega
 unfold Oper.wp execOp
 simp only [ho,haddr,hx,Sem.run_bind,Sem.run_pure,Result.andThen_ok,hrun]
 show K (a.put o.dst undef) _
 rw [hN]
 exact hK a _ (h _ hrow hB hg)
end
end Kd
theorem add_add (a : Addr) (i j : Nat) : (a.add i).add j = a.add (i + j):=by
 unfold Addr.add
 by_cases h1 : i = 0 <;> by_cases h2 : j = 0 <;> simp [h1,h2,Nat.add_assoc]
theorem below_size {w W : World} (h : Below w.heap.size w W) : w.heap.size ≤ W.heap.size:=h.size
theorem below_step {w W w2 : World} (h : Below w.heap.size w W) (k : Below W.heap.size W w2) : Below w.heap.size w w2:=below_then h h.size k
theorem below_set {w W : World} {g j : Nat} {v : Value} (h : Below w.heap.size w W) (hg : w.heap.size ≤ g) : Below w.heap.size w (W.setCell ⟨g,j,none⟩ v):=h.setCell hg _
theorem add_block (a : Addr) (i : Nat) : (a.add i).block = a.block:=by unfold Addr.add;split <;> rfl
theorem blk_put {w : World} {g : Nat} {t : TypeId} {cs cs' : Array Value} (h : w.heap[g]? = some (.cells cs t (0,0))) (i : Nat) (u : Value) (e : cs.setIfInBounds i u = cs') : (w.setCell ⟨g,i,none⟩ u).heap[g]? = some (.cells cs' t (0,0)):=e ▸ blk_set h i u
theorem below_drew1 {base : Nat} {w W : World} (h : Below base w W) : Below base w W.drew:=h.drew
namespace Kd
section
variable {α : Type} {d : Kd α} {e base g : Nat} {ok : Nat → Prop} {w w1 : World} {v : Value} {xs : List α} {o : Obj}
theorem R_elderB (h : d.R e w base ok v xs) (a : Nat) (ha : w.heap.size ≤ a) : d.R e w base (fun k => ok k ∧ k ≠ a) v xs:=R_mono (R_bound h) (fun k hk => ⟨hk.1,by have:=hk.2.2.1;omega⟩)
theorem R_newB (h : d.R e w1 w.heap.size ok v xs) (hb : w.heap[g]? = some o) : d.R e w1 w.heap.size (fun k => ok k ∧ k ≠ g) v xs:=R_mono (R_bound h) (fun k hk => ⟨hk.1,by have:=blk_lt hb;have:=hk.2.1;omega⟩)
theorem freshB (hb : w.heap[g]? = some o) : ∀ k,w.heap.size ≤ k → k ≠ g:=fun k hk => by have:=blk_lt hb;omega
end
end Kd
section
variable {P : Program} {ops : Array Oper} {rest : List Oper} {o : Oper} {a : Act} {Q : Exit → Act → World → Prop}
theorem box_event {W : World} (hgd : o.guard = none) {N : Tmp} (_hd : o.dst = some N) {cs : Array Value} {t : TypeId}
  (hrun : (execOp a.eval o).run P W = .ok (.value (.pointer (some ⟨W.heap.size,0,none⟩))) (W.alloc (.cells cs t (0,0))))
  (h : ∀ g,g = W.heap.size → ∀ w1,w1.heap[g]? = some (.cells cs t (0,0)) → Below W.heap.size W w1 → wpList P ops Q rest (a.put o.dst (.pointer (some ⟨g,0,none⟩))) w1) : wpList P ops Q (o :: rest) a W :=
 Kd.event_run hgd hrun (h _ rfl _ (blk_new W _) (below_alloc (Below.refl _ _) _))
end
section
variable {P : Program} {ops : Array Oper} {rest : List Oper} {o : Oper} {a : Act} {Q : Exit → Act → World → Prop} {W : World}
theorem gate_dst {N : Tmp} (_hN : o.dst = some N) (h : wpList P ops Q (o :: rest) a W) : wpList P ops Q (o :: rest) a W:=h
end
section
variable {P : Program} {ops : Array Oper} {o : Oper} {a : Act} {Q : Exit → Act → World → Prop} {Kc : Act → World → Prop}
theorem event_step {W w1 : World} {v : Value} (hw : Region.wanted o (yielded ops a.tmps) = true) (hrun : (execOp a.eval o).run P W = .ok (.value v) w1) (h : Kc (a.put o.dst v) w1) : if Region.wanted o (yielded ops a.tmps) = true then Oper.wp P o a W Kc Q else Kc (a.put o.dst undef) W:=by
 rw [if_pos hw]
 unfold Oper.wp
 rw [hrun]
 exact h
namespace Kd
variable {α : Type}
theorem R_lit_step (d : Kd α) {w0 W : World} (base e : Nat) (hw : Region.wanted o (yielded ops a.tmps) = true) {N : Tmp} (_hd : o.dst = some N) {xs : List α} {inner : List Value} {ok okp : Nat → Prop}
  (hrun : (execOp a.eval o).run P W = .ok (.value (.slice (some ⟨W.heap.size,0,none⟩) xs.length xs.length)) (W.alloc (.cells inner.toArray e)))
  (hrep : Reps (d.M W base okp) d.sz xs inner) (hok : ∀ k,okp k → ok k) (hfresh : ok W.heap.size) (HB : Below base w0 W) (hbase : base ≤ W.heap.size) (hm : xs.length ≤ 9223372036854775807)
  (h : ∀ v1 w1,d.R e w1 base ok v1 xs → Below base w0 w1 → W.grownBy w1 none → (∃ b,v1.ownBlock = some b ∧ W.heap.size ≤ b) → Kc (a.put o.dst v1) w1) : if Region.wanted o (yielded ops a.tmps) = true then Oper.wp P o a W Kc Q else Kc (a.put o.dst undef) W:=by
 refine event_step hw hrun (h _ _ ⟨fun k hk => ?_,inner,?_,?_⟩ (HB.alloc hbase _) (World.grownBy_alloc W _ none) ⟨W.heap.size,by simp [Value.ownBlock],Nat.le_refl _⟩)
 ·have : W.heap.size = k:=by simpa [Value.ownBlock] using hk
  subst this
  exact hfresh
 ·have h2:=World.ownsRow_lit (base:=base) (e:=e) (size:=d.sz) W inner.toArray xs.length hbase (by simpa [maxLen] using hm) (by simpa using hrep.1)
  simpa using h2
 ·refine hrep.imp_ (fun p c hp => d.M_mono (fun k hk => ⟨hok k hk.1,fun he => ?_⟩) (M_below (d.M_bound hp) (below_alloc (Below.refl _ _) _)))
  have h3 : k = W.heap.size:=by simpa [Value.ownBlock] using he
  have:=hk.2.2.1
  omega
end Kd
end
end Go.Proofs.YtennhpoemdaghaaGreatDoorW.PrintWords
end
section
namespace Go.Proofs.YtennhpoemdaghaaGreatDoorW.PrintLast
section
variable {P : Program} {ops : Array Oper} {Q : Exit → Act → World → Prop} {md : Region.Mode} {S : World → Prop} {ds : List Nat}
def Region.reachB (md : Region.Mode) (ops : Array Oper) (i : Nat) : Nat → Nat → Bool
 | 0,_ => false
 | fuel + 1,d => match ops[d]? with
  | some o => o.after.any fun e => Region.binds md e && (e.on == i || Region.reachB md ops i fuel e.on)
  | none => false
def Region.closedB (md : Region.Mode) (ops : Array Oper) (listed : Array Bool) : Bool :=
 (List.range ops.size).all fun j => !listed.getD j false || match ops[j]? with
  | some o => o.after.all fun e => !Region.binds md e || listed.getD e.on false
  | none => true
def Region.lastB (md : Region.Mode) (ops : Array Oper) (listed : Array Bool) (ds : List Nat) (i : Nat) : Bool :=
 ds.all fun d => listed.getD d true || Region.reachB md ops i ops.size d
def ListedClosed (md : Region.Mode) (ops : Array Oper) (listed : Array Bool) : Prop :=
 ∀ j oj,ops[j]? = some oj → listed.getD j false = true → ∀ e ∈ oj.after,Region.binds md e = true → listed.getD e.on false = true
theorem Region.closedB_spec {listed : Array Bool} (h : Region.closedB md ops listed = true) : ListedClosed md ops listed:=by
 intro j oj hj hl e he hb
 have hlt : j < ops.size:=(Array.getElem?_eq_some_iff.1 hj).1
 have h1:=List.all_eq_true.1 h j (List.mem_range.2 hlt)
 simp only [hl,hj,Bool.not_true,Bool.false_or] at h1
 have h2:=Array.all_eq_true_iff_forall_mem.1 h1 e he
 simpa [hb] using h2
theorem ListedClosed.set {listed : Array Bool} {i : Nat} (h : ListedClosed md ops listed) (hi : i ∈ Region.ready md ops listed) : ListedClosed md ops (listed.setIfInBounds i true):=by
 obtain ⟨_,oi,hoi,hall⟩:=mem_ready.1 hi
 intro j oj hj hl e he hb
 by_cases hij : i = j
 ·subst hij
  have : oj = oi:=Option.some.inj (hj.symm.trans hoi)
  subst this
  exact getD_set_true (hall e he hb)
 ·rw [getD_set_ne false hij] at hl
  exact getD_set_true (h j oj hj hl e he hb)
theorem Region.reach_listed {listed : Array Bool} {i : Nat} (hc : ListedClosed md ops listed) : ∀ (fuel d : Nat),Region.reachB md ops i fuel d = true → listed.getD d false = true → listed.getD i false = true
 | 0,_,h,_ => by simp [Region.reachB] at h
 | fuel + 1,d,h,hl => by
  unfold Region.reachB at h
  cases ho : ops[d]? with
  | none => rw [ho] at h;simp at h
  | some o =>
   rw [ho] at h
   obtain ⟨e,he,h1⟩:=Array.any_eq_true'.1 h
   simp only [Bool.and_eq_true,Bool.or_eq_true,beq_iff_eq] at h1
   have hle:=hc d o ho hl e he h1.1
   rcases h1.2 with h2 | h2
   ·rw [← h2];exact hle
   ·exact Region.reach_listed hc fuel e.on h2 hle
theorem Region.reach_not_ready {listed : Array Bool} {i d fuel : Nat} (hc : ListedClosed md ops listed) (hr : Region.reachB md ops i fuel d = true) (hun : listed.getD i true = false) : d ∉ Region.ready md ops listed:=by
 intro hd
 obtain ⟨_,o,ho,hall⟩:=mem_ready.1 hd
 have hi : listed.getD i false = true:=by
  cases fuel with
  | zero => simp [Region.reachB] at hr
  | succ n =>
   unfold Region.reachB at hr
   rw [ho] at hr
   obtain ⟨e,he,h1⟩:=Array.any_eq_true'.1 hr
   simp only [Bool.and_eq_true,Bool.or_eq_true,beq_iff_eq] at h1
   have hle:=hall e he h1.1
   rcases h1.2 with h2 | h2
   ·rw [← h2];exact hle
   ·exact Region.reach_listed hc n e.on h2 hle
 rcases Nat.lt_or_ge i listed.size with h' | h'
 ·simp [h'] at hun hi
  rw [hun] at hi
  cases hi
 ·simp [Array.getElem?_eq_none h'] at hun
def wpAnyLast (P : Program) (md : Region.Mode) (ops : Array Oper) (Q : Exit → Act → World → Prop) (S : World → Prop) (ds : List Nat) : Nat → Array Bool → Act → World → Prop
 | 0,listed,a,w => Region.ready md ops listed = [] ∧ Q .normal a w
 | fuel + 1,listed,a,w =>
  (Region.ready md ops listed = [] → Q .normal a w) ∧
  ∀ i ∈ Region.ready md ops listed,wpOp P ops Q i (fun a' w' => (i ∉ ds → S w → S w') ∧ wpAnyLast P md ops Q S ds fuel (listed.setIfInBounds i true) a' w') a w
theorem wpAny_of_last : ∀ (fuel : Nat) (listed : Array Bool) (a : Act) (w : World),wpAnyLast P md ops Q S ds fuel listed a w → wpAny P md ops Q fuel listed a w
 | 0,_,_,_,h => h
 | fuel + 1,_,_,_,h => ⟨h.1,fun i hi => wpOp_mono (fun a' w' h' => wpAny_of_last fuel _ a' w' h'.2) (h.2 i hi)⟩
theorem wpAnyLast_first {i : Nat} {oi : Oper} {v : Value} (hi : ops[i]? = some oi) (hsel : ∀ (j : Nat) (o : Oper) cs b,ops[j]? = some o → o.op ≠ .select cs b)
  (hQ : ∀ c a w,Q (.panic c) (a.put oi.dst v) w → Q (.panic c) a w) (n : Nat) :
  ∀ (fuel : Nat) (listed : Array Bool) (a : Act) (w : World),
   (∀ j oj,ops[j]? = some oj → j ≠ i → listed.getD j true = false → (∀ e ∈ oj.after,Region.binds md e = true → e.on ≠ i) → oi.apart ops oj = true) →
   ListedClosed md ops listed → (∀ d ∈ ds,listed.getD d true = false → Region.reachB md ops i n d = true) →
   i ∈ Region.ready md ops listed → YieldsIf P ops S oi v a → S w →
   wpAnyLast P md ops Q S ds fuel (listed.setIfInBounds i true) (a.put oi.dst v) w → wpAnyLast P md ops Q S ds (fuel + 1) listed a w:=by
 intro fuel
 induction fuel with
 | zero =>
  intro listed a w _ _ _ hr hy hS H
  refine ⟨fun h => (by rw [h] at hr;cases hr),fun j hj => ?_⟩
  by_cases hji : j = i
  ·subst hji;exact hy.wpOp hi hS ⟨fun _ h => h,H⟩
  ·have:=ready_mono hj hji
   rw [H.1] at this
   cases this
 | succ fuel ih =>
  intro listed a w hfree hc hd hr hy hS H
  refine ⟨fun h => (by rw [h] at hr;cases hr),fun j hj => ?_⟩
  by_cases hji : j = i
  ·subst hji;exact hy.wpOp hi hS ⟨fun _ h => h,H⟩
  ·have h1:=H.2 j (ready_mono hj hji)
   obtain ⟨hjun,oj,hoj,hall⟩:=mem_ready.1 hj
   have hiun:=(mem_ready.1 hr).1
   have hnot : ∀ e ∈ oj.after,Region.binds md e = true → e.on ≠ i:=fun e he hb heq => by
    have h1:=hall e he hb
    rw [heq] at h1
    rcases Nat.lt_or_ge i listed.size with h' | h'
    ·simp [h'] at hiun h1;rw [hiun] at h1;cases h1
    ·simp [Array.getElem?_eq_none h'] at h1
   have hjd : j ∉ ds:=fun hm => Region.reach_not_ready hc (hd j hm hjun) hiun hj
   have h2:=wpOp_putIf hoj (hfree j oj hoj hji hjun hnot) (fun cs b => hsel i oi cs b hi) (fun cs b => hsel j oj cs b hoj) hQ hy h1
   have hfree' : ∀ k ok,ops[k]? = some ok → k ≠ i → (listed.setIfInBounds j true).getD k true = false →
     (∀ e ∈ ok.after,Region.binds md e = true → e.on ≠ i) → oi.apart ops ok = true:=fun k ok hk hki hun hno => by
    refine hfree k ok hk hki ?_ hno
    by_cases hjk : j = k
    ·subst hjk;exact hjun
    ·rw [getD_set_ne true hjk] at hun;exact hun
   have hd' : ∀ d ∈ ds,(listed.setIfInBounds j true).getD d true = false → Region.reachB md ops i n d = true:=fun d hm hun => by
    refine hd d hm ?_
    by_cases hjk : j = d
    ·subst hjk;exact hjun
    ·rw [getD_set_ne true hjk] at hun;exact hun
   refine wpOp_mono (fun a' w' h3 => ⟨h3.2.1,ih (listed.setIfInBounds j true) a' w' hfree' (hc.set hj) hd' (ready_mono hr (Ne.symm hji)) h3.1 (h3.2.1 hjd hS) ?_⟩) h2
   rw [Array.setIfInBounds_comm _ _ hji]
   exact h3.2.2
theorem wpAnyLast_any {i : Nat} {oi : Oper} {v : Value} (hi : ops[i]? = some oi) (hsel : ∀ (j : Nat) (o : Oper) cs b,ops[j]? = some o → o.op ≠ .select cs b)
  (hQ : ∀ c a w,Q (.panic c) (a.put oi.dst v) w → Q (.panic c) a w) :
  ∀ (fuel : Nat) (listed : Array Bool) (a : Act) (w : World),
   (∀ j oj,ops[j]? = some oj → j ≠ i → listed.getD j true = false → (∀ e ∈ oj.after,Region.binds md e = true → e.on ≠ i) → oi.apart ops oj = true) →
   i ∈ Region.ready md ops listed → Yields P ops oi v a →
   wpAnyLast P md ops Q S ds fuel (listed.setIfInBounds i true) (a.put oi.dst v) w → wpAnyLast P md ops Q S ds (fuel + 1) listed a w:=by
 intro fuel
 induction fuel with
 | zero =>
  intro listed a w _ hr hy H
  refine ⟨fun h => (by rw [h] at hr;cases hr),fun j hj => ?_⟩
  by_cases hji : j = i
  ·subst hji;exact (hy.yieldsIf (S:=fun _ => True)).wpOp hi trivial ⟨fun _ h => h,H⟩
  ·have:=ready_mono hj hji
   rw [H.1] at this
   cases this
 | succ fuel ih =>
  intro listed a w hfree hr hy H
  refine ⟨fun h => (by rw [h] at hr;cases hr),fun j hj => ?_⟩
  by_cases hji : j = i
  ·subst hji;exact (hy.yieldsIf (S:=fun _ => True)).wpOp hi trivial ⟨fun _ h => h,H⟩
  ·have h1:=H.2 j (ready_mono hj hji)
   obtain ⟨hjun,oj,hoj,hall⟩:=mem_ready.1 hj
   have hiun:=(mem_ready.1 hr).1
   have hnot : ∀ e ∈ oj.after,Region.binds md e = true → e.on ≠ i:=fun e he hb heq => by
    have h1:=hall e he hb
    rw [heq] at h1
    rcases Nat.lt_or_ge i listed.size with h' | h'
    ·simp [h'] at hiun h1;rw [hiun] at h1;cases h1
    ·simp [Array.getElem?_eq_none h'] at h1
   have h2:=wpOp_put hoj (hfree j oj hoj hji hjun hnot) (fun cs b => hsel i oi cs b hi) (fun cs b => hsel j oj cs b hoj) hQ hy h1
   have hfree' : ∀ k ok,ops[k]? = some ok → k ≠ i → (listed.setIfInBounds j true).getD k true = false →
     (∀ e ∈ ok.after,Region.binds md e = true → e.on ≠ i) → oi.apart ops ok = true:=fun k ok hk hki hun hno => by
    refine hfree k ok hk hki ?_ hno
    by_cases hjk : j = k
    ·subst hjk;exact hjun
    ·rw [getD_set_ne true hjk] at hun;exact hun
   refine wpOp_mono (fun a' w' h3 => ⟨h3.2.1,ih (listed.setIfInBounds j true) a' w' hfree' (ready_mono hr (Ne.symm hji)) h3.1 ?_⟩) h2
   rw [Array.setIfInBounds_comm _ _ hji]
   exact h3.2.2
theorem wpAnyLast_take {i : Nat} {oi : Oper} {v : Value} {fuel : Nat} {listed : Array Bool} {a : Act} {w : World} (hi : ops[i]? = some oi)
  (hs : Region.noSelect ops = true) (hf : Region.free md ops listed i = true) (hr : (Region.ready md ops listed).contains i = true)
  (hc : Region.closedB md ops listed = true) (hl : Region.lastB md ops listed ds i = true)
  (hQ : ∀ c a w,Q (.panic c) (a.put oi.dst v) w → Q (.panic c) a w) (hy : YieldsIf P ops S oi v a) (hS : S w)
  (h : wpAnyLast P md ops Q S ds fuel (listed.setIfInBounds i true) (a.put oi.dst v) w) : wpAnyLast P md ops Q S ds (fuel + 1) listed a w :=
 wpAnyLast_first hi (Region.noSelect_spec hs) hQ ops.size fuel listed a w (Region.free_spec hi hf) (Region.closedB_spec hc)
  (fun d hm hun => by have:=List.all_eq_true.1 hl d hm;rw [hun] at this;simpa using this) (by simpa using hr) hy hS h
theorem wpAnyLast_all {rs : List Nat} {fuel : Nat} {listed : Array Bool} {a : Act} {w : World} (hr : Region.ready md ops listed = rs) (hne : rs ≠ [])
  (h : ∀ i ∈ rs,wpOp P ops Q i (fun a' w' => (i ∉ ds → S w → S w') ∧ wpAnyLast P md ops Q S ds fuel (listed.setIfInBounds i true) a' w') a w) : wpAnyLast P md ops Q S ds (fuel + 1) listed a w :=
 ⟨fun h0 => absurd (hr ▸ h0) hne,hr ▸ h⟩
theorem wpAnyLast_done {listed : Array Bool} {a : Act} {w : World} (hr : Region.ready md ops listed = []) (h : Q .normal a w) :
  ∀ fuel,wpAnyLast P md ops Q S ds fuel listed a w
 | 0 => ⟨hr,h⟩
 | _ + 1 => ⟨fun _ => h,by rw [hr];simp⟩
theorem wp_region_last {id : Nat} {a : Act} {w : World} (hm : P.follows .mixedOrders = true)
  (h : wpAnyLast P .any ops Q S ds ops.size (Array.replicate ops.size false) a { w with drawn:=w.drawn + 1 }) : (Code.region id ops true).wp P Q a w :=
 wp_region_any hm (wpAny_of_last _ _ _ _ h)
end
section
variable {P : Program} {ops : Array Oper} {Q : Exit → Act → World → Prop} {md : Region.Mode} {S : World → Prop} {ds : List Nat}
def AllReadyL (P : Program) (md : Region.Mode) (ops : Array Oper) (Q : Exit → Act → World → Prop) (S : World → Prop) (ds : List Nat) (fuel : Nat) (listed : Array Bool) (a : Act) (w : World) (rs : List Nat) : Prop :=
 ∀ i ∈ rs,wpOp P ops Q i (fun a' w' => (i ∉ ds → S w → S w') ∧ wpAnyLast P md ops Q S ds fuel (listed.setIfInBounds i true) a' w') a w
theorem AllReadyL.nil {fuel : Nat} {listed : Array Bool} {a : Act} {w : World} : AllReadyL P md ops Q S ds fuel listed a w []:=fun _ h => by cases h
theorem AllReadyL.cons {fuel : Nat} {listed : Array Bool} {a : Act} {w : World} {i : Nat} {o : Oper} {rs : List Nat} (ho : ops[i]? = some o) (hd : i ∉ ds)
  (h : ∀ K' : Act → World → Prop,Shut (∀ a w,S w → (S w → wpAnyLast P md ops Q S ds fuel (listed.setIfInBounds i true) a w) → K' a w) → if Region.wanted o (yielded ops a.tmps) = true then Oper.wp P o a w K' Q else K' (a.put o.dst undef) w)
  (hs : AllReadyL P md ops Q S ds fuel listed a w rs) : AllReadyL P md ops Q S ds fuel listed a w (i :: rs):=fun j hj => by
 rcases List.mem_cons.1 hj with rfl | hj
 ·exact wpOp_step ho (fun K' hK => h K' (fun a w hS hW => hK a w ⟨fun _ _ => hS,hW hS⟩))
 ·exact hs j hj
theorem AllReadyL.cons_last {fuel : Nat} {listed : Array Bool} {a : Act} {w : World} {i : Nat} {o : Oper} {rs : List Nat} (ho : ops[i]? = some o) (hd : i ∈ ds)
  (h : ∀ K' : Act → World → Prop,Shut (∀ a w,wpAnyLast P md ops Q S ds fuel (listed.setIfInBounds i true) a w → K' a w) → if Region.wanted o (yielded ops a.tmps) = true then Oper.wp P o a w K' Q else K' (a.put o.dst undef) w)
  (hs : AllReadyL P md ops Q S ds fuel listed a w rs) : AllReadyL P md ops Q S ds fuel listed a w (i :: rs):=fun j hj => by
 rcases List.mem_cons.1 hj with rfl | hj
 ·exact wpOp_step ho (fun K' hK => h K' (fun a w hW => hK a w ⟨fun hn => absurd hd hn,hW⟩))
 ·exact hs j hj
theorem wpAnyLast_ready {rs : List Nat} {fuel : Nat} {listed : Array Bool} {a : Act} {w : World} (hr : Region.ready md ops listed = rs) (hne : rs ≠ [])
  (h : AllReadyL P md ops Q S ds fuel listed a w rs) : wpAnyLast P md ops Q S ds (fuel + 1) listed a w:=wpAnyLast_all hr hne h
theorem start_ {id n : Nat} {a : Act} {w : World} (l : Array Bool) (hm : P.follows .mixedOrders = true) (hn : ops.size = n) (hl : Array.replicate n false = l) (hS : S w.drew)
  (h : S w.drew → wpAnyLast P .any ops Q S ds n l a w.drew) : (Code.region id ops true).wp P Q a w:=by
 subst hn
 subst hl
 exact wp_region_last hm (h hS)
def takeB (md : Region.Mode) (ops : Array Oper) (ds : List Nat) (l l' : Array Bool) (i : Nat) : Bool :=
 Region.noSelect ops && Region.free md ops l i && (Region.ready md ops l).contains i && Region.closedB md ops l && Region.lastB md ops l ds i && (l.setIfInBounds i true == l')
theorem take_ {i : Nat} {N : Option Tmp} {oi : Oper} {v : Value} {fuel : Nat} {l : Array Bool} {a : Act} {w : World} (l' : Array Bool) (hi : ops[i]? = some oi) (hN : oi.dst = N) (hc : takeB md ops ds l l' i = true)
  (hQ : ∀ c a w,Q (.panic c) (a.put oi.dst v) w → Q (.panic c) a w) (hy : YieldsIf P ops S oi v a) (hS : S w) {a' : Act} (ha : a.put N v = a')
  (h : wpAnyLast P md ops Q S ds fuel l' a' w) : wpAnyLast P md ops Q S ds (fuel + 1) l a w:=by
 subst ha
 subst hN
 simp only [takeB,Bool.and_eq_true,beq_iff_eq] at hc
 obtain ⟨⟨⟨⟨⟨h1,h2⟩,h3⟩,h4⟩,h5⟩,h6⟩:=hc
 subst h6
 exact wpAnyLast_take hi h1 h2 h3 h4 h5 hQ hy hS h
def anyB (md : Region.Mode) (ops : Array Oper) (l l' : Array Bool) (i : Nat) : Bool :=
 Region.noSelect ops && Region.free md ops l i && (Region.ready md ops l).contains i && (l.setIfInBounds i true == l')
theorem pure_ {i : Nat} {N : Option Tmp} {oi : Oper} {v : Value} {fuel : Nat} {l : Array Bool} {a : Act} {w : World} (l' : Array Bool) (hi : ops[i]? = some oi) (hN : oi.dst = N) (hc : anyB md ops l l' i = true)
  (hQ : ∀ c a w,Q (.panic c) (a.put oi.dst v) w → Q (.panic c) a w) (hy : Yields P ops oi v a) {a' : Act} (ha : a.put N v = a')
  (h : wpAnyLast P md ops Q S ds fuel l' a' w) : wpAnyLast P md ops Q S ds (fuel + 1) l a w:=by
 subst ha
 subst hN
 simp only [anyB,Bool.and_eq_true,beq_iff_eq] at hc
 obtain ⟨⟨⟨h1,h2⟩,h3⟩,h6⟩:=hc
 subst h6
 exact wpAnyLast_any hi (Region.noSelect_spec h1) hQ fuel l a w (Region.free_spec hi h2) (by simpa using h3) hy h
def readyB (md : Region.Mode) (ops : Array Oper) (l l' : Array Bool) (i : Nat) : Bool:=(Region.ready md ops l == [i]) && (l.setIfInBounds i true == l')
theorem one_ {i : Nat} {N : Option Tmp} {oi : Oper} {fuel : Nat} {l : Array Bool} {a : Act} {w : World} (l' : Array Bool) (hi : ops[i]? = some oi) (hN : oi.dst = N) (hc : readyB md ops l l' i = true) (hd : i ∉ ds)
  (h : ∀ K : Act → World → Prop,Shut (∀ a' w',S w' → (S w' → wpAnyLast P md ops Q S ds fuel l' a' w') → K a' w') → if Region.wanted oi (yielded ops a.tmps) = true then Oper.wp P oi a w K Q else K (a.put N undef) w) :
  wpAnyLast P md ops Q S ds (fuel + 1) l a w:=by
 subst hN
 simp only [readyB,Bool.and_eq_true,beq_iff_eq] at hc
 obtain ⟨h1,h2⟩:=hc
 subst h2
 exact wpAnyLast_ready h1 q25_ (AllReadyL.cons hi hd (fun K hK => h K hK) AllReadyL.nil)
theorem last_ {i : Nat} {N : Option Tmp} {oi : Oper} {fuel : Nat} {l : Array Bool} {a : Act} {w : World} (l' : Array Bool) (hi : ops[i]? = some oi) (hN : oi.dst = N) (hc : readyB md ops l l' i = true) (hd : i ∈ ds)
  (h : ∀ K : Act → World → Prop,Shut (∀ a' w',wpAnyLast P md ops Q S ds fuel l' a' w' → K a' w') → if Region.wanted oi (yielded ops a.tmps) = true then Oper.wp P oi a w K Q else K (a.put N undef) w) :
  wpAnyLast P md ops Q S ds (fuel + 1) l a w:=by
 subst hN
 simp only [readyB,Bool.and_eq_true,beq_iff_eq] at hc
 obtain ⟨h1,h2⟩:=hc
 subst h2
 exact wpAnyLast_ready h1 q25_ (AllReadyL.cons_last hi hd (fun K hK => h K hK) AllReadyL.nil)
theorem done_ {l : Array Bool} {a : Act} {w : World} {n : Nat} (hr : (Region.ready md ops l == []) = true) (h : Q .normal a w) : wpAnyLast P md ops Q S ds n l a w:=wpAnyLast_done (by simpa using hr) h n
theorem norm_ {fuel : Nat} {l : Array Bool} {a a' : Act} {w : World} (ha : a = a') (h : wpAnyLast P md ops Q S ds fuel l a' w) : wpAnyLast P md ops Q S ds fuel l a w:=by
 subst ha
 exact h
theorem call_ {oi : Oper} {N : Option Tmp} {a : Act} {w : World} {K : Act → World → Prop} (f : FuncId) (args : Array Value) (hw : Region.wanted oi (yielded ops a.tmps) = true) (hN : oi.dst = N) (hrun : (execOp a.eval oi).run P w = .ok (.enter f args) w)
  (h : Calls P f args w fun e w' => ∃ v,e = .returned v ∧ K (a.put N v) w') : if Region.wanted oi (yielded ops a.tmps) = true then Oper.wp P oi a w K Q else K (a.put N undef) w:=by
 rw [if_pos hw]
 subst hN
 unfold Oper.wp
 rw [hrun,Oper.upon_enter]
 refine h.mono fun e w'' hh => ?_
 obtain ⟨v,rfl,hk⟩:=hh
 exact hk
theorem enters_ {f : FuncId} {fn : Func} (hf : P.funcs[f]? = some fn) (hname : (fn.name == "runtime.NumGoroutine") = false) (hb : fn.body.isSome = true) (args : Array Value) (w : World) : (callFunc f args).run P w = .ok (.enter f args) w:=by
 have h1 : fn.name ≠ "runtime.NumGoroutine" := by simpa using hname
 obtain ⟨c,hc⟩:=Option.isSome_iff_exists.1 hb
 simp [callFunc,hf,h1,hc]
theorem goes_ {oi : Oper} {N : Option Tmp} {a : Act} {w : World} {K : Act → World → Prop} {f : FuncId} {fn : Func} {as_ : Array Operand} {ts : Array TypeId} (hf : P.funcs[f]? = some fn) (hname : (fn.name == "runtime.NumGoroutine") = false) (hb : fn.body.isSome = true) (args : Array Value)
  (hw : Region.wanted oi (yielded ops a.tmps) = true) (hN : oi.dst = N) (hop : oi.op = .call { callee:=.value (.func f),args:=as_,argTypes:=ts }) (hargs : as_.map a.eval = args)
  (h : Calls P f args w fun e w' => ∃ v,e = .returned v ∧ K (a.put N v) w') : if Region.wanted oi (yielded ops a.tmps) = true then Oper.wp P oi a w K Q else K (a.put N undef) w:=by
 refine call_ f args hw hN ?_ h
 have he:=enters_ hf hname hb args w
 unfold execOp
 simp [hop,resolve,Deferred.ofValue,invoke,Act.eval,hargs,he]
theorem goesL_ {rest : List Oper} {oi : Oper} {a : Act} {w : World} (N : Option Tmp) (hd : oi.dst = N) (hg : oi.guard = none) {f : FuncId} {fn : Func} {as_ : Array Operand} {ts : Array TypeId} (hf : P.funcs[f]? = some fn) (hname : (fn.name == "runtime.NumGoroutine") = false) (hb : fn.body.isSome = true) (args : Array Value)
  (hop : oi.op = .call { callee:=.value (.func f),args:=as_,argTypes:=ts }) (hargs : as_.map a.eval = args)
  (h : Calls P f args w fun e w' => ∃ v,e = .returned v ∧ wpList P ops Q rest (a.put N v) w') : wpList P ops Q (oi :: rest) a w:=by
 refine wpList_plain hg fun K hK => ?_
 have he:=enters_ hf hname hb args w
 have hrun : (execOp a.eval oi).run P w = .ok (.enter f args) w:=by
  unfold execOp
  simp [hop,resolve,Deferred.ofValue,invoke,Act.eval,hargs,he]
 unfold Oper.wp
 rw [hrun,Oper.upon_enter]
 refine h.mono fun e w'' hh => ?_
 obtain ⟨v,rfl,hk⟩:=hh
 subst hd
 exact hK _ _ hk
theorem i64_w (n : Int) : IntKind.i64.wrap n = Go.RowKit.wrap64 n:=by unfold Go.RowKit.wrap64;exact IntKind.wrap_i64 n
end
end Go.Proofs.YtennhpoemdaghaaGreatDoorW.PrintLast
end
section
namespace Go.Proofs.YtennhpoemdaghaaGreatDoorW.PrintLast
open Go Go.RowKit
section
variable {P : Program} {ops : Array Oper} {Q : Exit → Act → World → Prop} {md : Region.Mode} {S : World → Prop} {ds : List Nat}
variable {oi : Oper} {v : Value} {fuel : Nat} {l : Array Bool} {a a' : Act} {w : World}
theorem pu_ (i n : Nat) (h : wpAnyLast P md ops Q S ds fuel (l.setIfInBounds i true) a' w) (hi : ops[i]? = some oi:=by rfl) (hN : oi.dst = some n:=by rfl) (hc : anyB md ops l (l.setIfInBounds i true) i = true:=by kernel_rfl)
  (hQ : ∀ c a w,Q (.panic c) (a.put oi.dst v) w → Q (.panic c) a w:=by exact fun _ _ _ h => h)
  (hy : Yields P ops oi v a:=by (refine Or.inl ⟨by rfl,?_⟩;intro w';go_simp;with_reducible rfl))
  (ha : a.put (some n) v = a':=by (simp only [Act.put,List.setIfInBounds_toArray,List.set_cons_zero,List.set_cons_succ,i64_w];rfl)) : wpAnyLast P md ops Q S ds (fuel + 1) l a w :=
 pure_ (N:=some n) _ hi hN hc hQ hy ha h
theorem pn_ (i n : Nat) (h : wpAnyLast P md ops Q S ds fuel (l.setIfInBounds i true) a' w) (hi : ops[i]? = some oi:=by rfl) (hN : oi.dst = some n:=by rfl) (hc : anyB md ops l (l.setIfInBounds i true) i = true:=by kernel_rfl)
  (hQ : ∀ c a w,Q (.panic c) (a.put oi.dst undef) w → Q (.panic c) a w:=by exact fun _ _ _ h => h)
  (hy : Yields P ops oi undef a:=by exact Or.inr ⟨by rfl,rfl⟩)
  (ha : a.put (some n) undef = a':=by (simp only [Act.put,List.setIfInBounds_toArray,List.set_cons_zero,List.set_cons_succ,i64_w];rfl)) : wpAnyLast P md ops Q S ds (fuel + 1) l a w :=
 pure_ (N:=some n) _ hi hN hc hQ hy ha h
theorem tk_ (i n : Nat) (hS : S w) (h : wpAnyLast P md ops Q S ds fuel (l.setIfInBounds i true) a' w) (hi : ops[i]? = some oi:=by rfl) (hN : oi.dst = some n:=by rfl) (hc : takeB md ops ds l (l.setIfInBounds i true) i = true:=by kernel_rfl)
  (hQ : ∀ c a w,Q (.panic c) (a.put oi.dst v) w → Q (.panic c) a w:=by exact fun _ _ _ h => h)
  (hy : YieldsIf P ops S oi v a:=by (refine Or.inl ⟨by rfl,?_⟩;intro w' hSw;(try dsimp only at hSw);go_split_ands;go_simp;with_reducible rfl))
  (ha : a.put (some n) v = a':=by (simp only [Act.put,List.setIfInBounds_toArray,List.set_cons_zero,List.set_cons_succ,i64_w];rfl)) : wpAnyLast P md ops Q S ds (fuel + 1) l a w :=
 take_ (N:=some n) _ hi hN hc hQ hy hS ha h
end
theorem cl_ {w w1 : World} {a : Addr} {v : Value} (hb : Below w.heap.size w w1) (h : w.cell? a = some v) : w1.cell? a = some v:=(hb.cell (World.block_lt_of_cell? w _ h)).trans h
end Go.Proofs.YtennhpoemdaghaaGreatDoorW.PrintLast
namespace Go.Proofs.YtennhpoemdaghaaGreatDoorW.PrintWords
open Go Go.RowKit
section
variable {P : Program} {ops : Array Oper} {rest : List Oper} {o : Oper} {a : Act} {Q : Exit → Act → World → Prop}
theorem bx_ (N t : Nat) (cs : Array Value) {W : World} (h : ∀ g,g = W.heap.size → ∀ w1,w1.heap[g]? = some (.cells cs t (0,0)) → Below W.heap.size W w1 → wpList P ops Q rest (a.put o.dst (.pointer (some ⟨g,0,none⟩))) w1)
  (hd : o.dst = some N:=by rfl) (hg : o.guard = none:=by rfl) (hr : (execOp a.eval o).run P W = .ok (.value (.pointer (some ⟨W.heap.size,0,none⟩))) (W.alloc (.cells cs t (0,0))):=by first | (go_simp;done) | (go_simp;rfl)) : wpList P ops Q (o :: rest) a W:=box_event hg hd hr h
theorem gl_ (N : Nat) {w : World} {f : FuncId} {fn : Func} {av : Array Operand} {ts : Array TypeId} (hf : P.funcs[f]? = some fn) (args : Array Value) (h : Calls P f args w fun e w' => ∃ v,e = .returned v ∧ wpList P ops Q rest (a.put (some N) v) w')
  (hd : o.dst = some N:=by rfl) (hg : o.guard = none:=by rfl) (hname : (fn.name == "runtime.NumGoroutine") = false:=by kernel_rfl) (hb : fn.body.isSome = true:=by rfl)
  (hop : o.op = .call { callee:=.value (.func f),args:=av,argTypes:=ts }:=by rfl) (hargs : av.map a.eval = args:=by (try simp only [List.map_toArray,List.map_cons,List.map_nil]);first | done | rfl | (simp only [List.length_drop,List.length_take];rfl)) : wpList P ops Q (o :: rest) a w :=
 PrintLast.goesL_ (some N) hd hg hf hname hb args hop hargs h
end
end Go.Proofs.YtennhpoemdaghaaGreatDoorW.PrintWords
end
section
namespace Go.Proofs.YtennhpoemdaghaaGreatDoorW.PrintLast
open Go.Proofs.YtennhpoemdaghaaGreatDoorW.PrintWords (Aside0)
def needsOf (md : Region.Mode) (o : Oper) : List Nat:=(o.after.toList.filter (fun e => Region.binds md e)).map (fun e => e.on)
def clashOf (md : Region.Mode) (ops : Array Oper) (i : Nat) (oi : Oper) : List Nat:=(List.range ops.size).filter fun j => !(j == i) && match ops[j]? with
 | some oj => !(oj.after.any (fun e => Region.binds md e && e.on == i) || oi.apart ops oj)
 | none => false
def rtab (md : Region.Mode) (ops : Array Oper) : Bool × List (List Nat × List Nat):=(Region.noSelect ops,(List.range ops.size).map fun i => match ops[i]? with
 | some o => (needsOf md o,clashOf md ops i o)
 | none => ([],[]))
def readyAt (T : List (List Nat × List Nat)) (l : List Bool) (i : Nat) : Bool:=!l.getD i true && match T[i]? with
 | some r => r.1.all (fun j => l.getD j false)
 | none => false
def readyT (T : List (List Nat × List Nat)) (l : List Bool) : List Nat:=(List.range T.length).filter (readyAt T l)
def freeT (T : List (List Nat × List Nat)) (l : List Bool) (i : Nat) : Bool:=match T[i]? with
 | some r => r.2.all (fun j => l.getD j true)
 | none => false
def closedT (T : List (List Nat × List Nat)) (l : List Bool) : Bool:=(List.range T.length).all fun j => !l.getD j false || match T[j]? with
 | some r => r.1.all (fun k => l.getD k false)
 | none => true
def reachT (T : List (List Nat × List Nat)) (i : Nat) : Nat → Nat → Bool
 | 0,_ => false
 | fuel + 1,d => match T[d]? with
  | some r => r.1.any fun j => j == i || reachT T i fuel j
  | none => false
def lastT (T : List (List Nat × List Nat)) (l : List Bool) (ds : List Nat) (i : Nat) : Bool:=ds.all fun d => l.getD d true || reachT T i T.length d
section
variable {md : Region.Mode} {ops : Array Oper} {T : Bool × List (List Nat × List Nat)} {l l' li lj lk : Array Bool} {ds : List Nat} {i j k : Nat}
theorem gd (l : Array Bool) (j : Nat) (b : Bool) : l.getD j b = l.toList.getD j b:=by simp [Array.getD_eq_getD_getElem?,List.getD_eq_getElem?_getD]
theorem needs_all (o : Oper) (p : Nat → Bool) : o.after.all (fun e => !Region.binds md e || p e.on) = (needsOf md o).all p:=by
 unfold needsOf
 rw [← Array.all_toList]
 induction o.after.toList with
 | nil => rfl
 | cons e r ih =>
  rw [List.all_cons,ih,List.filter_cons]
  cases h : Region.binds md e <;> simp
theorem needs_any (o : Oper) (p : Nat → Bool) : o.after.any (fun e => Region.binds md e && p e.on) = (needsOf md o).any p:=by
 unfold needsOf
 rw [← Array.any_toList]
 induction o.after.toList with
 | nil => rfl
 | cons e r ih =>
  rw [List.any_cons,ih,List.filter_cons]
  cases h : Region.binds md e <;> simp
theorem rtab_length : (rtab md ops).2.length = ops.size:=by simp [rtab]
theorem rtab_some {o : Oper} (h : ops[i]? = some o) : (rtab md ops).2[i]? = some (needsOf md o,clashOf md ops i o):=by
 have hi:=(Array.getElem?_eq_some_iff.1 h).1
 unfold rtab
 rw [List.getElem?_map,List.getElem?_range hi,Option.map_some,h]
theorem rtab_none (h : ops[i]? = none) : (rtab md ops).2[i]? = none:=by
 have hi : ops.size ≤ i:=Array.getElem?_eq_none_iff.1 h
 exact List.getElem?_eq_none (by rw [rtab_length];exact hi)
theorem readyAt_eq : readyAt (rtab md ops).2 l.toList i = (!l.getD i true && ((ops[i]?).map (·.after.all fun e => !Region.binds md e || l.getD e.on false)).getD false):=by
 unfold readyAt
 rw [gd]
 cases h : ops[i]? with
 | none => rw [rtab_none h];rfl
 | some o =>
  rw [rtab_some h]
  simp only [Option.map_some,Option.getD_some]
  rw [← needs_all]
  simp only [gd]
theorem ready_eq : Region.ready md ops l = readyT (rtab md ops).2 l.toList:=by
 unfold Region.ready readyT
 rw [rtab_length]
 refine List.filter_congr (fun i _ => ?_)
 rw [readyAt_eq]
theorem free_eq : Region.free md ops l i = freeT (rtab md ops).2 l.toList i:=by
 unfold Region.free freeT
 cases h : ops[i]? with
 | none => rw [rtab_none h]
 | some oi =>
  rw [rtab_some h]
  simp only [clashOf]
  rw [List.all_filter]
  congr 1
  funext j
  rw [gd]
  cases hj : ops[j]? with
  | none => cases (j == i) <;> cases (l.toList.getD j true) <;> simp
  | some oj =>
   cases (j == i) <;> cases (l.toList.getD j true) <;> cases (oj.after.any (fun e => Region.binds md e && e.on == i) || oi.apart ops oj) <;> simp_all
theorem closed_eq : Region.closedB md ops l = closedT (rtab md ops).2 l.toList:=by
 unfold Region.closedB closedT
 rw [rtab_length]
 congr 1
 funext j
 rw [gd]
 cases h : ops[j]? with
 | none => rw [rtab_none h]
 | some o =>
  rw [rtab_some h]
  simp only
  rw [← needs_all]
  simp only [gd]
theorem reach_eq : ∀ (fuel d : Nat),Region.reachB md ops i fuel d = reachT (rtab md ops).2 i fuel d
 | 0,_ => rfl
 | fuel + 1,d => by
  unfold Region.reachB reachT
  cases h : ops[d]? with
  | none => rw [rtab_none h]
  | some o =>
   rw [rtab_some h]
   simp only
   rw [← needs_any]
   congr 1
   funext e
   rw [reach_eq fuel]
theorem last_eq : Region.lastB md ops l ds i = lastT (rtab md ops).2 l.toList ds i:=by
 unfold Region.lastB lastT
 rw [rtab_length]
 congr 1
 funext d
 rw [gd,reach_eq]
theorem readyAt_mem (h : readyAt T.2 l.toList i = true) (hT : rtab md ops = T) : (Region.ready md ops l).contains i = true:=by
 subst hT
 rw [ready_eq]
 unfold readyT
 rw [List.contains_iff_mem,List.mem_filter,List.mem_range]
 refine ⟨?_,h⟩
 unfold readyAt at h
 rw [Bool.and_eq_true] at h
 cases hq : (rtab md ops).2[i]? with
 | none => rw [hq] at h;simp at h
 | some r => exact (List.getElem?_eq_some_iff.1 hq).1
theorem set_of (h : (l.toList.set i true == l'.toList) = true) : (l.setIfInBounds i true == l') = true:=by
 rw [beq_iff_eq] at h ⊢
 apply Array.ext'
 rw [Array.toList_setIfInBounds]
 exact h
def anyT (T : Bool × List (List Nat × List Nat)) (l l' : List Bool) (i : Nat) : Bool:=T.1 && freeT T.2 l i && readyAt T.2 l i && (l.set i true == l')
theorem any_of (hT : rtab md ops = T) (h : anyT T l.toList l'.toList i = true) : anyB md ops l l' i = true:=by
 simp only [anyT,Bool.and_eq_true] at h
 obtain ⟨⟨⟨h1,h2⟩,h3⟩,h4⟩:=h
 have h5:=readyAt_mem h3 hT
 have h6:=set_of h4
 subst hT
 simp only [anyB,Bool.and_eq_true]
 exact ⟨⟨⟨h1,by rw [free_eq];exact h2⟩,h5⟩,h6⟩
def takeT (T : Bool × List (List Nat × List Nat)) (ds : List Nat) (l l' : List Bool) (i : Nat) : Bool:=T.1 && freeT T.2 l i && readyAt T.2 l i && closedT T.2 l && lastT T.2 l ds i && (l.set i true == l')
theorem take_of (hT : rtab md ops = T) (h : takeT T ds l.toList l'.toList i = true) : takeB md ops ds l l' i = true:=by
 simp only [takeT,Bool.and_eq_true] at h
 obtain ⟨⟨⟨⟨⟨h1,h2⟩,h3⟩,h4⟩,h5⟩,h6⟩:=h
 have h7:=readyAt_mem h3 hT
 have h8:=set_of h6
 subst hT
 simp only [takeB,Bool.and_eq_true]
 exact ⟨⟨⟨⟨⟨h1,by rw [free_eq];exact h2⟩,h7⟩,by rw [closed_eq];exact h4⟩,by rw [last_eq];exact h5⟩,h8⟩
theorem one_of (hT : rtab md ops = T) (h : (readyT T.2 l.toList == [i] && l.toList.set i true == l'.toList) = true) : readyB md ops l l' i = true:=by
 simp only [Bool.and_eq_true] at h
 obtain ⟨h1,h2⟩:=h
 subst hT
 simp only [readyB,Bool.and_eq_true]
 exact ⟨(by rw [ready_eq];exact h1),set_of h2⟩
theorem done_of (hT : rtab md ops = T) (h : (readyT T.2 l.toList == []) = true) : (Region.ready md ops l == []) = true:=by
 subst hT
 rw [ready_eq]
 exact h
def upM (B : List Nat) (d : Nat) : List Nat → Nat
 | [] => 0
 | n :: r => (2 ^ n ||| (if n < d then B.getD n 0 else 0)) ||| upM B d r
def waitsOk (T : List (List Nat × List Nat)) (B : List Nat) : Bool:=(List.range T.length).all fun d => match T[d]? with
 | some r => (B.getD d 0 ||| upM B d r.1) == upM B d r.1
 | none => false
theorem upM_bit {B : List Nat} {d i : Nat} : ∀ {ns : List Nat},(upM B d ns).testBit i = true → ∃ n ∈ ns,n = i ∨ (n < d ∧ (B.getD n 0).testBit i = true)
 | [],h => by simp [upM] at h
 | n :: r,h => by
  unfold upM at h
  rw [Nat.testBit_or,Nat.testBit_or,Bool.or_eq_true,Bool.or_eq_true] at h
  rcases h with (h | h) | h
  ·rw [Nat.testBit_two_pow] at h
   exact ⟨n,List.mem_cons_self,.inl (by simpa using h)⟩
  ·by_cases hn : n < d
   ·rw [if_pos hn] at h
    exact ⟨n,List.mem_cons_self,.inr ⟨hn,h⟩⟩
   ·rw [if_neg hn] at h
    simp at h
  ·obtain ⟨m,hm,h2⟩:=upM_bit h
   exact ⟨m,List.mem_cons_of_mem _ hm,h2⟩
theorem reach_bit {T : List (List Nat × List Nat)} {B : List Nat} (hB : waitsOk T B = true) : ∀ (fuel d : Nat),d < fuel → d < T.length → (B.getD d 0).testBit i = true → reachT T i fuel d = true
 | 0,d,h,_,_ => by omega
 | fuel + 1,d,h,hd,hb => by
  have h1:=List.all_eq_true.1 hB d (List.mem_range.2 hd)
  cases hr : T[d]? with
  | none => rw [hr] at h1;simp at h1
  | some r =>
   rw [hr] at h1
   simp only [beq_iff_eq] at h1
   have h2 : (upM B d r.1).testBit i = true:=by rw [← h1,Nat.testBit_or,hb,Bool.true_or]
   obtain ⟨n,hn,h3⟩:=upM_bit h2
   unfold reachT
   rw [hr]
   simp only
   rw [List.any_eq_true]
   refine ⟨n,hn,?_⟩
   rcases h3 with rfl | ⟨h4,h5⟩
   ·simp
   ·rw [reach_bit hB fuel n q5_ q5_ h5,Bool.or_true]
def lastW (T : List (List Nat × List Nat)) (B : List Nat) (l : List Bool) (ds : List Nat) (i : Nat) : Bool:=ds.all fun d => l.getD d true || (decide (d < T.length) && (B.getD d 0).testBit i)
def takeW (T : Bool × List (List Nat × List Nat)) (B : List Nat) (ds : List Nat) (l l' : List Bool) (i : Nat) : Bool:=T.1 && freeT T.2 l i && readyAt T.2 l i && closedT T.2 l && lastW T.2 B l ds i && (l.set i true == l')
theorem take_ofW {B : List Nat} (hT : rtab md ops = T) (hB : waitsOk T.2 B = true) (h : takeW T B ds l.toList l'.toList i = true) : takeB md ops ds l l' i = true:=by
 refine take_of hT ?_
 simp only [takeW,takeT,Bool.and_eq_true] at h ⊢
 obtain ⟨⟨⟨⟨⟨h1,h2⟩,h3⟩,h4⟩,h5⟩,h6⟩:=h
 refine ⟨⟨⟨⟨⟨h1,h2⟩,h3⟩,h4⟩,?_⟩,h6⟩
 unfold lastW at h5
 unfold lastT
 rw [List.all_eq_true] at h5 ⊢
 intro d hd
 have h7:=h5 d hd
 rw [Bool.or_eq_true,Bool.and_eq_true,decide_eq_true_eq] at h7
 rcases h7 with h7 | ⟨h8,h9⟩
 ·rw [h7,Bool.true_or]
 ·rw [reach_bit hB _ d h8 h8 h9,Bool.or_true]
theorem with_tabW {P : Program} {Q : Exit → Act → World → Prop} {S : World → Prop} {n : Nat} {a : Act} {w : World} {B : List Nat} (hT : rtab md ops = T) (hB : waitsOk T.2 B = true) (h : Aside0 (rtab md ops = T) → Aside0 (waitsOk T.2 B = true) → wpAnyLast P md ops Q S ds n l a w) : wpAnyLast P md ops Q S ds n l a w:=h ⟨hT⟩ ⟨hB⟩
end
def opsIn : Code → Nat → Option (Array Oper)
 | .region id ops _,k => if id == k then some ops else none
 | .seq a b,k => match opsIn a k with
  | some o => some o
  | none => opsIn b k
 | .cond _ a b,k => match opsIn a k with
  | some o => some o
  | none => opsIn b k
 | .block _ c,k => opsIn c k
 | .loop c,k => opsIn c k
 | .scope c,k => opsIn c k
 | .rangeFunc _ _ a b,k => match opsIn a k with
  | some o => some o
  | none => opsIn b k
 | _,_ => none
def opsOf (f : Func) (k : Nat) : Array Oper:=((f.body.bind fun c => opsIn c k)).getD #[]
end Go.Proofs.YtennhpoemdaghaaGreatDoorW.PrintLast
end
section
namespace Go.Proofs.YtennhpoemdaghaaGreatDoorW.PrintWords
open Go.RowKit
namespace Kd
def raw (sz : Nat) : Kd (List Value) where
 sz:=sz
 E:=[]
 K:=fun _ x cs => cs = x ∧ cs.length = sz ∧ ∀ u ∈ cs,u.oneCell' = true
 M:=fun _ _ _ x cs => cs = x ∧ cs.length = sz ∧ ∀ u ∈ cs,u.oneCell' = true
 K_len:=fun h => h.2.1
 K_one:=fun h => h.2.2
 K_below:=fun _ h => h
 K_of_M:=fun h => h
 M_mono:=fun _ h => h
 M_bound:=fun h => h
 M_move:=fun _ h => h
 M_lower:=fun _ h => h
section
variable {α β : Type} {d : Kd α} {d' : Kd β} {e e' : Nat} {w w1 W : World} {base b : Nat} {ok ok' okv oku : Nat → Prop} {u v : Value} {xs : List α} {ys : List β}
theorem R_tight (hE : d.E = []) (h : d.R e w base ok v xs) : d.R e w base (fun k => some k = v.ownBlock) v xs:=by
 obtain ⟨h0,inner,ho,hr⟩:=h
 refine ⟨fun k hk => hk.symm,inner,ho,hr.imp_ (fun p c hp => d.M_mono (fun k hk => ?_) (d.M_bound hp))⟩
 obtain ⟨_,_,_,q,hq,_⟩:=hk
 rw [hE] at hq
 cases hq
end
end Kd
end Go.Proofs.YtennhpoemdaghaaGreatDoorW.PrintWords
end
section
namespace Go.Proofs.YtennhpoemdaghaaGreatDoorW.PrintWords
open Go.RowKit
namespace Kd
structure Heap {α : Type} (d : Kd α) : Prop where
 K : ∀ {w w1 : World} {x : α} {cs : List Value},(∀ k,k < w.heap.size → w1.heap[k]? = w.heap[k]?) → d.K w x cs → d.K w1 x cs
theorem cell_heap {w w1 : World} (hb : ∀ k,k < w.heap.size → w1.heap[k]? = w.heap[k]?) {a : Addr} {v : Value} (h : w.cell? a = some v) : w1.cell? a = some v:=by
 have:=hb a.block (World.block_lt_of_cell? w a h)
 simpa [World.cell?,this] using h
theorem Heap.C {α : Type} {d : Kd α} (hd : Heap d) {w w1 : World} {A : Option Addr} {n : Nat} {xs : List α} (hb : ∀ k,k < w.heap.size → w1.heap[k]? = w.heap[k]?) (h : d.C w A n xs) : d.C w1 A n xs :=
 ⟨h.1,h.2.1,fun hn => by
  obtain ⟨ad,e,hc⟩:=h.2.2 hn
  refine ⟨ad,e,fun j p hj => ?_⟩
  obtain ⟨c,hs,hr,hcell⟩:=hc j p hj
  exact ⟨c,hs,hd.K hb hr,fun i u hu => cell_heap hb (hcell i u hu)⟩⟩
theorem heap_int (k : IntKind) : Heap (Kd.int k):=⟨fun _ h => h⟩
theorem heap_string : Heap Kd.string:=⟨fun _ h => h⟩
theorem heap_slice {α : Type} {d : Kd α} (e : Nat) (hd : Heap d) : Heap (slice e d):=⟨by
 rintro w w1 x cs hb ⟨A,c,rfl,hl,hr⟩
 exact ⟨A,c,rfl,hl,hd.C hb hr⟩⟩
theorem heap_pair {α β : Type} {a : Kd α} {b : Kd β} (ha : Heap a) (hb' : Heap b) : Heap (pair a b):=⟨by
 rintro w w1 x cs hb ⟨c0,c1,rfl,h0,h1⟩
 exact ⟨c0,c1,rfl,ha.K hb h0,hb'.K hb h1⟩⟩
theorem heap_iso {α β : Type} {d : Kd α} (f : β → α) (hd : Heap d) : Heap (iso d f):=⟨fun hb h => hd.K hb h⟩
end Kd
end Go.Proofs.YtennhpoemdaghaaGreatDoorW.PrintWords
end
section
namespace Go.Proofs.YtennhpoemdaghaaGreatDoorW.PrintWords
open Go.RowKit
def Foot (P : World → Prop) (W : World) (ok : Nat → Prop) : Prop:=∀ W' : World,(∀ k,ok k → k < W.heap.size → W'.heap[k]? = W.heap[k]?) → P W'
theorem heap_lt {W W1 : World} {k : Nat} (h : W1.heap[k]? = W.heap[k]?) (hlt : k < W.heap.size) : k < W1.heap.size:=by
 rw [Array.getElem?_eq_getElem hlt] at h
 exact (Array.getElem?_eq_some_iff.1 h).1
namespace Foot
variable {P Q : World → Prop} {W W1 : World} {ok ok' : Nat → Prop}
theorem now (h : Foot P W ok) : P W:=h W (fun _ _ _ => rfl)
theorem mono (h : Foot P W ok) (hok : ∀ k,ok k → ok' k) : Foot P W ok':=fun W' hW => h W' (fun k hk hlt => hW k (hok k hk) hlt)
theorem bound (h : Foot P W ok) : Foot P W (fun k => ok k ∧ k < W.heap.size):=fun W' hW => h W' (fun k hk hlt => hW k ⟨hk,hlt⟩ hlt)
theorem step (h : Foot P W ok) (hm : ∀ k,ok k → k < W.heap.size → W1.heap[k]? = W.heap[k]?) : Foot P W1 ok:=fun W' hW => h W' (fun k hk hlt => (hW k hk (heap_lt (hm k hk hlt) hlt)).trans (hm k hk hlt))
end Foot
namespace Kd
def F {α : Type} (d : Kd α) (W : World) (ok : Nat → Prop) (A : Option Addr) (n : Nat) (xs : List α) : Prop:=Foot (fun W => d.C W A n xs) W ok
def FK {α : Type} (d : Kd α) (W : World) (ok : Nat → Prop) (x : α) (c : List Value) : Prop:=Foot (fun W => d.K W x c) W ok
section
variable {α β : Type} {d : Kd α} {e base n n' cc g N : Nat} {ok ok' okp S : Nat → Prop} {w w0 w1 W W1 : World} {A A' : Option Addr} {u v v1 : Value} {xs : List α} {xs' : List β} {d' : Kd β} {x : α} {c : List Value}
theorem F_now (h : F d W ok A n xs) : d.C W A n xs:=Foot.now h
theorem F_mono (h : F d W ok A n xs) (hok : ∀ k,ok k → ok' k) : F d W ok' A n xs:=Foot.mono h hok
theorem F_bound (h : F d W ok A n xs) : F d W (fun k => ok k ∧ k < W.heap.size) A n xs:=Foot.bound h
theorem F_step (h : F d W ok A n xs) (hm : ∀ k,ok k → k < W.heap.size → W1.heap[k]? = W.heap[k]?) : F d W1 ok A n xs:=Foot.step h hm
theorem F_below (h : F d W ok A n xs) (hb : Below W.heap.size W W1) : F d W1 ok A n xs:=F_step h (fun k _ hlt => hb.block k hlt)
theorem F_nil (d : Kd α) (W : World) (ok : Nat → Prop) : F d W ok none ([] : List α).length []:=fun W' _ => C_nil d W'
theorem F_after (h : F d W (fun k => ok k ∧ some k ≠ v.ownBlock) A n xs) (hg : W.grownBy W1 v.ownBlock) (hat : v1.ownBlock = v.ownBlock ∨ ∃ b,v1.ownBlock = some b ∧ W.heap.size ≤ b) : F d W1 (fun k => ok k ∧ some k ≠ v1.ownBlock) A n xs:=by
 refine F_mono (Foot.step (F_bound h) (fun k hk hlt => hg.block k hlt hk.1.2)) (fun k hk => ⟨hk.1.1,?_⟩)
 rcases hat with hat | ⟨b,hb,hle⟩
 ·rw [hat];exact hk.1.2
 ·rw [hb]
  intro he
  injection he with he
  have:=hk.2
  omega
theorem C_F (hd : Heap d) (h : d.C w A n xs) : F d w (fun k => k < w.heap.size) A n xs:=fun _ hW => hd.C (fun k hlt => hW k hlt hlt) h
theorem R_F (h : d.R e W base ok (.slice A n cc) xs) : F d W ok A n xs:=fun W' hW => by
 have h2:=R_reads' (R_step h hW)
 rw [h2.1]
 exact h2.2.2
theorem FK_now (h : FK d W ok x c) : d.K W x c:=Foot.now h
theorem FK_mono (h : FK d W ok x c) (hok : ∀ k,ok k → ok' k) : FK d W ok' x c:=Foot.mono h hok
theorem FK_bound (h : FK d W ok x c) : FK d W (fun k => ok k ∧ k < W.heap.size) x c:=Foot.bound h
theorem FK_step (h : FK d W ok x c) (hm : ∀ k,ok k → k < W.heap.size → W1.heap[k]? = W.heap[k]?) : FK d W1 ok x c:=Foot.step h hm
theorem FK_of_M (h : d.M W base ok x c) : FK d W ok x c:=fun _ hW => d.K_of_M (M_step h hW)
theorem emptied (W : World) (g : Nat) : ∃ W' : World,(∀ k,k ≠ g → W'.heap[k]? = W.heap[k]?) ∧ ∀ a : Addr,a.block = g → W'.cell? a = none:=by
 refine ⟨{ W with heap:=W.heap.setIfInBounds g (.cells #[] 0) },fun k hk => by simp [Ne.symm hk],fun a ha => ?_⟩
 subst ha
 by_cases hlt : a.block < W.heap.size
 ·simp [World.cell?,hlt]
 ·simp [World.cell?,hlt]
end
end Kd
end Go.Proofs.YtennhpoemdaghaaGreatDoorW.PrintWords
end
section
namespace Go.Proofs.YtennhpoemdaghaaGreatDoorW.PrintWords
open Go.RowKit
namespace Kd
def chunks (sz : Nat) (n : Nat) (inner : List Value) : List (List Value):=(List.range n).map fun j => (inner.drop (j * sz)).take sz
theorem chunks_length (sz n : Nat) (inner : List Value) : (chunks sz n inner).length = n:=by simp [chunks]
theorem chunks_at {sz n : Nat} {inner : List Value} {j : Nat} (hj : j < n) : (chunks sz n inner)[j]? = some ((inner.drop (j * sz)).take sz):=by simp [chunks,hj]
theorem chunks_get {sz n : Nat} {inner : List Value} {j : Nat} {c : List Value} (h : (chunks sz n inner)[j]? = some c) : c = (inner.drop (j * sz)).take sz:=by
 have hj : j < n:=by have:=(List.getElem?_eq_some_iff.1 h).1;rwa [chunks_length] at this
 rw [chunks_at hj] at h
 injection h with h
 exact h.symm
theorem reps_raw {α : Type} {Rr : α → List Value → Prop} {sz : Nat} {xs : List α} {inner : List Value} (h : Reps Rr sz xs inner) (hR : ∀ x c,Rr x c → c.length = sz ∧ ∀ u ∈ c,u.oneCell' = true) : Reps (fun x cs => cs = x ∧ cs.length = sz ∧ ∀ u ∈ cs,u.oneCell' = true) sz (chunks sz xs.length inner) inner:=by
 refine ⟨by rw [chunks_length];exact h.1,fun j p hj => ?_⟩
 have hjl : j < xs.length:=by have:=(List.getElem?_eq_some_iff.1 hj).1;rwa [chunks_length] at this
 have hp:=chunks_get hj
 exact ⟨hp.symm,hR _ _ (h.2 j _ (List.getElem?_eq_getElem hjl))⟩
section
variable {α : Type} {d : Kd α} {e base n cc g : Nat} {ok ok' okp S : Nat → Prop} {w w1 W W1 : World} {A : Option Addr} {u v v1 : Value} {xs : List α} {x : α} {c : List Value}
theorem F_get (h : F d W ok A n xs) (z : α) (i : Int) (h0 : 0 ≤ i) (h1 : i < n) :
  ∃ ad c,A = some ad ∧ c.length = d.sz ∧ FK d W ok (xs.getD i.toNat z) c ∧ (∀ j u,c[j]? = some u → W.cell? (ad.add (i.toNat * d.sz + j)) = some u) ∧ (0 < d.sz → ok ad.block):=by
 obtain ⟨ad,c,rfl,hcl,hK,hcc⟩:=C_get (F_now h) z i h0 h1
 have hin : 0 < d.sz → ok ad.block:=by
  intro hs
  by_cases hk : ok ad.block
  ·exact hk
  ·obtain ⟨W',h2,h3⟩:=emptied W ad.block
   obtain ⟨ad',c',he,hcl',_,hcc'⟩:=C_get (h W' (fun k hk' _ => h2 k (fun e => hk (e ▸ hk')))) z i h0 h1
   injection he with he
   subst he
   have h4:=hcc' 0 _ (List.getElem?_eq_getElem q5_)
   rw [h3 _ (add_block _ _)] at h4
   cases h4
 refine ⟨ad,c,rfl,hcl,fun W' hW => ?_,hcc,hin⟩
 obtain ⟨ad',c',he,hcl',hK',hcc'⟩:=C_get (h W' hW) z i h0 h1
 injection he with he
 subst he
 have hc : c = c':=by
  apply List.ext_getElem?
  intro j
  by_cases hj : j < d.sz
  ·have hb : W'.heap[ad.block]? = W.heap[ad.block]?:=by
    have h5:=hcc j _ (List.getElem?_eq_getElem q5_)
    have h6:=World.block_lt_of_cell? W _ h5
    rw [add_block] at h6
    exact hW _ (hin q5_) h6
   have h5:=hcc j _ (List.getElem?_eq_getElem q5_)
   have h6:=hcc' j _ (List.getElem?_eq_getElem q5_)
   have h7 : W'.cell? (ad.add (i.toNat * d.sz + j)) = W.cell? (ad.add (i.toNat * d.sz + j)):=by simp [World.cell?,add_block,hb]
   rw [h7,h5] at h6
   rw [List.getElem?_eq_getElem q5_,List.getElem?_eq_getElem q5_]
   exact h6
  ·rw [List.getElem?_eq_none q5_,List.getElem?_eq_none q5_]
 rw [hc]
 exact hK'
def N {α : Type} (d : Kd α) (e : Nat) (w : World) (base : Nat) (ok : Nat → Prop) (v : Value) (xs : List α) : Prop :=
 (∀ k,v.ownBlock = some k → ok k) ∧ ∃ rows : List (List Value),rows.length = xs.length ∧ (raw d.sz).R e w base (fun k => some k = v.ownBlock) v rows ∧ ∀ (j : Nat) (x : α) (c : List Value),xs[j]? = some x → rows[j]? = some c → FK d w (fun k => ok k ∧ some k ≠ v.ownBlock) x c
theorem raw_tight {sz : Nat} {rows : List (List Value)} (h : (raw sz).R e w base ok v rows) : (raw sz).R e w base (fun k => some k = v.ownBlock) v rows:=R_tight rfl h
theorem raw_any {sz : Nat} {rows : List (List Value)} (h : (raw sz).R e w base ok v rows) : (raw sz).R e w base (fun _ => True) v rows:=R_mono h (fun _ _ => trivial)
theorem R_N (h : d.R e w base ok v xs) : N d e w base ok v xs:=by
 obtain ⟨h0,inner,ho,hr⟩:=h
 refine ⟨h0,chunks d.sz xs.length inner,chunks_length _ _ _,⟨fun k hk => hk.symm,inner,by rw [chunks_length];exact ho,reps_raw hr (fun x c hp => ⟨d.K_len (d.K_of_M hp),d.K_one (d.K_of_M hp)⟩)⟩,fun j x c hx hc => ?_⟩
 rw [chunks_get hc]
 exact FK_of_M (hr.2 j x hx)
theorem N_nil (d : Kd α) (e : Nat) (w : World) (base : Nat) (ok : Nat → Prop) : N d e w base ok (.slice none 0 0) []:=R_N (R_nil _ _ _ _ _)
theorem N_mono (h : N d e w base ok v xs) (hok : ∀ k,ok k → ok' k) : N d e w base ok' v xs:=by
 obtain ⟨h0,rows,hl,hR,hf⟩:=h
 exact ⟨fun k hk => hok k (h0 k hk),rows,hl,hR,fun j x c hx hc => FK_mono (hf j x c hx hc) (fun k hk => ⟨hok k hk.1,hk.2⟩)⟩
theorem N_lt (h : N d e w base ok v xs) : ∀ k,v.ownBlock = some k → k < w.heap.size:=by
 obtain ⟨_,rows,_,hR,_⟩:=h
 exact R_lt hR
theorem N_base (h : N d e w base ok v xs) : ∀ k,v.ownBlock = some k → base ≤ k:=by
 obtain ⟨_,rows,_,hR,_⟩:=h
 exact R_base hR
theorem N_bound (h : N d e w base ok v xs) : N d e w base (fun k => ok k ∧ k < w.heap.size) v xs:=by
 have hlt:=N_lt h
 obtain ⟨h0,rows,hl,hR,hf⟩:=h
 exact ⟨fun k hk => ⟨h0 k hk,hlt k hk⟩,rows,hl,hR,fun j x c hx hc => FK_mono (FK_bound (hf j x c hx hc)) (fun k hk => ⟨⟨hk.1.1,hk.2⟩,hk.1.2⟩)⟩
theorem N_lower {base' : Nat} (h : N d e w base ok v xs) (hb : base' ≤ base) : N d e w base' ok v xs:=by
 obtain ⟨h0,rows,hl,hR,hf⟩:=h
 exact ⟨h0,rows,hl,R_lower hR hb,hf⟩
theorem N_step (h : N d e w base ok v xs) (hm : ∀ k,ok k → k < w.heap.size → w1.heap[k]? = w.heap[k]?) : N d e w1 base ok v xs:=by
 obtain ⟨h0,rows,hl,hR,hf⟩:=h
 exact ⟨h0,rows,hl,R_step hR (fun k hk hlt => hm k (h0 k hk.symm) hlt),fun j x c hx hc => FK_step (hf j x c hx hc) (fun k hk hlt => hm k hk.1 hlt)⟩
theorem N_below (h : N d e w base ok v xs) (hb : Below w.heap.size w w1) : N d e w1 base ok v xs:=N_step h (fun k _ hk => hb.block k hk)
theorem N_drewN (h : N d e w base ok v xs) (m : Nat) : N d e (w.drewN m) base ok v xs:=N_below h (pw_below_drewN (Below.refl _ _) m)
theorem N_elder' (h : N d e W base ok v xs) (hbase : ∀ k,u.ownBlock = some k → W.heap.size ≤ k) (hb : Below W.heap.size W w1) : N d e w1 base (fun k => ok k ∧ some k ≠ u.ownBlock) v xs :=
 N_mono (N_below (N_bound h) hb) (fun k hk => ⟨hk.1,fun he => by have:=hbase k he.symm;have:=hk.2;omega⟩)
theorem N_slice (h : N d e w base ok v xs) : ∃ A c,v = .slice A xs.length c:=by
 obtain ⟨_,rows,hl,hR,_⟩:=h
 obtain ⟨A,c,he⟩:=R_slice hR
 exact ⟨A,c,by rw [he,hl]⟩
theorem N_reads' {n c : Nat} (h : N d e w base ok (.slice A n c) xs) : n = xs.length ∧ n ≤ c ∧ d.C w A xs.length xs:=by
 obtain ⟨_,rows,hl,hR,hf⟩:=h
 obtain ⟨hn,hc,hC⟩:=R_reads' hR
 refine ⟨by omega,hc,?_⟩
 rw [hl] at hC
 refine ⟨rfl,hC.2.1,fun hp => ?_⟩
 obtain ⟨ad,he,hcell⟩:=hC.2.2 hp
 refine ⟨ad,he,fun j p hj => ?_⟩
 have hjl : j < rows.length:=by have:=(List.getElem?_eq_some_iff.1 hj).1;omega
 obtain ⟨c',hcl,hK,hcc⟩:=hcell j _ (List.getElem?_eq_getElem hjl)
 have hk:=FK_now (hf j p _ hj (List.getElem?_eq_getElem hjl))
 refine ⟨c',hcl,?_,hcc⟩
 rw [show c' = rows[j] from hK.1]
 exact hk
end
end Kd
end Go.Proofs.YtennhpoemdaghaaGreatDoorW.PrintWords
end
section
namespace Go.Proofs.YtennhpoemdaghaaGreatDoorW.PrintWords
open Go.RowKit
section
variable {P : Program} {d : Nat} {xs ys : Array Value} {f : Field} {fs : List Field} {a b : Value} {r s : Bool} {w : World}
theorem eqf_last (hn : (f.name == "_") = false) (ha : (part f.type xs f.offset).run P w = .ok a w) (hb : (part f.type ys f.offset).run P w = .ok b w) (he : (Op.equalIn d f.type a b).run P w = .ok r w) : (Op.eqFields d xs ys [f]).run P w = .ok r w:=by
 have hn' : f.name ≠ "_" := by simpa using hn
 simp only [Op.eqFields,if_pos hn',Sem.run_bind,ha,hb,he,Result.andThen_ok]
 cases r <;> simp
theorem eqf_cons (hn : (f.name == "_") = false) (ha : (part f.type xs f.offset).run P w = .ok a w) (hb : (part f.type ys f.offset).run P w = .ok b w) (he : (Op.equalIn d f.type a b).run P w = .ok r w) (hr : (Op.eqFields d xs ys fs).run P w = .ok s w) : (Op.eqFields d xs ys (f :: fs)).run P w = .ok (r && s) w:=by
 have hn' : f.name ≠ "_" := by simpa using hn
 rw [Op.eqFields]
 simp only [if_pos hn',Sem.run_bind,ha,hb,he,Result.andThen_ok]
 cases r
 ·simp
 ·simpa using hr
theorem eqA_of {t : TypeId} {fs : Array Field} (hu : P.underlying t = some (.struct fs)) (hp : P.stoodInHeld t = false) (h : (Op.eqFields d xs ys fs.toList).run P w = .ok r w) : (Op.equalIn (d + 1) t (.agg xs) (.agg ys)).run P w = .ok r w:=by
 have hf : P.fieldsOf t = fs:=by simp [Program.fieldsOf,hu]
 rw [run_equalIn_struct (P:=P) w d t xs ys (by rw [hf];exact hu) hp,hf]
 exact h
end
end Go.Proofs.YtennhpoemdaghaaGreatDoorW.PrintWords
end
section
namespace Go.Proofs.YtennhpoemdaghaaGreatDoorW.PrintWords
theorem Reps.one {α : Type} {R : α → List Value → Prop} {ps : List α} {cs : List Value} {p : α} {v : Value} (hp : R p [v]) (h : Reps R 1 ps cs) : Reps R 1 (p :: ps) (v :: cs):=by
 refine ⟨by simp [h.1],fun j q hq => ?_⟩
 cases j with
 | zero =>
  simp only [List.getElem?_cons_zero,Option.some.injEq] at hq
  subst hq
  simpa using hp
 | succ j =>
  simp only [List.getElem?_cons_succ] at hq
  have h1:=h.2 j q hq
  simpa [Nat.mul_one] using h1
theorem Reps.front {α : Type} {R : α → List Value → Prop} {size : Nat} {ps : List α} {cs c all : List Value} {p : α} (hp : R p c) (hc : c.length = size) (h : Reps R size ps cs) (ha : c ++ cs = all) : Reps R size (p :: ps) all:=by
 subst ha
 refine ⟨by rw [List.length_append,hc,h.1,List.length_cons,Nat.succ_mul,Nat.add_comm],fun j q hq => ?_⟩
 cases j with
 | zero =>
  simp only [List.getElem?_cons_zero,Option.some.injEq] at hq
  subst hq
  rw [Nat.zero_mul,List.drop_zero,List.take_append_of_le_length q5_,List.take_of_length_le q5_]
  exact hp
 | succ j =>
  simp only [List.getElem?_cons_succ] at hq
  have h1:=h.2 j q hq
  rw [Nat.succ_mul,List.drop_append,List.drop_of_length_le (by rw [hc];exact Nat.le_add_left _ _),List.nil_append,hc,Nat.add_sub_cancel]
  exact h1
theorem Reps.c6 {α : Type} {R : α → List Value → Prop} {ps : List α} {cs : List Value} {p : α} {va vb vc vd ve vf : Value} (hp : R p [va,vb,vc,vd,ve,vf]) (h : Reps R 6 ps cs) : Reps R 6 (p :: ps) (va :: vb :: vc :: vd :: ve :: vf :: cs):=Reps.front hp rfl h rfl
theorem Reps.c7 {α : Type} {R : α → List Value → Prop} {ps : List α} {cs : List Value} {p : α} {va vb vc vd ve vf vg : Value} (hp : R p [va,vb,vc,vd,ve,vf,vg]) (h : Reps R 7 ps cs) : Reps R 7 (p :: ps) (va :: vb :: vc :: vd :: ve :: vf :: vg :: cs):=Reps.front hp rfl h rfl
end Go.Proofs.YtennhpoemdaghaaGreatDoorW.PrintWords
end
section
namespace Go.Proofs.YtennhpoemdaghaaGreatDoorW.PrintWords
open Go.RowKit
section
variable {P : Program} {ops : Array Oper} {rest : List Oper} {o : Oper} {a : Act} {Q : Exit → Act → World → Prop} {W : World}
theorem gate_guard (hw : Region.wanted o (yielded ops a.tmps) = true) (h : wpList P ops Q ({ o with guard:=none } :: rest) a W) : wpList P ops Q (o :: rest) a W:=by
 have h1 : Region.wanted { o with guard:=none } (yielded ops a.tmps) = true:=rfl
 unfold wpList at h ⊢
 rw [if_pos h1] at h
 rw [if_pos hw]
 exact h
end
end Go.Proofs.YtennhpoemdaghaaGreatDoorW.PrintWords
end
section
namespace Go.Proofs.YtennhpoemdaghaaGreatDoorW.PrintWords
open Go.RowKit
namespace Kd
section
variable {α : Type} {d : Kd α} {e base n cap g : Nat} {ok ok' okp : Nat → Prop} {w w1 W : World} {v v1 : Value} {xs ys : List α}
theorem N_appended {rows news : List (List Value)} (h0 : ∀ k,v.ownBlock = some k → ok k) (hl : rows.length = xs.length) (hf : ∀ (j : Nat) (x : α) (c : List Value),xs[j]? = some x → rows[j]? = some c → FK d W (fun k => ok k ∧ some k ≠ v.ownBlock) x c)
  (hl2 : news.length = ys.length) (hf2 : ∀ (j : Nat) (x : α) (c : List Value),ys[j]? = some x → news[j]? = some c → FK d W okp x c) (hokp : ∀ k,okp k → ok k ∧ some k ≠ v.ownBlock) (hfresh : ∀ k,W.heap.size ≤ k → ok k)
  (hR : (raw d.sz).R e w1 base (fun _ => True) v1 (rows ++ news)) (hg : W.grownBy w1 v.ownBlock) (hat : v1.ownBlock = v.ownBlock ∨ ∃ b,v1.ownBlock = some b ∧ W.heap.size ≤ b) : N d e w1 base ok v1 (xs ++ ys):=by
 have hne : ∀ k,some k ≠ v.ownBlock → k < W.heap.size → some k ≠ v1.ownBlock:=by
  intro k hk hlt
  rcases hat with hat | ⟨b,hb,hle⟩
  ·rw [hat];exact hk
  ·rw [hb]
   intro he
   injection he with he
   omega
 have step : ∀ {x : α} {c : List Value} {o : Nat → Prop},FK d W o x c → (∀ k,o k → ok k ∧ some k ≠ v.ownBlock) → FK d w1 (fun k => ok k ∧ some k ≠ v1.ownBlock) x c:=by
  intro x c o hq ho
  exact FK_mono (FK_step (FK_bound hq) (fun k hk hlt => hg.block k hlt (ho k hk.1).2)) (fun k hk => ⟨(ho k hk.1).1,hne k (ho k hk.1).2 hk.2⟩)
 refine ⟨fun k hk => ?_,rows ++ news,by rw [List.length_append,List.length_append,hl,hl2],raw_tight hR,fun j x c hx hc => ?_⟩
 ·rcases hat with hat | ⟨b,hb,hle⟩
  ·exact h0 k (hat ▸ hk)
  ·rw [hb] at hk
   injection hk with hk
   exact hfresh k q5_
 ·rcases Nat.lt_or_ge j xs.length with hlt | hge
  ·rw [List.getElem?_append_left hlt] at hx
   rw [List.getElem?_append_left q5_] at hc
   exact step (hf j x c hx hc) (fun _ hk => hk)
  ·rw [List.getElem?_append_right hge] at hx
   rw [List.getElem?_append_right q5_,hl] at hc
   exact step (hf2 _ x c hx hc) hokp
theorem FK_raw {x : α} {c : List Value} (h : FK d W ok x c) : c = c ∧ c.length = d.sz ∧ ∀ u ∈ c,u.oneCell' = true:=⟨rfl,d.K_len (FK_now h),d.K_one (FK_now h)⟩
theorem N_made {rows : List (List Value)} (hR : (raw d.sz).R e w1 base (fun k => k = W.heap.size) v1 rows) (hg : W.grownBy w1 none) (hat : ∃ b,v1.ownBlock = some b ∧ W.heap.size ≤ b) (hl : rows.length = xs.length) (hf : ∀ (j : Nat) (x : α) (c : List Value),xs[j]? = some x → rows[j]? = some c → FK d W okp x c)
  (hok : ∀ k,okp k → ok k) (hfresh : ok W.heap.size) : N d e w1 base ok v1 xs:=by
 obtain ⟨b,hb,hle⟩:=hat
 refine ⟨fun k hk => by rw [hR.1 k hk];exact hfresh,rows,hl,raw_tight hR,fun j x c hx hc => ?_⟩
 refine FK_mono (FK_step (FK_bound (hf j x c hx hc)) (fun k hk hlt => hg.block k hlt q25_)) (fun k hk => ⟨hok k hk.1,fun he => ?_⟩)
 rw [hb] at he
 injection he with he
 have:=hk.2
 omega
end
section
variable {P : Program} {ops : Array Oper} {rest : List Oper} {o : Oper} {a : Act} {Q : Exit → Act → World → Prop} {Kc : Act → World → Prop} {α : Type}
theorem N_append (d : Kd α) {w0 W : World} (base : Nat) (hgd : o.guard = none) (s x : Operand) (t e : TypeId) (z : Value) (bytes : Nat)
  (ho : o.op = .call { callee:=.builtin .append,args:=#[s,x],argTypes:=#[t,t] })
  (ht : P.underlying t = some (.slice e)) (hinfo : (P.info? e).map (fun i => (i.zero,i.size,i.bytes)) = some (some z,d.sz,bytes)) (hz : z.cells.size = d.sz) (hs0 : 0 < d.sz) (hb0 : 0 < bytes)
  (v : Value) (xs : List α) (p : α) (cs : List Value) (ok okp : Nat → Prop) (hs : a.eval s = v) (hx : a.eval x = .slice (some ⟨W.heap.size,0,none⟩) 1 1) (hp : FK d W okp p cs) (hokp : ∀ k,okp k → ok k ∧ some k ≠ v.ownBlock) (hfresh : ∀ k,W.heap.size ≤ k → ok k)
  (HO : N d e W base ok v xs) (HB : Below base w0 W) (hbase : base ≤ W.heap.size) (hl : (xs.length + 1) * bytes ≤ 140737488355328)
  (h : ∀ v1 w1,N d e w1 base ok v1 (xs ++ [p]) → Below base w0 w1 → W.grownBy w1 v.ownBlock → (v1.ownBlock = v.ownBlock ∨ ∃ b,v1.ownBlock = some b ∧ W.heap.size ≤ b) → wpList P ops Q rest (a.put o.dst v1) w1) :
  wpList P ops Q (o :: rest) a (W.alloc (.cells cs.toArray e)):=by
 obtain ⟨h0,rows,hlr,hR,hf⟩:=HO
 refine R_append (raw d.sz) base hgd s x t e z bytes ho ht hinfo hz hs0 hb0 v rows cs cs (fun _ => True) (fun _ => False) hs hx (FK_raw hp) (fun _ hk => hk.elim) (fun _ _ => trivial) (raw_any hR) HB hbase (by rw [hlr];exact hl) ?_
 intro v1 w1 hr hb hg hat
 exact h v1 w1 (N_appended h0 hlr hf (ys:=[p]) (news:=[cs]) rfl (fun j y c hy hc => by
  rcases j with _ | j
  ·simp only [List.getElem?_cons_zero,Option.some.injEq] at hy hc
   rw [← hy,← hc];exact hp
  ·simp at hy) hokp hfresh hr hg hat) hb hg hat
theorem N_lit (d : Kd α) {w0 W : World} (base e : Nat) (hgd : o.guard = none) {N' : Tmp} (_hd : o.dst = some N') {xs : List α} {inner : List Value} {ok okp : Nat → Prop}
  (hrun : (execOp a.eval o).run P W = .ok (.value (.slice (some ⟨W.heap.size,0,none⟩) xs.length xs.length)) (W.alloc (.cells inner.toArray e)))
  (hrep : Reps (FK d W okp) d.sz xs inner) (hok : ∀ k,okp k → ok k) (hfresh : ok W.heap.size) (HB : Below base w0 W) (hbase : base ≤ W.heap.size) (hm : xs.length ≤ 9223372036854775807)
  (h : ∀ v1 w1,N d e w1 base ok v1 xs → Below base w0 w1 → W.grownBy w1 none → (∃ b,v1.ownBlock = some b ∧ W.heap.size ≤ b) → wpList P ops Q rest (a.put o.dst v1) w1) :
  wpList P ops Q (o :: rest) a W:=by
 refine R_lit (raw d.sz) base e hgd _hd (xs:=chunks d.sz xs.length inner) (inner:=inner) (ok:=fun k => k = W.heap.size) (okp:=fun _ => False) (by rw [chunks_length];exact hrun) (reps_raw hrep (fun y c hk => ⟨d.K_len (FK_now hk),d.K_one (FK_now hk)⟩)) (fun _ hk => hk.elim) rfl HB hbase (by rw [chunks_length];exact hm) ?_
 intro v1 w1 hr hb hg hat
 exact h v1 w1 (N_made hr hg hat (chunks_length _ _ _) (fun j y c hy hc => by rw [chunks_get hc];exact hrep.2 j y hy) hok hfresh) hb hg hat
end
end Kd
end Go.Proofs.YtennhpoemdaghaaGreatDoorW.PrintWords
end
section
namespace Go.Proofs.YtennhpoemdaghaaGreatDoorW.PrintWords
open Go.RowKit
section
variable {P : Program} {ops : Array Oper} {rest : List Oper} {o : Oper} {a : Act} {Q : Exit → Act → World → Prop} {W : World}
theorem gate_callee {f : FuncId} {as_ : Array Operand} {ts : Array TypeId} (_ho : o.op = .call { callee:=.value (.func f),args:=as_,argTypes:=ts }) (h : wpList P ops Q (o :: rest) a W) : wpList P ops Q (o :: rest) a W:=h
theorem gate_builtin {b : Builtin} {xs : Array Operand} {ts : Array TypeId} (_ho : o.op = .call { callee:=.builtin b,args:=xs,argTypes:=ts }) (h : wpList P ops Q (o :: rest) a W) : wpList P ops Q (o :: rest) a W:=h
end
end Go.Proofs.YtennhpoemdaghaaGreatDoorW.PrintWords
namespace Go.Proofs.YtennhpoemdaghaaGreatDoorW.PrintWords
open Go.RowKit
namespace Kd
def V {α : Type} (d : Kd α) (_e : Nat) (W : World) (_base : Nat) (ok : Nat → Prop) (v : Value) (xs : List α) : Prop:=∃ A c,v = .slice A xs.length c ∧ xs.length ≤ c ∧ F d W ok A xs.length xs
section
variable {α β : Type} {d : Kd α} {e base base' n m c g N' lo hi : Nat} {ok ok' S : Nat → Prop} {w W w1 : World} {A : Option Addr} {ad : Addr} {u v v1 : Value} {xs : List α}
theorem V_map (h : V d e W base ok v xs) (hF : ∀ A,F d W ok A xs.length xs → F d w1 ok' A xs.length xs) : V d e w1 base' ok' v xs:=by
 obtain ⟨A,c,hv,hl,hf⟩:=h
 exact ⟨A,c,hv,hl,hF A hf⟩
theorem V_mk (hl : xs.length ≤ c) (hf : F d W ok A xs.length xs) : V d e W base ok (.slice A xs.length c) xs:=⟨A,c,rfl,hl,hf⟩
theorem V_at (h : V d e W base ok (.slice A n c) xs) : n = xs.length ∧ n ≤ c ∧ F d W ok A xs.length xs:=by
 obtain ⟨A',c',hv,hl,hf⟩:=h
 injection hv with ha hn hc
 subst ha;subst hc
 exact ⟨hn,by rw [hn];exact hl,hf⟩
theorem V_reads' (h : V d e W base ok (.slice A n c) xs) : n = xs.length ∧ n ≤ c ∧ d.C W A xs.length xs:=⟨(V_at h).1,(V_at h).2.1,F_now (V_at h).2.2⟩
theorem V_F (h : V d e W base ok (.slice A n c) xs) : F d W ok A n xs:=by
 obtain ⟨hn,_,hf⟩:=V_at h
 rw [hn]
 exact hf
theorem V_mono (h : V d e W base ok v xs) (hok : ∀ k,ok k → ok' k) : V d e W base ok' v xs:=V_map h (fun _ hf => F_mono hf hok)
theorem V_after (h : V d e W base (fun k => ok k ∧ some k ≠ u.ownBlock) v xs) (hg : W.grownBy w1 u.ownBlock) (hat : v1.ownBlock = u.ownBlock ∨ ∃ b,v1.ownBlock = some b ∧ W.heap.size ≤ b) : V d e w1 base (fun k => ok k ∧ some k ≠ v1.ownBlock) v xs:=V_map h (fun _ hf => F_after hf hg hat)
theorem V_afterv (h : V d e W base (fun k => ok k ∧ some k ≠ v.ownBlock) u xs) (hg : W.grownBy w1 v.ownBlock) (hat : v1.ownBlock = v.ownBlock ∨ ∃ b,v1.ownBlock = some b ∧ W.heap.size ≤ b) : V d e w1 base (fun k => ok k ∧ some k ≠ v1.ownBlock) u xs:=V_after h hg hat
theorem V_get (h : V d e W base ok (.slice (some ad) n c) xs) (z : α) (i : Int) (h0 : 0 ≤ i) (h1 : i < n) :
  ∃ cs,cs.length = d.sz ∧ FK d W ok (xs.getD i.toNat z) cs ∧ ∀ j u,cs[j]? = some u → W.cell? (ad.add (i.toNat * d.sz + j)) = some u:=by
 obtain ⟨ad',cs,he,hcl,hK,hcc,_⟩:=F_get (V_F h) z i h0 h1
 injection he with he
 subst he
 exact ⟨cs,hcl,hK,hcc⟩
end
end Kd
end Go.Proofs.YtennhpoemdaghaaGreatDoorW.PrintWords
end
section
namespace Go.Proofs.YtennhpoemdaghaaGreatDoor.P
open Go.RowKit Go.Proofs.YtennhpoemdaghaaGreatDoorW.PrintWords Go.Proofs.YtennhpoemdaghaaGreatDoorW.PrintLast Go.Proofs.YtennhpoemdaghaaGreatDoorW.PrintMore
theorem bne_nil_ (l : List UInt8) : (l != []) = !l.isEmpty:=by cases l <;> rfl
theorem info9 : (Tryz.prog.info? 9).map (fun i => (i.zero,i.size,i.bytes)) = some (some (.string ⟨#[]⟩),1,16):=by kernel_rfl
theorem info41 : (Tryz.prog.info? 41).map (fun i => (i.zero,i.size,i.bytes)) = some (some (.agg #[(.string ⟨#[]⟩),(.int .i64 0),(.int .i64 0),(.int .i64 0),(.string ⟨#[]⟩),(.string ⟨#[]⟩)]),6,72):=by kernel_rfl
theorem info70 : (Tryz.prog.info? 70).map (fun i => (i.zero,i.size,i.bytes)) = some (some (.agg #[(.string ⟨#[]⟩),(.int .i64 0),(.int .i64 0),(.int .i64 0),(.string ⟨#[]⟩),(.string ⟨#[]⟩),(.slice none 0 0)]),7,96):=by kernel_rfl
structure S24 where
 f0 : Int
 f1 : Int
 f2 : Int
 f3 : ByteArray
 f4 : ByteArray
def z24 : S24:=⟨(0 : Int),(0 : Int),(0 : Int),(⟨#[]⟩ : ByteArray),(⟨#[]⟩ : ByteArray)⟩
def k24 : Kd S24:=Kd.iso (Kd.pair (Kd.int .i64) (Kd.pair (Kd.int .i64) (Kd.pair (Kd.int .i64) (Kd.pair Kd.string Kd.string)))) (fun x : S24 => (x.f0,x.f1,x.f2,x.f3,x.f4))
theorem k24_heap : Kd.Heap k24:=Kd.heap_iso _ (Kd.heap_pair (Kd.heap_int .i64) (Kd.heap_pair (Kd.heap_int .i64) (Kd.heap_pair (Kd.heap_int .i64) (Kd.heap_pair Kd.heap_string Kd.heap_string))))
theorem k24_open {w : World} {x : S24} {cs : List Value} (h : k24.K w x cs) : cs = [.int .i64 x.f0,.int .i64 x.f1,.int .i64 x.f2,.string x.f3,.string x.f4]:=by
 obtain ⟨_,_,rfl,rfl,⟨_,_,rfl,rfl,⟨_,_,rfl,rfl,⟨_,_,rfl,rfl,rfl⟩⟩⟩⟩:=h
 exact rfl
theorem k24_openM {w : World} {base : Nat} {ok : Nat → Prop} {x : S24} {cs : List Value} (h : k24.M w base ok x cs) : cs = [.int .i64 x.f0,.int .i64 x.f1,.int .i64 x.f2,.string x.f3,.string x.f4]:=by
 obtain ⟨_,_,rfl,rfl,⟨_,_,rfl,rfl,⟨_,_,rfl,rfl,⟨_,_,rfl,rfl,rfl⟩⟩⟩⟩:=h
 exact rfl
theorem k24_mk (w : World) (x : S24)  : k24.K w x [.int .i64 x.f0,.int .i64 x.f1,.int .i64 x.f2,.string x.f3,.string x.f4]:=⟨[.int .i64 x.f0],[.int .i64 x.f1,.int .i64 x.f2,.string x.f3,.string x.f4],rfl,rfl,⟨[.int .i64 x.f1],[.int .i64 x.f2,.string x.f3,.string x.f4],rfl,rfl,⟨[.int .i64 x.f2],[.string x.f3,.string x.f4],rfl,rfl,⟨[.string x.f3],[.string x.f4],rfl,rfl,rfl⟩⟩⟩⟩
theorem k24_mkM (w : World) (base : Nat) (ok : Nat → Prop) (x : S24)  : k24.M w base ok x [.int .i64 x.f0,.int .i64 x.f1,.int .i64 x.f2,.string x.f3,.string x.f4]:=⟨[.int .i64 x.f0],[.int .i64 x.f1,.int .i64 x.f2,.string x.f3,.string x.f4],rfl,rfl,⟨[.int .i64 x.f1],[.int .i64 x.f2,.string x.f3,.string x.f4],rfl,rfl,⟨[.int .i64 x.f2],[.string x.f3,.string x.f4],rfl,rfl,⟨[.string x.f3],[.string x.f4],rfl,rfl,rfl⟩⟩⟩⟩
structure S41 where
 f0 : ByteArray
 f1 : S24
def z41 : S41:=⟨(⟨#[]⟩ : ByteArray),z24⟩
def k41 : Kd S41:=Kd.iso (Kd.pair Kd.string k24) (fun x : S41 => (x.f0,x.f1))
theorem k41_heap : Kd.Heap k41:=Kd.heap_iso _ (Kd.heap_pair Kd.heap_string k24_heap)
theorem k41_open {w : World} {x : S41} {cs : List Value} (h : k41.K w x cs) : cs = [.string x.f0,.int .i64 x.f1.f0,.int .i64 x.f1.f1,.int .i64 x.f1.f2,.string x.f1.f3,.string x.f1.f4]:=by
 obtain ⟨_,_,rfl,rfl,s1⟩:=h
 obtain rfl:=k24_open s1
 exact rfl
theorem k41_openM {w : World} {base : Nat} {ok : Nat → Prop} {x : S41} {cs : List Value} (h : k41.M w base ok x cs) : cs = [.string x.f0,.int .i64 x.f1.f0,.int .i64 x.f1.f1,.int .i64 x.f1.f2,.string x.f1.f3,.string x.f1.f4]:=by
 obtain ⟨_,_,rfl,rfl,s1⟩:=h
 obtain rfl:=k24_openM s1
 exact rfl
theorem k41_mk (w : World) (x : S41)  : k41.K w x [.string x.f0,.int .i64 x.f1.f0,.int .i64 x.f1.f1,.int .i64 x.f1.f2,.string x.f1.f3,.string x.f1.f4]:=⟨[.string x.f0],[.int .i64 x.f1.f0,.int .i64 x.f1.f1,.int .i64 x.f1.f2,.string x.f1.f3,.string x.f1.f4],rfl,rfl,(k24_mk w x.f1 )⟩
theorem k41_mkM (w : World) (base : Nat) (ok : Nat → Prop) (x : S41)  : k41.M w base ok x [.string x.f0,.int .i64 x.f1.f0,.int .i64 x.f1.f1,.int .i64 x.f1.f2,.string x.f1.f3,.string x.f1.f4]:=⟨[.string x.f0],[.int .i64 x.f1.f0,.int .i64 x.f1.f1,.int .i64 x.f1.f2,.string x.f1.f3,.string x.f1.f4],rfl,rfl,(k24_mkM w base ok x.f1 )⟩
def rd_T41 (xs : List S41) (i : Int) : S41:=xs.getD i.toNat z41
theorem at_T41 {w : World} {A : Option Addr} {n : Nat} {xs : List S41} (h : Kd.C k41 w A n xs) (i : Int) (h0 : 0 ≤ i) (h1 : i < n) : ∃ ad , A = some ad ∧ w.cell? (ad.add (i.toNat * 6)) = some (.string (rd_T41 xs i).f0) ∧ w.cell? ⟨(ad.add (i.toNat * 6)).block,(ad.add (i.toNat * 6)).off + 1,none⟩ = some (.int .i64 (rd_T41 xs i).f1.f0) ∧ w.cell? ⟨(ad.add (i.toNat * 6)).block,(ad.add (i.toNat * 6)).off + 2,none⟩ = some (.int .i64 (rd_T41 xs i).f1.f1) ∧ w.cell? ⟨(ad.add (i.toNat * 6)).block,(ad.add (i.toNat * 6)).off + 3,none⟩ = some (.int .i64 (rd_T41 xs i).f1.f2) ∧ w.cell? ⟨(ad.add (i.toNat * 6)).block,(ad.add (i.toNat * 6)).off + 4,none⟩ = some (.string (rd_T41 xs i).f1.f3) ∧ w.cell? ⟨(ad.add (i.toNat * 6)).block,(ad.add (i.toNat * 6)).off + 5,none⟩ = some (.string (rd_T41 xs i).f1.f4):=by
 obtain ⟨ad,c,e,_,hK,hc0⟩:=Kd.C_get h z41 i h0 h1
 have hc : ∀ j u,c[j]? = some u → w.cell? (ad.add (i.toNat * 6 + j)) = some u:=hc0
 obtain rfl:=k41_open hK
 exact ⟨ad,e,hc 0 _ rfl,by rw [← add_field _ _ 1 q5_];exact hc 1 _ rfl,by rw [← add_field _ _ 2 q5_];exact hc 2 _ rfl,by rw [← add_field _ _ 3 q5_];exact hc 3 _ rfl,by rw [← add_field _ _ 4 q5_];exact hc 4 _ rfl,by rw [← add_field _ _ 5 q5_];exact hc 5 _ rfl⟩
structure S68 where
 f0 : S41
 f1 : (List S41)
def z68 : S68:=⟨z41,([] : List S41)⟩
def k68 : Kd S68:=Kd.iso (Kd.pair k41 (Kd.slice 41 k41)) (fun x : S68 => (x.f0,x.f1))
theorem k68_heap : Kd.Heap k68:=Kd.heap_iso _ (Kd.heap_pair k41_heap (Kd.heap_slice 41 k41_heap))
theorem k68_open {w : World} {x : S68} {cs : List Value} (h : k68.K w x cs) : ∃ A6 c6,cs = [.string x.f0.f0,.int .i64 x.f0.f1.f0,.int .i64 x.f0.f1.f1,.int .i64 x.f0.f1.f2,.string x.f0.f1.f3,.string x.f0.f1.f4,.slice A6 x.f1.length c6] ∧ x.f1.length ≤ c6 ∧ k41.C w A6 x.f1.length x.f1:=by
 obtain ⟨_,_,rfl,s0,⟨A6,c6,rfl,l6,g6⟩⟩:=h
 obtain rfl:=k41_open s0
 exact ⟨A6,c6,rfl,l6,g6⟩
theorem k68_mk (w : World) (x : S68) {A6 : Option Addr} {c6 : Nat} (l6 : x.f1.length ≤ c6) (g6 : k41.C w A6 x.f1.length x.f1) : k68.K w x [.string x.f0.f0,.int .i64 x.f0.f1.f0,.int .i64 x.f0.f1.f1,.int .i64 x.f0.f1.f2,.string x.f0.f1.f3,.string x.f0.f1.f4,.slice A6 x.f1.length c6]:=⟨[.string x.f0.f0,.int .i64 x.f0.f1.f0,.int .i64 x.f0.f1.f1,.int .i64 x.f0.f1.f2,.string x.f0.f1.f3,.string x.f0.f1.f4],[.slice A6 x.f1.length c6],rfl,(k41_mk w x.f0 ),⟨A6,c6,rfl,l6,g6⟩⟩
theorem k68_openF {W : World} {ok : Nat → Prop} {x : S68} {cs : List Value} (h : Kd.FK k68 W ok x cs) : ∃ A6 c6,cs = [.string x.f0.f0,.int .i64 x.f0.f1.f0,.int .i64 x.f0.f1.f1,.int .i64 x.f0.f1.f2,.string x.f0.f1.f3,.string x.f0.f1.f4,.slice A6 x.f1.length c6] ∧ x.f1.length ≤ c6 ∧ Kd.F k41 W ok A6 x.f1.length x.f1:=by
 obtain ⟨A6,c6,rfl,l6,_⟩:=k68_open (Kd.FK_now h)
 exact ⟨A6,c6,rfl,l6,(fun W' hW => by obtain ⟨A6_,c6_,he,l6_,g6_⟩:=k68_open (h W' hW);injection (Option.some.inj (show some (Value.slice A6 x.f1.length c6) = some (Value.slice A6_ x.f1.length c6_) from congrArg (fun l => l[6]?) he)) with ha_ _ _;rw [ha_];exact g6_)⟩
def rd_T68 (xs : List S68) (i : Int) : S68:=xs.getD i.toNat z68
theorem at_T68 {w : World} {A : Option Addr} {n : Nat} {xs : List S68} (h : Kd.C k68 w A n xs) (i : Int) (h0 : 0 ≤ i) (h1 : i < n) : ∃ ad A6 c6,A = some ad ∧ w.cell? (ad.add (i.toNat * 7)) = some (.string (rd_T68 xs i).f0.f0) ∧ w.cell? ⟨(ad.add (i.toNat * 7)).block,(ad.add (i.toNat * 7)).off + 1,none⟩ = some (.int .i64 (rd_T68 xs i).f0.f1.f0) ∧ w.cell? ⟨(ad.add (i.toNat * 7)).block,(ad.add (i.toNat * 7)).off + 2,none⟩ = some (.int .i64 (rd_T68 xs i).f0.f1.f1) ∧ w.cell? ⟨(ad.add (i.toNat * 7)).block,(ad.add (i.toNat * 7)).off + 3,none⟩ = some (.int .i64 (rd_T68 xs i).f0.f1.f2) ∧ w.cell? ⟨(ad.add (i.toNat * 7)).block,(ad.add (i.toNat * 7)).off + 4,none⟩ = some (.string (rd_T68 xs i).f0.f1.f3) ∧ w.cell? ⟨(ad.add (i.toNat * 7)).block,(ad.add (i.toNat * 7)).off + 5,none⟩ = some (.string (rd_T68 xs i).f0.f1.f4) ∧ w.cell? ⟨(ad.add (i.toNat * 7)).block,(ad.add (i.toNat * 7)).off + 6,none⟩ = some (.slice A6 (rd_T68 xs i).f1.length c6) ∧ (rd_T68 xs i).f1.length ≤ c6 ∧ k41.C w A6 (rd_T68 xs i).f1.length (rd_T68 xs i).f1:=by
 obtain ⟨ad,c,e,_,hK,hc0⟩:=Kd.C_get h z68 i h0 h1
 have hc : ∀ j u,c[j]? = some u → w.cell? (ad.add (i.toNat * 7 + j)) = some u:=hc0
 obtain ⟨A6,c6,rfl,l6,g6⟩:=k68_open hK
 exact ⟨ad,A6,c6,e,hc 0 _ rfl,by rw [← add_field _ _ 1 q5_];exact hc 1 _ rfl,by rw [← add_field _ _ 2 q5_];exact hc 2 _ rfl,by rw [← add_field _ _ 3 q5_];exact hc 3 _ rfl,by rw [← add_field _ _ 4 q5_];exact hc 4 _ rfl,by rw [← add_field _ _ 5 q5_];exact hc 5 _ rfl,by rw [← add_field _ _ 6 q5_];exact hc 6 _ rfl,l6,g6⟩
structure S70 where
 f0 : S41
 f1 : (List S41)
def z70 : S70:=⟨z41,([] : List S41)⟩
def k70 : Kd S70:=Kd.iso (Kd.pair k41 (Kd.slice 41 k41)) (fun x : S70 => (x.f0,x.f1))
theorem k70_open {w : World} {x : S70} {cs : List Value} (h : k70.K w x cs) : ∃ A6 c6,cs = [.string x.f0.f0,.int .i64 x.f0.f1.f0,.int .i64 x.f0.f1.f1,.int .i64 x.f0.f1.f2,.string x.f0.f1.f3,.string x.f0.f1.f4,.slice A6 x.f1.length c6] ∧ x.f1.length ≤ c6 ∧ k41.C w A6 x.f1.length x.f1:=by
 obtain ⟨_,_,rfl,s0,⟨A6,c6,rfl,l6,g6⟩⟩:=h
 obtain rfl:=k41_open s0
 exact ⟨A6,c6,rfl,l6,g6⟩
theorem k70_mk (w : World) (x : S70) {A6 : Option Addr} {c6 : Nat} (l6 : x.f1.length ≤ c6) (g6 : k41.C w A6 x.f1.length x.f1) : k70.K w x [.string x.f0.f0,.int .i64 x.f0.f1.f0,.int .i64 x.f0.f1.f1,.int .i64 x.f0.f1.f2,.string x.f0.f1.f3,.string x.f0.f1.f4,.slice A6 x.f1.length c6]:=⟨[.string x.f0.f0,.int .i64 x.f0.f1.f0,.int .i64 x.f0.f1.f1,.int .i64 x.f0.f1.f2,.string x.f0.f1.f3,.string x.f0.f1.f4],[.slice A6 x.f1.length c6],rfl,(k41_mk w x.f0 ),⟨A6,c6,rfl,l6,g6⟩⟩
theorem k70_mkF (W : World) (ok : Nat → Prop) (x : S70) {A6 : Option Addr} {c6 : Nat} (l6 : x.f1.length ≤ c6) (g6 : Kd.F k41 W ok A6 x.f1.length x.f1) : Kd.FK k70 W ok x [.string x.f0.f0,.int .i64 x.f0.f1.f0,.int .i64 x.f0.f1.f1,.int .i64 x.f0.f1.f2,.string x.f0.f1.f3,.string x.f0.f1.f4,.slice A6 x.f1.length c6]:=fun W2 hW => k70_mk W2 x l6 (g6 W2 hW)
def rd_T70 (xs : List S70) (i : Int) : S70:=xs.getD i.toNat z70
theorem at_T70 {w : World} {A : Option Addr} {n : Nat} {xs : List S70} (h : Kd.C k70 w A n xs) (i : Int) (h0 : 0 ≤ i) (h1 : i < n) : ∃ ad A6 c6,A = some ad ∧ w.cell? (ad.add (i.toNat * 7)) = some (.string (rd_T70 xs i).f0.f0) ∧ w.cell? ⟨(ad.add (i.toNat * 7)).block,(ad.add (i.toNat * 7)).off + 1,none⟩ = some (.int .i64 (rd_T70 xs i).f0.f1.f0) ∧ w.cell? ⟨(ad.add (i.toNat * 7)).block,(ad.add (i.toNat * 7)).off + 2,none⟩ = some (.int .i64 (rd_T70 xs i).f0.f1.f1) ∧ w.cell? ⟨(ad.add (i.toNat * 7)).block,(ad.add (i.toNat * 7)).off + 3,none⟩ = some (.int .i64 (rd_T70 xs i).f0.f1.f2) ∧ w.cell? ⟨(ad.add (i.toNat * 7)).block,(ad.add (i.toNat * 7)).off + 4,none⟩ = some (.string (rd_T70 xs i).f0.f1.f3) ∧ w.cell? ⟨(ad.add (i.toNat * 7)).block,(ad.add (i.toNat * 7)).off + 5,none⟩ = some (.string (rd_T70 xs i).f0.f1.f4) ∧ w.cell? ⟨(ad.add (i.toNat * 7)).block,(ad.add (i.toNat * 7)).off + 6,none⟩ = some (.slice A6 (rd_T70 xs i).f1.length c6) ∧ (rd_T70 xs i).f1.length ≤ c6 ∧ k41.C w A6 (rd_T70 xs i).f1.length (rd_T70 xs i).f1:=by
 obtain ⟨ad,c,e,_,hK,hc0⟩:=Kd.C_get h z70 i h0 h1
 have hc : ∀ j u,c[j]? = some u → w.cell? (ad.add (i.toNat * 7 + j)) = some u:=hc0
 obtain ⟨A6,c6,rfl,l6,g6⟩:=k70_open hK
 exact ⟨ad,A6,c6,e,hc 0 _ rfl,by rw [← add_field _ _ 1 q5_];exact hc 1 _ rfl,by rw [← add_field _ _ 2 q5_];exact hc 2 _ rfl,by rw [← add_field _ _ 3 q5_];exact hc 3 _ rfl,by rw [← add_field _ _ 4 q5_];exact hc 4 _ rfl,by rw [← add_field _ _ 5 q5_];exact hc 5 _ rfl,by rw [← add_field _ _ 6 q5_];exact hc 6 _ rfl,l6,g6⟩
def files_plain.f (a0 : Int) : Option (Bool):=if a0 ≥ 97 then (if a0 ≤ 122 then (some true) else (if a0 ≥ 65 then (if a0 ≤ 90 then (some true) else (if a0 ≥ 48 then (if a0 ≤ 57 then (some true) else (if a0 = 45 then (some true) else (if a0 = 95 then (some true) else (some (a0 == 46))))) else (if a0 = 45 then (some true) else (if a0 = 95 then (some true) else (some (a0 == 46)))))) else (if a0 ≥ 48 then (if a0 ≤ 57 then (some true) else (if a0 = 45 then (some true) else (if a0 = 95 then (some true) else (some (a0 == 46))))) else (if a0 = 45 then (some true) else (if a0 = 95 then (some true) else (some (a0 == 46))))))) else (if a0 ≥ 65 then (if a0 ≤ 90 then (some true) else (if a0 ≥ 48 then (if a0 ≤ 57 then (some true) else (if a0 = 45 then (some true) else (if a0 = 95 then (some true) else (some (a0 == 46))))) else (if a0 = 45 then (some true) else (if a0 = 95 then (some true) else (some (a0 == 46)))))) else (if a0 ≥ 48 then (if a0 ≤ 57 then (some true) else (if a0 = 45 then (some true) else (if a0 = 95 then (some true) else (some (a0 == 46))))) else (if a0 = 45 then (some true) else (if a0 = 95 then (some true) else (some (a0 == 46))))))
set_option maxHeartbeats 8000000 in
set_option maxRecDepth 100000 in
theorem files_plain.calls (a0 : Int) (r : Bool) (w : World) (h : files_plain.f a0 = some r) :
  Calls Tryz.prog 169 #[.int .u8 a0] w fun e w' => e = .returned (.bool r) ∧ Drawn0 w w':=by
 have H : (if a0 ≥ 97 then (if a0 ≤ 122 then (some true) else (if a0 ≥ 65 then (if a0 ≤ 90 then (some true) else (if a0 ≥ 48 then (if a0 ≤ 57 then (some true) else (if a0 = 45 then (some true) else (if a0 = 95 then (some true) else (some (a0 == 46))))) else (if a0 = 45 then (some true) else (if a0 = 95 then (some true) else (some (a0 == 46)))))) else (if a0 ≥ 48 then (if a0 ≤ 57 then (some true) else (if a0 = 45 then (some true) else (if a0 = 95 then (some true) else (some (a0 == 46))))) else (if a0 = 45 then (some true) else (if a0 = 95 then (some true) else (some (a0 == 46))))))) else (if a0 ≥ 65 then (if a0 ≤ 90 then (some true) else (if a0 ≥ 48 then (if a0 ≤ 57 then (some true) else (if a0 = 45 then (some true) else (if a0 = 95 then (some true) else (some (a0 == 46))))) else (if a0 = 45 then (some true) else (if a0 = 95 then (some true) else (some (a0 == 46)))))) else (if a0 ≥ 48 then (if a0 ≤ 57 then (some true) else (if a0 = 45 then (some true) else (if a0 = 95 then (some true) else (some (a0 == 46))))) else (if a0 = 45 then (some true) else (if a0 = 95 then (some true) else (some (a0 == 46))))))) = some r:=h
 clear h
 by_cases c2 : a0 ≥ 97
 ·rw [if_pos c2] at H
  have c2b0 : decide (97 ≤ a0) = true:=decide_eq_true c2
  clear c2
  by_cases c3 : a0 ≤ 122
  ·rw [if_pos c3] at H
   have c3b0:=decide_eq_true c3
   clear c3
   obtain rfl:=Option.some.inj H
   go_enter Tryz.func169,Tryz.ntmps169
   go_wp2
   go_ret
   exact ⟨q3_,q4_⟩
  ·rw [if_neg c3] at H
   have c3b0:=decide_eq_false c3
   clear c3
   by_cases c4 : a0 ≥ 65
   ·rw [if_pos c4] at H
    have c4b0 : decide (65 ≤ a0) = true:=decide_eq_true c4
    clear c4
    by_cases c5 : a0 ≤ 90
    ·rw [if_pos c5] at H
     have c5b0:=decide_eq_true c5
     clear c5
     obtain rfl:=Option.some.inj H
     go_enter Tryz.func169,Tryz.ntmps169
     go_wp2
     go_ret
     exact ⟨q3_,q4_⟩
    ·rw [if_neg c5] at H
     have c5b0:=decide_eq_false c5
     clear c5
     by_cases c6 : a0 ≥ 48
     ·rw [if_pos c6] at H
      have c6b0 : decide (48 ≤ a0) = true:=decide_eq_true c6
      clear c6
      by_cases c7 : a0 ≤ 57
      ·rw [if_pos c7] at H
       have c7b0:=decide_eq_true c7
       clear c7
       obtain rfl:=Option.some.inj H
       go_enter Tryz.func169,Tryz.ntmps169
       go_wp2
       go_ret
       exact ⟨q3_,q4_⟩
      ·rw [if_neg c7] at H
       have c7b0:=decide_eq_false c7
       clear c7
       by_cases c8 : a0 = 45
       ·rw [if_pos c8] at H
        have c8b0:=beq_iff_eq.mpr c8
        have c8b1:=bne_eq_false_iff_eq.mpr c8
        clear c8
        obtain rfl:=Option.some.inj H
        go_enter Tryz.func169,Tryz.ntmps169
        go_wp2
        go_ret
        exact ⟨q3_,q4_⟩
       ·rw [if_neg c8] at H
        have c8b0:=beq_eq_false_iff_ne.mpr c8
        have c8b1:=bne_iff_ne.mpr c8
        by_cases c9 : a0 = 95
        ·rw [if_pos c9] at H
         have c9b0:=beq_iff_eq.mpr c9
         have c9b1:=bne_eq_false_iff_eq.mpr c9
         clear c9
         obtain rfl:=Option.some.inj H
         go_enter Tryz.func169,Tryz.ntmps169
         go_wp2
         go_ret
         exact ⟨q3_,q4_⟩
        ·rw [if_neg c9] at H
         have c9b0:=beq_eq_false_iff_ne.mpr c9
         have c9b1:=bne_iff_ne.mpr c9
         obtain rfl:=Option.some.inj H
         go_enter Tryz.func169,Tryz.ntmps169
         go_wp2
         go_ret
         exact ⟨q3_,q4_⟩
     ·rw [if_neg c6] at H
      have c6b0 : decide (48 ≤ a0) = false:=decide_eq_false c6
      clear c6
      by_cases c10 : a0 = 45
      ·rw [if_pos c10] at H
       have c10b0:=beq_iff_eq.mpr c10
       have c10b1:=bne_eq_false_iff_eq.mpr c10
       clear c10
       obtain rfl:=Option.some.inj H
       go_enter Tryz.func169,Tryz.ntmps169
       go_wp2
       go_ret
       exact ⟨q3_,q4_⟩
      ·rw [if_neg c10] at H
       have c10b0:=beq_eq_false_iff_ne.mpr c10
       have c10b1:=bne_iff_ne.mpr c10
       by_cases c11 : a0 = 95
       ·rw [if_pos c11] at H
        have c11b0:=beq_iff_eq.mpr c11
        have c11b1:=bne_eq_false_iff_eq.mpr c11
        clear c11
        obtain rfl:=Option.some.inj H
        go_enter Tryz.func169,Tryz.ntmps169
        go_wp2
        go_ret
        exact ⟨q3_,q4_⟩
       ·rw [if_neg c11] at H
        have c11b0:=beq_eq_false_iff_ne.mpr c11
        have c11b1:=bne_iff_ne.mpr c11
        obtain rfl:=Option.some.inj H
        go_enter Tryz.func169,Tryz.ntmps169
        go_wp2
        go_ret
        exact ⟨q3_,q4_⟩
   ·rw [if_neg c4] at H
    have c4b0 : decide (65 ≤ a0) = false:=decide_eq_false c4
    clear c4
    by_cases c12 : a0 ≥ 48
    ·rw [if_pos c12] at H
     have c12b0 : decide (48 ≤ a0) = true:=decide_eq_true c12
     clear c12
     by_cases c13 : a0 ≤ 57
     ·rw [if_pos c13] at H
      have c13b0:=decide_eq_true c13
      clear c13
      obtain rfl:=Option.some.inj H
      go_enter Tryz.func169,Tryz.ntmps169
      go_wp2
      go_ret
      exact ⟨q3_,q4_⟩
     ·rw [if_neg c13] at H
      have c13b0:=decide_eq_false c13
      clear c13
      by_cases c14 : a0 = 45
      ·rw [if_pos c14] at H
       have c14b0:=beq_iff_eq.mpr c14
       have c14b1:=bne_eq_false_iff_eq.mpr c14
       clear c14
       obtain rfl:=Option.some.inj H
       go_enter Tryz.func169,Tryz.ntmps169
       go_wp2
       go_ret
       exact ⟨q3_,q4_⟩
      ·rw [if_neg c14] at H
       have c14b0:=beq_eq_false_iff_ne.mpr c14
       have c14b1:=bne_iff_ne.mpr c14
       by_cases c15 : a0 = 95
       ·rw [if_pos c15] at H
        have c15b0:=beq_iff_eq.mpr c15
        have c15b1:=bne_eq_false_iff_eq.mpr c15
        clear c15
        obtain rfl:=Option.some.inj H
        go_enter Tryz.func169,Tryz.ntmps169
        go_wp2
        go_ret
        exact ⟨q3_,q4_⟩
       ·rw [if_neg c15] at H
        have c15b0:=beq_eq_false_iff_ne.mpr c15
        have c15b1:=bne_iff_ne.mpr c15
        obtain rfl:=Option.some.inj H
        go_enter Tryz.func169,Tryz.ntmps169
        go_wp2
        go_ret
        exact ⟨q3_,q4_⟩
    ·rw [if_neg c12] at H
     have c12b0 : decide (48 ≤ a0) = false:=decide_eq_false c12
     clear c12
     by_cases c16 : a0 = 45
     ·rw [if_pos c16] at H
      have c16b0:=beq_iff_eq.mpr c16
      have c16b1:=bne_eq_false_iff_eq.mpr c16
      clear c16
      obtain rfl:=Option.some.inj H
      go_enter Tryz.func169,Tryz.ntmps169
      go_wp2
      go_ret
      exact ⟨q3_,q4_⟩
     ·rw [if_neg c16] at H
      have c16b0:=beq_eq_false_iff_ne.mpr c16
      have c16b1:=bne_iff_ne.mpr c16
      by_cases c17 : a0 = 95
      ·rw [if_pos c17] at H
       have c17b0:=beq_iff_eq.mpr c17
       have c17b1:=bne_eq_false_iff_eq.mpr c17
       clear c17
       obtain rfl:=Option.some.inj H
       go_enter Tryz.func169,Tryz.ntmps169
       go_wp2
       go_ret
       exact ⟨q3_,q4_⟩
      ·rw [if_neg c17] at H
       have c17b0:=beq_eq_false_iff_ne.mpr c17
       have c17b1:=bne_iff_ne.mpr c17
       obtain rfl:=Option.some.inj H
       go_enter Tryz.func169,Tryz.ntmps169
       go_wp2
       go_ret
       exact ⟨q3_,q4_⟩
 ·rw [if_neg c2] at H
  have c2b0 : decide (97 ≤ a0) = false:=decide_eq_false c2
  clear c2
  by_cases c18 : a0 ≥ 65
  ·rw [if_pos c18] at H
   have c18b0 : decide (65 ≤ a0) = true:=decide_eq_true c18
   clear c18
   by_cases c19 : a0 ≤ 90
   ·rw [if_pos c19] at H
    have c19b0:=decide_eq_true c19
    clear c19
    obtain rfl:=Option.some.inj H
    go_enter Tryz.func169,Tryz.ntmps169
    go_wp2
    go_ret
    exact ⟨q3_,q4_⟩
   ·rw [if_neg c19] at H
    have c19b0:=decide_eq_false c19
    clear c19
    by_cases c20 : a0 ≥ 48
    ·rw [if_pos c20] at H
     have c20b0 : decide (48 ≤ a0) = true:=decide_eq_true c20
     clear c20
     by_cases c21 : a0 ≤ 57
     ·rw [if_pos c21] at H
      have c21b0:=decide_eq_true c21
      clear c21
      obtain rfl:=Option.some.inj H
      go_enter Tryz.func169,Tryz.ntmps169
      go_wp2
      go_ret
      exact ⟨q3_,q4_⟩
     ·rw [if_neg c21] at H
      have c21b0:=decide_eq_false c21
      clear c21
      by_cases c22 : a0 = 45
      ·rw [if_pos c22] at H
       have c22b0:=beq_iff_eq.mpr c22
       have c22b1:=bne_eq_false_iff_eq.mpr c22
       clear c22
       obtain rfl:=Option.some.inj H
       go_enter Tryz.func169,Tryz.ntmps169
       go_wp2
       go_ret
       exact ⟨q3_,q4_⟩
      ·rw [if_neg c22] at H
       have c22b0:=beq_eq_false_iff_ne.mpr c22
       have c22b1:=bne_iff_ne.mpr c22
       by_cases c23 : a0 = 95
       ·rw [if_pos c23] at H
        have c23b0:=beq_iff_eq.mpr c23
        have c23b1:=bne_eq_false_iff_eq.mpr c23
        clear c23
        obtain rfl:=Option.some.inj H
        go_enter Tryz.func169,Tryz.ntmps169
        go_wp2
        go_ret
        exact ⟨q3_,q4_⟩
       ·rw [if_neg c23] at H
        have c23b0:=beq_eq_false_iff_ne.mpr c23
        have c23b1:=bne_iff_ne.mpr c23
        obtain rfl:=Option.some.inj H
        go_enter Tryz.func169,Tryz.ntmps169
        go_wp2
        go_ret
        exact ⟨q3_,q4_⟩
    ·rw [if_neg c20] at H
     have c20b0 : decide (48 ≤ a0) = false:=decide_eq_false c20
     clear c20
     by_cases c24 : a0 = 45
     ·rw [if_pos c24] at H
      have c24b0:=beq_iff_eq.mpr c24
      have c24b1:=bne_eq_false_iff_eq.mpr c24
      clear c24
      obtain rfl:=Option.some.inj H
      go_enter Tryz.func169,Tryz.ntmps169
      go_wp2
      go_ret
      exact ⟨q3_,q4_⟩
     ·rw [if_neg c24] at H
      have c24b0:=beq_eq_false_iff_ne.mpr c24
      have c24b1:=bne_iff_ne.mpr c24
      by_cases c25 : a0 = 95
      ·rw [if_pos c25] at H
       have c25b0:=beq_iff_eq.mpr c25
       have c25b1:=bne_eq_false_iff_eq.mpr c25
       clear c25
       obtain rfl:=Option.some.inj H
       go_enter Tryz.func169,Tryz.ntmps169
       go_wp2
       go_ret
       exact ⟨q3_,q4_⟩
      ·rw [if_neg c25] at H
       have c25b0:=beq_eq_false_iff_ne.mpr c25
       have c25b1:=bne_iff_ne.mpr c25
       obtain rfl:=Option.some.inj H
       go_enter Tryz.func169,Tryz.ntmps169
       go_wp2
       go_ret
       exact ⟨q3_,q4_⟩
  ·rw [if_neg c18] at H
   have c18b0 : decide (65 ≤ a0) = false:=decide_eq_false c18
   clear c18
   by_cases c26 : a0 ≥ 48
   ·rw [if_pos c26] at H
    have c26b0 : decide (48 ≤ a0) = true:=decide_eq_true c26
    clear c26
    by_cases c27 : a0 ≤ 57
    ·rw [if_pos c27] at H
     have c27b0:=decide_eq_true c27
     clear c27
     obtain rfl:=Option.some.inj H
     go_enter Tryz.func169,Tryz.ntmps169
     go_wp2
     go_ret
     exact ⟨q3_,q4_⟩
    ·rw [if_neg c27] at H
     have c27b0:=decide_eq_false c27
     clear c27
     by_cases c28 : a0 = 45
     ·rw [if_pos c28] at H
      have c28b0:=beq_iff_eq.mpr c28
      have c28b1:=bne_eq_false_iff_eq.mpr c28
      clear c28
      obtain rfl:=Option.some.inj H
      go_enter Tryz.func169,Tryz.ntmps169
      go_wp2
      go_ret
      exact ⟨q3_,q4_⟩
     ·rw [if_neg c28] at H
      have c28b0:=beq_eq_false_iff_ne.mpr c28
      have c28b1:=bne_iff_ne.mpr c28
      by_cases c29 : a0 = 95
      ·rw [if_pos c29] at H
       have c29b0:=beq_iff_eq.mpr c29
       have c29b1:=bne_eq_false_iff_eq.mpr c29
       clear c29
       obtain rfl:=Option.some.inj H
       go_enter Tryz.func169,Tryz.ntmps169
       go_wp2
       go_ret
       exact ⟨q3_,q4_⟩
      ·rw [if_neg c29] at H
       have c29b0:=beq_eq_false_iff_ne.mpr c29
       have c29b1:=bne_iff_ne.mpr c29
       obtain rfl:=Option.some.inj H
       go_enter Tryz.func169,Tryz.ntmps169
       go_wp2
       go_ret
       exact ⟨q3_,q4_⟩
   ·rw [if_neg c26] at H
    have c26b0 : decide (48 ≤ a0) = false:=decide_eq_false c26
    clear c26
    by_cases c30 : a0 = 45
    ·rw [if_pos c30] at H
     have c30b0:=beq_iff_eq.mpr c30
     have c30b1:=bne_eq_false_iff_eq.mpr c30
     clear c30
     obtain rfl:=Option.some.inj H
     go_enter Tryz.func169,Tryz.ntmps169
     go_wp2
     go_ret
     exact ⟨q3_,q4_⟩
    ·rw [if_neg c30] at H
     have c30b0:=beq_eq_false_iff_ne.mpr c30
     have c30b1:=bne_iff_ne.mpr c30
     by_cases c31 : a0 = 95
     ·rw [if_pos c31] at H
      have c31b0:=beq_iff_eq.mpr c31
      have c31b1:=bne_eq_false_iff_eq.mpr c31
      clear c31
      obtain rfl:=Option.some.inj H
      go_enter Tryz.func169,Tryz.ntmps169
      go_wp2
      go_ret
      exact ⟨q3_,q4_⟩
     ·rw [if_neg c31] at H
      have c31b0:=beq_eq_false_iff_ne.mpr c31
      have c31b1:=bne_iff_ne.mpr c31
      obtain rfl:=Option.some.inj H
      go_enter Tryz.func169,Tryz.ntmps169
      go_wp2
      go_ret
      exact ⟨q3_,q4_⟩
def files_part.l0 : Nat → ByteArray → Int → Int → Option (Bool)
 | 0,_,_,_ => none
 | k + 1,x0,x5,x6 => if x6 < x5 then (if 0 ≤ x6 then (if x6 < (x0.size : Int) then ((files_plain.f (bt x0 x6)).bind fun t101 => (if t101 = true then (files_part.l0 k x0 x5 (wrap64 (x6 + 1))) else (some false))) else (none)) else (none)) else (if x0.toList = ([] : List UInt8) then (some false) else (if x0.toList = ([46] : List UInt8) then (some false) else (some (x0.toList != ([46,46] : List UInt8)))))
def files_part.f (k : Nat) (a0 : ByteArray) : Option (Bool):=files_part.l0 k a0 (a0.size : Int) 0
set_option maxHeartbeats 8000000 in
set_option maxRecDepth 100000 in
theorem files_part.calls (k : Nat) (a0 : ByteArray) (r : Bool) (w : World) (h : files_part.f k a0 = some r) :
  Calls Tryz.prog 142 #[.string a0] w fun e w' => e = .returned (.bool r) ∧ Drawn0 w w':=by
 have H : (files_part.l0 k a0 (a0.size : Int) 0) = some r:=h
 clear h
 have H':=Aside0.mk H
 clear H
 go_enter Tryz.func142,Tryz.ntmps142
 go_wp2
 go_loopg [6] k (fun kq v6 w' => ∃ (x6_1 : Int),v6 = .int .i64 x6_1 ∧ Aside0 (files_part.l0 kq a0 (a0.size : Int) x6_1 = some r) ∧ Aside0 (kq ≤ k) ∧ Drawn0 w w')
 case atStart => exact ⟨(0),q12_,H',⟨Nat.le_refl _⟩,by repeat (first | exact Drawn0.refl _ | apply Drawn0.step)⟩
 case round =>
  clear H'
  try clear c1
  obtain ⟨x6_1,rfl,HA,HK1,⟨m1,rfl⟩⟩:=hrel
  cases gk with
  | zero => exact absurd HA.out (by simp [files_part.l0])
  | succ k1 =>
   have H:=HA.out
   clear HA
   simp only [files_part.l0] at H
   by_cases c2 : x6_1 < (a0.size : Int)
   ·rw [if_pos c2] at H
    have c2b0:=decide_eq_true c2
    clear c2
    by_cases c3 : 0 ≤ x6_1
    ·rw [if_pos c3] at H
     have c3b0:=decide_eq_true c3
     clear c3
     by_cases c4 : x6_1 < (a0.size : Int)
     ·rw [if_pos c4] at H
      have c4b0:=decide_eq_true c4
      clear c4
      obtain ⟨t101,A60,H⟩:=Option.bind_eq_some_iff.mp H
      have A6:=Aside0.mk A60
      clear A60
      by_cases c7 : t101 = true
      ·subst c7
       rw [if_pos rfl] at H
       have H':=Aside0.mk H
       clear H
       have p5 : 0 ≤ (x6_1 : Int):=of_decide_eq_true q1_
       have q5 : x6_1 < (a0.size : Int):=of_decide_eq_true q1_
       have hx5:=bt_at a0 x6_1
       replace p5:=eq_true p5
       replace q5:=eq_true q5
       go_wp2_with (first | ((with_reducible refine gate_callee (f:=169) rfl ?_);refine gl_ 12 Tryz.func169 #[.int .u8 (bt a0 x6_1)] ?_;(with_reducible refine (files_plain.calls (bt a0 x6_1) true _ A6.out).mono ?_);rintro e w' ⟨rfl,⟨nd,rfl⟩⟩;refine ⟨_,rfl,?_⟩))
       go_roundg k1
       case measure => have:=HK1.out;omega
       case rel => exact ⟨(wrap64 (x6_1 + 1)),q12_,H',⟨by have:=HK1.out;omega⟩,by repeat (first | exact Drawn0.refl _ | apply Drawn0.step)⟩
      ·replace c7:=Bool.eq_false_iff.mpr c7
       subst c7
       rw [if_neg (show ¬ (false = true) by decide)] at H
       obtain rfl:=Option.some.inj H
       have p5 : 0 ≤ (x6_1 : Int):=of_decide_eq_true q1_
       have q5 : x6_1 < (a0.size : Int):=of_decide_eq_true q1_
       have hx5:=bt_at a0 x6_1
       replace p5:=eq_true p5
       replace q5:=eq_true q5
       go_wp2_with (first | ((with_reducible refine gate_callee (f:=169) rfl ?_);refine gl_ 12 Tryz.func169 #[.int .u8 (bt a0 x6_1)] ?_;(with_reducible refine (files_plain.calls (bt a0 x6_1) false _ A6.out).mono ?_);rintro e w' ⟨rfl,⟨nd,rfl⟩⟩;refine ⟨_,rfl,?_⟩))
       go_ret
       exact ⟨q3_,q4_⟩
     ·rw [if_neg c4] at H
      exact absurd H q25_
    ·rw [if_neg c3] at H
     exact absurd H q25_
   ·rw [if_neg c2] at H
    have c2b0:=decide_eq_false c2
    clear c2
    by_cases c8 : a0.toList = ([] : List UInt8)
    ·rw [if_pos c8] at H
     have c8b0:=beq_iff_eq.mpr c8
     have c8b1:=bne_eq_false_iff_eq.mpr c8
     clear c8
     obtain rfl:=Option.some.inj H
     go_wp2
     go_ret
     exact ⟨q3_,q4_⟩
    ·rw [if_neg c8] at H
     have c8b0:=beq_eq_false_iff_ne.mpr c8
     have c8b1:=bne_iff_ne.mpr c8
     by_cases c9 : a0.toList = ([46] : List UInt8)
     ·rw [if_pos c9] at H
      have c9b0:=beq_iff_eq.mpr c9
      have c9b1:=bne_eq_false_iff_eq.mpr c9
      clear c9
      obtain rfl:=Option.some.inj H
      go_wp2
      go_ret
      exact ⟨q3_,q4_⟩
     ·rw [if_neg c9] at H
      have c9b0:=beq_eq_false_iff_ne.mpr c9
      have c9b1:=bne_iff_ne.mpr c9
      obtain rfl:=Option.some.inj H
      go_wp2
      go_ret
      exact ⟨q3_,q4_⟩
def ver_digit.f (a0 : Int) : Option (Bool):=if a0 ≥ 48 then (some (decide (a0 ≤ 57))) else (some false)
set_option maxHeartbeats 8000000 in
set_option maxRecDepth 100000 in
theorem ver_digit.calls (a0 : Int) (r : Bool) (w : World) (h : ver_digit.f a0 = some r) :
  Calls Tryz.prog 178 #[.int .u8 a0] w fun e w' => e = .returned (.bool r) ∧ Drawn0 w w':=by
 have H : (if a0 ≥ 48 then (some (decide (a0 ≤ 57))) else (some false)) = some r:=h
 clear h
 by_cases c2 : a0 ≥ 48
 ·rw [if_pos c2] at H
  have c2b0 : decide (48 ≤ a0) = true:=decide_eq_true c2
  clear c2
  obtain rfl:=Option.some.inj H
  go_enter Tryz.func178,Tryz.ntmps178
  go_wp2
  go_ret
  exact ⟨q3_,q4_⟩
 ·rw [if_neg c2] at H
  have c2b0 : decide (48 ≤ a0) = false:=decide_eq_false c2
  clear c2
  obtain rfl:=Option.some.inj H
  go_enter Tryz.func178,Tryz.ntmps178
  go_wp2
  go_ret
  exact ⟨q3_,q4_⟩
def ver_word.l0 : Nat → ByteArray → Int → Int → Option (Bool)
 | 0,_,_,_ => none
 | k + 1,x0,x6,x7 => if x7 < x6 then (if 0 ≤ x7 then (if x7 < (x0.size : Int) then ((ver_digit.f (bt x0 x7)).bind fun t101 => (if t101 = true then (ver_word.l0 k x0 x6 (wrap64 (x7 + 1))) else (if (bt x0 x7) < 97 then (if (bt x0 x7) < 65 then (if (bt x0 x7) = 45 then (ver_word.l0 k x0 x6 (wrap64 (x7 + 1))) else (some false)) else (if (bt x0 x7) > 90 then (if (bt x0 x7) = 45 then (ver_word.l0 k x0 x6 (wrap64 (x7 + 1))) else (some false)) else (ver_word.l0 k x0 x6 (wrap64 (x7 + 1))))) else (if (bt x0 x7) > 122 then (if (bt x0 x7) < 65 then (if (bt x0 x7) = 45 then (ver_word.l0 k x0 x6 (wrap64 (x7 + 1))) else (some false)) else (if (bt x0 x7) > 90 then (if (bt x0 x7) = 45 then (ver_word.l0 k x0 x6 (wrap64 (x7 + 1))) else (some false)) else (ver_word.l0 k x0 x6 (wrap64 (x7 + 1))))) else (ver_word.l0 k x0 x6 (wrap64 (x7 + 1))))))) else (none)) else (none)) else (some (x0.toList != ([] : List UInt8)))
def ver_word.f (k : Nat) (a0 : ByteArray) : Option (Bool):=ver_word.l0 k a0 (a0.size : Int) 0
set_option maxHeartbeats 8000000 in
set_option maxRecDepth 100000 in
theorem ver_word.calls (k : Nat) (a0 : ByteArray) (r : Bool) (w : World) (h : ver_word.f k a0 = some r) :
  Calls Tryz.prog 145 #[.string a0] w fun e w' => e = .returned (.bool r) ∧ Drawn0 w w':=by
 have H : (ver_word.l0 k a0 (a0.size : Int) 0) = some r:=h
 clear h
 have H':=Aside0.mk H
 clear H
 go_enter Tryz.func145,Tryz.ntmps145
 go_wp2
 go_loopg [7] k (fun kq v7 w' => ∃ (x7_1 : Int),v7 = .int .i64 x7_1 ∧ Aside0 (ver_word.l0 kq a0 (a0.size : Int) x7_1 = some r) ∧ Aside0 (kq ≤ k) ∧ Drawn0 w w')
 case atStart => exact ⟨(0),q12_,H',⟨Nat.le_refl _⟩,by repeat (first | exact Drawn0.refl _ | apply Drawn0.step)⟩
 case round =>
  clear H'
  try clear c1
  obtain ⟨x7_1,rfl,HA,HK1,⟨m1,rfl⟩⟩:=hrel
  cases gk with
  | zero => exact absurd HA.out (by simp [ver_word.l0])
  | succ k1 =>
   have H:=HA.out
   clear HA
   simp only [ver_word.l0] at H
   by_cases c2 : x7_1 < (a0.size : Int)
   ·rw [if_pos c2] at H
    have c2b0:=decide_eq_true c2
    clear c2
    by_cases c3 : 0 ≤ x7_1
    ·rw [if_pos c3] at H
     have c3b0:=decide_eq_true c3
     clear c3
     by_cases c4 : x7_1 < (a0.size : Int)
     ·rw [if_pos c4] at H
      have c4b0:=decide_eq_true c4
      clear c4
      obtain ⟨t101,A60,H⟩:=Option.bind_eq_some_iff.mp H
      have A6:=Aside0.mk A60
      clear A60
      by_cases c7 : t101 = true
      ·subst c7
       rw [if_pos rfl] at H
       have H':=Aside0.mk H
       clear H
       have p5 : 0 ≤ (x7_1 : Int):=of_decide_eq_true q1_
       have q5 : x7_1 < (a0.size : Int):=of_decide_eq_true q1_
       have hx5:=bt_at a0 x7_1
       replace p5:=eq_true p5
       replace q5:=eq_true q5
       go_wp2_with (first | ((with_reducible refine gate_callee (f:=178) rfl ?_);refine gl_ 14 Tryz.func178 #[.int .u8 (bt a0 x7_1)] ?_;(with_reducible refine (ver_digit.calls (bt a0 x7_1) true _ A6.out).mono ?_);rintro e w' ⟨rfl,⟨nd,rfl⟩⟩;refine ⟨_,rfl,?_⟩))
       go_roundg k1
       case measure => have:=HK1.out;omega
       case rel => exact ⟨(wrap64 (x7_1 + 1)),q12_,H',⟨by have:=HK1.out;omega⟩,by repeat (first | exact Drawn0.refl _ | apply Drawn0.step)⟩
      ·replace c7:=Bool.eq_false_iff.mpr c7
       subst c7
       rw [if_neg (show ¬ (false = true) by decide)] at H
       by_cases c8 : (bt a0 x7_1) < 97
       ·rw [if_pos c8] at H
        have c8b0:=decide_eq_true c8
        clear c8
        by_cases c9 : (bt a0 x7_1) < 65
        ·rw [if_pos c9] at H
         have c9b0:=decide_eq_true c9
         clear c9
         by_cases c10 : (bt a0 x7_1) = 45
         ·rw [if_pos c10] at H
          have c10b0:=beq_iff_eq.mpr c10
          have c10b1:=bne_eq_false_iff_eq.mpr c10
          clear c10
          have H':=Aside0.mk H
          clear H
          have p5 : 0 ≤ (x7_1 : Int):=of_decide_eq_true q1_
          have q5 : x7_1 < (a0.size : Int):=of_decide_eq_true q1_
          have hx5:=bt_at a0 x7_1
          replace p5:=eq_true p5
          replace q5:=eq_true q5
          go_wp2_with (first | ((with_reducible refine gate_callee (f:=178) rfl ?_);refine gl_ 14 Tryz.func178 #[.int .u8 (bt a0 x7_1)] ?_;(with_reducible refine (ver_digit.calls (bt a0 x7_1) false _ A6.out).mono ?_);rintro e w' ⟨rfl,⟨nd,rfl⟩⟩;refine ⟨_,rfl,?_⟩))
          go_roundg k1
          case measure => have:=HK1.out;omega
          case rel => exact ⟨(wrap64 (x7_1 + 1)),q12_,H',⟨by have:=HK1.out;omega⟩,by repeat (first | exact Drawn0.refl _ | apply Drawn0.step)⟩
         ·rw [if_neg c10] at H
          have c10b0:=beq_eq_false_iff_ne.mpr c10
          have c10b1:=bne_iff_ne.mpr c10
          obtain rfl:=Option.some.inj H
          have p5 : 0 ≤ (x7_1 : Int):=of_decide_eq_true q1_
          have q5 : x7_1 < (a0.size : Int):=of_decide_eq_true q1_
          have hx5:=bt_at a0 x7_1
          replace p5:=eq_true p5
          replace q5:=eq_true q5
          go_wp2_with (first | ((with_reducible refine gate_callee (f:=178) rfl ?_);refine gl_ 14 Tryz.func178 #[.int .u8 (bt a0 x7_1)] ?_;(with_reducible refine (ver_digit.calls (bt a0 x7_1) false _ A6.out).mono ?_);rintro e w' ⟨rfl,⟨nd,rfl⟩⟩;refine ⟨_,rfl,?_⟩))
          go_ret
          exact ⟨q3_,q4_⟩
        ·rw [if_neg c9] at H
         have c9b0:=decide_eq_false c9
         clear c9
         by_cases c11 : (bt a0 x7_1) > 90
         ·rw [if_pos c11] at H
          have c11b0 : decide (90 < (bt a0 x7_1)) = true:=decide_eq_true c11
          clear c11
          by_cases c12 : (bt a0 x7_1) = 45
          ·rw [if_pos c12] at H
           have c12b0:=beq_iff_eq.mpr c12
           have c12b1:=bne_eq_false_iff_eq.mpr c12
           clear c12
           have H':=Aside0.mk H
           clear H
           have p5 : 0 ≤ (x7_1 : Int):=of_decide_eq_true q1_
           have q5 : x7_1 < (a0.size : Int):=of_decide_eq_true q1_
           have hx5:=bt_at a0 x7_1
           replace p5:=eq_true p5
           replace q5:=eq_true q5
           go_wp2_with (first | ((with_reducible refine gate_callee (f:=178) rfl ?_);refine gl_ 14 Tryz.func178 #[.int .u8 (bt a0 x7_1)] ?_;(with_reducible refine (ver_digit.calls (bt a0 x7_1) false _ A6.out).mono ?_);rintro e w' ⟨rfl,⟨nd,rfl⟩⟩;refine ⟨_,rfl,?_⟩))
           go_roundg k1
           case measure => have:=HK1.out;omega
           case rel => exact ⟨(wrap64 (x7_1 + 1)),q12_,H',⟨by have:=HK1.out;omega⟩,by repeat (first | exact Drawn0.refl _ | apply Drawn0.step)⟩
          ·rw [if_neg c12] at H
           have c12b0:=beq_eq_false_iff_ne.mpr c12
           have c12b1:=bne_iff_ne.mpr c12
           obtain rfl:=Option.some.inj H
           have p5 : 0 ≤ (x7_1 : Int):=of_decide_eq_true q1_
           have q5 : x7_1 < (a0.size : Int):=of_decide_eq_true q1_
           have hx5:=bt_at a0 x7_1
           replace p5:=eq_true p5
           replace q5:=eq_true q5
           go_wp2_with (first | ((with_reducible refine gate_callee (f:=178) rfl ?_);refine gl_ 14 Tryz.func178 #[.int .u8 (bt a0 x7_1)] ?_;(with_reducible refine (ver_digit.calls (bt a0 x7_1) false _ A6.out).mono ?_);rintro e w' ⟨rfl,⟨nd,rfl⟩⟩;refine ⟨_,rfl,?_⟩))
           go_ret
           exact ⟨q3_,q4_⟩
         ·rw [if_neg c11] at H
          have c11b0 : decide (90 < (bt a0 x7_1)) = false:=decide_eq_false c11
          clear c11
          have H':=Aside0.mk H
          clear H
          have p5 : 0 ≤ (x7_1 : Int):=of_decide_eq_true q1_
          have q5 : x7_1 < (a0.size : Int):=of_decide_eq_true q1_
          have hx5:=bt_at a0 x7_1
          replace p5:=eq_true p5
          replace q5:=eq_true q5
          go_wp2_with (first | ((with_reducible refine gate_callee (f:=178) rfl ?_);refine gl_ 14 Tryz.func178 #[.int .u8 (bt a0 x7_1)] ?_;(with_reducible refine (ver_digit.calls (bt a0 x7_1) false _ A6.out).mono ?_);rintro e w' ⟨rfl,⟨nd,rfl⟩⟩;refine ⟨_,rfl,?_⟩))
          go_roundg k1
          case measure => have:=HK1.out;omega
          case rel => exact ⟨(wrap64 (x7_1 + 1)),q12_,H',⟨by have:=HK1.out;omega⟩,by repeat (first | exact Drawn0.refl _ | apply Drawn0.step)⟩
       ·rw [if_neg c8] at H
        have c8b0:=decide_eq_false c8
        clear c8
        by_cases c13 : (bt a0 x7_1) > 122
        ·rw [if_pos c13] at H
         have c13b0 : decide (122 < (bt a0 x7_1)) = true:=decide_eq_true c13
         clear c13
         by_cases c14 : (bt a0 x7_1) < 65
         ·rw [if_pos c14] at H
          have c14b0:=decide_eq_true c14
          clear c14
          by_cases c15 : (bt a0 x7_1) = 45
          ·rw [if_pos c15] at H
           have c15b0:=beq_iff_eq.mpr c15
           have c15b1:=bne_eq_false_iff_eq.mpr c15
           clear c15
           have H':=Aside0.mk H
           clear H
           have p5 : 0 ≤ (x7_1 : Int):=of_decide_eq_true q1_
           have q5 : x7_1 < (a0.size : Int):=of_decide_eq_true q1_
           have hx5:=bt_at a0 x7_1
           replace p5:=eq_true p5
           replace q5:=eq_true q5
           go_wp2_with (first | ((with_reducible refine gate_callee (f:=178) rfl ?_);refine gl_ 14 Tryz.func178 #[.int .u8 (bt a0 x7_1)] ?_;(with_reducible refine (ver_digit.calls (bt a0 x7_1) false _ A6.out).mono ?_);rintro e w' ⟨rfl,⟨nd,rfl⟩⟩;refine ⟨_,rfl,?_⟩))
           go_roundg k1
           case measure => have:=HK1.out;omega
           case rel => exact ⟨(wrap64 (x7_1 + 1)),q12_,H',⟨by have:=HK1.out;omega⟩,by repeat (first | exact Drawn0.refl _ | apply Drawn0.step)⟩
          ·rw [if_neg c15] at H
           have c15b0:=beq_eq_false_iff_ne.mpr c15
           have c15b1:=bne_iff_ne.mpr c15
           obtain rfl:=Option.some.inj H
           have p5 : 0 ≤ (x7_1 : Int):=of_decide_eq_true q1_
           have q5 : x7_1 < (a0.size : Int):=of_decide_eq_true q1_
           have hx5:=bt_at a0 x7_1
           replace p5:=eq_true p5
           replace q5:=eq_true q5
           go_wp2_with (first | ((with_reducible refine gate_callee (f:=178) rfl ?_);refine gl_ 14 Tryz.func178 #[.int .u8 (bt a0 x7_1)] ?_;(with_reducible refine (ver_digit.calls (bt a0 x7_1) false _ A6.out).mono ?_);rintro e w' ⟨rfl,⟨nd,rfl⟩⟩;refine ⟨_,rfl,?_⟩))
           go_ret
           exact ⟨q3_,q4_⟩
         ·rw [if_neg c14] at H
          have c14b0:=decide_eq_false c14
          clear c14
          by_cases c16 : (bt a0 x7_1) > 90
          ·rw [if_pos c16] at H
           have c16b0 : decide (90 < (bt a0 x7_1)) = true:=decide_eq_true c16
           clear c16
           by_cases c17 : (bt a0 x7_1) = 45
           ·rw [if_pos c17] at H
            have c17b0:=beq_iff_eq.mpr c17
            have c17b1:=bne_eq_false_iff_eq.mpr c17
            clear c17
            have H':=Aside0.mk H
            clear H
            have p5 : 0 ≤ (x7_1 : Int):=of_decide_eq_true q1_
            have q5 : x7_1 < (a0.size : Int):=of_decide_eq_true q1_
            have hx5:=bt_at a0 x7_1
            replace p5:=eq_true p5
            replace q5:=eq_true q5
            go_wp2_with (first | ((with_reducible refine gate_callee (f:=178) rfl ?_);refine gl_ 14 Tryz.func178 #[.int .u8 (bt a0 x7_1)] ?_;(with_reducible refine (ver_digit.calls (bt a0 x7_1) false _ A6.out).mono ?_);rintro e w' ⟨rfl,⟨nd,rfl⟩⟩;refine ⟨_,rfl,?_⟩))
            go_roundg k1
            case measure => have:=HK1.out;omega
            case rel => exact ⟨(wrap64 (x7_1 + 1)),q12_,H',⟨by have:=HK1.out;omega⟩,by repeat (first | exact Drawn0.refl _ | apply Drawn0.step)⟩
           ·rw [if_neg c17] at H
            have c17b0:=beq_eq_false_iff_ne.mpr c17
            have c17b1:=bne_iff_ne.mpr c17
            obtain rfl:=Option.some.inj H
            have p5 : 0 ≤ (x7_1 : Int):=of_decide_eq_true q1_
            have q5 : x7_1 < (a0.size : Int):=of_decide_eq_true q1_
            have hx5:=bt_at a0 x7_1
            replace p5:=eq_true p5
            replace q5:=eq_true q5
            go_wp2_with (first | ((with_reducible refine gate_callee (f:=178) rfl ?_);refine gl_ 14 Tryz.func178 #[.int .u8 (bt a0 x7_1)] ?_;(with_reducible refine (ver_digit.calls (bt a0 x7_1) false _ A6.out).mono ?_);rintro e w' ⟨rfl,⟨nd,rfl⟩⟩;refine ⟨_,rfl,?_⟩))
            go_ret
            exact ⟨q3_,q4_⟩
          ·rw [if_neg c16] at H
           have c16b0 : decide (90 < (bt a0 x7_1)) = false:=decide_eq_false c16
           clear c16
           have H':=Aside0.mk H
           clear H
           have p5 : 0 ≤ (x7_1 : Int):=of_decide_eq_true q1_
           have q5 : x7_1 < (a0.size : Int):=of_decide_eq_true q1_
           have hx5:=bt_at a0 x7_1
           replace p5:=eq_true p5
           replace q5:=eq_true q5
           go_wp2_with (first | ((with_reducible refine gate_callee (f:=178) rfl ?_);refine gl_ 14 Tryz.func178 #[.int .u8 (bt a0 x7_1)] ?_;(with_reducible refine (ver_digit.calls (bt a0 x7_1) false _ A6.out).mono ?_);rintro e w' ⟨rfl,⟨nd,rfl⟩⟩;refine ⟨_,rfl,?_⟩))
           go_roundg k1
           case measure => have:=HK1.out;omega
           case rel => exact ⟨(wrap64 (x7_1 + 1)),q12_,H',⟨by have:=HK1.out;omega⟩,by repeat (first | exact Drawn0.refl _ | apply Drawn0.step)⟩
        ·rw [if_neg c13] at H
         have c13b0 : decide (122 < (bt a0 x7_1)) = false:=decide_eq_false c13
         clear c13
         have H':=Aside0.mk H
         clear H
         have p5 : 0 ≤ (x7_1 : Int):=of_decide_eq_true q1_
         have q5 : x7_1 < (a0.size : Int):=of_decide_eq_true q1_
         have hx5:=bt_at a0 x7_1
         replace p5:=eq_true p5
         replace q5:=eq_true q5
         go_wp2_with (first | ((with_reducible refine gate_callee (f:=178) rfl ?_);refine gl_ 14 Tryz.func178 #[.int .u8 (bt a0 x7_1)] ?_;(with_reducible refine (ver_digit.calls (bt a0 x7_1) false _ A6.out).mono ?_);rintro e w' ⟨rfl,⟨nd,rfl⟩⟩;refine ⟨_,rfl,?_⟩))
         go_roundg k1
         case measure => have:=HK1.out;omega
         case rel => exact ⟨(wrap64 (x7_1 + 1)),q12_,H',⟨by have:=HK1.out;omega⟩,by repeat (first | exact Drawn0.refl _ | apply Drawn0.step)⟩
     ·rw [if_neg c4] at H
      exact absurd H q25_
    ·rw [if_neg c3] at H
     exact absurd H q25_
   ·rw [if_neg c2] at H
    have c2b0:=decide_eq_false c2
    clear c2
    obtain rfl:=Option.some.inj H
    go_wp2
    go_ret
    exact ⟨q3_,q4_⟩
def ver_digits.l0 : Nat → ByteArray → Int → Int → Option (Bool)
 | 0,_,_,_ => none
 | k + 1,x0,x5,x6 => if x6 < x5 then (if 0 ≤ x6 then (if x6 < (x0.size : Int) then ((ver_digit.f (bt x0 x6)).bind fun t101 => (if t101 = true then (ver_digits.l0 k x0 x5 (wrap64 (x6 + 1))) else (some false))) else (none)) else (none)) else (some (x0.toList != ([] : List UInt8)))
def ver_digits.f (k : Nat) (a0 : ByteArray) : Option (Bool):=ver_digits.l0 k a0 (a0.size : Int) 0
set_option maxHeartbeats 8000000 in
set_option maxRecDepth 100000 in
theorem ver_digits.calls (k : Nat) (a0 : ByteArray) (r : Bool) (w : World) (h : ver_digits.f k a0 = some r) :
  Calls Tryz.prog 146 #[.string a0] w fun e w' => e = .returned (.bool r) ∧ Drawn0 w w':=by
 have H : (ver_digits.l0 k a0 (a0.size : Int) 0) = some r:=h
 clear h
 have H':=Aside0.mk H
 clear H
 go_enter Tryz.func146,Tryz.ntmps146
 go_wp2
 go_loopg [6] k (fun kq v6 w' => ∃ (x6_1 : Int),v6 = .int .i64 x6_1 ∧ Aside0 (ver_digits.l0 kq a0 (a0.size : Int) x6_1 = some r) ∧ Aside0 (kq ≤ k) ∧ Drawn0 w w')
 case atStart => exact ⟨(0),q12_,H',⟨Nat.le_refl _⟩,by repeat (first | exact Drawn0.refl _ | apply Drawn0.step)⟩
 case round =>
  clear H'
  try clear c1
  obtain ⟨x6_1,rfl,HA,HK1,⟨m1,rfl⟩⟩:=hrel
  cases gk with
  | zero => exact absurd HA.out (by simp [ver_digits.l0])
  | succ k1 =>
   have H:=HA.out
   clear HA
   simp only [ver_digits.l0] at H
   by_cases c2 : x6_1 < (a0.size : Int)
   ·rw [if_pos c2] at H
    have c2b0:=decide_eq_true c2
    clear c2
    by_cases c3 : 0 ≤ x6_1
    ·rw [if_pos c3] at H
     have c3b0:=decide_eq_true c3
     clear c3
     by_cases c4 : x6_1 < (a0.size : Int)
     ·rw [if_pos c4] at H
      have c4b0:=decide_eq_true c4
      clear c4
      obtain ⟨t101,A60,H⟩:=Option.bind_eq_some_iff.mp H
      have A6:=Aside0.mk A60
      clear A60
      by_cases c7 : t101 = true
      ·subst c7
       rw [if_pos rfl] at H
       have H':=Aside0.mk H
       clear H
       have p5 : 0 ≤ (x6_1 : Int):=of_decide_eq_true q1_
       have q5 : x6_1 < (a0.size : Int):=of_decide_eq_true q1_
       have hx5:=bt_at a0 x6_1
       replace p5:=eq_true p5
       replace q5:=eq_true q5
       go_wp2_with (first | ((with_reducible refine gate_callee (f:=178) rfl ?_);refine gl_ 12 Tryz.func178 #[.int .u8 (bt a0 x6_1)] ?_;(with_reducible refine (ver_digit.calls (bt a0 x6_1) true _ A6.out).mono ?_);rintro e w' ⟨rfl,⟨nd,rfl⟩⟩;refine ⟨_,rfl,?_⟩))
       go_roundg k1
       case measure => have:=HK1.out;omega
       case rel => exact ⟨(wrap64 (x6_1 + 1)),q12_,H',⟨by have:=HK1.out;omega⟩,by repeat (first | exact Drawn0.refl _ | apply Drawn0.step)⟩
      ·replace c7:=Bool.eq_false_iff.mpr c7
       subst c7
       rw [if_neg (show ¬ (false = true) by decide)] at H
       obtain rfl:=Option.some.inj H
       have p5 : 0 ≤ (x6_1 : Int):=of_decide_eq_true q1_
       have q5 : x6_1 < (a0.size : Int):=of_decide_eq_true q1_
       have hx5:=bt_at a0 x6_1
       replace p5:=eq_true p5
       replace q5:=eq_true q5
       go_wp2_with (first | ((with_reducible refine gate_callee (f:=178) rfl ?_);refine gl_ 12 Tryz.func178 #[.int .u8 (bt a0 x6_1)] ?_;(with_reducible refine (ver_digit.calls (bt a0 x6_1) false _ A6.out).mono ?_);rintro e w' ⟨rfl,⟨nd,rfl⟩⟩;refine ⟨_,rfl,?_⟩))
       go_ret
       exact ⟨q3_,q4_⟩
     ·rw [if_neg c4] at H
      exact absurd H q25_
    ·rw [if_neg c3] at H
     exact absurd H q25_
   ·rw [if_neg c2] at H
    have c2b0:=decide_eq_false c2
    clear c2
    obtain rfl:=Option.some.inj H
    go_wp2
    go_ret
    exact ⟨q3_,q4_⟩
def ver_tight.f (k : Nat) (a0 : ByteArray) : Option (Bool):=if (a0.size : Int) < 2 then (some true) else (if 0 < (a0.size : Int) then (if (bt a0 0) = 48 then ((ver_digits.f k a0).bind fun t101 => (some (!t101))) else (some true)) else (none))
set_option maxHeartbeats 8000000 in
set_option maxRecDepth 100000 in
theorem ver_tight.calls (k : Nat) (a0 : ByteArray) (r : Bool) (w : World) (h : ver_tight.f k a0 = some r) :
  Calls Tryz.prog 109 #[.string a0] w fun e w' => e = .returned (.bool r) ∧ Drawn0 w w':=by
 have H : (if (a0.size : Int) < 2 then (some true) else (if 0 < (a0.size : Int) then (if (bt a0 0) = 48 then ((ver_digits.f k a0).bind fun t101 => (some (!t101))) else (some true)) else (none))) = some r:=h
 clear h
 by_cases c2 : (a0.size : Int) < 2
 ·rw [if_pos c2] at H
  have c2b0:=decide_eq_true c2
  have c2b1 : decide (a0.size < 2) = true:=decide_eq_true q5_
  clear c2
  obtain rfl:=Option.some.inj H
  go_enter Tryz.func109,Tryz.ntmps109
  go_wp2
  go_ret
  exact ⟨q3_,q4_⟩
 ·rw [if_neg c2] at H
  have c2b0:=decide_eq_false c2
  have c2b1 : decide (a0.size < 2) = false:=decide_eq_false q5_
  clear c2
  by_cases c3 : 0 < (a0.size : Int)
  ·rw [if_pos c3] at H
   have c3b0:=decide_eq_true c3
   have c3b1 : decide (0 < a0.size) = true:=decide_eq_true q5_
   clear c3
   by_cases c5 : (bt a0 0) = 48
   ·rw [if_pos c5] at H
    have c5b0:=beq_iff_eq.mpr c5
    have c5b1:=bne_eq_false_iff_eq.mpr c5
    clear c5
    obtain ⟨t101,A60,H⟩:=Option.bind_eq_some_iff.mp H
    have A6:=Aside0.mk A60
    clear A60
    obtain rfl:=Option.some.inj H
    have p4 : 0 ≤ (0 : Int):=q5_
    have q4 : 0 < a0.size:=(by have : (0 : Int) < (a0.size : Int):=of_decide_eq_true q1_;omega)
    have hx4 : ∀ h : 0 < a0.size,((a0[0]'h).toNat : Int) = bt a0 0:=bt_at a0 0
    clear p4
    have qi4 : (0 < (a0.size : Int)) = True:=eq_true (of_decide_eq_true q1_)
    replace q4:=eq_true q4
    go_enter Tryz.func109,Tryz.ntmps109
    go_wp2_with (first | (go_at_call 146;(with_reducible refine (ver_digits.calls k a0 t101 _ A6.out).mono ?_);rintro e w' ⟨rfl,⟨nd,rfl⟩⟩))
    go_ret
    exact ⟨q3_,q4_⟩
   ·rw [if_neg c5] at H
    have c5b0:=beq_eq_false_iff_ne.mpr c5
    have c5b1:=bne_iff_ne.mpr c5
    obtain rfl:=Option.some.inj H
    have p4 : 0 ≤ (0 : Int):=q5_
    have q4 : 0 < a0.size:=(by have : (0 : Int) < (a0.size : Int):=of_decide_eq_true q1_;omega)
    have hx4 : ∀ h : 0 < a0.size,((a0[0]'h).toNat : Int) = bt a0 0:=bt_at a0 0
    clear p4
    have qi4 : (0 < (a0.size : Int)) = True:=eq_true (of_decide_eq_true q1_)
    replace q4:=eq_true q4
    go_enter Tryz.func109,Tryz.ntmps109
    go_wp2
    go_ret
    exact ⟨q3_,q4_⟩
  ·rw [if_neg c3] at H
   exact absurd H q25_
end Go.Proofs.YtennhpoemdaghaaGreatDoor.P
end
section
namespace Go.Proofs.YtennhpoemdaghaaGreatDoor.P
open Go.RowKit Go.Proofs.YtennhpoemdaghaaGreatDoorW.PrintWords
def byteAt (s : ByteArray) (i : Nat) : UInt8:=s.data.toList.getD i 0
theorem bt_byteAt (s : ByteArray) (i : Nat) (h : i < s.size) : bt s (i : Int) = ((byteAt s i).toNat : Int):=by
 have h' : (i : Int).toNat < s.size:=by simpa using h
 rw [← bt_at s i h']
 simp only [byteAt,Int.toNat_natCast,List.getD_eq_getElem?_getD]
 have hl : i < s.data.toList.length:=by simpa using h
 rw [List.getElem?_eq_getElem hl]
 rfl
theorem wrap_succ (i n : Nat) (h : i < n) (hn : n ≤ 140737488355328) : wrap64 ((i : Int) + 1) = ((i + 1 : Nat) : Int):=by
 unfold wrap64;omega
theorem scan_gen {α : Type} (step : Nat → Int → Option α) (s : ByteArray) (Q : UInt8 → Bool) (yes no : α)
  (hstep : ∀ k (i : Nat),step (k + 1) i = if i < s.size then (if Q (byteAt s i) then step k ((i + 1 : Nat) : Int) else some no) else some yes) :
  ∀ (d k i : Nat),s.size - i = d → d < k → step k i = some (if (s.data.toList.drop i).all Q then yes else no):=by
 intro d
 induction d with
 | zero =>
  intro k i hd hk
  obtain ⟨k,rfl⟩ : ∃ m,k = m + 1:=⟨k - 1,by omega⟩
  rw [hstep,if_neg q5_,List.drop_eq_nil_of_le q46_]
  rfl
 | succ d ih =>
  intro k i hd hk
  obtain ⟨k,rfl⟩ : ∃ m,k = m + 1:=⟨k - 1,by omega⟩
  have hlt : i < s.size:=by omega
  have hl : i < s.data.toList.length:=by simpa using hlt
  rw [hstep,if_pos hlt,List.drop_eq_getElem_cons hl]
  have hb : byteAt s i = s.data.toList[i]:=by simp [byteAt,List.getD_eq_getElem?_getD,List.getElem?_eq_getElem hl]
  rw [hb,List.all_cons]
  cases Q s.data.toList[i] with
  | true => simp only [if_true,Bool.true_and];exact ih k (i + 1) q5_ q5_
  | false => simp
def digitB (b : UInt8) : Bool:=48 ≤ b && b ≤ 57
def plainB (b : UInt8) : Bool:=(97 ≤ b && b ≤ 122) || (65 ≤ b && b ≤ 90) || (48 ≤ b && b ≤ 57) || b == 45 || b == 95 || b == 46
def wordB (b : UInt8) : Bool:=digitB b || (97 ≤ b && b ≤ 122) || (65 ≤ b && b ≤ 90) || b == 45
theorem all_bytes {p : UInt8 → Prop} [DecidablePred p] (h : ∀ n : Fin 256,p (UInt8.ofNat n.val)) (b : UInt8) : p b:=by
 have:=h ⟨b.toNat,b.toNat_lt⟩
 simpa using this
theorem plain_f (b : UInt8) : files_plain.f (b.toNat : Int) = some (plainB b) :=
 all_bytes (p:=fun b => files_plain.f (b.toNat : Int) = some (plainB b)) q56_ b
theorem digit_f (b : UInt8) : ver_digit.f (b.toNat : Int) = some (digitB b) :=
 all_bytes (p:=fun b => ver_digit.f (b.toNat : Int) = some (digitB b)) q56_ b
def partB (l : List UInt8) : Bool:=l.all plainB && !(l == []) && !(l == [46]) && !(l == [46,46])
theorem toList_eq (s : ByteArray) : s.toList = s.data.toList:=Lib.toList_data s
theorem part_f (s : ByteArray) (hs : s.size ≤ 140737488355328) (k : Nat) (hk : s.size < k) : files_part.f k s = some (partB s.data.toList):=by
 unfold files_part.f
 have h:=scan_gen (fun k i => files_part.l0 k s (s.size : Int) i) s plainB (!(s.data.toList == []) && !(s.data.toList == [46]) && !(s.data.toList == [46,46])) false (fun k i => by
  show files_part.l0 (k + 1) s (s.size : Int) (i : Int) = _
  simp only [files_part.l0]
  by_cases h : i < s.size
  ·rw [if_pos q5_,if_pos q5_,if_pos q5_,if_pos h,bt_byteAt s i h,plain_f,Option.bind_some,wrap_succ i s.size h hs]
  ·rw [if_neg q5_,if_neg h,toList_eq]
   by_cases h0 : s.data.toList = []
   ·simp [h0]
   ·rw [if_neg h0]
    by_cases h1 : s.data.toList = [46]
    ·simp [h1]
    ·rw [if_neg h1]
     have e0 : (s.data.toList == []) = false:=by simpa using h0
     have e1 : (s.data.toList == [46]) = false:=by simpa using h1
     simp only [e0,e1];simp [bne]) (s.size - 0) k 0 rfl q5_
 rw [show ((0 : Nat) : Int) = 0 from rfl] at h
 simp only [List.drop_zero] at h
 rw [h]
 unfold partB
 cases s.data.toList.all plainB <;> simp
def digitsB (l : List UInt8) : Bool:=l.all digitB && !(l == [])
theorem digits_f (s : ByteArray) (hs : s.size ≤ 140737488355328) (k : Nat) (hk : s.size < k) : ver_digits.f k s = some (digitsB s.data.toList):=by
 unfold ver_digits.f
 have h:=scan_gen (fun k i => ver_digits.l0 k s (s.size : Int) i) s digitB (!(s.data.toList == [])) false (fun k i => by
  show ver_digits.l0 (k + 1) s (s.size : Int) (i : Int) = _
  simp only [ver_digits.l0]
  by_cases h : i < s.size
  ·rw [if_pos q5_,if_pos q5_,if_pos q5_,if_pos h,bt_byteAt s i h,digit_f,Option.bind_some,wrap_succ i s.size h hs]
  ·rw [if_neg q5_,if_neg h,toList_eq];simp [bne]) (s.size - 0) k 0 rfl q5_
 rw [show ((0 : Nat) : Int) = 0 from rfl] at h
 simp only [List.drop_zero] at h
 rw [h]
 unfold digitsB
 cases s.data.toList.all digitB <;> simp
def wordsB (l : List UInt8) : Bool:=l.all wordB && !(l == [])
theorem word_step (b : UInt8) {α : Type} (g no : Option α) :
  ((ver_digit.f (b.toNat : Int)).bind fun t => (if t = true then g else (if (b.toNat : Int) < 97 then (if (b.toNat : Int) < 65 then (if (b.toNat : Int) = 45 then g else no) else (if (b.toNat : Int) > 90 then (if (b.toNat : Int) = 45 then g else no) else g)) else (if (b.toNat : Int) > 122 then (if (b.toNat : Int) < 65 then (if (b.toNat : Int) = 45 then g else no) else (if (b.toNat : Int) > 90 then (if (b.toNat : Int) = 45 then g else no) else g)) else g)))) = if wordB b then g else no:=by
 have key : ∀ b : UInt8,wordB b = (digitB b || (if (b.toNat : Int) < 97 then (if (b.toNat : Int) < 65 then decide ((b.toNat : Int) = 45) else (if (b.toNat : Int) > 90 then decide ((b.toNat : Int) = 45) else true)) else (if (b.toNat : Int) > 122 then (if (b.toNat : Int) < 65 then decide ((b.toNat : Int) = 45) else (if (b.toNat : Int) > 90 then decide ((b.toNat : Int) = 45) else true)) else true))) :=
  fun b => all_bytes (p:=fun b => wordB b = (digitB b || (if (b.toNat : Int) < 97 then (if (b.toNat : Int) < 65 then decide ((b.toNat : Int) = 45) else (if (b.toNat : Int) > 90 then decide ((b.toNat : Int) = 45) else true)) else (if (b.toNat : Int) > 122 then (if (b.toNat : Int) < 65 then decide ((b.toNat : Int) = 45) else (if (b.toNat : Int) > 90 then decide ((b.toNat : Int) = 45) else true)) else true)))) q56_ b
 rw [digit_f,Option.bind_some,key b]
 cases digitB b
 ·simp only [Bool.false_or,Bool.false_eq_true,if_false]
  split
  ·split
   ·split <;> simp [*]
   ·split
    ·split <;> simp [*]
    ·simp
  ·split
   ·split
    ·split <;> simp [*]
    ·split
     ·split <;> simp [*]
     ·simp
   ·simp
 ·simp
theorem word_f (s : ByteArray) (hs : s.size ≤ 140737488355328) (k : Nat) (hk : s.size < k) : ver_word.f k s = some (wordsB s.data.toList):=by
 unfold ver_word.f
 have h:=scan_gen (fun k i => ver_word.l0 k s (s.size : Int) i) s wordB (!(s.data.toList == [])) false (fun k i => by
  show ver_word.l0 (k + 1) s (s.size : Int) (i : Int) = _
  simp only [ver_word.l0]
  by_cases h : i < s.size
  ·rw [if_pos q5_,if_pos q5_,if_pos q5_,if_pos h,bt_byteAt s i h,word_step,wrap_succ i s.size h hs]
  ·rw [if_neg q5_,if_neg h,toList_eq];simp [bne]) (s.size - 0) k 0 rfl q5_
 rw [show ((0 : Nat) : Int) = 0 from rfl] at h
 simp only [List.drop_zero] at h
 rw [h]
 unfold wordsB
 cases s.data.toList.all wordB <;> simp
def tightB (l : List UInt8) : Bool:=decide (l.length < 2) || !(l.headD 0 == 48) || !digitsB l
theorem tight_f (s : ByteArray) (hs : s.size ≤ 140737488355328) (k : Nat) (hk : s.size < k) : ver_tight.f k s = some (tightB s.data.toList):=by
 unfold ver_tight.f tightB
 have hz : s.data.toList.length = s.size:=rfl
 rw [hz]
 by_cases h : s.size < 2
 ·rw [if_pos q5_];simp [h]
 ·rw [if_neg q5_,if_pos q5_,decide_eq_false h]
  have hb:=bt_byteAt s 0 q5_
  rw [show ((0 : Nat) : Int) = 0 from rfl] at hb
  rw [hb,digits_f s hs k hk]
  have e : byteAt s 0 = s.data.toList.headD 0:=by
   unfold byteAt;cases s.data.toList <;> rfl
  rw [e]
  by_cases h1 : s.data.toList.headD 0 = 48
  ·rw [h1,if_pos q30_];simp
  ·rw [if_neg (fun x => h1 (by apply UInt8.toNat_inj.1;have : (48 : UInt8).toNat = 48:=rfl;omega))]
   have e1 : (s.data.toList.headD 0 == 48) = false:=by simpa using h1
   rw [e1];simp
end Go.Proofs.YtennhpoemdaghaaGreatDoor.P
end
section
namespace Go.Proofs.YtennhpoemdaghaaGreatDoor
open Go
def splitL (c : UInt8) : List UInt8 → List (List UInt8)
 | [] => [[]]
 | b :: l => if b = c then [] :: splitL c l else match splitL c l with
  | [] => [[b]]
  | p :: ps => (b :: p) :: ps
def bytesB (l : List UInt8) : ByteArray:=⟨l.toArray⟩
def splitS (c : UInt8) (s : ByteArray) : List ByteArray:=(splitL c s.data.toList).map bytesB
theorem splitL_ne (c : UInt8) (l : List UInt8) : splitL c l ≠ []:=by
 induction l with
 | nil => simp [splitL]
 | cons b l ih =>
  simp only [splitL]
  split
  ·simp
  ·split <;> simp
theorem splitL_none (c : UInt8) : ∀ l : List UInt8,Lib.indexByte l c = -1 → splitL c l = [l]
 | [],_ => rfl
 | b :: l,h => by
  have hr:=Lib.indexByte_ge l c
  by_cases e : b = c
  ·subst e;simp [Lib.indexByte] at h
  ·have h' : Lib.indexByte l c = -1:=by
    simp only [Lib.indexByte,beq_iff_eq] at h
    rw [if_neg e] at h
    split at h
    ·assumption
    ·omega
   simp [splitL,e,splitL_none c l h']
theorem splitL_some (c : UInt8) : ∀ (l : List UInt8) (i : Nat),Lib.indexByte l c = i → splitL c l = l.take i :: splitL c (l.drop (i + 1))
 | [],i,h => by simp [Lib.indexByte] at h
 | b :: l,i,h => by
  have hr:=Lib.indexByte_ge l c
  by_cases e : b = c
  ·subst e
   simp [Lib.indexByte] at h
   obtain rfl : i = 0:=by omega
   simp [splitL]
  ·simp only [Lib.indexByte,beq_iff_eq] at h
   rw [if_neg e] at h
   split at h
   ·omega
   ·obtain ⟨j,rfl⟩ : ∃ j,i = j + 1:=⟨i - 1,by omega⟩
    have h' : Lib.indexByte l c = j:=by omega
    simp [splitL,e,splitL_some c l j h']
theorem indexByte_lt (c : UInt8) : ∀ (l : List UInt8) (i : Nat),Lib.indexByte l c = i → i < l.length
 | [],i,h => by simp [Lib.indexByte] at h
 | b :: l,i,h => by
  have hr:=Lib.indexByte_ge l c
  simp only [Lib.indexByte,beq_iff_eq] at h
  split at h
  ·simp;omega
  ·split at h
   ·omega
   ·have:=indexByte_lt c l (i - 1) q5_
    simp;omega
theorem splitL_length (c : UInt8) (l : List UInt8) : (splitL c l).length ≤ l.length + 1:=by
 induction l with
 | nil => simp [splitL]
 | cons b l ih =>
  simp only [splitL]
  split
  ·simp;omega
  ·split
   ·simp
   ·rename_i h;rw [h] at ih;simp at ih ⊢;omega
theorem splitL_size (c : UInt8) (l : List UInt8) : ∀ p ∈ splitL c l,p.length ≤ l.length:=by
 induction l with
 | nil => simp [splitL]
 | cons b l ih =>
  simp only [splitL]
  split
  ·intro p hp
   simp only [List.mem_cons] at hp
   rcases hp with rfl | hp
   ·simp
   ·have:=ih p hp;simp;omega
  ·split
   ·intro p hp;simp at hp;subst hp;simp
   ·rename_i q qs h
    rw [h] at ih
    intro p hp
    simp only [List.mem_cons] at hp
    rcases hp with rfl | hp
    ·have:=ih q q25_;simp;omega
    ·have:=ih p (by simp [hp]);simp;omega
theorem data_extract (s : ByteArray) (i j : Nat) : (s.extract i j).data.toList = (s.data.toList.take j).drop i:=by
 simp [ByteArray.data_extract,List.drop_take]
theorem splitS_size (c : UInt8) (s : ByteArray) : ∀ p ∈ splitS c s,p.size ≤ s.size:=by
 intro p hp
 unfold splitS at hp
 obtain ⟨l,hl,rfl⟩:=List.mem_map.1 hp
 have:=splitL_size c _ l hl
 have e : (bytesB l).size = l.length:=rfl
 have e2 : s.data.toList.length = s.size:=rfl
 omega
theorem splitS_none (c : UInt8) (s : ByteArray) (h : Lib.indexByte s.data.toList c = -1) : splitS c s = [s]:=by
 unfold splitS;rw [splitL_none c _ h];rfl
theorem splitS_some (c : UInt8) (s : ByteArray) (i : Nat) (h : Lib.indexByte s.data.toList c = i) : splitS c s = s.extract 0 i :: splitS c (s.extract (i + 1) s.size):=by
 have hl:=indexByte_lt c _ i h
 have hz : s.data.toList.length = s.size:=rfl
 unfold splitS
 rw [splitL_some c _ i h,List.map_cons,data_extract]
 congr 1
 ·show (⟨_⟩ : ByteArray) = _
  apply ByteArray.ext
  apply Array.toList_inj.1
  rw [data_extract];simp
 ·rw [← hz,List.take_length]
end Go.Proofs.YtennhpoemdaghaaGreatDoor
end
section
namespace Go.Proofs.YtennhpoemdaghaaGreatDoor.P
open Go.RowKit Go.Proofs.YtennhpoemdaghaaGreatDoorW.PrintWords Go.Proofs.YtennhpoemdaghaaGreatDoorW.PrintLast Go.Proofs.YtennhpoemdaghaaGreatDoorW.PrintMore
def Rf05_Split.l0 : Nat → ByteArray → Int → List ByteArray → Int → Int → Option (List ByteArray)
 | 0,_,_,_,_,_ => none
 | k + 1,x0,x1,x5,x6,x7 => if x7 ≤ (x0.size : Int) then (if x7 = (x0.size : Int) then (if 0 ≤ x6 then (if x6 ≤ x7 then (if x5.length < 8796093022208 then (Rf05_Split.l0 k x0 x1 (x5 ++ [x0.extract (x6 : Int).toNat (x7 : Int).toNat]) (wrap64 (x7 + 1)) (wrap64 (x7 + 1))) else (none)) else (none)) else (none)) else (if 0 ≤ x7 then (if x7 < (x0.size : Int) then (if (bt x0 x7) = x1 then (if 0 ≤ x6 then (if x6 ≤ x7 then (if x5.length < 8796093022208 then (Rf05_Split.l0 k x0 x1 (x5 ++ [x0.extract (x6 : Int).toNat (x7 : Int).toNat]) (wrap64 (x7 + 1)) (wrap64 (x7 + 1))) else (none)) else (none)) else (none)) else (Rf05_Split.l0 k x0 x1 x5 x6 (wrap64 (x7 + 1)))) else (none)) else (none))) else (some x5)
def Rf05_Split.f (k : Nat) (a0 : ByteArray) (a1 : Int) : Option (List ByteArray):=Rf05_Split.l0 k a0 a1 ([] : List ByteArray) 0 0
set_option maxHeartbeats 8000000 in
set_option maxRecDepth 100000 in
theorem Rf05_Split.calls (k : Nat) (a0 : ByteArray) (a1 : Int) (r : List ByteArray) (w : World) (h : Rf05_Split.f k a0 a1 = some r) :
  Calls Tryz.prog 98 #[.string a0,.int .u8 a1] w fun e w' => ∃ v0_ : Value,e = .returned (v0_) ∧ Kd.R Kd.string 9 w' w.heap.size (fun _ => True) v0_ r ∧ Below w.heap.size w w':=by
 have HB:=Aside0.mk (Below.refl w.heap.size w)
 have H : (Rf05_Split.l0 k a0 a1 ([] : List ByteArray) 0 0) = some r:=h
 clear h
 have H':=Aside0.mk H
 clear H
 go_enter Tryz.func98,Tryz.ntmps98
 go_wp2
 go_loopg [5,6,7] k (fun kq v5 v6 v7 w' => ∃ (x5_1 : List ByteArray) (x6_1 : Int) (x7_1 : Int),v6 = .int .i64 x6_1 ∧ v7 = .int .i64 x7_1 ∧ Aside0 (Rf05_Split.l0 kq a0 a1 x5_1 x6_1 x7_1 = some r) ∧ Aside0 (kq ≤ k) ∧ Aside0 (Kd.R Kd.string 9 w' w.heap.size (fun _ => True) v5 x5_1) ∧ Aside0 (Below w.heap.size w w'))
 case atStart => exact ⟨(([] : List ByteArray)),(0),(0),q12_,q12_,H',⟨Nat.le_refl _⟩,⟨by first | exact Kd.R_nil _ _ _ _ _ | exact Kd.N_nil _ _ _ _ _ | exact Kd.V_nil _ _ _ _ _ | exact Kd.Q_nil _ _ _ _ _ | exact Kd.S_nil _ _ _ _ _⟩,⟨by repeat (first | (with_reducible first | exact HB.out | apply below_alloc | apply pw_below_drewN | apply below_drew1) | exact HB.out)⟩⟩
 case round =>
  clear H'
  try clear p2
  obtain ⟨x5_1,x6_1,x7_1,rfl,rfl,HA,HK1,HO_5,HB⟩:=hrel
  cases gk with
  | zero => exact absurd HA.out (by simp [Rf05_Split.l0])
  | succ k1 =>
   have H:=HA.out
   clear HA
   simp only [Rf05_Split.l0] at H
   by_cases c3 : x7_1 ≤ (a0.size : Int)
   ·rw [if_pos c3] at H
    have c3b0:=decide_eq_true c3
    clear c3
    by_cases c4 : x7_1 = (a0.size : Int)
    ·rw [if_pos c4] at H
     have c4b0:=beq_iff_eq.mpr c4
     have c4b1:=bne_eq_false_iff_eq.mpr c4
     clear c4
     by_cases c5 : 0 ≤ x6_1
     ·rw [if_pos c5] at H
      have c5b0:=eq_true c5
      have c5b1:=decide_eq_true c5
      clear c5
      by_cases c6 : x6_1 ≤ x7_1
      ·rw [if_pos c6] at H
       have c6b0:=eq_true c6
       have c6b1:=decide_eq_true c6
       clear c6
       have c7b0:=eq_true (of_decide_eq_true q1_ : x7_1 ≤ (a0.size : Int))
       by_cases c8 : x5_1.length < 8796093022208
       ·rw [if_pos c8] at H
        have LMc8:=Aside0.mk c8
        clear c8
        obtain ⟨y101,hy101⟩ : ∃ y_ : List ByteArray,y_ = (x5_1 ++ [a0.extract (x6_1 : Int).toNat (x7_1 : Int).toNat]):=⟨_,rfl⟩
        replace H : (Rf05_Split.l0 k1 a0 a1 y101 (wrap64 (x7_1 + 1)) (wrap64 (x7_1 + 1))) = some r:=by first | (rw [hy101];with_reducible exact H) | (have H2_:=(Option.bind_some _ _).symm.trans H;rw [hy101];with_reducible exact H2_) | (have H2_:=(Option.bind_some _ _).symm.trans H;with_reducible exact H2_) | with_reducible exact H | (rw [hy101];exact H) | exact H
        have Ny101:=Aside0.mk hy101
        clear hy101
        have H':=Aside0.mk H
        clear H
        go_wp2_with (first | ((with_reducible refine gate_builtin (b:=.append) (xs:=#[.tmp 25,.tmp 30]) rfl ?_);at_builtin;refine Kd.R_append Kd.string (w0:=w) w.heap.size rfl (.tmp 25) (.tmp 30) 98 9 (.string ⟨#[]⟩) 16 rfl Tryz.underlying98 info9 rfl q30_ q5_ u5 x5_1 (a0.extract (x6_1 : Int).toNat (x7_1 : Int).toNat) [.string (a0.extract (x6_1 : Int).toNat (x7_1 : Int).toNat)] (fun _ => True) (fun _ => False) rfl rfl ?aP (fun _ hk => hk.elim) ?aF ?aO ?aB ?aS ?aL ?_;(case aP => exact rfl);(case aB => exact bh_);(case aF => exact (fun _ _ => trivial));(case aO => exact q60_);(case aS => exact (below_size bh_));(case aL => have:=LMc8.out;omega);intro v102 w9 ho hb hg hat;rw [← Ny101.out] at ho;replace HB:=Aside0.mk (hb);have HO103:=Aside0.mk (ho);clear HO_5;clear ho hb hg hat))
        go_roundg k1
        case measure => have:=HK1.out;omega
        case rel => exact ⟨(y101),(wrap64 (x7_1 + 1)),(wrap64 (x7_1 + 1)),q12_,q12_,H',⟨by have:=HK1.out;omega⟩,⟨by (with_reducible repeat (first | apply Kd.R_alloc | apply Kd.R_drewN | apply Kd.R_drew));exact HO103.out⟩,⟨by repeat (first | (with_reducible first | exact HB.out | apply below_alloc | apply pw_below_drewN | apply below_drew1) | exact HB.out)⟩⟩
       ·rw [if_neg c8] at H
        exact absurd H q25_
      ·rw [if_neg c6] at H
       exact absurd H q25_
     ·rw [if_neg c5] at H
      exact absurd H q25_
    ·rw [if_neg c4] at H
     have c4b0:=beq_eq_false_iff_ne.mpr c4
     have c4b1:=bne_iff_ne.mpr c4
     by_cases c10 : 0 ≤ x7_1
     ·rw [if_pos c10] at H
      have c10b0:=decide_eq_true c10
      clear c10
      by_cases c11 : x7_1 < (a0.size : Int)
      ·rw [if_pos c11] at H
       have c11b0:=decide_eq_true c11
       clear c11
       by_cases c13 : (bt a0 x7_1) = a1
       ·rw [if_pos c13] at H
        have c13b0:=beq_iff_eq.mpr c13
        have c13b1:=bne_eq_false_iff_eq.mpr c13
        clear c13
        by_cases c14 : 0 ≤ x6_1
        ·rw [if_pos c14] at H
         have c14b0:=eq_true c14
         have c14b1:=decide_eq_true c14
         clear c14
         by_cases c15 : x6_1 ≤ x7_1
         ·rw [if_pos c15] at H
          have c15b0:=eq_true c15
          have c15b1:=decide_eq_true c15
          clear c15
          have c16b0:=eq_true (of_decide_eq_true q1_ : x7_1 ≤ (a0.size : Int))
          by_cases c17 : x5_1.length < 8796093022208
          ·rw [if_pos c17] at H
           have LMc17:=Aside0.mk c17
           clear c17
           obtain ⟨y104,hy104⟩ : ∃ y_ : List ByteArray,y_ = (x5_1 ++ [a0.extract (x6_1 : Int).toNat (x7_1 : Int).toNat]):=⟨_,rfl⟩
           replace H : (Rf05_Split.l0 k1 a0 a1 y104 (wrap64 (x7_1 + 1)) (wrap64 (x7_1 + 1))) = some r:=by first | (rw [hy104];with_reducible exact H) | (have H2_:=(Option.bind_some _ _).symm.trans H;rw [hy104];with_reducible exact H2_) | (have H2_:=(Option.bind_some _ _).symm.trans H;with_reducible exact H2_) | with_reducible exact H | (rw [hy104];exact H) | exact H
           have Ny104:=Aside0.mk hy104
           clear hy104
           have H':=Aside0.mk H
           clear H
           have p12 : 0 ≤ (x7_1 : Int):=of_decide_eq_true q1_
           have q12 : x7_1 < (a0.size : Int):=of_decide_eq_true q1_
           have hx12:=bt_at a0 x7_1
           replace p12:=eq_true p12
           replace q12:=eq_true q12
           go_wp2_with (first | ((with_reducible refine gate_builtin (b:=.append) (xs:=#[.tmp 25,.tmp 30]) rfl ?_);at_builtin;refine Kd.R_append Kd.string (w0:=w) w.heap.size rfl (.tmp 25) (.tmp 30) 98 9 (.string ⟨#[]⟩) 16 rfl Tryz.underlying98 info9 rfl q30_ q5_ u5 x5_1 (a0.extract (x6_1 : Int).toNat (x7_1 : Int).toNat) [.string (a0.extract (x6_1 : Int).toNat (x7_1 : Int).toNat)] (fun _ => True) (fun _ => False) rfl rfl ?aP (fun _ hk => hk.elim) ?aF ?aO ?aB ?aS ?aL ?_;(case aP => exact rfl);(case aB => exact bh_);(case aF => exact (fun _ _ => trivial));(case aO => exact q60_);(case aS => exact (below_size bh_));(case aL => have:=LMc17.out;omega);intro v105 w18 ho hb hg hat;rw [← Ny104.out] at ho;replace HB:=Aside0.mk (hb);have HO106:=Aside0.mk (ho);clear HO_5;clear ho hb hg hat))
           go_roundg k1
           case measure => have:=HK1.out;omega
           case rel => exact ⟨(y104),(wrap64 (x7_1 + 1)),(wrap64 (x7_1 + 1)),q12_,q12_,H',⟨by have:=HK1.out;omega⟩,⟨by (with_reducible repeat (first | apply Kd.R_alloc | apply Kd.R_drewN | apply Kd.R_drew));exact HO106.out⟩,⟨by repeat (first | (with_reducible first | exact HB.out | apply below_alloc | apply pw_below_drewN | apply below_drew1) | exact HB.out)⟩⟩
          ·rw [if_neg c17] at H
           exact absurd H q25_
         ·rw [if_neg c15] at H
          exact absurd H q25_
        ·rw [if_neg c14] at H
         exact absurd H q25_
       ·rw [if_neg c13] at H
        have c13b0:=beq_eq_false_iff_ne.mpr c13
        have c13b1:=bne_iff_ne.mpr c13
        have H':=Aside0.mk H
        clear H
        have p12 : 0 ≤ (x7_1 : Int):=of_decide_eq_true q1_
        have q12 : x7_1 < (a0.size : Int):=of_decide_eq_true q1_
        have hx12:=bt_at a0 x7_1
        replace p12:=eq_true p12
        replace q12:=eq_true q12
        go_wp2
        go_roundg k1
        case measure => have:=HK1.out;omega
        case rel => exact ⟨(x5_1),(x6_1),(wrap64 (x7_1 + 1)),q12_,q12_,H',⟨by have:=HK1.out;omega⟩,⟨by (with_reducible repeat (first | apply Kd.R_alloc | apply Kd.R_drewN | apply Kd.R_drew));exact HO_5.out⟩,⟨by repeat (first | (with_reducible first | exact HB.out | apply below_alloc | apply pw_below_drewN | apply below_drew1) | exact HB.out)⟩⟩
      ·rw [if_neg c11] at H
       exact absurd H q25_
     ·rw [if_neg c10] at H
      exact absurd H q25_
   ·rw [if_neg c3] at H
    have c3b0:=decide_eq_false c3
    clear c3
    obtain rfl:=Option.some.inj H
    go_wp2
    go_ret
    exact ⟨_,by first | rfl | (simp [] <;> rfl) | (simp [*] <;> rfl) | (simp [bne_nil_];done) | (simp [*,bne_nil_];done),by (with_reducible repeat (first | apply Kd.R_alloc | apply Kd.R_drewN | apply Kd.R_drew));exact HO_5.out,by repeat (first | (with_reducible first | exact HB.out | apply below_alloc | apply pw_below_drewN | apply below_drew1) | exact HB.out)⟩
def Rf05_part.l0 : Nat → ByteArray → Int → Option (Bool)
 | 0,_,_ => none
 | k + 1,x0,x3 => if x3 < (x0.size : Int) then (if 0 ≤ x3 then (if (bt x0 x3) ≥ 97 then (if (bt x0 x3) ≤ 122 then (Rf05_part.l0 k x0 (wrap64 (x3 + 1))) else (if (bt x0 x3) ≥ 65 then (if (bt x0 x3) ≤ 90 then (Rf05_part.l0 k x0 (wrap64 (x3 + 1))) else (if (bt x0 x3) ≥ 48 then (if ((bt x0 x3) ≤ 57) then (Rf05_part.l0 k x0 (wrap64 (x3 + 1))) else (if (bt x0 x3) = 45 then (Rf05_part.l0 k x0 (wrap64 (x3 + 1))) else (if (bt x0 x3) = 95 then (Rf05_part.l0 k x0 (wrap64 (x3 + 1))) else (if (bt x0 x3) = 46 then (Rf05_part.l0 k x0 (wrap64 (x3 + 1))) else (some false))))) else (if (bt x0 x3) = 45 then (Rf05_part.l0 k x0 (wrap64 (x3 + 1))) else (if (bt x0 x3) = 95 then (Rf05_part.l0 k x0 (wrap64 (x3 + 1))) else (if (bt x0 x3) = 46 then (Rf05_part.l0 k x0 (wrap64 (x3 + 1))) else (some false)))))) else (if (bt x0 x3) ≥ 48 then (if ((bt x0 x3) ≤ 57) then (Rf05_part.l0 k x0 (wrap64 (x3 + 1))) else (if (bt x0 x3) = 45 then (Rf05_part.l0 k x0 (wrap64 (x3 + 1))) else (if (bt x0 x3) = 95 then (Rf05_part.l0 k x0 (wrap64 (x3 + 1))) else (if (bt x0 x3) = 46 then (Rf05_part.l0 k x0 (wrap64 (x3 + 1))) else (some false))))) else (if (bt x0 x3) = 45 then (Rf05_part.l0 k x0 (wrap64 (x3 + 1))) else (if (bt x0 x3) = 95 then (Rf05_part.l0 k x0 (wrap64 (x3 + 1))) else (if (bt x0 x3) = 46 then (Rf05_part.l0 k x0 (wrap64 (x3 + 1))) else (some false))))))) else (if (bt x0 x3) ≥ 65 then (if (bt x0 x3) ≤ 90 then (Rf05_part.l0 k x0 (wrap64 (x3 + 1))) else (if (bt x0 x3) ≥ 48 then (if ((bt x0 x3) ≤ 57) then (Rf05_part.l0 k x0 (wrap64 (x3 + 1))) else (if (bt x0 x3) = 45 then (Rf05_part.l0 k x0 (wrap64 (x3 + 1))) else (if (bt x0 x3) = 95 then (Rf05_part.l0 k x0 (wrap64 (x3 + 1))) else (if (bt x0 x3) = 46 then (Rf05_part.l0 k x0 (wrap64 (x3 + 1))) else (some false))))) else (if (bt x0 x3) = 45 then (Rf05_part.l0 k x0 (wrap64 (x3 + 1))) else (if (bt x0 x3) = 95 then (Rf05_part.l0 k x0 (wrap64 (x3 + 1))) else (if (bt x0 x3) = 46 then (Rf05_part.l0 k x0 (wrap64 (x3 + 1))) else (some false)))))) else (if (bt x0 x3) ≥ 48 then (if ((bt x0 x3) ≤ 57) then (Rf05_part.l0 k x0 (wrap64 (x3 + 1))) else (if (bt x0 x3) = 45 then (Rf05_part.l0 k x0 (wrap64 (x3 + 1))) else (if (bt x0 x3) = 95 then (Rf05_part.l0 k x0 (wrap64 (x3 + 1))) else (if (bt x0 x3) = 46 then (Rf05_part.l0 k x0 (wrap64 (x3 + 1))) else (some false))))) else (if (bt x0 x3) = 45 then (Rf05_part.l0 k x0 (wrap64 (x3 + 1))) else (if (bt x0 x3) = 95 then (Rf05_part.l0 k x0 (wrap64 (x3 + 1))) else (if (bt x0 x3) = 46 then (Rf05_part.l0 k x0 (wrap64 (x3 + 1))) else (some false))))))) else (none)) else (if x0.toList = ([] : List UInt8) then (some false) else (if x0.toList = ([46] : List UInt8) then (some false) else (some (x0.toList != ([46,46] : List UInt8)))))
def Rf05_part.f (k : Nat) (a0 : ByteArray) : Option (Bool):=Rf05_part.l0 k a0 0
set_option maxHeartbeats 8000000 in
set_option maxRecDepth 100000 in
theorem Rf05_part.calls (k : Nat) (a0 : ByteArray) (r : Bool) (w : World) (h : Rf05_part.f k a0 = some r) :
  Calls Tryz.prog 153 #[.string a0] w fun e w' => e = .returned (.bool r) ∧ Drawn0 w w':=by
 have H : (Rf05_part.l0 k a0 0) = some r:=h
 clear h
 have H':=Aside0.mk H
 clear H
 go_enter Tryz.func153,Tryz.ntmps153
 go_wp2
 go_loopg [3] k (fun kq v3 w' => ∃ (x3_1 : Int),v3 = .int .i64 x3_1 ∧ Aside0 (Rf05_part.l0 kq a0 x3_1 = some r) ∧ Aside0 (kq ≤ k) ∧ Drawn0 w w')
 case atStart => exact ⟨(0),q12_,H',⟨Nat.le_refl _⟩,by repeat (first | exact Drawn0.refl _ | apply Drawn0.step)⟩
 case round =>
  clear H'
  try clear c1
  obtain ⟨x3_1,rfl,HA,HK1,⟨m1,rfl⟩⟩:=hrel
  cases gk with
  | zero => exact absurd HA.out (by simp [Rf05_part.l0])
  | succ k1 =>
   have H:=HA.out
   clear HA
   simp only [Rf05_part.l0] at H
   by_cases c2 : x3_1 < (a0.size : Int)
   ·rw [if_pos c2] at H
    have c2b0:=decide_eq_true c2
    clear c2
    by_cases c3 : 0 ≤ x3_1
    ·rw [if_pos c3] at H
     have c3b0:=decide_eq_true c3
     clear c3
     by_cases c5 : (bt a0 x3_1) ≥ 97
     ·rw [if_pos c5] at H
      have c5b0 : decide (97 ≤ (bt a0 x3_1)) = true:=decide_eq_true c5
      clear c5
      by_cases c6 : (bt a0 x3_1) ≤ 122
      ·rw [if_pos c6] at H
       have c6b0:=decide_eq_true c6
       clear c6
       have H':=Aside0.mk H
       clear H
       have p4 : 0 ≤ (x3_1 : Int):=of_decide_eq_true q1_
       have q4 : x3_1 < (a0.size : Int):=of_decide_eq_true q1_
       have hx4:=bt_at a0 x3_1
       replace p4:=eq_true p4
       replace q4:=eq_true q4
       go_wp2
       go_roundg k1
       case measure => have:=HK1.out;omega
       case rel => exact ⟨(wrap64 (x3_1 + 1)),q12_,H',⟨by have:=HK1.out;omega⟩,by repeat (first | exact Drawn0.refl _ | apply Drawn0.step)⟩
      ·rw [if_neg c6] at H
       have c6b0:=decide_eq_false c6
       clear c6
       by_cases c7 : (bt a0 x3_1) ≥ 65
       ·rw [if_pos c7] at H
        have c7b0 : decide (65 ≤ (bt a0 x3_1)) = true:=decide_eq_true c7
        clear c7
        by_cases c8 : (bt a0 x3_1) ≤ 90
        ·rw [if_pos c8] at H
         have c8b0:=decide_eq_true c8
         clear c8
         have H':=Aside0.mk H
         clear H
         have p4 : 0 ≤ (x3_1 : Int):=of_decide_eq_true q1_
         have q4 : x3_1 < (a0.size : Int):=of_decide_eq_true q1_
         have hx4:=bt_at a0 x3_1
         replace p4:=eq_true p4
         replace q4:=eq_true q4
         go_wp2
         go_roundg k1
         case measure => have:=HK1.out;omega
         case rel => exact ⟨(wrap64 (x3_1 + 1)),q12_,H',⟨by have:=HK1.out;omega⟩,by repeat (first | exact Drawn0.refl _ | apply Drawn0.step)⟩
        ·rw [if_neg c8] at H
         have c8b0:=decide_eq_false c8
         clear c8
         by_cases c9 : (bt a0 x3_1) ≥ 48
         ·rw [if_pos c9] at H
          have c9b0 : decide (48 ≤ (bt a0 x3_1)) = true:=decide_eq_true c9
          clear c9
          by_cases c10 : ((bt a0 x3_1) ≤ 57)
          ·rw [if_pos c10] at H
           have c10b0 : decide ((bt a0 x3_1) ≤ 57) = true:=decide_eq_true c10
           clear c10
           have H':=Aside0.mk H
           clear H
           have p4 : 0 ≤ (x3_1 : Int):=of_decide_eq_true q1_
           have q4 : x3_1 < (a0.size : Int):=of_decide_eq_true q1_
           have hx4:=bt_at a0 x3_1
           replace p4:=eq_true p4
           replace q4:=eq_true q4
           go_wp2
           go_roundg k1
           case measure => have:=HK1.out;omega
           case rel => exact ⟨(wrap64 (x3_1 + 1)),q12_,H',⟨by have:=HK1.out;omega⟩,by repeat (first | exact Drawn0.refl _ | apply Drawn0.step)⟩
          ·rw [if_neg c10] at H
           have c10b0 : decide ((bt a0 x3_1) ≤ 57) = false:=decide_eq_false c10
           clear c10
           by_cases c11 : (bt a0 x3_1) = 45
           ·rw [if_pos c11] at H
            have c11b0:=beq_iff_eq.mpr c11
            have c11b1:=bne_eq_false_iff_eq.mpr c11
            clear c11
            have H':=Aside0.mk H
            clear H
            have p4 : 0 ≤ (x3_1 : Int):=of_decide_eq_true q1_
            have q4 : x3_1 < (a0.size : Int):=of_decide_eq_true q1_
            have hx4:=bt_at a0 x3_1
            replace p4:=eq_true p4
            replace q4:=eq_true q4
            go_wp2
            go_roundg k1
            case measure => have:=HK1.out;omega
            case rel => exact ⟨(wrap64 (x3_1 + 1)),q12_,H',⟨by have:=HK1.out;omega⟩,by repeat (first | exact Drawn0.refl _ | apply Drawn0.step)⟩
           ·rw [if_neg c11] at H
            have c11b0:=beq_eq_false_iff_ne.mpr c11
            have c11b1:=bne_iff_ne.mpr c11
            by_cases c12 : (bt a0 x3_1) = 95
            ·rw [if_pos c12] at H
             have c12b0:=beq_iff_eq.mpr c12
             have c12b1:=bne_eq_false_iff_eq.mpr c12
             clear c12
             have H':=Aside0.mk H
             clear H
             have p4 : 0 ≤ (x3_1 : Int):=of_decide_eq_true q1_
             have q4 : x3_1 < (a0.size : Int):=of_decide_eq_true q1_
             have hx4:=bt_at a0 x3_1
             replace p4:=eq_true p4
             replace q4:=eq_true q4
             go_wp2
             go_roundg k1
             case measure => have:=HK1.out;omega
             case rel => exact ⟨(wrap64 (x3_1 + 1)),q12_,H',⟨by have:=HK1.out;omega⟩,by repeat (first | exact Drawn0.refl _ | apply Drawn0.step)⟩
            ·rw [if_neg c12] at H
             have c12b0:=beq_eq_false_iff_ne.mpr c12
             have c12b1:=bne_iff_ne.mpr c12
             by_cases c13 : (bt a0 x3_1) = 46
             ·rw [if_pos c13] at H
              have c13b0:=beq_iff_eq.mpr c13
              have c13b1:=bne_eq_false_iff_eq.mpr c13
              clear c13
              have H':=Aside0.mk H
              clear H
              have p4 : 0 ≤ (x3_1 : Int):=of_decide_eq_true q1_
              have q4 : x3_1 < (a0.size : Int):=of_decide_eq_true q1_
              have hx4:=bt_at a0 x3_1
              replace p4:=eq_true p4
              replace q4:=eq_true q4
              go_wp2
              go_roundg k1
              case measure => have:=HK1.out;omega
              case rel => exact ⟨(wrap64 (x3_1 + 1)),q12_,H',⟨by have:=HK1.out;omega⟩,by repeat (first | exact Drawn0.refl _ | apply Drawn0.step)⟩
             ·rw [if_neg c13] at H
              have c13b0:=beq_eq_false_iff_ne.mpr c13
              have c13b1:=bne_iff_ne.mpr c13
              obtain rfl:=Option.some.inj H
              have p4 : 0 ≤ (x3_1 : Int):=of_decide_eq_true q1_
              have q4 : x3_1 < (a0.size : Int):=of_decide_eq_true q1_
              have hx4:=bt_at a0 x3_1
              replace p4:=eq_true p4
              replace q4:=eq_true q4
              go_wp2
              go_ret
              exact ⟨q3_,q4_⟩
         ·rw [if_neg c9] at H
          have c9b0 : decide (48 ≤ (bt a0 x3_1)) = false:=decide_eq_false c9
          clear c9
          by_cases c14 : (bt a0 x3_1) = 45
          ·rw [if_pos c14] at H
           have c14b0:=beq_iff_eq.mpr c14
           have c14b1:=bne_eq_false_iff_eq.mpr c14
           clear c14
           have H':=Aside0.mk H
           clear H
           have p4 : 0 ≤ (x3_1 : Int):=of_decide_eq_true q1_
           have q4 : x3_1 < (a0.size : Int):=of_decide_eq_true q1_
           have hx4:=bt_at a0 x3_1
           replace p4:=eq_true p4
           replace q4:=eq_true q4
           go_wp2
           go_roundg k1
           case measure => have:=HK1.out;omega
           case rel => exact ⟨(wrap64 (x3_1 + 1)),q12_,H',⟨by have:=HK1.out;omega⟩,by repeat (first | exact Drawn0.refl _ | apply Drawn0.step)⟩
          ·rw [if_neg c14] at H
           have c14b0:=beq_eq_false_iff_ne.mpr c14
           have c14b1:=bne_iff_ne.mpr c14
           by_cases c15 : (bt a0 x3_1) = 95
           ·rw [if_pos c15] at H
            have c15b0:=beq_iff_eq.mpr c15
            have c15b1:=bne_eq_false_iff_eq.mpr c15
            clear c15
            have H':=Aside0.mk H
            clear H
            have p4 : 0 ≤ (x3_1 : Int):=of_decide_eq_true q1_
            have q4 : x3_1 < (a0.size : Int):=of_decide_eq_true q1_
            have hx4:=bt_at a0 x3_1
            replace p4:=eq_true p4
            replace q4:=eq_true q4
            go_wp2
            go_roundg k1
            case measure => have:=HK1.out;omega
            case rel => exact ⟨(wrap64 (x3_1 + 1)),q12_,H',⟨by have:=HK1.out;omega⟩,by repeat (first | exact Drawn0.refl _ | apply Drawn0.step)⟩
           ·rw [if_neg c15] at H
            have c15b0:=beq_eq_false_iff_ne.mpr c15
            have c15b1:=bne_iff_ne.mpr c15
            by_cases c16 : (bt a0 x3_1) = 46
            ·rw [if_pos c16] at H
             have c16b0:=beq_iff_eq.mpr c16
             have c16b1:=bne_eq_false_iff_eq.mpr c16
             clear c16
             have H':=Aside0.mk H
             clear H
             have p4 : 0 ≤ (x3_1 : Int):=of_decide_eq_true q1_
             have q4 : x3_1 < (a0.size : Int):=of_decide_eq_true q1_
             have hx4:=bt_at a0 x3_1
             replace p4:=eq_true p4
             replace q4:=eq_true q4
             go_wp2
             go_roundg k1
             case measure => have:=HK1.out;omega
             case rel => exact ⟨(wrap64 (x3_1 + 1)),q12_,H',⟨by have:=HK1.out;omega⟩,by repeat (first | exact Drawn0.refl _ | apply Drawn0.step)⟩
            ·rw [if_neg c16] at H
             have c16b0:=beq_eq_false_iff_ne.mpr c16
             have c16b1:=bne_iff_ne.mpr c16
             obtain rfl:=Option.some.inj H
             have p4 : 0 ≤ (x3_1 : Int):=of_decide_eq_true q1_
             have q4 : x3_1 < (a0.size : Int):=of_decide_eq_true q1_
             have hx4:=bt_at a0 x3_1
             replace p4:=eq_true p4
             replace q4:=eq_true q4
             go_wp2
             go_ret
             exact ⟨q3_,q4_⟩
       ·rw [if_neg c7] at H
        have c7b0 : decide (65 ≤ (bt a0 x3_1)) = false:=decide_eq_false c7
        clear c7
        by_cases c17 : (bt a0 x3_1) ≥ 48
        ·rw [if_pos c17] at H
         have c17b0 : decide (48 ≤ (bt a0 x3_1)) = true:=decide_eq_true c17
         clear c17
         by_cases c18 : ((bt a0 x3_1) ≤ 57)
         ·rw [if_pos c18] at H
          have c18b0 : decide ((bt a0 x3_1) ≤ 57) = true:=decide_eq_true c18
          clear c18
          have H':=Aside0.mk H
          clear H
          have p4 : 0 ≤ (x3_1 : Int):=of_decide_eq_true q1_
          have q4 : x3_1 < (a0.size : Int):=of_decide_eq_true q1_
          have hx4:=bt_at a0 x3_1
          replace p4:=eq_true p4
          replace q4:=eq_true q4
          go_wp2
          go_roundg k1
          case measure => have:=HK1.out;omega
          case rel => exact ⟨(wrap64 (x3_1 + 1)),q12_,H',⟨by have:=HK1.out;omega⟩,by repeat (first | exact Drawn0.refl _ | apply Drawn0.step)⟩
         ·rw [if_neg c18] at H
          have c18b0 : decide ((bt a0 x3_1) ≤ 57) = false:=decide_eq_false c18
          clear c18
          by_cases c19 : (bt a0 x3_1) = 45
          ·rw [if_pos c19] at H
           have c19b0:=beq_iff_eq.mpr c19
           have c19b1:=bne_eq_false_iff_eq.mpr c19
           clear c19
           have H':=Aside0.mk H
           clear H
           have p4 : 0 ≤ (x3_1 : Int):=of_decide_eq_true q1_
           have q4 : x3_1 < (a0.size : Int):=of_decide_eq_true q1_
           have hx4:=bt_at a0 x3_1
           replace p4:=eq_true p4
           replace q4:=eq_true q4
           go_wp2
           go_roundg k1
           case measure => have:=HK1.out;omega
           case rel => exact ⟨(wrap64 (x3_1 + 1)),q12_,H',⟨by have:=HK1.out;omega⟩,by repeat (first | exact Drawn0.refl _ | apply Drawn0.step)⟩
          ·rw [if_neg c19] at H
           have c19b0:=beq_eq_false_iff_ne.mpr c19
           have c19b1:=bne_iff_ne.mpr c19
           by_cases c20 : (bt a0 x3_1) = 95
           ·rw [if_pos c20] at H
            have c20b0:=beq_iff_eq.mpr c20
            have c20b1:=bne_eq_false_iff_eq.mpr c20
            clear c20
            have H':=Aside0.mk H
            clear H
            have p4 : 0 ≤ (x3_1 : Int):=of_decide_eq_true q1_
            have q4 : x3_1 < (a0.size : Int):=of_decide_eq_true q1_
            have hx4:=bt_at a0 x3_1
            replace p4:=eq_true p4
            replace q4:=eq_true q4
            go_wp2
            go_roundg k1
            case measure => have:=HK1.out;omega
            case rel => exact ⟨(wrap64 (x3_1 + 1)),q12_,H',⟨by have:=HK1.out;omega⟩,by repeat (first | exact Drawn0.refl _ | apply Drawn0.step)⟩
           ·rw [if_neg c20] at H
            have c20b0:=beq_eq_false_iff_ne.mpr c20
            have c20b1:=bne_iff_ne.mpr c20
            by_cases c21 : (bt a0 x3_1) = 46
            ·rw [if_pos c21] at H
             have c21b0:=beq_iff_eq.mpr c21
             have c21b1:=bne_eq_false_iff_eq.mpr c21
             clear c21
             have H':=Aside0.mk H
             clear H
             have p4 : 0 ≤ (x3_1 : Int):=of_decide_eq_true q1_
             have q4 : x3_1 < (a0.size : Int):=of_decide_eq_true q1_
             have hx4:=bt_at a0 x3_1
             replace p4:=eq_true p4
             replace q4:=eq_true q4
             go_wp2
             go_roundg k1
             case measure => have:=HK1.out;omega
             case rel => exact ⟨(wrap64 (x3_1 + 1)),q12_,H',⟨by have:=HK1.out;omega⟩,by repeat (first | exact Drawn0.refl _ | apply Drawn0.step)⟩
            ·rw [if_neg c21] at H
             have c21b0:=beq_eq_false_iff_ne.mpr c21
             have c21b1:=bne_iff_ne.mpr c21
             obtain rfl:=Option.some.inj H
             have p4 : 0 ≤ (x3_1 : Int):=of_decide_eq_true q1_
             have q4 : x3_1 < (a0.size : Int):=of_decide_eq_true q1_
             have hx4:=bt_at a0 x3_1
             replace p4:=eq_true p4
             replace q4:=eq_true q4
             go_wp2
             go_ret
             exact ⟨q3_,q4_⟩
        ·rw [if_neg c17] at H
         have c17b0 : decide (48 ≤ (bt a0 x3_1)) = false:=decide_eq_false c17
         clear c17
         by_cases c22 : (bt a0 x3_1) = 45
         ·rw [if_pos c22] at H
          have c22b0:=beq_iff_eq.mpr c22
          have c22b1:=bne_eq_false_iff_eq.mpr c22
          clear c22
          have H':=Aside0.mk H
          clear H
          have p4 : 0 ≤ (x3_1 : Int):=of_decide_eq_true q1_
          have q4 : x3_1 < (a0.size : Int):=of_decide_eq_true q1_
          have hx4:=bt_at a0 x3_1
          replace p4:=eq_true p4
          replace q4:=eq_true q4
          go_wp2
          go_roundg k1
          case measure => have:=HK1.out;omega
          case rel => exact ⟨(wrap64 (x3_1 + 1)),q12_,H',⟨by have:=HK1.out;omega⟩,by repeat (first | exact Drawn0.refl _ | apply Drawn0.step)⟩
         ·rw [if_neg c22] at H
          have c22b0:=beq_eq_false_iff_ne.mpr c22
          have c22b1:=bne_iff_ne.mpr c22
          by_cases c23 : (bt a0 x3_1) = 95
          ·rw [if_pos c23] at H
           have c23b0:=beq_iff_eq.mpr c23
           have c23b1:=bne_eq_false_iff_eq.mpr c23
           clear c23
           have H':=Aside0.mk H
           clear H
           have p4 : 0 ≤ (x3_1 : Int):=of_decide_eq_true q1_
           have q4 : x3_1 < (a0.size : Int):=of_decide_eq_true q1_
           have hx4:=bt_at a0 x3_1
           replace p4:=eq_true p4
           replace q4:=eq_true q4
           go_wp2
           go_roundg k1
           case measure => have:=HK1.out;omega
           case rel => exact ⟨(wrap64 (x3_1 + 1)),q12_,H',⟨by have:=HK1.out;omega⟩,by repeat (first | exact Drawn0.refl _ | apply Drawn0.step)⟩
          ·rw [if_neg c23] at H
           have c23b0:=beq_eq_false_iff_ne.mpr c23
           have c23b1:=bne_iff_ne.mpr c23
           by_cases c24 : (bt a0 x3_1) = 46
           ·rw [if_pos c24] at H
            have c24b0:=beq_iff_eq.mpr c24
            have c24b1:=bne_eq_false_iff_eq.mpr c24
            clear c24
            have H':=Aside0.mk H
            clear H
            have p4 : 0 ≤ (x3_1 : Int):=of_decide_eq_true q1_
            have q4 : x3_1 < (a0.size : Int):=of_decide_eq_true q1_
            have hx4:=bt_at a0 x3_1
            replace p4:=eq_true p4
            replace q4:=eq_true q4
            go_wp2
            go_roundg k1
            case measure => have:=HK1.out;omega
            case rel => exact ⟨(wrap64 (x3_1 + 1)),q12_,H',⟨by have:=HK1.out;omega⟩,by repeat (first | exact Drawn0.refl _ | apply Drawn0.step)⟩
           ·rw [if_neg c24] at H
            have c24b0:=beq_eq_false_iff_ne.mpr c24
            have c24b1:=bne_iff_ne.mpr c24
            obtain rfl:=Option.some.inj H
            have p4 : 0 ≤ (x3_1 : Int):=of_decide_eq_true q1_
            have q4 : x3_1 < (a0.size : Int):=of_decide_eq_true q1_
            have hx4:=bt_at a0 x3_1
            replace p4:=eq_true p4
            replace q4:=eq_true q4
            go_wp2
            go_ret
            exact ⟨q3_,q4_⟩
     ·rw [if_neg c5] at H
      have c5b0 : decide (97 ≤ (bt a0 x3_1)) = false:=decide_eq_false c5
      clear c5
      by_cases c25 : (bt a0 x3_1) ≥ 65
      ·rw [if_pos c25] at H
       have c25b0 : decide (65 ≤ (bt a0 x3_1)) = true:=decide_eq_true c25
       clear c25
       by_cases c26 : (bt a0 x3_1) ≤ 90
       ·rw [if_pos c26] at H
        have c26b0:=decide_eq_true c26
        clear c26
        have H':=Aside0.mk H
        clear H
        have p4 : 0 ≤ (x3_1 : Int):=of_decide_eq_true q1_
        have q4 : x3_1 < (a0.size : Int):=of_decide_eq_true q1_
        have hx4:=bt_at a0 x3_1
        replace p4:=eq_true p4
        replace q4:=eq_true q4
        go_wp2
        go_roundg k1
        case measure => have:=HK1.out;omega
        case rel => exact ⟨(wrap64 (x3_1 + 1)),q12_,H',⟨by have:=HK1.out;omega⟩,by repeat (first | exact Drawn0.refl _ | apply Drawn0.step)⟩
       ·rw [if_neg c26] at H
        have c26b0:=decide_eq_false c26
        clear c26
        by_cases c27 : (bt a0 x3_1) ≥ 48
        ·rw [if_pos c27] at H
         have c27b0 : decide (48 ≤ (bt a0 x3_1)) = true:=decide_eq_true c27
         clear c27
         by_cases c28 : ((bt a0 x3_1) ≤ 57)
         ·rw [if_pos c28] at H
          have c28b0 : decide ((bt a0 x3_1) ≤ 57) = true:=decide_eq_true c28
          clear c28
          have H':=Aside0.mk H
          clear H
          have p4 : 0 ≤ (x3_1 : Int):=of_decide_eq_true q1_
          have q4 : x3_1 < (a0.size : Int):=of_decide_eq_true q1_
          have hx4:=bt_at a0 x3_1
          replace p4:=eq_true p4
          replace q4:=eq_true q4
          go_wp2
          go_roundg k1
          case measure => have:=HK1.out;omega
          case rel => exact ⟨(wrap64 (x3_1 + 1)),q12_,H',⟨by have:=HK1.out;omega⟩,by repeat (first | exact Drawn0.refl _ | apply Drawn0.step)⟩
         ·rw [if_neg c28] at H
          have c28b0 : decide ((bt a0 x3_1) ≤ 57) = false:=decide_eq_false c28
          clear c28
          by_cases c29 : (bt a0 x3_1) = 45
          ·rw [if_pos c29] at H
           have c29b0:=beq_iff_eq.mpr c29
           have c29b1:=bne_eq_false_iff_eq.mpr c29
           clear c29
           have H':=Aside0.mk H
           clear H
           have p4 : 0 ≤ (x3_1 : Int):=of_decide_eq_true q1_
           have q4 : x3_1 < (a0.size : Int):=of_decide_eq_true q1_
           have hx4:=bt_at a0 x3_1
           replace p4:=eq_true p4
           replace q4:=eq_true q4
           go_wp2
           go_roundg k1
           case measure => have:=HK1.out;omega
           case rel => exact ⟨(wrap64 (x3_1 + 1)),q12_,H',⟨by have:=HK1.out;omega⟩,by repeat (first | exact Drawn0.refl _ | apply Drawn0.step)⟩
          ·rw [if_neg c29] at H
           have c29b0:=beq_eq_false_iff_ne.mpr c29
           have c29b1:=bne_iff_ne.mpr c29
           by_cases c30 : (bt a0 x3_1) = 95
           ·rw [if_pos c30] at H
            have c30b0:=beq_iff_eq.mpr c30
            have c30b1:=bne_eq_false_iff_eq.mpr c30
            clear c30
            have H':=Aside0.mk H
            clear H
            have p4 : 0 ≤ (x3_1 : Int):=of_decide_eq_true q1_
            have q4 : x3_1 < (a0.size : Int):=of_decide_eq_true q1_
            have hx4:=bt_at a0 x3_1
            replace p4:=eq_true p4
            replace q4:=eq_true q4
            go_wp2
            go_roundg k1
            case measure => have:=HK1.out;omega
            case rel => exact ⟨(wrap64 (x3_1 + 1)),q12_,H',⟨by have:=HK1.out;omega⟩,by repeat (first | exact Drawn0.refl _ | apply Drawn0.step)⟩
           ·rw [if_neg c30] at H
            have c30b0:=beq_eq_false_iff_ne.mpr c30
            have c30b1:=bne_iff_ne.mpr c30
            by_cases c31 : (bt a0 x3_1) = 46
            ·rw [if_pos c31] at H
             have c31b0:=beq_iff_eq.mpr c31
             have c31b1:=bne_eq_false_iff_eq.mpr c31
             clear c31
             have H':=Aside0.mk H
             clear H
             have p4 : 0 ≤ (x3_1 : Int):=of_decide_eq_true q1_
             have q4 : x3_1 < (a0.size : Int):=of_decide_eq_true q1_
             have hx4:=bt_at a0 x3_1
             replace p4:=eq_true p4
             replace q4:=eq_true q4
             go_wp2
             go_roundg k1
             case measure => have:=HK1.out;omega
             case rel => exact ⟨(wrap64 (x3_1 + 1)),q12_,H',⟨by have:=HK1.out;omega⟩,by repeat (first | exact Drawn0.refl _ | apply Drawn0.step)⟩
            ·rw [if_neg c31] at H
             have c31b0:=beq_eq_false_iff_ne.mpr c31
             have c31b1:=bne_iff_ne.mpr c31
             obtain rfl:=Option.some.inj H
             have p4 : 0 ≤ (x3_1 : Int):=of_decide_eq_true q1_
             have q4 : x3_1 < (a0.size : Int):=of_decide_eq_true q1_
             have hx4:=bt_at a0 x3_1
             replace p4:=eq_true p4
             replace q4:=eq_true q4
             go_wp2
             go_ret
             exact ⟨q3_,q4_⟩
        ·rw [if_neg c27] at H
         have c27b0 : decide (48 ≤ (bt a0 x3_1)) = false:=decide_eq_false c27
         clear c27
         by_cases c32 : (bt a0 x3_1) = 45
         ·rw [if_pos c32] at H
          have c32b0:=beq_iff_eq.mpr c32
          have c32b1:=bne_eq_false_iff_eq.mpr c32
          clear c32
          have H':=Aside0.mk H
          clear H
          have p4 : 0 ≤ (x3_1 : Int):=of_decide_eq_true q1_
          have q4 : x3_1 < (a0.size : Int):=of_decide_eq_true q1_
          have hx4:=bt_at a0 x3_1
          replace p4:=eq_true p4
          replace q4:=eq_true q4
          go_wp2
          go_roundg k1
          case measure => have:=HK1.out;omega
          case rel => exact ⟨(wrap64 (x3_1 + 1)),q12_,H',⟨by have:=HK1.out;omega⟩,by repeat (first | exact Drawn0.refl _ | apply Drawn0.step)⟩
         ·rw [if_neg c32] at H
          have c32b0:=beq_eq_false_iff_ne.mpr c32
          have c32b1:=bne_iff_ne.mpr c32
          by_cases c33 : (bt a0 x3_1) = 95
          ·rw [if_pos c33] at H
           have c33b0:=beq_iff_eq.mpr c33
           have c33b1:=bne_eq_false_iff_eq.mpr c33
           clear c33
           have H':=Aside0.mk H
           clear H
           have p4 : 0 ≤ (x3_1 : Int):=of_decide_eq_true q1_
           have q4 : x3_1 < (a0.size : Int):=of_decide_eq_true q1_
           have hx4:=bt_at a0 x3_1
           replace p4:=eq_true p4
           replace q4:=eq_true q4
           go_wp2
           go_roundg k1
           case measure => have:=HK1.out;omega
           case rel => exact ⟨(wrap64 (x3_1 + 1)),q12_,H',⟨by have:=HK1.out;omega⟩,by repeat (first | exact Drawn0.refl _ | apply Drawn0.step)⟩
          ·rw [if_neg c33] at H
           have c33b0:=beq_eq_false_iff_ne.mpr c33
           have c33b1:=bne_iff_ne.mpr c33
           by_cases c34 : (bt a0 x3_1) = 46
           ·rw [if_pos c34] at H
            have c34b0:=beq_iff_eq.mpr c34
            have c34b1:=bne_eq_false_iff_eq.mpr c34
            clear c34
            have H':=Aside0.mk H
            clear H
            have p4 : 0 ≤ (x3_1 : Int):=of_decide_eq_true q1_
            have q4 : x3_1 < (a0.size : Int):=of_decide_eq_true q1_
            have hx4:=bt_at a0 x3_1
            replace p4:=eq_true p4
            replace q4:=eq_true q4
            go_wp2
            go_roundg k1
            case measure => have:=HK1.out;omega
            case rel => exact ⟨(wrap64 (x3_1 + 1)),q12_,H',⟨by have:=HK1.out;omega⟩,by repeat (first | exact Drawn0.refl _ | apply Drawn0.step)⟩
           ·rw [if_neg c34] at H
            have c34b0:=beq_eq_false_iff_ne.mpr c34
            have c34b1:=bne_iff_ne.mpr c34
            obtain rfl:=Option.some.inj H
            have p4 : 0 ≤ (x3_1 : Int):=of_decide_eq_true q1_
            have q4 : x3_1 < (a0.size : Int):=of_decide_eq_true q1_
            have hx4:=bt_at a0 x3_1
            replace p4:=eq_true p4
            replace q4:=eq_true q4
            go_wp2
            go_ret
            exact ⟨q3_,q4_⟩
      ·rw [if_neg c25] at H
       have c25b0 : decide (65 ≤ (bt a0 x3_1)) = false:=decide_eq_false c25
       clear c25
       by_cases c35 : (bt a0 x3_1) ≥ 48
       ·rw [if_pos c35] at H
        have c35b0 : decide (48 ≤ (bt a0 x3_1)) = true:=decide_eq_true c35
        clear c35
        by_cases c36 : ((bt a0 x3_1) ≤ 57)
        ·rw [if_pos c36] at H
         have c36b0 : decide ((bt a0 x3_1) ≤ 57) = true:=decide_eq_true c36
         clear c36
         have H':=Aside0.mk H
         clear H
         have p4 : 0 ≤ (x3_1 : Int):=of_decide_eq_true q1_
         have q4 : x3_1 < (a0.size : Int):=of_decide_eq_true q1_
         have hx4:=bt_at a0 x3_1
         replace p4:=eq_true p4
         replace q4:=eq_true q4
         go_wp2
         go_roundg k1
         case measure => have:=HK1.out;omega
         case rel => exact ⟨(wrap64 (x3_1 + 1)),q12_,H',⟨by have:=HK1.out;omega⟩,by repeat (first | exact Drawn0.refl _ | apply Drawn0.step)⟩
        ·rw [if_neg c36] at H
         have c36b0 : decide ((bt a0 x3_1) ≤ 57) = false:=decide_eq_false c36
         clear c36
         by_cases c37 : (bt a0 x3_1) = 45
         ·rw [if_pos c37] at H
          have c37b0:=beq_iff_eq.mpr c37
          have c37b1:=bne_eq_false_iff_eq.mpr c37
          clear c37
          have H':=Aside0.mk H
          clear H
          have p4 : 0 ≤ (x3_1 : Int):=of_decide_eq_true q1_
          have q4 : x3_1 < (a0.size : Int):=of_decide_eq_true q1_
          have hx4:=bt_at a0 x3_1
          replace p4:=eq_true p4
          replace q4:=eq_true q4
          go_wp2
          go_roundg k1
          case measure => have:=HK1.out;omega
          case rel => exact ⟨(wrap64 (x3_1 + 1)),q12_,H',⟨by have:=HK1.out;omega⟩,by repeat (first | exact Drawn0.refl _ | apply Drawn0.step)⟩
         ·rw [if_neg c37] at H
          have c37b0:=beq_eq_false_iff_ne.mpr c37
          have c37b1:=bne_iff_ne.mpr c37
          by_cases c38 : (bt a0 x3_1) = 95
          ·rw [if_pos c38] at H
           have c38b0:=beq_iff_eq.mpr c38
           have c38b1:=bne_eq_false_iff_eq.mpr c38
           clear c38
           have H':=Aside0.mk H
           clear H
           have p4 : 0 ≤ (x3_1 : Int):=of_decide_eq_true q1_
           have q4 : x3_1 < (a0.size : Int):=of_decide_eq_true q1_
           have hx4:=bt_at a0 x3_1
           replace p4:=eq_true p4
           replace q4:=eq_true q4
           go_wp2
           go_roundg k1
           case measure => have:=HK1.out;omega
           case rel => exact ⟨(wrap64 (x3_1 + 1)),q12_,H',⟨by have:=HK1.out;omega⟩,by repeat (first | exact Drawn0.refl _ | apply Drawn0.step)⟩
          ·rw [if_neg c38] at H
           have c38b0:=beq_eq_false_iff_ne.mpr c38
           have c38b1:=bne_iff_ne.mpr c38
           by_cases c39 : (bt a0 x3_1) = 46
           ·rw [if_pos c39] at H
            have c39b0:=beq_iff_eq.mpr c39
            have c39b1:=bne_eq_false_iff_eq.mpr c39
            clear c39
            have H':=Aside0.mk H
            clear H
            have p4 : 0 ≤ (x3_1 : Int):=of_decide_eq_true q1_
            have q4 : x3_1 < (a0.size : Int):=of_decide_eq_true q1_
            have hx4:=bt_at a0 x3_1
            replace p4:=eq_true p4
            replace q4:=eq_true q4
            go_wp2
            go_roundg k1
            case measure => have:=HK1.out;omega
            case rel => exact ⟨(wrap64 (x3_1 + 1)),q12_,H',⟨by have:=HK1.out;omega⟩,by repeat (first | exact Drawn0.refl _ | apply Drawn0.step)⟩
           ·rw [if_neg c39] at H
            have c39b0:=beq_eq_false_iff_ne.mpr c39
            have c39b1:=bne_iff_ne.mpr c39
            obtain rfl:=Option.some.inj H
            have p4 : 0 ≤ (x3_1 : Int):=of_decide_eq_true q1_
            have q4 : x3_1 < (a0.size : Int):=of_decide_eq_true q1_
            have hx4:=bt_at a0 x3_1
            replace p4:=eq_true p4
            replace q4:=eq_true q4
            go_wp2
            go_ret
            exact ⟨q3_,q4_⟩
       ·rw [if_neg c35] at H
        have c35b0 : decide (48 ≤ (bt a0 x3_1)) = false:=decide_eq_false c35
        clear c35
        by_cases c40 : (bt a0 x3_1) = 45
        ·rw [if_pos c40] at H
         have c40b0:=beq_iff_eq.mpr c40
         have c40b1:=bne_eq_false_iff_eq.mpr c40
         clear c40
         have H':=Aside0.mk H
         clear H
         have p4 : 0 ≤ (x3_1 : Int):=of_decide_eq_true q1_
         have q4 : x3_1 < (a0.size : Int):=of_decide_eq_true q1_
         have hx4:=bt_at a0 x3_1
         replace p4:=eq_true p4
         replace q4:=eq_true q4
         go_wp2
         go_roundg k1
         case measure => have:=HK1.out;omega
         case rel => exact ⟨(wrap64 (x3_1 + 1)),q12_,H',⟨by have:=HK1.out;omega⟩,by repeat (first | exact Drawn0.refl _ | apply Drawn0.step)⟩
        ·rw [if_neg c40] at H
         have c40b0:=beq_eq_false_iff_ne.mpr c40
         have c40b1:=bne_iff_ne.mpr c40
         by_cases c41 : (bt a0 x3_1) = 95
         ·rw [if_pos c41] at H
          have c41b0:=beq_iff_eq.mpr c41
          have c41b1:=bne_eq_false_iff_eq.mpr c41
          clear c41
          have H':=Aside0.mk H
          clear H
          have p4 : 0 ≤ (x3_1 : Int):=of_decide_eq_true q1_
          have q4 : x3_1 < (a0.size : Int):=of_decide_eq_true q1_
          have hx4:=bt_at a0 x3_1
          replace p4:=eq_true p4
          replace q4:=eq_true q4
          go_wp2
          go_roundg k1
          case measure => have:=HK1.out;omega
          case rel => exact ⟨(wrap64 (x3_1 + 1)),q12_,H',⟨by have:=HK1.out;omega⟩,by repeat (first | exact Drawn0.refl _ | apply Drawn0.step)⟩
         ·rw [if_neg c41] at H
          have c41b0:=beq_eq_false_iff_ne.mpr c41
          have c41b1:=bne_iff_ne.mpr c41
          by_cases c42 : (bt a0 x3_1) = 46
          ·rw [if_pos c42] at H
           have c42b0:=beq_iff_eq.mpr c42
           have c42b1:=bne_eq_false_iff_eq.mpr c42
           clear c42
           have H':=Aside0.mk H
           clear H
           have p4 : 0 ≤ (x3_1 : Int):=of_decide_eq_true q1_
           have q4 : x3_1 < (a0.size : Int):=of_decide_eq_true q1_
           have hx4:=bt_at a0 x3_1
           replace p4:=eq_true p4
           replace q4:=eq_true q4
           go_wp2
           go_roundg k1
           case measure => have:=HK1.out;omega
           case rel => exact ⟨(wrap64 (x3_1 + 1)),q12_,H',⟨by have:=HK1.out;omega⟩,by repeat (first | exact Drawn0.refl _ | apply Drawn0.step)⟩
          ·rw [if_neg c42] at H
           have c42b0:=beq_eq_false_iff_ne.mpr c42
           have c42b1:=bne_iff_ne.mpr c42
           obtain rfl:=Option.some.inj H
           have p4 : 0 ≤ (x3_1 : Int):=of_decide_eq_true q1_
           have q4 : x3_1 < (a0.size : Int):=of_decide_eq_true q1_
           have hx4:=bt_at a0 x3_1
           replace p4:=eq_true p4
           replace q4:=eq_true q4
           go_wp2
           go_ret
           exact ⟨q3_,q4_⟩
    ·rw [if_neg c3] at H
     exact absurd H q25_
   ·rw [if_neg c2] at H
    have c2b0:=decide_eq_false c2
    clear c2
    by_cases c43 : a0.toList = ([] : List UInt8)
    ·rw [if_pos c43] at H
     have c43b0:=beq_iff_eq.mpr c43
     have c43b1:=bne_eq_false_iff_eq.mpr c43
     clear c43
     obtain rfl:=Option.some.inj H
     go_wp2
     go_ret
     exact ⟨q3_,q4_⟩
    ·rw [if_neg c43] at H
     have c43b0:=beq_eq_false_iff_ne.mpr c43
     have c43b1:=bne_iff_ne.mpr c43
     by_cases c44 : a0.toList = ([46] : List UInt8)
     ·rw [if_pos c44] at H
      have c44b0:=beq_iff_eq.mpr c44
      have c44b1:=bne_eq_false_iff_eq.mpr c44
      clear c44
      obtain rfl:=Option.some.inj H
      go_wp2
      go_ret
      exact ⟨q3_,q4_⟩
     ·rw [if_neg c44] at H
      have c44b0:=beq_eq_false_iff_ne.mpr c44
      have c44b1:=bne_iff_ne.mpr c44
      obtain rfl:=Option.some.inj H
      go_wp2
      go_ret
      exact ⟨q3_,q4_⟩
def Rf05_Path.l0 : Nat → List ByteArray → Int → Option (Bool)
 | 0,_,_ => none
 | k + 1,x3,x4 => if x4 < (x3.length : Int) then (if 0 ≤ x4 then ((Rf05_part.f k (rdOf ByteArray.empty x3 x4)).bind fun t105 => (if t105 = true then (Rf05_Path.l0 k x3 (wrap64 (x4 + 1))) else (some false))) else (none)) else (some true)
def Rf05_Path.f (k : Nat) (a0 : ByteArray) : Option (Bool):=if (a0.size : Int) > 60 then (some false) else ((Rf05_Split.f k a0 47).bind fun t101 => (Rf05_Path.l0 k t101 0))
set_option maxHeartbeats 8000000 in
set_option maxRecDepth 100000 in
theorem Rf05_Path.calls (k : Nat) (a0 : ByteArray) (r : Bool) (w : World) (h : Rf05_Path.f k a0 = some r) :
  Calls Tryz.prog 115 #[.string a0] w fun e w' => e = .returned (.bool r) ∧ Below w.heap.size w w':=by
 have HB:=Aside0.mk (Below.refl w.heap.size w)
 have H : (if (a0.size : Int) > 60 then (some false) else ((Rf05_Split.f k a0 47).bind fun t101 => (Rf05_Path.l0 k t101 0))) = some r:=h
 clear h
 by_cases c2 : (a0.size : Int) > 60
 ·rw [if_pos c2] at H
  have c2b0 : decide (60 < (a0.size : Int)) = true:=decide_eq_true c2
  have c2b1 : decide (60 < a0.size) = true:=decide_eq_true q5_
  clear c2
  obtain rfl:=Option.some.inj H
  go_enter Tryz.func115,Tryz.ntmps115
  go_wp2
  go_ret
  exact ⟨q2_,bh_⟩
 ·rw [if_neg c2] at H
  have c2b0 : decide (60 < (a0.size : Int)) = false:=decide_eq_false c2
  have c2b1 : decide (60 < a0.size) = false:=decide_eq_false q5_
  clear c2
  obtain ⟨t101,A30,H⟩:=Option.bind_eq_some_iff.mp H
  have A3:=Aside0.mk A30
  clear A30
  have H':=Aside0.mk H
  clear H
  go_enter Tryz.func115,Tryz.ntmps115
  go_wp2_with (first | ((with_reducible refine gate_callee (f:=98) rfl ?_);refine gl_ 9 Tryz.func98 #[.string a0,.int .u8 47] ?_;(with_reducible refine (Rf05_Split.calls k a0 47 t101 _ A3.out).mono ?_);rintro e w4 ⟨v102,rfl,ho0,hb⟩;refine ⟨_,rfl,?_⟩;have HO103:=Aside0.mk (Kd.R_lower ho0 (below_size bh_));replace HB:=Aside0.mk (below_step bh_ hb);(try clear hb);(try clear ho0)))
  go_loopg [4] k (fun kq v4 w' => ∃ (x4_1 : Int),v4 = .int .i64 x4_1 ∧ Aside0 (Rf05_Path.l0 kq t101 x4_1 = some r) ∧ Aside0 (kq ≤ k) ∧ Aside0 (Kd.R Kd.string 9 w' w.heap.size (fun _ => True) v102 t101) ∧ Aside0 (Below w.heap.size w w'))
  case atStart => exact ⟨(0),q12_,H',⟨Nat.le_refl _⟩,⟨by (with_reducible repeat (first | apply Kd.R_alloc | apply Kd.R_drewN | apply Kd.R_drew));exact HO103.out⟩,⟨by repeat (first | (with_reducible first | exact HB.out | apply below_alloc | apply pw_below_drewN | apply below_drew1) | exact HB.out)⟩⟩
  case round =>
   clear H'
   try clear c1
   try clear c2
   try clear c2b0
   try clear c2b1
   try clear p2
   obtain ⟨x4_1,rfl,HA,HK1,HO_3,HB⟩:=hrel
   cases gk with
   | zero => exact absurd HA.out (by simp [Rf05_Path.l0])
   | succ k1 =>
    have H:=HA.out
    clear HA
    simp only [Rf05_Path.l0] at H
    by_cases c5 : x4_1 < (t101.length : Int)
    ·rw [if_pos c5] at H
     have c5b0:=decide_eq_true c5
     clear c5
     by_cases c6 : 0 ≤ x4_1
     ·rw [if_pos c6] at H
      have c6b0:=decide_eq_true c6
      clear c6
      obtain ⟨t105,A70,H⟩:=Option.bind_eq_some_iff.mp H
      have A7:=Aside0.mk A70
      clear A70
      by_cases c8 : t105 = true
      ·subst c8
       rw [if_pos rfl] at H
       have H':=Aside0.mk H
       clear H
       obtain ⟨Ao9,co9,eo9⟩:=Kd.R_slice HO_3.out
       subst eo9
       have p104 : 0 ≤ (x4_1 : Int):=of_decide_eq_true q1_
       have q104 : x4_1 < (t101.length : Int):=of_decide_eq_true q1_
       obtain ⟨ad104,e104,hx104_0⟩:=Kd.at_string (Kd.R_reads' HO_3.out).2.2 x4_1 p104 q104
       cases e104
       replace p104:=eq_true p104
       replace q104:=eq_true q104
       go_wp2_with (first | ((with_reducible refine gate_callee (f:=153) rfl ?_);refine gl_ 20 Tryz.func153 #[.string (rdOf ByteArray.empty t101 x4_1)] ?_;(with_reducible refine (Rf05_part.calls k1 (rdOf ByteArray.empty t101 x4_1) true _ A7.out).mono ?_);rintro e w' ⟨rfl,⟨nd,rfl⟩⟩;refine ⟨_,rfl,?_⟩))
       go_roundg k1
       case measure => have:=HK1.out;omega
       case rel => exact ⟨(wrap64 (x4_1 + 1)),q12_,H',⟨by have:=HK1.out;omega⟩,⟨by (with_reducible repeat (first | apply Kd.R_alloc | apply Kd.R_drewN | apply Kd.R_drew));exact HO_3.out⟩,⟨by repeat (first | (with_reducible first | exact HB.out | apply below_alloc | apply pw_below_drewN | apply below_drew1) | exact HB.out)⟩⟩
      ·replace c8:=Bool.eq_false_iff.mpr c8
       subst c8
       rw [if_neg (show ¬ (false = true) by decide)] at H
       obtain rfl:=Option.some.inj H
       obtain ⟨Ao10,co10,eo10⟩:=Kd.R_slice HO_3.out
       subst eo10
       have p104 : 0 ≤ (x4_1 : Int):=of_decide_eq_true q1_
       have q104 : x4_1 < (t101.length : Int):=of_decide_eq_true q1_
       obtain ⟨ad104,e104,hx104_0⟩:=Kd.at_string (Kd.R_reads' HO_3.out).2.2 x4_1 p104 q104
       cases e104
       replace p104:=eq_true p104
       replace q104:=eq_true q104
       go_wp2_with (first | ((with_reducible refine gate_callee (f:=153) rfl ?_);refine gl_ 20 Tryz.func153 #[.string (rdOf ByteArray.empty t101 x4_1)] ?_;(with_reducible refine (Rf05_part.calls k1 (rdOf ByteArray.empty t101 x4_1) false _ A7.out).mono ?_);rintro e w' ⟨rfl,⟨nd,rfl⟩⟩;refine ⟨_,rfl,?_⟩))
       go_ret
       exact ⟨q2_,bh_⟩
     ·rw [if_neg c6] at H
      exact absurd H q25_
    ·rw [if_neg c5] at H
     have c5b0:=decide_eq_false c5
     clear c5
     obtain rfl:=Option.some.inj H
     obtain ⟨Ao11,co11,eo11⟩:=Kd.R_slice HO_3.out
     subst eo11
     go_wp2
     go_ret
     exact ⟨q2_,bh_⟩
end Go.Proofs.YtennhpoemdaghaaGreatDoor.P
end
section
namespace Go.Proofs.YtennhpoemdaghaaGreatDoor
open Go Go.RowKit
def StopsS {α : Type} (F : Fence) (n : Nat) (P : Program) (g : Nat) (lb : Array Value) (encs : α → Array Value) (B n₀ : Nat) (S Sp : List α → Prop) (Ok : List α → α → Prop) (w : World) : Prop :=
 ∀ (l : Nat) (J Jx : List α → World → Prop) (W : World),Below w.heap.size w W → AbidesFrom W.heap.size J →
  (∀ s A v,J s A → J s (A.setCell ⟨B,0,none⟩ v)) →
  (∀ pre x W1,J pre W1 → Ok pre x → YieldAt F (n - 1) P l (encs x) W1 fun e W' =>
   (e = .returned (.bool true) ∧ J (pre ++ [x]) W' ∧ Below n₀ W1 W') ∨ (e = .returned (.bool false) ∧ Jx (pre ++ [x]) W')) →
  J [] W →
  CallsIn F n P g (#[.func (.yield l) #[] #[]] ++ lb) W fun e W' => (∃ v,e = .returned v) ∧ ((∃ xs,S xs ∧ J xs W') ∨ (∃ pre,Sp pre ∧ Jx pre W'))
def bodyPostS {α : Type} (n₀ : Nat) (I Ix : List α → World → Prop) (xs : List α) (W : World) : Exit → Act → World → Prop
 | .normal,_,W' => KeepsOthers W W' ∧ Below n₀ W W' ∧ I xs W'
 | .ret,_,W' => KeepsOthers W W' ∧ Ix xs W'
 | _,_,_ => False
variable {F : Fence} {n : Nat} {P : Program}
theorem rangeFunc_state {α : Type} {g : Operand} {ps : Array Tmp} {assign body : Code} {Q : Exit → Act → World → Prop} {a : Act} {w : World}
  (hro : F.round = none) (h1 : 1 ≤ n) {gf : Nat} {lb : Array Value} (hg : a.eval g = .func (.func gf) #[] lb) (hFg : F.fn gf) (eg : ∀ args w,(callFunc gf args).run P w = .ok (.enter gf args) w)
  {encs : α → Array Value} {B n₀ : Nat} {S Sp : List α → Prop} {Ok : List α → α → Prop} (hseq : StopsS F (n - 1) P gf lb encs B n₀ S Sp Ok w)
  (hn0 : n₀ ≤ w.heap.size) (hBw : B < w.heap.size) (hps : ∀ x,(encs x).size = ps.size)
  (I Ix : List α → World → Prop) (hI : OwnFrom w.heap.size I) (hIx : OwnFrom w.heap.size Ix) (hIS : ∀ s A v,I s A → I s (A.setCell ⟨B,0,none⟩ v)) (h0 : I [] w) (a₁ : α → Act)
  (hassign : ∀ (l : Nat) (x : α) (W : World) (K : Act → World → Prop),K (a₁ x) W →
   assign.wpIn (F.inRound l) (n - 1 - 1) P (Exit.then K (fun _ _ _ => False)) { tmps:=(ps.zip (encs x)).foldl (fun t (p,v) => t.setIfInBounds p v) a.tmps,defers:=[] } W)
  (hbody : ∀ (l : Nat) (pre : List α) (x : α) (W : World),I pre W → Ok pre x → body.wpIn (F.inRound l) (n - 1 - 1) P (bodyPostS n₀ I Ix (pre ++ [x]) W) (a₁ x) W)
  (hdone : ∀ (D : Nat) (xs : List α) (W : World),w.heap.size ≤ D → S xs → I xs W → W.heap[D]? = some (.deferred (some [])) → Q .normal { a with defers:={ target:=.collected D,args:=#[] } :: a.defers } W)
  (hstop : ∀ (D : Nat) (pre : List α) (W : World),w.heap.size ≤ D → Sp pre → Ix pre W → W.heap[D]? = some (.deferred (some [])) → Code.ret.wpIn F n P Q { a with defers:={ target:=.collected D,args:=#[] } :: a.defers } W) :
  (Code.rangeFunc g ps assign body).wpIn F n P Q a w:=by
 refine wpIn_rangeFunc ?_
 intro fn hfn
 rw [hro]
 obtain ⟨rec,hrec⟩ : ∃ rec : LoopState → Option Code → Loop,rec = fun st pe => { state:=st,pending:=pe,fn,tmps:=a.tmps,params:=ps,assign,body,defers:=w.heap.size }:=⟨_,rfl⟩
 obtain ⟨W1,hW1⟩ : ∃ W1,(w.alloc (.deferred (some []))).alloc (.loop (rec .ready none)) = W1:=⟨_,rfl⟩
 have hL1 : W1.heap[w.heap.size + 1]? = some (.loop (rec .ready none)):=by
  rw [← hW1];have:=World.alloc_heap_new (w.alloc (.deferred (some []))) (.loop (rec .ready none));rwa [World.size_alloc] at this
 have hK1 : W1.heap[w.heap.size]? = some (.deferred (some [])):=by
  rw [← hW1];exact (Below.heap_alloc _ _ _ q25_).trans (World.alloc_heap_new w _)
 have hI1 : I [] W1:=by rw [← hW1];exact hI.alloc _ (hI.alloc _ h0)
 have hb1 : Below w.heap.size w W1:=by
  rw [← hW1];exact (((Below.refl _ w).alloc (Nat.le_refl _) _).alloc q25_ _)
 refine ⟨w.heap.size + 1,[{ target:=.collected w.heap.size,args:=#[] }],W1,{ target:=.fn (.func gf) lb,args:=#[.func (.yield (w.heap.size + 1)) #[] #[]] },W1,gf,
  #[.func (.yield (w.heap.size + 1)) #[] #[]] ++ lb,W1,?_,?_,?_,?_,fun _ => h1,?_⟩
 ·rw [← hW1,hrec];exact run_enterLoop_outer _ _ _ _ _
 ·simp only [resolve,hg]
  simp [go_sem]
 ·intro f' hf';simp [Target.leads] at hf';subst hf';exact hFg
 ·simp [invoke,go_sem,eg]
 ·have hnw : ∀ {A : World} {row : Option Nat},(∀ r,row = some r → W1.heap.size ≤ r ∧ ∃ o : Obj,A.heap[r]? = some o ∧ o.isWalk = true) → (∀ r,row = some r → w.heap.size ≤ r ∧ ∃ o : Obj,A.heap[r]? = some o ∧ o.isCells = false) :=
   fun hr r e => by obtain ⟨hB,o,ho,hw⟩:=hr r e;exact ⟨by rw [← hW1] at hB;simp at hB;omega,o,ho,Obj.not_cells_of_walk hw⟩
  have hset : ∀ (A : World) (v : Value) (j : Nat),w.heap.size ≤ j → (A.setCell ⟨B,0,none⟩ v).heap[j]? = A.heap[j]?:=fun A v j hj => Below.heap_setCell A ⟨B,0,none⟩ v j (by show j ≠ B;omega)
  refine (hseq (w.heap.size + 1)
   (fun pre W => I pre W ∧ W.heap[w.heap.size + 1]? = some (.loop (rec .ready none)) ∧ W.heap[w.heap.size]? = some (.deferred (some [])))
   (fun pre W => Ix pre W ∧ W.heap[w.heap.size + 1]? = some (.loop (rec .done (some .ret))) ∧ W.heap[w.heap.size]? = some (.deferred (some [])))
   W1 hb1
   (fun s A B row hs hg' hr => ⟨hI s A B row hs.1 hg' (hnw hr),(grownBy_keeps hg' (fun r e => (hr r e).2) hs.2.1 rfl).trans hs.2.1,(grownBy_keeps hg' (fun r e => (hr r e).2) hs.2.2 rfl).trans hs.2.2⟩)
   (fun s A v hs => ⟨hIS s A v hs.1,(hset A v _ q5_).trans hs.2.1,(hset A v _ q5_).trans hs.2.2⟩)
   ?_ ⟨hI1,hL1,hK1⟩).mono ?_
  ·rintro pre x W ⟨hi,hl,hk⟩ hlen
   have hlt : w.heap.size + 1 < W.heap.size:=(Array.getElem?_eq_some_iff.1 hl).1
   have hy:=run_yield (P:=P) (args:=encs x) hl (by rw [hrec];exact hps x)
   rw [hrec] at hy
   refine ⟨fn,_,assign,body,hy,roundIn_of_wpIn hfn (hassign _ x W _ ⟨_,run_beginRound hl (by rw [hrec]),?_⟩)⟩
   have hl2 : (W.putObj (w.heap.size + 1) (.loop { rec .ready none with state:=.busy })).heap[w.heap.size + 1]? = some (.loop { rec .ready none with state:=.busy }):=World.putObj_heap_same hlt
   have hk2 : (W.putObj (w.heap.size + 1) (.loop { rec .ready none with state:=.busy })).heap[w.heap.size]? = some (.deferred (some [])):=(World.putObj_heap_other q5_).trans hk
   have hw2 : Below n₀ W (W.putObj (w.heap.size + 1) (.loop { rec .ready none with state:=.busy })):=belowK_b hn0 _ _ _ _ q5_ hl rfl rfl
   refine wpIn_mono (hbody _ pre x _ (hI.putObj _ hi q5_ hl rfl) hlen) ?_
   have fin : ∀ (jump : Option Code) (W3 : World),KeepsOthers (W.putObj (w.heap.size + 1) (.loop { rec .ready none with state:=.busy })) W3 →
     (Instr.endRound (w.heap.size + 1) jump).run P W3 = .ok (.bool jump.isNone) (W3.putObj (w.heap.size + 1) (.loop (rec (if jump.isNone then .ready else .done) jump))) ∧
     W3.heap[w.heap.size + 1]? = some (.loop { rec .ready none with state:=.busy }) ∧
     (W3.putObj (w.heap.size + 1) (.loop (rec (if jump.isNone then .ready else .done) jump))).heap[w.heap.size + 1]? = some (.loop (rec (if jump.isNone then .ready else .done) jump)) ∧
     (W3.putObj (w.heap.size + 1) (.loop (rec (if jump.isNone then .ready else .done) jump))).heap[w.heap.size]? = some (.deferred (some [])):=fun jump W3 hk3 => by
    have hl3:=hk3.same _ _ hl2 rfl
    have:=run_endRound (P:=P) jump hl3
    rw [hrec] at this ⊢
    exact ⟨this,by rw [hrec] at hl3;exact hl3,World.putObj_heap_same (Array.getElem?_eq_some_iff.1 hl3).1,(World.putObj_heap_other q5_).trans (hk3.same _ _ hk2 rfl)⟩
   rintro e a3 W3 hp
   cases e with
   | normal =>
    obtain ⟨hk3,hkp3,hi3⟩:=hp
    obtain ⟨hr,hl3,hl4,hk4⟩:=fin none W3 hk3
    exact ⟨_,_,hr,.inl ⟨rfl,⟨hI.putObj _ hi3 q5_ hl3 rfl,hl4,hk4⟩,(hw2.trans hkp3).trans (belowK_b hn0 _ _ _ _ q5_ hl3 rfl rfl)⟩⟩
   | ret =>
    obtain ⟨hk3,hi3⟩:=hp
    obtain ⟨hr,hl3,hl4,hk4⟩:=fin (some .ret) W3 hk3
    exact ⟨_,_,hr,.inr ⟨rfl,hIx.putObj _ hi3 q5_ hl3 rfl,hl4,hk4⟩⟩
   | exit id => exact hp.elim
   | goto t => exact hp.elim
   | panic ch => exact hp.elim
   | outgrown => exact hp.elim
  ·rintro e W2 ⟨⟨v,rfl⟩,(⟨xs,hS,hi,hl,hk⟩ | ⟨pre,hSp,hi,hl,hk⟩)⟩
   ·exact ⟨none,_,by have:=run_endLoop (P:=P) hl (by rw [hrec];simp);rw [hrec] at this;exact this,hdone _ xs _ (Nat.le_refl _) hS (hI.putObj _ hi q5_ hl rfl) ((World.putObj_heap_other q5_).trans hk)⟩
   ·exact ⟨some .ret,_,by have:=run_endLoop (P:=P) hl (by rw [hrec];simp);rw [hrec] at this;exact this,hstop _ pre _ (Nat.le_refl _) hSp (hIx.putObj _ hi q5_ hl rfl) ((World.putObj_heap_other q5_).trans hk)⟩
end Go.Proofs.YtennhpoemdaghaaGreatDoor
end
