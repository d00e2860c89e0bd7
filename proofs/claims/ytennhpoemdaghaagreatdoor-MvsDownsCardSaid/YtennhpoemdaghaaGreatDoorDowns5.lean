/- MvsDowns: called with any requirements, nodes and requirement, the law returns true, and its arguments read behind the call as they read before. Proved of the given program, for every input that can be read as data; the package-level variables that the card lists begin as the program's text lays them (the card ties them to it); nothing else is assumed. -/
import Derived.Test.YtennhpoemdaghaaGreatDoorDowns4
import Derived.Test.YtennhpoemdaghaaGreatDoorRows
import Derived.Test.YtennhpoemdaghaaGreatDoorTie
import Derived.Test.YtennhpoemdaghaaGreatDoorCards
set_option linter.unusedVariables false
set_option linter.unusedSimpArgs false
section
namespace Go.Proofs.YtennhpoemdaghaaGreatDoor.P
open Go.RowKit Go.Proofs.YtennhpoemdaghaaGreatDoorW.PrintWords Go.Proofs.YtennhpoemdaghaaGreatDoorW.PrintLast Go.Proofs.YtennhpoemdaghaaGreatDoorW.PrintMore
def Lw17_live.f (k : Nat)  : Option (Bool):=(Lw17_req.f (⟨#[97]⟩ : ByteArray) 0).bind fun bt101 => ((Lw17_req.f (⟨#[99]⟩ : ByteArray) 1).bind fun bt107 => ((Lw17_req.f (⟨#[98]⟩ : ByteArray) 0).bind fun bt116 => ((Lw17_req.f (⟨#[99]⟩ : ByteArray) 2).bind fun bt122 => ((Lw17_req.f (⟨#[99]⟩ : ByteArray) 2).bind fun bt131 => ((Lw17_req.f (⟨#[100]⟩ : ByteArray) 0).bind fun bt137 => ((Lw17_req.f (⟨#[98]⟩ : ByteArray) (-1)).bind fun bt146 => ((some (([(⟨(⟨bt101.1,(⟨bt101.2.1,bt101.2.2.1,bt101.2.2.2.1,bt101.2.2.2.2.1,bt101.2.2.2.2.2⟩ : S24)⟩ : S41),(([(⟨bt107.1,(⟨bt107.2.1,bt107.2.2.1,bt107.2.2.2.1,bt107.2.2.2.2.1,bt107.2.2.2.2.2⟩ : S24)⟩ : S41)] : List (S41)))⟩ : S70),(⟨(⟨bt116.1,(⟨bt116.2.1,bt116.2.2.1,bt116.2.2.2.1,bt116.2.2.2.2.1,bt116.2.2.2.2.2⟩ : S24)⟩ : S41),(([(⟨bt122.1,(⟨bt122.2.1,bt122.2.2.1,bt122.2.2.2.1,bt122.2.2.2.2.1,bt122.2.2.2.2.2⟩ : S24)⟩ : S41)] : List (S41)))⟩ : S70),(⟨(⟨bt131.1,(⟨bt131.2.1,bt131.2.2.1,bt131.2.2.2.1,bt131.2.2.2.2.1,bt131.2.2.2.2.2⟩ : S24)⟩ : S41),(([(⟨bt137.1,(⟨bt137.2.1,bt137.2.2.1,bt137.2.2.2.1,bt137.2.2.2.2.1,bt137.2.2.2.2.2⟩ : S24)⟩ : S41)] : List (S41)))⟩ : S70),(⟨(⟨bt146.1,(⟨bt146.2.1,bt146.2.2.1,bt146.2.2.2.1,bt146.2.2.2.2.1,bt146.2.2.2.2.2⟩ : S24)⟩ : S41),([] : List (S41))⟩ : S70)] : List (S70)) : List (S70))).bind fun y152 => ((Lw17_req.f (⟨#[98]⟩ : ByteArray) 0).bind fun bt155 => ((Lw17_req.f (⟨#[97]⟩ : ByteArray) 0).bind fun bt161 => ((some (([(⟨bt155.1,(⟨bt155.2.1,bt155.2.2.1,bt155.2.2.2.1,bt155.2.2.2.2.1,bt155.2.2.2.2.2⟩ : S24)⟩ : S41),(⟨bt161.1,(⟨bt161.2.1,bt161.2.2.1,bt161.2.2.2.1,bt161.2.2.2.2.1,bt161.2.2.2.2.2⟩ : S24)⟩ : S41)] : List (S41)) : List (S41))).bind fun y167 => ((mvs_List.f y167 y152).bind fun t170 => ((Lw17_req.f (⟨#[97]⟩ : ByteArray) 3).bind fun bt173 => ((mvs_Upgrade.f y167 bt173.1 bt173.2.1 bt173.2.2.1 bt173.2.2.2.1 bt173.2.2.2.2.1 bt173.2.2.2.2.2).bind fun t179 => ((Lw17_req.f (⟨#[99]⟩ : ByteArray) 1).bind fun bt182 => ((mvs_Downgrade.f k y167 y152 bt182.1 bt182.2.1 bt182.2.2.1 bt182.2.2.2.1 bt182.2.2.2.2.1 bt182.2.2.2.2.2).bind fun t188 => ((Lw17_req.f (⟨#[97]⟩ : ByteArray) 0).bind fun bt191 => ((Lw17_req.f (⟨#[98]⟩ : ByteArray) 0).bind fun bt197 => ((Lw17_req.f (⟨#[99]⟩ : ByteArray) 2).bind fun bt203 => ((Lw17_req.f (⟨#[100]⟩ : ByteArray) 0).bind fun bt209 => ((Rf17_Same.f k t170 (([(⟨bt191.1,(⟨bt191.2.1,bt191.2.2.1,bt191.2.2.2.1,bt191.2.2.2.2.1,bt191.2.2.2.2.2⟩ : S24)⟩ : S41),(⟨bt197.1,(⟨bt197.2.1,bt197.2.2.1,bt197.2.2.2.1,bt197.2.2.2.2.1,bt197.2.2.2.2.2⟩ : S24)⟩ : S41),(⟨bt203.1,(⟨bt203.2.1,bt203.2.2.1,bt203.2.2.2.1,bt203.2.2.2.2.1,bt203.2.2.2.2.2⟩ : S24)⟩ : S41),(⟨bt209.1,(⟨bt209.2.1,bt209.2.2.1,bt209.2.2.2.1,bt209.2.2.2.2.1,bt209.2.2.2.2.2⟩ : S24)⟩ : S41)] : List (S41)))).bind fun t218 => (if t218 = true then ((mvs_Reached.f y167 y152).bind fun t219 => (if (t219.length : Int) = 5 then ((Lw17_req.f (⟨#[98]⟩ : ByteArray) 0).bind fun bt222 => ((Lw17_req.f (⟨#[97]⟩ : ByteArray) 3).bind fun bt228 => ((Rf17_Same.f k t179 (([(⟨bt222.1,(⟨bt222.2.1,bt222.2.2.1,bt222.2.2.2.1,bt222.2.2.2.2.1,bt222.2.2.2.2.2⟩ : S24)⟩ : S41),(⟨bt228.1,(⟨bt228.2.1,bt228.2.2.1,bt228.2.2.2.1,bt228.2.2.2.2.1,bt228.2.2.2.2.2⟩ : S24)⟩ : S41)] : List (S41)))).bind fun t237 => (if t237 = true then ((Lw17_req.f (⟨#[97]⟩ : ByteArray) 0).bind fun bt238 => ((Rf17_Same.f k t188 (([(⟨bt238.1,(⟨bt238.2.1,bt238.2.2.1,bt238.2.2.2.1,bt238.2.2.2.2.1,bt238.2.2.2.2.2⟩ : S24)⟩ : S41)] : List (S41)))).bind fun t247 => (if t247 = true then ((Lw17_req.f (⟨#[122]⟩ : ByteArray) 0).bind fun bt248 => ((mvs_Upgrade.f y167 bt248.1 bt248.2.1 bt248.2.2.1 bt248.2.2.2.1 bt248.2.2.2.2.1 bt248.2.2.2.2.2).bind fun t254 => (if (t254.length : Int) = 3 then ((Lw17_req.f (⟨#[122]⟩ : ByteArray) (-1)).bind fun bt257 => ((mvs_Upgrade.f y167 bt257.1 bt257.2.1 bt257.2.2.1 bt257.2.2.2.1 bt257.2.2.2.2.1 bt257.2.2.2.2.2).bind fun t263 => (some ((t263.length : Int) == 2)))) else (some false)))) else (some false)))) else (some false))))) else (some false))) else (some false))))))))))))))))))))))
theorem Lw17_live.mono : ∀ k,LeO (Lw17_live.f k ) (Lw17_live.f (k + 1) ):=by
 intro  k
 unfold Lw17_live.f
 repeat' first
   | (with_reducible exact Rf17_Same.mono _ _ _)
   | (with_reducible exact mvs_Downgrade.mono _ _ _ _ _ _ _ _ _)
   | (with_reducible exact LeO.refl _)
   | (with_reducible exact LeO.none _)
   | (with_reducible refine LeO.ite ?_ ?_)
   | (with_reducible refine LeO.bind ?_ (fun _ => ?_))
   | exact Rf17_Same.mono _ _ _
   | exact mvs_Downgrade.mono _ _ _ _ _ _ _ _ _
   | exact LeO.none _
   | refine LeO.ite ?_ ?_
   | refine LeO.bind ?_ (fun _ => ?_)
set_option maxHeartbeats 8000000 in
set_option maxRecDepth 100000 in
theorem Lw17_live.calls (k : Nat)  (r : Bool) (w : World) (h : Lw17_live.f k  = some r) (hr_ : r = true) (hG : Env w) :
  Calls Tryz.prog 22 #[] w fun e w' => e = .returned (.bool r) ∧ Below w.heap.size w w':=by
 have HG:=Aside0.mk hG
 clear hG
 have HR_:=Aside0.mk hr_
 clear hr_
 have hu70:=Tryz.underlying70
 have HB:=Aside0.mk (Below.refl w.heap.size w)
 have H : ((Lw17_req.f (⟨#[97]⟩ : ByteArray) 0).bind fun bt101 => ((Lw17_req.f (⟨#[99]⟩ : ByteArray) 1).bind fun bt107 => ((Lw17_req.f (⟨#[98]⟩ : ByteArray) 0).bind fun bt116 => ((Lw17_req.f (⟨#[99]⟩ : ByteArray) 2).bind fun bt122 => ((Lw17_req.f (⟨#[99]⟩ : ByteArray) 2).bind fun bt131 => ((Lw17_req.f (⟨#[100]⟩ : ByteArray) 0).bind fun bt137 => ((Lw17_req.f (⟨#[98]⟩ : ByteArray) (-1)).bind fun bt146 => ((some (([(⟨(⟨bt101.1,(⟨bt101.2.1,bt101.2.2.1,bt101.2.2.2.1,bt101.2.2.2.2.1,bt101.2.2.2.2.2⟩ : S24)⟩ : S41),(([(⟨bt107.1,(⟨bt107.2.1,bt107.2.2.1,bt107.2.2.2.1,bt107.2.2.2.2.1,bt107.2.2.2.2.2⟩ : S24)⟩ : S41)] : List (S41)))⟩ : S70),(⟨(⟨bt116.1,(⟨bt116.2.1,bt116.2.2.1,bt116.2.2.2.1,bt116.2.2.2.2.1,bt116.2.2.2.2.2⟩ : S24)⟩ : S41),(([(⟨bt122.1,(⟨bt122.2.1,bt122.2.2.1,bt122.2.2.2.1,bt122.2.2.2.2.1,bt122.2.2.2.2.2⟩ : S24)⟩ : S41)] : List (S41)))⟩ : S70),(⟨(⟨bt131.1,(⟨bt131.2.1,bt131.2.2.1,bt131.2.2.2.1,bt131.2.2.2.2.1,bt131.2.2.2.2.2⟩ : S24)⟩ : S41),(([(⟨bt137.1,(⟨bt137.2.1,bt137.2.2.1,bt137.2.2.2.1,bt137.2.2.2.2.1,bt137.2.2.2.2.2⟩ : S24)⟩ : S41)] : List (S41)))⟩ : S70),(⟨(⟨bt146.1,(⟨bt146.2.1,bt146.2.2.1,bt146.2.2.2.1,bt146.2.2.2.2.1,bt146.2.2.2.2.2⟩ : S24)⟩ : S41),([] : List (S41))⟩ : S70)] : List (S70)) : List (S70))).bind fun y152 => ((Lw17_req.f (⟨#[98]⟩ : ByteArray) 0).bind fun bt155 => ((Lw17_req.f (⟨#[97]⟩ : ByteArray) 0).bind fun bt161 => ((some (([(⟨bt155.1,(⟨bt155.2.1,bt155.2.2.1,bt155.2.2.2.1,bt155.2.2.2.2.1,bt155.2.2.2.2.2⟩ : S24)⟩ : S41),(⟨bt161.1,(⟨bt161.2.1,bt161.2.2.1,bt161.2.2.2.1,bt161.2.2.2.2.1,bt161.2.2.2.2.2⟩ : S24)⟩ : S41)] : List (S41)) : List (S41))).bind fun y167 => ((mvs_List.f y167 y152).bind fun t170 => ((Lw17_req.f (⟨#[97]⟩ : ByteArray) 3).bind fun bt173 => ((mvs_Upgrade.f y167 bt173.1 bt173.2.1 bt173.2.2.1 bt173.2.2.2.1 bt173.2.2.2.2.1 bt173.2.2.2.2.2).bind fun t179 => ((Lw17_req.f (⟨#[99]⟩ : ByteArray) 1).bind fun bt182 => ((mvs_Downgrade.f k y167 y152 bt182.1 bt182.2.1 bt182.2.2.1 bt182.2.2.2.1 bt182.2.2.2.2.1 bt182.2.2.2.2.2).bind fun t188 => ((Lw17_req.f (⟨#[97]⟩ : ByteArray) 0).bind fun bt191 => ((Lw17_req.f (⟨#[98]⟩ : ByteArray) 0).bind fun bt197 => ((Lw17_req.f (⟨#[99]⟩ : ByteArray) 2).bind fun bt203 => ((Lw17_req.f (⟨#[100]⟩ : ByteArray) 0).bind fun bt209 => ((Rf17_Same.f k t170 (([(⟨bt191.1,(⟨bt191.2.1,bt191.2.2.1,bt191.2.2.2.1,bt191.2.2.2.2.1,bt191.2.2.2.2.2⟩ : S24)⟩ : S41),(⟨bt197.1,(⟨bt197.2.1,bt197.2.2.1,bt197.2.2.2.1,bt197.2.2.2.2.1,bt197.2.2.2.2.2⟩ : S24)⟩ : S41),(⟨bt203.1,(⟨bt203.2.1,bt203.2.2.1,bt203.2.2.2.1,bt203.2.2.2.2.1,bt203.2.2.2.2.2⟩ : S24)⟩ : S41),(⟨bt209.1,(⟨bt209.2.1,bt209.2.2.1,bt209.2.2.2.1,bt209.2.2.2.2.1,bt209.2.2.2.2.2⟩ : S24)⟩ : S41)] : List (S41)))).bind fun t218 => (if t218 = true then ((mvs_Reached.f y167 y152).bind fun t219 => (if (t219.length : Int) = 5 then ((Lw17_req.f (⟨#[98]⟩ : ByteArray) 0).bind fun bt222 => ((Lw17_req.f (⟨#[97]⟩ : ByteArray) 3).bind fun bt228 => ((Rf17_Same.f k t179 (([(⟨bt222.1,(⟨bt222.2.1,bt222.2.2.1,bt222.2.2.2.1,bt222.2.2.2.2.1,bt222.2.2.2.2.2⟩ : S24)⟩ : S41),(⟨bt228.1,(⟨bt228.2.1,bt228.2.2.1,bt228.2.2.2.1,bt228.2.2.2.2.1,bt228.2.2.2.2.2⟩ : S24)⟩ : S41)] : List (S41)))).bind fun t237 => (if t237 = true then ((Lw17_req.f (⟨#[97]⟩ : ByteArray) 0).bind fun bt238 => ((Rf17_Same.f k t188 (([(⟨bt238.1,(⟨bt238.2.1,bt238.2.2.1,bt238.2.2.2.1,bt238.2.2.2.2.1,bt238.2.2.2.2.2⟩ : S24)⟩ : S41)] : List (S41)))).bind fun t247 => (if t247 = true then ((Lw17_req.f (⟨#[122]⟩ : ByteArray) 0).bind fun bt248 => ((mvs_Upgrade.f y167 bt248.1 bt248.2.1 bt248.2.2.1 bt248.2.2.2.1 bt248.2.2.2.2.1 bt248.2.2.2.2.2).bind fun t254 => (if (t254.length : Int) = 3 then ((Lw17_req.f (⟨#[122]⟩ : ByteArray) (-1)).bind fun bt257 => ((mvs_Upgrade.f y167 bt257.1 bt257.2.1 bt257.2.2.1 bt257.2.2.2.1 bt257.2.2.2.2.1 bt257.2.2.2.2.2).bind fun t263 => (some ((t263.length : Int) == 2)))) else (some false)))) else (some false)))) else (some false))))) else (some false))) else (some false))))))))))))))))))))))) = some r:=h
 clear h
 obtain ⟨⟨t101,t102,t103,t104,t105,t106⟩,A10,H⟩:=Option.bind_eq_some_iff.mp H
 dsimp only at H
 have A1:=Aside0.mk A10
 clear A10
 obtain ⟨⟨t107,t108,t109,t110,t111,t112⟩,A20,H⟩:=Option.bind_eq_some_iff.mp H
 dsimp only at H
 have A2:=Aside0.mk A20
 clear A20
 obtain ⟨y113,hy113⟩ : ∃ y_ : List (S41),y_ = (([(⟨t107,(⟨t108,t109,t110,t111,t112⟩ : S24)⟩ : S41)] : List (S41))):=⟨_,rfl⟩
 replace H : ((Lw17_req.f (⟨#[98]⟩ : ByteArray) 0).bind fun bt116 => ((Lw17_req.f (⟨#[99]⟩ : ByteArray) 2).bind fun bt122 => ((Lw17_req.f (⟨#[99]⟩ : ByteArray) 2).bind fun bt131 => ((Lw17_req.f (⟨#[100]⟩ : ByteArray) 0).bind fun bt137 => ((Lw17_req.f (⟨#[98]⟩ : ByteArray) (-1)).bind fun bt146 => ((some (([(⟨(⟨t101,(⟨t102,t103,t104,t105,t106⟩ : S24)⟩ : S41),y113⟩ : S70),(⟨(⟨bt116.1,(⟨bt116.2.1,bt116.2.2.1,bt116.2.2.2.1,bt116.2.2.2.2.1,bt116.2.2.2.2.2⟩ : S24)⟩ : S41),(([(⟨bt122.1,(⟨bt122.2.1,bt122.2.2.1,bt122.2.2.2.1,bt122.2.2.2.2.1,bt122.2.2.2.2.2⟩ : S24)⟩ : S41)] : List (S41)))⟩ : S70),(⟨(⟨bt131.1,(⟨bt131.2.1,bt131.2.2.1,bt131.2.2.2.1,bt131.2.2.2.2.1,bt131.2.2.2.2.2⟩ : S24)⟩ : S41),(([(⟨bt137.1,(⟨bt137.2.1,bt137.2.2.1,bt137.2.2.2.1,bt137.2.2.2.2.1,bt137.2.2.2.2.2⟩ : S24)⟩ : S41)] : List (S41)))⟩ : S70),(⟨(⟨bt146.1,(⟨bt146.2.1,bt146.2.2.1,bt146.2.2.2.1,bt146.2.2.2.2.1,bt146.2.2.2.2.2⟩ : S24)⟩ : S41),([] : List (S41))⟩ : S70)] : List (S70)) : List (S70))).bind fun y152 => ((Lw17_req.f (⟨#[98]⟩ : ByteArray) 0).bind fun bt155 => ((Lw17_req.f (⟨#[97]⟩ : ByteArray) 0).bind fun bt161 => ((some (([(⟨bt155.1,(⟨bt155.2.1,bt155.2.2.1,bt155.2.2.2.1,bt155.2.2.2.2.1,bt155.2.2.2.2.2⟩ : S24)⟩ : S41),(⟨bt161.1,(⟨bt161.2.1,bt161.2.2.1,bt161.2.2.2.1,bt161.2.2.2.2.1,bt161.2.2.2.2.2⟩ : S24)⟩ : S41)] : List (S41)) : List (S41))).bind fun y167 => ((mvs_List.f y167 y152).bind fun t170 => ((Lw17_req.f (⟨#[97]⟩ : ByteArray) 3).bind fun bt173 => ((mvs_Upgrade.f y167 bt173.1 bt173.2.1 bt173.2.2.1 bt173.2.2.2.1 bt173.2.2.2.2.1 bt173.2.2.2.2.2).bind fun t179 => ((Lw17_req.f (⟨#[99]⟩ : ByteArray) 1).bind fun bt182 => ((mvs_Downgrade.f k y167 y152 bt182.1 bt182.2.1 bt182.2.2.1 bt182.2.2.2.1 bt182.2.2.2.2.1 bt182.2.2.2.2.2).bind fun t188 => ((Lw17_req.f (⟨#[97]⟩ : ByteArray) 0).bind fun bt191 => ((Lw17_req.f (⟨#[98]⟩ : ByteArray) 0).bind fun bt197 => ((Lw17_req.f (⟨#[99]⟩ : ByteArray) 2).bind fun bt203 => ((Lw17_req.f (⟨#[100]⟩ : ByteArray) 0).bind fun bt209 => ((Rf17_Same.f k t170 (([(⟨bt191.1,(⟨bt191.2.1,bt191.2.2.1,bt191.2.2.2.1,bt191.2.2.2.2.1,bt191.2.2.2.2.2⟩ : S24)⟩ : S41),(⟨bt197.1,(⟨bt197.2.1,bt197.2.2.1,bt197.2.2.2.1,bt197.2.2.2.2.1,bt197.2.2.2.2.2⟩ : S24)⟩ : S41),(⟨bt203.1,(⟨bt203.2.1,bt203.2.2.1,bt203.2.2.2.1,bt203.2.2.2.2.1,bt203.2.2.2.2.2⟩ : S24)⟩ : S41),(⟨bt209.1,(⟨bt209.2.1,bt209.2.2.1,bt209.2.2.2.1,bt209.2.2.2.2.1,bt209.2.2.2.2.2⟩ : S24)⟩ : S41)] : List (S41)))).bind fun t218 => (if t218 = true then ((mvs_Reached.f y167 y152).bind fun t219 => (if (t219.length : Int) = 5 then ((Lw17_req.f (⟨#[98]⟩ : ByteArray) 0).bind fun bt222 => ((Lw17_req.f (⟨#[97]⟩ : ByteArray) 3).bind fun bt228 => ((Rf17_Same.f k t179 (([(⟨bt222.1,(⟨bt222.2.1,bt222.2.2.1,bt222.2.2.2.1,bt222.2.2.2.2.1,bt222.2.2.2.2.2⟩ : S24)⟩ : S41),(⟨bt228.1,(⟨bt228.2.1,bt228.2.2.1,bt228.2.2.2.1,bt228.2.2.2.2.1,bt228.2.2.2.2.2⟩ : S24)⟩ : S41)] : List (S41)))).bind fun t237 => (if t237 = true then ((Lw17_req.f (⟨#[97]⟩ : ByteArray) 0).bind fun bt238 => ((Rf17_Same.f k t188 (([(⟨bt238.1,(⟨bt238.2.1,bt238.2.2.1,bt238.2.2.2.1,bt238.2.2.2.2.1,bt238.2.2.2.2.2⟩ : S24)⟩ : S41)] : List (S41)))).bind fun t247 => (if t247 = true then ((Lw17_req.f (⟨#[122]⟩ : ByteArray) 0).bind fun bt248 => ((mvs_Upgrade.f y167 bt248.1 bt248.2.1 bt248.2.2.1 bt248.2.2.2.1 bt248.2.2.2.2.1 bt248.2.2.2.2.2).bind fun t254 => (if (t254.length : Int) = 3 then ((Lw17_req.f (⟨#[122]⟩ : ByteArray) (-1)).bind fun bt257 => ((mvs_Upgrade.f y167 bt257.1 bt257.2.1 bt257.2.2.1 bt257.2.2.2.1 bt257.2.2.2.2.1 bt257.2.2.2.2.2).bind fun t263 => (some ((t263.length : Int) == 2)))) else (some false)))) else (some false)))) else (some false))))) else (some false))) else (some false))))))))))))))))))))) = some r:=by first | (rw [hy113];with_reducible exact H) | (have H2_:=(Option.bind_some _ _).symm.trans H;rw [hy113];with_reducible exact H2_) | (have H2_:=(Option.bind_some _ _).symm.trans H;with_reducible exact H2_) | with_reducible exact H | (rw [hy113];exact H) | exact H
 have Ny113:=Aside0.mk hy113
 clear hy113
 obtain ⟨⟨t116,t117,t118,t119,t120,t121⟩,A30,H⟩:=Option.bind_eq_some_iff.mp H
 dsimp only at H
 have A3:=Aside0.mk A30
 clear A30
 obtain ⟨⟨t122,t123,t124,t125,t126,t127⟩,A40,H⟩:=Option.bind_eq_some_iff.mp H
 dsimp only at H
 have A4:=Aside0.mk A40
 clear A40
 obtain ⟨y128,hy128⟩ : ∃ y_ : List (S41),y_ = (([(⟨t122,(⟨t123,t124,t125,t126,t127⟩ : S24)⟩ : S41)] : List (S41))):=⟨_,rfl⟩
 replace H : ((Lw17_req.f (⟨#[99]⟩ : ByteArray) 2).bind fun bt131 => ((Lw17_req.f (⟨#[100]⟩ : ByteArray) 0).bind fun bt137 => ((Lw17_req.f (⟨#[98]⟩ : ByteArray) (-1)).bind fun bt146 => ((some (([(⟨(⟨t101,(⟨t102,t103,t104,t105,t106⟩ : S24)⟩ : S41),y113⟩ : S70),(⟨(⟨t116,(⟨t117,t118,t119,t120,t121⟩ : S24)⟩ : S41),y128⟩ : S70),(⟨(⟨bt131.1,(⟨bt131.2.1,bt131.2.2.1,bt131.2.2.2.1,bt131.2.2.2.2.1,bt131.2.2.2.2.2⟩ : S24)⟩ : S41),(([(⟨bt137.1,(⟨bt137.2.1,bt137.2.2.1,bt137.2.2.2.1,bt137.2.2.2.2.1,bt137.2.2.2.2.2⟩ : S24)⟩ : S41)] : List (S41)))⟩ : S70),(⟨(⟨bt146.1,(⟨bt146.2.1,bt146.2.2.1,bt146.2.2.2.1,bt146.2.2.2.2.1,bt146.2.2.2.2.2⟩ : S24)⟩ : S41),([] : List (S41))⟩ : S70)] : List (S70)) : List (S70))).bind fun y152 => ((Lw17_req.f (⟨#[98]⟩ : ByteArray) 0).bind fun bt155 => ((Lw17_req.f (⟨#[97]⟩ : ByteArray) 0).bind fun bt161 => ((some (([(⟨bt155.1,(⟨bt155.2.1,bt155.2.2.1,bt155.2.2.2.1,bt155.2.2.2.2.1,bt155.2.2.2.2.2⟩ : S24)⟩ : S41),(⟨bt161.1,(⟨bt161.2.1,bt161.2.2.1,bt161.2.2.2.1,bt161.2.2.2.2.1,bt161.2.2.2.2.2⟩ : S24)⟩ : S41)] : List (S41)) : List (S41))).bind fun y167 => ((mvs_List.f y167 y152).bind fun t170 => ((Lw17_req.f (⟨#[97]⟩ : ByteArray) 3).bind fun bt173 => ((mvs_Upgrade.f y167 bt173.1 bt173.2.1 bt173.2.2.1 bt173.2.2.2.1 bt173.2.2.2.2.1 bt173.2.2.2.2.2).bind fun t179 => ((Lw17_req.f (⟨#[99]⟩ : ByteArray) 1).bind fun bt182 => ((mvs_Downgrade.f k y167 y152 bt182.1 bt182.2.1 bt182.2.2.1 bt182.2.2.2.1 bt182.2.2.2.2.1 bt182.2.2.2.2.2).bind fun t188 => ((Lw17_req.f (⟨#[97]⟩ : ByteArray) 0).bind fun bt191 => ((Lw17_req.f (⟨#[98]⟩ : ByteArray) 0).bind fun bt197 => ((Lw17_req.f (⟨#[99]⟩ : ByteArray) 2).bind fun bt203 => ((Lw17_req.f (⟨#[100]⟩ : ByteArray) 0).bind fun bt209 => ((Rf17_Same.f k t170 (([(⟨bt191.1,(⟨bt191.2.1,bt191.2.2.1,bt191.2.2.2.1,bt191.2.2.2.2.1,bt191.2.2.2.2.2⟩ : S24)⟩ : S41),(⟨bt197.1,(⟨bt197.2.1,bt197.2.2.1,bt197.2.2.2.1,bt197.2.2.2.2.1,bt197.2.2.2.2.2⟩ : S24)⟩ : S41),(⟨bt203.1,(⟨bt203.2.1,bt203.2.2.1,bt203.2.2.2.1,bt203.2.2.2.2.1,bt203.2.2.2.2.2⟩ : S24)⟩ : S41),(⟨bt209.1,(⟨bt209.2.1,bt209.2.2.1,bt209.2.2.2.1,bt209.2.2.2.2.1,bt209.2.2.2.2.2⟩ : S24)⟩ : S41)] : List (S41)))).bind fun t218 => (if t218 = true then ((mvs_Reached.f y167 y152).bind fun t219 => (if (t219.length : Int) = 5 then ((Lw17_req.f (⟨#[98]⟩ : ByteArray) 0).bind fun bt222 => ((Lw17_req.f (⟨#[97]⟩ : ByteArray) 3).bind fun bt228 => ((Rf17_Same.f k t179 (([(⟨bt222.1,(⟨bt222.2.1,bt222.2.2.1,bt222.2.2.2.1,bt222.2.2.2.2.1,bt222.2.2.2.2.2⟩ : S24)⟩ : S41),(⟨bt228.1,(⟨bt228.2.1,bt228.2.2.1,bt228.2.2.2.1,bt228.2.2.2.2.1,bt228.2.2.2.2.2⟩ : S24)⟩ : S41)] : List (S41)))).bind fun t237 => (if t237 = true then ((Lw17_req.f (⟨#[97]⟩ : ByteArray) 0).bind fun bt238 => ((Rf17_Same.f k t188 (([(⟨bt238.1,(⟨bt238.2.1,bt238.2.2.1,bt238.2.2.2.1,bt238.2.2.2.2.1,bt238.2.2.2.2.2⟩ : S24)⟩ : S41)] : List (S41)))).bind fun t247 => (if t247 = true then ((Lw17_req.f (⟨#[122]⟩ : ByteArray) 0).bind fun bt248 => ((mvs_Upgrade.f y167 bt248.1 bt248.2.1 bt248.2.2.1 bt248.2.2.2.1 bt248.2.2.2.2.1 bt248.2.2.2.2.2).bind fun t254 => (if (t254.length : Int) = 3 then ((Lw17_req.f (⟨#[122]⟩ : ByteArray) (-1)).bind fun bt257 => ((mvs_Upgrade.f y167 bt257.1 bt257.2.1 bt257.2.2.1 bt257.2.2.2.1 bt257.2.2.2.2.1 bt257.2.2.2.2.2).bind fun t263 => (some ((t263.length : Int) == 2)))) else (some false)))) else (some false)))) else (some false))))) else (some false))) else (some false))))))))))))))))))) = some r:=by first | (rw [hy128];with_reducible exact H) | (have H2_:=(Option.bind_some _ _).symm.trans H;rw [hy128];with_reducible exact H2_) | (have H2_:=(Option.bind_some _ _).symm.trans H;with_reducible exact H2_) | with_reducible exact H | (rw [hy128];exact H) | exact H
 have Ny128:=Aside0.mk hy128
 clear hy128
 obtain ⟨⟨t131,t132,t133,t134,t135,t136⟩,A50,H⟩:=Option.bind_eq_some_iff.mp H
 dsimp only at H
 have A5:=Aside0.mk A50
 clear A50
 obtain ⟨⟨t137,t138,t139,t140,t141,t142⟩,A60,H⟩:=Option.bind_eq_some_iff.mp H
 dsimp only at H
 have A6:=Aside0.mk A60
 clear A60
 obtain ⟨y143,hy143⟩ : ∃ y_ : List (S41),y_ = (([(⟨t137,(⟨t138,t139,t140,t141,t142⟩ : S24)⟩ : S41)] : List (S41))):=⟨_,rfl⟩
 replace H : ((Lw17_req.f (⟨#[98]⟩ : ByteArray) (-1)).bind fun bt146 => ((some (([(⟨(⟨t101,(⟨t102,t103,t104,t105,t106⟩ : S24)⟩ : S41),y113⟩ : S70),(⟨(⟨t116,(⟨t117,t118,t119,t120,t121⟩ : S24)⟩ : S41),y128⟩ : S70),(⟨(⟨t131,(⟨t132,t133,t134,t135,t136⟩ : S24)⟩ : S41),y143⟩ : S70),(⟨(⟨bt146.1,(⟨bt146.2.1,bt146.2.2.1,bt146.2.2.2.1,bt146.2.2.2.2.1,bt146.2.2.2.2.2⟩ : S24)⟩ : S41),([] : List (S41))⟩ : S70)] : List (S70)) : List (S70))).bind fun y152 => ((Lw17_req.f (⟨#[98]⟩ : ByteArray) 0).bind fun bt155 => ((Lw17_req.f (⟨#[97]⟩ : ByteArray) 0).bind fun bt161 => ((some (([(⟨bt155.1,(⟨bt155.2.1,bt155.2.2.1,bt155.2.2.2.1,bt155.2.2.2.2.1,bt155.2.2.2.2.2⟩ : S24)⟩ : S41),(⟨bt161.1,(⟨bt161.2.1,bt161.2.2.1,bt161.2.2.2.1,bt161.2.2.2.2.1,bt161.2.2.2.2.2⟩ : S24)⟩ : S41)] : List (S41)) : List (S41))).bind fun y167 => ((mvs_List.f y167 y152).bind fun t170 => ((Lw17_req.f (⟨#[97]⟩ : ByteArray) 3).bind fun bt173 => ((mvs_Upgrade.f y167 bt173.1 bt173.2.1 bt173.2.2.1 bt173.2.2.2.1 bt173.2.2.2.2.1 bt173.2.2.2.2.2).bind fun t179 => ((Lw17_req.f (⟨#[99]⟩ : ByteArray) 1).bind fun bt182 => ((mvs_Downgrade.f k y167 y152 bt182.1 bt182.2.1 bt182.2.2.1 bt182.2.2.2.1 bt182.2.2.2.2.1 bt182.2.2.2.2.2).bind fun t188 => ((Lw17_req.f (⟨#[97]⟩ : ByteArray) 0).bind fun bt191 => ((Lw17_req.f (⟨#[98]⟩ : ByteArray) 0).bind fun bt197 => ((Lw17_req.f (⟨#[99]⟩ : ByteArray) 2).bind fun bt203 => ((Lw17_req.f (⟨#[100]⟩ : ByteArray) 0).bind fun bt209 => ((Rf17_Same.f k t170 (([(⟨bt191.1,(⟨bt191.2.1,bt191.2.2.1,bt191.2.2.2.1,bt191.2.2.2.2.1,bt191.2.2.2.2.2⟩ : S24)⟩ : S41),(⟨bt197.1,(⟨bt197.2.1,bt197.2.2.1,bt197.2.2.2.1,bt197.2.2.2.2.1,bt197.2.2.2.2.2⟩ : S24)⟩ : S41),(⟨bt203.1,(⟨bt203.2.1,bt203.2.2.1,bt203.2.2.2.1,bt203.2.2.2.2.1,bt203.2.2.2.2.2⟩ : S24)⟩ : S41),(⟨bt209.1,(⟨bt209.2.1,bt209.2.2.1,bt209.2.2.2.1,bt209.2.2.2.2.1,bt209.2.2.2.2.2⟩ : S24)⟩ : S41)] : List (S41)))).bind fun t218 => (if t218 = true then ((mvs_Reached.f y167 y152).bind fun t219 => (if (t219.length : Int) = 5 then ((Lw17_req.f (⟨#[98]⟩ : ByteArray) 0).bind fun bt222 => ((Lw17_req.f (⟨#[97]⟩ : ByteArray) 3).bind fun bt228 => ((Rf17_Same.f k t179 (([(⟨bt222.1,(⟨bt222.2.1,bt222.2.2.1,bt222.2.2.2.1,bt222.2.2.2.2.1,bt222.2.2.2.2.2⟩ : S24)⟩ : S41),(⟨bt228.1,(⟨bt228.2.1,bt228.2.2.1,bt228.2.2.2.1,bt228.2.2.2.2.1,bt228.2.2.2.2.2⟩ : S24)⟩ : S41)] : List (S41)))).bind fun t237 => (if t237 = true then ((Lw17_req.f (⟨#[97]⟩ : ByteArray) 0).bind fun bt238 => ((Rf17_Same.f k t188 (([(⟨bt238.1,(⟨bt238.2.1,bt238.2.2.1,bt238.2.2.2.1,bt238.2.2.2.2.1,bt238.2.2.2.2.2⟩ : S24)⟩ : S41)] : List (S41)))).bind fun t247 => (if t247 = true then ((Lw17_req.f (⟨#[122]⟩ : ByteArray) 0).bind fun bt248 => ((mvs_Upgrade.f y167 bt248.1 bt248.2.1 bt248.2.2.1 bt248.2.2.2.1 bt248.2.2.2.2.1 bt248.2.2.2.2.2).bind fun t254 => (if (t254.length : Int) = 3 then ((Lw17_req.f (⟨#[122]⟩ : ByteArray) (-1)).bind fun bt257 => ((mvs_Upgrade.f y167 bt257.1 bt257.2.1 bt257.2.2.1 bt257.2.2.2.1 bt257.2.2.2.2.1 bt257.2.2.2.2.2).bind fun t263 => (some ((t263.length : Int) == 2)))) else (some false)))) else (some false)))) else (some false))))) else (some false))) else (some false))))))))))))))))) = some r:=by first | (rw [hy143];with_reducible exact H) | (have H2_:=(Option.bind_some _ _).symm.trans H;rw [hy143];with_reducible exact H2_) | (have H2_:=(Option.bind_some _ _).symm.trans H;with_reducible exact H2_) | with_reducible exact H | (rw [hy143];exact H) | exact H
 have Ny143:=Aside0.mk hy143
 clear hy143
 obtain ⟨⟨t146,t147,t148,t149,t150,t151⟩,A70,H⟩:=Option.bind_eq_some_iff.mp H
 dsimp only at H
 have A7:=Aside0.mk A70
 clear A70
 obtain ⟨y152,hy152⟩ : ∃ y_ : List (S70),y_ = (([(⟨(⟨t101,(⟨t102,t103,t104,t105,t106⟩ : S24)⟩ : S41),y113⟩ : S70),(⟨(⟨t116,(⟨t117,t118,t119,t120,t121⟩ : S24)⟩ : S41),y128⟩ : S70),(⟨(⟨t131,(⟨t132,t133,t134,t135,t136⟩ : S24)⟩ : S41),y143⟩ : S70),(⟨(⟨t146,(⟨t147,t148,t149,t150,t151⟩ : S24)⟩ : S41),([] : List (S41))⟩ : S70)] : List (S70))):=⟨_,rfl⟩
 replace H : ((Lw17_req.f (⟨#[98]⟩ : ByteArray) 0).bind fun bt155 => ((Lw17_req.f (⟨#[97]⟩ : ByteArray) 0).bind fun bt161 => ((some (([(⟨bt155.1,(⟨bt155.2.1,bt155.2.2.1,bt155.2.2.2.1,bt155.2.2.2.2.1,bt155.2.2.2.2.2⟩ : S24)⟩ : S41),(⟨bt161.1,(⟨bt161.2.1,bt161.2.2.1,bt161.2.2.2.1,bt161.2.2.2.2.1,bt161.2.2.2.2.2⟩ : S24)⟩ : S41)] : List (S41)) : List (S41))).bind fun y167 => ((mvs_List.f y167 y152).bind fun t170 => ((Lw17_req.f (⟨#[97]⟩ : ByteArray) 3).bind fun bt173 => ((mvs_Upgrade.f y167 bt173.1 bt173.2.1 bt173.2.2.1 bt173.2.2.2.1 bt173.2.2.2.2.1 bt173.2.2.2.2.2).bind fun t179 => ((Lw17_req.f (⟨#[99]⟩ : ByteArray) 1).bind fun bt182 => ((mvs_Downgrade.f k y167 y152 bt182.1 bt182.2.1 bt182.2.2.1 bt182.2.2.2.1 bt182.2.2.2.2.1 bt182.2.2.2.2.2).bind fun t188 => ((Lw17_req.f (⟨#[97]⟩ : ByteArray) 0).bind fun bt191 => ((Lw17_req.f (⟨#[98]⟩ : ByteArray) 0).bind fun bt197 => ((Lw17_req.f (⟨#[99]⟩ : ByteArray) 2).bind fun bt203 => ((Lw17_req.f (⟨#[100]⟩ : ByteArray) 0).bind fun bt209 => ((Rf17_Same.f k t170 (([(⟨bt191.1,(⟨bt191.2.1,bt191.2.2.1,bt191.2.2.2.1,bt191.2.2.2.2.1,bt191.2.2.2.2.2⟩ : S24)⟩ : S41),(⟨bt197.1,(⟨bt197.2.1,bt197.2.2.1,bt197.2.2.2.1,bt197.2.2.2.2.1,bt197.2.2.2.2.2⟩ : S24)⟩ : S41),(⟨bt203.1,(⟨bt203.2.1,bt203.2.2.1,bt203.2.2.2.1,bt203.2.2.2.2.1,bt203.2.2.2.2.2⟩ : S24)⟩ : S41),(⟨bt209.1,(⟨bt209.2.1,bt209.2.2.1,bt209.2.2.2.1,bt209.2.2.2.2.1,bt209.2.2.2.2.2⟩ : S24)⟩ : S41)] : List (S41)))).bind fun t218 => (if t218 = true then ((mvs_Reached.f y167 y152).bind fun t219 => (if (t219.length : Int) = 5 then ((Lw17_req.f (⟨#[98]⟩ : ByteArray) 0).bind fun bt222 => ((Lw17_req.f (⟨#[97]⟩ : ByteArray) 3).bind fun bt228 => ((Rf17_Same.f k t179 (([(⟨bt222.1,(⟨bt222.2.1,bt222.2.2.1,bt222.2.2.2.1,bt222.2.2.2.2.1,bt222.2.2.2.2.2⟩ : S24)⟩ : S41),(⟨bt228.1,(⟨bt228.2.1,bt228.2.2.1,bt228.2.2.2.1,bt228.2.2.2.2.1,bt228.2.2.2.2.2⟩ : S24)⟩ : S41)] : List (S41)))).bind fun t237 => (if t237 = true then ((Lw17_req.f (⟨#[97]⟩ : ByteArray) 0).bind fun bt238 => ((Rf17_Same.f k t188 (([(⟨bt238.1,(⟨bt238.2.1,bt238.2.2.1,bt238.2.2.2.1,bt238.2.2.2.2.1,bt238.2.2.2.2.2⟩ : S24)⟩ : S41)] : List (S41)))).bind fun t247 => (if t247 = true then ((Lw17_req.f (⟨#[122]⟩ : ByteArray) 0).bind fun bt248 => ((mvs_Upgrade.f y167 bt248.1 bt248.2.1 bt248.2.2.1 bt248.2.2.2.1 bt248.2.2.2.2.1 bt248.2.2.2.2.2).bind fun t254 => (if (t254.length : Int) = 3 then ((Lw17_req.f (⟨#[122]⟩ : ByteArray) (-1)).bind fun bt257 => ((mvs_Upgrade.f y167 bt257.1 bt257.2.1 bt257.2.2.1 bt257.2.2.2.1 bt257.2.2.2.2.1 bt257.2.2.2.2.2).bind fun t263 => (some ((t263.length : Int) == 2)))) else (some false)))) else (some false)))) else (some false))))) else (some false))) else (some false))))))))))))))) = some r:=by first | (rw [hy152];with_reducible exact H) | (have H2_:=(Option.bind_some _ _).symm.trans H;rw [hy152];with_reducible exact H2_) | (have H2_:=(Option.bind_some _ _).symm.trans H;with_reducible exact H2_) | with_reducible exact H | (rw [hy152];exact H) | exact H
 have Ny152:=Aside0.mk hy152
 clear hy152
 obtain ⟨⟨t155,t156,t157,t158,t159,t160⟩,A80,H⟩:=Option.bind_eq_some_iff.mp H
 dsimp only at H
 have A8:=Aside0.mk A80
 clear A80
 obtain ⟨⟨t161,t162,t163,t164,t165,t166⟩,A90,H⟩:=Option.bind_eq_some_iff.mp H
 dsimp only at H
 have A9:=Aside0.mk A90
 clear A90
 obtain ⟨y167,hy167⟩ : ∃ y_ : List (S41),y_ = (([(⟨t155,(⟨t156,t157,t158,t159,t160⟩ : S24)⟩ : S41),(⟨t161,(⟨t162,t163,t164,t165,t166⟩ : S24)⟩ : S41)] : List (S41))):=⟨_,rfl⟩
 replace H : ((mvs_List.f y167 y152).bind fun t170 => ((Lw17_req.f (⟨#[97]⟩ : ByteArray) 3).bind fun bt173 => ((mvs_Upgrade.f y167 bt173.1 bt173.2.1 bt173.2.2.1 bt173.2.2.2.1 bt173.2.2.2.2.1 bt173.2.2.2.2.2).bind fun t179 => ((Lw17_req.f (⟨#[99]⟩ : ByteArray) 1).bind fun bt182 => ((mvs_Downgrade.f k y167 y152 bt182.1 bt182.2.1 bt182.2.2.1 bt182.2.2.2.1 bt182.2.2.2.2.1 bt182.2.2.2.2.2).bind fun t188 => ((Lw17_req.f (⟨#[97]⟩ : ByteArray) 0).bind fun bt191 => ((Lw17_req.f (⟨#[98]⟩ : ByteArray) 0).bind fun bt197 => ((Lw17_req.f (⟨#[99]⟩ : ByteArray) 2).bind fun bt203 => ((Lw17_req.f (⟨#[100]⟩ : ByteArray) 0).bind fun bt209 => ((Rf17_Same.f k t170 (([(⟨bt191.1,(⟨bt191.2.1,bt191.2.2.1,bt191.2.2.2.1,bt191.2.2.2.2.1,bt191.2.2.2.2.2⟩ : S24)⟩ : S41),(⟨bt197.1,(⟨bt197.2.1,bt197.2.2.1,bt197.2.2.2.1,bt197.2.2.2.2.1,bt197.2.2.2.2.2⟩ : S24)⟩ : S41),(⟨bt203.1,(⟨bt203.2.1,bt203.2.2.1,bt203.2.2.2.1,bt203.2.2.2.2.1,bt203.2.2.2.2.2⟩ : S24)⟩ : S41),(⟨bt209.1,(⟨bt209.2.1,bt209.2.2.1,bt209.2.2.2.1,bt209.2.2.2.2.1,bt209.2.2.2.2.2⟩ : S24)⟩ : S41)] : List (S41)))).bind fun t218 => (if t218 = true then ((mvs_Reached.f y167 y152).bind fun t219 => (if (t219.length : Int) = 5 then ((Lw17_req.f (⟨#[98]⟩ : ByteArray) 0).bind fun bt222 => ((Lw17_req.f (⟨#[97]⟩ : ByteArray) 3).bind fun bt228 => ((Rf17_Same.f k t179 (([(⟨bt222.1,(⟨bt222.2.1,bt222.2.2.1,bt222.2.2.2.1,bt222.2.2.2.2.1,bt222.2.2.2.2.2⟩ : S24)⟩ : S41),(⟨bt228.1,(⟨bt228.2.1,bt228.2.2.1,bt228.2.2.2.1,bt228.2.2.2.2.1,bt228.2.2.2.2.2⟩ : S24)⟩ : S41)] : List (S41)))).bind fun t237 => (if t237 = true then ((Lw17_req.f (⟨#[97]⟩ : ByteArray) 0).bind fun bt238 => ((Rf17_Same.f k t188 (([(⟨bt238.1,(⟨bt238.2.1,bt238.2.2.1,bt238.2.2.2.1,bt238.2.2.2.2.1,bt238.2.2.2.2.2⟩ : S24)⟩ : S41)] : List (S41)))).bind fun t247 => (if t247 = true then ((Lw17_req.f (⟨#[122]⟩ : ByteArray) 0).bind fun bt248 => ((mvs_Upgrade.f y167 bt248.1 bt248.2.1 bt248.2.2.1 bt248.2.2.2.1 bt248.2.2.2.2.1 bt248.2.2.2.2.2).bind fun t254 => (if (t254.length : Int) = 3 then ((Lw17_req.f (⟨#[122]⟩ : ByteArray) (-1)).bind fun bt257 => ((mvs_Upgrade.f y167 bt257.1 bt257.2.1 bt257.2.2.1 bt257.2.2.2.1 bt257.2.2.2.2.1 bt257.2.2.2.2.2).bind fun t263 => (some ((t263.length : Int) == 2)))) else (some false)))) else (some false)))) else (some false))))) else (some false))) else (some false)))))))))))) = some r:=by first | (rw [hy167];with_reducible exact H) | (have H2_:=(Option.bind_some _ _).symm.trans H;rw [hy167];with_reducible exact H2_) | (have H2_:=(Option.bind_some _ _).symm.trans H;with_reducible exact H2_) | with_reducible exact H | (rw [hy167];exact H) | exact H
 have Ny167:=Aside0.mk hy167
 clear hy167
 obtain ⟨t170,A100,H⟩:=Option.bind_eq_some_iff.mp H
 have A10:=Aside0.mk A100
 clear A100
 obtain ⟨⟨t173,t174,t175,t176,t177,t178⟩,A110,H⟩:=Option.bind_eq_some_iff.mp H
 dsimp only at H
 have A11:=Aside0.mk A110
 clear A110
 obtain ⟨t179,A120,H⟩:=Option.bind_eq_some_iff.mp H
 have A12:=Aside0.mk A120
 clear A120
 obtain ⟨⟨t182,t183,t184,t185,t186,t187⟩,A130,H⟩:=Option.bind_eq_some_iff.mp H
 dsimp only at H
 have A13:=Aside0.mk A130
 clear A130
 obtain ⟨t188,A140,H⟩:=Option.bind_eq_some_iff.mp H
 have A14:=Aside0.mk A140
 clear A140
 obtain ⟨⟨t191,t192,t193,t194,t195,t196⟩,A150,H⟩:=Option.bind_eq_some_iff.mp H
 dsimp only at H
 have A15:=Aside0.mk A150
 clear A150
 obtain ⟨⟨t197,t198,t199,t200,t201,t202⟩,A160,H⟩:=Option.bind_eq_some_iff.mp H
 dsimp only at H
 have A16:=Aside0.mk A160
 clear A160
 obtain ⟨⟨t203,t204,t205,t206,t207,t208⟩,A170,H⟩:=Option.bind_eq_some_iff.mp H
 dsimp only at H
 have A17:=Aside0.mk A170
 clear A170
 obtain ⟨⟨t209,t210,t211,t212,t213,t214⟩,A180,H⟩:=Option.bind_eq_some_iff.mp H
 dsimp only at H
 have A18:=Aside0.mk A180
 clear A180
 obtain ⟨y215,hy215⟩ : ∃ y_ : List (S41),y_ = (([(⟨t191,(⟨t192,t193,t194,t195,t196⟩ : S24)⟩ : S41),(⟨t197,(⟨t198,t199,t200,t201,t202⟩ : S24)⟩ : S41),(⟨t203,(⟨t204,t205,t206,t207,t208⟩ : S24)⟩ : S41),(⟨t209,(⟨t210,t211,t212,t213,t214⟩ : S24)⟩ : S41)] : List (S41))):=⟨_,rfl⟩
 replace H : ((Rf17_Same.f k t170 y215).bind fun t218 => (if t218 = true then ((mvs_Reached.f y167 y152).bind fun t219 => (if (t219.length : Int) = 5 then ((Lw17_req.f (⟨#[98]⟩ : ByteArray) 0).bind fun bt222 => ((Lw17_req.f (⟨#[97]⟩ : ByteArray) 3).bind fun bt228 => ((Rf17_Same.f k t179 (([(⟨bt222.1,(⟨bt222.2.1,bt222.2.2.1,bt222.2.2.2.1,bt222.2.2.2.2.1,bt222.2.2.2.2.2⟩ : S24)⟩ : S41),(⟨bt228.1,(⟨bt228.2.1,bt228.2.2.1,bt228.2.2.2.1,bt228.2.2.2.2.1,bt228.2.2.2.2.2⟩ : S24)⟩ : S41)] : List (S41)))).bind fun t237 => (if t237 = true then ((Lw17_req.f (⟨#[97]⟩ : ByteArray) 0).bind fun bt238 => ((Rf17_Same.f k t188 (([(⟨bt238.1,(⟨bt238.2.1,bt238.2.2.1,bt238.2.2.2.1,bt238.2.2.2.2.1,bt238.2.2.2.2.2⟩ : S24)⟩ : S41)] : List (S41)))).bind fun t247 => (if t247 = true then ((Lw17_req.f (⟨#[122]⟩ : ByteArray) 0).bind fun bt248 => ((mvs_Upgrade.f y167 bt248.1 bt248.2.1 bt248.2.2.1 bt248.2.2.2.1 bt248.2.2.2.2.1 bt248.2.2.2.2.2).bind fun t254 => (if (t254.length : Int) = 3 then ((Lw17_req.f (⟨#[122]⟩ : ByteArray) (-1)).bind fun bt257 => ((mvs_Upgrade.f y167 bt257.1 bt257.2.1 bt257.2.2.1 bt257.2.2.2.1 bt257.2.2.2.2.1 bt257.2.2.2.2.2).bind fun t263 => (some ((t263.length : Int) == 2)))) else (some false)))) else (some false)))) else (some false))))) else (some false))) else (some false))) = some r:=by first | (rw [hy215];with_reducible exact H) | (have H2_:=(Option.bind_some _ _).symm.trans H;rw [hy215];with_reducible exact H2_) | (have H2_:=(Option.bind_some _ _).symm.trans H;with_reducible exact H2_) | with_reducible exact H | (rw [hy215];exact H) | exact H
 have Ny215:=Aside0.mk hy215
 clear hy215
 obtain ⟨t218,A190,H⟩:=Option.bind_eq_some_iff.mp H
 have A19:=Aside0.mk A190
 clear A190
 by_cases c20 : t218 = true
 ·subst c20
  rw [if_pos rfl] at H
  obtain ⟨t219,A210,H⟩:=Option.bind_eq_some_iff.mp H
  have A21:=Aside0.mk A210
  clear A210
  by_cases c22 : (t219.length : Int) = 5
  ·rw [if_pos c22] at H
   have c22b0:=beq_iff_eq.mpr c22
   have c22b1:=bne_eq_false_iff_eq.mpr c22
   clear c22
   obtain ⟨⟨t222,t223,t224,t225,t226,t227⟩,A230,H⟩:=Option.bind_eq_some_iff.mp H
   dsimp only at H
   have A23:=Aside0.mk A230
   clear A230
   obtain ⟨⟨t228,t229,t230,t231,t232,t233⟩,A240,H⟩:=Option.bind_eq_some_iff.mp H
   dsimp only at H
   have A24:=Aside0.mk A240
   clear A240
   obtain ⟨y234,hy234⟩ : ∃ y_ : List (S41),y_ = (([(⟨t222,(⟨t223,t224,t225,t226,t227⟩ : S24)⟩ : S41),(⟨t228,(⟨t229,t230,t231,t232,t233⟩ : S24)⟩ : S41)] : List (S41))):=⟨_,rfl⟩
   replace H : ((Rf17_Same.f k t179 y234).bind fun t237 => (if t237 = true then ((Lw17_req.f (⟨#[97]⟩ : ByteArray) 0).bind fun bt238 => ((Rf17_Same.f k t188 (([(⟨bt238.1,(⟨bt238.2.1,bt238.2.2.1,bt238.2.2.2.1,bt238.2.2.2.2.1,bt238.2.2.2.2.2⟩ : S24)⟩ : S41)] : List (S41)))).bind fun t247 => (if t247 = true then ((Lw17_req.f (⟨#[122]⟩ : ByteArray) 0).bind fun bt248 => ((mvs_Upgrade.f y167 bt248.1 bt248.2.1 bt248.2.2.1 bt248.2.2.2.1 bt248.2.2.2.2.1 bt248.2.2.2.2.2).bind fun t254 => (if (t254.length : Int) = 3 then ((Lw17_req.f (⟨#[122]⟩ : ByteArray) (-1)).bind fun bt257 => ((mvs_Upgrade.f y167 bt257.1 bt257.2.1 bt257.2.2.1 bt257.2.2.2.1 bt257.2.2.2.2.1 bt257.2.2.2.2.2).bind fun t263 => (some ((t263.length : Int) == 2)))) else (some false)))) else (some false)))) else (some false))) = some r:=by first | (rw [hy234];with_reducible exact H) | (have H2_:=(Option.bind_some _ _).symm.trans H;rw [hy234];with_reducible exact H2_) | (have H2_:=(Option.bind_some _ _).symm.trans H;with_reducible exact H2_) | with_reducible exact H | (rw [hy234];exact H) | exact H
   have Ny234:=Aside0.mk hy234
   clear hy234
   obtain ⟨t237,A250,H⟩:=Option.bind_eq_some_iff.mp H
   have A25:=Aside0.mk A250
   clear A250
   by_cases c26 : t237 = true
   ·subst c26
    rw [if_pos rfl] at H
    obtain ⟨⟨t238,t239,t240,t241,t242,t243⟩,A270,H⟩:=Option.bind_eq_some_iff.mp H
    dsimp only at H
    have A27:=Aside0.mk A270
    clear A270
    obtain ⟨y244,hy244⟩ : ∃ y_ : List (S41),y_ = (([(⟨t238,(⟨t239,t240,t241,t242,t243⟩ : S24)⟩ : S41)] : List (S41))):=⟨_,rfl⟩
    replace H : ((Rf17_Same.f k t188 y244).bind fun t247 => (if t247 = true then ((Lw17_req.f (⟨#[122]⟩ : ByteArray) 0).bind fun bt248 => ((mvs_Upgrade.f y167 bt248.1 bt248.2.1 bt248.2.2.1 bt248.2.2.2.1 bt248.2.2.2.2.1 bt248.2.2.2.2.2).bind fun t254 => (if (t254.length : Int) = 3 then ((Lw17_req.f (⟨#[122]⟩ : ByteArray) (-1)).bind fun bt257 => ((mvs_Upgrade.f y167 bt257.1 bt257.2.1 bt257.2.2.1 bt257.2.2.2.1 bt257.2.2.2.2.1 bt257.2.2.2.2.2).bind fun t263 => (some ((t263.length : Int) == 2)))) else (some false)))) else (some false))) = some r:=by first | (rw [hy244];with_reducible exact H) | (have H2_:=(Option.bind_some _ _).symm.trans H;rw [hy244];with_reducible exact H2_) | (have H2_:=(Option.bind_some _ _).symm.trans H;with_reducible exact H2_) | with_reducible exact H | (rw [hy244];exact H) | exact H
    have Ny244:=Aside0.mk hy244
    clear hy244
    obtain ⟨t247,A280,H⟩:=Option.bind_eq_some_iff.mp H
    have A28:=Aside0.mk A280
    clear A280
    by_cases c29 : t247 = true
    ·subst c29
     rw [if_pos rfl] at H
     obtain ⟨⟨t248,t249,t250,t251,t252,t253⟩,A300,H⟩:=Option.bind_eq_some_iff.mp H
     dsimp only at H
     have A30:=Aside0.mk A300
     clear A300
     obtain ⟨t254,A310,H⟩:=Option.bind_eq_some_iff.mp H
     have A31:=Aside0.mk A310
     clear A310
     by_cases c32 : (t254.length : Int) = 3
     ·rw [if_pos c32] at H
      have c32b0:=beq_iff_eq.mpr c32
      have c32b1:=bne_eq_false_iff_eq.mpr c32
      clear c32
      obtain ⟨⟨t257,t258,t259,t260,t261,t262⟩,A330,H⟩:=Option.bind_eq_some_iff.mp H
      dsimp only at H
      have A33:=Aside0.mk A330
      clear A330
      obtain ⟨t263,A340,H⟩:=Option.bind_eq_some_iff.mp H
      have A34:=Aside0.mk A340
      clear A340
      obtain rfl:=Option.some.inj H
      go_enter Tryz.func22,Tryz.ntmps22
      go_wp2_with (first | ((with_reducible refine gate_callee (f:=46) rfl ?_);refine gl_ 6 Tryz.func46 #[.string (⟨#[97]⟩ : ByteArray),.int .i64 0] ?_;(with_reducible refine (Lw17_req.calls (⟨#[97]⟩ : ByteArray) 0 t101 t102 t103 t104 t105 t106 _ A1.out).mono ?_);rintro e w35 ⟨rfl,hb⟩;refine ⟨_,rfl,?_⟩;replace HB:=Aside0.mk (below_step bh_ hb);(try clear hb)) | ((with_reducible refine gate_callee (f:=46) rfl ?_);refine gl_ 7 Tryz.func46 #[.string (⟨#[99]⟩ : ByteArray),.int .i64 1] ?_;(with_reducible refine (Lw17_req.calls (⟨#[99]⟩ : ByteArray) 1 t107 t108 t109 t110 t111 t112 _ A2.out).mono ?_);rintro e w36 ⟨rfl,hb⟩;refine ⟨_,rfl,?_⟩;replace HB:=Aside0.mk (below_step bh_ hb);(try clear hb)) | ((with_reducible refine gate_dst (N:=8) rfl ?_);(try (refine gate_guard q55_ ?_;dsimp only));refine Kd.R_lit k41 _ 41 ?hg (N:=8) ?hd (xs:=([(⟨t107,(⟨t108,t109,t110,t111,t112⟩ : S24)⟩ : S41)] : List (S41))) (inner:=[.string t107,.int .i64 t108,.int .i64 t109,.int .i64 t110,.string t111,.string t112]) (ok:=fun _ => True) (okp:=fun _ => True) ?hr ?hp (fun _ hk => hk) trivial (Below.refl _ _) (Nat.le_refl _) q25_ ?_;(case hd => rfl);(case hg => rfl);(case hr => first | (go_simp;done) | (go_simp;rfl));(case hp => exact (Reps.c6 (show Kd.M k41 _ _ _ (⟨t107,(⟨t108,t109,t110,t111,t112⟩ : S24)⟩ : S41) [.string t107,.int .i64 t108,.int .i64 t109,.int .i64 t110,.string t111,.string t112] from (k41_mkM _ _ _ (⟨t107,(⟨t108,t109,t110,t111,t112⟩ : S24)⟩ : S41) )) (Reps.none _ _)));intro v114 w37 ho38 hb hg_ hnew_;clear hg_ hnew_;(first | rw [← Ny113.out] at ho38 | (simp only [Int.reduceToNat] at ho38;rw [← Ny113.out] at ho38));have HO115:=Aside0.mk (Kd.R_lower ho38 (below_size bh_));replace HB:=Aside0.mk (below_step bh_ hb);clear hb ho38;obtain ⟨Ao39,co39,eo39⟩:=Kd.R_slice HO115.out;subst eo39) | ((with_reducible refine gate_callee (f:=46) rfl ?_);refine gl_ 10 Tryz.func46 #[.string (⟨#[98]⟩ : ByteArray),.int .i64 0] ?_;(with_reducible refine (Lw17_req.calls (⟨#[98]⟩ : ByteArray) 0 t116 t117 t118 t119 t120 t121 _ A3.out).mono ?_);rintro e w40 ⟨rfl,hb⟩;refine ⟨_,rfl,?_⟩;replace HO115:=Aside0.mk (Kd.R_below q24_ hb);replace HB:=Aside0.mk (below_step bh_ hb);(try clear hb)) | ((with_reducible refine gate_callee (f:=46) rfl ?_);refine gl_ 11 Tryz.func46 #[.string (⟨#[99]⟩ : ByteArray),.int .i64 2] ?_;(with_reducible refine (Lw17_req.calls (⟨#[99]⟩ : ByteArray) 2 t122 t123 t124 t125 t126 t127 _ A4.out).mono ?_);rintro e w41 ⟨rfl,hb⟩;refine ⟨_,rfl,?_⟩;replace HO115:=Aside0.mk (Kd.R_below q24_ hb);replace HB:=Aside0.mk (below_step bh_ hb);(try clear hb)) | ((with_reducible refine gate_dst (N:=12) rfl ?_);(try (refine gate_guard q55_ ?_;dsimp only));refine Kd.R_lit k41 _ 41 ?hg (N:=12) ?hd (xs:=([(⟨t122,(⟨t123,t124,t125,t126,t127⟩ : S24)⟩ : S41)] : List (S41))) (inner:=[.string t122,.int .i64 t123,.int .i64 t124,.int .i64 t125,.string t126,.string t127]) (ok:=fun _ => True) (okp:=fun _ => True) ?hr ?hp (fun _ hk => hk) trivial (Below.refl _ _) (Nat.le_refl _) q25_ ?_;(case hd => rfl);(case hg => rfl);(case hr => first | (go_simp;done) | (go_simp;rfl));(case hp => exact (Reps.c6 (show Kd.M k41 _ _ _ (⟨t122,(⟨t123,t124,t125,t126,t127⟩ : S24)⟩ : S41) [.string t122,.int .i64 t123,.int .i64 t124,.int .i64 t125,.string t126,.string t127] from (k41_mkM _ _ _ (⟨t122,(⟨t123,t124,t125,t126,t127⟩ : S24)⟩ : S41) )) (Reps.none _ _)));intro v129 w42 ho43 hb hg_ hnew_;clear hg_ hnew_;(first | rw [← Ny128.out] at ho43 | (simp only [Int.reduceToNat] at ho43;rw [← Ny128.out] at ho43));have HO130:=Aside0.mk (Kd.R_lower (Kd.R_new' ho43 (Kd.R_lt q24_)) (below_size bh_));replace HO115:=Aside0.mk (Kd.R_elder' q24_ (Kd.R_base ho43) hb);replace HB:=Aside0.mk (below_step bh_ hb);clear hb ho43;obtain ⟨Ao44,co44,eo44⟩:=Kd.R_slice HO130.out;subst eo44) | ((with_reducible refine gate_callee (f:=46) rfl ?_);refine gl_ 14 Tryz.func46 #[.string (⟨#[99]⟩ : ByteArray),.int .i64 2] ?_;(with_reducible refine (Lw17_req.calls (⟨#[99]⟩ : ByteArray) 2 t131 t132 t133 t134 t135 t136 _ A5.out).mono ?_);rintro e w45 ⟨rfl,hb⟩;refine ⟨_,rfl,?_⟩;replace HO115:=Aside0.mk (Kd.R_below q24_ hb);replace HO130:=Aside0.mk (Kd.R_below q35_ hb);replace HB:=Aside0.mk (below_step bh_ hb);(try clear hb)) | ((with_reducible refine gate_callee (f:=46) rfl ?_);refine gl_ 15 Tryz.func46 #[.string (⟨#[100]⟩ : ByteArray),.int .i64 0] ?_;(with_reducible refine (Lw17_req.calls (⟨#[100]⟩ : ByteArray) 0 t137 t138 t139 t140 t141 t142 _ A6.out).mono ?_);rintro e w46 ⟨rfl,hb⟩;refine ⟨_,rfl,?_⟩;replace HO115:=Aside0.mk (Kd.R_below q24_ hb);replace HO130:=Aside0.mk (Kd.R_below q35_ hb);replace HB:=Aside0.mk (below_step bh_ hb);(try clear hb)) | ((with_reducible refine gate_dst (N:=16) rfl ?_);(try (refine gate_guard q55_ ?_;dsimp only));refine Kd.R_lit k41 _ 41 ?hg (N:=16) ?hd (xs:=([(⟨t137,(⟨t138,t139,t140,t141,t142⟩ : S24)⟩ : S41)] : List (S41))) (inner:=[.string t137,.int .i64 t138,.int .i64 t139,.int .i64 t140,.string t141,.string t142]) (ok:=fun _ => True) (okp:=fun _ => True) ?hr ?hp (fun _ hk => hk) trivial (Below.refl _ _) (Nat.le_refl _) q25_ ?_;(case hd => rfl);(case hg => rfl);(case hr => first | (go_simp;done) | (go_simp;rfl));(case hp => exact (Reps.c6 (show Kd.M k41 _ _ _ (⟨t137,(⟨t138,t139,t140,t141,t142⟩ : S24)⟩ : S41) [.string t137,.int .i64 t138,.int .i64 t139,.int .i64 t140,.string t141,.string t142] from (k41_mkM _ _ _ (⟨t137,(⟨t138,t139,t140,t141,t142⟩ : S24)⟩ : S41) )) (Reps.none _ _)));intro v144 w47 ho48 hb hg_ hnew_;clear hg_ hnew_;(first | rw [← Ny143.out] at ho48 | (simp only [Int.reduceToNat] at ho48;rw [← Ny143.out] at ho48));have HO145:=Aside0.mk (Kd.R_lower (Kd.R_new' (Kd.R_new' ho48 (Kd.R_lt q24_)) (Kd.R_lt q35_)) (below_size bh_));replace HO115:=Aside0.mk (Kd.R_elder' q24_ (Kd.R_base ho48) hb);replace HO130:=Aside0.mk (Kd.R_elder' q35_ (Kd.R_base ho48) hb);replace HB:=Aside0.mk (below_step bh_ hb);clear hb ho48;obtain ⟨Ao49,co49,eo49⟩:=Kd.R_slice HO145.out;subst eo49) | ((with_reducible refine gate_callee (f:=46) rfl ?_);refine gl_ 18 Tryz.func46 #[.string (⟨#[98]⟩ : ByteArray),.int .i64 (-1)] ?_;(with_reducible refine (Lw17_req.calls (⟨#[98]⟩ : ByteArray) (-1) t146 t147 t148 t149 t150 t151 _ A7.out).mono ?_);rintro e w50 ⟨rfl,hb⟩;refine ⟨_,rfl,?_⟩;replace HO115:=Aside0.mk (Kd.R_below q24_ hb);replace HO130:=Aside0.mk (Kd.R_below q35_ hb);replace HO145:=Aside0.mk (Kd.R_below (by (with_reducible repeat (first | apply Kd.R_alloc | apply Kd.R_drewN | apply Kd.R_drew));exact HO145.out) hb);replace HB:=Aside0.mk (below_step bh_ hb);(try clear hb)) | ((with_reducible refine gate_dst (N:=20) rfl ?_);(try (refine gate_guard q55_ ?_;dsimp only));refine Kd.N_lit k70 _ 70 ?hg (N':=20) ?hd (xs:=([(⟨(⟨t101,(⟨t102,t103,t104,t105,t106⟩ : S24)⟩ : S41),y113⟩ : S70),(⟨(⟨t116,(⟨t117,t118,t119,t120,t121⟩ : S24)⟩ : S41),y128⟩ : S70),(⟨(⟨t131,(⟨t132,t133,t134,t135,t136⟩ : S24)⟩ : S41),y143⟩ : S70),(⟨(⟨t146,(⟨t147,t148,t149,t150,t151⟩ : S24)⟩ : S41),([] : List (S41))⟩ : S70)] : List (S70))) (inner:=[.string t101,.int .i64 t102,.int .i64 t103,.int .i64 t104,.string t105,.string t106,.slice Ao39 y113.length co39,.string t116,.int .i64 t117,.int .i64 t118,.int .i64 t119,.string t120,.string t121,.slice Ao44 y128.length co44,.string t131,.int .i64 t132,.int .i64 t133,.int .i64 t134,.string t135,.string t136,.slice Ao49 y143.length co49,.string t146,.int .i64 t147,.int .i64 t148,.int .i64 t149,.string t150,.string t151,.slice none 0 0]) (ok:=(fun _ => True)) (okp:=(fun _ => True)) ?hr ?hp (fun _ hk => hk) ((show ∀ k_,w50.heap.size ≤ k_ → (fun _ => True) k_ from fun k_ hk => trivial) _ (Nat.le_refl _)) (Below.refl _ _) (Nat.le_refl _) q25_ ?_;(case hd => rfl);(case hg => rfl);(case hr => first | (go_simp;done) | (go_simp;rfl));(case hp => exact (Reps.c7 (show Kd.FK k70 _ _ (⟨(⟨t101,(⟨t102,t103,t104,t105,t106⟩ : S24)⟩ : S41),y113⟩ : S70) [.string t101,.int .i64 t102,.int .i64 t103,.int .i64 t104,.string t105,.string t106,.slice Ao39 y113.length co39] from (k70_mkF _ _ (⟨(⟨t101,(⟨t102,t103,t104,t105,t106⟩ : S24)⟩ : S41),y113⟩ : S70) (Kd.R_reads' (Kd.R_mono (ok':=(fun _ => True)) (HO115.out) (fun k_ hk => trivial))).2.1 (Kd.R_F (Kd.R_mono (ok':=(fun _ => True)) (HO115.out) (fun k_ hk => trivial))))) (Reps.c7 (show Kd.FK k70 _ _ (⟨(⟨t116,(⟨t117,t118,t119,t120,t121⟩ : S24)⟩ : S41),y128⟩ : S70) [.string t116,.int .i64 t117,.int .i64 t118,.int .i64 t119,.string t120,.string t121,.slice Ao44 y128.length co44] from (k70_mkF _ _ (⟨(⟨t116,(⟨t117,t118,t119,t120,t121⟩ : S24)⟩ : S41),y128⟩ : S70) (Kd.R_reads' (Kd.R_mono (ok':=(fun _ => True)) (HO130.out) (fun k_ hk => trivial))).2.1 (Kd.R_F (Kd.R_mono (ok':=(fun _ => True)) (HO130.out) (fun k_ hk => trivial))))) (Reps.c7 (show Kd.FK k70 _ _ (⟨(⟨t131,(⟨t132,t133,t134,t135,t136⟩ : S24)⟩ : S41),y143⟩ : S70) [.string t131,.int .i64 t132,.int .i64 t133,.int .i64 t134,.string t135,.string t136,.slice Ao49 y143.length co49] from (k70_mkF _ _ (⟨(⟨t131,(⟨t132,t133,t134,t135,t136⟩ : S24)⟩ : S41),y143⟩ : S70) (Kd.R_reads' (Kd.R_mono (ok':=(fun _ => True)) (HO145.out) (fun k_ hk => trivial))).2.1 (Kd.R_F (Kd.R_mono (ok':=(fun _ => True)) (HO145.out) (fun k_ hk => trivial))))) (Reps.c7 (show Kd.FK k70 _ _ (⟨(⟨t146,(⟨t147,t148,t149,t150,t151⟩ : S24)⟩ : S41),([] : List (S41))⟩ : S70) [.string t146,.int .i64 t147,.int .i64 t148,.int .i64 t149,.string t150,.string t151,.slice none 0 0] from (k70_mkF _ _ (⟨(⟨t146,(⟨t147,t148,t149,t150,t151⟩ : S24)⟩ : S41),([] : List (S41))⟩ : S70) (Nat.le_refl _) (Kd.F_nil _ _ _))) (Reps.none _ _))))));intro v153 w51 ho52 hb hg_ hnew_;clear hg_ hnew_;(first | rw [← Ny152.out] at ho52 | (simp only [Int.reduceToNat] at ho52;rw [← Ny152.out] at ho52));have HO154:=Aside0.mk (Kd.N_lower ho52 (below_size bh_));replace HB:=Aside0.mk (below_step bh_ hb);clear HO115 HO130 HO145;clear hb ho52) | ((with_reducible refine gate_callee (f:=46) rfl ?_);refine gl_ 21 Tryz.func46 #[.string (⟨#[98]⟩ : ByteArray),.int .i64 0] ?_;(with_reducible refine (Lw17_req.calls (⟨#[98]⟩ : ByteArray) 0 t155 t156 t157 t158 t159 t160 _ A8.out).mono ?_);rintro e w53 ⟨rfl,hb⟩;refine ⟨_,rfl,?_⟩;replace HO154:=Aside0.mk (Kd.N_below q14_ hb);replace HB:=Aside0.mk (below_step bh_ hb);(try clear hb)) | ((with_reducible refine gate_callee (f:=46) rfl ?_);refine gl_ 22 Tryz.func46 #[.string (⟨#[97]⟩ : ByteArray),.int .i64 0] ?_;(with_reducible refine (Lw17_req.calls (⟨#[97]⟩ : ByteArray) 0 t161 t162 t163 t164 t165 t166 _ A9.out).mono ?_);rintro e w54 ⟨rfl,hb⟩;refine ⟨_,rfl,?_⟩;replace HO154:=Aside0.mk (Kd.N_below q14_ hb);replace HB:=Aside0.mk (below_step bh_ hb);(try clear hb)) | ((with_reducible refine gate_dst (N:=23) rfl ?_);(try (refine gate_guard q55_ ?_;dsimp only));refine Kd.R_lit k41 _ 41 ?hg (N:=23) ?hd (xs:=([(⟨t155,(⟨t156,t157,t158,t159,t160⟩ : S24)⟩ : S41),(⟨t161,(⟨t162,t163,t164,t165,t166⟩ : S24)⟩ : S41)] : List (S41))) (inner:=[.string t155,.int .i64 t156,.int .i64 t157,.int .i64 t158,.string t159,.string t160,.string t161,.int .i64 t162,.int .i64 t163,.int .i64 t164,.string t165,.string t166]) (ok:=fun _ => True) (okp:=fun _ => True) ?hr ?hp (fun _ hk => hk) trivial (Below.refl _ _) (Nat.le_refl _) q25_ ?_;(case hd => rfl);(case hg => rfl);(case hr => first | (go_simp;done) | (go_simp;rfl));(case hp => exact (Reps.c6 (show Kd.M k41 _ _ _ (⟨t155,(⟨t156,t157,t158,t159,t160⟩ : S24)⟩ : S41) [.string t155,.int .i64 t156,.int .i64 t157,.int .i64 t158,.string t159,.string t160] from (k41_mkM _ _ _ (⟨t155,(⟨t156,t157,t158,t159,t160⟩ : S24)⟩ : S41) )) (Reps.c6 (show Kd.M k41 _ _ _ (⟨t161,(⟨t162,t163,t164,t165,t166⟩ : S24)⟩ : S41) [.string t161,.int .i64 t162,.int .i64 t163,.int .i64 t164,.string t165,.string t166] from (k41_mkM _ _ _ (⟨t161,(⟨t162,t163,t164,t165,t166⟩ : S24)⟩ : S41) )) (Reps.none _ _))));intro v168 w55 ho56 hb hg_ hnew_;clear hg_ hnew_;(first | rw [← Ny167.out] at ho56 | (simp only [Int.reduceToNat] at ho56;rw [← Ny167.out] at ho56));replace HO154:=Aside0.mk (Kd.N_elder' q14_ (Kd.R_base ho56) hb);have HO169:=Aside0.mk (Kd.R_lower ho56 (below_size bh_));replace HB:=Aside0.mk (below_step bh_ hb);clear hb ho56;obtain ⟨Ao57,co57,eo57⟩:=Kd.R_slice HO169.out;subst eo57;obtain ⟨Ao58,co58,eo58⟩:=Kd.N_slice HO154.out;subst eo58) | ((with_reducible refine gate_callee (f:=27) rfl ?_);refine gl_ 26 Tryz.func27 #[.slice Ao57 y167.length co57,.slice Ao58 y152.length co58] ?_;(with_reducible refine (mvs_List.calls _ _ y167 _ _ y152 t170 _ ?side1 ?side2 ?side3 ?side4 A10.out ?sideG).mono ?_);(case sideG => first | exact HG.out | exact Env.below HG.out bh_);(case side1 => repeat (first | exact (Kd.R_reads' HO169.out).2.2 | (with_reducible refine Kd.C_alloc ?_ _) | (with_reducible refine Kd.C_drewN ?_ _) | (with_reducible refine Kd.C_drew ?_)));(case side2 => exact (Kd.R_reads' HO169.out).2.1);(case side3 => repeat (first | exact (Kd.N_reads' HO154.out).2.2 | (with_reducible refine Kd.C_alloc ?_ _) | (with_reducible refine Kd.C_drewN ?_ _) | (with_reducible refine Kd.C_drew ?_)));(case side4 => exact (Kd.N_reads' HO154.out).2.1);rintro e w59 ⟨v171,rfl,ho0,hb⟩;refine ⟨_,rfl,?_⟩;replace HO154:=Aside0.mk (Kd.N_elder' q14_ (Kd.R_base ho0) hb);have HO172:=Aside0.mk (Kd.R_lower (Kd.R_new' ho0 (Kd.R_lt q8_)) (below_size bh_));replace HO169:=Aside0.mk (Kd.R_elder' q8_ (Kd.R_base ho0) hb);replace HB:=Aside0.mk (below_step bh_ hb);(try clear hb);(try clear ho0)) | ((with_reducible refine gate_callee (f:=46) rfl ?_);refine gl_ 28 Tryz.func46 #[.string (⟨#[97]⟩ : ByteArray),.int .i64 3] ?_;(with_reducible refine (Lw17_req.calls (⟨#[97]⟩ : ByteArray) 3 t173 t174 t175 t176 t177 t178 _ A11.out).mono ?_);rintro e w60 ⟨rfl,hb⟩;refine ⟨_,rfl,?_⟩;replace HO154:=Aside0.mk (Kd.N_below q14_ hb);replace HO169:=Aside0.mk (Kd.R_below q8_ hb);replace HO172:=Aside0.mk (Kd.R_below q11_ hb);replace HB:=Aside0.mk (below_step bh_ hb);(try clear hb)) | ((with_reducible refine gate_callee (f:=29) rfl ?_);refine gl_ 29 Tryz.func29 #[.slice Ao57 y167.length co57,.agg #[.string t173,.int .i64 t174,.int .i64 t175,.int .i64 t176,.string t177,.string t178]] ?_;(with_reducible refine (mvs_Upgrade.calls _ _ y167 t173 t174 t175 t176 t177 t178 t179 _ ?side1 ?side2 A12.out ?sideG).mono ?_);(case sideG => first | exact HG.out | exact Env.below HG.out bh_);(case side1 => repeat (first | exact (Kd.R_reads' HO169.out).2.2 | (with_reducible refine Kd.C_alloc ?_ _) | (with_reducible refine Kd.C_drewN ?_ _) | (with_reducible refine Kd.C_drew ?_)));(case side2 => exact (Kd.R_reads' HO169.out).2.1);rintro e w61 ⟨v180,rfl,ho0,hb⟩;refine ⟨_,rfl,?_⟩;replace HO154:=Aside0.mk (Kd.N_elder' q14_ (Kd.R_base ho0) hb);have HO181:=Aside0.mk (Kd.R_lower (Kd.R_new' (Kd.R_new' ho0 (Kd.R_lt q8_)) (Kd.R_lt q11_)) (below_size bh_));replace HO169:=Aside0.mk (Kd.R_elder' q8_ (Kd.R_base ho0) hb);replace HO172:=Aside0.mk (Kd.R_elder' q11_ (Kd.R_base ho0) hb);replace HB:=Aside0.mk (below_step bh_ hb);(try clear hb);(try clear ho0)) | ((with_reducible refine gate_callee (f:=46) rfl ?_);refine gl_ 32 Tryz.func46 #[.string (⟨#[99]⟩ : ByteArray),.int .i64 1] ?_;(with_reducible refine (Lw17_req.calls (⟨#[99]⟩ : ByteArray) 1 t182 t183 t184 t185 t186 t187 _ A13.out).mono ?_);rintro e w62 ⟨rfl,hb⟩;refine ⟨_,rfl,?_⟩;replace HO154:=Aside0.mk (Kd.N_below q14_ hb);replace HO169:=Aside0.mk (Kd.R_below q8_ hb);replace HO172:=Aside0.mk (Kd.R_below q11_ hb);replace HO181:=Aside0.mk (Kd.R_below q13_ hb);replace HB:=Aside0.mk (below_step bh_ hb);(try clear hb)) | ((with_reducible refine gate_callee (f:=31) rfl ?_);refine gl_ 33 Tryz.func31 #[.slice Ao57 y167.length co57,.slice Ao58 y152.length co58,.agg #[.string t182,.int .i64 t183,.int .i64 t184,.int .i64 t185,.string t186,.string t187]] ?_;(with_reducible refine (mvs_Downgrade.calls k _ _ y167 _ _ y152 t182 t183 t184 t185 t186 t187 t188 _ ?side1 ?side2 ?side3 ?side4 A14.out ?sideG).mono ?_);(case sideG => first | exact HG.out | exact Env.below HG.out bh_);(case side1 => repeat (first | exact (Kd.R_reads' HO169.out).2.2 | (with_reducible refine Kd.C_alloc ?_ _) | (with_reducible refine Kd.C_drewN ?_ _) | (with_reducible refine Kd.C_drew ?_)));(case side2 => exact (Kd.R_reads' HO169.out).2.1);(case side3 => repeat (first | exact (Kd.N_reads' HO154.out).2.2 | (with_reducible refine Kd.C_alloc ?_ _) | (with_reducible refine Kd.C_drewN ?_ _) | (with_reducible refine Kd.C_drew ?_)));(case side4 => exact (Kd.N_reads' HO154.out).2.1);rintro e w63 ⟨v189,rfl,ho0,hb⟩;refine ⟨_,rfl,?_⟩;replace HO154:=Aside0.mk (Kd.N_elder' q14_ (Kd.R_base ho0) hb);have HO190:=Aside0.mk (Kd.R_lower (Kd.R_new' (Kd.R_new' (Kd.R_new' ho0 (Kd.R_lt q8_)) (Kd.R_lt q11_)) (Kd.R_lt q13_)) (below_size bh_));replace HO169:=Aside0.mk (Kd.R_elder' q8_ (Kd.R_base ho0) hb);replace HO172:=Aside0.mk (Kd.R_elder' q11_ (Kd.R_base ho0) hb);replace HO181:=Aside0.mk (Kd.R_elder' q13_ (Kd.R_base ho0) hb);replace HB:=Aside0.mk (below_step bh_ hb);(try clear hb);(try clear ho0)) | ((with_reducible refine gate_callee (f:=46) rfl ?_);refine gl_ 35 Tryz.func46 #[.string (⟨#[97]⟩ : ByteArray),.int .i64 0] ?_;(with_reducible refine (Lw17_req.calls (⟨#[97]⟩ : ByteArray) 0 t191 t192 t193 t194 t195 t196 _ A15.out).mono ?_);rintro e w64 ⟨rfl,hb⟩;refine ⟨_,rfl,?_⟩;replace HO154:=Aside0.mk (Kd.N_below q14_ hb);replace HO169:=Aside0.mk (Kd.R_below q8_ hb);replace HO172:=Aside0.mk (Kd.R_below q11_ hb);replace HO181:=Aside0.mk (Kd.R_below q13_ hb);replace HO190:=Aside0.mk (Kd.R_below q15_ hb);replace HB:=Aside0.mk (below_step bh_ hb);(try clear hb)) | ((with_reducible refine gate_callee (f:=46) rfl ?_);refine gl_ 36 Tryz.func46 #[.string (⟨#[98]⟩ : ByteArray),.int .i64 0] ?_;(with_reducible refine (Lw17_req.calls (⟨#[98]⟩ : ByteArray) 0 t197 t198 t199 t200 t201 t202 _ A16.out).mono ?_);rintro e w65 ⟨rfl,hb⟩;refine ⟨_,rfl,?_⟩;replace HO154:=Aside0.mk (Kd.N_below q14_ hb);replace HO169:=Aside0.mk (Kd.R_below q8_ hb);replace HO172:=Aside0.mk (Kd.R_below q11_ hb);replace HO181:=Aside0.mk (Kd.R_below q13_ hb);replace HO190:=Aside0.mk (Kd.R_below q15_ hb);replace HB:=Aside0.mk (below_step bh_ hb);(try clear hb)) | ((with_reducible refine gate_callee (f:=46) rfl ?_);refine gl_ 37 Tryz.func46 #[.string (⟨#[99]⟩ : ByteArray),.int .i64 2] ?_;(with_reducible refine (Lw17_req.calls (⟨#[99]⟩ : ByteArray) 2 t203 t204 t205 t206 t207 t208 _ A17.out).mono ?_);rintro e w66 ⟨rfl,hb⟩;refine ⟨_,rfl,?_⟩;replace HO154:=Aside0.mk (Kd.N_below q14_ hb);replace HO169:=Aside0.mk (Kd.R_below q8_ hb);replace HO172:=Aside0.mk (Kd.R_below q11_ hb);replace HO181:=Aside0.mk (Kd.R_below q13_ hb);replace HO190:=Aside0.mk (Kd.R_below q15_ hb);replace HB:=Aside0.mk (below_step bh_ hb);(try clear hb)) | ((with_reducible refine gate_callee (f:=46) rfl ?_);refine gl_ 38 Tryz.func46 #[.string (⟨#[100]⟩ : ByteArray),.int .i64 0] ?_;(with_reducible refine (Lw17_req.calls (⟨#[100]⟩ : ByteArray) 0 t209 t210 t211 t212 t213 t214 _ A18.out).mono ?_);rintro e w67 ⟨rfl,hb⟩;refine ⟨_,rfl,?_⟩;replace HO154:=Aside0.mk (Kd.N_below q14_ hb);replace HO169:=Aside0.mk (Kd.R_below q8_ hb);replace HO172:=Aside0.mk (Kd.R_below q11_ hb);replace HO181:=Aside0.mk (Kd.R_below q13_ hb);replace HO190:=Aside0.mk (Kd.R_below q15_ hb);replace HB:=Aside0.mk (below_step bh_ hb);(try clear hb)) | ((with_reducible refine gate_dst (N:=39) rfl ?_);(try (refine gate_guard q55_ ?_;dsimp only));refine Kd.R_lit k41 _ 41 ?hg (N:=39) ?hd (xs:=([(⟨t191,(⟨t192,t193,t194,t195,t196⟩ : S24)⟩ : S41),(⟨t197,(⟨t198,t199,t200,t201,t202⟩ : S24)⟩ : S41),(⟨t203,(⟨t204,t205,t206,t207,t208⟩ : S24)⟩ : S41),(⟨t209,(⟨t210,t211,t212,t213,t214⟩ : S24)⟩ : S41)] : List (S41))) (inner:=[.string t191,.int .i64 t192,.int .i64 t193,.int .i64 t194,.string t195,.string t196,.string t197,.int .i64 t198,.int .i64 t199,.int .i64 t200,.string t201,.string t202,.string t203,.int .i64 t204,.int .i64 t205,.int .i64 t206,.string t207,.string t208,.string t209,.int .i64 t210,.int .i64 t211,.int .i64 t212,.string t213,.string t214]) (ok:=fun _ => True) (okp:=fun _ => True) ?hr ?hp (fun _ hk => hk) trivial (Below.refl _ _) (Nat.le_refl _) q25_ ?_;(case hd => rfl);(case hg => rfl);(case hr => first | (go_simp;done) | (go_simp;rfl));(case hp => exact (Reps.c6 (show Kd.M k41 _ _ _ (⟨t191,(⟨t192,t193,t194,t195,t196⟩ : S24)⟩ : S41) [.string t191,.int .i64 t192,.int .i64 t193,.int .i64 t194,.string t195,.string t196] from (k41_mkM _ _ _ (⟨t191,(⟨t192,t193,t194,t195,t196⟩ : S24)⟩ : S41) )) (Reps.c6 (show Kd.M k41 _ _ _ (⟨t197,(⟨t198,t199,t200,t201,t202⟩ : S24)⟩ : S41) [.string t197,.int .i64 t198,.int .i64 t199,.int .i64 t200,.string t201,.string t202] from (k41_mkM _ _ _ (⟨t197,(⟨t198,t199,t200,t201,t202⟩ : S24)⟩ : S41) )) (Reps.c6 (show Kd.M k41 _ _ _ (⟨t203,(⟨t204,t205,t206,t207,t208⟩ : S24)⟩ : S41) [.string t203,.int .i64 t204,.int .i64 t205,.int .i64 t206,.string t207,.string t208] from (k41_mkM _ _ _ (⟨t203,(⟨t204,t205,t206,t207,t208⟩ : S24)⟩ : S41) )) (Reps.c6 (show Kd.M k41 _ _ _ (⟨t209,(⟨t210,t211,t212,t213,t214⟩ : S24)⟩ : S41) [.string t209,.int .i64 t210,.int .i64 t211,.int .i64 t212,.string t213,.string t214] from (k41_mkM _ _ _ (⟨t209,(⟨t210,t211,t212,t213,t214⟩ : S24)⟩ : S41) )) (Reps.none _ _))))));intro v216 w68 ho69 hb hg_ hnew_;clear hg_ hnew_;(first | rw [← Ny215.out] at ho69 | (simp only [Int.reduceToNat] at ho69;rw [← Ny215.out] at ho69));replace HO154:=Aside0.mk (Kd.N_elder' q14_ (Kd.R_base ho69) hb);have HO217:=Aside0.mk (Kd.R_lower (Kd.R_new' (Kd.R_new' (Kd.R_new' (Kd.R_new' ho69 (Kd.R_lt q8_)) (Kd.R_lt q11_)) (Kd.R_lt q13_)) (Kd.R_lt q15_)) (below_size bh_));replace HO169:=Aside0.mk (Kd.R_elder' q8_ (Kd.R_base ho69) hb);replace HO172:=Aside0.mk (Kd.R_elder' q11_ (Kd.R_base ho69) hb);replace HO181:=Aside0.mk (Kd.R_elder' q13_ (Kd.R_base ho69) hb);replace HO190:=Aside0.mk (Kd.R_elder' q15_ (Kd.R_base ho69) hb);replace HB:=Aside0.mk (below_step bh_ hb);clear hb ho69;obtain ⟨Ao70,co70,eo70⟩:=Kd.R_slice HO172.out;subst eo70;obtain ⟨Ao71,co71,eo71⟩:=Kd.R_slice HO217.out;subst eo71) | ((with_reducible refine gate_callee (f:=24) rfl ?_);refine gl_ 40 Tryz.func24 #[.slice Ao70 t170.length co70,.slice Ao71 y215.length co71] ?_;(with_reducible refine (Rf17_Same.calls k _ _ t170 _ _ y215 true _ ?side1 ?side2 ?side3 ?side4 A19.out).mono ?_);(case side1 => repeat (first | exact (Kd.R_reads' HO172.out).2.2 | (with_reducible refine Kd.C_alloc ?_ _) | (with_reducible refine Kd.C_drewN ?_ _) | (with_reducible refine Kd.C_drew ?_)));(case side2 => exact (Kd.R_reads' HO172.out).2.1);(case side3 => repeat (first | exact (Kd.R_reads' HO217.out).2.2 | (with_reducible refine Kd.C_alloc ?_ _) | (with_reducible refine Kd.C_drewN ?_ _) | (with_reducible refine Kd.C_drew ?_)));(case side4 => exact (Kd.R_reads' HO217.out).2.1);rintro e w' ⟨rfl,⟨nd,rfl⟩⟩;refine ⟨_,rfl,?_⟩) | (go_at_call 25;(with_reducible refine (mvs_Reached.calls _ _ y167 _ _ y152 t219 _ ?side1 ?side2 ?side3 ?side4 A21.out ?sideG).mono ?_);(case sideG => first | exact HG.out | exact Env.below HG.out bh_);(case side1 => repeat (first | exact (Kd.R_reads' HO169.out).2.2 | (with_reducible refine Kd.C_alloc ?_ _) | (with_reducible refine Kd.C_drewN ?_ _) | (with_reducible refine Kd.C_drew ?_)));(case side2 => exact (Kd.R_reads' HO169.out).2.1);(case side3 => repeat (first | exact (Kd.N_reads' HO154.out).2.2 | (with_reducible refine Kd.C_alloc ?_ _) | (with_reducible refine Kd.C_drewN ?_ _) | (with_reducible refine Kd.C_drew ?_)));(case side4 => exact (Kd.N_reads' HO154.out).2.1);rintro e w72 ⟨v220,rfl,ho0,hb⟩;replace HO154:=Aside0.mk (Kd.N_elder' q14_ (Kd.R_base ho0) hb);have HO221:=Aside0.mk (Kd.R_lower (Kd.R_new' (Kd.R_new' (Kd.R_new' (Kd.R_new' (Kd.R_new' ho0 (Kd.R_lt q8_)) (Kd.R_lt q11_)) (Kd.R_lt q13_)) (Kd.R_lt q15_)) (Kd.R_lt q19_)) (below_size bh_));replace HO169:=Aside0.mk (Kd.R_elder' q8_ (Kd.R_base ho0) hb);replace HO172:=Aside0.mk (Kd.R_elder' q11_ (Kd.R_base ho0) hb);replace HO181:=Aside0.mk (Kd.R_elder' q13_ (Kd.R_base ho0) hb);replace HO190:=Aside0.mk (Kd.R_elder' q15_ (Kd.R_base ho0) hb);replace HO217:=Aside0.mk (Kd.R_elder' q19_ (Kd.R_base ho0) hb);replace HB:=Aside0.mk (below_step bh_ hb);(try clear hb);(try clear ho0);obtain ⟨Ao73,co73,eo73⟩:=Kd.R_slice HO221.out;subst eo73) | (go_at_call 46;(with_reducible refine (Lw17_req.calls (⟨#[98]⟩ : ByteArray) 0 t222 t223 t224 t225 t226 t227 _ A23.out).mono ?_);rintro e w74 ⟨rfl,hb⟩;replace HO154:=Aside0.mk (Kd.N_below q14_ hb);replace HO169:=Aside0.mk (Kd.R_below q8_ hb);replace HO172:=Aside0.mk (Kd.R_below q11_ hb);replace HO181:=Aside0.mk (Kd.R_below q13_ hb);replace HO190:=Aside0.mk (Kd.R_below q15_ hb);replace HO217:=Aside0.mk (Kd.R_below q19_ hb);replace HO221:=Aside0.mk (Kd.R_below q20_ hb);replace HB:=Aside0.mk (below_step bh_ hb);(try clear hb)) | (go_at_call 46;(with_reducible refine (Lw17_req.calls (⟨#[97]⟩ : ByteArray) 3 t228 t229 t230 t231 t232 t233 _ A24.out).mono ?_);rintro e w75 ⟨rfl,hb⟩;replace HO154:=Aside0.mk (Kd.N_below q14_ hb);replace HO169:=Aside0.mk (Kd.R_below q8_ hb);replace HO172:=Aside0.mk (Kd.R_below q11_ hb);replace HO181:=Aside0.mk (Kd.R_below q13_ hb);replace HO190:=Aside0.mk (Kd.R_below q15_ hb);replace HO217:=Aside0.mk (Kd.R_below q19_ hb);replace HO221:=Aside0.mk (Kd.R_below q20_ hb);replace HB:=Aside0.mk (below_step bh_ hb);(try clear hb)) | ((with_reducible refine gate_dst (N:=52) rfl ?_);(try (refine gate_guard q55_ ?_;dsimp only));refine Kd.R_lit k41 _ 41 ?hg (N:=52) ?hd (xs:=([(⟨t222,(⟨t223,t224,t225,t226,t227⟩ : S24)⟩ : S41),(⟨t228,(⟨t229,t230,t231,t232,t233⟩ : S24)⟩ : S41)] : List (S41))) (inner:=[.string t222,.int .i64 t223,.int .i64 t224,.int .i64 t225,.string t226,.string t227,.string t228,.int .i64 t229,.int .i64 t230,.int .i64 t231,.string t232,.string t233]) (ok:=fun _ => True) (okp:=fun _ => True) ?hr ?hp (fun _ hk => hk) trivial (Below.refl _ _) (Nat.le_refl _) q25_ ?_;(case hd => rfl);(case hg => rfl);(case hr => first | (go_simp;done) | (go_simp;rfl));(case hp => exact (Reps.c6 (show Kd.M k41 _ _ _ (⟨t222,(⟨t223,t224,t225,t226,t227⟩ : S24)⟩ : S41) [.string t222,.int .i64 t223,.int .i64 t224,.int .i64 t225,.string t226,.string t227] from (k41_mkM _ _ _ (⟨t222,(⟨t223,t224,t225,t226,t227⟩ : S24)⟩ : S41) )) (Reps.c6 (show Kd.M k41 _ _ _ (⟨t228,(⟨t229,t230,t231,t232,t233⟩ : S24)⟩ : S41) [.string t228,.int .i64 t229,.int .i64 t230,.int .i64 t231,.string t232,.string t233] from (k41_mkM _ _ _ (⟨t228,(⟨t229,t230,t231,t232,t233⟩ : S24)⟩ : S41) )) (Reps.none _ _))));intro v235 w76 ho77 hb hg_ hnew_;clear hg_ hnew_;(first | rw [← Ny234.out] at ho77 | (simp only [Int.reduceToNat] at ho77;rw [← Ny234.out] at ho77));replace HO154:=Aside0.mk (Kd.N_elder' q14_ (Kd.R_base ho77) hb);have HO236:=Aside0.mk (Kd.R_lower (Kd.R_new' (Kd.R_new' (Kd.R_new' (Kd.R_new' (Kd.R_new' (Kd.R_new' ho77 (Kd.R_lt q8_)) (Kd.R_lt q11_)) (Kd.R_lt q13_)) (Kd.R_lt q15_)) (Kd.R_lt q19_)) (Kd.R_lt q20_)) (below_size bh_));replace HO169:=Aside0.mk (Kd.R_elder' q8_ (Kd.R_base ho77) hb);replace HO172:=Aside0.mk (Kd.R_elder' q11_ (Kd.R_base ho77) hb);replace HO181:=Aside0.mk (Kd.R_elder' q13_ (Kd.R_base ho77) hb);replace HO190:=Aside0.mk (Kd.R_elder' q15_ (Kd.R_base ho77) hb);replace HO217:=Aside0.mk (Kd.R_elder' q19_ (Kd.R_base ho77) hb);replace HO221:=Aside0.mk (Kd.R_elder' q20_ (Kd.R_base ho77) hb);replace HB:=Aside0.mk (below_step bh_ hb);clear hb ho77;obtain ⟨Ao78,co78,eo78⟩:=Kd.R_slice HO181.out;subst eo78;obtain ⟨Ao79,co79,eo79⟩:=Kd.R_slice HO236.out;subst eo79) | (go_at_call 24;(with_reducible refine (Rf17_Same.calls k _ _ t179 _ _ y234 true _ ?side1 ?side2 ?side3 ?side4 A25.out).mono ?_);(case side1 => repeat (first | exact (Kd.R_reads' HO181.out).2.2 | (with_reducible refine Kd.C_alloc ?_ _) | (with_reducible refine Kd.C_drewN ?_ _) | (with_reducible refine Kd.C_drew ?_)));(case side2 => exact (Kd.R_reads' HO181.out).2.1);(case side3 => repeat (first | exact (Kd.R_reads' HO236.out).2.2 | (with_reducible refine Kd.C_alloc ?_ _) | (with_reducible refine Kd.C_drewN ?_ _) | (with_reducible refine Kd.C_drew ?_)));(case side4 => exact (Kd.R_reads' HO236.out).2.1);rintro e w' ⟨rfl,⟨nd,rfl⟩⟩) | (go_at_call 46;(with_reducible refine (Lw17_req.calls (⟨#[97]⟩ : ByteArray) 0 t238 t239 t240 t241 t242 t243 _ A27.out).mono ?_);rintro e w80 ⟨rfl,hb⟩;replace HO154:=Aside0.mk (Kd.N_below q14_ hb);replace HO169:=Aside0.mk (Kd.R_below q8_ hb);replace HO172:=Aside0.mk (Kd.R_below q11_ hb);replace HO181:=Aside0.mk (Kd.R_below q13_ hb);replace HO190:=Aside0.mk (Kd.R_below q15_ hb);replace HO217:=Aside0.mk (Kd.R_below q19_ hb);replace HO221:=Aside0.mk (Kd.R_below q20_ hb);replace HO236:=Aside0.mk (Kd.R_below q23_ hb);replace HB:=Aside0.mk (below_step bh_ hb);(try clear hb)) | ((with_reducible refine gate_dst (N:=58) rfl ?_);(try (refine gate_guard q55_ ?_;dsimp only));refine Kd.R_lit k41 _ 41 ?hg (N:=58) ?hd (xs:=([(⟨t238,(⟨t239,t240,t241,t242,t243⟩ : S24)⟩ : S41)] : List (S41))) (inner:=[.string t238,.int .i64 t239,.int .i64 t240,.int .i64 t241,.string t242,.string t243]) (ok:=fun _ => True) (okp:=fun _ => True) ?hr ?hp (fun _ hk => hk) trivial (Below.refl _ _) (Nat.le_refl _) q25_ ?_;(case hd => rfl);(case hg => rfl);(case hr => first | (go_simp;done) | (go_simp;rfl));(case hp => exact (Reps.c6 (show Kd.M k41 _ _ _ (⟨t238,(⟨t239,t240,t241,t242,t243⟩ : S24)⟩ : S41) [.string t238,.int .i64 t239,.int .i64 t240,.int .i64 t241,.string t242,.string t243] from (k41_mkM _ _ _ (⟨t238,(⟨t239,t240,t241,t242,t243⟩ : S24)⟩ : S41) )) (Reps.none _ _)));intro v245 w81 ho82 hb hg_ hnew_;clear hg_ hnew_;(first | rw [← Ny244.out] at ho82 | (simp only [Int.reduceToNat] at ho82;rw [← Ny244.out] at ho82));replace HO154:=Aside0.mk (Kd.N_elder' q14_ (Kd.R_base ho82) hb);have HO246:=Aside0.mk (Kd.R_lower (Kd.R_new' (Kd.R_new' (Kd.R_new' (Kd.R_new' (Kd.R_new' (Kd.R_new' (Kd.R_new' ho82 (Kd.R_lt q8_)) (Kd.R_lt q11_)) (Kd.R_lt q13_)) (Kd.R_lt q15_)) (Kd.R_lt q19_)) (Kd.R_lt q20_)) (Kd.R_lt q23_)) (below_size bh_));replace HO169:=Aside0.mk (Kd.R_elder' q8_ (Kd.R_base ho82) hb);replace HO172:=Aside0.mk (Kd.R_elder' q11_ (Kd.R_base ho82) hb);replace HO181:=Aside0.mk (Kd.R_elder' q13_ (Kd.R_base ho82) hb);replace HO190:=Aside0.mk (Kd.R_elder' q15_ (Kd.R_base ho82) hb);replace HO217:=Aside0.mk (Kd.R_elder' q19_ (Kd.R_base ho82) hb);replace HO221:=Aside0.mk (Kd.R_elder' q20_ (Kd.R_base ho82) hb);replace HO236:=Aside0.mk (Kd.R_elder' q23_ (Kd.R_base ho82) hb);replace HB:=Aside0.mk (below_step bh_ hb);clear hb ho82;obtain ⟨Ao83,co83,eo83⟩:=Kd.R_slice HO190.out;subst eo83;obtain ⟨Ao84,co84,eo84⟩:=Kd.R_slice HO246.out;subst eo84) | (go_at_call 24;(with_reducible refine (Rf17_Same.calls k _ _ t188 _ _ y244 true _ ?side1 ?side2 ?side3 ?side4 A28.out).mono ?_);(case side1 => repeat (first | exact (Kd.R_reads' HO190.out).2.2 | (with_reducible refine Kd.C_alloc ?_ _) | (with_reducible refine Kd.C_drewN ?_ _) | (with_reducible refine Kd.C_drew ?_)));(case side2 => exact (Kd.R_reads' HO190.out).2.1);(case side3 => repeat (first | exact (Kd.R_reads' HO246.out).2.2 | (with_reducible refine Kd.C_alloc ?_ _) | (with_reducible refine Kd.C_drewN ?_ _) | (with_reducible refine Kd.C_drew ?_)));(case side4 => exact (Kd.R_reads' HO246.out).2.1);rintro e w' ⟨rfl,⟨nd,rfl⟩⟩) | (go_at_call 46;(with_reducible refine (Lw17_req.calls (⟨#[122]⟩ : ByteArray) 0 t248 t249 t250 t251 t252 t253 _ A30.out).mono ?_);rintro e w85 ⟨rfl,hb⟩;replace HO154:=Aside0.mk (Kd.N_below q14_ hb);replace HO169:=Aside0.mk (Kd.R_below q8_ hb);replace HO172:=Aside0.mk (Kd.R_below q11_ hb);replace HO181:=Aside0.mk (Kd.R_below q13_ hb);replace HO190:=Aside0.mk (Kd.R_below q15_ hb);replace HO217:=Aside0.mk (Kd.R_below q19_ hb);replace HO221:=Aside0.mk (Kd.R_below q20_ hb);replace HO236:=Aside0.mk (Kd.R_below q23_ hb);replace HO246:=Aside0.mk (Kd.R_below q31_ hb);replace HB:=Aside0.mk (below_step bh_ hb);(try clear hb)) | (go_at_call 29;(with_reducible refine (mvs_Upgrade.calls _ _ y167 t248 t249 t250 t251 t252 t253 t254 _ ?side1 ?side2 A31.out ?sideG).mono ?_);(case sideG => first | exact HG.out | exact Env.below HG.out bh_);(case side1 => repeat (first | exact (Kd.R_reads' HO169.out).2.2 | (with_reducible refine Kd.C_alloc ?_ _) | (with_reducible refine Kd.C_drewN ?_ _) | (with_reducible refine Kd.C_drew ?_)));(case side2 => exact (Kd.R_reads' HO169.out).2.1);rintro e w86 ⟨v255,rfl,ho0,hb⟩;replace HO154:=Aside0.mk (Kd.N_elder' q14_ (Kd.R_base ho0) hb);have HO256:=Aside0.mk (Kd.R_lower (Kd.R_new' (Kd.R_new' (Kd.R_new' (Kd.R_new' (Kd.R_new' (Kd.R_new' (Kd.R_new' (Kd.R_new' ho0 (Kd.R_lt q8_)) (Kd.R_lt q11_)) (Kd.R_lt q13_)) (Kd.R_lt q15_)) (Kd.R_lt q19_)) (Kd.R_lt q20_)) (Kd.R_lt q23_)) (Kd.R_lt q31_)) (below_size bh_));replace HO169:=Aside0.mk (Kd.R_elder' q8_ (Kd.R_base ho0) hb);replace HO172:=Aside0.mk (Kd.R_elder' q11_ (Kd.R_base ho0) hb);replace HO181:=Aside0.mk (Kd.R_elder' q13_ (Kd.R_base ho0) hb);replace HO190:=Aside0.mk (Kd.R_elder' q15_ (Kd.R_base ho0) hb);replace HO217:=Aside0.mk (Kd.R_elder' q19_ (Kd.R_base ho0) hb);replace HO221:=Aside0.mk (Kd.R_elder' q20_ (Kd.R_base ho0) hb);replace HO236:=Aside0.mk (Kd.R_elder' q23_ (Kd.R_base ho0) hb);replace HO246:=Aside0.mk (Kd.R_elder' q31_ (Kd.R_base ho0) hb);replace HB:=Aside0.mk (below_step bh_ hb);(try clear hb);(try clear hb2);(try clear hk);(try clear hi);(try clear ho0);obtain ⟨Ao87,co87,eo87⟩:=Kd.R_slice HO256.out;subst eo87) | (go_at_call 46;(with_reducible refine (Lw17_req.calls (⟨#[122]⟩ : ByteArray) (-1) t257 t258 t259 t260 t261 t262 _ A33.out).mono ?_);rintro e w88 ⟨rfl,hb⟩;replace HO154:=Aside0.mk (Kd.N_below q14_ hb);replace HO169:=Aside0.mk (Kd.R_below q8_ hb);replace HO172:=Aside0.mk (Kd.R_below q11_ hb);replace HO181:=Aside0.mk (Kd.R_below q13_ hb);replace HO190:=Aside0.mk (Kd.R_below q15_ hb);replace HO217:=Aside0.mk (Kd.R_below q19_ hb);replace HO221:=Aside0.mk (Kd.R_below q20_ hb);replace HO236:=Aside0.mk (Kd.R_below q23_ hb);replace HO246:=Aside0.mk (Kd.R_below q31_ hb);replace HO256:=Aside0.mk (Kd.R_below q51_ hb);replace HB:=Aside0.mk (below_step bh_ hb);(try clear hb)) | (go_at_call 29;(with_reducible refine (mvs_Upgrade.calls _ _ y167 t257 t258 t259 t260 t261 t262 t263 _ ?side1 ?side2 A34.out ?sideG).mono ?_);(case sideG => first | exact HG.out | exact Env.below HG.out bh_);(case side1 => repeat (first | exact (Kd.R_reads' HO169.out).2.2 | (with_reducible refine Kd.C_alloc ?_ _) | (with_reducible refine Kd.C_drewN ?_ _) | (with_reducible refine Kd.C_drew ?_)));(case side2 => exact (Kd.R_reads' HO169.out).2.1);rintro e w89 ⟨v264,rfl,ho0,hb⟩;replace HO154:=Aside0.mk (Kd.N_elder' q14_ (Kd.R_base ho0) hb);have HO265:=Aside0.mk (Kd.R_lower (Kd.R_new' (Kd.R_new' (Kd.R_new' (Kd.R_new' (Kd.R_new' (Kd.R_new' (Kd.R_new' (Kd.R_new' (Kd.R_new' ho0 (Kd.R_lt q8_)) (Kd.R_lt q11_)) (Kd.R_lt q13_)) (Kd.R_lt q15_)) (Kd.R_lt q19_)) (Kd.R_lt q20_)) (Kd.R_lt q23_)) (Kd.R_lt q31_)) (Kd.R_lt q51_)) (below_size bh_));replace HO169:=Aside0.mk (Kd.R_elder' q8_ (Kd.R_base ho0) hb);replace HO172:=Aside0.mk (Kd.R_elder' q11_ (Kd.R_base ho0) hb);replace HO181:=Aside0.mk (Kd.R_elder' q13_ (Kd.R_base ho0) hb);replace HO190:=Aside0.mk (Kd.R_elder' q15_ (Kd.R_base ho0) hb);replace HO217:=Aside0.mk (Kd.R_elder' q19_ (Kd.R_base ho0) hb);replace HO221:=Aside0.mk (Kd.R_elder' q20_ (Kd.R_base ho0) hb);replace HO236:=Aside0.mk (Kd.R_elder' q23_ (Kd.R_base ho0) hb);replace HO246:=Aside0.mk (Kd.R_elder' q31_ (Kd.R_base ho0) hb);replace HO256:=Aside0.mk (Kd.R_elder' q51_ (Kd.R_base ho0) hb);replace HB:=Aside0.mk (below_step bh_ hb);(try clear hb);(try clear hb2);(try clear hk);(try clear hi);(try clear ho0);obtain ⟨Ao90,co90,eo90⟩:=Kd.R_slice HO265.out;subst eo90))
      go_ret
      exact ⟨q2_,bh_⟩
     ·rw [if_neg c32] at H
      exact absurd ((Option.some.inj H).trans HR_.out) q25_
    ·replace c29:=Bool.eq_false_iff.mpr c29
     subst c29
     rw [if_neg (show ¬ (false = true) by decide)] at H
     exact absurd ((Option.some.inj H).trans HR_.out) q25_
   ·replace c26:=Bool.eq_false_iff.mpr c26
    subst c26
    rw [if_neg (show ¬ (false = true) by decide)] at H
    exact absurd ((Option.some.inj H).trans HR_.out) q25_
  ·rw [if_neg c22] at H
   exact absurd ((Option.some.inj H).trans HR_.out) q25_
 ·replace c20:=Bool.eq_false_iff.mpr c20
  subst c20
  rw [if_neg (show ¬ (false = true) by decide)] at H
  exact absurd ((Option.some.inj H).trans HR_.out) q25_
end Go.Proofs.YtennhpoemdaghaaGreatDoor.P
end
section
namespace Go.Proofs.YtennhpoemdaghaaGreatDoor.P
open Go Go.RowKit Go.Proofs.YtennhpoemdaghaaGreatDoorW.PrintWords
theorem live_at : Lw17_live.f 200 = some true:=by decide +kernel
theorem live_f (k : Nat) (hk : 200 ≤ k) : Lw17_live.f k = some true:=by
 obtain ⟨d,rfl⟩ : ∃ d,k = 200 + d:=⟨k - 200,by omega⟩
 clear hk
 induction d with
 | zero => exact live_at
 | succ d ih => exact Lw17_live.mono (200 + d) _ ih
end Go.Proofs.YtennhpoemdaghaaGreatDoor.P
end
section
namespace Go.Proofs.YtennhpoemdaghaaGreatDoor.P
open Go.RowKit Go.Proofs.YtennhpoemdaghaaGreatDoorW.PrintWords Go.Proofs.YtennhpoemdaghaaGreatDoorW.PrintLast Go.Proofs.YtennhpoemdaghaaGreatDoorW.PrintMore
mutual
def Lw17_MvsDowns.j0 : Nat → List (S41) → List (S68) → Bool → ByteArray → Int → Int → Int → ByteArray → ByteArray → Option (Bool)
 | 0,_,_,_,_,_,_,_,_,_ => none
 | k + 1,x0,x1,x27,x102000,x102001,x102002,x102003,x102004,x102005 => if x27 = true then ((Lw17_live.f k).bind fun t108 => (some t108)) else ((Lw17_own.f k x1).bind fun t109 => ((mvs_Downgrade.f k x0 t109 x102000 x102001 x102002 x102003 x102004 x102005).bind fun t112 => ((Lw17_own.f k x1).bind fun t115 => ((mvs_List.f t112 t115).bind fun t118 => (Lw17_MvsDowns.l0 k x0 x1 t112 t118 0 x102000 x102001 x102002 x102003 x102004 x102005)))))
def Lw17_MvsDowns.l0 : Nat → List (S41) → List (S68) → List (S41) → List (S41) → Int → ByteArray → Int → Int → Int → ByteArray → ByteArray → Option (Bool)
 | 0,_,_,_,_,_,_,_,_,_,_,_ => none
 | k + 1,x0,x1,x7,x8,x9,x102000,x102001,x102002,x102003,x102004,x102005 => if x9 < (x8.length : Int) then (if 0 ≤ x9 then (if ((rd_T41 x8 x9).f0).toList = x102000.toList then ((Rf07_Compare.f k ((rd_T41 x8 x9).f1.f0) ((rd_T41 x8 x9).f1.f1) ((rd_T41 x8 x9).f1.f2) ((rd_T41 x8 x9).f1.f3) ((rd_T41 x8 x9).f1.f4) x102001 x102002 x102003 x102004 x102005).bind fun t123 => (if t123 > 0 then (some false) else (Lw17_MvsDowns.l0 k x0 x1 x7 x8 (wrap64 (x9 + 1)) x102000 x102001 x102002 x102003 x102004 x102005))) else (Lw17_MvsDowns.l0 k x0 x1 x7 x8 (wrap64 (x9 + 1)) x102000 x102001 x102002 x102003 x102004 x102005)) else (none)) else ((Lw17_own.f k x1).bind fun t124 => ((mvs_List.f x0 t124).bind fun t127 => (Lw17_MvsDowns.l1 k x0 x7 t127 true 0 x102000 x102001 x102002 x102003 x102004 x102005)))
def Lw17_MvsDowns.l1 : Nat → List (S41) → List (S41) → List (S41) → Bool → Int → ByteArray → Int → Int → Int → ByteArray → ByteArray → Option (Bool)
 | 0,_,_,_,_,_,_,_,_,_,_,_ => none
 | k + 1,x0,x7,x10,x11,x12,x102000,x102001,x102002,x102003,x102004,x102005 => if x12 < (x10.length : Int) then (if x11 = true then (if 0 ≤ x12 then (if ((rd_T41 x10 x12).f0).toList = x102000.toList then ((Rf07_Compare.f k ((rd_T41 x10 x12).f1.f0) ((rd_T41 x10 x12).f1.f1) ((rd_T41 x10 x12).f1.f2) ((rd_T41 x10 x12).f1.f3) ((rd_T41 x10 x12).f1.f4) x102001 x102002 x102003 x102004 x102005).bind fun t132 => (Lw17_MvsDowns.l1 k x0 x7 x10 (decide (t132 ≤ 0)) (wrap64 (x12 + 1)) x102000 x102001 x102002 x102003 x102004 x102005)) else (Lw17_MvsDowns.l1 k x0 x7 x10 true (wrap64 (x12 + 1)) x102000 x102001 x102002 x102003 x102004 x102005)) else (none)) else (Lw17_MvsDowns.l1 k x0 x7 x10 false (wrap64 (x12 + 1)) x102000 x102001 x102002 x102003 x102004 x102005)) else (if x11 = true then ((Rf17_Same.f k x7 x0).bind fun t133 => (if t133 = true then (if (x7.length : Int) ≤ (x0.length : Int) then ((Lw17_live.f k).bind fun t134 => (some t134)) else (some false)) else (some false))) else (if (x7.length : Int) ≤ (x0.length : Int) then ((Lw17_live.f k).bind fun t135 => (some t135)) else (some false)))
end
def Lw17_MvsDowns.f (k : Nat) (l0 : List (S41)) (l1 : List (S68)) (a2_0 : ByteArray) (a2_1 : Int) (a2_2 : Int) (a2_3 : Int) (a2_4 : ByteArray) (a2_5 : ByteArray) : Option (Bool):=(Rf17_Small.f k l0 l1).bind fun t102 => (if t102 = true then ((Rf17_Small.f k (([(⟨a2_0,(⟨a2_1,a2_2,a2_3,a2_4,a2_5⟩ : S24)⟩ : S41)] : List (S41))) ([] : List (S68))).bind fun t106 => (if t106 = true then ((Rf17_May.f k a2_0 a2_1 a2_2 a2_3 a2_4 a2_5).bind fun t107 => (Lw17_MvsDowns.j0 k l0 l1 (!t107) a2_0 a2_1 a2_2 a2_3 a2_4 a2_5)) else (Lw17_MvsDowns.j0 k l0 l1 true a2_0 a2_1 a2_2 a2_3 a2_4 a2_5))) else (Lw17_MvsDowns.j0 k l0 l1 true a2_0 a2_1 a2_2 a2_3 a2_4 a2_5))
def Lw17_MvsDowns.T8 : Bool × List (List Nat × List Nat):=(true,[([],[]),([],[]),([0,1],[0,1]),([2],[2]),([3],[3]),([],[]),([5],[5]),([4,6],[4,6]),([7],[7]),([8],[8]),([8],[8]),([9,10,8],[8,9,10]),([11,8],[8,11]),([12,8],[8,12]),([8],[8]),([14,8],[8,14]),([13,15,8,8],[8,13,15]),([16,8],[8,16]),([8,17],[8,17])])
def Lw17_MvsDowns.B8 : List Nat:=[0,0,3,7,15,0,32,127,255,511,511,2047,4095,8191,511,16895,65535,131071,262143]
theorem Lw17_MvsDowns.tab8 : rtab .any (opsOf Tryz.f7 8) = Lw17_MvsDowns.T8:=by kernel_rfl
theorem Lw17_MvsDowns.bits8 : waitsOk Lw17_MvsDowns.T8.2 Lw17_MvsDowns.B8 = true:=by kernel_rfl
def Lw17_MvsDowns.T15 : Bool × List (List Nat × List Nat):=(true,[([],[]),([0],[0]),([1],[1]),([1],[1]),([2,3,1],[1,2,3]),([4,1],[1,4]),([5,1],[1,5]),([1],[1]),([7,1],[1,7]),([6,8,1],[1,6,8]),([9,1,1],[1,9]),([10],[10]),([10],[10]),([11,12,10],[10,11,12]),([13,10],[10,13]),([14,10],[10,14]),([10],[10]),([16,10],[10,16]),([15,17,10,10],[10,15,17]),([18,10],[10,18]),([10,19,1],[1,10,19]),([1,20],[1,20]),([21,18,0,1,2,3,4,5,6,7,8,9,10,11,12,13,14,15,16,17,18,19,20,21],[0,21])])
def Lw17_MvsDowns.B15 : List Nat:=[0,1,3,3,15,31,63,3,131,511,1023,2047,2047,8191,16383,32767,2047,67583,262143,524287,1048575,2097151,4194303]
theorem Lw17_MvsDowns.tab15 : rtab .any (opsOf Tryz.f7 15) = Lw17_MvsDowns.T15:=by kernel_rfl
theorem Lw17_MvsDowns.bits15 : waitsOk Lw17_MvsDowns.T15.2 Lw17_MvsDowns.B15 = true:=by kernel_rfl
set_option maxHeartbeats 8000000 in
set_option maxRecDepth 100000 in
theorem Lw17_MvsDowns.calls (k : Nat) (A0 : Option Addr) (c0 : Nat) (l0 : List (S41)) (A1 : Option Addr) (c1 : Nat) (l1 : List (S68)) (a2_0 : ByteArray) (a2_1 : Int) (a2_2 : Int) (a2_3 : Int) (a2_4 : ByteArray) (a2_5 : ByteArray) (r : Bool) (w : World) (hr0 : Kd.C k41 w A0 l0.length l0) (hc0 : l0.length ≤ c0) (hr1 : Kd.C k68 w A1 l1.length l1) (hc1 : l1.length ≤ c1) (h : Lw17_MvsDowns.f k l0 l1 a2_0 a2_1 a2_2 a2_3 a2_4 a2_5 = some r) (hr_ : r = true) (hG : Env w) :
  Calls Tryz.prog 7 #[.slice A0 l0.length c0,.slice A1 l1.length c1,.agg #[.string a2_0,.int .i64 a2_1,.int .i64 a2_2,.int .i64 a2_3,.string a2_4,.string a2_5]] w fun e w' => e = .returned (.bool r) ∧ Below w.heap.size w w':=by
 have HG:=Aside0.mk hG
 clear hG
 have HR_:=Aside0.mk hr_
 clear hr_
 have hu41:=Tryz.underlying41
 have hu24:=Tryz.underlying24
 have HR0:=Aside0.mk hr0
 have HC0:=Aside0.mk hc0
 clear hr0 hc0
 have HR1:=Aside0.mk hr1
 have HC1:=Aside0.mk hc1
 clear hr1 hc1
 have HB:=Aside0.mk (Below.refl w.heap.size w)
 have H : ((Rf17_Small.f k l0 l1).bind fun t102 => (if t102 = true then ((Rf17_Small.f k (([(⟨a2_0,(⟨a2_1,a2_2,a2_3,a2_4,a2_5⟩ : S24)⟩ : S41)] : List (S41))) ([] : List (S68))).bind fun t106 => (if t106 = true then ((Rf17_May.f k a2_0 a2_1 a2_2 a2_3 a2_4 a2_5).bind fun t107 => (Lw17_MvsDowns.j0 k l0 l1 (!t107) a2_0 a2_1 a2_2 a2_3 a2_4 a2_5)) else (Lw17_MvsDowns.j0 k l0 l1 true a2_0 a2_1 a2_2 a2_3 a2_4 a2_5))) else (Lw17_MvsDowns.j0 k l0 l1 true a2_0 a2_1 a2_2 a2_3 a2_4 a2_5))) = some r:=h
 clear h
 have HC4:=Aside0.mk H
 clear H
 go_enter Tryz.func7,Tryz.ntmps7
 go_upto_region 1 with (first | ((with_reducible refine gate_dst (N:=5) rfl ?_);(try (refine gate_guard q55_ ?_;dsimp only));refine bx_ 5 41 #[.string a2_0,.int .i64 a2_1,.int .i64 a2_2,.int .i64 a2_3,.string a2_4,.string a2_5] ?_;intro gb101 hg w5 hbox hb;have BK101:=Aside0.mk (hbox);have GW101:=Aside0.mk ((q17_ : w.heap.size ≤ gb101));have GE101:=Aside0.mk ((q17_ : w.heap.size ≤ gb101));replace HB:=Aside0.mk (below_step bh_ hb);clear hb hbox hg))
 (try simp only [Act.put,List.setIfInBounds_toArray,List.set_cons_zero,List.set_cons_succ])
 go_cut [27] (fun v27 wc => ∃ (kq : Nat) (x27_3 : Bool),v27 = .bool x27_3 ∧ Aside0 (Lw17_MvsDowns.j0 kq l0 l1 x27_3 a2_0 a2_1 a2_2 a2_3 a2_4 a2_5 = some r) ∧ Aside0 (kq ≤ k) ∧ Aside0 (wc.heap[gb101]? = some (.cells #[.string a2_0,.int .i64 a2_1,.int .i64 a2_2,.int .i64 a2_3,.string a2_4,.string a2_5] 41 (0,0))) ∧ Aside0 (Below w.heap.size w wc))
 case first =>
  have H:=HC4.out
  clear HC4
  obtain ⟨t102,A60,H⟩:=Option.bind_eq_some_iff.mp H
  have A6:=Aside0.mk A60
  clear A60
  by_cases c7 : t102 = true
  ·subst c7
   rw [if_pos rfl] at H
   obtain ⟨y103,hy103⟩ : ∃ y_ : List (S41),y_ = (([(⟨a2_0,(⟨a2_1,a2_2,a2_3,a2_4,a2_5⟩ : S24)⟩ : S41)] : List (S41))):=⟨_,rfl⟩
   replace H : ((Rf17_Small.f k y103 ([] : List (S68))).bind fun t106 => (if t106 = true then ((Rf17_May.f k a2_0 a2_1 a2_2 a2_3 a2_4 a2_5).bind fun t107 => (Lw17_MvsDowns.j0 k l0 l1 (!t107) a2_0 a2_1 a2_2 a2_3 a2_4 a2_5)) else (Lw17_MvsDowns.j0 k l0 l1 true a2_0 a2_1 a2_2 a2_3 a2_4 a2_5))) = some r:=by first | (rw [hy103];with_reducible exact H) | (have H2_:=(Option.bind_some _ _).symm.trans H;rw [hy103];with_reducible exact H2_) | (have H2_:=(Option.bind_some _ _).symm.trans H;with_reducible exact H2_) | with_reducible exact H | (rw [hy103];exact H) | exact H
   have Ny103:=Aside0.mk hy103
   clear hy103
   obtain ⟨t106,A80,H⟩:=Option.bind_eq_some_iff.mp H
   have A8:=Aside0.mk A80
   clear A80
   by_cases c9 : t106 = true
   ·subst c9
    rw [if_pos rfl] at H
    obtain ⟨t107,A100,H⟩:=Option.bind_eq_some_iff.mp H
    have A10:=Aside0.mk A100
    clear A100
    have H':=Aside0.mk H
    clear H
    go_wp2_with (first | ((with_reducible refine gate_callee (f:=21) rfl ?_);refine gl_ 15 Tryz.func21 #[.slice A0 l0.length c0,.slice A1 l1.length c1] ?_;(with_reducible refine (Rf17_Small.calls k _ _ l0 _ _ l1 true _ ?side1 ?side2 ?side3 ?side4 A6.out).mono ?_);(case side1 => repeat (first | exact (Kd.C_below HR0.out HB.out) | (with_reducible refine Kd.C_alloc ?_ _) | (with_reducible refine Kd.C_drewN ?_ _) | (with_reducible refine Kd.C_drew ?_)));(case side2 => exact HC0.out);(case side3 => repeat (first | exact (Kd.C_below HR1.out HB.out) | (with_reducible refine Kd.C_alloc ?_ _) | (with_reducible refine Kd.C_drewN ?_ _) | (with_reducible refine Kd.C_drew ?_)));(case side4 => exact HC1.out);rintro e w11 ⟨rfl,hb⟩;refine ⟨_,rfl,?_⟩;replace BK101:=Aside0.mk (blk_below bk101_ hb);replace HB:=Aside0.mk (below_step bh_ hb);(try clear hb);have hcz12_0 : w11.cell? ⟨gb101,0,none⟩ = some (.string a2_0):=(blk_cell BK101.out 0).trans rfl;have hcz12_1 : w11.cell? ⟨gb101,1,none⟩ = some (.int .i64 a2_1):=(blk_cell BK101.out 1).trans rfl;have hcz12_2 : w11.cell? ⟨gb101,2,none⟩ = some (.int .i64 a2_2):=(blk_cell BK101.out 2).trans rfl;have hcz12_3 : w11.cell? ⟨gb101,3,none⟩ = some (.int .i64 a2_3):=(blk_cell BK101.out 3).trans rfl;have hcz12_4 : w11.cell? ⟨gb101,4,none⟩ = some (.string a2_4):=(blk_cell BK101.out 4).trans rfl;have hcz12_5 : w11.cell? ⟨gb101,5,none⟩ = some (.string a2_5):=(blk_cell BK101.out 5).trans rfl;have hfz12_0:=blk_frozen BK101.out 0;have hfz12_1:=blk_frozen BK101.out 1;have hfz12_2:=blk_frozen BK101.out 2;have hfz12_3:=blk_frozen BK101.out 3;have hfz12_4:=blk_frozen BK101.out 4;have hfz12_5:=blk_frozen BK101.out 5) | ((with_reducible refine gate_dst (N:=19) rfl ?_);(try (refine gate_guard q55_ ?_;dsimp only));refine Kd.R_lit k41 _ 41 ?hg (N:=19) ?hd (xs:=([(⟨a2_0,(⟨a2_1,a2_2,a2_3,a2_4,a2_5⟩ : S24)⟩ : S41)] : List (S41))) (inner:=[.string a2_0,.int .i64 a2_1,.int .i64 a2_2,.int .i64 a2_3,.string a2_4,.string a2_5]) (ok:=fun _ => True) (okp:=fun _ => True) ?hr ?hp (fun _ hk => hk) trivial (Below.refl _ _) (Nat.le_refl _) q25_ ?_;(case hd => rfl);(case hg => rfl);(case hr => first | (go_simp;done) | (go_simp;rfl));(case hp => exact (Reps.c6 (show Kd.M k41 _ _ _ (⟨a2_0,(⟨a2_1,a2_2,a2_3,a2_4,a2_5⟩ : S24)⟩ : S41) [.string a2_0,.int .i64 a2_1,.int .i64 a2_2,.int .i64 a2_3,.string a2_4,.string a2_5] from (k41_mkM _ _ _ (⟨a2_0,(⟨a2_1,a2_2,a2_3,a2_4,a2_5⟩ : S24)⟩ : S41) )) (Reps.none _ _)));intro v104 w13 ho14 hb hg_ hnew_;clear hg_ hnew_;(first | rw [← Ny103.out] at ho14 | (simp only [Int.reduceToNat] at ho14;rw [← Ny103.out] at ho14));have HO105:=Aside0.mk (Kd.R_lower (Kd.R_newB ho14 bk101_) (below_size bh_));replace BK101:=Aside0.mk (blk_below bk101_ hb);replace HB:=Aside0.mk (below_step bh_ hb);clear hb ho14;obtain ⟨Ao15,co15,eo15⟩:=Kd.R_slice HO105.out;subst eo15) | (go_at_call 21;(refine (Rf17_Small.calls k _ _ y103 _ _ ([] : List (S68)) true _ ?side1 ?side2 ?side3 ?side4 A8.out).mono ?_);(case side1 => repeat (first | exact (Kd.R_reads' HO105.out).2.2 | (with_reducible refine Kd.C_alloc ?_ _) | (with_reducible refine Kd.C_drewN ?_ _) | (with_reducible refine Kd.C_drew ?_)));(case side2 => exact (Kd.R_reads' HO105.out).2.1);(case side3 => exact Kd.C_nil _ _);(case side4 => exact Nat.le_refl _);rintro e w16 ⟨rfl,hb⟩;replace HO105:=Aside0.mk (Kd.R_below q36_ hb);replace BK101:=Aside0.mk (blk_below bk101_ hb);replace HB:=Aside0.mk (below_step bh_ hb);(try clear hb);have hcz17_0 : w16.cell? ⟨gb101,0,none⟩ = some (.string a2_0):=(blk_cell BK101.out 0).trans rfl;have hcz17_1 : w16.cell? ⟨gb101,1,none⟩ = some (.int .i64 a2_1):=(blk_cell BK101.out 1).trans rfl;have hcz17_2 : w16.cell? ⟨gb101,2,none⟩ = some (.int .i64 a2_2):=(blk_cell BK101.out 2).trans rfl;have hcz17_3 : w16.cell? ⟨gb101,3,none⟩ = some (.int .i64 a2_3):=(blk_cell BK101.out 3).trans rfl;have hcz17_4 : w16.cell? ⟨gb101,4,none⟩ = some (.string a2_4):=(blk_cell BK101.out 4).trans rfl;have hcz17_5 : w16.cell? ⟨gb101,5,none⟩ = some (.string a2_5):=(blk_cell BK101.out 5).trans rfl;have hfz17_0:=blk_frozen BK101.out 0;have hfz17_1:=blk_frozen BK101.out 1;have hfz17_2:=blk_frozen BK101.out 2;have hfz17_3:=blk_frozen BK101.out 3;have hfz17_4:=blk_frozen BK101.out 4;have hfz17_5:=blk_frozen BK101.out 5) | (go_at_call 35;(with_reducible refine (Rf17_May.calls k a2_0 a2_1 a2_2 a2_3 a2_4 a2_5 t107 _ A10.out).mono ?_);rintro e w18 ⟨rfl,hb⟩;replace HO105:=Aside0.mk (Kd.R_below q36_ hb);replace BK101:=Aside0.mk (blk_below bk101_ hb);replace HB:=Aside0.mk (below_step bh_ hb);(try clear hb)))
    go_meet
    case rel => exact ⟨_,(!t107),q12_,H',⟨by first | omega | exact Nat.le_refl _⟩,⟨by (with_reducible repeat (first | refine blk_drewN ?_ _ | refine blk_drew ?_ | refine blk_alloc ?_ _));exact BK101.out⟩,⟨by repeat (first | (with_reducible first | exact HB.out | apply below_alloc | apply pw_below_drewN | apply below_drew1 | refine below_set ?_ GE101.out) | exact HB.out)⟩⟩
   ·replace c9:=Bool.eq_false_iff.mpr c9
    subst c9
    rw [if_neg (show ¬ (false = true) by decide)] at H
    have H':=Aside0.mk H
    clear H
    go_wp2_with (first | ((with_reducible refine gate_callee (f:=21) rfl ?_);refine gl_ 15 Tryz.func21 #[.slice A0 l0.length c0,.slice A1 l1.length c1] ?_;(with_reducible refine (Rf17_Small.calls k _ _ l0 _ _ l1 true _ ?side1 ?side2 ?side3 ?side4 A6.out).mono ?_);(case side1 => repeat (first | exact (Kd.C_below HR0.out HB.out) | (with_reducible refine Kd.C_alloc ?_ _) | (with_reducible refine Kd.C_drewN ?_ _) | (with_reducible refine Kd.C_drew ?_)));(case side2 => exact HC0.out);(case side3 => repeat (first | exact (Kd.C_below HR1.out HB.out) | (with_reducible refine Kd.C_alloc ?_ _) | (with_reducible refine Kd.C_drewN ?_ _) | (with_reducible refine Kd.C_drew ?_)));(case side4 => exact HC1.out);rintro e w19 ⟨rfl,hb⟩;refine ⟨_,rfl,?_⟩;replace BK101:=Aside0.mk (blk_below bk101_ hb);replace HB:=Aside0.mk (below_step bh_ hb);(try clear hb);have hcz20_0 : w19.cell? ⟨gb101,0,none⟩ = some (.string a2_0):=(blk_cell BK101.out 0).trans rfl;have hcz20_1 : w19.cell? ⟨gb101,1,none⟩ = some (.int .i64 a2_1):=(blk_cell BK101.out 1).trans rfl;have hcz20_2 : w19.cell? ⟨gb101,2,none⟩ = some (.int .i64 a2_2):=(blk_cell BK101.out 2).trans rfl;have hcz20_3 : w19.cell? ⟨gb101,3,none⟩ = some (.int .i64 a2_3):=(blk_cell BK101.out 3).trans rfl;have hcz20_4 : w19.cell? ⟨gb101,4,none⟩ = some (.string a2_4):=(blk_cell BK101.out 4).trans rfl;have hcz20_5 : w19.cell? ⟨gb101,5,none⟩ = some (.string a2_5):=(blk_cell BK101.out 5).trans rfl;have hfz20_0:=blk_frozen BK101.out 0;have hfz20_1:=blk_frozen BK101.out 1;have hfz20_2:=blk_frozen BK101.out 2;have hfz20_3:=blk_frozen BK101.out 3;have hfz20_4:=blk_frozen BK101.out 4;have hfz20_5:=blk_frozen BK101.out 5) | ((with_reducible refine gate_dst (N:=19) rfl ?_);(try (refine gate_guard q55_ ?_;dsimp only));refine Kd.R_lit k41 _ 41 ?hg (N:=19) ?hd (xs:=([(⟨a2_0,(⟨a2_1,a2_2,a2_3,a2_4,a2_5⟩ : S24)⟩ : S41)] : List (S41))) (inner:=[.string a2_0,.int .i64 a2_1,.int .i64 a2_2,.int .i64 a2_3,.string a2_4,.string a2_5]) (ok:=fun _ => True) (okp:=fun _ => True) ?hr ?hp (fun _ hk => hk) trivial (Below.refl _ _) (Nat.le_refl _) q25_ ?_;(case hd => rfl);(case hg => rfl);(case hr => first | (go_simp;done) | (go_simp;rfl));(case hp => exact (Reps.c6 (show Kd.M k41 _ _ _ (⟨a2_0,(⟨a2_1,a2_2,a2_3,a2_4,a2_5⟩ : S24)⟩ : S41) [.string a2_0,.int .i64 a2_1,.int .i64 a2_2,.int .i64 a2_3,.string a2_4,.string a2_5] from (k41_mkM _ _ _ (⟨a2_0,(⟨a2_1,a2_2,a2_3,a2_4,a2_5⟩ : S24)⟩ : S41) )) (Reps.none _ _)));intro v104 w21 ho22 hb hg_ hnew_;clear hg_ hnew_;(first | rw [← Ny103.out] at ho22 | (simp only [Int.reduceToNat] at ho22;rw [← Ny103.out] at ho22));have HO105:=Aside0.mk (Kd.R_lower (Kd.R_newB ho22 bk101_) (below_size bh_));replace BK101:=Aside0.mk (blk_below bk101_ hb);replace HB:=Aside0.mk (below_step bh_ hb);clear hb ho22;obtain ⟨Ao23,co23,eo23⟩:=Kd.R_slice HO105.out;subst eo23) | (go_at_call 21;(refine (Rf17_Small.calls k _ _ y103 _ _ ([] : List (S68)) false _ ?side1 ?side2 ?side3 ?side4 A8.out).mono ?_);(case side1 => repeat (first | exact (Kd.R_reads' HO105.out).2.2 | (with_reducible refine Kd.C_alloc ?_ _) | (with_reducible refine Kd.C_drewN ?_ _) | (with_reducible refine Kd.C_drew ?_)));(case side2 => exact (Kd.R_reads' HO105.out).2.1);(case side3 => exact Kd.C_nil _ _);(case side4 => exact Nat.le_refl _);rintro e w24 ⟨rfl,hb⟩;replace HO105:=Aside0.mk (Kd.R_below q36_ hb);replace BK101:=Aside0.mk (blk_below bk101_ hb);replace HB:=Aside0.mk (below_step bh_ hb);(try clear hb)))
    go_meet
    case rel => exact ⟨_,(true),q12_,H',⟨by first | omega | exact Nat.le_refl _⟩,⟨by (with_reducible repeat (first | refine blk_drewN ?_ _ | refine blk_drew ?_ | refine blk_alloc ?_ _));exact BK101.out⟩,⟨by repeat (first | (with_reducible first | exact HB.out | apply below_alloc | apply pw_below_drewN | apply below_drew1 | refine below_set ?_ GE101.out) | exact HB.out)⟩⟩
  ·replace c7:=Bool.eq_false_iff.mpr c7
   subst c7
   rw [if_neg (show ¬ (false = true) by decide)] at H
   have H':=Aside0.mk H
   clear H
   go_wp2_with (first | ((with_reducible refine gate_callee (f:=21) rfl ?_);refine gl_ 15 Tryz.func21 #[.slice A0 l0.length c0,.slice A1 l1.length c1] ?_;(with_reducible refine (Rf17_Small.calls k _ _ l0 _ _ l1 false _ ?side1 ?side2 ?side3 ?side4 A6.out).mono ?_);(case side1 => repeat (first | exact (Kd.C_below HR0.out HB.out) | (with_reducible refine Kd.C_alloc ?_ _) | (with_reducible refine Kd.C_drewN ?_ _) | (with_reducible refine Kd.C_drew ?_)));(case side2 => exact HC0.out);(case side3 => repeat (first | exact (Kd.C_below HR1.out HB.out) | (with_reducible refine Kd.C_alloc ?_ _) | (with_reducible refine Kd.C_drewN ?_ _) | (with_reducible refine Kd.C_drew ?_)));(case side4 => exact HC1.out);rintro e w25 ⟨rfl,hb⟩;refine ⟨_,rfl,?_⟩;replace BK101:=Aside0.mk (blk_below bk101_ hb);replace HB:=Aside0.mk (below_step bh_ hb);(try clear hb)))
   go_meet
   case rel => exact ⟨_,(true),q12_,H',⟨by first | omega | exact Nat.le_refl _⟩,⟨by (with_reducible repeat (first | refine blk_drewN ?_ _ | refine blk_drew ?_ | refine blk_alloc ?_ _));exact BK101.out⟩,⟨by repeat (first | (with_reducible first | exact HB.out | apply below_alloc | apply pw_below_drewN | apply below_drew1 | refine below_set ?_ GE101.out) | exact HB.out)⟩⟩
 case rest =>
  clear HC4
  try clear c1
  try clear c2
  try clear p2
  try clear c6
  try clear c7
  try clear c9
  try clear c21
  try clear hcz12_0
  try clear hcz12_1
  try clear hcz12_2
  try clear hcz12_3
  try clear hcz12_4
  try clear hcz12_5
  try clear hcz17_0
  try clear hcz17_1
  try clear hcz17_2
  try clear hcz17_3
  try clear hcz17_4
  try clear hcz17_5
  try clear hcz20_0
  try clear hcz20_1
  try clear hcz20_2
  try clear hcz20_3
  try clear hcz20_4
  try clear hcz20_5
  try clear hfz12_0
  try clear hfz12_1
  try clear hfz12_2
  try clear hfz12_3
  try clear hfz12_4
  try clear hfz12_5
  try clear hfz17_0
  try clear hfz17_1
  try clear hfz17_2
  try clear hfz17_3
  try clear hfz17_4
  try clear hfz17_5
  try clear hfz20_0
  try clear hfz20_1
  try clear hfz20_2
  try clear hfz20_3
  try clear hfz20_4
  try clear hfz20_5
  obtain ⟨kq,x27_3,rfl,HA,HJ3,BK101,HB⟩:=hcut
  cases kq with
  | zero => exact absurd HA.out (by simp [Lw17_MvsDowns.j0])
  | succ kj3 =>
   have H:=HA.out
   clear HA
   simp only [Lw17_MvsDowns.j0] at H
   by_cases c26 : x27_3 = true
   ·subst c26
    rw [if_pos rfl] at H
    obtain ⟨t108,A270,H⟩:=Option.bind_eq_some_iff.mp H
    have A27:=Aside0.mk A270
    clear A270
    obtain rfl:=Option.some.inj H
    go_wp2_with (first | ((with_reducible refine gate_callee (f:=22) rfl ?_);refine gl_ 28 Tryz.func22 #[] ?_;(with_reducible refine (Lw17_live.calls kj3  t108 _ A27.out HR_.out ?sideG).mono ?_);(case sideG => first | exact HG.out | exact Env.below HG.out bh_);rintro e w28 ⟨rfl,hb⟩;refine ⟨_,rfl,?_⟩;replace BK101:=Aside0.mk (blk_below bk101_ hb);replace HB:=Aside0.mk (below_step bh_ hb);(try clear hb)))
    go_ret
    exact ⟨q2_,bh_⟩
   ·replace c26:=Bool.eq_false_iff.mpr c26
    subst c26
    rw [if_neg (show ¬ (false = true) by decide)] at H
    obtain ⟨t109,A290,H⟩:=Option.bind_eq_some_iff.mp H
    have A29:=Aside0.mk A290
    clear A290
    obtain ⟨t112,A300,H⟩:=Option.bind_eq_some_iff.mp H
    have A30:=Aside0.mk A300
    clear A300
    obtain ⟨t115,A310,H⟩:=Option.bind_eq_some_iff.mp H
    have A31:=Aside0.mk A310
    clear A310
    obtain ⟨t118,A320,H⟩:=Option.bind_eq_some_iff.mp H
    have A32:=Aside0.mk A320
    clear A320
    have H':=Aside0.mk H
    clear H
    try go_wp2
    replace BK101:=Aside0.mk (blk_drew BK101.out)
    replace HB:=Aside0.mk (below_drew1 HB.out)
    refine start_ (n:=6) (S:=fun w' => w'.cell? ⟨gb101,0,none⟩ = some (.string a2_0) ∧ w'.cell? ⟨gb101,1,none⟩ = some (.int .i64 a2_1) ∧ w'.cell? ⟨gb101,2,none⟩ = some (.int .i64 a2_2) ∧ w'.cell? ⟨gb101,3,none⟩ = some (.int .i64 a2_3) ∧ w'.cell? ⟨gb101,4,none⟩ = some (.string a2_4) ∧ w'.cell? ⟨gb101,5,none⟩ = some (.string a2_5)) (ds:=[]) #[false,false,false,false,false,false] q9_ rfl rfl ⟨(blk_cell BK101.out 0).trans rfl,(blk_cell BK101.out 1).trans rfl,(blk_cell BK101.out 2).trans rfl,(blk_cell BK101.out 3).trans rfl,(blk_cell BK101.out 4).trans rfl,(blk_cell BK101.out 5).trans rfl⟩ (fun hHeld => ?_)
    generalize wc.drew = w33 at BK101 HB hHeld ⊢
    refine pu_ 0 29 ?_
    refine pu_ 1 30 ?_
    refine tk_ 3 32 hHeld ?_
    refine one_ (i:=2) (N:=some 31) #[true,true,true,true,false,false] rfl rfl q9_ q30_ (fun K hK => ?_)
    refine goes_ Tryz.func23 q9_ rfl #[.slice A1 l1.length c1] q55_ rfl rfl q21_ ?_
    with_reducible refine (Lw17_own.calls kj3 (fun k_ => k_ < w.heap.size) _ _ l1 t109 _ ?side1 A29.out).mono ?_
    (case side1 => exact Kd.V_mk HC1.out (Kd.F_below (Kd.C_F k68_heap HR1.out) bh_))
    rintro e w34 ⟨v110,rfl,ho0,hb⟩
    refine ⟨_,rfl,?_⟩
    have HO111:=Aside0.mk (Kd.N_lower (Kd.N_mono (ok':=fun k_ => k_ ≠ gb101) ho0 (fun k_ hk_ => Or.elim hk_ (fun hs_ => fun e_ => Nat.not_le.2 hs_ (by rw [e_];exact GW101.out)) (fun hn_ => (Kd.freshB bk101_ k_ hn_)))) (below_size bh_))
    replace BK101:=Aside0.mk (blk_below bk101_ hb)
    replace HB:=Aside0.mk (below_step bh_ hb)
    (try clear hb)
    (try clear ho0)
    obtain ⟨Ao35,co35,eo35⟩:=Kd.N_slice HO111.out
    (first | subst eo35 | (injection eo35 with f1_ f2_ f3_;have f4_:=f1_.symm;have f5_:=f3_.symm;clear f1_ f2_ f3_;subst f4_;subst f5_))
    refine hK.out _ _ ⟨(blk_cell BK101.out 0).trans rfl,(blk_cell BK101.out 1).trans rfl,(blk_cell BK101.out 2).trans rfl,(blk_cell BK101.out 3).trans rfl,(blk_cell BK101.out 4).trans rfl,(blk_cell BK101.out 5).trans rfl⟩ (fun hHeld => ?_)
    clear hK K
    refine norm_ (a':=?_) ?_ ?_
    rotate_left
    ·show Act.put _ (some 31) _ = _
     simp only [Act.put,List.setIfInBounds_toArray,List.set_cons_zero,List.set_cons_succ,i64_w]
     rfl
    refine one_ (i:=4) (N:=some 33) #[true,true,true,true,true,false] rfl rfl q9_ q30_ (fun K hK => ?_)
    refine goes_ Tryz.func31 q9_ rfl #[.slice A0 l0.length c0,.slice Ao35 t109.length co35,.agg #[.string a2_0,.int .i64 a2_1,.int .i64 a2_2,.int .i64 a2_3,.string a2_4,.string a2_5]] q55_ rfl rfl q21_ ?_
    with_reducible refine (mvs_Downgrade.calls kj3 _ _ l0 _ _ t109 a2_0 a2_1 a2_2 a2_3 a2_4 a2_5 t112 _ ?side1 ?side2 ?side3 ?side4 A30.out ?sideG).mono ?_
    (case sideG => first | exact HG.out | exact Env.below HG.out bh_)
    (case side1 => repeat (first | exact (Kd.C_below HR0.out HB.out) | (with_reducible refine Kd.C_alloc ?_ _) | (with_reducible refine Kd.C_drewN ?_ _) | (with_reducible refine Kd.C_drew ?_)))
    (case side2 => exact HC0.out)
    (case side3 => repeat (first | exact (Kd.N_reads' HO111.out).2.2 | (with_reducible refine Kd.C_alloc ?_ _) | (with_reducible refine Kd.C_drewN ?_ _) | (with_reducible refine Kd.C_drew ?_)))
    (case side4 => exact (Kd.N_reads' HO111.out).2.1)
    rintro e w36 ⟨v113,rfl,ho0,hb⟩
    refine ⟨_,rfl,?_⟩
    replace HO111:=Aside0.mk (Kd.N_elder' q42_ (Kd.R_base ho0) hb)
    have HO114:=Aside0.mk (Kd.R_lower (Kd.R_newB ho0 bk101_) (below_size bh_))
    replace BK101:=Aside0.mk (blk_below bk101_ hb)
    replace HB:=Aside0.mk (below_step bh_ hb)
    (try clear hb)
    (try clear ho0)
    refine hK.out _ _ ⟨(blk_cell BK101.out 0).trans rfl,(blk_cell BK101.out 1).trans rfl,(blk_cell BK101.out 2).trans rfl,(blk_cell BK101.out 3).trans rfl,(blk_cell BK101.out 4).trans rfl,(blk_cell BK101.out 5).trans rfl⟩ (fun hHeld => ?_)
    clear hK K
    refine norm_ (a':=?_) ?_ ?_
    rotate_left
    ·show Act.put _ (some 33) _ = _
     simp only [Act.put,List.setIfInBounds_toArray,List.set_cons_zero,List.set_cons_succ,i64_w]
     rfl
    refine pu_ 5 7 ?_
    refine done_ q9_ ?_
    try go_wp2_with (first | ((with_reducible refine gate_callee (f:=23) rfl ?_);refine gl_ 36 Tryz.func23 #[.slice A1 l1.length c1] ?_;(with_reducible refine (Lw17_own.calls kj3 (fun k_ => k_ < w.heap.size) _ _ l1 t115 _ ?side1 A31.out).mono ?_);(case side1 => exact Kd.V_mk HC1.out (Kd.F_below (Kd.C_F k68_heap HR1.out) bh_));rintro e w37 ⟨v116,rfl,ho0,hb⟩;refine ⟨_,rfl,?_⟩;have HO117:=Aside0.mk (Kd.N_lower (Kd.N_mono (ok':=fun k_ => some k_ ≠ (.slice Ao35 t109.length co35 : Value).ownBlock ∧ some k_ ≠ (v113 : Value).ownBlock ∧ k_ ≠ gb101) ho0 (fun k_ hk_ => ⟨Or.elim hk_ (fun hs_ => fun e_ => Nat.not_le.2 hs_ (Kd.N_base HO111.out k_ e_.symm)) (fun hn_ => (Kd.fresh' (Kd.N_lt q42_) k_ hn_)),Or.elim hk_ (fun hs_ => fun e_ => Nat.not_le.2 hs_ (Kd.R_base HO114.out k_ e_.symm)) (fun hn_ => (Kd.fresh' (Kd.R_lt q41_) k_ hn_)),Or.elim hk_ (fun hs_ => fun e_ => Nat.not_le.2 hs_ (by rw [e_];exact GW101.out)) (fun hn_ => (Kd.freshB bk101_ k_ hn_))⟩)) (below_size bh_));replace HO111:=Aside0.mk (Kd.N_elder' q42_ (Kd.N_base ho0) hb);replace HO114:=Aside0.mk (Kd.R_below q41_ hb);replace BK101:=Aside0.mk (blk_below bk101_ hb);replace HB:=Aside0.mk (below_step bh_ hb);(try clear hb);(try clear ho0);obtain ⟨Ao38,co38,eo38⟩:=Kd.R_slice HO114.out;subst eo38;obtain ⟨Ao39,co39,eo39⟩:=Kd.N_slice HO117.out;subst eo39) | ((with_reducible refine gate_callee (f:=27) rfl ?_);refine gl_ 37 Tryz.func27 #[.slice Ao38 t112.length co38,.slice Ao39 t115.length co39] ?_;(with_reducible refine (mvs_List.calls _ _ t112 _ _ t115 t118 _ ?side1 ?side2 ?side3 ?side4 A32.out ?sideG).mono ?_);(case sideG => first | exact HG.out | exact Env.below HG.out bh_);(case side1 => repeat (first | exact (Kd.R_reads' HO114.out).2.2 | (with_reducible refine Kd.C_alloc ?_ _) | (with_reducible refine Kd.C_drewN ?_ _) | (with_reducible refine Kd.C_drew ?_)));(case side2 => exact (Kd.R_reads' HO114.out).2.1);(case side3 => repeat (first | exact (Kd.N_reads' HO117.out).2.2 | (with_reducible refine Kd.C_alloc ?_ _) | (with_reducible refine Kd.C_drewN ?_ _) | (with_reducible refine Kd.C_drew ?_)));(case side4 => exact (Kd.N_reads' HO117.out).2.1);rintro e w40 ⟨v119,rfl,ho0,hb⟩;refine ⟨_,rfl,?_⟩;replace HO111:=Aside0.mk (Kd.N_elder' q42_ (Kd.R_base ho0) hb);replace HO117:=Aside0.mk (Kd.N_elder' (by (with_reducible repeat (first | apply Kd.N_alloc | apply Kd.N_drewN | apply Kd.N_drew));exact HO117.out) (Kd.R_base ho0) hb);have HO120:=Aside0.mk (Kd.R_lower (Kd.R_newB (Kd.R_new' ho0 (Kd.R_lt q41_)) bk101_) (below_size bh_));replace HO114:=Aside0.mk (Kd.R_elder' q41_ (Kd.R_base ho0) hb);replace BK101:=Aside0.mk (blk_below bk101_ hb);replace HB:=Aside0.mk (below_step bh_ hb);(try clear hb);(try clear ho0)))
    go_loopg [9] kj3 (fun kq v9 w' => ∃ (x9_2 : Int),v9 = .int .i64 x9_2 ∧ Aside0 (Lw17_MvsDowns.l0 kq l0 l1 t112 t118 x9_2 a2_0 a2_1 a2_2 a2_3 a2_4 a2_5 = some r) ∧ Aside0 (kq ≤ kj3) ∧ Aside0 (Kd.R k41 41 w' w.heap.size (fun k_ => some k_ ≠ (v119 : Value).ownBlock ∧ k_ ≠ gb101) (.slice Ao38 t112.length co38) t112) ∧ Aside0 (Kd.R k41 41 w' w.heap.size (fun k_ => some k_ ≠ ((.slice Ao38 t112.length co38) : Value).ownBlock ∧ k_ ≠ gb101) v119 t118) ∧ Aside0 (w'.heap[gb101]? = some (.cells #[.string a2_0,.int .i64 a2_1,.int .i64 a2_2,.int .i64 a2_3,.string a2_4,.string a2_5] 41 (0,0))) ∧ Aside0 (Below w.heap.size w w'))
    case atStart => exact ⟨(0),q12_,H',⟨Nat.le_refl _⟩,⟨by (with_reducible repeat (first | apply Kd.R_alloc | apply Kd.R_drewN | apply Kd.R_drew));exact Kd.R_mono HO114.out (fun _ hk => ⟨hk.2,hk.1.2⟩)⟩,⟨by (with_reducible repeat (first | apply Kd.R_alloc | apply Kd.R_drewN | apply Kd.R_drew));exact Kd.R_mono HO120.out (fun _ hk => ⟨hk.1.2,hk.2⟩)⟩,⟨by (with_reducible repeat (first | refine blk_drewN ?_ _ | refine blk_drew ?_ | refine blk_alloc ?_ _));exact BK101.out⟩,⟨by repeat (first | (with_reducible first | exact HB.out | apply below_alloc | apply pw_below_drewN | apply below_drew1 | refine below_set ?_ GE101.out) | exact HB.out)⟩⟩
    case round =>
     clear H'
     try clear c1
     try clear c2
     try clear p2
     try clear c3
     try clear c6
     try clear c7
     try clear c9
     try clear c21
     try clear c22
     try clear c23
     try clear c26
     try clear c27
     try clear c31
     try clear hcz12_0
     try clear hcz12_1
     try clear hcz12_2
     try clear hcz12_3
     try clear hcz12_4
     try clear hcz12_5
     try clear hcz17_0
     try clear hcz17_1
     try clear hcz17_2
     try clear hcz17_3
     try clear hcz17_4
     try clear hcz17_5
     try clear hcz20_0
     try clear hcz20_1
     try clear hcz20_2
     try clear hcz20_3
     try clear hcz20_4
     try clear hcz20_5
     try clear hfz12_0
     try clear hfz12_1
     try clear hfz12_2
     try clear hfz12_3
     try clear hfz12_4
     try clear hfz12_5
     try clear hfz17_0
     try clear hfz17_1
     try clear hfz17_2
     try clear hfz17_3
     try clear hfz17_4
     try clear hfz17_5
     try clear hfz20_0
     try clear hfz20_1
     try clear hfz20_2
     try clear hfz20_3
     try clear hfz20_4
     try clear hfz20_5
     try clear p2
     obtain ⟨x9_2,rfl,HA,HK2,HO_7,HO_8,BK101,HB⟩:=hrel
     cases gk with
     | zero => exact absurd HA.out (by simp [Lw17_MvsDowns.l0])
     | succ k2 =>
      have H:=HA.out
      clear HA
      simp only [Lw17_MvsDowns.l0] at H
      by_cases c41 : x9_2 < (t118.length : Int)
      ·rw [if_pos c41] at H
       have c41b0:=decide_eq_true c41
       clear c41
       by_cases c42 : 0 ≤ x9_2
       ·rw [if_pos c42] at H
        have c42b0:=decide_eq_true c42
        clear c42
        by_cases c43 : ((rd_T41 t118 x9_2).f0).toList = a2_0.toList
        ·rw [if_pos c43] at H
         have c43b0:=beq_iff_eq.mpr c43
         have c43b1:=bne_eq_false_iff_eq.mpr c43
         clear c43
         obtain ⟨t123,A440,H⟩:=Option.bind_eq_some_iff.mp H
         have A44:=Aside0.mk A440
         clear A440
         by_cases c45 : t123 > 0
         ·rw [if_pos c45] at H
          exact absurd ((Option.some.inj H).trans HR_.out) q25_
         ·rw [if_neg c45] at H
          have c45b0 : decide (0 < t123) = false:=decide_eq_false c45
          clear c45
          have H':=Aside0.mk H
          clear H
          obtain ⟨Ao49,co49,eo49⟩:=Kd.R_slice HO_8.out
          subst eo49
          try go_wp2
          replace HO_7:=Aside0.mk (Kd.R_drew HO_7.out)
          replace HO_8:=Aside0.mk (Kd.R_drew HO_8.out)
          replace BK101:=Aside0.mk (blk_drew BK101.out)
          replace HB:=Aside0.mk (below_drew1 HB.out)
          have p121 : 0 ≤ (x9_2 : Int):=of_decide_eq_true q1_
          have q121 : x9_2 < (t118.length : Int):=of_decide_eq_true q1_
          obtain ⟨ad121,e121,hx121_0,hx121_1,hx121_2,hx121_3,hx121_4,hx121_5⟩:=at_T41 (Kd.R_reads' HO_8.out).2.2 x9_2 p121 q121
          cases e121
          replace p121:=eq_true p121
          replace q121:=eq_true q121
          have p122 : 0 ≤ (x9_2 : Int):=of_decide_eq_true q1_
          have q122 : x9_2 < (t118.length : Int):=of_decide_eq_true q1_
          obtain ⟨ad122,e122,hx122_0,hx122_1,hx122_2,hx122_3,hx122_4,hx122_5⟩:=at_T41 (Kd.R_reads' HO_8.out).2.2 x9_2 p122 q122
          obtain rfl : ad121 = ad122:=(by injection e122)
          replace p122:=eq_true p122
          replace q122:=eq_true q122
          refine start_ (n:=19) (S:=fun w' => w'.cell? ⟨gb101,0,none⟩ = some (.string a2_0) ∧ w'.cell? ⟨gb101,1,none⟩ = some (.int .i64 a2_1) ∧ w'.cell? ⟨gb101,2,none⟩ = some (.int .i64 a2_2) ∧ w'.cell? ⟨gb101,3,none⟩ = some (.int .i64 a2_3) ∧ w'.cell? ⟨gb101,4,none⟩ = some (.string a2_4) ∧ w'.cell? ⟨gb101,5,none⟩ = some (.string a2_5) ∧ w'.cell? (ad121.add ((x9_2).toNat * 6)) = some (.string ((rd_T41 t118 x9_2).f0)) ∧ w'.cell? ⟨(ad121.add ((x9_2).toNat * 6)).block,(ad121.add ((x9_2).toNat * 6)).off + 1,none⟩ = some (.int .i64 ((rd_T41 t118 x9_2).f1.f0)) ∧ w'.cell? ⟨(ad121.add ((x9_2).toNat * 6)).block,(ad121.add ((x9_2).toNat * 6)).off + 2,none⟩ = some (.int .i64 ((rd_T41 t118 x9_2).f1.f1)) ∧ w'.cell? ⟨(ad121.add ((x9_2).toNat * 6)).block,(ad121.add ((x9_2).toNat * 6)).off + 3,none⟩ = some (.int .i64 ((rd_T41 t118 x9_2).f1.f2)) ∧ w'.cell? ⟨(ad121.add ((x9_2).toNat * 6)).block,(ad121.add ((x9_2).toNat * 6)).off + 4,none⟩ = some (.string ((rd_T41 t118 x9_2).f1.f3)) ∧ w'.cell? ⟨(ad121.add ((x9_2).toNat * 6)).block,(ad121.add ((x9_2).toNat * 6)).off + 5,none⟩ = some (.string ((rd_T41 t118 x9_2).f1.f4)) ∧ w'.cell? (ad121.add ((x9_2).toNat * 6)) = some (.string ((rd_T41 t118 x9_2).f0)) ∧ w'.cell? ⟨(ad121.add ((x9_2).toNat * 6)).block,(ad121.add ((x9_2).toNat * 6)).off + 1,none⟩ = some (.int .i64 ((rd_T41 t118 x9_2).f1.f0)) ∧ w'.cell? ⟨(ad121.add ((x9_2).toNat * 6)).block,(ad121.add ((x9_2).toNat * 6)).off + 2,none⟩ = some (.int .i64 ((rd_T41 t118 x9_2).f1.f1)) ∧ w'.cell? ⟨(ad121.add ((x9_2).toNat * 6)).block,(ad121.add ((x9_2).toNat * 6)).off + 3,none⟩ = some (.int .i64 ((rd_T41 t118 x9_2).f1.f2)) ∧ w'.cell? ⟨(ad121.add ((x9_2).toNat * 6)).block,(ad121.add ((x9_2).toNat * 6)).off + 4,none⟩ = some (.string ((rd_T41 t118 x9_2).f1.f3)) ∧ w'.cell? ⟨(ad121.add ((x9_2).toNat * 6)).block,(ad121.add ((x9_2).toNat * 6)).off + 5,none⟩ = some (.string ((rd_T41 t118 x9_2).f1.f4))) (ds:=[]) #[false,false,false,false,false,false,false,false,false,false,false,false,false,false,false,false,false,false,false] q9_ rfl rfl ⟨(blk_cell BK101.out 0).trans rfl,(blk_cell BK101.out 1).trans rfl,(blk_cell BK101.out 2).trans rfl,(blk_cell BK101.out 3).trans rfl,(blk_cell BK101.out 4).trans rfl,(blk_cell BK101.out 5).trans rfl,hx121_0,hx121_1,hx121_2,hx121_3,hx121_4,hx121_5,hx122_0,hx122_1,hx122_2,hx122_3,hx122_4,hx122_5⟩ (fun hHeld => ?_);refine with_tabW Lw17_MvsDowns.tab8 Lw17_MvsDowns.bits8 (fun HT_ HW_ => ?_)
          generalize wr.drew = w50 at HO_7 HO_8 BK101 HB hx121_0 hx121_1 hx121_2 hx121_3 hx121_4 hx121_5 hx122_0 hx122_1 hx122_2 hx122_3 hx122_4 hx122_5 hHeld ⊢
          refine pu_ 0 44 ?_
          refine pu_ 1 45 ?_
          refine pu_ 2 46 ?_
          refine pu_ 3 47 ?_
          refine pu_ 5 49 ?_
          refine tk_ 4 48 hHeld ?_
          refine tk_ 6 50 hHeld ?_
          refine pu_ 7 51 ?_
          refine pu_ 8 52 ?_
          refine pu_ 9 53 ?_
          refine pu_ 10 54 ?_
          refine pu_ 11 55 ?_
          refine pu_ 12 56 ?_
          refine pu_ 14 58 ?_
          refine tk_ 13 57 hHeld ?_
          refine tk_ 15 59 hHeld ?_
          refine one_ (i:=16) (N:=some 60) #[true,true,true,true,true,true,true,true,true,true,true,true,true,true,true,true,true,false,false] rfl rfl (one_of HT_.out q9_) q30_ (fun K hK => ?_)
          refine goes_ Tryz.func36 q9_ rfl #[.agg #[.int .i64 ((rd_T41 t118 x9_2).f1.f0),.int .i64 ((rd_T41 t118 x9_2).f1.f1),.int .i64 ((rd_T41 t118 x9_2).f1.f2),.string ((rd_T41 t118 x9_2).f1.f3),.string ((rd_T41 t118 x9_2).f1.f4)],.agg #[.int .i64 a2_1,.int .i64 a2_2,.int .i64 a2_3,.string a2_4,.string a2_5]] q55_ rfl rfl q21_ ?_
          with_reducible refine (Rf07_Compare.calls k2 ((rd_T41 t118 x9_2).f1.f0) ((rd_T41 t118 x9_2).f1.f1) ((rd_T41 t118 x9_2).f1.f2) ((rd_T41 t118 x9_2).f1.f3) ((rd_T41 t118 x9_2).f1.f4) a2_1 a2_2 a2_3 a2_4 a2_5 t123 _ A44.out).mono ?_
          rintro e w51 ⟨rfl,hb⟩
          have HS6_:=(hb.cell (World.block_lt_of_cell? _ _ (hHeld.2.2.2.2.2.2.1))).trans (hHeld.2.2.2.2.2.2.1)
          have HS7_:=(hb.cell (World.block_lt_of_cell? _ _ (hHeld.2.2.2.2.2.2.2.1))).trans (hHeld.2.2.2.2.2.2.2.1)
          have HS8_:=(hb.cell (World.block_lt_of_cell? _ _ (hHeld.2.2.2.2.2.2.2.2.1))).trans (hHeld.2.2.2.2.2.2.2.2.1)
          have HS9_:=(hb.cell (World.block_lt_of_cell? _ _ (hHeld.2.2.2.2.2.2.2.2.2.1))).trans (hHeld.2.2.2.2.2.2.2.2.2.1)
          have HS10_:=(hb.cell (World.block_lt_of_cell? _ _ (hHeld.2.2.2.2.2.2.2.2.2.2.1))).trans (hHeld.2.2.2.2.2.2.2.2.2.2.1)
          have HS11_:=(hb.cell (World.block_lt_of_cell? _ _ (hHeld.2.2.2.2.2.2.2.2.2.2.2.1))).trans (hHeld.2.2.2.2.2.2.2.2.2.2.2.1)
          have HS12_:=(hb.cell (World.block_lt_of_cell? _ _ (hHeld.2.2.2.2.2.2.2.2.2.2.2.2.1))).trans (hHeld.2.2.2.2.2.2.2.2.2.2.2.2.1)
          have HS13_:=(hb.cell (World.block_lt_of_cell? _ _ (hHeld.2.2.2.2.2.2.2.2.2.2.2.2.2.1))).trans (hHeld.2.2.2.2.2.2.2.2.2.2.2.2.2.1)
          have HS14_:=(hb.cell (World.block_lt_of_cell? _ _ (hHeld.2.2.2.2.2.2.2.2.2.2.2.2.2.2.1))).trans (hHeld.2.2.2.2.2.2.2.2.2.2.2.2.2.2.1)
          have HS15_:=(hb.cell (World.block_lt_of_cell? _ _ (hHeld.2.2.2.2.2.2.2.2.2.2.2.2.2.2.2.1))).trans (hHeld.2.2.2.2.2.2.2.2.2.2.2.2.2.2.2.1)
          have HS16_:=(hb.cell (World.block_lt_of_cell? _ _ (hHeld.2.2.2.2.2.2.2.2.2.2.2.2.2.2.2.2.1))).trans (hHeld.2.2.2.2.2.2.2.2.2.2.2.2.2.2.2.2.1)
          have HS17_:=(hb.cell (World.block_lt_of_cell? _ _ (hHeld.2.2.2.2.2.2.2.2.2.2.2.2.2.2.2.2.2))).trans (hHeld.2.2.2.2.2.2.2.2.2.2.2.2.2.2.2.2.2)
          refine ⟨_,rfl,?_⟩
          replace HO_7:=Aside0.mk (Kd.R_below q26_ hb)
          replace HO_8:=Aside0.mk (Kd.R_below q22_ hb)
          replace BK101:=Aside0.mk (blk_below bk101_ hb)
          replace HB:=Aside0.mk (below_step bh_ hb)
          (try clear hb)
          (try clear hb2)
          (try clear hk)
          (try clear hi)
          refine hK.out _ _ ⟨(blk_cell BK101.out 0).trans rfl,(blk_cell BK101.out 1).trans rfl,(blk_cell BK101.out 2).trans rfl,(blk_cell BK101.out 3).trans rfl,(blk_cell BK101.out 4).trans rfl,(blk_cell BK101.out 5).trans rfl,HS6_,HS7_,HS8_,HS9_,HS10_,HS11_,HS12_,HS13_,HS14_,HS15_,HS16_,HS17_⟩ (fun hHeld => ?_)
          clear hK K
          refine norm_ (a':=?_) ?_ ?_
          rotate_left
          ·show Act.put _ (some 60) _ = _
           simp only [Act.put,List.setIfInBounds_toArray,List.set_cons_zero,List.set_cons_succ,i64_w]
           rfl
          refine pu_ 17 61 ?_
          refine pu_ 18 62 ?_
          refine done_ (done_of HT_.out q9_) ?_
          try go_wp2
          go_roundg k2
          case measure => have:=HJ3.out;have:=HK2.out;omega
          case rel => exact ⟨(wrap64 (x9_2 + 1)),q12_,H',⟨by have:=HJ3.out;have:=HK2.out;omega⟩,⟨by (with_reducible repeat (first | apply Kd.R_alloc | apply Kd.R_drewN | apply Kd.R_drew));exact HO_7.out⟩,⟨by (with_reducible repeat (first | apply Kd.R_alloc | apply Kd.R_drewN | apply Kd.R_drew));exact HO_8.out⟩,⟨by (with_reducible repeat (first | refine blk_drewN ?_ _ | refine blk_drew ?_ | refine blk_alloc ?_ _));exact BK101.out⟩,⟨by repeat (first | (with_reducible first | exact HB.out | apply below_alloc | apply pw_below_drewN | apply below_drew1 | refine below_set ?_ GE101.out) | exact HB.out)⟩⟩
        ·rw [if_neg c43] at H
         have c43b0:=beq_eq_false_iff_ne.mpr c43
         have c43b1:=bne_iff_ne.mpr c43
         have H':=Aside0.mk H
         clear H
         obtain ⟨Ao52,co52,eo52⟩:=Kd.R_slice HO_8.out
         subst eo52
         try go_wp2
         replace HO_7:=Aside0.mk (Kd.R_drew HO_7.out)
         replace HO_8:=Aside0.mk (Kd.R_drew HO_8.out)
         replace BK101:=Aside0.mk (blk_drew BK101.out)
         replace HB:=Aside0.mk (below_drew1 HB.out)
         have p121 : 0 ≤ (x9_2 : Int):=of_decide_eq_true q1_
         have q121 : x9_2 < (t118.length : Int):=of_decide_eq_true q1_
         obtain ⟨ad121,e121,hx121_0,hx121_1,hx121_2,hx121_3,hx121_4,hx121_5⟩:=at_T41 (Kd.R_reads' HO_8.out).2.2 x9_2 p121 q121
         cases e121
         replace p121:=eq_true p121
         replace q121:=eq_true q121
         refine start_ (n:=19) (S:=fun w' => w'.cell? ⟨gb101,0,none⟩ = some (.string a2_0) ∧ w'.cell? ⟨gb101,1,none⟩ = some (.int .i64 a2_1) ∧ w'.cell? ⟨gb101,2,none⟩ = some (.int .i64 a2_2) ∧ w'.cell? ⟨gb101,3,none⟩ = some (.int .i64 a2_3) ∧ w'.cell? ⟨gb101,4,none⟩ = some (.string a2_4) ∧ w'.cell? ⟨gb101,5,none⟩ = some (.string a2_5) ∧ w'.cell? (ad121.add ((x9_2).toNat * 6)) = some (.string ((rd_T41 t118 x9_2).f0)) ∧ w'.cell? ⟨(ad121.add ((x9_2).toNat * 6)).block,(ad121.add ((x9_2).toNat * 6)).off + 1,none⟩ = some (.int .i64 ((rd_T41 t118 x9_2).f1.f0)) ∧ w'.cell? ⟨(ad121.add ((x9_2).toNat * 6)).block,(ad121.add ((x9_2).toNat * 6)).off + 2,none⟩ = some (.int .i64 ((rd_T41 t118 x9_2).f1.f1)) ∧ w'.cell? ⟨(ad121.add ((x9_2).toNat * 6)).block,(ad121.add ((x9_2).toNat * 6)).off + 3,none⟩ = some (.int .i64 ((rd_T41 t118 x9_2).f1.f2)) ∧ w'.cell? ⟨(ad121.add ((x9_2).toNat * 6)).block,(ad121.add ((x9_2).toNat * 6)).off + 4,none⟩ = some (.string ((rd_T41 t118 x9_2).f1.f3)) ∧ w'.cell? ⟨(ad121.add ((x9_2).toNat * 6)).block,(ad121.add ((x9_2).toNat * 6)).off + 5,none⟩ = some (.string ((rd_T41 t118 x9_2).f1.f4))) (ds:=[]) #[false,false,false,false,false,false,false,false,false,false,false,false,false,false,false,false,false,false,false] q9_ rfl rfl ⟨(blk_cell BK101.out 0).trans rfl,(blk_cell BK101.out 1).trans rfl,(blk_cell BK101.out 2).trans rfl,(blk_cell BK101.out 3).trans rfl,(blk_cell BK101.out 4).trans rfl,(blk_cell BK101.out 5).trans rfl,hx121_0,hx121_1,hx121_2,hx121_3,hx121_4,hx121_5⟩ (fun hHeld => ?_);refine with_tabW Lw17_MvsDowns.tab8 Lw17_MvsDowns.bits8 (fun HT_ HW_ => ?_)
         generalize wr.drew = w53 at HO_7 HO_8 BK101 HB hx121_0 hx121_1 hx121_2 hx121_3 hx121_4 hx121_5 hHeld ⊢
         refine pu_ 0 44 ?_
         refine pu_ 1 45 ?_
         refine pu_ 2 46 ?_
         refine pu_ 3 47 ?_
         refine pu_ 5 49 ?_
         refine tk_ 4 48 hHeld ?_
         refine tk_ 6 50 hHeld ?_
         refine pu_ 7 51 ?_
         refine pu_ 8 52 ?_
         refine pn_ 9 53 ?_
         refine pn_ 10 54 ?_
         refine pn_ 11 55 ?_
         refine pn_ 12 56 ?_
         refine pn_ 13 57 ?_
         refine pn_ 14 58 ?_
         refine pn_ 15 59 ?_
         refine pn_ 16 60 ?_
         refine pn_ 17 61 ?_
         refine pu_ 18 62 ?_
         refine done_ (done_of HT_.out q9_) ?_
         try go_wp2
         go_roundg k2
         case measure => have:=HJ3.out;have:=HK2.out;omega
         case rel => exact ⟨(wrap64 (x9_2 + 1)),q12_,H',⟨by have:=HJ3.out;have:=HK2.out;omega⟩,⟨by (with_reducible repeat (first | apply Kd.R_alloc | apply Kd.R_drewN | apply Kd.R_drew));exact HO_7.out⟩,⟨by (with_reducible repeat (first | apply Kd.R_alloc | apply Kd.R_drewN | apply Kd.R_drew));exact HO_8.out⟩,⟨by (with_reducible repeat (first | refine blk_drewN ?_ _ | refine blk_drew ?_ | refine blk_alloc ?_ _));exact BK101.out⟩,⟨by repeat (first | (with_reducible first | exact HB.out | apply below_alloc | apply pw_below_drewN | apply below_drew1 | refine below_set ?_ GE101.out) | exact HB.out)⟩⟩
       ·rw [if_neg c42] at H
        exact absurd H q25_
      ·rw [if_neg c41] at H
       have c41b0:=decide_eq_false c41
       clear c41
       obtain ⟨t124,A540,H⟩:=Option.bind_eq_some_iff.mp H
       have A54:=Aside0.mk A540
       clear A540
       obtain ⟨t127,A550,H⟩:=Option.bind_eq_some_iff.mp H
       have A55:=Aside0.mk A550
       clear A550
       have H':=Aside0.mk H
       clear H
       obtain ⟨Ao56,co56,eo56⟩:=Kd.R_slice HO_8.out
       subst eo56
       go_wp2_with (first | ((with_reducible refine gate_callee (f:=23) rfl ?_);refine gl_ 65 Tryz.func23 #[.slice A1 l1.length c1] ?_;(with_reducible refine (Lw17_own.calls k2 (fun k_ => k_ < w.heap.size) _ _ l1 t124 _ ?side1 A54.out).mono ?_);(case side1 => exact Kd.V_mk HC1.out (Kd.F_below (Kd.C_F k68_heap HR1.out) bh_));rintro e w57 ⟨v125,rfl,ho0,hb⟩;refine ⟨_,rfl,?_⟩;have HO126:=Aside0.mk (Kd.N_lower (Kd.N_mono (ok':=fun k_ => some k_ ≠ (.slice Ao38 t112.length co38 : Value).ownBlock ∧ some k_ ≠ (.slice Ao56 t118.length co56 : Value).ownBlock ∧ k_ ≠ gb101) ho0 (fun k_ hk_ => ⟨Or.elim hk_ (fun hs_ => fun e_ => Nat.not_le.2 hs_ (Kd.R_base HO_7.out k_ e_.symm)) (fun hn_ => (Kd.fresh' (Kd.R_lt q26_) k_ hn_)),Or.elim hk_ (fun hs_ => fun e_ => Nat.not_le.2 hs_ (Kd.R_base HO_8.out k_ e_.symm)) (fun hn_ => (Kd.fresh' (Kd.R_lt q22_) k_ hn_)),Or.elim hk_ (fun hs_ => fun e_ => Nat.not_le.2 hs_ (by rw [e_];exact GW101.out)) (fun hn_ => (Kd.freshB bk101_ k_ hn_))⟩)) (below_size bh_));replace HO_7:=Aside0.mk (Kd.R_below q26_ hb);replace HO_8:=Aside0.mk (Kd.R_below q22_ hb);replace BK101:=Aside0.mk (blk_below bk101_ hb);replace HB:=Aside0.mk (below_step bh_ hb);(try clear hb);(try clear ho0);obtain ⟨Ao58,co58,eo58⟩:=Kd.N_slice HO126.out;subst eo58) | ((with_reducible refine gate_callee (f:=27) rfl ?_);refine gl_ 66 Tryz.func27 #[.slice A0 l0.length c0,.slice Ao58 t124.length co58] ?_;(with_reducible refine (mvs_List.calls _ _ l0 _ _ t124 t127 _ ?side1 ?side2 ?side3 ?side4 A55.out ?sideG).mono ?_);(case sideG => first | exact HG.out | exact Env.below HG.out bh_);(case side1 => repeat (first | exact (Kd.C_below HR0.out HB.out) | (with_reducible refine Kd.C_alloc ?_ _) | (with_reducible refine Kd.C_drewN ?_ _) | (with_reducible refine Kd.C_drew ?_)));(case side2 => exact HC0.out);(case side3 => repeat (first | exact (Kd.N_reads' HO126.out).2.2 | (with_reducible refine Kd.C_alloc ?_ _) | (with_reducible refine Kd.C_drewN ?_ _) | (with_reducible refine Kd.C_drew ?_)));(case side4 => exact (Kd.N_reads' HO126.out).2.1);rintro e w59 ⟨v128,rfl,ho0,hb⟩;refine ⟨_,rfl,?_⟩;replace HO126:=Aside0.mk (Kd.N_elder' (by (with_reducible repeat (first | apply Kd.N_alloc | apply Kd.N_drewN | apply Kd.N_drew));exact HO126.out) (Kd.R_base ho0) hb);have HO129:=Aside0.mk (Kd.R_lower (Kd.R_newB (Kd.R_new' (Kd.R_new' ho0 (Kd.R_lt q26_)) (Kd.R_lt q22_)) bk101_) (below_size bh_));replace HO_7:=Aside0.mk (Kd.R_elder' q26_ (Kd.R_base ho0) hb);replace HO_8:=Aside0.mk (Kd.R_elder' q22_ (Kd.R_base ho0) hb);replace BK101:=Aside0.mk (blk_below bk101_ hb);replace HB:=Aside0.mk (below_step bh_ hb);(try clear hb);(try clear ho0)))
       go_loopg [11,12] k2 (fun kq v11 v12 w' => ∃ (x11_3 : Bool) (x12_3 : Int),v11 = .bool x11_3 ∧ v12 = .int .i64 x12_3 ∧ Aside0 (Lw17_MvsDowns.l1 kq l0 t112 t127 x11_3 x12_3 a2_0 a2_1 a2_2 a2_3 a2_4 a2_5 = some r) ∧ Aside0 (kq ≤ k2) ∧ Aside0 (Kd.R k41 41 w' w.heap.size (fun k_ => some k_ ≠ (v128 : Value).ownBlock ∧ k_ ≠ gb101) (.slice Ao38 t112.length co38) t112) ∧ Aside0 (Kd.R k41 41 w' w.heap.size (fun k_ => some k_ ≠ ((.slice Ao38 t112.length co38) : Value).ownBlock ∧ k_ ≠ gb101) v128 t127) ∧ Aside0 (w'.heap[gb101]? = some (.cells #[.string a2_0,.int .i64 a2_1,.int .i64 a2_2,.int .i64 a2_3,.string a2_4,.string a2_5] 41 (0,0))) ∧ Aside0 (Below w.heap.size w w'))
       case atStart => exact ⟨(true),(0),q12_,q12_,H',⟨Nat.le_refl _⟩,⟨by (with_reducible repeat (first | apply Kd.R_alloc | apply Kd.R_drewN | apply Kd.R_drew));exact Kd.R_mono HO_7.out (fun _ hk => ⟨hk.2,hk.1.2⟩)⟩,⟨by (with_reducible repeat (first | apply Kd.R_alloc | apply Kd.R_drewN | apply Kd.R_drew));exact Kd.R_mono HO129.out (fun _ hk => ⟨hk.1.1.2,hk.2⟩)⟩,⟨by (with_reducible repeat (first | refine blk_drewN ?_ _ | refine blk_drew ?_ | refine blk_alloc ?_ _));exact BK101.out⟩,⟨by repeat (first | (with_reducible first | exact HB.out | apply below_alloc | apply pw_below_drewN | apply below_drew1 | refine below_set ?_ GE101.out) | exact HB.out)⟩⟩
       case round =>
        clear H'
        try clear c1
        try clear p1
        try clear q1
        try clear hx1
        try clear c2
        try clear p2
        try clear c3
        try clear c4
        try clear p6
        try clear p12
        try clear q12
        try clear hx12
        try clear c23
        try clear c27
        try clear c36
        try clear c41
        try clear c41b0
        try clear c42
        try clear c43
        try clear c43b0
        try clear c43b1
        try clear c45
        try clear c45b0
        try clear hx121_0
        try clear hx121_1
        try clear hx121_2
        try clear hx121_3
        try clear hx121_4
        try clear hx121_5
        try clear hx122_0
        try clear hx122_1
        try clear hx122_2
        try clear hx122_3
        try clear hx122_4
        try clear hx122_5
        try clear p121
        try clear p122
        try clear q121
        try clear q122
        obtain ⟨x11_3,x12_3,rfl,rfl,HA,HK3,HO_7,HO_10,BK101,HB⟩:=hrel
        cases gk with
        | zero => exact absurd HA.out (by simp [Lw17_MvsDowns.l1])
        | succ k3 =>
         have H:=HA.out
         clear HA
         simp only [Lw17_MvsDowns.l1] at H
         by_cases c60 : x12_3 < (t127.length : Int)
         ·rw [if_pos c60] at H
          have c60b0:=decide_eq_true c60
          clear c60
          by_cases c61 : x11_3 = true
          ·subst c61
           rw [if_pos rfl] at H
           by_cases c62 : 0 ≤ x12_3
           ·rw [if_pos c62] at H
            have c62b0:=decide_eq_true c62
            clear c62
            by_cases c63 : ((rd_T41 t127 x12_3).f0).toList = a2_0.toList
            ·rw [if_pos c63] at H
             have c63b0:=beq_iff_eq.mpr c63
             have c63b1:=bne_eq_false_iff_eq.mpr c63
             clear c63
             obtain ⟨t132,A640,H⟩:=Option.bind_eq_some_iff.mp H
             have A64:=Aside0.mk A640
             clear A640
             have H':=Aside0.mk H
             clear H
             obtain ⟨Ao65,co65,eo65⟩:=Kd.R_slice HO_10.out
             subst eo65
             try go_wp2
             replace HO_7:=Aside0.mk (Kd.R_drew HO_7.out)
             replace HO_10:=Aside0.mk (Kd.R_drew HO_10.out)
             replace BK101:=Aside0.mk (blk_drew BK101.out)
             replace HB:=Aside0.mk (below_drew1 HB.out)
             have p130 : 0 ≤ (x12_3 : Int):=of_decide_eq_true q1_
             have q130 : x12_3 < (t127.length : Int):=of_decide_eq_true q1_
             obtain ⟨ad130,e130,hx130_0,hx130_1,hx130_2,hx130_3,hx130_4,hx130_5⟩:=at_T41 (Kd.R_reads' HO_10.out).2.2 x12_3 p130 q130
             cases e130
             replace p130:=eq_true p130
             replace q130:=eq_true q130
             have p131 : 0 ≤ (x12_3 : Int):=of_decide_eq_true q1_
             have q131 : x12_3 < (t127.length : Int):=of_decide_eq_true q1_
             obtain ⟨ad131,e131,hx131_0,hx131_1,hx131_2,hx131_3,hx131_4,hx131_5⟩:=at_T41 (Kd.R_reads' HO_10.out).2.2 x12_3 p131 q131
             obtain rfl : ad130 = ad131:=(by injection e131)
             replace p131:=eq_true p131
             replace q131:=eq_true q131
             refine start_ (n:=23) (S:=fun w' => w'.cell? ⟨gb101,0,none⟩ = some (.string a2_0) ∧ w'.cell? ⟨gb101,1,none⟩ = some (.int .i64 a2_1) ∧ w'.cell? ⟨gb101,2,none⟩ = some (.int .i64 a2_2) ∧ w'.cell? ⟨gb101,3,none⟩ = some (.int .i64 a2_3) ∧ w'.cell? ⟨gb101,4,none⟩ = some (.string a2_4) ∧ w'.cell? ⟨gb101,5,none⟩ = some (.string a2_5) ∧ w'.cell? (ad130.add ((x12_3).toNat * 6)) = some (.string ((rd_T41 t127 x12_3).f0)) ∧ w'.cell? ⟨(ad130.add ((x12_3).toNat * 6)).block,(ad130.add ((x12_3).toNat * 6)).off + 1,none⟩ = some (.int .i64 ((rd_T41 t127 x12_3).f1.f0)) ∧ w'.cell? ⟨(ad130.add ((x12_3).toNat * 6)).block,(ad130.add ((x12_3).toNat * 6)).off + 2,none⟩ = some (.int .i64 ((rd_T41 t127 x12_3).f1.f1)) ∧ w'.cell? ⟨(ad130.add ((x12_3).toNat * 6)).block,(ad130.add ((x12_3).toNat * 6)).off + 3,none⟩ = some (.int .i64 ((rd_T41 t127 x12_3).f1.f2)) ∧ w'.cell? ⟨(ad130.add ((x12_3).toNat * 6)).block,(ad130.add ((x12_3).toNat * 6)).off + 4,none⟩ = some (.string ((rd_T41 t127 x12_3).f1.f3)) ∧ w'.cell? ⟨(ad130.add ((x12_3).toNat * 6)).block,(ad130.add ((x12_3).toNat * 6)).off + 5,none⟩ = some (.string ((rd_T41 t127 x12_3).f1.f4)) ∧ w'.cell? (ad130.add ((x12_3).toNat * 6)) = some (.string ((rd_T41 t127 x12_3).f0)) ∧ w'.cell? ⟨(ad130.add ((x12_3).toNat * 6)).block,(ad130.add ((x12_3).toNat * 6)).off + 1,none⟩ = some (.int .i64 ((rd_T41 t127 x12_3).f1.f0)) ∧ w'.cell? ⟨(ad130.add ((x12_3).toNat * 6)).block,(ad130.add ((x12_3).toNat * 6)).off + 2,none⟩ = some (.int .i64 ((rd_T41 t127 x12_3).f1.f1)) ∧ w'.cell? ⟨(ad130.add ((x12_3).toNat * 6)).block,(ad130.add ((x12_3).toNat * 6)).off + 3,none⟩ = some (.int .i64 ((rd_T41 t127 x12_3).f1.f2)) ∧ w'.cell? ⟨(ad130.add ((x12_3).toNat * 6)).block,(ad130.add ((x12_3).toNat * 6)).off + 4,none⟩ = some (.string ((rd_T41 t127 x12_3).f1.f3)) ∧ w'.cell? ⟨(ad130.add ((x12_3).toNat * 6)).block,(ad130.add ((x12_3).toNat * 6)).off + 5,none⟩ = some (.string ((rd_T41 t127 x12_3).f1.f4))) (ds:=[]) #[false,false,false,false,false,false,false,false,false,false,false,false,false,false,false,false,false,false,false,false,false,false,false] q9_ rfl rfl ⟨(blk_cell BK101.out 0).trans rfl,(blk_cell BK101.out 1).trans rfl,(blk_cell BK101.out 2).trans rfl,(blk_cell BK101.out 3).trans rfl,(blk_cell BK101.out 4).trans rfl,(blk_cell BK101.out 5).trans rfl,hx130_0,hx130_1,hx130_2,hx130_3,hx130_4,hx130_5,hx131_0,hx131_1,hx131_2,hx131_3,hx131_4,hx131_5⟩ (fun hHeld => ?_);refine with_tabW Lw17_MvsDowns.tab15 Lw17_MvsDowns.bits15 (fun HT_ HW_ => ?_)
             generalize wr.drew = w66 at HO_7 HO_10 BK101 HB hx130_0 hx130_1 hx130_2 hx130_3 hx130_4 hx130_5 hx131_0 hx131_1 hx131_2 hx131_3 hx131_4 hx131_5 hHeld ⊢
             refine pu_ 0 73 ?_
             refine pu_ 1 74 ?_
             refine pu_ 2 75 ?_
             refine pu_ 3 76 ?_
             refine pu_ 4 77 ?_
             refine pu_ 5 78 ?_
             refine pu_ 7 80 ?_
             refine tk_ 6 79 hHeld ?_
             refine tk_ 8 81 hHeld ?_
             refine pu_ 9 82 ?_
             refine pu_ 10 83 ?_
             refine pu_ 11 84 ?_
             refine pu_ 12 85 ?_
             refine pu_ 13 86 ?_
             refine pu_ 14 87 ?_
             refine pu_ 16 89 ?_
             refine tk_ 15 88 hHeld ?_
             refine tk_ 17 90 hHeld ?_
             refine one_ (i:=18) (N:=some 91) #[true,true,true,true,true,true,true,true,true,true,true,true,true,true,true,true,true,true,true,false,false,false,false] rfl rfl (one_of HT_.out q9_) q30_ (fun K hK => ?_)
             refine goes_ Tryz.func36 q9_ rfl #[.agg #[.int .i64 ((rd_T41 t127 x12_3).f1.f0),.int .i64 ((rd_T41 t127 x12_3).f1.f1),.int .i64 ((rd_T41 t127 x12_3).f1.f2),.string ((rd_T41 t127 x12_3).f1.f3),.string ((rd_T41 t127 x12_3).f1.f4)],.agg #[.int .i64 a2_1,.int .i64 a2_2,.int .i64 a2_3,.string a2_4,.string a2_5]] q55_ rfl rfl q21_ ?_
             with_reducible refine (Rf07_Compare.calls k3 ((rd_T41 t127 x12_3).f1.f0) ((rd_T41 t127 x12_3).f1.f1) ((rd_T41 t127 x12_3).f1.f2) ((rd_T41 t127 x12_3).f1.f3) ((rd_T41 t127 x12_3).f1.f4) a2_1 a2_2 a2_3 a2_4 a2_5 t132 _ A64.out).mono ?_
             rintro e w67 ⟨rfl,hb⟩
             have HS6_:=(hb.cell (World.block_lt_of_cell? _ _ (hHeld.2.2.2.2.2.2.1))).trans (hHeld.2.2.2.2.2.2.1)
             have HS7_:=(hb.cell (World.block_lt_of_cell? _ _ (hHeld.2.2.2.2.2.2.2.1))).trans (hHeld.2.2.2.2.2.2.2.1)
             have HS8_:=(hb.cell (World.block_lt_of_cell? _ _ (hHeld.2.2.2.2.2.2.2.2.1))).trans (hHeld.2.2.2.2.2.2.2.2.1)
             have HS9_:=(hb.cell (World.block_lt_of_cell? _ _ (hHeld.2.2.2.2.2.2.2.2.2.1))).trans (hHeld.2.2.2.2.2.2.2.2.2.1)
             have HS10_:=(hb.cell (World.block_lt_of_cell? _ _ (hHeld.2.2.2.2.2.2.2.2.2.2.1))).trans (hHeld.2.2.2.2.2.2.2.2.2.2.1)
             have HS11_:=(hb.cell (World.block_lt_of_cell? _ _ (hHeld.2.2.2.2.2.2.2.2.2.2.2.1))).trans (hHeld.2.2.2.2.2.2.2.2.2.2.2.1)
             have HS12_:=(hb.cell (World.block_lt_of_cell? _ _ (hHeld.2.2.2.2.2.2.2.2.2.2.2.2.1))).trans (hHeld.2.2.2.2.2.2.2.2.2.2.2.2.1)
             have HS13_:=(hb.cell (World.block_lt_of_cell? _ _ (hHeld.2.2.2.2.2.2.2.2.2.2.2.2.2.1))).trans (hHeld.2.2.2.2.2.2.2.2.2.2.2.2.2.1)
             have HS14_:=(hb.cell (World.block_lt_of_cell? _ _ (hHeld.2.2.2.2.2.2.2.2.2.2.2.2.2.2.1))).trans (hHeld.2.2.2.2.2.2.2.2.2.2.2.2.2.2.1)
             have HS15_:=(hb.cell (World.block_lt_of_cell? _ _ (hHeld.2.2.2.2.2.2.2.2.2.2.2.2.2.2.2.1))).trans (hHeld.2.2.2.2.2.2.2.2.2.2.2.2.2.2.2.1)
             have HS16_:=(hb.cell (World.block_lt_of_cell? _ _ (hHeld.2.2.2.2.2.2.2.2.2.2.2.2.2.2.2.2.1))).trans (hHeld.2.2.2.2.2.2.2.2.2.2.2.2.2.2.2.2.1)
             have HS17_:=(hb.cell (World.block_lt_of_cell? _ _ (hHeld.2.2.2.2.2.2.2.2.2.2.2.2.2.2.2.2.2))).trans (hHeld.2.2.2.2.2.2.2.2.2.2.2.2.2.2.2.2.2)
             refine ⟨_,rfl,?_⟩
             replace HO_7:=Aside0.mk (Kd.R_below q26_ hb)
             replace HO_10:=Aside0.mk (Kd.R_below q50_ hb)
             replace BK101:=Aside0.mk (blk_below bk101_ hb)
             replace HB:=Aside0.mk (below_step bh_ hb)
             (try clear hb)
             (try clear hb2)
             (try clear hk)
             (try clear hi)
             refine hK.out _ _ ⟨(blk_cell BK101.out 0).trans rfl,(blk_cell BK101.out 1).trans rfl,(blk_cell BK101.out 2).trans rfl,(blk_cell BK101.out 3).trans rfl,(blk_cell BK101.out 4).trans rfl,(blk_cell BK101.out 5).trans rfl,HS6_,HS7_,HS8_,HS9_,HS10_,HS11_,HS12_,HS13_,HS14_,HS15_,HS16_,HS17_⟩ (fun hHeld => ?_)
             clear hK K
             refine norm_ (a':=?_) ?_ ?_
             rotate_left
             ·show Act.put _ (some 91) _ = _
              simp only [Act.put,List.setIfInBounds_toArray,List.set_cons_zero,List.set_cons_succ,i64_w]
              rfl
             refine pu_ 19 92 ?_
             refine pu_ 20 93 ?_
             refine pu_ 21 94 ?_
             refine pu_ 22 11 ?_
             refine done_ (done_of HT_.out q9_) ?_
             try go_wp2
             go_roundg k3
             case measure => have:=HJ3.out;have:=HK2.out;have:=HK3.out;omega
             case rel => exact ⟨(decide (t132 ≤ 0)),(wrap64 (x12_3 + 1)),q12_,q12_,H',⟨by have:=HJ3.out;have:=HK2.out;have:=HK3.out;omega⟩,⟨by (with_reducible repeat (first | apply Kd.R_alloc | apply Kd.R_drewN | apply Kd.R_drew));exact HO_7.out⟩,⟨by (with_reducible repeat (first | apply Kd.R_alloc | apply Kd.R_drewN | apply Kd.R_drew));exact HO_10.out⟩,⟨by (with_reducible repeat (first | refine blk_drewN ?_ _ | refine blk_drew ?_ | refine blk_alloc ?_ _));exact BK101.out⟩,⟨by repeat (first | (with_reducible first | exact HB.out | apply below_alloc | apply pw_below_drewN | apply below_drew1 | refine below_set ?_ GE101.out) | exact HB.out)⟩⟩
            ·rw [if_neg c63] at H
             have c63b0:=beq_eq_false_iff_ne.mpr c63
             have c63b1:=bne_iff_ne.mpr c63
             have H':=Aside0.mk H
             clear H
             obtain ⟨Ao68,co68,eo68⟩:=Kd.R_slice HO_10.out
             subst eo68
             try go_wp2
             replace HO_7:=Aside0.mk (Kd.R_drew HO_7.out)
             replace HO_10:=Aside0.mk (Kd.R_drew HO_10.out)
             replace BK101:=Aside0.mk (blk_drew BK101.out)
             replace HB:=Aside0.mk (below_drew1 HB.out)
             have p130 : 0 ≤ (x12_3 : Int):=of_decide_eq_true q1_
             have q130 : x12_3 < (t127.length : Int):=of_decide_eq_true q1_
             obtain ⟨ad130,e130,hx130_0,hx130_1,hx130_2,hx130_3,hx130_4,hx130_5⟩:=at_T41 (Kd.R_reads' HO_10.out).2.2 x12_3 p130 q130
             cases e130
             replace p130:=eq_true p130
             replace q130:=eq_true q130
             refine start_ (n:=23) (S:=fun w' => w'.cell? ⟨gb101,0,none⟩ = some (.string a2_0) ∧ w'.cell? ⟨gb101,1,none⟩ = some (.int .i64 a2_1) ∧ w'.cell? ⟨gb101,2,none⟩ = some (.int .i64 a2_2) ∧ w'.cell? ⟨gb101,3,none⟩ = some (.int .i64 a2_3) ∧ w'.cell? ⟨gb101,4,none⟩ = some (.string a2_4) ∧ w'.cell? ⟨gb101,5,none⟩ = some (.string a2_5) ∧ w'.cell? (ad130.add ((x12_3).toNat * 6)) = some (.string ((rd_T41 t127 x12_3).f0)) ∧ w'.cell? ⟨(ad130.add ((x12_3).toNat * 6)).block,(ad130.add ((x12_3).toNat * 6)).off + 1,none⟩ = some (.int .i64 ((rd_T41 t127 x12_3).f1.f0)) ∧ w'.cell? ⟨(ad130.add ((x12_3).toNat * 6)).block,(ad130.add ((x12_3).toNat * 6)).off + 2,none⟩ = some (.int .i64 ((rd_T41 t127 x12_3).f1.f1)) ∧ w'.cell? ⟨(ad130.add ((x12_3).toNat * 6)).block,(ad130.add ((x12_3).toNat * 6)).off + 3,none⟩ = some (.int .i64 ((rd_T41 t127 x12_3).f1.f2)) ∧ w'.cell? ⟨(ad130.add ((x12_3).toNat * 6)).block,(ad130.add ((x12_3).toNat * 6)).off + 4,none⟩ = some (.string ((rd_T41 t127 x12_3).f1.f3)) ∧ w'.cell? ⟨(ad130.add ((x12_3).toNat * 6)).block,(ad130.add ((x12_3).toNat * 6)).off + 5,none⟩ = some (.string ((rd_T41 t127 x12_3).f1.f4))) (ds:=[]) #[false,false,false,false,false,false,false,false,false,false,false,false,false,false,false,false,false,false,false,false,false,false,false] q9_ rfl rfl ⟨(blk_cell BK101.out 0).trans rfl,(blk_cell BK101.out 1).trans rfl,(blk_cell BK101.out 2).trans rfl,(blk_cell BK101.out 3).trans rfl,(blk_cell BK101.out 4).trans rfl,(blk_cell BK101.out 5).trans rfl,hx130_0,hx130_1,hx130_2,hx130_3,hx130_4,hx130_5⟩ (fun hHeld => ?_);refine with_tabW Lw17_MvsDowns.tab15 Lw17_MvsDowns.bits15 (fun HT_ HW_ => ?_)
             generalize wr.drew = w69 at HO_7 HO_10 BK101 HB hx130_0 hx130_1 hx130_2 hx130_3 hx130_4 hx130_5 hHeld ⊢
             refine pu_ 0 73 ?_
             refine pu_ 1 74 ?_
             refine pu_ 2 75 ?_
             refine pu_ 3 76 ?_
             refine pu_ 4 77 ?_
             refine pu_ 5 78 ?_
             refine pu_ 7 80 ?_
             refine tk_ 6 79 hHeld ?_
             refine tk_ 8 81 hHeld ?_
             refine pu_ 9 82 ?_
             refine pu_ 10 83 ?_
             refine pn_ 11 84 ?_
             refine pn_ 12 85 ?_
             refine pn_ 13 86 ?_
             refine pn_ 14 87 ?_
             refine pn_ 15 88 ?_
             refine pn_ 16 89 ?_
             refine pn_ 17 90 ?_
             refine pn_ 18 91 ?_
             refine pn_ 19 92 ?_
             refine pu_ 20 93 ?_
             refine pu_ 21 94 ?_
             refine pu_ 22 11 ?_
             refine done_ (done_of HT_.out q9_) ?_
             try go_wp2
             go_roundg k3
             case measure => have:=HJ3.out;have:=HK2.out;have:=HK3.out;omega
             case rel => exact ⟨(true),(wrap64 (x12_3 + 1)),q12_,q12_,H',⟨by have:=HJ3.out;have:=HK2.out;have:=HK3.out;omega⟩,⟨by (with_reducible repeat (first | apply Kd.R_alloc | apply Kd.R_drewN | apply Kd.R_drew));exact HO_7.out⟩,⟨by (with_reducible repeat (first | apply Kd.R_alloc | apply Kd.R_drewN | apply Kd.R_drew));exact HO_10.out⟩,⟨by (with_reducible repeat (first | refine blk_drewN ?_ _ | refine blk_drew ?_ | refine blk_alloc ?_ _));exact BK101.out⟩,⟨by repeat (first | (with_reducible first | exact HB.out | apply below_alloc | apply pw_below_drewN | apply below_drew1 | refine below_set ?_ GE101.out) | exact HB.out)⟩⟩
           ·rw [if_neg c62] at H
            exact absurd H q25_
          ·replace c61:=Bool.eq_false_iff.mpr c61
           subst c61
           rw [if_neg (show ¬ (false = true) by decide)] at H
           have H':=Aside0.mk H
           clear H
           obtain ⟨Ao70,co70,eo70⟩:=Kd.R_slice HO_10.out
           subst eo70
           try go_wp2
           replace HO_7:=Aside0.mk (Kd.R_drew HO_7.out)
           replace HO_10:=Aside0.mk (Kd.R_drew HO_10.out)
           replace BK101:=Aside0.mk (blk_drew BK101.out)
           replace HB:=Aside0.mk (below_drew1 HB.out)
           refine start_ (n:=23) (S:=fun w' => True) (ds:=[]) #[false,false,false,false,false,false,false,false,false,false,false,false,false,false,false,false,false,false,false,false,false,false,false] q9_ rfl rfl trivial (fun hHeld => ?_);refine with_tabW Lw17_MvsDowns.tab15 Lw17_MvsDowns.bits15 (fun HT_ HW_ => ?_)
           generalize wr.drew = w71 at HO_7 HO_10 BK101 HB hHeld ⊢
           refine pu_ 0 73 ?_
           refine pu_ 1 74 ?_
           refine pn_ 2 75 ?_
           refine pn_ 3 76 ?_
           refine pn_ 4 77 ?_
           refine pn_ 5 78 ?_
           refine pn_ 6 79 ?_
           refine pn_ 7 80 ?_
           refine pn_ 8 81 ?_
           refine pn_ 9 82 ?_
           refine pn_ 10 83 ?_
           refine pn_ 11 84 ?_
           refine pn_ 12 85 ?_
           refine pn_ 13 86 ?_
           refine pn_ 14 87 ?_
           refine pn_ 15 88 ?_
           refine pn_ 16 89 ?_
           refine pn_ 17 90 ?_
           refine pn_ 18 91 ?_
           refine pn_ 19 92 ?_
           refine pn_ 20 93 ?_
           refine pu_ 21 94 ?_
           refine pu_ 22 11 ?_
           refine done_ (done_of HT_.out q9_) ?_
           try go_wp2
           go_roundg k3
           case measure => have:=HJ3.out;have:=HK2.out;have:=HK3.out;omega
           case rel => exact ⟨(false),(wrap64 (x12_3 + 1)),q12_,q12_,H',⟨by have:=HJ3.out;have:=HK2.out;have:=HK3.out;omega⟩,⟨by (with_reducible repeat (first | apply Kd.R_alloc | apply Kd.R_drewN | apply Kd.R_drew));exact HO_7.out⟩,⟨by (with_reducible repeat (first | apply Kd.R_alloc | apply Kd.R_drewN | apply Kd.R_drew));exact HO_10.out⟩,⟨by (with_reducible repeat (first | refine blk_drewN ?_ _ | refine blk_drew ?_ | refine blk_alloc ?_ _));exact BK101.out⟩,⟨by repeat (first | (with_reducible first | exact HB.out | apply below_alloc | apply pw_below_drewN | apply below_drew1 | refine below_set ?_ GE101.out) | exact HB.out)⟩⟩
         ·rw [if_neg c60] at H
          have c60b0:=decide_eq_false c60
          clear c60
          by_cases c72 : x11_3 = true
          ·subst c72
           rw [if_pos rfl] at H
           obtain ⟨t133,A730,H⟩:=Option.bind_eq_some_iff.mp H
           have A73:=Aside0.mk A730
           clear A730
           by_cases c74 : t133 = true
           ·subst c74
            rw [if_pos rfl] at H
            by_cases c75 : (t112.length : Int) ≤ (l0.length : Int)
            ·rw [if_pos c75] at H
             have c75b0:=decide_eq_true c75
             have c75b1 : decide (t112.length ≤ l0.length) = true:=decide_eq_true (Int.ofNat_le.mp c75)
             clear c75
             obtain ⟨t134,A760,H⟩:=Option.bind_eq_some_iff.mp H
             have A76:=Aside0.mk A760
             clear A760
             obtain rfl:=Option.some.inj H
             obtain ⟨Ao77,co77,eo77⟩:=Kd.R_slice HO_10.out
             subst eo77
             go_wp2_with (first | (go_at_call 24;(with_reducible refine (Rf17_Same.calls k3 _ _ t112 _ _ l0 true _ ?side1 ?side2 ?side3 ?side4 A73.out).mono ?_);(case side1 => repeat (first | exact (Kd.R_reads' HO_7.out).2.2 | (with_reducible refine Kd.C_alloc ?_ _) | (with_reducible refine Kd.C_drewN ?_ _) | (with_reducible refine Kd.C_drew ?_)));(case side2 => exact (Kd.R_reads' HO_7.out).2.1);(case side3 => repeat (first | exact (Kd.C_below HR0.out HB.out) | (with_reducible refine Kd.C_alloc ?_ _) | (with_reducible refine Kd.C_drewN ?_ _) | (with_reducible refine Kd.C_drew ?_)));(case side4 => exact HC0.out);rintro e w' ⟨rfl,⟨nd,rfl⟩⟩) | (go_at_call 22;(with_reducible refine (Lw17_live.calls k3  t134 _ A76.out HR_.out ?sideG).mono ?_);(case sideG => first | exact HG.out | exact Env.below HG.out bh_);rintro e w78 ⟨rfl,hb⟩;replace HO_7:=Aside0.mk (Kd.R_below q26_ hb);replace HO_10:=Aside0.mk (Kd.R_below q50_ hb);replace BK101:=Aside0.mk (blk_below bk101_ hb);replace HB:=Aside0.mk (below_step bh_ hb);(try clear hb)))
             go_ret
             exact ⟨q2_,bh_⟩
            ·rw [if_neg c75] at H
             exact absurd ((Option.some.inj H).trans HR_.out) q25_
           ·replace c74:=Bool.eq_false_iff.mpr c74
            subst c74
            rw [if_neg (show ¬ (false = true) by decide)] at H
            exact absurd ((Option.some.inj H).trans HR_.out) q25_
          ·replace c72:=Bool.eq_false_iff.mpr c72
           subst c72
           rw [if_neg (show ¬ (false = true) by decide)] at H
           by_cases c81 : (t112.length : Int) ≤ (l0.length : Int)
           ·rw [if_pos c81] at H
            have c81b0:=decide_eq_true c81
            have c81b1 : decide (t112.length ≤ l0.length) = true:=decide_eq_true (Int.ofNat_le.mp c81)
            clear c81
            obtain ⟨t135,A820,H⟩:=Option.bind_eq_some_iff.mp H
            have A82:=Aside0.mk A820
            clear A820
            obtain rfl:=Option.some.inj H
            obtain ⟨Ao83,co83,eo83⟩:=Kd.R_slice HO_10.out
            subst eo83
            go_wp2_with (first | (go_at_call 22;(with_reducible refine (Lw17_live.calls k3  t135 _ A82.out HR_.out ?sideG).mono ?_);(case sideG => first | exact HG.out | exact Env.below HG.out bh_);rintro e w84 ⟨rfl,hb⟩;replace HO_7:=Aside0.mk (Kd.R_below q26_ hb);replace HO_10:=Aside0.mk (Kd.R_below q50_ hb);replace BK101:=Aside0.mk (blk_below bk101_ hb);replace HB:=Aside0.mk (below_step bh_ hb);(try clear hb)))
            go_ret
            exact ⟨q2_,bh_⟩
           ·rw [if_neg c81] at H
            exact absurd ((Option.some.inj H).trans HR_.out) q25_
end Go.Proofs.YtennhpoemdaghaaGreatDoor.P
end
section
namespace Go.Proofs.YtennhpoemdaghaaGreatDoor.P
open Go Go.RowKit Go.Proofs.YtennhpoemdaghaaGreatDoorW.PrintWords
theorem reach_one {root : List Req} {nodes : List Node} {r : Req} (h : Reach root nodes r) : ∃ x ∈ root,Reach [x] nodes r:=by
 induction h with
 | root h1 h2 => exact ⟨_,h1,.root q25_ h2⟩
 | step _ h1 h2 ih =>
  obtain ⟨x,hx,h⟩:=ih
  exact ⟨x,hx,.step h h1 h2⟩
theorem not_out {b x y : Req} {nodes : List Node} (hb : mayB b = true) (hU : (univ [x] nodes).length ≤ 500000) (ho : isOut b nodes x = false) (hy : Reach [x] nodes y) (he : y.f0 = b.f0) : cmpB y b ≤ 0:=by
 obtain ⟨h1,h2⟩:=listL_spec hU
 obtain ⟨z,hz,hze,hzc⟩:=h2 y hy
 have mz:=(h1 z hz).1.may
 unfold isOut at ho
 have:=List.any_eq_false.1 ho z hz
 rw [(sameP_iff.2 (hze.trans he) : sameP b.f0 z = true),Bool.true_and,decide_eq_true_iff] at this
 rw [cmpB_may mz hb] at this
 rw [cmpB_may mz hy.may] at hzc
 rw [cmpB_may hy.may hb]
 have e1:=vcmp_cmp.swap z y
 exact vcmp_cmp.trans y z b q5_ q5_
theorem low_not_out {b x y : Req} {nodes : List Node} (h : lowB b nodes x = some y) : isOut b nodes y = false:=by
 unfold lowB at h
 have hm : ∀ r ∈ (nodes.map (·.f0)).filter (candB b nodes x),mayB r = true:=fun r hr => by
  have:=(List.mem_filter.1 hr).2
  unfold candB at this
  simp only [Bool.and_eq_true] at this
  exact this.2.1
 obtain ⟨_,_,h3,_⟩:=(bestO_spec x.f0 _ hm none (fun _ h => absurd h q25_)).1 y h
 rcases h3 with h3 | h3
 ·have:=(List.mem_filter.1 h3).2
  unfold candB at this
  simp only [Bool.and_eq_true,Bool.not_eq_true'] at this
  exact this.2.2.2
 ·exact absurd h3 q25_
theorem down_not_out {b y : Req} {nodes : List Node} {root : List Req} (h : y ∈ downL b nodes root) : isOut b nodes y = false:=by
 unfold downL at h
 obtain ⟨x,_,hx⟩:=List.mem_filterMap.1 h
 cases ho : isOut b nodes x with
 | true =>
  rw [ho,if_pos rfl] at hx
  exact low_not_out hx
 | false =>
  rw [ho,if_neg q30_] at hx
  rw [← Option.some.inj hx]
  exact ho
theorem down_same {b : Req} {nodes : List Node} : ∀ {root : List Req},(∀ x ∈ root,isOut b nodes x = false) → downL b nodes root = root
 | [],_ => rfl
 | x :: xs,h => by
  unfold downL
  rw [List.filterMap_cons,h x q25_]
  have:=down_same (b:=b) (nodes:=nodes) (root:=xs) (fun y hy => h y (by simp [hy]))
  unfold downL at this
  rw [if_neg q30_]
  simp only
  rw [this]
theorem downs_live (k : Nat) (hk : 200 ≤ k) : ((Lw17_live.f k).bind fun t => some t) = some true:=by rw [live_f k hk];rfl
theorem downs_l1 (root dd was : List Req) (r : Req) (hrl : root.length ≤ 12) (hdl : dd.length ≤ root.length) (hwl : was.length ≤ 1000) (hkeep : (∀ y ∈ was,y.f0 = r.f0 → cmpB y r ≤ 0) → dd = root) :
  ∀ (d i k : Nat) (low : Bool),i ≤ was.length → was.length - i = d → (low = true → ∀ y ∈ was.take i,y.f0 = r.f0 → cmpB y r ≤ 0) → 3000 + d < k → Lw17_MvsDowns.l1 k root dd was low (i : Int) r.f0 r.f1.f0 r.f1.f1 r.f1.f2 r.f1.f3 r.f1.f4 = some true:=by
 intro d
 induction d with
 | zero =>
  intro i k low hi hd' ht hk
  obtain ⟨k,rfl⟩ : ∃ m,k = m + 1:=⟨k - 1,by omega⟩
  rw [List.take_of_length_le q5_] at ht
  rw [Lw17_MvsDowns.l1,if_neg q5_]
  cases low with
  | false => rw [if_neg q30_,if_pos q5_,downs_live k q5_]
  | true =>
   have e:=hkeep (ht rfl)
   subst e
   rw [if_pos rfl,Same_f _ q5_ k q5_,Option.bind_some,if_pos rfl,if_pos q5_,downs_live k q5_]
 | succ d ih =>
  intro i k low hi hd' ht hk
  obtain ⟨k,rfl⟩ : ∃ m,k = m + 1:=⟨k - 1,by omega⟩
  have h : i < was.length:=by omega
  have hw:=wrap_at i was.length h q5_
  have hnext : ∀ low' : Bool,(low' = true → low = true ∧ (was[i].f0 = r.f0 → cmpB was[i] r ≤ 0)) → Lw17_MvsDowns.l1 k root dd was low' ((i + 1 : Nat) : Int) r.f0 r.f1.f0 r.f1.f1 r.f1.f2 r.f1.f3 r.f1.f4 = some true:=fun low' hl' => by
   refine ih (i + 1) k low' q5_ q5_ (fun hlo y hy he => ?_) q5_
   obtain ⟨e1,e2⟩:=hl' hlo
   rw [List.take_succ_eq_append_getElem h] at hy
   rcases List.mem_append.1 hy with hy | hy
   ·exact ht e1 y hy he
   ·rw [List.mem_singleton.1 hy] at he ⊢
    exact e2 he
  rw [Lw17_MvsDowns.l1,if_pos q5_,rd_at _ i h,hw,toList_eq,toList_eq]
  cases low with
  | false => rw [if_neg q30_];exact hnext false (fun h => absurd h q30_)
  | true =>
   rw [if_pos rfl,if_pos q5_]
   by_cases hs : was[i].f0.data.toList = r.f0.data.toList
   ·rw [if_pos hs,refCmp_eq was[i] r k q5_,Option.bind_some]
    exact hnext _ (fun h => ⟨rfl,fun _ => of_decide_eq_true h⟩)
   ·rw [if_neg hs]
    exact hnext true (fun _ => ⟨rfl,fun he => absurd (by rw [he]) hs⟩)
theorem downs_l0 (root dd x was : List Req) (l : List RNode) (r : Req) (hl : l.length ≤ 20) (hxl : x.length ≤ 1000) (hlist : mvs_List.f root (l.map ownN) = some was) (hlow : ∀ y ∈ x,y.f0 = r.f0 → ¬ cmpB y r > 0)
  (h1 : ∀ k,20000 ≤ k → Lw17_MvsDowns.l1 k root dd was true 0 r.f0 r.f1.f0 r.f1.f1 r.f1.f2 r.f1.f3 r.f1.f4 = some true) (k : Nat) (hk : 40000 ≤ k) : Lw17_MvsDowns.l0 k root l dd x 0 r.f0 r.f1.f0 r.f1.f1 r.f1.f2 r.f1.f3 r.f1.f4 = some true:=by
 refine loop_all (fun k i => Lw17_MvsDowns.l0 k root l dd x i r.f0 r.f1.f0 r.f1.f1 r.f1.f2 r.f1.f3 r.f1.f4) x.length 30000 (some true) q5_ (fun k i hi hk => ?_) (fun k hk => ?_) k q5_
 ·show Lw17_MvsDowns.l0 (k + 1) root l dd x (i : Int) r.f0 r.f1.f0 r.f1.f1 r.f1.f2 r.f1.f3 r.f1.f4 = _
  rw [Lw17_MvsDowns.l0,if_pos q5_,if_pos q5_,rd_at _ i hi,toList_eq,toList_eq]
  by_cases hs : x[i].f0.data.toList = r.f0.data.toList
  ·rw [if_pos hs,refCmp_eq x[i] r k q5_,Option.bind_some,if_neg (hlow _ (List.getElem_mem hi) (bytes_inj hs))]
  ·rw [if_neg hs]
 ·show Lw17_MvsDowns.l0 (k + 1) root l dd x (x.length : Int) r.f0 r.f1.f0 r.f1.f1 r.f1.f2 r.f1.f3 r.f1.f4 = _
  rw [Lw17_MvsDowns.l0,if_neg q5_,own_f l q5_ k q5_,Option.bind_some,hlist,Option.bind_some]
  exact h1 k q5_
theorem downs_f (root : List Req) (l : List RNode) (r : Req) (hr0 : root.length ≤ 9223372036854775807) (hl0 : l.length ≤ 9223372036854775807) (hM : ∀ n ∈ l,n.f1.length ≤ 9223372036854775807) :
  ∃ K,∀ k,K ≤ k → Lw17_MvsDowns.f k root l r.f0 r.f1.f0 r.f1.f1 r.f1.f2 r.f1.f3 r.f1.f4 = some true:=by
 obtain ⟨K,hK⟩:=small_f root l hr0 hl0 hM
 obtain ⟨K2,hK2⟩:=small_f [r] [] q25_ q25_ q25_
 refine ⟨K + K2 + 50000,fun k hk => ?_⟩
 have hlive : ∀ k,200 ≤ k → ((Lw17_live.f k).bind fun t => some t) = some true:=fun k hk => by rw [live_f k hk];rfl
 unfold Lw17_MvsDowns.f
 rw [hK k q5_,Option.bind_some,(show Rf17_Small.f k [(⟨r.f0,⟨r.f1.f0,r.f1.f1,r.f1.f2,r.f1.f3,r.f1.f4⟩⟩ : Req)] ([] : List RNode) = some (smallB [r] []) from hK2 k q5_),Option.bind_some,refMay_eq r k q5_,Option.bind_some]
 obtain ⟨k,rfl⟩ : ∃ m,k = m + 1:=⟨k - 1,by omega⟩
 have hj : Lw17_MvsDowns.j0 (k + 1) root l true r.f0 r.f1.f0 r.f1.f1 r.f1.f2 r.f1.f3 r.f1.f4 = some true:=by rw [Lw17_MvsDowns.j0,if_pos rfl,hlive k q5_]
 cases hs : smallB root l with
 | false => rw [if_neg q30_,hj]
 | true =>
  rw [if_pos rfl]
  cases hs2 : smallB [r] [] with
  | false => rw [if_neg q30_,hj]
  | true =>
   rw [if_pos rfl]
   cases hm : mayB r with
   | false => exact hj
   | true =>
    have hr:=small_root hs
    have hf:=small_few hs
    have hfl:=hf.1
    have hdl:=downL_length r (l.map ownN) root
    have hUr:=univ_le hf root
    have hU5 : (univ root (l.map ownN)).length ≤ 500000:=by omega
    have hUd:=univ_le hf (downL r (l.map ownN) root)
    have hUd5 : (univ (downL r (l.map ownN) root) (l.map ownN)).length ≤ 500000:=by omega
    have hU0:=univ_le hf []
    rw [List.length_nil,Nat.zero_add] at hU0
    have hone : ∀ x : Req,(univ [x] (l.map ownN)).length ≤ 500000:=fun x => univ_one x _ q5_
    have h2:=list_len hf (root:=root) q5_
    have h3:=list_len hf (root:=downL r (l.map ownN) root) q5_
    obtain ⟨hs1,hs2'⟩:=listL_spec hU5
    obtain ⟨hd1,hd2⟩:=listL_spec hUd5
    have hpath : ∀ x ∈ root,x.f0.size ≤ 4294967280:=by
     unfold smallB fewB at hs
     simp only [Bool.and_eq_true,List.all_eq_true] at hs
     intro x hx
     have:=hs.2.1.1 x hx
     unfold littleB at this
     simp only [Bool.and_eq_true,decide_eq_true_eq] at this
     omega
    have hdown : mvs_Downgrade.f k root (l.map ownN) r.f0 r.f1.f0 r.f1.f1 r.f1.f2 r.f1.f3 r.f1.f4 = some (downL r (l.map ownN) root):=by
     rw [downP_f r _ root q5_ hpath (by rw [List.length_map];omega) q5_ k q5_,hm];rfl
    have hkeep : (∀ y ∈ listL root (l.map ownN),y.f0 = r.f0 → cmpB y r ≤ 0) → downL r (l.map ownN) root = root:=fun h => by
     refine down_same fun x hx => ?_
     unfold isOut
     rw [List.any_eq_false]
     intro y hy
     obtain ⟨hx1,_⟩:=listL_spec (hone x)
     have hyr : Reach root (l.map ownN) y:=Reach.sub (fun z hz => by rw [List.mem_singleton.1 hz];exact hx) (hx1 y hy).1
     obtain ⟨z,hz,hze,hzc⟩:=hs2' y hyr
     have mz:=(hs1 z hz).1.may
     simp only [Bool.and_eq_true,decide_eq_true_eq,not_and]
     intro hsy
     have hzr:=h z hz (hze.trans (sameP_iff.1 hsy))
     rw [cmpB_may hyr.may hm]
     rw [cmpB_may mz hm] at hzr
     rw [cmpB_may mz hyr.may] at hzc
     have e1:=vcmp_cmp.swap z y
     have:=vcmp_cmp.trans y z r q5_ q5_
     omega
    have hlow : ∀ y ∈ listL (downL r (l.map ownN) root) (l.map ownN),y.f0 = r.f0 → ¬ cmpB y r > 0:=fun y hy he => by
     obtain ⟨x,hx,hxy⟩:=reach_one (hd1 y hy).1
     have:=not_out hm (hone x) (down_not_out hx) hxy he
     omega
    rw [show (!true) = false from rfl,Lw17_MvsDowns.j0,if_neg q30_,own_f l q5_ k q5_,Option.bind_some,hdown,Option.bind_some,Option.bind_some,list_eq _ _ hUd5,Option.bind_some]
    refine downs_l0 root _ _ (listL root (l.map ownN)) l r hfl q5_ (list_eq _ _ hU5) hlow (fun k hk => ?_) k q5_
    exact downs_l1 root _ _ r hr hdl q5_ hkeep _ 0 k true (Nat.zero_le _) rfl (fun _ y hy => absurd hy q25_) q5_
end Go.Proofs.YtennhpoemdaghaaGreatDoor.P
end
section
namespace Go.Proofs.YtennhpoemdaghaaGreatDoor.P
open Go Go.RowKit
set_option maxRecDepth 100000 in
theorem tab_of_laid {w : World} (h : laidMetH Tryz.prog Go.Proofs.YtennhpoemdaghaaGreatDoor.Rows.mvsAloneRow.laid w) : Lib.TabIs Tryz.prog w "internal/strconv.uint64pow10" .u64 Lib.pow10Tab:=by
 rw [MakeChecks.laidMetH_plain _ _ _ q9_] at h
 have h2:=h.filter (fun x => x.1 == "internal/strconv.uint64pow10")
 have e : (Go.Proofs.YtennhpoemdaghaaGreatDoor.Rows.mvsAloneRow.laid.filter fun x => x.1 == "internal/strconv.uint64pow10") = [("internal/strconv.uint64pow10", Lib.tabData .u64 Lib.pow10Tab)]:=by kernel_rfl
 rw [e] at h2
 exact Lib.tabIs_of_head (g:=5) (t:=225) (e:=157) (n:=20) q9_ q9_ q9_ q9_ q9_ q9_ h2
end Go.Proofs.YtennhpoemdaghaaGreatDoor.P
end
section
namespace Go.Proofs.YtennhpoemdaghaaGreatDoor.P
open Go Go.RowKit Go.Proofs.YtennhpoemdaghaaGreatDoorW.PrintWords
section
variable {H : Type} {enc : TypeId × Value → H} {w : World} {base : Nat} {spare : Nat → Bool} {held : Bool}
set_option maxRecDepth 100000 in
theorem trod_ver {fuel : Nat} {cs : List Value} {x : DataW H × List MemPlace} (h : DataW.trod enc Tryz.prog w base spare held fuel 24 cs = some x) :
  ∃ v : S24,cs = [.int .i64 v.f0,.int .i64 v.f1,.int .i64 v.f2,.string v.f3,.string v.f4]:=by
 obtain ⟨xs,n,_,_,hl,hlen,hf⟩:=DataW.trod_struct Tryz.underlying24 h
 have hc : Tryz.prog.cellsOf 24 = 5:=by kernel_rfl
 have hci : Tryz.prog.cellsOf 3 = 1:=by kernel_rfl
 have hcs : Tryz.prog.cellsOf 9 = 1:=by kernel_rfl
 rw [hc] at hl
 match cs,hl with
 | [c0,c1,c2,c3,c4],_ =>
  have g : ∀ i (hi : i < 5),∃ y,xs[i]? = some y:=fun i hi => ⟨xs[i]'(by rw [hlen];exact hi),List.getElem?_eq_getElem _⟩
  obtain ⟨y0,e0⟩:=g 0 q5_
  obtain ⟨y1,e1⟩:=g 1 q5_
  obtain ⟨y2,e2⟩:=g 2 q5_
  obtain ⟨y3,e3⟩:=g 3 q5_
  obtain ⟨y4,e4⟩:=g 4 q5_
  have h0:=hf 0 _ rfl
  have h1:=hf 1 _ rfl
  have h2:=hf 2 _ rfl
  have h3:=hf 3 _ rfl
  have h4:=hf 4 _ rfl
  simp only [e0,e1,e2,e3,e4] at h0 h1 h2 h3 h4
  obtain ⟨a,ha,_⟩:=DataW.trod_int Tryz.underlying3 h0
  obtain ⟨b,hb,_⟩:=DataW.trod_int Tryz.underlying3 h1
  obtain ⟨c,hc,_⟩:=DataW.trod_int Tryz.underlying3 h2
  obtain ⟨d,hd,_⟩:=DataW.trod_string Tryz.underlying9 h3
  obtain ⟨e,he,_⟩:=DataW.trod_string Tryz.underlying9 h4
  simp [hci,hcs] at ha hb hc hd he
  exact ⟨⟨a,b,c,d,e⟩,by rw [ha,hb,hc,hd,he]⟩
set_option maxRecDepth 100000 in
theorem trod_req {fuel : Nat} {cs : List Value} {x : DataW H × List MemPlace} (h : DataW.trod enc Tryz.prog w base spare held fuel 41 cs = some x) : ∃ r : Req,cs = encR r:=by
 obtain ⟨xs,n,_,_,hl,hlen,hf⟩:=DataW.trod_struct Tryz.underlying41 h
 have hc : Tryz.prog.cellsOf 41 = 6:=by kernel_rfl
 have hcv : Tryz.prog.cellsOf 24 = 5:=by kernel_rfl
 have hcs : Tryz.prog.cellsOf 9 = 1:=by kernel_rfl
 rw [hc] at hl
 match cs,hl with
 | [c0,c1,c2,c3,c4,c5],_ =>
  have g : ∀ i (hi : i < 2),∃ y,xs[i]? = some y:=fun i hi => ⟨xs[i]'(by rw [hlen];exact hi),List.getElem?_eq_getElem _⟩
  obtain ⟨y0,e0⟩:=g 0 q5_
  obtain ⟨y1,e1⟩:=g 1 q5_
  have h0:=hf 0 _ rfl
  have h1:=hf 1 _ rfl
  simp only [e0,e1] at h0 h1
  obtain ⟨p,hp,_⟩:=DataW.trod_string Tryz.underlying9 h0
  obtain ⟨v,hv⟩:=trod_ver h1
  simp [hcs,hcv] at hp hv
  obtain ⟨v0,v1,v2,v3,v4⟩:=hv
  exact ⟨⟨p,v⟩,by rw [hp,v0,v1,v2,v3,v4];rfl⟩
theorem open_reqs {fuel : Nat} {cs : List Value} {x : DataW H × List MemPlace} (h : DataW.trod enc Tryz.prog w base spare held fuel 38 cs = some x) :
  ∃ (A : Option Addr) (c : Nat) (l : List Req),cs = [.slice A l.length c] ∧ l.length ≤ c ∧ Kd.C k41 w A l.length l:=by
 have hc : Tryz.prog.cellsOf 41 = 6:=by kernel_rfl
 rcases Go.Deep.open_slice Tryz.underlying38 h with ⟨rfl,_⟩ | ⟨a,len,cap,m,n,D,Pl,rfl,hb,hl,hm,rfl,_,hel⟩
 ·exact ⟨none,0,[],rfl,Nat.le_refl _,Kd.C_nil _ _⟩
 ·have hlm : len ≤ (if spare a.block then cap else len):=by split <;> omega
  have hr : ∀ i,i < len → ∃ r : Req,w.cells? base (a.add (i * 6)) 6 = some (encR r):=fun i hi => by
   obtain ⟨cs',h1,h2⟩:=hel i q5_
   obtain ⟨r,rfl⟩:=trod_req h2
   rw [hc] at h1
   exact ⟨r,h1⟩
  refine ⟨some a,cap,(List.range len).map (fun i => if hi : i < len then (hr i hi).choose else default),by simp,by simpa using hl,?_⟩
  refine ⟨rfl,?_,fun _ => ⟨a,rfl,fun j p hp => ?_⟩⟩
  ·unfold maxLen at hm
   simp
   omega
  ·have hj : j < len:=by
    rcases Nat.lt_or_ge j len with h1 | h1
    ·exact h1
    ·rw [List.getElem?_eq_none (by simpa using h1)] at hp;exact absurd hp q25_
   have hpe : p = (hr j hj).choose:=by
    rw [List.getElem?_map,List.getElem?_range hj] at hp
    simp only [Option.map_some,dif_pos hj,Option.some.injEq] at hp
    exact hp.symm
   have hsp:=(hr j hj).choose_spec
   rw [← hpe] at hsp
   obtain ⟨_,hlen,hcell⟩:=World.cells?_some hsp
   refine ⟨encR p,rfl,k41_mk w p,fun i u hu => ?_⟩
   have hi : i < 6:=by
    rcases Nat.lt_or_ge i 6 with h1 | h1
    ·exact h1
    ·rw [List.getElem?_eq_none (show (encR p).length ≤ i from h1)] at hu;exact absurd hu q25_
   have:=hcell i hi
   rw [hu] at this
   rw [← this]
   show w.cell? (a.add (j * 6 + i)) = _
   rw [← add_add]
end
end Go.Proofs.YtennhpoemdaghaaGreatDoor.P
end
section
namespace Go
theorem returnsInHanded_and_shaped {a : Assume} {C : Checked} {os : Os} {f : FuncId} {fn : Func} {s : ChangeSpec} {conds : List PathCond} {apart fresh handsOn again : Bool} {H : Type} {enc : TypeId × Value → H} {X : World → Array Value → Prop}
  (hX : ∀ (w w' : World) (args : Array Value),w.heap = w'.heap → X w args → X w' args)
  (own : ownKnob C.prog.godebug = none) (started : os.Started) (noInit : C.prog.inits.idxOf? f = none) (hfn : C.prog.funcs[f]? = some fn)
  (witness : ∃ (w : World) (tape : Tape) (i : Input),w.os = os ∧ (w.forCall tape i).Shaped C.prog ∧ i.vars = [] ∧ Input.okWide C.prog (w.forCall tape i) .any w.heap.size f i ∧
   ((s.pre enc C.prog fn conds apart (w.forCall tape i).memory i.args ∧ X (w.forCall tape i).memory i.args) ∧ sizedMet enc C.prog fn (OpenSpec.ofChange s) apart (w.forCall tape i).memory i.args) ∧ a.holds C.prog (lone (Frame.enter C.prog f i.args .normal) [] (w.forCall tape i)))
  (contract : ∀ (W : World) (base : Nat) (args : Array Value) (ds gs : List (DataW H)) (before : List MemPlace),
   (∀ (j : Nat) t v,fn.params[j]? = some t → args[j]? = some v → Value.okWide C.prog W .any base t v) →
   DataW.Whole enc C.prog fn.params.toList s.vars apart W args.toList ds gs before →
   (DataW.weightsEach C.prog (fn.params.toList ++ s.plain.varTypes C.prog) (ds ++ gs)).all (· ≤ reachBytes) = true → X W args → W.ShapedOpen C.prog →
   Calls C.prog f args W fun e W' => ∃ v,e = .returned v ∧ s.post enc C.prog fn apart fresh handsOn again W args v W') :
  ReturnsInHanded a C os f .any (fun w args => (s.pre enc C.prog fn conds apart w args ∧ X w args) ∧ sizedMet enc C.prog fn (OpenSpec.ofChange s) apart w args) (s.post enc C.prog fn apart fresh handsOn again):=by
 refine returnsInHanded_of_calls own started noInit witness ?_
 intro w tape i _ hsh _ hok hpre hholds
 obtain ⟨_,_,_,fn',hfn',_,_,_,_,hval⟩:=hok
 have e : fn' = fn:=Option.some.inj (hfn'.symm.trans hfn)
 subst e
 obtain ⟨⟨⟨ds,gs,before,hw,hc⟩,hx⟩,hz⟩:=hpre
 have hw':=DataW.Whole.of_heap (w':=w.forCall tape i) q55_ hw
 refine (contract (w.forCall tape i) w.heap.size i.args ds gs before hval hw' (hz.weights hw) (hX _ _ _ q55_ hx) hsh).mono fun e W' ⟨v,he,hp⟩ => ?_
 subst he
 exact ChangeSpec.post_blind hp
end Go
namespace Go.Proofs.YtennhpoemdaghaaGreatDoor.P
open Go Go.RowKit Go.ChangeShapes Go.WideShapes
theorem ownKnob_here : ownKnob Tryz.prog.godebug = none:=by kernel_rfl
theorem laidOut_here : laidOutB Tryz.prog = true:=by kernel_rfl
theorem laid_at {w : World} {name : String} {d : DataW Unit} (h : laidMetH Tryz.prog Go.Proofs.YtennhpoemdaghaaGreatDoor.Rows.mvsAloneRow.laid w)
  (e : (Go.Proofs.YtennhpoemdaghaaGreatDoor.Rows.mvsAloneRow.laid.filter fun x => x.1 == name) = [(name,d)]) : laidMet Tryz.prog [(name,d)] w:=by
 rw [MakeChecks.laidMetH_plain _ _ _ q9_] at h
 have h2:=h.filter (fun x => x.1 == name)
 rw [e] at h2
 exact h2
theorem err_of_laid {w : World} {name : String} {g : Nat} {t : TypeId} {ms : Array (String × TypeId)} {text : List UInt8} (hg : Tryz.prog.globalNamed name = some g) (ht : (Tryz.prog.globals[g]?).map (·.type) = some t) (hi : Tryz.prog.underlying t = some (.interface ms))
  (h : laidMet Tryz.prog [(name,.iface "*errors.errorString" (.ptr (.agg [.lit (.string text)])))] w) : ∃ ev,w.cell? ⟨g,0,none⟩ = some ev ∧ (ev = .nilIface ∨ ∃ te pe,ev = .iface te pe):=by
 obtain ⟨ps,⟨g0,t0,cs0,f0,p0,q0,hg0,ht0,hv0,hd0,_,_⟩,_,_⟩:=h
 obtain rfl:=Option.some.inj (hg.symm.trans hg0)
 obtain rfl:=Option.some.inj (ht.symm.trans ht0)
 obtain ⟨_,u,v,hcs,_,_⟩:=iface_of_trod hi hd0
 have:=World.var?_cell hg0 hv0 0
 rw [Array.eq_one_of_toList hcs] at this
 exact ⟨.iface u v,by simpa using this,.inr ⟨u,v,rfl⟩⟩
set_option maxRecDepth 100000 in
theorem env_of_laid {w : World} (h : laidMetH Tryz.prog Go.Proofs.YtennhpoemdaghaaGreatDoor.Rows.mvsAloneRow.laid w) (hs : w.ShapedOpen Tryz.prog) : Env w:=by
 have ht:=tab_of_laid h
 refine ⟨?_,?_,?_,ht,?_⟩
 ·exact cell_of_shapedOpen_int (P:=Tryz.prog) (g:=0) (t:=3) (zero:=#[.int .i64 0]) hs (of_decide_eq_true q9_) q9_ rfl q9_ q9_ Tryz.underlying3
 ·exact err_of_laid (text:=[105,110,118,97,108,105,100,32,115,121,110,116,97,120]) q9_ q9_ Tryz.underlying111 (laid_at (name := "strconv.ErrSyntax") h q9_)
 ·exact err_of_laid (text:=[118,97,108,117,101,32,111,117,116,32,111,102,32,114,97,110,103,101]) q9_ q9_ Tryz.underlying111 (laid_at (name := "strconv.ErrRange") h q9_)
 ·have h1:=World.var?_cell (g:=5) q9_ ht 0
  exact Lib.lt_of_cell (v:=.int .u64 1) (h1.trans q9_)
end Go.Proofs.YtennhpoemdaghaaGreatDoor.P
end
section
namespace Go.Proofs.YtennhpoemdaghaaGreatDoor.P
open Go Go.RowKit Go.ChangeShapes Go.WideShapes Go.Proofs.YtennhpoemdaghaaGreatDoorW.PrintWords
section
variable {H : Type} {enc : TypeId × Value → H} {w : World} {base : Nat} {spare : Nat → Bool} {held : Bool}
theorem open_list {α : Type} [Inhabited α] (kd : Kd α) {t e : TypeId} (ht : Tryz.prog.underlying t = some (.slice e)) (hc : Tryz.prog.cellsOf e = kd.sz)
  (he : ∀ (fuel : Nat) (cs : List Value) (x : DataW H × List MemPlace),DataW.trod enc Tryz.prog w base spare held fuel e cs = some x → ∃ v : α,kd.K w v cs)
  {fuel : Nat} {cs : List Value} {x : DataW H × List MemPlace} (h : DataW.trod enc Tryz.prog w base spare held fuel t cs = some x) :
  ∃ (A : Option Addr) (c : Nat) (l : List α),cs = [.slice A l.length c] ∧ l.length ≤ c ∧ c ≤ maxLen ∧ Kd.C kd w A l.length l:=by
 rcases Go.Deep.open_slice ht h with ⟨rfl,_⟩ | ⟨a,len,cap,m,n,D,Pl,rfl,hb,hl,hm,rfl,_,hel⟩
 ·exact ⟨none,0,[],rfl,Nat.le_refl _,Nat.zero_le _,Kd.C_nil _ _⟩
 ·have hlm : len ≤ (if spare a.block then cap else len):=by split <;> omega
  have hr : ∀ i,i < len → ∃ (r : α) (cs' : List Value),w.cells? base (a.add (i * kd.sz)) kd.sz = some cs' ∧ kd.K w r cs':=fun i hi => by
   obtain ⟨cs',h1,h2⟩:=hel i q5_
   obtain ⟨r,hr⟩:=he _ _ _ h2
   rw [hc] at h1
   exact ⟨r,cs',h1,hr⟩
  refine ⟨some a,cap,(List.range len).map (fun i => if hi : i < len then (hr i hi).choose else default),by simp,by simpa using hl,hm,?_⟩
  refine ⟨rfl,?_,fun _ => ⟨a,rfl,fun j p hp => ?_⟩⟩
  ·unfold maxLen at hm
   simp
   omega
  ·have hj : j < len:=by
    rcases Nat.lt_or_ge j len with h1 | h1
    ·exact h1
    ·rw [List.getElem?_eq_none (by simpa using h1)] at hp;exact absurd hp q25_
   have hpe : p = (hr j hj).choose:=by
    rw [List.getElem?_map,List.getElem?_range hj] at hp
    simp only [Option.map_some,dif_pos hj,Option.some.injEq] at hp
    exact hp.symm
   have hsp:=(hr j hj).choose_spec
   rw [← hpe] at hsp
   obtain ⟨cs',hcs,hk⟩:=hsp
   obtain ⟨_,hlen,hcell⟩:=World.cells?_some hcs
   refine ⟨cs',hlen,hk,fun i u hu => ?_⟩
   have hi : i < kd.sz:=by
    rcases Nat.lt_or_ge i kd.sz with h1 | h1
    ·exact h1
    ·rw [List.getElem?_eq_none q5_] at hu;exact absurd hu q25_
   have:=hcell i hi
   rw [hu] at this
   rw [← this]
   show w.cell? (a.add (j * kd.sz + i)) = _
   rw [← add_add]
set_option maxRecDepth 100000 in
theorem trod_node {fuel : Nat} {cs : List Value} {x : DataW H × List MemPlace} (h : DataW.trod enc Tryz.prog w base spare held fuel 68 cs = some x) :
  ∃ v : S68,k68.K w v cs:=by
 obtain ⟨xs,n,_,_,hl,hlen,hf⟩:=DataW.trod_struct Tryz.underlying68 h
 have hc : Tryz.prog.cellsOf 68 = 7:=by kernel_rfl
 have hc1 : Tryz.prog.cellsOf 41 = 6:=by kernel_rfl
 have hc2 : Tryz.prog.cellsOf 38 = 1:=by kernel_rfl
 rw [hc] at hl
 match cs,hl with
 | [c0,c1,c2,c3,c4,c5,c6],_ =>
  have g : ∀ i (hi : i < 2),∃ y,xs[i]? = some y:=fun i hi => ⟨xs[i]'(by rw [hlen];exact hi),List.getElem?_eq_getElem _⟩
  obtain ⟨y0,e0⟩:=g 0 q5_
  obtain ⟨y1,e1⟩:=g 1 q5_
  have h0:=hf 0 _ rfl
  have h1:=hf 1 _ rfl
  simp only [e0,e1] at h0 h1
  obtain ⟨r,hr⟩:=trod_req h0
  obtain ⟨A,c,l,hv,hlc,hC⟩:=open_reqs h1
  simp [hc1,hc2,encR] at hr hv
  obtain ⟨r0,r1,r2,r3,r4,r5⟩:=hr
  refine ⟨⟨r,l⟩,?_⟩
  rw [r0,r1,r2,r3,r4,r5,hv]
  exact k68_mk w ⟨r,l⟩ hlc hC
instance : Inhabited S68:=⟨⟨default,[]⟩⟩
theorem open_nodes {fuel : Nat} {cs : List Value} {x : DataW H × List MemPlace} (h : DataW.trod enc Tryz.prog w base spare held fuel 39 cs = some x) :
  ∃ (A : Option Addr) (c : Nat) (l : List S68),cs = [.slice A l.length c] ∧ l.length ≤ c ∧ c ≤ maxLen ∧ Kd.C k68 w A l.length l :=
 open_list k68 Tryz.underlying39 q9_ (fun _ _ _ h => trod_node h) h
theorem nodes_len {A : Option Addr} {l : List S68} (h : Kd.C k68 w A l.length l) : ∀ n ∈ l,n.f1.length ≤ 9223372036854775807:=by
 intro n hn
 obtain ⟨j,hj,rfl⟩:=List.mem_iff_getElem.1 hn
 obtain ⟨a,_,hp⟩:=h.2.2 q5_
 obtain ⟨cs,_,hk,_⟩:=hp j l[j] (List.getElem?_eq_getElem hj)
 obtain ⟨A6,c6,_,_,hC⟩:=k68_open hk
 have:=hC.2.1
 omega
end
end Go.Proofs.YtennhpoemdaghaaGreatDoor.P
end
section
namespace Go.Proofs.YtennhpoemdaghaaGreatDoor.P
open Go Go.RowKit Go.ChangeShapes Go.WideShapes Go.ChangeAt
open Go.ChangeMaps (open_string shut_string)
set_option maxRecDepth 100000 in
theorem mvsDowns_lifted (os : Os) (started : os.Started) (H : Type) (enc : TypeId × Value → H) :
  ReturnsInHanded {} Tryz.checked os 7 .any (fun w args => (Rows.mvsDownsSpec.pre enc Tryz.prog Tryz.f7 [] false w args ∧ laidMetH Tryz.prog Rows.mvsDownsRow.laid w) ∧ sizedMet enc Tryz.prog Tryz.f7 (OpenSpec.ofChange Rows.mvsDownsSpec) false w args)
   (Rows.mvsDownsSpec.post enc Tryz.prog Tryz.f7 false true false false):=by
 refine returnsInHanded_and_shaped (C:=Tryz.checked) (X:=fun w _ => laidMetH Tryz.prog Rows.mvsDownsRow.laid w) (fun _ _ _ hh h => h.of_heap hh) ownKnob_here started q9_ Tryz.func7
  (ChangeSpec.witness_shaped (enc:=enc) (C:=Tryz.checked) (os:=os) (X:=fun w _ => laidMetH Tryz.prog Rows.mvsDownsRow.laid w) false (World.laidAll Tryz.prog os Rows.mvsDownsRow.laid) #[.slice none 0 0,.slice none 0 0,.agg #[.string ⟨#[]⟩,.int .i64 0,.int .i64 0,.int .i64 0,.string ⟨#[]⟩,.string ⟨#[]⟩]] 8 (World.laidAll_os _ _ _)
   (World.shaped_of_ZipB q9_ q9_) q9_ q9_ q9_
   (by rw [MakeChecks.laidMetH_plain _ _ _ q9_];exact laidMet_laidAll _ q9_ q9_)) ?_
 intro W base args ds gs before hval0 hW hsz0 hL hsh
 have hE : Env W:=env_of_laid hL hsh
 have hval : ∀ (j : Nat) t v,Tryz.f7.params[j]? = some t → args[j]? = some v → Value.okWide Tryz.prog W .any base t v:=hval0
 have hW':=hW
 obtain ⟨p,q,hA0,hV,rfl,hfz,hnd⟩:=hW
 have hA : DataW.TrodAll enc Tryz.prog W 0 (fun _ => true) true Tryz.f7.params.toList args.toList ds p:=hA0
 rw [Tryz.params7] at hA hval
 obtain ⟨v0,vs0,d0,ds0,p0,q0,hargs,rfl,rfl,h0,r0⟩:=trodAll_cons hA
 obtain ⟨v1,vs1,d1,ds1,p1,q1,rfl,rfl,rfl,h1,r1⟩:=trodAll_cons r0
 obtain ⟨v2,vs2,d2,ds2,p2,q2,rfl,rfl,rfl,h2,r2⟩:=trodAll_cons r1
 obtain ⟨rfl,rfl,rfl⟩:=trodAll_nil r2
 obtain rfl : args = #[v0,v1,v2]:=by cases args;simp_all
 obtain ⟨rfl,rfl⟩:=trodVars_none hV
 obtain ⟨a0,len0,cap0,rfl⟩:=okWide_slice Tryz.underlying38 (hval 0 38 v0 rfl rfl)
 have k0:=h0
 have lt0 : ∀ x ∈ p0,x.block < W.heap.size:=by obtain ⟨m,hm⟩:=k0;exact DataW.trod_lt m _ _ _ hm
 obtain ⟨fu0,hf0⟩:=h0
 obtain ⟨A0,c0,l0,hcs0,hc0,hC0⟩:=open_reqs hf0
 simp [Value.cells] at hcs0
 obtain ⟨rfl,rfl,rfl⟩:=hcs0
 obtain ⟨a1,len1,cap1,rfl⟩:=okWide_slice Tryz.underlying39 (hval 1 39 v1 rfl rfl)
 have k1:=h1
 have lt1 : ∀ x ∈ p1,x.block < W.heap.size:=by obtain ⟨m,hm⟩:=k1;exact DataW.trod_lt m _ _ _ hm
 obtain ⟨fu1,hf1⟩:=h1
 obtain ⟨A1,c1,l1,hcs1,hc1,_,hC1⟩:=open_nodes hf1
 simp [Value.cells] at hcs1
 obtain ⟨rfl,rfl,rfl⟩:=hcs1
 obtain ⟨cs2,rfl,hsz2⟩:=okWide_struct Tryz.underlying41 (hval 2 41 v2 rfl rfl)
 have k2:=h2
 have lt2 : ∀ x ∈ p2,x.block < W.heap.size:=by obtain ⟨m,hm⟩:=k2;exact DataW.trod_lt m _ _ _ hm
 obtain ⟨fu2,hf2⟩:=h2
 obtain ⟨z2,hz2⟩:=trod_req hf2
 obtain rfl : cs2 = (encR z2).toArray:=by cases cs2;simpa [Value.cells] using hz2
 clear hA0 hval0 hsz0
 obtain ⟨K,hK⟩:=downs_f l0 l1 z2 hC0.2.1 hC1.2.1 (nodes_len hC1)
 refine (Lw17_MvsDowns.calls K _ _ l0 _ _ l1 z2.f0 z2.f1.f0 z2.f1.f1 z2.f1.f2 z2.f1.f3 z2.f1.f4 true W hC0 hc0 hC1 hc1 (hK K (Nat.le_refl _)) rfl hE).mono fun e W' ⟨he,bel⟩ => ?_
 subst he
 exact ⟨_,rfl,_,_,_,[],_,[],hW',trodAll_mk1 (shut_bool Tryz.underlying4 _),(trodAll_cons_mk (Below.trod laidOut_here q9_ (of_decide_eq_true q9_) k0 bel lt0) (trodAll_cons_mk (Below.trod laidOut_here q9_ (of_decide_eq_true q9_) k1 bel lt1) (trodAll_cons_mk (Below.trod laidOut_here q9_ (of_decide_eq_true q9_) k2 bel lt2) trodAll_mk0))),rfl,bel.frame _,fun h => by cases h⟩
theorem mvsDowns_row : Rows.MvsDownsSaid :=
 OpenClaim.holds_of_wide 7 Tryz.f7 rfl rfl rfl rfl rfl rfl rfl ⟨rfl,rfl,rfl,rfl,rfl⟩ rfl rfl rfl rfl rfl q9_ Tryz.func7 q9_
  (of_decide_eq_true q9_) (by unfold Func.isWrapper;first | (rw [if_pos q56_];kernel_rfl) | (rw [if_neg q56_];exact ⟨rfl,rfl⟩))
  (fun os started H enc _ => mvsDowns_lifted os started H enc)
end Go.Proofs.YtennhpoemdaghaaGreatDoor.P
namespace Go.Proofs.YtennhpoemdaghaaGreatDoor
open Go
theorem mvsDowns_card : Rows.MvsDownsCardSaid :=
 Claim7.holds_tied_plain_at .later [] [.data,.data,.data,.data,.sentinel,.sentinel,.pinned] true (true, "6b7efa70bd55ada926e5eb756efdd62c05decfa7f1cf08258461f7006b2a8a09") true
  P.mvsDowns_row (fun _ h => by cases h) q9_ (fun _ h => by cases h) mvsDowns_row_tie rfl ⟨rfl,rfl⟩ q9_ rfl
  (fun f fn hf hfn => by
   obtain rfl : f = 7:=Option.some.inj ((show Tryz.prog.funcNamed "armada/armadalaw17.MvsDowns" = some 7 by kernel_rfl).symm.trans hf) |>.symm
   obtain rfl : fn = Tryz.f7:=(Option.some.inj (Tryz.func7.symm.trans hfn)).symm
   exact ⟨by kernel_rfl,fun j t ht => by
    rw [Tryz.params7] at ht
    have hm : t ∈ [38,39,41]:=by simpa using Array.mem_of_getElem? ht
    have hall : ([38,39,41].all fun u => !Tryz.prog.wantsStandIn u) = true:=by kernel_rfl
    exact (show Tryz.prog.wantsStandIn t = false by simpa using List.all_eq_true.1 hall t hm)⟩)
  q9_
end Go.Proofs.YtennhpoemdaghaaGreatDoor
end
