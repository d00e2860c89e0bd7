/- MvsAlone: called with any requirements, the law returns true, and its argument reads behind the call as it read before. Proved of the given program, for every input that can be read as data; the package-level variables that the card lists begin as the program's text lays them (the card ties them to it); nothing else is assumed. -/
import Derived.Test.YtennhpoemdaghaaGreatDoorAlone4
import Derived.Test.YtennhpoemdaghaaGreatDoorRows
import Derived.Test.YtennhpoemdaghaaGreatDoorTie
import Derived.Test.YtennhpoemdaghaaGreatDoorCards
set_option linter.unusedVariables false
set_option linter.unusedSimpArgs false
section
namespace Go.Proofs.YtennhpoemdaghaaGreatDoor.P
open Go.RowKit Go.Proofs.YtennhpoemdaghaaGreatDoorW.PrintWords Go.Proofs.YtennhpoemdaghaaGreatDoorW.PrintLast Go.Proofs.YtennhpoemdaghaaGreatDoorW.PrintMore
def Lw17_live.f (k : Nat)  : Option (Bool):=(Lw17_req.f (⟨#[97]⟩ : ByteArray) 0).bind fun bt101 => ((Lw17_req.f (⟨#[99]⟩ : ByteArray) 1).bind fun bt107 => ((Lw17_req.f (⟨#[98]⟩ : ByteArray) 0).bind fun bt116 => ((Lw17_req.f (⟨#[99]⟩ : ByteArray) 2).bind fun bt122 => ((Lw17_req.f (⟨#[99]⟩ : ByteArray) 2).bind fun bt131 => ((Lw17_req.f (⟨#[100]⟩ : ByteArray) 0).bind fun bt137 => ((Lw17_req.f (⟨#[98]⟩ : ByteArray) (-1)).bind fun bt146 => ((some (([(⟨(⟨bt101.1,(⟨bt101.2.1,bt101.2.2.1,bt101.2.2.2.1,bt101.2.2.2.2.1,bt101.2.2.2.2.2⟩ : S24)⟩ : S41),(([(⟨bt107.1,(⟨bt107.2.1,bt107.2.2.1,bt107.2.2.2.1,bt107.2.2.2.2.1,bt107.2.2.2.2.2⟩ : S24)⟩ : S41)] : List (S41)))⟩ : S70),(⟨(⟨bt116.1,(⟨bt116.2.1,bt116.2.2.1,bt116.2.2.2.1,bt116.2.2.2.2.1,bt116.2.2.2.2.2⟩ : S24)⟩ : S41),(([(⟨bt122.1,(⟨bt122.2.1,bt122.2.2.1,bt122.2.2.2.1,bt122.2.2.2.2.1,bt122.2.2.2.2.2⟩ : S24)⟩ : S41)] : List (S41)))⟩ : S70),(⟨(⟨bt131.1,(⟨bt131.2.1,bt131.2.2.1,bt131.2.2.2.1,bt131.2.2.2.2.1,bt131.2.2.2.2.2⟩ : S24)⟩ : S41),(([(⟨bt137.1,(⟨bt137.2.1,bt137.2.2.1,bt137.2.2.2.1,bt137.2.2.2.2.1,bt137.2.2.2.2.2⟩ : S24)⟩ : S41)] : List (S41)))⟩ : S70),(⟨(⟨bt146.1,(⟨bt146.2.1,bt146.2.2.1,bt146.2.2.2.1,bt146.2.2.2.2.1,bt146.2.2.2.2.2⟩ : S24)⟩ : S41),([] : List (S41))⟩ : S70)] : List (S70)) : List (S70))).bind fun y152 => ((Lw17_req.f (⟨#[98]⟩ : ByteArray) 0).bind fun bt155 => ((Lw17_req.f (⟨#[97]⟩ : ByteArray) 0).bind fun bt161 => ((some (([(⟨bt155.1,(⟨bt155.2.1,bt155.2.2.1,bt155.2.2.2.1,bt155.2.2.2.2.1,bt155.2.2.2.2.2⟩ : S24)⟩ : S41),(⟨bt161.1,(⟨bt161.2.1,bt161.2.2.1,bt161.2.2.2.1,bt161.2.2.2.2.1,bt161.2.2.2.2.2⟩ : S24)⟩ : S41)] : List (S41)) : List (S41))).bind fun y167 => ((mvs_List.f y167 y152).bind fun t170 => ((Lw17_req.f (⟨#[97]⟩ : ByteArray) 3).bind fun bt173 => ((mvs_Upgrade.f y167 bt173.1 bt173.2.1 bt173.2.2.1 bt173.2.2.2.1 bt173.2.2.2.2.1 bt173.2.2.2.2.2).bind fun t179 => ((Lw17_req.f (⟨#[99]⟩ : ByteArray) 1).bind fun bt182 => ((mvs_Downgrade.f k y167 y152 bt182.1 bt182.2.1 bt182.2.2.1 bt182.2.2.2.1 bt182.2.2.2.2.1 bt182.2.2.2.2.2).bind fun t188 => ((Lw17_req.f (⟨#[97]⟩ : ByteArray) 0).bind fun bt191 => ((Lw17_req.f (⟨#[98]⟩ : ByteArray) 0).bind fun bt197 => ((Lw17_req.f (⟨#[99]⟩ : ByteArray) 2).bind fun bt203 => ((Lw17_req.f (⟨#[100]⟩ : ByteArray) 0).bind fun bt209 => ((Rf17_Same.f k t170 (([(⟨bt191.1,(⟨bt191.2.1,bt191.2.2.1,bt191.2.2.2.1,bt191.2.2.2.2.1,bt191.2.2.2.2.2⟩ : S24)⟩ : S41),(⟨bt197.1,(⟨bt197.2.1,bt197.2.2.1,bt197.2.2.2.1,bt197.2.2.2.2.1,bt197.2.2.2.2.2⟩ : S24)⟩ : S41),(⟨bt203.1,(⟨bt203.2.1,bt203.2.2.1,bt203.2.2.2.1,bt203.2.2.2.2.1,bt203.2.2.2.2.2⟩ : S24)⟩ : S41),(⟨bt209.1,(⟨bt209.2.1,bt209.2.2.1,bt209.2.2.2.1,bt209.2.2.2.2.1,bt209.2.2.2.2.2⟩ : S24)⟩ : S41)] : List (S41)))).bind fun t218 => (if t218 = true then ((mvs_Reached.f y167 y152).bind fun t219 => (if (t219.length : Int) = 5 then ((Lw17_req.f (⟨#[98]⟩ : ByteArray) 0).bind fun bt222 => ((Lw17_req.f (⟨#[97]⟩ : ByteArray) 3).bind fun bt228 => ((Rf17_Same.f k t179 (([(⟨bt222.1,(⟨bt222.2.1,bt222.2.2.1,bt222.2.2.2.1,bt222.2.2.2.2.1,bt222.2.2.2.2.2⟩ : S24)⟩ : S41),(⟨bt228.1,(⟨bt228.2.1,bt228.2.2.1,bt228.2.2.2.1,bt228.2.2.2.2.1,bt228.2.2.2.2.2⟩ : S24)⟩ : S41)] : List (S41)))).bind fun t237 => (if t237 = true then ((Lw17_req.f (⟨#[97]⟩ : ByteArray) 0).bind fun bt238 => ((Rf17_Same.f k t188 (([(⟨bt238.1,(⟨bt238.2.1,bt238.2.2.1,bt238.2.2.2.1,bt238.2.2.2.2.1,bt238.2.2.2.2.2⟩ : S24)⟩ : S41)] : List (S41)))).bind fun t247 => (if t247 = true then ((Lw17_req.f (⟨#[122]⟩ : ByteArray) 0).bind fun bt248 => ((mvs_Upgrade.f y167 bt248.1 bt248.2.1 bt248.2.2.1 bt248.2.2.2.1 bt248.2.2.2.2.1 bt248.2.2.2.2.2).bind fun t254 => (if (t254.length : Int) = 3 then ((Lw17_req.f (⟨#[122]⟩ : ByteArray) (-1)).bind fun bt257 => ((mvs_Upgrade.f y167 bt257.1 bt257.2.1 bt257.2.2.1 bt257.2.2.2.1 bt257.2.2.2.2.1 bt257.2.2.2.2.2).bind fun t263 => (some ((t263.length : Int) == 2)))) else (some false)))) else (some false)))) else (some false))))) else (some false))) else (some false))))))))))))))))))))))
theorem Lw17_live.mono : ∀ k,LeO (Lw17_live.f k ) (Lw17_live.f (k + 1) ):=by
 intro  k
 unfold Lw17_live.f
 repeat' first
   | (with_reducible exact Rf17_Same.mono _ _ _)
   | (with_reducible exact mvs_Downgrade.mono _ _ _ _ _ _ _ _ _)
   | (with_reducible exact LeO.refl _)
   | (with_reducible exact LeO.none _)
   | (with_reducible refine LeO.ite ?_ ?_)
   | (with_reducible refine LeO.bind ?_ (fun _ => ?_))
   | exact Rf17_Same.mono _ _ _
   | exact mvs_Downgrade.mono _ _ _ _ _ _ _ _ _
   | exact LeO.none _
   | refine LeO.ite ?_ ?_
   | refine LeO.bind ?_ (fun _ => ?_)
set_option maxHeartbeats 8000000 in
set_option maxRecDepth 100000 in
theorem Lw17_live.calls (k : Nat)  (r : Bool) (w : World) (h : Lw17_live.f k  = some r) (hr_ : r = true) (hG : Env w) :
  Calls Tryz.prog 22 #[] w fun e w' => e = .returned (.bool r) ∧ Below w.heap.size w w':=by
 have HG:=Aside0.mk hG
 clear hG
 have HR_:=Aside0.mk hr_
 clear hr_
 have hu70:=Tryz.underlying70
 have HB:=Aside0.mk (Below.refl w.heap.size w)
 have H : ((Lw17_req.f (⟨#[97]⟩ : ByteArray) 0).bind fun bt101 => ((Lw17_req.f (⟨#[99]⟩ : ByteArray) 1).bind fun bt107 => ((Lw17_req.f (⟨#[98]⟩ : ByteArray) 0).bind fun bt116 => ((Lw17_req.f (⟨#[99]⟩ : ByteArray) 2).bind fun bt122 => ((Lw17_req.f (⟨#[99]⟩ : ByteArray) 2).bind fun bt131 => ((Lw17_req.f (⟨#[100]⟩ : ByteArray) 0).bind fun bt137 => ((Lw17_req.f (⟨#[98]⟩ : ByteArray) (-1)).bind fun bt146 => ((some (([(⟨(⟨bt101.1,(⟨bt101.2.1,bt101.2.2.1,bt101.2.2.2.1,bt101.2.2.2.2.1,bt101.2.2.2.2.2⟩ : S24)⟩ : S41),(([(⟨bt107.1,(⟨bt107.2.1,bt107.2.2.1,bt107.2.2.2.1,bt107.2.2.2.2.1,bt107.2.2.2.2.2⟩ : S24)⟩ : S41)] : List (S41)))⟩ : S70),(⟨(⟨bt116.1,(⟨bt116.2.1,bt116.2.2.1,bt116.2.2.2.1,bt116.2.2.2.2.1,bt116.2.2.2.2.2⟩ : S24)⟩ : S41),(([(⟨bt122.1,(⟨bt122.2.1,bt122.2.2.1,bt122.2.2.2.1,bt122.2.2.2.2.1,bt122.2.2.2.2.2⟩ : S24)⟩ : S41)] : List (S41)))⟩ : S70),(⟨(⟨bt131.1,(⟨bt131.2.1,bt131.2.2.1,bt131.2.2.2.1,bt131.2.2.2.2.1,bt131.2.2.2.2.2⟩ : S24)⟩ : S41),(([(⟨bt137.1,(⟨bt137.2.1,bt137.2.2.1,bt137.2.2.2.1,bt137.2.2.2.2.1,bt137.2.2.2.2.2⟩ : S24)⟩ : S41)] : List (S41)))⟩ : S70),(⟨(⟨bt146.1,(⟨bt146.2.1,bt146.2.2.1,bt146.2.2.2.1,bt146.2.2.2.2.1,bt146.2.2.2.2.2⟩ : S24)⟩ : S41),([] : List (S41))⟩ : S70)] : List (S70)) : List (S70))).bind fun y152 => ((Lw17_req.f (⟨#[98]⟩ : ByteArray) 0).bind fun bt155 => ((Lw17_req.f (⟨#[97]⟩ : ByteArray) 0).bind fun bt161 => ((some (([(⟨bt155.1,(⟨bt155.2.1,bt155.2.2.1,bt155.2.2.2.1,bt155.2.2.2.2.1,bt155.2.2.2.2.2⟩ : S24)⟩ : S41),(⟨bt161.1,(⟨bt161.2.1,bt161.2.2.1,bt161.2.2.2.1,bt161.2.2.2.2.1,bt161.2.2.2.2.2⟩ : S24)⟩ : S41)] : List (S41)) : List (S41))).bind fun y167 => ((mvs_List.f y167 y152).bind fun t170 => ((Lw17_req.f (⟨#[97]⟩ : ByteArray) 3).bind fun bt173 => ((mvs_Upgrade.f y167 bt173.1 bt173.2.1 bt173.2.2.1 bt173.2.2.2.1 bt173.2.2.2.2.1 bt173.2.2.2.2.2).bind fun t179 => ((Lw17_req.f (⟨#[99]⟩ : ByteArray) 1).bind fun bt182 => ((mvs_Downgrade.f k y167 y152 bt182.1 bt182.2.1 bt182.2.2.1 bt182.2.2.2.1 bt182.2.2.2.2.1 bt182.2.2.2.2.2).bind fun t188 => ((Lw17_req.f (⟨#[97]⟩ : ByteArray) 0).bind fun bt191 => ((Lw17_req.f (⟨#[98]⟩ : ByteArray) 0).bind fun bt197 => ((Lw17_req.f (⟨#[99]⟩ : ByteArray) 2).bind fun bt203 => ((Lw17_req.f (⟨#[100]⟩ : ByteArray) 0).bind fun bt209 => ((Rf17_Same.f k t170 (([(⟨bt191.1,(⟨bt191.2.1,bt191.2.2.1,bt191.2.2.2.1,bt191.2.2.2.2.1,bt191.2.2.2.2.2⟩ : S24)⟩ : S41),(⟨bt197.1,(⟨bt197.2.1,bt197.2.2.1,bt197.2.2.2.1,bt197.2.2.2.2.1,bt197.2.2.2.2.2⟩ : S24)⟩ : S41),(⟨bt203.1,(⟨bt203.2.1,bt203.2.2.1,bt203.2.2.2.1,bt203.2.2.2.2.1,bt203.2.2.2.2.2⟩ : S24)⟩ : S41),(⟨bt209.1,(⟨bt209.2.1,bt209.2.2.1,bt209.2.2.2.1,bt209.2.2.2.2.1,bt209.2.2.2.2.2⟩ : S24)⟩ : S41)] : List (S41)))).bind fun t218 => (if t218 = true then ((mvs_Reached.f y167 y152).bind fun t219 => (if (t219.length : Int) = 5 then ((Lw17_req.f (⟨#[98]⟩ : ByteArray) 0).bind fun bt222 => ((Lw17_req.f (⟨#[97]⟩ : ByteArray) 3).bind fun bt228 => ((Rf17_Same.f k t179 (([(⟨bt222.1,(⟨bt222.2.1,bt222.2.2.1,bt222.2.2.2.1,bt222.2.2.2.2.1,bt222.2.2.2.2.2⟩ : S24)⟩ : S41),(⟨bt228.1,(⟨bt228.2.1,bt228.2.2.1,bt228.2.2.2.1,bt228.2.2.2.2.1,bt228.2.2.2.2.2⟩ : S24)⟩ : S41)] : List (S41)))).bind fun t237 => (if t237 = true then ((Lw17_req.f (⟨#[97]⟩ : ByteArray) 0).bind fun bt238 => ((Rf17_Same.f k t188 (([(⟨bt238.1,(⟨bt238.2.1,bt238.2.2.1,bt238.2.2.2.1,bt238.2.2.2.2.1,bt238.2.2.2.2.2⟩ : S24)⟩ : S41)] : List (S41)))).bind fun t247 => (if t247 = true then ((Lw17_req.f (⟨#[122]⟩ : ByteArray) 0).bind fun bt248 => ((mvs_Upgrade.f y167 bt248.1 bt248.2.1 bt248.2.2.1 bt248.2.2.2.1 bt248.2.2.2.2.1 bt248.2.2.2.2.2).bind fun t254 => (if (t254.length : Int) = 3 then ((Lw17_req.f (⟨#[122]⟩ : ByteArray) (-1)).bind fun bt257 => ((mvs_Upgrade.f y167 bt257.1 bt257.2.1 bt257.2.2.1 bt257.2.2.2.1 bt257.2.2.2.2.1 bt257.2.2.2.2.2).bind fun t263 => (some ((t263.length : Int) == 2)))) else (some false)))) else (some false)))) else (some false))))) else (some false))) else (some false))))))))))))))))))))))) = some r:=h
 clear h
 obtain ⟨⟨t101,t102,t103,t104,t105,t106⟩,A10,H⟩:=Option.bind_eq_some_iff.mp H
 dsimp only at H
 have A1:=Aside0.mk A10
 clear A10
 obtain ⟨⟨t107,t108,t109,t110,t111,t112⟩,A20,H⟩:=Option.bind_eq_some_iff.mp H
 dsimp only at H
 have A2:=Aside0.mk A20
 clear A20
 obtain ⟨y113,hy113⟩ : ∃ y_ : List (S41),y_ = (([(⟨t107,(⟨t108,t109,t110,t111,t112⟩ : S24)⟩ : S41)] : List (S41))):=⟨_,rfl⟩
 replace H : ((Lw17_req.f (⟨#[98]⟩ : ByteArray) 0).bind fun bt116 => ((Lw17_req.f (⟨#[99]⟩ : ByteArray) 2).bind fun bt122 => ((Lw17_req.f (⟨#[99]⟩ : ByteArray) 2).bind fun bt131 => ((Lw17_req.f (⟨#[100]⟩ : ByteArray) 0).bind fun bt137 => ((Lw17_req.f (⟨#[98]⟩ : ByteArray) (-1)).bind fun bt146 => ((some (([(⟨(⟨t101,(⟨t102,t103,t104,t105,t106⟩ : S24)⟩ : S41),y113⟩ : S70),(⟨(⟨bt116.1,(⟨bt116.2.1,bt116.2.2.1,bt116.2.2.2.1,bt116.2.2.2.2.1,bt116.2.2.2.2.2⟩ : S24)⟩ : S41),(([(⟨bt122.1,(⟨bt122.2.1,bt122.2.2.1,bt122.2.2.2.1,bt122.2.2.2.2.1,bt122.2.2.2.2.2⟩ : S24)⟩ : S41)] : List (S41)))⟩ : S70),(⟨(⟨bt131.1,(⟨bt131.2.1,bt131.2.2.1,bt131.2.2.2.1,bt131.2.2.2.2.1,bt131.2.2.2.2.2⟩ : S24)⟩ : S41),(([(⟨bt137.1,(⟨bt137.2.1,bt137.2.2.1,bt137.2.2.2.1,bt137.2.2.2.2.1,bt137.2.2.2.2.2⟩ : S24)⟩ : S41)] : List (S41)))⟩ : S70),(⟨(⟨bt146.1,(⟨bt146.2.1,bt146.2.2.1,bt146.2.2.2.1,bt146.2.2.2.2.1,bt146.2.2.2.2.2⟩ : S24)⟩ : S41),([] : List (S41))⟩ : S70)] : List (S70)) : List (S70))).bind fun y152 => ((Lw17_req.f (⟨#[98]⟩ : ByteArray) 0).bind fun bt155 => ((Lw17_req.f (⟨#[97]⟩ : ByteArray) 0).bind fun bt161 => ((some (([(⟨bt155.1,(⟨bt155.2.1,bt155.2.2.1,bt155.2.2.2.1,bt155.2.2.2.2.1,bt155.2.2.2.2.2⟩ : S24)⟩ : S41),(⟨bt161.1,(⟨bt161.2.1,bt161.2.2.1,bt161.2.2.2.1,bt161.2.2.2.2.1,bt161.2.2.2.2.2⟩ : S24)⟩ : S41)] : List (S41)) : List (S41))).bind fun y167 => ((mvs_List.f y167 y152).bind fun t170 => ((Lw17_req.f (⟨#[97]⟩ : ByteArray) 3).bind fun bt173 => ((mvs_Upgrade.f y167 bt173.1 bt173.2.1 bt173.2.2.1 bt173.2.2.2.1 bt173.2.2.2.2.1 bt173.2.2.2.2.2).bind fun t179 => ((Lw17_req.f (⟨#[99]⟩ : ByteArray) 1).bind fun bt182 => ((mvs_Downgrade.f k y167 y152 bt182.1 bt182.2.1 bt182.2.2.1 bt182.2.2.2.1 bt182.2.2.2.2.1 bt182.2.2.2.2.2).bind fun t188 => ((Lw17_req.f (⟨#[97]⟩ : ByteArray) 0).bind fun bt191 => ((Lw17_req.f (⟨#[98]⟩ : ByteArray) 0).bind fun bt197 => ((Lw17_req.f (⟨#[99]⟩ : ByteArray) 2).bind fun bt203 => ((Lw17_req.f (⟨#[100]⟩ : ByteArray) 0).bind fun bt209 => ((Rf17_Same.f k t170 (([(⟨bt191.1,(⟨bt191.2.1,bt191.2.2.1,bt191.2.2.2.1,bt191.2.2.2.2.1,bt191.2.2.2.2.2⟩ : S24)⟩ : S41),(⟨bt197.1,(⟨bt197.2.1,bt197.2.2.1,bt197.2.2.2.1,bt197.2.2.2.2.1,bt197.2.2.2.2.2⟩ : S24)⟩ : S41),(⟨bt203.1,(⟨bt203.2.1,bt203.2.2.1,bt203.2.2.2.1,bt203.2.2.2.2.1,bt203.2.2.2.2.2⟩ : S24)⟩ : S41),(⟨bt209.1,(⟨bt209.2.1,bt209.2.2.1,bt209.2.2.2.1,bt209.2.2.2.2.1,bt209.2.2.2.2.2⟩ : S24)⟩ : S41)] : List (S41)))).bind fun t218 => (if t218 = true then ((mvs_Reached.f y167 y152).bind fun t219 => (if (t219.length : Int) = 5 then ((Lw17_req.f (⟨#[98]⟩ : ByteArray) 0).bind fun bt222 => ((Lw17_req.f (⟨#[97]⟩ : ByteArray) 3).bind fun bt228 => ((Rf17_Same.f k t179 (([(⟨bt222.1,(⟨bt222.2.1,bt222.2.2.1,bt222.2.2.2.1,bt222.2.2.2.2.1,bt222.2.2.2.2.2⟩ : S24)⟩ : S41),(⟨bt228.1,(⟨bt228.2.1,bt228.2.2.1,bt228.2.2.2.1,bt228.2.2.2.2.1,bt228.2.2.2.2.2⟩ : S24)⟩ : S41)] : List (S41)))).bind fun t237 => (if t237 = true then ((Lw17_req.f (⟨#[97]⟩ : ByteArray) 0).bind fun bt238 => ((Rf17_Same.f k t188 (([(⟨bt238.1,(⟨bt238.2.1,bt238.2.2.1,bt238.2.2.2.1,bt238.2.2.2.2.1,bt238.2.2.2.2.2⟩ : S24)⟩ : S41)] : List (S41)))).bind fun t247 => (if t247 = true then ((Lw17_req.f (⟨#[122]⟩ : ByteArray) 0).bind fun bt248 => ((mvs_Upgrade.f y167 bt248.1 bt248.2.1 bt248.2.2.1 bt248.2.2.2.1 bt248.2.2.2.2.1 bt248.2.2.2.2.2).bind fun t254 => (if (t254.length : Int) = 3 then ((Lw17_req.f (⟨#[122]⟩ : ByteArray) (-1)).bind fun bt257 => ((mvs_Upgrade.f y167 bt257.1 bt257.2.1 bt257.2.2.1 bt257.2.2.2.1 bt257.2.2.2.2.1 bt257.2.2.2.2.2).bind fun t263 => (some ((t263.length : Int) == 2)))) else (some false)))) else (some false)))) else (some false))))) else (some false))) else (some false))))))))))))))))))))) = some r:=by first | (rw [hy113];with_reducible exact H) | (have H2_:=(Option.bind_some _ _).symm.trans H;rw [hy113];with_reducible exact H2_) | (have H2_:=(Option.bind_some _ _).symm.trans H;with_reducible exact H2_) | with_reducible exact H | (rw [hy113];exact H) | exact H
 have Ny113:=Aside0.mk hy113
 clear hy113
 obtain ⟨⟨t116,t117,t118,t119,t120,t121⟩,A30,H⟩:=Option.bind_eq_some_iff.mp H
 dsimp only at H
 have A3:=Aside0.mk A30
 clear A30
 obtain ⟨⟨t122,t123,t124,t125,t126,t127⟩,A40,H⟩:=Option.bind_eq_some_iff.mp H
 dsimp only at H
 have A4:=Aside0.mk A40
 clear A40
 obtain ⟨y128,hy128⟩ : ∃ y_ : List (S41),y_ = (([(⟨t122,(⟨t123,t124,t125,t126,t127⟩ : S24)⟩ : S41)] : List (S41))):=⟨_,rfl⟩
 replace H : ((Lw17_req.f (⟨#[99]⟩ : ByteArray) 2).bind fun bt131 => ((Lw17_req.f (⟨#[100]⟩ : ByteArray) 0).bind fun bt137 => ((Lw17_req.f (⟨#[98]⟩ : ByteArray) (-1)).bind fun bt146 => ((some (([(⟨(⟨t101,(⟨t102,t103,t104,t105,t106⟩ : S24)⟩ : S41),y113⟩ : S70),(⟨(⟨t116,(⟨t117,t118,t119,t120,t121⟩ : S24)⟩ : S41),y128⟩ : S70),(⟨(⟨bt131.1,(⟨bt131.2.1,bt131.2.2.1,bt131.2.2.2.1,bt131.2.2.2.2.1,bt131.2.2.2.2.2⟩ : S24)⟩ : S41),(([(⟨bt137.1,(⟨bt137.2.1,bt137.2.2.1,bt137.2.2.2.1,bt137.2.2.2.2.1,bt137.2.2.2.2.2⟩ : S24)⟩ : S41)] : List (S41)))⟩ : S70),(⟨(⟨bt146.1,(⟨bt146.2.1,bt146.2.2.1,bt146.2.2.2.1,bt146.2.2.2.2.1,bt146.2.2.2.2.2⟩ : S24)⟩ : S41),([] : List (S41))⟩ : S70)] : List (S70)) : List (S70))).bind fun y152 => ((Lw17_req.f (⟨#[98]⟩ : ByteArray) 0).bind fun bt155 => ((Lw17_req.f (⟨#[97]⟩ : ByteArray) 0).bind fun bt161 => ((some (([(⟨bt155.1,(⟨bt155.2.1,bt155.2.2.1,bt155.2.2.2.1,bt155.2.2.2.2.1,bt155.2.2.2.2.2⟩ : S24)⟩ : S41),(⟨bt161.1,(⟨bt161.2.1,bt161.2.2.1,bt161.2.2.2.1,bt161.2.2.2.2.1,bt161.2.2.2.2.2⟩ : S24)⟩ : S41)] : List (S41)) : List (S41))).bind fun y167 => ((mvs_List.f y167 y152).bind fun t170 => ((Lw17_req.f (⟨#[97]⟩ : ByteArray) 3).bind fun bt173 => ((mvs_Upgrade.f y167 bt173.1 bt173.2.1 bt173.2.2.1 bt173.2.2.2.1 bt173.2.2.2.2.1 bt173.2.2.2.2.2).bind fun t179 => ((Lw17_req.f (⟨#[99]⟩ : ByteArray) 1).bind fun bt182 => ((mvs_Downgrade.f k y167 y152 bt182.1 bt182.2.1 bt182.2.2.1 bt182.2.2.2.1 bt182.2.2.2.2.1 bt182.2.2.2.2.2).bind fun t188 => ((Lw17_req.f (⟨#[97]⟩ : ByteArray) 0).bind fun bt191 => ((Lw17_req.f (⟨#[98]⟩ : ByteArray) 0).bind fun bt197 => ((Lw17_req.f (⟨#[99]⟩ : ByteArray) 2).bind fun bt203 => ((Lw17_req.f (⟨#[100]⟩ : ByteArray) 0).bind fun bt209 => ((Rf17_Same.f k t170 (([(⟨bt191.1,(⟨bt191.2.1,bt191.2.2.1,bt191.2.2.2.1,bt191.2.2.2.2.1,bt191.2.2.2.2.2⟩ : S24)⟩ : S41),(⟨bt197.1,(⟨bt197.2.1,bt197.2.2.1,bt197.2.2.2.1,bt197.2.2.2.2.1,bt197.2.2.2.2.2⟩ : S24)⟩ : S41),(⟨bt203.1,(⟨bt203.2.1,bt203.2.2.1,bt203.2.2.2.1,bt203.2.2.2.2.1,bt203.2.2.2.2.2⟩ : S24)⟩ : S41),(⟨bt209.1,(⟨bt209.2.1,bt209.2.2.1,bt209.2.2.2.1,bt209.2.2.2.2.1,bt209.2.2.2.2.2⟩ : S24)⟩ : S41)] : List (S41)))).bind fun t218 => (if t218 = true then ((mvs_Reached.f y167 y152).bind fun t219 => (if (t219.length : Int) = 5 then ((Lw17_req.f (⟨#[98]⟩ : ByteArray) 0).bind fun bt222 => ((Lw17_req.f (⟨#[97]⟩ : ByteArray) 3).bind fun bt228 => ((Rf17_Same.f k t179 (([(⟨bt222.1,(⟨bt222.2.1,bt222.2.2.1,bt222.2.2.2.1,bt222.2.2.2.2.1,bt222.2.2.2.2.2⟩ : S24)⟩ : S41),(⟨bt228.1,(⟨bt228.2.1,bt228.2.2.1,bt228.2.2.2.1,bt228.2.2.2.2.1,bt228.2.2.2.2.2⟩ : S24)⟩ : S41)] : List (S41)))).bind fun t237 => (if t237 = true then ((Lw17_req.f (⟨#[97]⟩ : ByteArray) 0).bind fun bt238 => ((Rf17_Same.f k t188 (([(⟨bt238.1,(⟨bt238.2.1,bt238.2.2.1,bt238.2.2.2.1,bt238.2.2.2.2.1,bt238.2.2.2.2.2⟩ : S24)⟩ : S41)] : List (S41)))).bind fun t247 => (if t247 = true then ((Lw17_req.f (⟨#[122]⟩ : ByteArray) 0).bind fun bt248 => ((mvs_Upgrade.f y167 bt248.1 bt248.2.1 bt248.2.2.1 bt248.2.2.2.1 bt248.2.2.2.2.1 bt248.2.2.2.2.2).bind fun t254 => (if (t254.length : Int) = 3 then ((Lw17_req.f (⟨#[122]⟩ : ByteArray) (-1)).bind fun bt257 => ((mvs_Upgrade.f y167 bt257.1 bt257.2.1 bt257.2.2.1 bt257.2.2.2.1 bt257.2.2.2.2.1 bt257.2.2.2.2.2).bind fun t263 => (some ((t263.length : Int) == 2)))) else (some false)))) else (some false)))) else (some false))))) else (some false))) else (some false))))))))))))))))))) = some r:=by first | (rw [hy128];with_reducible exact H) | (have H2_:=(Option.bind_some _ _).symm.trans H;rw [hy128];with_reducible exact H2_) | (have H2_:=(Option.bind_some _ _).symm.trans H;with_reducible exact H2_) | with_reducible exact H | (rw [hy128];exact H) | exact H
 have Ny128:=Aside0.mk hy128
 clear hy128
 obtain ⟨⟨t131,t132,t133,t134,t135,t136⟩,A50,H⟩:=Option.bind_eq_some_iff.mp H
 dsimp only at H
 have A5:=Aside0.mk A50
 clear A50
 obtain ⟨⟨t137,t138,t139,t140,t141,t142⟩,A60,H⟩:=Option.bind_eq_some_iff.mp H
 dsimp only at H
 have A6:=Aside0.mk A60
 clear A60
 obtain ⟨y143,hy143⟩ : ∃ y_ : List (S41),y_ = (([(⟨t137,(⟨t138,t139,t140,t141,t142⟩ : S24)⟩ : S41)] : List (S41))):=⟨_,rfl⟩
 replace H : ((Lw17_req.f (⟨#[98]⟩ : ByteArray) (-1)).bind fun bt146 => ((some (([(⟨(⟨t101,(⟨t102,t103,t104,t105,t106⟩ : S24)⟩ : S41),y113⟩ : S70),(⟨(⟨t116,(⟨t117,t118,t119,t120,t121⟩ : S24)⟩ : S41),y128⟩ : S70),(⟨(⟨t131,(⟨t132,t133,t134,t135,t136⟩ : S24)⟩ : S41),y143⟩ : S70),(⟨(⟨bt146.1,(⟨bt146.2.1,bt146.2.2.1,bt146.2.2.2.1,bt146.2.2.2.2.1,bt146.2.2.2.2.2⟩ : S24)⟩ : S41),([] : List (S41))⟩ : S70)] : List (S70)) : List (S70))).bind fun y152 => ((Lw17_req.f (⟨#[98]⟩ : ByteArray) 0).bind fun bt155 => ((Lw17_req.f (⟨#[97]⟩ : ByteArray) 0).bind fun bt161 => ((some (([(⟨bt155.1,(⟨bt155.2.1,bt155.2.2.1,bt155.2.2.2.1,bt155.2.2.2.2.1,bt155.2.2.2.2.2⟩ : S24)⟩ : S41),(⟨bt161.1,(⟨bt161.2.1,bt161.2.2.1,bt161.2.2.2.1,bt161.2.2.2.2.1,bt161.2.2.2.2.2⟩ : S24)⟩ : S41)] : List (S41)) : List (S41))).bind fun y167 => ((mvs_List.f y167 y152).bind fun t170 => ((Lw17_req.f (⟨#[97]⟩ : ByteArray) 3).bind fun bt173 => ((mvs_Upgrade.f y167 bt173.1 bt173.2.1 bt173.2.2.1 bt173.2.2.2.1 bt173.2.2.2.2.1 bt173.2.2.2.2.2).bind fun t179 => ((Lw17_req.f (⟨#[99]⟩ : ByteArray) 1).bind fun bt182 => ((mvs_Downgrade.f k y167 y152 bt182.1 bt182.2.1 bt182.2.2.1 bt182.2.2.2.1 bt182.2.2.2.2.1 bt182.2.2.2.2.2).bind fun t188 => ((Lw17_req.f (⟨#[97]⟩ : ByteArray) 0).bind fun bt191 => ((Lw17_req.f (⟨#[98]⟩ : ByteArray) 0).bind fun bt197 => ((Lw17_req.f (⟨#[99]⟩ : ByteArray) 2).bind fun bt203 => ((Lw17_req.f (⟨#[100]⟩ : ByteArray) 0).bind fun bt209 => ((Rf17_Same.f k t170 (([(⟨bt191.1,(⟨bt191.2.1,bt191.2.2.1,bt191.2.2.2.1,bt191.2.2.2.2.1,bt191.2.2.2.2.2⟩ : S24)⟩ : S41),(⟨bt197.1,(⟨bt197.2.1,bt197.2.2.1,bt197.2.2.2.1,bt197.2.2.2.2.1,bt197.2.2.2.2.2⟩ : S24)⟩ : S41),(⟨bt203.1,(⟨bt203.2.1,bt203.2.2.1,bt203.2.2.2.1,bt203.2.2.2.2.1,bt203.2.2.2.2.2⟩ : S24)⟩ : S41),(⟨bt209.1,(⟨bt209.2.1,bt209.2.2.1,bt209.2.2.2.1,bt209.2.2.2.2.1,bt209.2.2.2.2.2⟩ : S24)⟩ : S41)] : List (S41)))).bind fun t218 => (if t218 = true then ((mvs_Reached.f y167 y152).bind fun t219 => (if (t219.length : Int) = 5 then ((Lw17_req.f (⟨#[98]⟩ : ByteArray) 0).bind fun bt222 => ((Lw17_req.f (⟨#[97]⟩ : ByteArray) 3).bind fun bt228 => ((Rf17_Same.f k t179 (([(⟨bt222.1,(⟨bt222.2.1,bt222.2.2.1,bt222.2.2.2.1,bt222.2.2.2.2.1,bt222.2.2.2.2.2⟩ : S24)⟩ : S41),(⟨bt228.1,(⟨bt228.2.1,bt228.2.2.1,bt228.2.2.2.1,bt228.2.2.2.2.1,bt228.2.2.2.2.2⟩ : S24)⟩ : S41)] : List (S41)))).bind fun t237 => (if t237 = true then ((Lw17_req.f (⟨#[97]⟩ : ByteArray) 0).bind fun bt238 => ((Rf17_Same.f k t188 (([(⟨bt238.1,(⟨bt238.2.1,bt238.2.2.1,bt238.2.2.2.1,bt238.2.2.2.2.1,bt238.2.2.2.2.2⟩ : S24)⟩ : S41)] : List (S41)))).bind fun t247 => (if t247 = true then ((Lw17_req.f (⟨#[122]⟩ : ByteArray) 0).bind fun bt248 => ((mvs_Upgrade.f y167 bt248.1 bt248.2.1 bt248.2.2.1 bt248.2.2.2.1 bt248.2.2.2.2.1 bt248.2.2.2.2.2).bind fun t254 => (if (t254.length : Int) = 3 then ((Lw17_req.f (⟨#[122]⟩ : ByteArray) (-1)).bind fun bt257 => ((mvs_Upgrade.f y167 bt257.1 bt257.2.1 bt257.2.2.1 bt257.2.2.2.1 bt257.2.2.2.2.1 bt257.2.2.2.2.2).bind fun t263 => (some ((t263.length : Int) == 2)))) else (some false)))) else (some false)))) else (some false))))) else (some false))) else (some false))))))))))))))))) = some r:=by first | (rw [hy143];with_reducible exact H) | (have H2_:=(Option.bind_some _ _).symm.trans H;rw [hy143];with_reducible exact H2_) | (have H2_:=(Option.bind_some _ _).symm.trans H;with_reducible exact H2_) | with_reducible exact H | (rw [hy143];exact H) | exact H
 have Ny143:=Aside0.mk hy143
 clear hy143
 obtain ⟨⟨t146,t147,t148,t149,t150,t151⟩,A70,H⟩:=Option.bind_eq_some_iff.mp H
 dsimp only at H
 have A7:=Aside0.mk A70
 clear A70
 obtain ⟨y152,hy152⟩ : ∃ y_ : List (S70),y_ = (([(⟨(⟨t101,(⟨t102,t103,t104,t105,t106⟩ : S24)⟩ : S41),y113⟩ : S70),(⟨(⟨t116,(⟨t117,t118,t119,t120,t121⟩ : S24)⟩ : S41),y128⟩ : S70),(⟨(⟨t131,(⟨t132,t133,t134,t135,t136⟩ : S24)⟩ : S41),y143⟩ : S70),(⟨(⟨t146,(⟨t147,t148,t149,t150,t151⟩ : S24)⟩ : S41),([] : List (S41))⟩ : S70)] : List (S70))):=⟨_,rfl⟩
 replace H : ((Lw17_req.f (⟨#[98]⟩ : ByteArray) 0).bind fun bt155 => ((Lw17_req.f (⟨#[97]⟩ : ByteArray) 0).bind fun bt161 => ((some (([(⟨bt155.1,(⟨bt155.2.1,bt155.2.2.1,bt155.2.2.2.1,bt155.2.2.2.2.1,bt155.2.2.2.2.2⟩ : S24)⟩ : S41),(⟨bt161.1,(⟨bt161.2.1,bt161.2.2.1,bt161.2.2.2.1,bt161.2.2.2.2.1,bt161.2.2.2.2.2⟩ : S24)⟩ : S41)] : List (S41)) : List (S41))).bind fun y167 => ((mvs_List.f y167 y152).bind fun t170 => ((Lw17_req.f (⟨#[97]⟩ : ByteArray) 3).bind fun bt173 => ((mvs_Upgrade.f y167 bt173.1 bt173.2.1 bt173.2.2.1 bt173.2.2.2.1 bt173.2.2.2.2.1 bt173.2.2.2.2.2).bind fun t179 => ((Lw17_req.f (⟨#[99]⟩ : ByteArray) 1).bind fun bt182 => ((mvs_Downgrade.f k y167 y152 bt182.1 bt182.2.1 bt182.2.2.1 bt182.2.2.2.1 bt182.2.2.2.2.1 bt182.2.2.2.2.2).bind fun t188 => ((Lw17_req.f (⟨#[97]⟩ : ByteArray) 0).bind fun bt191 => ((Lw17_req.f (⟨#[98]⟩ : ByteArray) 0).bind fun bt197 => ((Lw17_req.f (⟨#[99]⟩ : ByteArray) 2).bind fun bt203 => ((Lw17_req.f (⟨#[100]⟩ : ByteArray) 0).bind fun bt209 => ((Rf17_Same.f k t170 (([(⟨bt191.1,(⟨bt191.2.1,bt191.2.2.1,bt191.2.2.2.1,bt191.2.2.2.2.1,bt191.2.2.2.2.2⟩ : S24)⟩ : S41),(⟨bt197.1,(⟨bt197.2.1,bt197.2.2.1,bt197.2.2.2.1,bt197.2.2.2.2.1,bt197.2.2.2.2.2⟩ : S24)⟩ : S41),(⟨bt203.1,(⟨bt203.2.1,bt203.2.2.1,bt203.2.2.2.1,bt203.2.2.2.2.1,bt203.2.2.2.2.2⟩ : S24)⟩ : S41),(⟨bt209.1,(⟨bt209.2.1,bt209.2.2.1,bt209.2.2.2.1,bt209.2.2.2.2.1,bt209.2.2.2.2.2⟩ : S24)⟩ : S41)] : List (S41)))).bind fun t218 => (if t218 = true then ((mvs_Reached.f y167 y152).bind fun t219 => (if (t219.length : Int) = 5 then ((Lw17_req.f (⟨#[98]⟩ : ByteArray) 0).bind fun bt222 => ((Lw17_req.f (⟨#[97]⟩ : ByteArray) 3).bind fun bt228 => ((Rf17_Same.f k t179 (([(⟨bt222.1,(⟨bt222.2.1,bt222.2.2.1,bt222.2.2.2.1,bt222.2.2.2.2.1,bt222.2.2.2.2.2⟩ : S24)⟩ : S41),(⟨bt228.1,(⟨bt228.2.1,bt228.2.2.1,bt228.2.2.2.1,bt228.2.2.2.2.1,bt228.2.2.2.2.2⟩ : S24)⟩ : S41)] : List (S41)))).bind fun t237 => (if t237 = true then ((Lw17_req.f (⟨#[97]⟩ : ByteArray) 0).bind fun bt238 => ((Rf17_Same.f k t188 (([(⟨bt238.1,(⟨bt238.2.1,bt238.2.2.1,bt238.2.2.2.1,bt238.2.2.2.2.1,bt238.2.2.2.2.2⟩ : S24)⟩ : S41)] : List (S41)))).bind fun t247 => (if t247 = true then ((Lw17_req.f (⟨#[122]⟩ : ByteArray) 0).bind fun bt248 => ((mvs_Upgrade.f y167 bt248.1 bt248.2.1 bt248.2.2.1 bt248.2.2.2.1 bt248.2.2.2.2.1 bt248.2.2.2.2.2).bind fun t254 => (if (t254.length : Int) = 3 then ((Lw17_req.f (⟨#[122]⟩ : ByteArray) (-1)).bind fun bt257 => ((mvs_Upgrade.f y167 bt257.1 bt257.2.1 bt257.2.2.1 bt257.2.2.2.1 bt257.2.2.2.2.1 bt257.2.2.2.2.2).bind fun t263 => (some ((t263.length : Int) == 2)))) else (some false)))) else (some false)))) else (some false))))) else (some false))) else (some false))))))))))))))) = some r:=by first | (rw [hy152];with_reducible exact H) | (have H2_:=(Option.bind_some _ _).symm.trans H;rw [hy152];with_reducible exact H2_) | (have H2_:=(Option.bind_some _ _).symm.trans H;with_reducible exact H2_) | with_reducible exact H | (rw [hy152];exact H) | exact H
 have Ny152:=Aside0.mk hy152
 clear hy152
 obtain ⟨⟨t155,t156,t157,t158,t159,t160⟩,A80,H⟩:=Option.bind_eq_some_iff.mp H
 dsimp only at H
 have A8:=Aside0.mk A80
 clear A80
 obtain ⟨⟨t161,t162,t163,t164,t165,t166⟩,A90,H⟩:=Option.bind_eq_some_iff.mp H
 dsimp only at H
 have A9:=Aside0.mk A90
 clear A90
 obtain ⟨y167,hy167⟩ : ∃ y_ : List (S41),y_ = (([(⟨t155,(⟨t156,t157,t158,t159,t160⟩ : S24)⟩ : S41),(⟨t161,(⟨t162,t163,t164,t165,t166⟩ : S24)⟩ : S41)] : List (S41))):=⟨_,rfl⟩
 replace H : ((mvs_List.f y167 y152).bind fun t170 => ((Lw17_req.f (⟨#[97]⟩ : ByteArray) 3).bind fun bt173 => ((mvs_Upgrade.f y167 bt173.1 bt173.2.1 bt173.2.2.1 bt173.2.2.2.1 bt173.2.2.2.2.1 bt173.2.2.2.2.2).bind fun t179 => ((Lw17_req.f (⟨#[99]⟩ : ByteArray) 1).bind fun bt182 => ((mvs_Downgrade.f k y167 y152 bt182.1 bt182.2.1 bt182.2.2.1 bt182.2.2.2.1 bt182.2.2.2.2.1 bt182.2.2.2.2.2).bind fun t188 => ((Lw17_req.f (⟨#[97]⟩ : ByteArray) 0).bind fun bt191 => ((Lw17_req.f (⟨#[98]⟩ : ByteArray) 0).bind fun bt197 => ((Lw17_req.f (⟨#[99]⟩ : ByteArray) 2).bind fun bt203 => ((Lw17_req.f (⟨#[100]⟩ : ByteArray) 0).bind fun bt209 => ((Rf17_Same.f k t170 (([(⟨bt191.1,(⟨bt191.2.1,bt191.2.2.1,bt191.2.2.2.1,bt191.2.2.2.2.1,bt191.2.2.2.2.2⟩ : S24)⟩ : S41),(⟨bt197.1,(⟨bt197.2.1,bt197.2.2.1,bt197.2.2.2.1,bt197.2.2.2.2.1,bt197.2.2.2.2.2⟩ : S24)⟩ : S41),(⟨bt203.1,(⟨bt203.2.1,bt203.2.2.1,bt203.2.2.2.1,bt203.2.2.2.2.1,bt203.2.2.2.2.2⟩ : S24)⟩ : S41),(⟨bt209.1,(⟨bt209.2.1,bt209.2.2.1,bt209.2.2.2.1,bt209.2.2.2.2.1,bt209.2.2.2.2.2⟩ : S24)⟩ : S41)] : List (S41)))).bind fun t218 => (if t218 = true then ((mvs_Reached.f y167 y152).bind fun t219 => (if (t219.length : Int) = 5 then ((Lw17_req.f (⟨#[98]⟩ : ByteArray) 0).bind fun bt222 => ((Lw17_req.f (⟨#[97]⟩ : ByteArray) 3).bind fun bt228 => ((Rf17_Same.f k t179 (([(⟨bt222.1,(⟨bt222.2.1,bt222.2.2.1,bt222.2.2.2.1,bt222.2.2.2.2.1,bt222.2.2.2.2.2⟩ : S24)⟩ : S41),(⟨bt228.1,(⟨bt228.2.1,bt228.2.2.1,bt228.2.2.2.1,bt228.2.2.2.2.1,bt228.2.2.2.2.2⟩ : S24)⟩ : S41)] : List (S41)))).bind fun t237 => (if t237 = true then ((Lw17_req.f (⟨#[97]⟩ : ByteArray) 0).bind fun bt238 => ((Rf17_Same.f k t188 (([(⟨bt238.1,(⟨bt238.2.1,bt238.2.2.1,bt238.2.2.2.1,bt238.2.2.2.2.1,bt238.2.2.2.2.2⟩ : S24)⟩ : S41)] : List (S41)))).bind fun t247 => (if t247 = true then ((Lw17_req.f (⟨#[122]⟩ : ByteArray) 0).bind fun bt248 => ((mvs_Upgrade.f y167 bt248.1 bt248.2.1 bt248.2.2.1 bt248.2.2.2.1 bt248.2.2.2.2.1 bt248.2.2.2.2.2).bind fun t254 => (if (t254.length : Int) = 3 then ((Lw17_req.f (⟨#[122]⟩ : ByteArray) (-1)).bind fun bt257 => ((mvs_Upgrade.f y167 bt257.1 bt257.2.1 bt257.2.2.1 bt257.2.2.2.1 bt257.2.2.2.2.1 bt257.2.2.2.2.2).bind fun t263 => (some ((t263.length : Int) == 2)))) else (some false)))) else (some false)))) else (some false))))) else (some false))) else (some false)))))))))))) = some r:=by first | (rw [hy167];with_reducible exact H) | (have H2_:=(Option.bind_some _ _).symm.trans H;rw [hy167];with_reducible exact H2_) | (have H2_:=(Option.bind_some _ _).symm.trans H;with_reducible exact H2_) | with_reducible exact H | (rw [hy167];exact H) | exact H
 have Ny167:=Aside0.mk hy167
 clear hy167
 obtain ⟨t170,A100,H⟩:=Option.bind_eq_some_iff.mp H
 have A10:=Aside0.mk A100
 clear A100
 obtain ⟨⟨t173,t174,t175,t176,t177,t178⟩,A110,H⟩:=Option.bind_eq_some_iff.mp H
 dsimp only at H
 have A11:=Aside0.mk A110
 clear A110
 obtain ⟨t179,A120,H⟩:=Option.bind_eq_some_iff.mp H
 have A12:=Aside0.mk A120
 clear A120
 obtain ⟨⟨t182,t183,t184,t185,t186,t187⟩,A130,H⟩:=Option.bind_eq_some_iff.mp H
 dsimp only at H
 have A13:=Aside0.mk A130
 clear A130
 obtain ⟨t188,A140,H⟩:=Option.bind_eq_some_iff.mp H
 have A14:=Aside0.mk A140
 clear A140
 obtain ⟨⟨t191,t192,t193,t194,t195,t196⟩,A150,H⟩:=Option.bind_eq_some_iff.mp H
 dsimp only at H
 have A15:=Aside0.mk A150
 clear A150
 obtain ⟨⟨t197,t198,t199,t200,t201,t202⟩,A160,H⟩:=Option.bind_eq_some_iff.mp H
 dsimp only at H
 have A16:=Aside0.mk A160
 clear A160
 obtain ⟨⟨t203,t204,t205,t206,t207,t208⟩,A170,H⟩:=Option.bind_eq_some_iff.mp H
 dsimp only at H
 have A17:=Aside0.mk A170
 clear A170
 obtain ⟨⟨t209,t210,t211,t212,t213,t214⟩,A180,H⟩:=Option.bind_eq_some_iff.mp H
 dsimp only at H
 have A18:=Aside0.mk A180
 clear A180
 obtain ⟨y215,hy215⟩ : ∃ y_ : List (S41),y_ = (([(⟨t191,(⟨t192,t193,t194,t195,t196⟩ : S24)⟩ : S41),(⟨t197,(⟨t198,t199,t200,t201,t202⟩ : S24)⟩ : S41),(⟨t203,(⟨t204,t205,t206,t207,t208⟩ : S24)⟩ : S41),(⟨t209,(⟨t210,t211,t212,t213,t214⟩ : S24)⟩ : S41)] : List (S41))):=⟨_,rfl⟩
 replace H : ((Rf17_Same.f k t170 y215).bind fun t218 => (if t218 = true then ((mvs_Reached.f y167 y152).bind fun t219 => (if (t219.length : Int) = 5 then ((Lw17_req.f (⟨#[98]⟩ : ByteArray) 0).bind fun bt222 => ((Lw17_req.f (⟨#[97]⟩ : ByteArray) 3).bind fun bt228 => ((Rf17_Same.f k t179 (([(⟨bt222.1,(⟨bt222.2.1,bt222.2.2.1,bt222.2.2.2.1,bt222.2.2.2.2.1,bt222.2.2.2.2.2⟩ : S24)⟩ : S41),(⟨bt228.1,(⟨bt228.2.1,bt228.2.2.1,bt228.2.2.2.1,bt228.2.2.2.2.1,bt228.2.2.2.2.2⟩ : S24)⟩ : S41)] : List (S41)))).bind fun t237 => (if t237 = true then ((Lw17_req.f (⟨#[97]⟩ : ByteArray) 0).bind fun bt238 => ((Rf17_Same.f k t188 (([(⟨bt238.1,(⟨bt238.2.1,bt238.2.2.1,bt238.2.2.2.1,bt238.2.2.2.2.1,bt238.2.2.2.2.2⟩ : S24)⟩ : S41)] : List (S41)))).bind fun t247 => (if t247 = true then ((Lw17_req.f (⟨#[122]⟩ : ByteArray) 0).bind fun bt248 => ((mvs_Upgrade.f y167 bt248.1 bt248.2.1 bt248.2.2.1 bt248.2.2.2.1 bt248.2.2.2.2.1 bt248.2.2.2.2.2).bind fun t254 => (if (t254.length : Int) = 3 then ((Lw17_req.f (⟨#[122]⟩ : ByteArray) (-1)).bind fun bt257 => ((mvs_Upgrade.f y167 bt257.1 bt257.2.1 bt257.2.2.1 bt257.2.2.2.1 bt257.2.2.2.2.1 bt257.2.2.2.2.2).bind fun t263 => (some ((t263.length : Int) == 2)))) else (some false)))) else (some false)))) else (some false))))) else (some false))) else (some false))) = some r:=by first | (rw [hy215];with_reducible exact H) | (have H2_:=(Option.bind_some _ _).symm.trans H;rw [hy215];with_reducible exact H2_) | (have H2_:=(Option.bind_some _ _).symm.trans H;with_reducible exact H2_) | with_reducible exact H | (rw [hy215];exact H) | exact H
 have Ny215:=Aside0.mk hy215
 clear hy215
 obtain ⟨t218,A190,H⟩:=Option.bind_eq_some_iff.mp H
 have A19:=Aside0.mk A190
 clear A190
 by_cases c20 : t218 = true
 ·subst c20
  rw [if_pos rfl] at H
  obtain ⟨t219,A210,H⟩:=Option.bind_eq_some_iff.mp H
  have A21:=Aside0.mk A210
  clear A210
  by_cases c22 : (t219.length : Int) = 5
  ·rw [if_pos c22] at H
   have c22b0 : ((t219.length : Int) == 5) = true:=beq_iff_eq.mpr c22
   have c22b1 : ((t219.length : Int) != 5) = false:=bne_eq_false_iff_eq.mpr c22
   clear c22
   obtain ⟨⟨t222,t223,t224,t225,t226,t227⟩,A230,H⟩:=Option.bind_eq_some_iff.mp H
   dsimp only at H
   have A23:=Aside0.mk A230
   clear A230
   obtain ⟨⟨t228,t229,t230,t231,t232,t233⟩,A240,H⟩:=Option.bind_eq_some_iff.mp H
   dsimp only at H
   have A24:=Aside0.mk A240
   clear A240
   obtain ⟨y234,hy234⟩ : ∃ y_ : List (S41),y_ = (([(⟨t222,(⟨t223,t224,t225,t226,t227⟩ : S24)⟩ : S41),(⟨t228,(⟨t229,t230,t231,t232,t233⟩ : S24)⟩ : S41)] : List (S41))):=⟨_,rfl⟩
   replace H : ((Rf17_Same.f k t179 y234).bind fun t237 => (if t237 = true then ((Lw17_req.f (⟨#[97]⟩ : ByteArray) 0).bind fun bt238 => ((Rf17_Same.f k t188 (([(⟨bt238.1,(⟨bt238.2.1,bt238.2.2.1,bt238.2.2.2.1,bt238.2.2.2.2.1,bt238.2.2.2.2.2⟩ : S24)⟩ : S41)] : List (S41)))).bind fun t247 => (if t247 = true then ((Lw17_req.f (⟨#[122]⟩ : ByteArray) 0).bind fun bt248 => ((mvs_Upgrade.f y167 bt248.1 bt248.2.1 bt248.2.2.1 bt248.2.2.2.1 bt248.2.2.2.2.1 bt248.2.2.2.2.2).bind fun t254 => (if (t254.length : Int) = 3 then ((Lw17_req.f (⟨#[122]⟩ : ByteArray) (-1)).bind fun bt257 => ((mvs_Upgrade.f y167 bt257.1 bt257.2.1 bt257.2.2.1 bt257.2.2.2.1 bt257.2.2.2.2.1 bt257.2.2.2.2.2).bind fun t263 => (some ((t263.length : Int) == 2)))) else (some false)))) else (some false)))) else (some false))) = some r:=by first | (rw [hy234];with_reducible exact H) | (have H2_:=(Option.bind_some _ _).symm.trans H;rw [hy234];with_reducible exact H2_) | (have H2_:=(Option.bind_some _ _).symm.trans H;with_reducible exact H2_) | with_reducible exact H | (rw [hy234];exact H) | exact H
   have Ny234:=Aside0.mk hy234
   clear hy234
   obtain ⟨t237,A250,H⟩:=Option.bind_eq_some_iff.mp H
   have A25:=Aside0.mk A250
   clear A250
   by_cases c26 : t237 = true
   ·subst c26
    rw [if_pos rfl] at H
    obtain ⟨⟨t238,t239,t240,t241,t242,t243⟩,A270,H⟩:=Option.bind_eq_some_iff.mp H
    dsimp only at H
    have A27:=Aside0.mk A270
    clear A270
    obtain ⟨y244,hy244⟩ : ∃ y_ : List (S41),y_ = (([(⟨t238,(⟨t239,t240,t241,t242,t243⟩ : S24)⟩ : S41)] : List (S41))):=⟨_,rfl⟩
    replace H : ((Rf17_Same.f k t188 y244).bind fun t247 => (if t247 = true then ((Lw17_req.f (⟨#[122]⟩ : ByteArray) 0).bind fun bt248 => ((mvs_Upgrade.f y167 bt248.1 bt248.2.1 bt248.2.2.1 bt248.2.2.2.1 bt248.2.2.2.2.1 bt248.2.2.2.2.2).bind fun t254 => (if (t254.length : Int) = 3 then ((Lw17_req.f (⟨#[122]⟩ : ByteArray) (-1)).bind fun bt257 => ((mvs_Upgrade.f y167 bt257.1 bt257.2.1 bt257.2.2.1 bt257.2.2.2.1 bt257.2.2.2.2.1 bt257.2.2.2.2.2).bind fun t263 => (some ((t263.length : Int) == 2)))) else (some false)))) else (some false))) = some r:=by first | (rw [hy244];with_reducible exact H) | (have H2_:=(Option.bind_some _ _).symm.trans H;rw [hy244];with_reducible exact H2_) | (have H2_:=(Option.bind_some _ _).symm.trans H;with_reducible exact H2_) | with_reducible exact H | (rw [hy244];exact H) | exact H
    have Ny244:=Aside0.mk hy244
    clear hy244
    obtain ⟨t247,A280,H⟩:=Option.bind_eq_some_iff.mp H
    have A28:=Aside0.mk A280
    clear A280
    by_cases c29 : t247 = true
    ·subst c29
     rw [if_pos rfl] at H
     obtain ⟨⟨t248,t249,t250,t251,t252,t253⟩,A300,H⟩:=Option.bind_eq_some_iff.mp H
     dsimp only at H
     have A30:=Aside0.mk A300
     clear A300
     obtain ⟨t254,A310,H⟩:=Option.bind_eq_some_iff.mp H
     have A31:=Aside0.mk A310
     clear A310
     by_cases c32 : (t254.length : Int) = 3
     ·rw [if_pos c32] at H
      have c32b0 : ((t254.length : Int) == 3) = true:=beq_iff_eq.mpr c32
      have c32b1 : ((t254.length : Int) != 3) = false:=bne_eq_false_iff_eq.mpr c32
      clear c32
      obtain ⟨⟨t257,t258,t259,t260,t261,t262⟩,A330,H⟩:=Option.bind_eq_some_iff.mp H
      dsimp only at H
      have A33:=Aside0.mk A330
      clear A330
      obtain ⟨t263,A340,H⟩:=Option.bind_eq_some_iff.mp H
      have A34:=Aside0.mk A340
      clear A340
      obtain rfl:=Option.some.inj H
      go_enter Tryz.func22,Tryz.ntmps22
      go_wp2_with (first | ((with_reducible refine gate_callee (f:=46) rfl ?_);refine goesL_ (some 6) rfl rfl Tryz.func46 q4_ rfl #[.string (⟨#[97]⟩ : ByteArray),.int .i64 0] rfl q2_ ?_;(with_reducible refine (Lw17_req.calls (⟨#[97]⟩ : ByteArray) 0 t101 t102 t103 t104 t105 t106 _ A1.out).mono ?_);rintro e w35 ⟨rfl,hb⟩;refine ⟨_,rfl,?_⟩;replace HB:=Aside0.mk (below_step bh_ hb);(try clear hb);(try clear hb2);(try clear hk);(try clear hi)) | ((with_reducible refine gate_callee (f:=46) rfl ?_);refine goesL_ (some 7) rfl rfl Tryz.func46 q4_ rfl #[.string (⟨#[99]⟩ : ByteArray),.int .i64 1] rfl q2_ ?_;(with_reducible refine (Lw17_req.calls (⟨#[99]⟩ : ByteArray) 1 t107 t108 t109 t110 t111 t112 _ A2.out).mono ?_);rintro e w36 ⟨rfl,hb⟩;refine ⟨_,rfl,?_⟩;replace HB:=Aside0.mk (below_step bh_ hb);(try clear hb);(try clear hb2);(try clear hk);(try clear hi)) | ((with_reducible refine gate_dst (N:=8) rfl ?_);(try (refine gate_guard q42_ ?_;dsimp only));refine Kd.R_lit k41 _ 41 ?hg (N:=8) ?hd (xs:=([(⟨t107,(⟨t108,t109,t110,t111,t112⟩ : S24)⟩ : S41)] : List (S41))) (inner:=[.string t107,.int .i64 t108,.int .i64 t109,.int .i64 t110,.string t111,.string t112]) (ok:=fun _ => True) (okp:=fun _ => True) ?hr ?hp (fun _ hk => hk) trivial (Below.refl _ _) (Nat.le_refl _) q23_ ?_;(case hd => rfl);(case hg => rfl);(case hr => first | (go_simp;done) | (go_simp;rfl));(case hp => exact (Reps.c6 (show Kd.M k41 _ _ _ (⟨t107,(⟨t108,t109,t110,t111,t112⟩ : S24)⟩ : S41) [.string t107,.int .i64 t108,.int .i64 t109,.int .i64 t110,.string t111,.string t112] from (k41_mkM _ _ _ (⟨t107,(⟨t108,t109,t110,t111,t112⟩ : S24)⟩ : S41) )) (Reps.none _ _)));intro v114 w37 ho38 hb hg_ hnew_;clear hg_ hnew_;(first | rw [← Ny113.out] at ho38 | (simp only [Int.reduceToNat] at ho38;rw [← Ny113.out] at ho38));have HO115:=Aside0.mk (Kd.R_lower ho38 (below_size bh_));replace HB:=Aside0.mk (below_step bh_ hb);clear hb ho38;obtain ⟨Ao39,co39,eo39⟩:=Kd.R_slice HO115.out;subst eo39) | ((with_reducible refine gate_callee (f:=46) rfl ?_);refine goesL_ (some 10) rfl rfl Tryz.func46 q4_ rfl #[.string (⟨#[98]⟩ : ByteArray),.int .i64 0] rfl q2_ ?_;(with_reducible refine (Lw17_req.calls (⟨#[98]⟩ : ByteArray) 0 t116 t117 t118 t119 t120 t121 _ A3.out).mono ?_);rintro e w40 ⟨rfl,hb⟩;refine ⟨_,rfl,?_⟩;replace HO115:=Aside0.mk (Kd.R_below q21_ hb);replace HB:=Aside0.mk (below_step bh_ hb);(try clear hb);(try clear hb2);(try clear hk);(try clear hi)) | ((with_reducible refine gate_callee (f:=46) rfl ?_);refine goesL_ (some 11) rfl rfl Tryz.func46 q4_ rfl #[.string (⟨#[99]⟩ : ByteArray),.int .i64 2] rfl q2_ ?_;(with_reducible refine (Lw17_req.calls (⟨#[99]⟩ : ByteArray) 2 t122 t123 t124 t125 t126 t127 _ A4.out).mono ?_);rintro e w41 ⟨rfl,hb⟩;refine ⟨_,rfl,?_⟩;replace HO115:=Aside0.mk (Kd.R_below q21_ hb);replace HB:=Aside0.mk (below_step bh_ hb);(try clear hb);(try clear hb2);(try clear hk);(try clear hi)) | ((with_reducible refine gate_dst (N:=12) rfl ?_);(try (refine gate_guard q42_ ?_;dsimp only));refine Kd.R_lit k41 _ 41 ?hg (N:=12) ?hd (xs:=([(⟨t122,(⟨t123,t124,t125,t126,t127⟩ : S24)⟩ : S41)] : List (S41))) (inner:=[.string t122,.int .i64 t123,.int .i64 t124,.int .i64 t125,.string t126,.string t127]) (ok:=fun _ => True) (okp:=fun _ => True) ?hr ?hp (fun _ hk => hk) trivial (Below.refl _ _) (Nat.le_refl _) q23_ ?_;(case hd => rfl);(case hg => rfl);(case hr => first | (go_simp;done) | (go_simp;rfl));(case hp => exact (Reps.c6 (show Kd.M k41 _ _ _ (⟨t122,(⟨t123,t124,t125,t126,t127⟩ : S24)⟩ : S41) [.string t122,.int .i64 t123,.int .i64 t124,.int .i64 t125,.string t126,.string t127] from (k41_mkM _ _ _ (⟨t122,(⟨t123,t124,t125,t126,t127⟩ : S24)⟩ : S41) )) (Reps.none _ _)));intro v129 w42 ho43 hb hg_ hnew_;clear hg_ hnew_;(first | rw [← Ny128.out] at ho43 | (simp only [Int.reduceToNat] at ho43;rw [← Ny128.out] at ho43));have HO130:=Aside0.mk (Kd.R_lower (Kd.R_new' ho43 (Kd.R_lt q21_)) (below_size bh_));replace HO115:=Aside0.mk (Kd.R_elder' q21_ (Kd.R_base ho43) hb);replace HB:=Aside0.mk (below_step bh_ hb);clear hb ho43;obtain ⟨Ao44,co44,eo44⟩:=Kd.R_slice HO130.out;subst eo44) | ((with_reducible refine gate_callee (f:=46) rfl ?_);refine goesL_ (some 14) rfl rfl Tryz.func46 q4_ rfl #[.string (⟨#[99]⟩ : ByteArray),.int .i64 2] rfl q2_ ?_;(with_reducible refine (Lw17_req.calls (⟨#[99]⟩ : ByteArray) 2 t131 t132 t133 t134 t135 t136 _ A5.out).mono ?_);rintro e w45 ⟨rfl,hb⟩;refine ⟨_,rfl,?_⟩;replace HO115:=Aside0.mk (Kd.R_below q21_ hb);replace HO130:=Aside0.mk (Kd.R_below q32_ hb);replace HB:=Aside0.mk (below_step bh_ hb);(try clear hb);(try clear hb2);(try clear hk);(try clear hi)) | ((with_reducible refine gate_callee (f:=46) rfl ?_);refine goesL_ (some 15) rfl rfl Tryz.func46 q4_ rfl #[.string (⟨#[100]⟩ : ByteArray),.int .i64 0] rfl q2_ ?_;(with_reducible refine (Lw17_req.calls (⟨#[100]⟩ : ByteArray) 0 t137 t138 t139 t140 t141 t142 _ A6.out).mono ?_);rintro e w46 ⟨rfl,hb⟩;refine ⟨_,rfl,?_⟩;replace HO115:=Aside0.mk (Kd.R_below q21_ hb);replace HO130:=Aside0.mk (Kd.R_below q32_ hb);replace HB:=Aside0.mk (below_step bh_ hb);(try clear hb);(try clear hb2);(try clear hk);(try clear hi)) | ((with_reducible refine gate_dst (N:=16) rfl ?_);(try (refine gate_guard q42_ ?_;dsimp only));refine Kd.R_lit k41 _ 41 ?hg (N:=16) ?hd (xs:=([(⟨t137,(⟨t138,t139,t140,t141,t142⟩ : S24)⟩ : S41)] : List (S41))) (inner:=[.string t137,.int .i64 t138,.int .i64 t139,.int .i64 t140,.string t141,.string t142]) (ok:=fun _ => True) (okp:=fun _ => True) ?hr ?hp (fun _ hk => hk) trivial (Below.refl _ _) (Nat.le_refl _) q23_ ?_;(case hd => rfl);(case hg => rfl);(case hr => first | (go_simp;done) | (go_simp;rfl));(case hp => exact (Reps.c6 (show Kd.M k41 _ _ _ (⟨t137,(⟨t138,t139,t140,t141,t142⟩ : S24)⟩ : S41) [.string t137,.int .i64 t138,.int .i64 t139,.int .i64 t140,.string t141,.string t142] from (k41_mkM _ _ _ (⟨t137,(⟨t138,t139,t140,t141,t142⟩ : S24)⟩ : S41) )) (Reps.none _ _)));intro v144 w47 ho48 hb hg_ hnew_;clear hg_ hnew_;(first | rw [← Ny143.out] at ho48 | (simp only [Int.reduceToNat] at ho48;rw [← Ny143.out] at ho48));have HO145:=Aside0.mk (Kd.R_lower (Kd.R_new' (Kd.R_new' ho48 (Kd.R_lt q21_)) (Kd.R_lt q32_)) (below_size bh_));replace HO115:=Aside0.mk (Kd.R_elder' q21_ (Kd.R_base ho48) hb);replace HO130:=Aside0.mk (Kd.R_elder' q32_ (Kd.R_base ho48) hb);replace HB:=Aside0.mk (below_step bh_ hb);clear hb ho48;obtain ⟨Ao49,co49,eo49⟩:=Kd.R_slice HO145.out;subst eo49) | ((with_reducible refine gate_callee (f:=46) rfl ?_);refine goesL_ (some 18) rfl rfl Tryz.func46 q4_ rfl #[.string (⟨#[98]⟩ : ByteArray),.int .i64 (-1)] rfl q2_ ?_;(with_reducible refine (Lw17_req.calls (⟨#[98]⟩ : ByteArray) (-1) t146 t147 t148 t149 t150 t151 _ A7.out).mono ?_);rintro e w50 ⟨rfl,hb⟩;refine ⟨_,rfl,?_⟩;replace HO115:=Aside0.mk (Kd.R_below q21_ hb);replace HO130:=Aside0.mk (Kd.R_below q32_ hb);replace HO145:=Aside0.mk (Kd.R_below (by (with_reducible repeat (first | apply Kd.R_alloc | apply Kd.R_drewN | apply Kd.R_drew));exact HO145.out) hb);replace HB:=Aside0.mk (below_step bh_ hb);(try clear hb);(try clear hb2);(try clear hk);(try clear hi)) | ((with_reducible refine gate_dst (N:=20) rfl ?_);(try (refine gate_guard q42_ ?_;dsimp only));refine Kd.N_lit k70 _ 70 ?hg (N':=20) ?hd (xs:=([(⟨(⟨t101,(⟨t102,t103,t104,t105,t106⟩ : S24)⟩ : S41),y113⟩ : S70),(⟨(⟨t116,(⟨t117,t118,t119,t120,t121⟩ : S24)⟩ : S41),y128⟩ : S70),(⟨(⟨t131,(⟨t132,t133,t134,t135,t136⟩ : S24)⟩ : S41),y143⟩ : S70),(⟨(⟨t146,(⟨t147,t148,t149,t150,t151⟩ : S24)⟩ : S41),([] : List (S41))⟩ : S70)] : List (S70))) (inner:=[.string t101,.int .i64 t102,.int .i64 t103,.int .i64 t104,.string t105,.string t106,.slice Ao39 y113.length co39,.string t116,.int .i64 t117,.int .i64 t118,.int .i64 t119,.string t120,.string t121,.slice Ao44 y128.length co44,.string t131,.int .i64 t132,.int .i64 t133,.int .i64 t134,.string t135,.string t136,.slice Ao49 y143.length co49,.string t146,.int .i64 t147,.int .i64 t148,.int .i64 t149,.string t150,.string t151,.slice none 0 0]) (ok:=(fun _ => True)) (okp:=(fun _ => True)) ?hr ?hp (fun _ hk => hk) ((show ∀ k_,w50.heap.size ≤ k_ → (fun _ => True) k_ from fun k_ hk => trivial) _ (Nat.le_refl _)) (Below.refl _ _) (Nat.le_refl _) q23_ ?_;(case hd => rfl);(case hg => rfl);(case hr => first | (go_simp;done) | (go_simp;rfl));(case hp => exact (Reps.c7 (show Kd.FK k70 _ _ (⟨(⟨t101,(⟨t102,t103,t104,t105,t106⟩ : S24)⟩ : S41),y113⟩ : S70) [.string t101,.int .i64 t102,.int .i64 t103,.int .i64 t104,.string t105,.string t106,.slice Ao39 y113.length co39] from (k70_mkF _ _ (⟨(⟨t101,(⟨t102,t103,t104,t105,t106⟩ : S24)⟩ : S41),y113⟩ : S70) (Kd.R_reads' (Kd.R_mono (ok':=(fun _ => True)) (HO115.out) (fun k_ hk => trivial))).2.1 (Kd.R_F (Kd.R_mono (ok':=(fun _ => True)) (HO115.out) (fun k_ hk => trivial))))) (Reps.c7 (show Kd.FK k70 _ _ (⟨(⟨t116,(⟨t117,t118,t119,t120,t121⟩ : S24)⟩ : S41),y128⟩ : S70) [.string t116,.int .i64 t117,.int .i64 t118,.int .i64 t119,.string t120,.string t121,.slice Ao44 y128.length co44] from (k70_mkF _ _ (⟨(⟨t116,(⟨t117,t118,t119,t120,t121⟩ : S24)⟩ : S41),y128⟩ : S70) (Kd.R_reads' (Kd.R_mono (ok':=(fun _ => True)) (HO130.out) (fun k_ hk => trivial))).2.1 (Kd.R_F (Kd.R_mono (ok':=(fun _ => True)) (HO130.out) (fun k_ hk => trivial))))) (Reps.c7 (show Kd.FK k70 _ _ (⟨(⟨t131,(⟨t132,t133,t134,t135,t136⟩ : S24)⟩ : S41),y143⟩ : S70) [.string t131,.int .i64 t132,.int .i64 t133,.int .i64 t134,.string t135,.string t136,.slice Ao49 y143.length co49] from (k70_mkF _ _ (⟨(⟨t131,(⟨t132,t133,t134,t135,t136⟩ : S24)⟩ : S41),y143⟩ : S70) (Kd.R_reads' (Kd.R_mono (ok':=(fun _ => True)) (HO145.out) (fun k_ hk => trivial))).2.1 (Kd.R_F (Kd.R_mono (ok':=(fun _ => True)) (HO145.out) (fun k_ hk => trivial))))) (Reps.c7 (show Kd.FK k70 _ _ (⟨(⟨t146,(⟨t147,t148,t149,t150,t151⟩ : S24)⟩ : S41),([] : List (S41))⟩ : S70) [.string t146,.int .i64 t147,.int .i64 t148,.int .i64 t149,.string t150,.string t151,.slice none 0 0] from (k70_mkF _ _ (⟨(⟨t146,(⟨t147,t148,t149,t150,t151⟩ : S24)⟩ : S41),([] : List (S41))⟩ : S70) (Nat.le_refl _) (Kd.F_nil _ _ _))) (Reps.none _ _))))));intro v153 w51 ho52 hb hg_ hnew_;clear hg_ hnew_;(first | rw [← Ny152.out] at ho52 | (simp only [Int.reduceToNat] at ho52;rw [← Ny152.out] at ho52));have HO154:=Aside0.mk (Kd.N_lower ho52 (below_size bh_));replace HB:=Aside0.mk (below_step bh_ hb);clear HO115 HO130 HO145;clear hb ho52) | ((with_reducible refine gate_callee (f:=46) rfl ?_);refine goesL_ (some 21) rfl rfl Tryz.func46 q4_ rfl #[.string (⟨#[98]⟩ : ByteArray),.int .i64 0] rfl q2_ ?_;(with_reducible refine (Lw17_req.calls (⟨#[98]⟩ : ByteArray) 0 t155 t156 t157 t158 t159 t160 _ A8.out).mono ?_);rintro e w53 ⟨rfl,hb⟩;refine ⟨_,rfl,?_⟩;replace HO154:=Aside0.mk (Kd.N_below q12_ hb);replace HB:=Aside0.mk (below_step bh_ hb);(try clear hb);(try clear hb2);(try clear hk);(try clear hi)) | ((with_reducible refine gate_callee (f:=46) rfl ?_);refine goesL_ (some 22) rfl rfl Tryz.func46 q4_ rfl #[.string (⟨#[97]⟩ : ByteArray),.int .i64 0] rfl q2_ ?_;(with_reducible refine (Lw17_req.calls (⟨#[97]⟩ : ByteArray) 0 t161 t162 t163 t164 t165 t166 _ A9.out).mono ?_);rintro e w54 ⟨rfl,hb⟩;refine ⟨_,rfl,?_⟩;replace HO154:=Aside0.mk (Kd.N_below q12_ hb);replace HB:=Aside0.mk (below_step bh_ hb);(try clear hb);(try clear hb2);(try clear hk);(try clear hi)) | ((with_reducible refine gate_dst (N:=23) rfl ?_);(try (refine gate_guard q42_ ?_;dsimp only));refine Kd.R_lit k41 _ 41 ?hg (N:=23) ?hd (xs:=([(⟨t155,(⟨t156,t157,t158,t159,t160⟩ : S24)⟩ : S41),(⟨t161,(⟨t162,t163,t164,t165,t166⟩ : S24)⟩ : S41)] : List (S41))) (inner:=[.string t155,.int .i64 t156,.int .i64 t157,.int .i64 t158,.string t159,.string t160,.string t161,.int .i64 t162,.int .i64 t163,.int .i64 t164,.string t165,.string t166]) (ok:=fun _ => True) (okp:=fun _ => True) ?hr ?hp (fun _ hk => hk) trivial (Below.refl _ _) (Nat.le_refl _) q23_ ?_;(case hd => rfl);(case hg => rfl);(case hr => first | (go_simp;done) | (go_simp;rfl));(case hp => exact (Reps.c6 (show Kd.M k41 _ _ _ (⟨t155,(⟨t156,t157,t158,t159,t160⟩ : S24)⟩ : S41) [.string t155,.int .i64 t156,.int .i64 t157,.int .i64 t158,.string t159,.string t160] from (k41_mkM _ _ _ (⟨t155,(⟨t156,t157,t158,t159,t160⟩ : S24)⟩ : S41) )) (Reps.c6 (show Kd.M k41 _ _ _ (⟨t161,(⟨t162,t163,t164,t165,t166⟩ : S24)⟩ : S41) [.string t161,.int .i64 t162,.int .i64 t163,.int .i64 t164,.string t165,.string t166] from (k41_mkM _ _ _ (⟨t161,(⟨t162,t163,t164,t165,t166⟩ : S24)⟩ : S41) )) (Reps.none _ _))));intro v168 w55 ho56 hb hg_ hnew_;clear hg_ hnew_;(first | rw [← Ny167.out] at ho56 | (simp only [Int.reduceToNat] at ho56;rw [← Ny167.out] at ho56));replace HO154:=Aside0.mk (Kd.N_elder' q12_ (Kd.R_base ho56) hb);have HO169:=Aside0.mk (Kd.R_lower ho56 (below_size bh_));replace HB:=Aside0.mk (below_step bh_ hb);clear hb ho56;obtain ⟨Ao57,co57,eo57⟩:=Kd.R_slice HO169.out;subst eo57;obtain ⟨Ao58,co58,eo58⟩:=Kd.N_slice HO154.out;subst eo58) | ((with_reducible refine gate_callee (f:=27) rfl ?_);refine goesL_ (some 26) rfl rfl Tryz.func27 q4_ rfl #[.slice Ao57 y167.length co57,.slice Ao58 y152.length co58] rfl q2_ ?_;(with_reducible refine (mvs_List.calls _ _ y167 _ _ y152 t170 _ ?side1 ?side2 ?side3 ?side4 A10.out ?sideG).mono ?_);(case sideG => first | exact HG.out | exact Env.below HG.out bh_);(case side1 => repeat (first | exact (Kd.R_reads' HO169.out).2.2 | (with_reducible refine Kd.C_alloc ?_ _) | (with_reducible refine Kd.C_drewN ?_ _) | (with_reducible refine Kd.C_drew ?_)));(case side2 => exact (Kd.R_reads' HO169.out).2.1);(case side3 => repeat (first | exact (Kd.N_reads' HO154.out).2.2 | (with_reducible refine Kd.C_alloc ?_ _) | (with_reducible refine Kd.C_drewN ?_ _) | (with_reducible refine Kd.C_drew ?_)));(case side4 => exact (Kd.N_reads' HO154.out).2.1);rintro e w59 ⟨v171,rfl,ho0,hb⟩;refine ⟨_,rfl,?_⟩;replace HO154:=Aside0.mk (Kd.N_elder' q12_ (Kd.R_base ho0) hb);have HO172:=Aside0.mk (Kd.R_lower (Kd.R_new' ho0 (Kd.R_lt q8_)) (below_size bh_));replace HO169:=Aside0.mk (Kd.R_elder' q8_ (Kd.R_base ho0) hb);replace HB:=Aside0.mk (below_step bh_ hb);(try clear hb);(try clear hb2);(try clear hk);(try clear hi);(try clear ho0)) | ((with_reducible refine gate_callee (f:=46) rfl ?_);refine goesL_ (some 28) rfl rfl Tryz.func46 q4_ rfl #[.string (⟨#[97]⟩ : ByteArray),.int .i64 3] rfl q2_ ?_;(with_reducible refine (Lw17_req.calls (⟨#[97]⟩ : ByteArray) 3 t173 t174 t175 t176 t177 t178 _ A11.out).mono ?_);rintro e w60 ⟨rfl,hb⟩;refine ⟨_,rfl,?_⟩;replace HO154:=Aside0.mk (Kd.N_below q12_ hb);replace HO169:=Aside0.mk (Kd.R_below q8_ hb);replace HO172:=Aside0.mk (Kd.R_below q10_ hb);replace HB:=Aside0.mk (below_step bh_ hb);(try clear hb);(try clear hb2);(try clear hk);(try clear hi)) | ((with_reducible refine gate_callee (f:=29) rfl ?_);refine goesL_ (some 29) rfl rfl Tryz.func29 q4_ rfl #[.slice Ao57 y167.length co57,.agg #[.string t173,.int .i64 t174,.int .i64 t175,.int .i64 t176,.string t177,.string t178]] rfl q2_ ?_;(with_reducible refine (mvs_Upgrade.calls _ _ y167 t173 t174 t175 t176 t177 t178 t179 _ ?side1 ?side2 A12.out ?sideG).mono ?_);(case sideG => first | exact HG.out | exact Env.below HG.out bh_);(case side1 => repeat (first | exact (Kd.R_reads' HO169.out).2.2 | (with_reducible refine Kd.C_alloc ?_ _) | (with_reducible refine Kd.C_drewN ?_ _) | (with_reducible refine Kd.C_drew ?_)));(case side2 => exact (Kd.R_reads' HO169.out).2.1);rintro e w61 ⟨v180,rfl,ho0,hb⟩;refine ⟨_,rfl,?_⟩;replace HO154:=Aside0.mk (Kd.N_elder' q12_ (Kd.R_base ho0) hb);have HO181:=Aside0.mk (Kd.R_lower (Kd.R_new' (Kd.R_new' ho0 (Kd.R_lt q8_)) (Kd.R_lt q10_)) (below_size bh_));replace HO169:=Aside0.mk (Kd.R_elder' q8_ (Kd.R_base ho0) hb);replace HO172:=Aside0.mk (Kd.R_elder' q10_ (Kd.R_base ho0) hb);replace HB:=Aside0.mk (below_step bh_ hb);(try clear hb);(try clear hb2);(try clear hk);(try clear hi);(try clear ho0)) | ((with_reducible refine gate_callee (f:=46) rfl ?_);refine goesL_ (some 32) rfl rfl Tryz.func46 q4_ rfl #[.string (⟨#[99]⟩ : ByteArray),.int .i64 1] rfl q2_ ?_;(with_reducible refine (Lw17_req.calls (⟨#[99]⟩ : ByteArray) 1 t182 t183 t184 t185 t186 t187 _ A13.out).mono ?_);rintro e w62 ⟨rfl,hb⟩;refine ⟨_,rfl,?_⟩;replace HO154:=Aside0.mk (Kd.N_below q12_ hb);replace HO169:=Aside0.mk (Kd.R_below q8_ hb);replace HO172:=Aside0.mk (Kd.R_below q10_ hb);replace HO181:=Aside0.mk (Kd.R_below q11_ hb);replace HB:=Aside0.mk (below_step bh_ hb);(try clear hb);(try clear hb2);(try clear hk);(try clear hi)) | ((with_reducible refine gate_callee (f:=31) rfl ?_);refine goesL_ (some 33) rfl rfl Tryz.func31 q4_ rfl #[.slice Ao57 y167.length co57,.slice Ao58 y152.length co58,.agg #[.string t182,.int .i64 t183,.int .i64 t184,.int .i64 t185,.string t186,.string t187]] rfl q2_ ?_;(with_reducible refine (mvs_Downgrade.calls k _ _ y167 _ _ y152 t182 t183 t184 t185 t186 t187 t188 _ ?side1 ?side2 ?side3 ?side4 A14.out ?sideG).mono ?_);(case sideG => first | exact HG.out | exact Env.below HG.out bh_);(case side1 => repeat (first | exact (Kd.R_reads' HO169.out).2.2 | (with_reducible refine Kd.C_alloc ?_ _) | (with_reducible refine Kd.C_drewN ?_ _) | (with_reducible refine Kd.C_drew ?_)));(case side2 => exact (Kd.R_reads' HO169.out).2.1);(case side3 => repeat (first | exact (Kd.N_reads' HO154.out).2.2 | (with_reducible refine Kd.C_alloc ?_ _) | (with_reducible refine Kd.C_drewN ?_ _) | (with_reducible refine Kd.C_drew ?_)));(case side4 => exact (Kd.N_reads' HO154.out).2.1);rintro e w63 ⟨v189,rfl,ho0,hb⟩;refine ⟨_,rfl,?_⟩;replace HO154:=Aside0.mk (Kd.N_elder' q12_ (Kd.R_base ho0) hb);have HO190:=Aside0.mk (Kd.R_lower (Kd.R_new' (Kd.R_new' (Kd.R_new' ho0 (Kd.R_lt q8_)) (Kd.R_lt q10_)) (Kd.R_lt q11_)) (below_size bh_));replace HO169:=Aside0.mk (Kd.R_elder' q8_ (Kd.R_base ho0) hb);replace HO172:=Aside0.mk (Kd.R_elder' q10_ (Kd.R_base ho0) hb);replace HO181:=Aside0.mk (Kd.R_elder' q11_ (Kd.R_base ho0) hb);replace HB:=Aside0.mk (below_step bh_ hb);(try clear hb);(try clear hb2);(try clear hk);(try clear hi);(try clear ho0)) | ((with_reducible refine gate_callee (f:=46) rfl ?_);refine goesL_ (some 35) rfl rfl Tryz.func46 q4_ rfl #[.string (⟨#[97]⟩ : ByteArray),.int .i64 0] rfl q2_ ?_;(with_reducible refine (Lw17_req.calls (⟨#[97]⟩ : ByteArray) 0 t191 t192 t193 t194 t195 t196 _ A15.out).mono ?_);rintro e w64 ⟨rfl,hb⟩;refine ⟨_,rfl,?_⟩;replace HO154:=Aside0.mk (Kd.N_below q12_ hb);replace HO169:=Aside0.mk (Kd.R_below q8_ hb);replace HO172:=Aside0.mk (Kd.R_below q10_ hb);replace HO181:=Aside0.mk (Kd.R_below q11_ hb);replace HO190:=Aside0.mk (Kd.R_below q13_ hb);replace HB:=Aside0.mk (below_step bh_ hb);(try clear hb);(try clear hb2);(try clear hk);(try clear hi)) | ((with_reducible refine gate_callee (f:=46) rfl ?_);refine goesL_ (some 36) rfl rfl Tryz.func46 q4_ rfl #[.string (⟨#[98]⟩ : ByteArray),.int .i64 0] rfl q2_ ?_;(with_reducible refine (Lw17_req.calls (⟨#[98]⟩ : ByteArray) 0 t197 t198 t199 t200 t201 t202 _ A16.out).mono ?_);rintro e w65 ⟨rfl,hb⟩;refine ⟨_,rfl,?_⟩;replace HO154:=Aside0.mk (Kd.N_below q12_ hb);replace HO169:=Aside0.mk (Kd.R_below q8_ hb);replace HO172:=Aside0.mk (Kd.R_below q10_ hb);replace HO181:=Aside0.mk (Kd.R_below q11_ hb);replace HO190:=Aside0.mk (Kd.R_below q13_ hb);replace HB:=Aside0.mk (below_step bh_ hb);(try clear hb);(try clear hb2);(try clear hk);(try clear hi)) | ((with_reducible refine gate_callee (f:=46) rfl ?_);refine goesL_ (some 37) rfl rfl Tryz.func46 q4_ rfl #[.string (⟨#[99]⟩ : ByteArray),.int .i64 2] rfl q2_ ?_;(with_reducible refine (Lw17_req.calls (⟨#[99]⟩ : ByteArray) 2 t203 t204 t205 t206 t207 t208 _ A17.out).mono ?_);rintro e w66 ⟨rfl,hb⟩;refine ⟨_,rfl,?_⟩;replace HO154:=Aside0.mk (Kd.N_below q12_ hb);replace HO169:=Aside0.mk (Kd.R_below q8_ hb);replace HO172:=Aside0.mk (Kd.R_below q10_ hb);replace HO181:=Aside0.mk (Kd.R_below q11_ hb);replace HO190:=Aside0.mk (Kd.R_below q13_ hb);replace HB:=Aside0.mk (below_step bh_ hb);(try clear hb);(try clear hb2);(try clear hk);(try clear hi)) | ((with_reducible refine gate_callee (f:=46) rfl ?_);refine goesL_ (some 38) rfl rfl Tryz.func46 q4_ rfl #[.string (⟨#[100]⟩ : ByteArray),.int .i64 0] rfl q2_ ?_;(with_reducible refine (Lw17_req.calls (⟨#[100]⟩ : ByteArray) 0 t209 t210 t211 t212 t213 t214 _ A18.out).mono ?_);rintro e w67 ⟨rfl,hb⟩;refine ⟨_,rfl,?_⟩;replace HO154:=Aside0.mk (Kd.N_below q12_ hb);replace HO169:=Aside0.mk (Kd.R_below q8_ hb);replace HO172:=Aside0.mk (Kd.R_below q10_ hb);replace HO181:=Aside0.mk (Kd.R_below q11_ hb);replace HO190:=Aside0.mk (Kd.R_below q13_ hb);replace HB:=Aside0.mk (below_step bh_ hb);(try clear hb);(try clear hb2);(try clear hk);(try clear hi)) | ((with_reducible refine gate_dst (N:=39) rfl ?_);(try (refine gate_guard q42_ ?_;dsimp only));refine Kd.R_lit k41 _ 41 ?hg (N:=39) ?hd (xs:=([(⟨t191,(⟨t192,t193,t194,t195,t196⟩ : S24)⟩ : S41),(⟨t197,(⟨t198,t199,t200,t201,t202⟩ : S24)⟩ : S41),(⟨t203,(⟨t204,t205,t206,t207,t208⟩ : S24)⟩ : S41),(⟨t209,(⟨t210,t211,t212,t213,t214⟩ : S24)⟩ : S41)] : List (S41))) (inner:=[.string t191,.int .i64 t192,.int .i64 t193,.int .i64 t194,.string t195,.string t196,.string t197,.int .i64 t198,.int .i64 t199,.int .i64 t200,.string t201,.string t202,.string t203,.int .i64 t204,.int .i64 t205,.int .i64 t206,.string t207,.string t208,.string t209,.int .i64 t210,.int .i64 t211,.int .i64 t212,.string t213,.string t214]) (ok:=fun _ => True) (okp:=fun _ => True) ?hr ?hp (fun _ hk => hk) trivial (Below.refl _ _) (Nat.le_refl _) q23_ ?_;(case hd => rfl);(case hg => rfl);(case hr => first | (go_simp;done) | (go_simp;rfl));(case hp => exact (Reps.c6 (show Kd.M k41 _ _ _ (⟨t191,(⟨t192,t193,t194,t195,t196⟩ : S24)⟩ : S41) [.string t191,.int .i64 t192,.int .i64 t193,.int .i64 t194,.string t195,.string t196] from (k41_mkM _ _ _ (⟨t191,(⟨t192,t193,t194,t195,t196⟩ : S24)⟩ : S41) )) (Reps.c6 (show Kd.M k41 _ _ _ (⟨t197,(⟨t198,t199,t200,t201,t202⟩ : S24)⟩ : S41) [.string t197,.int .i64 t198,.int .i64 t199,.int .i64 t200,.string t201,.string t202] from (k41_mkM _ _ _ (⟨t197,(⟨t198,t199,t200,t201,t202⟩ : S24)⟩ : S41) )) (Reps.c6 (show Kd.M k41 _ _ _ (⟨t203,(⟨t204,t205,t206,t207,t208⟩ : S24)⟩ : S41) [.string t203,.int .i64 t204,.int .i64 t205,.int .i64 t206,.string t207,.string t208] from (k41_mkM _ _ _ (⟨t203,(⟨t204,t205,t206,t207,t208⟩ : S24)⟩ : S41) )) (Reps.c6 (show Kd.M k41 _ _ _ (⟨t209,(⟨t210,t211,t212,t213,t214⟩ : S24)⟩ : S41) [.string t209,.int .i64 t210,.int .i64 t211,.int .i64 t212,.string t213,.string t214] from (k41_mkM _ _ _ (⟨t209,(⟨t210,t211,t212,t213,t214⟩ : S24)⟩ : S41) )) (Reps.none _ _))))));intro v216 w68 ho69 hb hg_ hnew_;clear hg_ hnew_;(first | rw [← Ny215.out] at ho69 | (simp only [Int.reduceToNat] at ho69;rw [← Ny215.out] at ho69));replace HO154:=Aside0.mk (Kd.N_elder' q12_ (Kd.R_base ho69) hb);have HO217:=Aside0.mk (Kd.R_lower (Kd.R_new' (Kd.R_new' (Kd.R_new' (Kd.R_new' ho69 (Kd.R_lt q8_)) (Kd.R_lt q10_)) (Kd.R_lt q11_)) (Kd.R_lt q13_)) (below_size bh_));replace HO169:=Aside0.mk (Kd.R_elder' q8_ (Kd.R_base ho69) hb);replace HO172:=Aside0.mk (Kd.R_elder' q10_ (Kd.R_base ho69) hb);replace HO181:=Aside0.mk (Kd.R_elder' q11_ (Kd.R_base ho69) hb);replace HO190:=Aside0.mk (Kd.R_elder' q13_ (Kd.R_base ho69) hb);replace HB:=Aside0.mk (below_step bh_ hb);clear hb ho69;obtain ⟨Ao70,co70,eo70⟩:=Kd.R_slice HO172.out;subst eo70;obtain ⟨Ao71,co71,eo71⟩:=Kd.R_slice HO217.out;subst eo71) | ((with_reducible refine gate_callee (f:=24) rfl ?_);refine goesL_ (some 40) rfl rfl Tryz.func24 q4_ rfl #[.slice Ao70 t170.length co70,.slice Ao71 y215.length co71] rfl q2_ ?_;(with_reducible refine (Rf17_Same.calls k _ _ t170 _ _ y215 true _ ?side1 ?side2 ?side3 ?side4 A19.out).mono ?_);(case side1 => repeat (first | exact (Kd.R_reads' HO172.out).2.2 | (with_reducible refine Kd.C_alloc ?_ _) | (with_reducible refine Kd.C_drewN ?_ _) | (with_reducible refine Kd.C_drew ?_)));(case side2 => exact (Kd.R_reads' HO172.out).2.1);(case side3 => repeat (first | exact (Kd.R_reads' HO217.out).2.2 | (with_reducible refine Kd.C_alloc ?_ _) | (with_reducible refine Kd.C_drewN ?_ _) | (with_reducible refine Kd.C_drew ?_)));(case side4 => exact (Kd.R_reads' HO217.out).2.1);rintro e w' ⟨rfl,⟨nd,rfl⟩⟩;refine ⟨_,rfl,?_⟩) | (go_at_call 25;(with_reducible refine (mvs_Reached.calls _ _ y167 _ _ y152 t219 _ ?side1 ?side2 ?side3 ?side4 A21.out ?sideG).mono ?_);(case sideG => first | exact HG.out | exact Env.below HG.out bh_);(case side1 => repeat (first | exact (Kd.R_reads' HO169.out).2.2 | (with_reducible refine Kd.C_alloc ?_ _) | (with_reducible refine Kd.C_drewN ?_ _) | (with_reducible refine Kd.C_drew ?_)));(case side2 => exact (Kd.R_reads' HO169.out).2.1);(case side3 => repeat (first | exact (Kd.N_reads' HO154.out).2.2 | (with_reducible refine Kd.C_alloc ?_ _) | (with_reducible refine Kd.C_drewN ?_ _) | (with_reducible refine Kd.C_drew ?_)));(case side4 => exact (Kd.N_reads' HO154.out).2.1);rintro e w72 ⟨v220,rfl,ho0,hb⟩;replace HO154:=Aside0.mk (Kd.N_elder' q12_ (Kd.R_base ho0) hb);have HO221:=Aside0.mk (Kd.R_lower (Kd.R_new' (Kd.R_new' (Kd.R_new' (Kd.R_new' (Kd.R_new' ho0 (Kd.R_lt q8_)) (Kd.R_lt q10_)) (Kd.R_lt q11_)) (Kd.R_lt q13_)) (Kd.R_lt q17_)) (below_size bh_));replace HO169:=Aside0.mk (Kd.R_elder' q8_ (Kd.R_base ho0) hb);replace HO172:=Aside0.mk (Kd.R_elder' q10_ (Kd.R_base ho0) hb);replace HO181:=Aside0.mk (Kd.R_elder' q11_ (Kd.R_base ho0) hb);replace HO190:=Aside0.mk (Kd.R_elder' q13_ (Kd.R_base ho0) hb);replace HO217:=Aside0.mk (Kd.R_elder' q17_ (Kd.R_base ho0) hb);replace HB:=Aside0.mk (below_step bh_ hb);(try clear hb);(try clear hb2);(try clear hk);(try clear hi);(try clear ho0);obtain ⟨Ao73,co73,eo73⟩:=Kd.R_slice HO221.out;subst eo73) | (go_at_call 46;(with_reducible refine (Lw17_req.calls (⟨#[98]⟩ : ByteArray) 0 t222 t223 t224 t225 t226 t227 _ A23.out).mono ?_);rintro e w74 ⟨rfl,hb⟩;replace HO154:=Aside0.mk (Kd.N_below q12_ hb);replace HO169:=Aside0.mk (Kd.R_below q8_ hb);replace HO172:=Aside0.mk (Kd.R_below q10_ hb);replace HO181:=Aside0.mk (Kd.R_below q11_ hb);replace HO190:=Aside0.mk (Kd.R_below q13_ hb);replace HO217:=Aside0.mk (Kd.R_below q17_ hb);replace HO221:=Aside0.mk (Kd.R_below q18_ hb);replace HB:=Aside0.mk (below_step bh_ hb);(try clear hb);(try clear hb2);(try clear hk);(try clear hi)) | (go_at_call 46;(with_reducible refine (Lw17_req.calls (⟨#[97]⟩ : ByteArray) 3 t228 t229 t230 t231 t232 t233 _ A24.out).mono ?_);rintro e w75 ⟨rfl,hb⟩;replace HO154:=Aside0.mk (Kd.N_below q12_ hb);replace HO169:=Aside0.mk (Kd.R_below q8_ hb);replace HO172:=Aside0.mk (Kd.R_below q10_ hb);replace HO181:=Aside0.mk (Kd.R_below q11_ hb);replace HO190:=Aside0.mk (Kd.R_below q13_ hb);replace HO217:=Aside0.mk (Kd.R_below q17_ hb);replace HO221:=Aside0.mk (Kd.R_below q18_ hb);replace HB:=Aside0.mk (below_step bh_ hb);(try clear hb);(try clear hb2);(try clear hk);(try clear hi)) | ((with_reducible refine gate_dst (N:=52) rfl ?_);(try (refine gate_guard q42_ ?_;dsimp only));refine Kd.R_lit k41 _ 41 ?hg (N:=52) ?hd (xs:=([(⟨t222,(⟨t223,t224,t225,t226,t227⟩ : S24)⟩ : S41),(⟨t228,(⟨t229,t230,t231,t232,t233⟩ : S24)⟩ : S41)] : List (S41))) (inner:=[.string t222,.int .i64 t223,.int .i64 t224,.int .i64 t225,.string t226,.string t227,.string t228,.int .i64 t229,.int .i64 t230,.int .i64 t231,.string t232,.string t233]) (ok:=fun _ => True) (okp:=fun _ => True) ?hr ?hp (fun _ hk => hk) trivial (Below.refl _ _) (Nat.le_refl _) q23_ ?_;(case hd => rfl);(case hg => rfl);(case hr => first | (go_simp;done) | (go_simp;rfl));(case hp => exact (Reps.c6 (show Kd.M k41 _ _ _ (⟨t222,(⟨t223,t224,t225,t226,t227⟩ : S24)⟩ : S41) [.string t222,.int .i64 t223,.int .i64 t224,.int .i64 t225,.string t226,.string t227] from (k41_mkM _ _ _ (⟨t222,(⟨t223,t224,t225,t226,t227⟩ : S24)⟩ : S41) )) (Reps.c6 (show Kd.M k41 _ _ _ (⟨t228,(⟨t229,t230,t231,t232,t233⟩ : S24)⟩ : S41) [.string t228,.int .i64 t229,.int .i64 t230,.int .i64 t231,.string t232,.string t233] from (k41_mkM _ _ _ (⟨t228,(⟨t229,t230,t231,t232,t233⟩ : S24)⟩ : S41) )) (Reps.none _ _))));intro v235 w76 ho77 hb hg_ hnew_;clear hg_ hnew_;(first | rw [← Ny234.out] at ho77 | (simp only [Int.reduceToNat] at ho77;rw [← Ny234.out] at ho77));replace HO154:=Aside0.mk (Kd.N_elder' q12_ (Kd.R_base ho77) hb);have HO236:=Aside0.mk (Kd.R_lower (Kd.R_new' (Kd.R_new' (Kd.R_new' (Kd.R_new' (Kd.R_new' (Kd.R_new' ho77 (Kd.R_lt q8_)) (Kd.R_lt q10_)) (Kd.R_lt q11_)) (Kd.R_lt q13_)) (Kd.R_lt q17_)) (Kd.R_lt q18_)) (below_size bh_));replace HO169:=Aside0.mk (Kd.R_elder' q8_ (Kd.R_base ho77) hb);replace HO172:=Aside0.mk (Kd.R_elder' q10_ (Kd.R_base ho77) hb);replace HO181:=Aside0.mk (Kd.R_elder' q11_ (Kd.R_base ho77) hb);replace HO190:=Aside0.mk (Kd.R_elder' q13_ (Kd.R_base ho77) hb);replace HO217:=Aside0.mk (Kd.R_elder' q17_ (Kd.R_base ho77) hb);replace HO221:=Aside0.mk (Kd.R_elder' q18_ (Kd.R_base ho77) hb);replace HB:=Aside0.mk (below_step bh_ hb);clear hb ho77;obtain ⟨Ao78,co78,eo78⟩:=Kd.R_slice HO181.out;subst eo78;obtain ⟨Ao79,co79,eo79⟩:=Kd.R_slice HO236.out;subst eo79) | (go_at_call 24;(with_reducible refine (Rf17_Same.calls k _ _ t179 _ _ y234 true _ ?side1 ?side2 ?side3 ?side4 A25.out).mono ?_);(case side1 => repeat (first | exact (Kd.R_reads' HO181.out).2.2 | (with_reducible refine Kd.C_alloc ?_ _) | (with_reducible refine Kd.C_drewN ?_ _) | (with_reducible refine Kd.C_drew ?_)));(case side2 => exact (Kd.R_reads' HO181.out).2.1);(case side3 => repeat (first | exact (Kd.R_reads' HO236.out).2.2 | (with_reducible refine Kd.C_alloc ?_ _) | (with_reducible refine Kd.C_drewN ?_ _) | (with_reducible refine Kd.C_drew ?_)));(case side4 => exact (Kd.R_reads' HO236.out).2.1);rintro e w' ⟨rfl,⟨nd,rfl⟩⟩) | (go_at_call 46;(with_reducible refine (Lw17_req.calls (⟨#[97]⟩ : ByteArray) 0 t238 t239 t240 t241 t242 t243 _ A27.out).mono ?_);rintro e w80 ⟨rfl,hb⟩;replace HO154:=Aside0.mk (Kd.N_below q12_ hb);replace HO169:=Aside0.mk (Kd.R_below q8_ hb);replace HO172:=Aside0.mk (Kd.R_below q10_ hb);replace HO181:=Aside0.mk (Kd.R_below q11_ hb);replace HO190:=Aside0.mk (Kd.R_below q13_ hb);replace HO217:=Aside0.mk (Kd.R_below q17_ hb);replace HO221:=Aside0.mk (Kd.R_below q18_ hb);replace HO236:=Aside0.mk (Kd.R_below q20_ hb);replace HB:=Aside0.mk (below_step bh_ hb);(try clear hb);(try clear hb2);(try clear hk);(try clear hi)) | ((with_reducible refine gate_dst (N:=58) rfl ?_);(try (refine gate_guard q42_ ?_;dsimp only));refine Kd.R_lit k41 _ 41 ?hg (N:=58) ?hd (xs:=([(⟨t238,(⟨t239,t240,t241,t242,t243⟩ : S24)⟩ : S41)] : List (S41))) (inner:=[.string t238,.int .i64 t239,.int .i64 t240,.int .i64 t241,.string t242,.string t243]) (ok:=fun _ => True) (okp:=fun _ => True) ?hr ?hp (fun _ hk => hk) trivial (Below.refl _ _) (Nat.le_refl _) q23_ ?_;(case hd => rfl);(case hg => rfl);(case hr => first | (go_simp;done) | (go_simp;rfl));(case hp => exact (Reps.c6 (show Kd.M k41 _ _ _ (⟨t238,(⟨t239,t240,t241,t242,t243⟩ : S24)⟩ : S41) [.string t238,.int .i64 t239,.int .i64 t240,.int .i64 t241,.string t242,.string t243] from (k41_mkM _ _ _ (⟨t238,(⟨t239,t240,t241,t242,t243⟩ : S24)⟩ : S41) )) (Reps.none _ _)));intro v245 w81 ho82 hb hg_ hnew_;clear hg_ hnew_;(first | rw [← Ny244.out] at ho82 | (simp only [Int.reduceToNat] at ho82;rw [← Ny244.out] at ho82));replace HO154:=Aside0.mk (Kd.N_elder' q12_ (Kd.R_base ho82) hb);have HO246:=Aside0.mk (Kd.R_lower (Kd.R_new' (Kd.R_new' (Kd.R_new' (Kd.R_new' (Kd.R_new' (Kd.R_new' (Kd.R_new' ho82 (Kd.R_lt q8_)) (Kd.R_lt q10_)) (Kd.R_lt q11_)) (Kd.R_lt q13_)) (Kd.R_lt q17_)) (Kd.R_lt q18_)) (Kd.R_lt q20_)) (below_size bh_));replace HO169:=Aside0.mk (Kd.R_elder' q8_ (Kd.R_base ho82) hb);replace HO172:=Aside0.mk (Kd.R_elder' q10_ (Kd.R_base ho82) hb);replace HO181:=Aside0.mk (Kd.R_elder' q11_ (Kd.R_base ho82) hb);replace HO190:=Aside0.mk (Kd.R_elder' q13_ (Kd.R_base ho82) hb);replace HO217:=Aside0.mk (Kd.R_elder' q17_ (Kd.R_base ho82) hb);replace HO221:=Aside0.mk (Kd.R_elder' q18_ (Kd.R_base ho82) hb);replace HO236:=Aside0.mk (Kd.R_elder' q20_ (Kd.R_base ho82) hb);replace HB:=Aside0.mk (below_step bh_ hb);clear hb ho82;obtain ⟨Ao83,co83,eo83⟩:=Kd.R_slice HO190.out;subst eo83;obtain ⟨Ao84,co84,eo84⟩:=Kd.R_slice HO246.out;subst eo84) | (go_at_call 24;(with_reducible refine (Rf17_Same.calls k _ _ t188 _ _ y244 true _ ?side1 ?side2 ?side3 ?side4 A28.out).mono ?_);(case side1 => repeat (first | exact (Kd.R_reads' HO190.out).2.2 | (with_reducible refine Kd.C_alloc ?_ _) | (with_reducible refine Kd.C_drewN ?_ _) | (with_reducible refine Kd.C_drew ?_)));(case side2 => exact (Kd.R_reads' HO190.out).2.1);(case side3 => repeat (first | exact (Kd.R_reads' HO246.out).2.2 | (with_reducible refine Kd.C_alloc ?_ _) | (with_reducible refine Kd.C_drewN ?_ _) | (with_reducible refine Kd.C_drew ?_)));(case side4 => exact (Kd.R_reads' HO246.out).2.1);rintro e w' ⟨rfl,⟨nd,rfl⟩⟩) | (go_at_call 46;(with_reducible refine (Lw17_req.calls (⟨#[122]⟩ : ByteArray) 0 t248 t249 t250 t251 t252 t253 _ A30.out).mono ?_);rintro e w85 ⟨rfl,hb⟩;replace HO154:=Aside0.mk (Kd.N_below q12_ hb);replace HO169:=Aside0.mk (Kd.R_below q8_ hb);replace HO172:=Aside0.mk (Kd.R_below q10_ hb);replace HO181:=Aside0.mk (Kd.R_below q11_ hb);replace HO190:=Aside0.mk (Kd.R_below q13_ hb);replace HO217:=Aside0.mk (Kd.R_below q17_ hb);replace HO221:=Aside0.mk (Kd.R_below q18_ hb);replace HO236:=Aside0.mk (Kd.R_below q20_ hb);replace HO246:=Aside0.mk (Kd.R_below q28_ hb);replace HB:=Aside0.mk (below_step bh_ hb);(try clear hb);(try clear hb2);(try clear hk);(try clear hi)) | (go_at_call 29;(with_reducible refine (mvs_Upgrade.calls _ _ y167 t248 t249 t250 t251 t252 t253 t254 _ ?side1 ?side2 A31.out ?sideG).mono ?_);(case sideG => first | exact HG.out | exact Env.below HG.out bh_);(case side1 => repeat (first | exact (Kd.R_reads' HO169.out).2.2 | (with_reducible refine Kd.C_alloc ?_ _) | (with_reducible refine Kd.C_drewN ?_ _) | (with_reducible refine Kd.C_drew ?_)));(case side2 => exact (Kd.R_reads' HO169.out).2.1);rintro e w86 ⟨v255,rfl,ho0,hb⟩;replace HO154:=Aside0.mk (Kd.N_elder' q12_ (Kd.R_base ho0) hb);have HO256:=Aside0.mk (Kd.R_lower (Kd.R_new' (Kd.R_new' (Kd.R_new' (Kd.R_new' (Kd.R_new' (Kd.R_new' (Kd.R_new' (Kd.R_new' ho0 (Kd.R_lt q8_)) (Kd.R_lt q10_)) (Kd.R_lt q11_)) (Kd.R_lt q13_)) (Kd.R_lt q17_)) (Kd.R_lt q18_)) (Kd.R_lt q20_)) (Kd.R_lt q28_)) (below_size bh_));replace HO169:=Aside0.mk (Kd.R_elder' q8_ (Kd.R_base ho0) hb);replace HO172:=Aside0.mk (Kd.R_elder' q10_ (Kd.R_base ho0) hb);replace HO181:=Aside0.mk (Kd.R_elder' q11_ (Kd.R_base ho0) hb);replace HO190:=Aside0.mk (Kd.R_elder' q13_ (Kd.R_base ho0) hb);replace HO217:=Aside0.mk (Kd.R_elder' q17_ (Kd.R_base ho0) hb);replace HO221:=Aside0.mk (Kd.R_elder' q18_ (Kd.R_base ho0) hb);replace HO236:=Aside0.mk (Kd.R_elder' q20_ (Kd.R_base ho0) hb);replace HO246:=Aside0.mk (Kd.R_elder' q28_ (Kd.R_base ho0) hb);replace HB:=Aside0.mk (below_step bh_ hb);(try clear hb);(try clear hb2);(try clear hk);(try clear hi);(try clear ho0);obtain ⟨Ao87,co87,eo87⟩:=Kd.R_slice HO256.out;subst eo87) | (go_at_call 46;(with_reducible refine (Lw17_req.calls (⟨#[122]⟩ : ByteArray) (-1) t257 t258 t259 t260 t261 t262 _ A33.out).mono ?_);rintro e w88 ⟨rfl,hb⟩;replace HO154:=Aside0.mk (Kd.N_below q12_ hb);replace HO169:=Aside0.mk (Kd.R_below q8_ hb);replace HO172:=Aside0.mk (Kd.R_below q10_ hb);replace HO181:=Aside0.mk (Kd.R_below q11_ hb);replace HO190:=Aside0.mk (Kd.R_below q13_ hb);replace HO217:=Aside0.mk (Kd.R_below q17_ hb);replace HO221:=Aside0.mk (Kd.R_below q18_ hb);replace HO236:=Aside0.mk (Kd.R_below q20_ hb);replace HO246:=Aside0.mk (Kd.R_below q28_ hb);replace HO256:=Aside0.mk (Kd.R_below q43_ hb);replace HB:=Aside0.mk (below_step bh_ hb);(try clear hb);(try clear hb2);(try clear hk);(try clear hi)) | (go_at_call 29;(with_reducible refine (mvs_Upgrade.calls _ _ y167 t257 t258 t259 t260 t261 t262 t263 _ ?side1 ?side2 A34.out ?sideG).mono ?_);(case sideG => first | exact HG.out | exact Env.below HG.out bh_);(case side1 => repeat (first | exact (Kd.R_reads' HO169.out).2.2 | (with_reducible refine Kd.C_alloc ?_ _) | (with_reducible refine Kd.C_drewN ?_ _) | (with_reducible refine Kd.C_drew ?_)));(case side2 => exact (Kd.R_reads' HO169.out).2.1);rintro e w89 ⟨v264,rfl,ho0,hb⟩;replace HO154:=Aside0.mk (Kd.N_elder' q12_ (Kd.R_base ho0) hb);have HO265:=Aside0.mk (Kd.R_lower (Kd.R_new' (Kd.R_new' (Kd.R_new' (Kd.R_new' (Kd.R_new' (Kd.R_new' (Kd.R_new' (Kd.R_new' (Kd.R_new' ho0 (Kd.R_lt q8_)) (Kd.R_lt q10_)) (Kd.R_lt q11_)) (Kd.R_lt q13_)) (Kd.R_lt q17_)) (Kd.R_lt q18_)) (Kd.R_lt q20_)) (Kd.R_lt q28_)) (Kd.R_lt q43_)) (below_size bh_));replace HO169:=Aside0.mk (Kd.R_elder' q8_ (Kd.R_base ho0) hb);replace HO172:=Aside0.mk (Kd.R_elder' q10_ (Kd.R_base ho0) hb);replace HO181:=Aside0.mk (Kd.R_elder' q11_ (Kd.R_base ho0) hb);replace HO190:=Aside0.mk (Kd.R_elder' q13_ (Kd.R_base ho0) hb);replace HO217:=Aside0.mk (Kd.R_elder' q17_ (Kd.R_base ho0) hb);replace HO221:=Aside0.mk (Kd.R_elder' q18_ (Kd.R_base ho0) hb);replace HO236:=Aside0.mk (Kd.R_elder' q20_ (Kd.R_base ho0) hb);replace HO246:=Aside0.mk (Kd.R_elder' q28_ (Kd.R_base ho0) hb);replace HO256:=Aside0.mk (Kd.R_elder' q43_ (Kd.R_base ho0) hb);replace HB:=Aside0.mk (below_step bh_ hb);(try clear hb);(try clear hb2);(try clear hk);(try clear hi);(try clear ho0);obtain ⟨Ao90,co90,eo90⟩:=Kd.R_slice HO265.out;subst eo90))
      go_ret
      exact ⟨by first | rfl | (simp [] <;> rfl) | (simp [*] <;> rfl) | (simp [bne_nil_];done) | (simp [*,bne_nil_];done),by repeat (first | (with_reducible first | exact HB.out | apply below_alloc | apply pw_below_drewN | apply below_drew1) | exact HB.out)⟩
     ·rw [if_neg c32] at H
      exact absurd ((Option.some.inj H).trans HR_.out) q23_
    ·replace c29:=Bool.eq_false_iff.mpr c29
     subst c29
     rw [if_neg (show ¬ (false = true) by decide)] at H
     exact absurd ((Option.some.inj H).trans HR_.out) q23_
   ·replace c26:=Bool.eq_false_iff.mpr c26
    subst c26
    rw [if_neg (show ¬ (false = true) by decide)] at H
    exact absurd ((Option.some.inj H).trans HR_.out) q23_
  ·rw [if_neg c22] at H
   exact absurd ((Option.some.inj H).trans HR_.out) q23_
 ·replace c20:=Bool.eq_false_iff.mpr c20
  subst c20
  rw [if_neg (show ¬ (false = true) by decide)] at H
  exact absurd ((Option.some.inj H).trans HR_.out) q23_
end Go.Proofs.YtennhpoemdaghaaGreatDoor.P
end
section
namespace Go.Proofs.YtennhpoemdaghaaGreatDoor.P
open Go Go.RowKit Go.Proofs.YtennhpoemdaghaaGreatDoorW.PrintWords
theorem live_at : Lw17_live.f 200 = some true:=by decide +kernel
theorem live_f (k : Nat) (hk : 200 ≤ k) : Lw17_live.f k = some true:=by
 obtain ⟨d,rfl⟩ : ∃ d,k = 200 + d:=⟨k - 200,by omega⟩
 clear hk
 induction d with
 | zero => exact live_at
 | succ d ih => exact Lw17_live.mono (200 + d) _ ih
end Go.Proofs.YtennhpoemdaghaaGreatDoor.P
end
section
namespace Go.Proofs.YtennhpoemdaghaaGreatDoor.P
open Go.RowKit Go.Proofs.YtennhpoemdaghaaGreatDoorW.PrintWords Go.Proofs.YtennhpoemdaghaaGreatDoorW.PrintLast Go.Proofs.YtennhpoemdaghaaGreatDoorW.PrintMore
mutual
def Lw17_MvsAlone.l0 : Nat → List (S41) → List (S41) → List (S41) → Int → Option (Bool)
 | 0,_,_,_,_ => none
 | k + 1,x0,x3,x4,x5 => if x5 < (x3.length : Int) then (if 0 ≤ x5 then ((Rf17_In.f k x0 ((rd_T41 x3 x5).f0) ((rd_T41 x3 x5).f1.f0) ((rd_T41 x3 x5).f1.f1) ((rd_T41 x3 x5).f1.f2) ((rd_T41 x3 x5).f1.f3) ((rd_T41 x3 x5).f1.f4)).bind fun t110 => (if t110 = true then ((Rf17_May.f k ((rd_T41 x3 x5).f0) ((rd_T41 x3 x5).f1.f0) ((rd_T41 x3 x5).f1.f1) ((rd_T41 x3 x5).f1.f2) ((rd_T41 x3 x5).f1.f3) ((rd_T41 x3 x5).f1.f4)).bind fun t112 => (if t112 = true then (if x5 ≤ (x3.length : Int) then ((Rf17_In.f k (x3.take (x5 : Int).toNat) ((rd_T41 x3 x5).f0) ((rd_T41 x3 x5).f1.f0) ((rd_T41 x3 x5).f1.f1) ((rd_T41 x3 x5).f1.f2) ((rd_T41 x3 x5).f1.f3) ((rd_T41 x3 x5).f1.f4)).bind fun t118 => (if t118 = true then (some false) else (Lw17_MvsAlone.l0 k x0 x3 x4 (wrap64 (x5 + 1))))) else (none)) else (some false))) else (some false))) else (none)) else (Lw17_MvsAlone.l1 k x0 x3 x4 0)
def Lw17_MvsAlone.l1 : Nat → List (S41) → List (S41) → List (S41) → Int → Option (Bool)
 | 0,_,_,_,_ => none
 | k + 1,x0,x3,x4,x6 => if x6 < (x0.length : Int) then (if 0 ≤ x6 then ((Rf17_May.f k ((rd_T41 x0 x6).f0) ((rd_T41 x0 x6).f1.f0) ((rd_T41 x0 x6).f1.f1) ((rd_T41 x0 x6).f1.f2) ((rd_T41 x0 x6).f1.f3) ((rd_T41 x0 x6).f1.f4)).bind fun t120 => ((Rf17_In.f k x3 ((rd_T41 x0 x6).f0) ((rd_T41 x0 x6).f1.f0) ((rd_T41 x0 x6).f1.f1) ((rd_T41 x0 x6).f1.f2) ((rd_T41 x0 x6).f1.f3) ((rd_T41 x0 x6).f1.f4)).bind fun t122 => (if (t120 != t122) = true then (some false) else (Lw17_MvsAlone.l1 k x0 x3 x4 (wrap64 (x6 + 1)))))) else (none)) else (Lw17_MvsAlone.l2 k x0 x3 x4 0)
def Lw17_MvsAlone.l2 : Nat → List (S41) → List (S41) → List (S41) → Int → Option (Bool)
 | 0,_,_,_,_ => none
 | k + 1,x0,x3,x4,x7 => if x7 < (x4.length : Int) then (if 0 ≤ x7 then ((Rf17_In.f k x0 ((rd_T41 x4 x7).f0) ((rd_T41 x4 x7).f1.f0) ((rd_T41 x4 x7).f1.f1) ((rd_T41 x4 x7).f1.f2) ((rd_T41 x4 x7).f1.f3) ((rd_T41 x4 x7).f1.f4)).bind fun t124 => (if t124 = true then (Lw17_MvsAlone.l2 k x0 x3 x4 (wrap64 (x7 + 1))) else (some false))) else (none)) else (if (x4.length : Int) ≤ (x3.length : Int) then ((Lw17_live.f k).bind fun t125 => (some t125)) else (some false))
end
def Lw17_MvsAlone.f (k : Nat) (l0 : List (S41)) : Option (Bool):=(Rf17_Small.f k l0 ([] : List (S68))).bind fun t101 => (if t101 = true then ((mvs_Reached.f l0 ([] : List (S70))).bind fun t103 => ((mvs_List.f l0 ([] : List (S70))).bind fun t106 => (Lw17_MvsAlone.l0 k l0 t103 t106 0))) else ((Lw17_live.f k).bind fun t102 => (some t102)))
def Lw17_MvsAlone.T8 : Bool × List (List Nat × List Nat):=(true,[([],[]),([],[]),([],[]),([1,2],[1,2]),([3],[3]),([0,4],[0,4]),([5],[5]),([6,5],[6]),([7],[7]),([7],[7]),([8,9,7],[7,8,9]),([10,7],[7,10]),([11,7,7],[7,11]),([12,7],[7,12]),([7,13],[7,13]),([14,12],[14]),([15],[15]),([15],[15]),([16,17,15],[15,16,17]),([15],[15]),([15],[15]),([19,20,15],[15,19,20]),([21,15],[15,21]),([18,22,15,15],[15,18,22]),([15,23],[15,23])])
def Lw17_MvsAlone.B8 : List Nat:=[0,0,0,6,14,31,63,127,255,255,1023,2047,4095,8191,16383,32767,65535,65535,262143,65535,65535,1638399,3735551,8388607,16777215]
theorem Lw17_MvsAlone.tab8 : rtab .any (opsOf Tryz.f10 8) = Lw17_MvsAlone.T8:=by kernel_rfl
theorem Lw17_MvsAlone.bits8 : waitsOk Lw17_MvsAlone.T8.2 Lw17_MvsAlone.B8 = true:=by kernel_rfl
def Lw17_MvsAlone.T13 : Bool × List (List Nat × List Nat):=(true,[([],[]),([],[]),([0,1],[0,1]),([2],[2]),([3],[3]),([],[]),([],[]),([],[]),([6,7],[6,7]),([8],[8]),([5,9,4],[5,9]),([4,10],[4,10])])
def Lw17_MvsAlone.B13 : List Nat:=[0,0,3,7,15,0,0,0,192,448,1023,2047]
theorem Lw17_MvsAlone.tab13 : rtab .any (opsOf Tryz.f10 13) = Lw17_MvsAlone.T13:=by kernel_rfl
theorem Lw17_MvsAlone.bits13 : waitsOk Lw17_MvsAlone.T13.2 Lw17_MvsAlone.B13 = true:=by kernel_rfl
set_option maxHeartbeats 8000000 in
set_option maxRecDepth 100000 in
theorem Lw17_MvsAlone.calls (k : Nat) (A0 : Option Addr) (c0 : Nat) (l0 : List (S41)) (r : Bool) (w : World) (hr0 : Kd.C k41 w A0 l0.length l0) (hc0 : l0.length ≤ c0) (h : Lw17_MvsAlone.f k l0 = some r) (hr_ : r = true) (hG : Env w) :
  Calls Tryz.prog 10 #[.slice A0 l0.length c0] w fun e w' => e = .returned (.bool r) ∧ Below w.heap.size w w':=by
 have HG:=Aside0.mk hG
 clear hG
 have HR_:=Aside0.mk hr_
 clear hr_
 have hu41:=Tryz.underlying41
 have HR0:=Aside0.mk hr0
 have HC0:=Aside0.mk hc0
 clear hr0 hc0
 have HB:=Aside0.mk (Below.refl w.heap.size w)
 have H : ((Rf17_Small.f k l0 ([] : List (S68))).bind fun t101 => (if t101 = true then ((mvs_Reached.f l0 ([] : List (S70))).bind fun t103 => ((mvs_List.f l0 ([] : List (S70))).bind fun t106 => (Lw17_MvsAlone.l0 k l0 t103 t106 0))) else ((Lw17_live.f k).bind fun t102 => (some t102)))) = some r:=h
 clear h
 obtain ⟨t101,A20,H⟩:=Option.bind_eq_some_iff.mp H
 have A2:=Aside0.mk A20
 clear A20
 by_cases c3 : t101 = true
 ·subst c3
  rw [if_pos rfl] at H
  obtain ⟨t103,A40,H⟩:=Option.bind_eq_some_iff.mp H
  have A4:=Aside0.mk A40
  clear A40
  obtain ⟨t106,A50,H⟩:=Option.bind_eq_some_iff.mp H
  have A5:=Aside0.mk A50
  clear A50
  have H':=Aside0.mk H
  clear H
  go_enter Tryz.func10,Tryz.ntmps10
  go_wp2_with (first | ((with_reducible refine gate_callee (f:=21) rfl ?_);refine goesL_ (some 9) rfl rfl Tryz.func21 q4_ rfl #[.slice A0 l0.length c0,.slice none 0 0] rfl q2_ ?_;(refine (Rf17_Small.calls k _ _ l0 _ _ ([] : List (S68)) true _ ?side1 ?side2 ?side3 ?side4 A2.out).mono ?_);(case side1 => repeat (first | exact HR0.out | (with_reducible refine Kd.C_alloc ?_ _) | (with_reducible refine Kd.C_drewN ?_ _) | (with_reducible refine Kd.C_drew ?_)));(case side2 => exact HC0.out);(case side3 => exact Kd.C_nil _ _);(case side4 => exact Nat.le_refl _);rintro e w6 ⟨rfl,hb⟩;refine ⟨_,rfl,?_⟩;replace HB:=Aside0.mk (below_step bh_ hb);(try clear hb);(try clear hb2);(try clear hk);(try clear hi)) | ((with_reducible refine gate_callee (f:=25) rfl ?_);refine goesL_ (some 13) rfl rfl Tryz.func25 q4_ rfl #[.slice A0 l0.length c0,.slice none 0 0] rfl q2_ ?_;(refine (mvs_Reached.calls _ _ l0 _ _ ([] : List (S70)) t103 _ ?side1 ?side2 ?side3 ?side4 A4.out ?sideG).mono ?_);(case sideG => first | exact HG.out | exact Env.below HG.out bh_);(case side1 => repeat (first | exact (Kd.C_below HR0.out HB.out) | (with_reducible refine Kd.C_alloc ?_ _) | (with_reducible refine Kd.C_drewN ?_ _) | (with_reducible refine Kd.C_drew ?_)));(case side2 => exact HC0.out);(case side3 => exact Kd.C_nil _ _);(case side4 => exact Nat.le_refl _);rintro e w7 ⟨v104,rfl,ho0,hb⟩;refine ⟨_,rfl,?_⟩;have HO105:=Aside0.mk (Kd.R_lower ho0 (below_size bh_));replace HB:=Aside0.mk (below_step bh_ hb);(try clear hb);(try clear hb2);(try clear hk);(try clear hi);(try clear ho0)) | ((with_reducible refine gate_callee (f:=27) rfl ?_);refine goesL_ (some 15) rfl rfl Tryz.func27 q4_ rfl #[.slice A0 l0.length c0,.slice none 0 0] rfl q2_ ?_;(refine (mvs_List.calls _ _ l0 _ _ ([] : List (S70)) t106 _ ?side1 ?side2 ?side3 ?side4 A5.out ?sideG).mono ?_);(case sideG => first | exact HG.out | exact Env.below HG.out bh_);(case side1 => repeat (first | exact (Kd.C_below HR0.out HB.out) | (with_reducible refine Kd.C_alloc ?_ _) | (with_reducible refine Kd.C_drewN ?_ _) | (with_reducible refine Kd.C_drew ?_)));(case side2 => exact HC0.out);(case side3 => exact Kd.C_nil _ _);(case side4 => exact Nat.le_refl _);rintro e w8 ⟨v107,rfl,ho0,hb⟩;refine ⟨_,rfl,?_⟩;have HO108:=Aside0.mk (Kd.R_lower (Kd.R_new' ho0 (Kd.R_lt q37_)) (below_size bh_));replace HO105:=Aside0.mk (Kd.R_elder' q37_ (Kd.R_base ho0) hb);replace HB:=Aside0.mk (below_step bh_ hb);(try clear hb);(try clear hb2);(try clear hk);(try clear hi);(try clear ho0)))
  go_loopg [5] k (fun kq v5 w' => ∃ (x5_1 : Int),v5 = .int .i64 x5_1 ∧ Aside0 (Lw17_MvsAlone.l0 kq l0 t103 t106 x5_1 = some r) ∧ Aside0 (kq ≤ k) ∧ Aside0 (Kd.R k41 41 w' w.heap.size (fun k_ => some k_ ≠ (v107 : Value).ownBlock) v104 t103) ∧ Aside0 (Kd.R k41 41 w' w.heap.size (fun k_ => some k_ ≠ (v104 : Value).ownBlock) v107 t106) ∧ Aside0 (Below w.heap.size w w'))
  case atStart => exact ⟨(0),q3_,H',⟨Nat.le_refl _⟩,⟨by (with_reducible repeat (first | apply Kd.R_alloc | apply Kd.R_drewN | apply Kd.R_drew));exact Kd.R_mono HO105.out (fun _ hk => hk.2)⟩,⟨by (with_reducible repeat (first | apply Kd.R_alloc | apply Kd.R_drewN | apply Kd.R_drew));exact Kd.R_mono HO108.out (fun _ hk => hk.2)⟩,⟨by repeat (first | (with_reducible first | exact HB.out | apply below_alloc | apply pw_below_drewN | apply below_drew1) | exact HB.out)⟩⟩
  case round =>
   clear H'
   try clear c1
   try clear c2
   try clear p2
   try clear c3
   obtain ⟨x5_1,rfl,HA,HK1,HO_3,HO_4,HB⟩:=hrel
   cases gk with
   | zero => exact absurd HA.out (by simp [Lw17_MvsAlone.l0])
   | succ k1 =>
    have H:=HA.out
    clear HA
    simp only [Lw17_MvsAlone.l0] at H
    by_cases c9 : x5_1 < (t103.length : Int)
    ·rw [if_pos c9] at H
     have c9b0 : decide (x5_1 < (t103.length : Int)) = true:=decide_eq_true c9
     clear c9
     by_cases c10 : 0 ≤ x5_1
     ·rw [if_pos c10] at H
      have c10b0 : decide (0 ≤ x5_1) = true:=decide_eq_true c10
      clear c10
      obtain ⟨t110,A110,H⟩:=Option.bind_eq_some_iff.mp H
      have A11:=Aside0.mk A110
      clear A110
      by_cases c12 : t110 = true
      ·subst c12
       rw [if_pos rfl] at H
       obtain ⟨t112,A130,H⟩:=Option.bind_eq_some_iff.mp H
       have A13:=Aside0.mk A130
       clear A130
       by_cases c14 : t112 = true
       ·subst c14
        rw [if_pos rfl] at H
        have c15b0:=eq_true (of_decide_eq_true q1_ : 0 ≤ x5_1)
        by_cases c16 : x5_1 ≤ (t103.length : Int)
        ·rw [if_pos c16] at H
         have c16b0:=eq_true c16
         have c16b1 : decide (x5_1 ≤ (t103.length : Int)) = true:=decide_eq_true c16
         clear c16
         obtain ⟨y113,hy113⟩ : ∃ y_ : List (S41),y_ = (t103.take (x5_1 : Int).toNat):=⟨_,rfl⟩
         replace H : ((Rf17_In.f k1 y113 ((rd_T41 t103 x5_1).f0) ((rd_T41 t103 x5_1).f1.f0) ((rd_T41 t103 x5_1).f1.f1) ((rd_T41 t103 x5_1).f1.f2) ((rd_T41 t103 x5_1).f1.f3) ((rd_T41 t103 x5_1).f1.f4)).bind fun t118 => (if t118 = true then (some false) else (Lw17_MvsAlone.l0 k1 l0 t103 t106 (wrap64 (x5_1 + 1))))) = some r:=by first | (rw [hy113];with_reducible exact H) | (have H2_:=(Option.bind_some _ _).symm.trans H;rw [hy113];with_reducible exact H2_) | (have H2_:=(Option.bind_some _ _).symm.trans H;with_reducible exact H2_) | with_reducible exact H | (rw [hy113];exact H) | exact H
         have Ny113:=Aside0.mk hy113
         clear hy113
         obtain ⟨t118,A170,H⟩:=Option.bind_eq_some_iff.mp H
         have A17:=Aside0.mk A170
         clear A170
         by_cases c18 : t118 = true
         ·subst c18
          rw [if_pos rfl] at H
          exact absurd ((Option.some.inj H).trans HR_.out) q23_
         ·replace c18:=Bool.eq_false_iff.mpr c18
          subst c18
          rw [if_neg (show ¬ (false = true) by decide)] at H
          have H':=Aside0.mk H
          clear H
          obtain ⟨Ao25,co25,eo25⟩:=Kd.R_slice HO_3.out
          subst eo25
          try go_wp2
          replace HO_3:=Aside0.mk (Kd.R_drew HO_3.out)
          replace HO_4:=Aside0.mk (Kd.R_drew HO_4.out)
          replace HB:=Aside0.mk (below_drew1 HB.out)
          have p109 : 0 ≤ (x5_1 : Int):=of_decide_eq_true q1_
          have q109 : x5_1 < (t103.length : Int):=of_decide_eq_true q1_
          obtain ⟨ad109,e109,hx109_0,hx109_1,hx109_2,hx109_3,hx109_4,hx109_5⟩:=at_T41 (Kd.R_reads' HO_3.out).2.2 x5_1 p109 q109
          cases e109
          replace p109:=eq_true p109
          replace q109:=eq_true q109
          have p111 : 0 ≤ (x5_1 : Int):=of_decide_eq_true q1_
          have q111 : x5_1 < (t103.length : Int):=of_decide_eq_true q1_
          obtain ⟨ad111,e111,hx111_0,hx111_1,hx111_2,hx111_3,hx111_4,hx111_5⟩:=at_T41 (Kd.R_reads' HO_3.out).2.2 x5_1 p111 q111
          obtain rfl : ad109 = ad111:=(by injection e111)
          replace p111:=eq_true p111
          replace q111:=eq_true q111
          have p117 : 0 ≤ (x5_1 : Int):=of_decide_eq_true q1_
          have q117 : x5_1 < (t103.length : Int):=of_decide_eq_true q1_
          obtain ⟨ad117,e117,hx117_0,hx117_1,hx117_2,hx117_3,hx117_4,hx117_5⟩:=at_T41 (Kd.R_reads' HO_3.out).2.2 x5_1 p117 q117
          obtain rfl : ad109 = ad117:=(by injection e117)
          replace p117:=eq_true p117
          replace q117:=eq_true q117
          refine start_ (n:=25) (S:=fun w' => w'.cell? (ad109.add ((x5_1).toNat * 6)) = some (.string ((rd_T41 t103 x5_1).f0)) ∧ w'.cell? ⟨(ad109.add ((x5_1).toNat * 6)).block,(ad109.add ((x5_1).toNat * 6)).off + 1,none⟩ = some (.int .i64 ((rd_T41 t103 x5_1).f1.f0)) ∧ w'.cell? ⟨(ad109.add ((x5_1).toNat * 6)).block,(ad109.add ((x5_1).toNat * 6)).off + 2,none⟩ = some (.int .i64 ((rd_T41 t103 x5_1).f1.f1)) ∧ w'.cell? ⟨(ad109.add ((x5_1).toNat * 6)).block,(ad109.add ((x5_1).toNat * 6)).off + 3,none⟩ = some (.int .i64 ((rd_T41 t103 x5_1).f1.f2)) ∧ w'.cell? ⟨(ad109.add ((x5_1).toNat * 6)).block,(ad109.add ((x5_1).toNat * 6)).off + 4,none⟩ = some (.string ((rd_T41 t103 x5_1).f1.f3)) ∧ w'.cell? ⟨(ad109.add ((x5_1).toNat * 6)).block,(ad109.add ((x5_1).toNat * 6)).off + 5,none⟩ = some (.string ((rd_T41 t103 x5_1).f1.f4)) ∧ w'.cell? (ad109.add ((x5_1).toNat * 6)) = some (.string ((rd_T41 t103 x5_1).f0)) ∧ w'.cell? ⟨(ad109.add ((x5_1).toNat * 6)).block,(ad109.add ((x5_1).toNat * 6)).off + 1,none⟩ = some (.int .i64 ((rd_T41 t103 x5_1).f1.f0)) ∧ w'.cell? ⟨(ad109.add ((x5_1).toNat * 6)).block,(ad109.add ((x5_1).toNat * 6)).off + 2,none⟩ = some (.int .i64 ((rd_T41 t103 x5_1).f1.f1)) ∧ w'.cell? ⟨(ad109.add ((x5_1).toNat * 6)).block,(ad109.add ((x5_1).toNat * 6)).off + 3,none⟩ = some (.int .i64 ((rd_T41 t103 x5_1).f1.f2)) ∧ w'.cell? ⟨(ad109.add ((x5_1).toNat * 6)).block,(ad109.add ((x5_1).toNat * 6)).off + 4,none⟩ = some (.string ((rd_T41 t103 x5_1).f1.f3)) ∧ w'.cell? ⟨(ad109.add ((x5_1).toNat * 6)).block,(ad109.add ((x5_1).toNat * 6)).off + 5,none⟩ = some (.string ((rd_T41 t103 x5_1).f1.f4)) ∧ w'.cell? (ad109.add ((x5_1).toNat * 6)) = some (.string ((rd_T41 t103 x5_1).f0)) ∧ w'.cell? ⟨(ad109.add ((x5_1).toNat * 6)).block,(ad109.add ((x5_1).toNat * 6)).off + 1,none⟩ = some (.int .i64 ((rd_T41 t103 x5_1).f1.f0)) ∧ w'.cell? ⟨(ad109.add ((x5_1).toNat * 6)).block,(ad109.add ((x5_1).toNat * 6)).off + 2,none⟩ = some (.int .i64 ((rd_T41 t103 x5_1).f1.f1)) ∧ w'.cell? ⟨(ad109.add ((x5_1).toNat * 6)).block,(ad109.add ((x5_1).toNat * 6)).off + 3,none⟩ = some (.int .i64 ((rd_T41 t103 x5_1).f1.f2)) ∧ w'.cell? ⟨(ad109.add ((x5_1).toNat * 6)).block,(ad109.add ((x5_1).toNat * 6)).off + 4,none⟩ = some (.string ((rd_T41 t103 x5_1).f1.f3)) ∧ w'.cell? ⟨(ad109.add ((x5_1).toNat * 6)).block,(ad109.add ((x5_1).toNat * 6)).off + 5,none⟩ = some (.string ((rd_T41 t103 x5_1).f1.f4))) (ds:=[]) #[false,false,false,false,false,false,false,false,false,false,false,false,false,false,false,false,false,false,false,false,false,false,false,false,false] q4_ rfl rfl ⟨hx109_0,hx109_1,hx109_2,hx109_3,hx109_4,hx109_5,hx111_0,hx111_1,hx111_2,hx111_3,hx111_4,hx111_5,hx117_0,hx117_1,hx117_2,hx117_3,hx117_4,hx117_5⟩ (fun hHeld => ?_);refine with_tabW Lw17_MvsAlone.tab8 Lw17_MvsAlone.bits8 (fun HT_ HW_ => ?_)
          generalize wr.drew = w26 at HO_3 HO_4 HB hx109_0 hx109_1 hx109_2 hx109_3 hx109_4 hx109_5 hx111_0 hx111_1 hx111_2 hx111_3 hx111_4 hx111_5 hx117_0 hx117_1 hx117_2 hx117_3 hx117_4 hx117_5 hHeld ⊢
          refine pure_ (i:=0) (N:=some 22) (v:=?_) (a':=?_) #[true,false,false,false,false,false,false,false,false,false,false,false,false,false,false,false,false,false,false,false,false,false,false,false,false] rfl rfl (any_of HT_.out q4_) (fun _ _ _ h => h) (Or.inl ⟨by rfl,?_⟩) ?_ ?_
          rotate_left
          ·intro w'
           go_simp
           with_reducible rfl
          rotate_left
          ·simp only [Act.put,List.setIfInBounds_toArray,List.set_cons_zero,List.set_cons_succ,i64_w]
           rfl
          refine pure_ (i:=1) (N:=some 23) (v:=?_) (a':=?_) #[true,true,false,false,false,false,false,false,false,false,false,false,false,false,false,false,false,false,false,false,false,false,false,false,false] rfl rfl (any_of HT_.out q4_) (fun _ _ _ h => h) (Or.inl ⟨by rfl,?_⟩) ?_ ?_
          rotate_left
          ·intro w'
           go_simp
           with_reducible rfl
          rotate_left
          ·simp only [Act.put,List.setIfInBounds_toArray,List.set_cons_zero,List.set_cons_succ,i64_w]
           rfl
          refine pure_ (i:=2) (N:=some 24) (v:=?_) (a':=?_) #[true,true,true,false,false,false,false,false,false,false,false,false,false,false,false,false,false,false,false,false,false,false,false,false,false] rfl rfl (any_of HT_.out q4_) (fun _ _ _ h => h) (Or.inl ⟨by rfl,?_⟩) ?_ ?_
          rotate_left
          ·intro w'
           go_simp
           with_reducible rfl
          rotate_left
          ·simp only [Act.put,List.setIfInBounds_toArray,List.set_cons_zero,List.set_cons_succ,i64_w]
           rfl
          refine pure_ (i:=3) (N:=some 25) (v:=?_) (a':=?_) #[true,true,true,true,false,false,false,false,false,false,false,false,false,false,false,false,false,false,false,false,false,false,false,false,false] rfl rfl (any_of HT_.out q4_) (fun _ _ _ h => h) (Or.inl ⟨by rfl,?_⟩) ?_ ?_
          rotate_left
          ·intro w'
           go_simp
           with_reducible rfl
          rotate_left
          ·simp only [Act.put,List.setIfInBounds_toArray,List.set_cons_zero,List.set_cons_succ,i64_w]
           rfl
          refine take_ (i:=4) (N:=some 26) (v:=?_) (a':=?_) #[true,true,true,true,true,false,false,false,false,false,false,false,false,false,false,false,false,false,false,false,false,false,false,false,false] rfl rfl (take_ofW HT_.out HW_.out q4_) (fun _ _ _ h => h) (Or.inl ⟨by rfl,?_⟩) hHeld ?_ ?_
          rotate_left
          ·rintro w' ⟨s0,s1,s2,s3,s4,s5,s6,s7,s8,s9,s10,s11,s12,s13,s14,s15,s16,s17⟩
           go_simp
           with_reducible rfl
          rotate_left
          ·simp only [Act.put,List.setIfInBounds_toArray,List.set_cons_zero,List.set_cons_succ,i64_w]
           rfl
          refine one_ (i:=5) (N:=some 27) #[true,true,true,true,true,true,false,false,false,false,false,false,false,false,false,false,false,false,false,false,false,false,false,false,false] rfl rfl (one_of HT_.out q4_) q34_ (fun K hK => ?_)
          refine goes_ Tryz.func33 q4_ rfl #[.slice A0 l0.length c0,.agg #[.string ((rd_T41 t103 x5_1).f0),.int .i64 ((rd_T41 t103 x5_1).f1.f0),.int .i64 ((rd_T41 t103 x5_1).f1.f1),.int .i64 ((rd_T41 t103 x5_1).f1.f2),.string ((rd_T41 t103 x5_1).f1.f3),.string ((rd_T41 t103 x5_1).f1.f4)]] q42_ rfl rfl q2_ ?_
          with_reducible refine (Rf17_In.calls k1 _ _ l0 ((rd_T41 t103 x5_1).f0) ((rd_T41 t103 x5_1).f1.f0) ((rd_T41 t103 x5_1).f1.f1) ((rd_T41 t103 x5_1).f1.f2) ((rd_T41 t103 x5_1).f1.f3) ((rd_T41 t103 x5_1).f1.f4) true _ ?side1 ?side2 A11.out).mono ?_
          (case side1 => repeat (first | exact (Kd.C_below HR0.out HB.out) | (with_reducible refine Kd.C_alloc ?_ _) | (with_reducible refine Kd.C_drewN ?_ _) | (with_reducible refine Kd.C_drew ?_)))
          (case side2 => exact HC0.out)
          rintro e w27 ⟨rfl,hb⟩
          have HS0_:=(hb.cell (World.block_lt_of_cell? _ _ (hHeld.1))).trans (hHeld.1)
          have HS1_:=(hb.cell (World.block_lt_of_cell? _ _ (hHeld.2.1))).trans (hHeld.2.1)
          have HS2_:=(hb.cell (World.block_lt_of_cell? _ _ (hHeld.2.2.1))).trans (hHeld.2.2.1)
          have HS3_:=(hb.cell (World.block_lt_of_cell? _ _ (hHeld.2.2.2.1))).trans (hHeld.2.2.2.1)
          have HS4_:=(hb.cell (World.block_lt_of_cell? _ _ (hHeld.2.2.2.2.1))).trans (hHeld.2.2.2.2.1)
          have HS5_:=(hb.cell (World.block_lt_of_cell? _ _ (hHeld.2.2.2.2.2.1))).trans (hHeld.2.2.2.2.2.1)
          have HS6_:=(hb.cell (World.block_lt_of_cell? _ _ (hHeld.2.2.2.2.2.2.1))).trans (hHeld.2.2.2.2.2.2.1)
          have HS7_:=(hb.cell (World.block_lt_of_cell? _ _ (hHeld.2.2.2.2.2.2.2.1))).trans (hHeld.2.2.2.2.2.2.2.1)
          have HS8_:=(hb.cell (World.block_lt_of_cell? _ _ (hHeld.2.2.2.2.2.2.2.2.1))).trans (hHeld.2.2.2.2.2.2.2.2.1)
          have HS9_:=(hb.cell (World.block_lt_of_cell? _ _ (hHeld.2.2.2.2.2.2.2.2.2.1))).trans (hHeld.2.2.2.2.2.2.2.2.2.1)
          have HS10_:=(hb.cell (World.block_lt_of_cell? _ _ (hHeld.2.2.2.2.2.2.2.2.2.2.1))).trans (hHeld.2.2.2.2.2.2.2.2.2.2.1)
          have HS11_:=(hb.cell (World.block_lt_of_cell? _ _ (hHeld.2.2.2.2.2.2.2.2.2.2.2.1))).trans (hHeld.2.2.2.2.2.2.2.2.2.2.2.1)
          have HS12_:=(hb.cell (World.block_lt_of_cell? _ _ (hHeld.2.2.2.2.2.2.2.2.2.2.2.2.1))).trans (hHeld.2.2.2.2.2.2.2.2.2.2.2.2.1)
          have HS13_:=(hb.cell (World.block_lt_of_cell? _ _ (hHeld.2.2.2.2.2.2.2.2.2.2.2.2.2.1))).trans (hHeld.2.2.2.2.2.2.2.2.2.2.2.2.2.1)
          have HS14_:=(hb.cell (World.block_lt_of_cell? _ _ (hHeld.2.2.2.2.2.2.2.2.2.2.2.2.2.2.1))).trans (hHeld.2.2.2.2.2.2.2.2.2.2.2.2.2.2.1)
          have HS15_:=(hb.cell (World.block_lt_of_cell? _ _ (hHeld.2.2.2.2.2.2.2.2.2.2.2.2.2.2.2.1))).trans (hHeld.2.2.2.2.2.2.2.2.2.2.2.2.2.2.2.1)
          have HS16_:=(hb.cell (World.block_lt_of_cell? _ _ (hHeld.2.2.2.2.2.2.2.2.2.2.2.2.2.2.2.2.1))).trans (hHeld.2.2.2.2.2.2.2.2.2.2.2.2.2.2.2.2.1)
          have HS17_:=(hb.cell (World.block_lt_of_cell? _ _ (hHeld.2.2.2.2.2.2.2.2.2.2.2.2.2.2.2.2.2))).trans (hHeld.2.2.2.2.2.2.2.2.2.2.2.2.2.2.2.2.2)
          refine ⟨_,rfl,?_⟩
          replace HO_3:=Aside0.mk (Kd.R_below q19_ hb)
          replace HO_4:=Aside0.mk (Kd.R_below q24_ hb)
          replace HB:=Aside0.mk (below_step bh_ hb)
          (try clear hb)
          (try clear hb2)
          (try clear hk)
          (try clear hi)
          refine hK.out _ _ ⟨HS0_,HS1_,HS2_,HS3_,HS4_,HS5_,HS6_,HS7_,HS8_,HS9_,HS10_,HS11_,HS12_,HS13_,HS14_,HS15_,HS16_,HS17_⟩ (fun hHeld => ?_)
          clear hK K
          refine norm_ (a':=?_) ?_ ?_
          rotate_left
          ·show Act.put _ (some 27) _ = _
           simp only [Act.put,List.setIfInBounds_toArray,List.set_cons_zero,List.set_cons_succ,i64_w]
           rfl
          refine pure_ (i:=6) (N:=some 28) (v:=?_) (a':=?_) #[true,true,true,true,true,true,true,false,false,false,false,false,false,false,false,false,false,false,false,false,false,false,false,false,false] rfl rfl (any_of HT_.out q4_) (fun _ _ _ h => h) (Or.inl ⟨by rfl,?_⟩) ?_ ?_
          rotate_left
          ·intro w'
           go_simp
           with_reducible rfl
          rotate_left
          ·simp only [Act.put,List.setIfInBounds_toArray,List.set_cons_zero,List.set_cons_succ,i64_w]
           rfl
          refine pure_ (i:=7) (N:=some 29) (v:=?_) (a':=?_) #[true,true,true,true,true,true,true,true,false,false,false,false,false,false,false,false,false,false,false,false,false,false,false,false,false] rfl rfl (any_of HT_.out q4_) (fun _ _ _ h => h) (Or.inl ⟨by rfl,?_⟩) ?_ ?_
          rotate_left
          ·intro w'
           go_simp
           with_reducible rfl
          rotate_left
          ·simp only [Act.put,List.setIfInBounds_toArray,List.set_cons_zero,List.set_cons_succ,i64_w]
           rfl
          refine pure_ (i:=8) (N:=some 30) (v:=?_) (a':=?_) #[true,true,true,true,true,true,true,true,true,false,false,false,false,false,false,false,false,false,false,false,false,false,false,false,false] rfl rfl (any_of HT_.out q4_) (fun _ _ _ h => h) (Or.inl ⟨by rfl,?_⟩) ?_ ?_
          rotate_left
          ·intro w'
           go_simp
           with_reducible rfl
          rotate_left
          ·simp only [Act.put,List.setIfInBounds_toArray,List.set_cons_zero,List.set_cons_succ,i64_w]
           rfl
          refine pure_ (i:=9) (N:=some 31) (v:=?_) (a':=?_) #[true,true,true,true,true,true,true,true,true,true,false,false,false,false,false,false,false,false,false,false,false,false,false,false,false] rfl rfl (any_of HT_.out q4_) (fun _ _ _ h => h) (Or.inl ⟨by rfl,?_⟩) ?_ ?_
          rotate_left
          ·intro w'
           go_simp
           with_reducible rfl
          rotate_left
          ·simp only [Act.put,List.setIfInBounds_toArray,List.set_cons_zero,List.set_cons_succ,i64_w]
           rfl
          refine pure_ (i:=10) (N:=some 32) (v:=?_) (a':=?_) #[true,true,true,true,true,true,true,true,true,true,true,false,false,false,false,false,false,false,false,false,false,false,false,false,false] rfl rfl (any_of HT_.out q4_) (fun _ _ _ h => h) (Or.inl ⟨by rfl,?_⟩) ?_ ?_
          rotate_left
          ·intro w'
           go_simp
           with_reducible rfl
          rotate_left
          ·simp only [Act.put,List.setIfInBounds_toArray,List.set_cons_zero,List.set_cons_succ,i64_w]
           rfl
          refine take_ (i:=11) (N:=some 33) (v:=?_) (a':=?_) #[true,true,true,true,true,true,true,true,true,true,true,true,false,false,false,false,false,false,false,false,false,false,false,false,false] rfl rfl (take_ofW HT_.out HW_.out q4_) (fun _ _ _ h => h) (Or.inl ⟨by rfl,?_⟩) hHeld ?_ ?_
          rotate_left
          ·rintro w' ⟨s0,s1,s2,s3,s4,s5,s6,s7,s8,s9,s10,s11,s12,s13,s14,s15,s16,s17⟩
           go_simp
           with_reducible rfl
          rotate_left
          ·simp only [Act.put,List.setIfInBounds_toArray,List.set_cons_zero,List.set_cons_succ,i64_w]
           rfl
          refine one_ (i:=12) (N:=some 34) #[true,true,true,true,true,true,true,true,true,true,true,true,true,false,false,false,false,false,false,false,false,false,false,false,false] rfl rfl (one_of HT_.out q4_) q34_ (fun K hK => ?_)
          refine goes_ Tryz.func35 q4_ rfl #[.agg #[.string ((rd_T41 t103 x5_1).f0),.int .i64 ((rd_T41 t103 x5_1).f1.f0),.int .i64 ((rd_T41 t103 x5_1).f1.f1),.int .i64 ((rd_T41 t103 x5_1).f1.f2),.string ((rd_T41 t103 x5_1).f1.f3),.string ((rd_T41 t103 x5_1).f1.f4)]] q42_ rfl rfl q2_ ?_
          with_reducible refine (Rf17_May.calls k1 ((rd_T41 t103 x5_1).f0) ((rd_T41 t103 x5_1).f1.f0) ((rd_T41 t103 x5_1).f1.f1) ((rd_T41 t103 x5_1).f1.f2) ((rd_T41 t103 x5_1).f1.f3) ((rd_T41 t103 x5_1).f1.f4) true _ A13.out).mono ?_
          rintro e w28 ⟨rfl,hb⟩
          have HS0_:=(hb.cell (World.block_lt_of_cell? _ _ (hHeld.1))).trans (hHeld.1)
          have HS1_:=(hb.cell (World.block_lt_of_cell? _ _ (hHeld.2.1))).trans (hHeld.2.1)
          have HS2_:=(hb.cell (World.block_lt_of_cell? _ _ (hHeld.2.2.1))).trans (hHeld.2.2.1)
          have HS3_:=(hb.cell (World.block_lt_of_cell? _ _ (hHeld.2.2.2.1))).trans (hHeld.2.2.2.1)
          have HS4_:=(hb.cell (World.block_lt_of_cell? _ _ (hHeld.2.2.2.2.1))).trans (hHeld.2.2.2.2.1)
          have HS5_:=(hb.cell (World.block_lt_of_cell? _ _ (hHeld.2.2.2.2.2.1))).trans (hHeld.2.2.2.2.2.1)
          have HS6_:=(hb.cell (World.block_lt_of_cell? _ _ (hHeld.2.2.2.2.2.2.1))).trans (hHeld.2.2.2.2.2.2.1)
          have HS7_:=(hb.cell (World.block_lt_of_cell? _ _ (hHeld.2.2.2.2.2.2.2.1))).trans (hHeld.2.2.2.2.2.2.2.1)
          have HS8_:=(hb.cell (World.block_lt_of_cell? _ _ (hHeld.2.2.2.2.2.2.2.2.1))).trans (hHeld.2.2.2.2.2.2.2.2.1)
          have HS9_:=(hb.cell (World.block_lt_of_cell? _ _ (hHeld.2.2.2.2.2.2.2.2.2.1))).trans (hHeld.2.2.2.2.2.2.2.2.2.1)
          have HS10_:=(hb.cell (World.block_lt_of_cell? _ _ (hHeld.2.2.2.2.2.2.2.2.2.2.1))).trans (hHeld.2.2.2.2.2.2.2.2.2.2.1)
          have HS11_:=(hb.cell (World.block_lt_of_cell? _ _ (hHeld.2.2.2.2.2.2.2.2.2.2.2.1))).trans (hHeld.2.2.2.2.2.2.2.2.2.2.2.1)
          have HS12_:=(hb.cell (World.block_lt_of_cell? _ _ (hHeld.2.2.2.2.2.2.2.2.2.2.2.2.1))).trans (hHeld.2.2.2.2.2.2.2.2.2.2.2.2.1)
          have HS13_:=(hb.cell (World.block_lt_of_cell? _ _ (hHeld.2.2.2.2.2.2.2.2.2.2.2.2.2.1))).trans (hHeld.2.2.2.2.2.2.2.2.2.2.2.2.2.1)
          have HS14_:=(hb.cell (World.block_lt_of_cell? _ _ (hHeld.2.2.2.2.2.2.2.2.2.2.2.2.2.2.1))).trans (hHeld.2.2.2.2.2.2.2.2.2.2.2.2.2.2.1)
          have HS15_:=(hb.cell (World.block_lt_of_cell? _ _ (hHeld.2.2.2.2.2.2.2.2.2.2.2.2.2.2.2.1))).trans (hHeld.2.2.2.2.2.2.2.2.2.2.2.2.2.2.2.1)
          have HS16_:=(hb.cell (World.block_lt_of_cell? _ _ (hHeld.2.2.2.2.2.2.2.2.2.2.2.2.2.2.2.2.1))).trans (hHeld.2.2.2.2.2.2.2.2.2.2.2.2.2.2.2.2.1)
          have HS17_:=(hb.cell (World.block_lt_of_cell? _ _ (hHeld.2.2.2.2.2.2.2.2.2.2.2.2.2.2.2.2.2))).trans (hHeld.2.2.2.2.2.2.2.2.2.2.2.2.2.2.2.2.2)
          refine ⟨_,rfl,?_⟩
          replace HO_3:=Aside0.mk (Kd.R_below q19_ hb)
          replace HO_4:=Aside0.mk (Kd.R_below q24_ hb)
          replace HB:=Aside0.mk (below_step bh_ hb)
          (try clear hb)
          (try clear hb2)
          (try clear hk)
          (try clear hi)
          have q29 : (x5_1 : Int) ≤ ((t103.length : Int) : Int):=of_decide_eq_true q1_
          obtain ⟨i029,hi029,_,hsz29,_⟩:=info_parts info41
          have hroom29 : t103.length ≤ co25:=(Kd.R_reads' HO_3.out).2.1
          have hC29 : Kd.C k41 _ (some ad109) t103.length t103:=(Kd.R_reads' HO_3.out).2.2
          have hcut29:=cut_to (P:=Tryz.prog) 38 41 .i64 Tryz.underlying38 hi029 (some ad109) t103.length co25 x5_1 (of_decide_eq_true q1_) q29 hroom29
          have hr29:=Kd.C_take (m:=(x5_1 : Int).toNat) hC29 q7_
          have hy29 : y113.length = (x5_1 : Int).toNat:=(by rw [Ny113.out,List.length_take];omega)
          rw [← Ny113.out] at hr29
          rw [← hy29] at hcut29
          have HR116:=Aside0.mk hr29
          have HC116:=Aside0.mk (show y113.length ≤ co25 from by omega)
          clear hr29 hC29 hroom29 hi029 hsz29
          have KY29:=Aside0.mk hy29
          clear hy29
          have KL29:=Aside0.mk (show (x5_1 : Int).toNat ≤ t103.length from by omega)
          replace q29:=eq_true q29
          refine hK.out _ _ ⟨HS0_,HS1_,HS2_,HS3_,HS4_,HS5_,HS6_,HS7_,HS8_,HS9_,HS10_,HS11_,HS12_,HS13_,HS14_,HS15_,HS16_,HS17_⟩ (fun hHeld => ?_)
          clear hK K
          refine norm_ (a':=?_) ?_ ?_
          rotate_left
          ·show Act.put _ (some 34) _ = _
           simp only [Act.put,List.setIfInBounds_toArray,List.set_cons_zero,List.set_cons_succ,i64_w]
           rfl
          refine pure_ (i:=13) (N:=some 35) (v:=?_) (a':=?_) #[true,true,true,true,true,true,true,true,true,true,true,true,true,true,false,false,false,false,false,false,false,false,false,false,false] rfl rfl (any_of HT_.out q4_) (fun _ _ _ h => h) (Or.inl ⟨by rfl,?_⟩) ?_ ?_
          rotate_left
          ·intro w'
           go_simp
           with_reducible rfl
          rotate_left
          ·simp only [Act.put,List.setIfInBounds_toArray,List.set_cons_zero,List.set_cons_succ,i64_w]
           rfl
          refine pure_ (i:=14) (N:=some 36) (v:=?_) (a':=?_) #[true,true,true,true,true,true,true,true,true,true,true,true,true,true,true,false,false,false,false,false,false,false,false,false,false] rfl rfl (any_of HT_.out q4_) (fun _ _ _ h => h) (Or.inl ⟨by rfl,?_⟩) ?_ ?_
          rotate_left
          ·intro w'
           go_simp
           with_reducible rfl
          rotate_left
          ·simp only [Act.put,List.setIfInBounds_toArray,List.set_cons_zero,List.set_cons_succ,i64_w]
           rfl
          refine pure_ (i:=15) (N:=some 37) (v:=?_) (a':=?_) #[true,true,true,true,true,true,true,true,true,true,true,true,true,true,true,true,false,false,false,false,false,false,false,false,false] rfl rfl (any_of HT_.out q4_) (fun _ _ _ h => h) (Or.inl ⟨by rfl,?_⟩) ?_ ?_
          rotate_left
          ·intro w'
           go_simp
           with_reducible rfl
          rotate_left
          ·simp only [Act.put,List.setIfInBounds_toArray,List.set_cons_zero,List.set_cons_succ,i64_w]
           rfl
          refine pure_ (i:=16) (N:=some 38) (v:=?_) (a':=?_) #[true,true,true,true,true,true,true,true,true,true,true,true,true,true,true,true,true,false,false,false,false,false,false,false,false] rfl rfl (any_of HT_.out q4_) (fun _ _ _ h => h) (Or.inl ⟨by rfl,?_⟩) ?_ ?_
          rotate_left
          ·intro w'
           go_simp
           with_reducible rfl
          rotate_left
          ·simp only [Act.put,List.setIfInBounds_toArray,List.set_cons_zero,List.set_cons_succ,i64_w]
           rfl
          refine pure_ (i:=17) (N:=some 39) (v:=?_) (a':=?_) #[true,true,true,true,true,true,true,true,true,true,true,true,true,true,true,true,true,true,false,false,false,false,false,false,false] rfl rfl (any_of HT_.out q4_) (fun _ _ _ h => h) (Or.inl ⟨by rfl,?_⟩) ?_ ?_
          rotate_left
          ·intro w'
           go_simp
           with_reducible rfl
          rotate_left
          ·simp only [Act.put,List.setIfInBounds_toArray,List.set_cons_zero,List.set_cons_succ,i64_w]
           rfl
          refine pure_ (i:=18) (N:=some 40) (v:=?_) (a':=?_) #[true,true,true,true,true,true,true,true,true,true,true,true,true,true,true,true,true,true,true,false,false,false,false,false,false] rfl rfl (any_of HT_.out q4_) (fun _ _ _ h => h) (Or.inl ⟨by rfl,?_⟩) ?_ ?_
          rotate_left
          ·intro w'
           go_simp
           with_reducible rfl
          rotate_left
          ·simp only [Act.put,List.setIfInBounds_toArray,List.set_cons_zero,List.set_cons_succ,i64_w]
           rfl
          refine pure_ (i:=19) (N:=some 41) (v:=?_) (a':=?_) #[true,true,true,true,true,true,true,true,true,true,true,true,true,true,true,true,true,true,true,true,false,false,false,false,false] rfl rfl (any_of HT_.out q4_) (fun _ _ _ h => h) (Or.inl ⟨by rfl,?_⟩) ?_ ?_
          rotate_left
          ·intro w'
           go_simp
           with_reducible rfl
          rotate_left
          ·simp only [Act.put,List.setIfInBounds_toArray,List.set_cons_zero,List.set_cons_succ,i64_w]
           rfl
          refine pure_ (i:=20) (N:=some 42) (v:=?_) (a':=?_) #[true,true,true,true,true,true,true,true,true,true,true,true,true,true,true,true,true,true,true,true,true,false,false,false,false] rfl rfl (any_of HT_.out q4_) (fun _ _ _ h => h) (Or.inl ⟨by rfl,?_⟩) ?_ ?_
          rotate_left
          ·intro w'
           go_simp
           with_reducible rfl
          rotate_left
          ·simp only [Act.put,List.setIfInBounds_toArray,List.set_cons_zero,List.set_cons_succ,i64_w]
           rfl
          refine pure_ (i:=21) (N:=some 43) (v:=?_) (a':=?_) #[true,true,true,true,true,true,true,true,true,true,true,true,true,true,true,true,true,true,true,true,true,true,false,false,false] rfl rfl (any_of HT_.out q4_) (fun _ _ _ h => h) (Or.inl ⟨by rfl,?_⟩) ?_ ?_
          rotate_left
          ·intro w'
           go_simp
           with_reducible rfl
          rotate_left
          ·simp only [Act.put,List.setIfInBounds_toArray,List.set_cons_zero,List.set_cons_succ,i64_w]
           rfl
          refine take_ (i:=22) (N:=some 44) (v:=?_) (a':=?_) #[true,true,true,true,true,true,true,true,true,true,true,true,true,true,true,true,true,true,true,true,true,true,true,false,false] rfl rfl (take_ofW HT_.out HW_.out q4_) (fun _ _ _ h => h) (Or.inl ⟨by rfl,?_⟩) hHeld ?_ ?_
          rotate_left
          ·rintro w' ⟨s0,s1,s2,s3,s4,s5,s6,s7,s8,s9,s10,s11,s12,s13,s14,s15,s16,s17⟩
           go_simp
           with_reducible rfl
          rotate_left
          ·simp only [Act.put,List.setIfInBounds_toArray,List.set_cons_zero,List.set_cons_succ,i64_w]
           rfl
          refine one_ (i:=23) (N:=some 45) #[true,true,true,true,true,true,true,true,true,true,true,true,true,true,true,true,true,true,true,true,true,true,true,true,false] rfl rfl (one_of HT_.out q4_) q34_ (fun K hK => ?_)
          refine goes_ Tryz.func33 q4_ rfl #[.slice (some ad109) y113.length co25,.agg #[.string ((rd_T41 t103 x5_1).f0),.int .i64 ((rd_T41 t103 x5_1).f1.f0),.int .i64 ((rd_T41 t103 x5_1).f1.f1),.int .i64 ((rd_T41 t103 x5_1).f1.f2),.string ((rd_T41 t103 x5_1).f1.f3),.string ((rd_T41 t103 x5_1).f1.f4)]] q42_ rfl rfl q2_ ?_
          with_reducible refine (Rf17_In.calls k1 _ _ y113 ((rd_T41 t103 x5_1).f0) ((rd_T41 t103 x5_1).f1.f0) ((rd_T41 t103 x5_1).f1.f1) ((rd_T41 t103 x5_1).f1.f2) ((rd_T41 t103 x5_1).f1.f3) ((rd_T41 t103 x5_1).f1.f4) false _ ?side1 ?side2 A17.out).mono ?_
          (case side1 => repeat (first | exact q44_ | (with_reducible refine Kd.C_alloc ?_ _) | (with_reducible refine Kd.C_drewN ?_ _) | (with_reducible refine Kd.C_drew ?_)))
          (case side2 => exact HC116.out)
          rintro e w30 ⟨rfl,hb⟩
          have HS0_:=(hb.cell (World.block_lt_of_cell? _ _ (hHeld.1))).trans (hHeld.1)
          have HS1_:=(hb.cell (World.block_lt_of_cell? _ _ (hHeld.2.1))).trans (hHeld.2.1)
          have HS2_:=(hb.cell (World.block_lt_of_cell? _ _ (hHeld.2.2.1))).trans (hHeld.2.2.1)
          have HS3_:=(hb.cell (World.block_lt_of_cell? _ _ (hHeld.2.2.2.1))).trans (hHeld.2.2.2.1)
          have HS4_:=(hb.cell (World.block_lt_of_cell? _ _ (hHeld.2.2.2.2.1))).trans (hHeld.2.2.2.2.1)
          have HS5_:=(hb.cell (World.block_lt_of_cell? _ _ (hHeld.2.2.2.2.2.1))).trans (hHeld.2.2.2.2.2.1)
          have HS6_:=(hb.cell (World.block_lt_of_cell? _ _ (hHeld.2.2.2.2.2.2.1))).trans (hHeld.2.2.2.2.2.2.1)
          have HS7_:=(hb.cell (World.block_lt_of_cell? _ _ (hHeld.2.2.2.2.2.2.2.1))).trans (hHeld.2.2.2.2.2.2.2.1)
          have HS8_:=(hb.cell (World.block_lt_of_cell? _ _ (hHeld.2.2.2.2.2.2.2.2.1))).trans (hHeld.2.2.2.2.2.2.2.2.1)
          have HS9_:=(hb.cell (World.block_lt_of_cell? _ _ (hHeld.2.2.2.2.2.2.2.2.2.1))).trans (hHeld.2.2.2.2.2.2.2.2.2.1)
          have HS10_:=(hb.cell (World.block_lt_of_cell? _ _ (hHeld.2.2.2.2.2.2.2.2.2.2.1))).trans (hHeld.2.2.2.2.2.2.2.2.2.2.1)
          have HS11_:=(hb.cell (World.block_lt_of_cell? _ _ (hHeld.2.2.2.2.2.2.2.2.2.2.2.1))).trans (hHeld.2.2.2.2.2.2.2.2.2.2.2.1)
          have HS12_:=(hb.cell (World.block_lt_of_cell? _ _ (hHeld.2.2.2.2.2.2.2.2.2.2.2.2.1))).trans (hHeld.2.2.2.2.2.2.2.2.2.2.2.2.1)
          have HS13_:=(hb.cell (World.block_lt_of_cell? _ _ (hHeld.2.2.2.2.2.2.2.2.2.2.2.2.2.1))).trans (hHeld.2.2.2.2.2.2.2.2.2.2.2.2.2.1)
          have HS14_:=(hb.cell (World.block_lt_of_cell? _ _ (hHeld.2.2.2.2.2.2.2.2.2.2.2.2.2.2.1))).trans (hHeld.2.2.2.2.2.2.2.2.2.2.2.2.2.2.1)
          have HS15_:=(hb.cell (World.block_lt_of_cell? _ _ (hHeld.2.2.2.2.2.2.2.2.2.2.2.2.2.2.2.1))).trans (hHeld.2.2.2.2.2.2.2.2.2.2.2.2.2.2.2.1)
          have HS16_:=(hb.cell (World.block_lt_of_cell? _ _ (hHeld.2.2.2.2.2.2.2.2.2.2.2.2.2.2.2.2.1))).trans (hHeld.2.2.2.2.2.2.2.2.2.2.2.2.2.2.2.2.1)
          have HS17_:=(hb.cell (World.block_lt_of_cell? _ _ (hHeld.2.2.2.2.2.2.2.2.2.2.2.2.2.2.2.2.2))).trans (hHeld.2.2.2.2.2.2.2.2.2.2.2.2.2.2.2.2.2)
          refine ⟨_,rfl,?_⟩
          replace HO_3:=Aside0.mk (Kd.R_below q19_ hb)
          replace HO_4:=Aside0.mk (Kd.R_below q24_ hb)
          replace HR116:=Aside0.mk (Kd.C_below q44_ hb)
          replace HB:=Aside0.mk (below_step bh_ hb)
          (try clear hb)
          (try clear hb2)
          (try clear hk)
          (try clear hi)
          refine hK.out _ _ ⟨HS0_,HS1_,HS2_,HS3_,HS4_,HS5_,HS6_,HS7_,HS8_,HS9_,HS10_,HS11_,HS12_,HS13_,HS14_,HS15_,HS16_,HS17_⟩ (fun hHeld => ?_)
          clear hK K
          refine norm_ (a':=?_) ?_ ?_
          rotate_left
          ·show Act.put _ (some 45) _ = _
           simp only [Act.put,List.setIfInBounds_toArray,List.set_cons_zero,List.set_cons_succ,i64_w]
           rfl
          refine pure_ (i:=24) (N:=some 46) (v:=?_) (a':=?_) #[true,true,true,true,true,true,true,true,true,true,true,true,true,true,true,true,true,true,true,true,true,true,true,true,true] rfl rfl (any_of HT_.out q4_) (fun _ _ _ h => h) (Or.inl ⟨by rfl,?_⟩) ?_ ?_
          rotate_left
          ·intro w'
           go_simp
           with_reducible rfl
          rotate_left
          ·simp only [Act.put,List.setIfInBounds_toArray,List.set_cons_zero,List.set_cons_succ,i64_w]
           rfl
          refine done_ (done_of HT_.out q4_) ?_
          try go_wp2
          go_roundg k1
          case measure => have:=HK1.out;omega
          case rel => exact ⟨(wrap64 (x5_1 + 1)),q3_,H',⟨by have:=HK1.out;omega⟩,⟨by (with_reducible repeat (first | apply Kd.R_alloc | apply Kd.R_drewN | apply Kd.R_drew));exact HO_3.out⟩,⟨by (with_reducible repeat (first | apply Kd.R_alloc | apply Kd.R_drewN | apply Kd.R_drew));exact HO_4.out⟩,⟨by repeat (first | (with_reducible first | exact HB.out | apply below_alloc | apply pw_below_drewN | apply below_drew1) | exact HB.out)⟩⟩
        ·rw [if_neg c16] at H
         exact absurd H q23_
       ·replace c14:=Bool.eq_false_iff.mpr c14
        subst c14
        rw [if_neg (show ¬ (false = true) by decide)] at H
        exact absurd ((Option.some.inj H).trans HR_.out) q23_
      ·replace c12:=Bool.eq_false_iff.mpr c12
       subst c12
       rw [if_neg (show ¬ (false = true) by decide)] at H
       exact absurd ((Option.some.inj H).trans HR_.out) q23_
     ·rw [if_neg c10] at H
      exact absurd H q23_
    ·rw [if_neg c9] at H
     have c9b0 : decide (x5_1 < (t103.length : Int)) = false:=decide_eq_false c9
     clear c9
     have H':=Aside0.mk H
     clear H
     obtain ⟨Ao38,co38,eo38⟩:=Kd.R_slice HO_3.out
     subst eo38
     go_wp2
     go_loopg [6] k1 (fun kq v6 w' => ∃ (x6_2 : Int),v6 = .int .i64 x6_2 ∧ Aside0 (Lw17_MvsAlone.l1 kq l0 t103 t106 x6_2 = some r) ∧ Aside0 (kq ≤ k1) ∧ Aside0 (Kd.R k41 41 w' w.heap.size (fun k_ => some k_ ≠ (v107 : Value).ownBlock) (.slice Ao38 t103.length co38) t103) ∧ Aside0 (Kd.R k41 41 w' w.heap.size (fun k_ => some k_ ≠ ((.slice Ao38 t103.length co38) : Value).ownBlock) v107 t106) ∧ Aside0 (Below w.heap.size w w'))
     case atStart => exact ⟨(0),q3_,H',⟨Nat.le_refl _⟩,⟨by (with_reducible repeat (first | apply Kd.R_alloc | apply Kd.R_drewN | apply Kd.R_drew));exact HO_3.out⟩,⟨by (with_reducible repeat (first | apply Kd.R_alloc | apply Kd.R_drewN | apply Kd.R_drew));exact HO_4.out⟩,⟨by repeat (first | (with_reducible first | exact HB.out | apply below_alloc | apply pw_below_drewN | apply below_drew1) | exact HB.out)⟩⟩
     case round =>
      clear H'
      try clear c1
      try clear p1
      try clear q1
      try clear hx1
      try clear p2
      try clear c3
      try clear p6
      try clear c9
      try clear c9b0
      try clear c10
      try clear p10
      try clear q10
      try clear hx10
      try clear p11
      try clear q11
      try clear hx11
      try clear c12
      try clear c14
      try clear c16
      try clear c33
      try clear c35
      try clear hx109_0
      try clear hx109_1
      try clear hx109_2
      try clear hx109_3
      try clear hx109_4
      try clear hx109_5
      try clear hx111_0
      try clear hx111_1
      try clear hx111_2
      try clear hx111_3
      try clear hx111_4
      try clear hx111_5
      try clear p109
      try clear p111
      try clear q109
      try clear q111
      obtain ⟨x6_2,rfl,HA,HK2,HO_3,HO_4,HB⟩:=hrel
      cases gk with
      | zero => exact absurd HA.out (by simp [Lw17_MvsAlone.l1])
      | succ k2 =>
       have H:=HA.out
       clear HA
       simp only [Lw17_MvsAlone.l1] at H
       by_cases c39 : x6_2 < (l0.length : Int)
       ·rw [if_pos c39] at H
        have c39b0 : decide (x6_2 < (l0.length : Int)) = true:=decide_eq_true c39
        clear c39
        by_cases c40 : 0 ≤ x6_2
        ·rw [if_pos c40] at H
         have c40b0 : decide (0 ≤ x6_2) = true:=decide_eq_true c40
         clear c40
         obtain ⟨t120,A410,H⟩:=Option.bind_eq_some_iff.mp H
         have A41:=Aside0.mk A410
         clear A410
         obtain ⟨t122,A420,H⟩:=Option.bind_eq_some_iff.mp H
         have A42:=Aside0.mk A420
         clear A420
         by_cases c43 : (t120 != t122) = true
         ·rw [if_pos c43] at H
          exact absurd ((Option.some.inj H).trans HR_.out) q23_
         ·rw [if_neg c43] at H
          have c43b0 : (t120 != t122) = false:=by simpa using c43
          (try (have c43b1 : decide (t120 = t122) = true:=by simpa using c43))
          (try (have c43b2 : (t120 == t122) = true:=by simpa using c43))
          clear c43
          have H':=Aside0.mk H
          clear H
          try go_wp2
          replace HO_3:=Aside0.mk (Kd.R_drew HO_3.out)
          replace HO_4:=Aside0.mk (Kd.R_drew HO_4.out)
          replace HB:=Aside0.mk (below_drew1 HB.out)
          have p119 : 0 ≤ (x6_2 : Int):=of_decide_eq_true q1_
          have q119 : x6_2 < (l0.length : Int):=of_decide_eq_true q1_
          obtain ⟨ad119,e119,hx119_0,hx119_1,hx119_2,hx119_3,hx119_4,hx119_5⟩:=at_T41 HR0.out x6_2 p119 q119
          have hw119_5:=hx119_5
          have hw119_4:=hx119_4
          have hw119_3:=hx119_3
          have hw119_2:=hx119_2
          have hw119_1:=hx119_1
          have hw119_0:=hx119_0
          cases e119
          replace hx119_0:=(HB.out.cell (World.block_lt_of_cell? w _ hx119_0)).trans hx119_0
          replace hx119_1:=(HB.out.cell (World.block_lt_of_cell? w _ hx119_1)).trans hx119_1
          replace hx119_2:=(HB.out.cell (World.block_lt_of_cell? w _ hx119_2)).trans hx119_2
          replace hx119_3:=(HB.out.cell (World.block_lt_of_cell? w _ hx119_3)).trans hx119_3
          replace hx119_4:=(HB.out.cell (World.block_lt_of_cell? w _ hx119_4)).trans hx119_4
          replace hx119_5:=(HB.out.cell (World.block_lt_of_cell? w _ hx119_5)).trans hx119_5
          replace p119:=eq_true p119
          replace q119:=eq_true q119
          have p121 : 0 ≤ (x6_2 : Int):=of_decide_eq_true q1_
          have q121 : x6_2 < (l0.length : Int):=of_decide_eq_true q1_
          obtain ⟨ad121,e121,hx121_0,hx121_1,hx121_2,hx121_3,hx121_4,hx121_5⟩:=at_T41 HR0.out x6_2 p121 q121
          have hw121_5:=hx121_5
          have hw121_4:=hx121_4
          have hw121_3:=hx121_3
          have hw121_2:=hx121_2
          have hw121_1:=hx121_1
          have hw121_0:=hx121_0
          obtain rfl : ad119 = ad121:=(by injection e121)
          replace hx121_0:=(HB.out.cell (World.block_lt_of_cell? w _ hx121_0)).trans hx121_0
          replace hx121_1:=(HB.out.cell (World.block_lt_of_cell? w _ hx121_1)).trans hx121_1
          replace hx121_2:=(HB.out.cell (World.block_lt_of_cell? w _ hx121_2)).trans hx121_2
          replace hx121_3:=(HB.out.cell (World.block_lt_of_cell? w _ hx121_3)).trans hx121_3
          replace hx121_4:=(HB.out.cell (World.block_lt_of_cell? w _ hx121_4)).trans hx121_4
          replace hx121_5:=(HB.out.cell (World.block_lt_of_cell? w _ hx121_5)).trans hx121_5
          replace p121:=eq_true p121
          replace q121:=eq_true q121
          refine start_ (n:=12) (S:=fun w' => w'.cell? (ad119.add ((x6_2).toNat * 6)) = some (.string ((rd_T41 l0 x6_2).f0)) ∧ w'.cell? ⟨(ad119.add ((x6_2).toNat * 6)).block,(ad119.add ((x6_2).toNat * 6)).off + 1,none⟩ = some (.int .i64 ((rd_T41 l0 x6_2).f1.f0)) ∧ w'.cell? ⟨(ad119.add ((x6_2).toNat * 6)).block,(ad119.add ((x6_2).toNat * 6)).off + 2,none⟩ = some (.int .i64 ((rd_T41 l0 x6_2).f1.f1)) ∧ w'.cell? ⟨(ad119.add ((x6_2).toNat * 6)).block,(ad119.add ((x6_2).toNat * 6)).off + 3,none⟩ = some (.int .i64 ((rd_T41 l0 x6_2).f1.f2)) ∧ w'.cell? ⟨(ad119.add ((x6_2).toNat * 6)).block,(ad119.add ((x6_2).toNat * 6)).off + 4,none⟩ = some (.string ((rd_T41 l0 x6_2).f1.f3)) ∧ w'.cell? ⟨(ad119.add ((x6_2).toNat * 6)).block,(ad119.add ((x6_2).toNat * 6)).off + 5,none⟩ = some (.string ((rd_T41 l0 x6_2).f1.f4)) ∧ w'.cell? (ad119.add ((x6_2).toNat * 6)) = some (.string ((rd_T41 l0 x6_2).f0)) ∧ w'.cell? ⟨(ad119.add ((x6_2).toNat * 6)).block,(ad119.add ((x6_2).toNat * 6)).off + 1,none⟩ = some (.int .i64 ((rd_T41 l0 x6_2).f1.f0)) ∧ w'.cell? ⟨(ad119.add ((x6_2).toNat * 6)).block,(ad119.add ((x6_2).toNat * 6)).off + 2,none⟩ = some (.int .i64 ((rd_T41 l0 x6_2).f1.f1)) ∧ w'.cell? ⟨(ad119.add ((x6_2).toNat * 6)).block,(ad119.add ((x6_2).toNat * 6)).off + 3,none⟩ = some (.int .i64 ((rd_T41 l0 x6_2).f1.f2)) ∧ w'.cell? ⟨(ad119.add ((x6_2).toNat * 6)).block,(ad119.add ((x6_2).toNat * 6)).off + 4,none⟩ = some (.string ((rd_T41 l0 x6_2).f1.f3)) ∧ w'.cell? ⟨(ad119.add ((x6_2).toNat * 6)).block,(ad119.add ((x6_2).toNat * 6)).off + 5,none⟩ = some (.string ((rd_T41 l0 x6_2).f1.f4))) (ds:=[]) #[false,false,false,false,false,false,false,false,false,false,false,false] q4_ rfl rfl ⟨((HB.out.cell (World.block_lt_of_cell? w _ hw119_0)).trans hw119_0),((HB.out.cell (World.block_lt_of_cell? w _ hw119_1)).trans hw119_1),((HB.out.cell (World.block_lt_of_cell? w _ hw119_2)).trans hw119_2),((HB.out.cell (World.block_lt_of_cell? w _ hw119_3)).trans hw119_3),((HB.out.cell (World.block_lt_of_cell? w _ hw119_4)).trans hw119_4),((HB.out.cell (World.block_lt_of_cell? w _ hw119_5)).trans hw119_5),((HB.out.cell (World.block_lt_of_cell? w _ hw121_0)).trans hw121_0),((HB.out.cell (World.block_lt_of_cell? w _ hw121_1)).trans hw121_1),((HB.out.cell (World.block_lt_of_cell? w _ hw121_2)).trans hw121_2),((HB.out.cell (World.block_lt_of_cell? w _ hw121_3)).trans hw121_3),((HB.out.cell (World.block_lt_of_cell? w _ hw121_4)).trans hw121_4),((HB.out.cell (World.block_lt_of_cell? w _ hw121_5)).trans hw121_5)⟩ (fun hHeld => ?_);refine with_tabW Lw17_MvsAlone.tab13 Lw17_MvsAlone.bits13 (fun HT_ HW_ => ?_)
          generalize wr.drew = w47 at HO_3 HO_4 HB hx119_0 hx119_1 hx119_2 hx119_3 hx119_4 hx119_5 hx121_0 hx121_1 hx121_2 hx121_3 hx121_4 hx121_5 hHeld ⊢
          refine pure_ (i:=0) (N:=some 53) (v:=?_) (a':=?_) #[true,false,false,false,false,false,false,false,false,false,false,false] rfl rfl (any_of HT_.out q4_) (fun _ _ _ h => h) (Or.inl ⟨by rfl,?_⟩) ?_ ?_
          rotate_left
          ·intro w'
           go_simp
           with_reducible rfl
          rotate_left
          ·simp only [Act.put,List.setIfInBounds_toArray,List.set_cons_zero,List.set_cons_succ,i64_w]
           rfl
          refine pure_ (i:=1) (N:=some 54) (v:=?_) (a':=?_) #[true,true,false,false,false,false,false,false,false,false,false,false] rfl rfl (any_of HT_.out q4_) (fun _ _ _ h => h) (Or.inl ⟨by rfl,?_⟩) ?_ ?_
          rotate_left
          ·intro w'
           go_simp
           with_reducible rfl
          rotate_left
          ·simp only [Act.put,List.setIfInBounds_toArray,List.set_cons_zero,List.set_cons_succ,i64_w]
           rfl
          refine pure_ (i:=2) (N:=some 55) (v:=?_) (a':=?_) #[true,true,true,false,false,false,false,false,false,false,false,false] rfl rfl (any_of HT_.out q4_) (fun _ _ _ h => h) (Or.inl ⟨by rfl,?_⟩) ?_ ?_
          rotate_left
          ·intro w'
           go_simp
           with_reducible rfl
          rotate_left
          ·simp only [Act.put,List.setIfInBounds_toArray,List.set_cons_zero,List.set_cons_succ,i64_w]
           rfl
          refine pure_ (i:=5) (N:=some 58) (v:=?_) (a':=?_) #[true,true,true,false,false,true,false,false,false,false,false,false] rfl rfl (any_of HT_.out q4_) (fun _ _ _ h => h) (Or.inl ⟨by rfl,?_⟩) ?_ ?_
          rotate_left
          ·intro w'
           go_simp
           with_reducible rfl
          rotate_left
          ·simp only [Act.put,List.setIfInBounds_toArray,List.set_cons_zero,List.set_cons_succ,i64_w]
           rfl
          refine pure_ (i:=6) (N:=some 59) (v:=?_) (a':=?_) #[true,true,true,false,false,true,true,false,false,false,false,false] rfl rfl (any_of HT_.out q4_) (fun _ _ _ h => h) (Or.inl ⟨by rfl,?_⟩) ?_ ?_
          rotate_left
          ·intro w'
           go_simp
           with_reducible rfl
          rotate_left
          ·simp only [Act.put,List.setIfInBounds_toArray,List.set_cons_zero,List.set_cons_succ,i64_w]
           rfl
          refine pure_ (i:=7) (N:=some 60) (v:=?_) (a':=?_) #[true,true,true,false,false,true,true,true,false,false,false,false] rfl rfl (any_of HT_.out q4_) (fun _ _ _ h => h) (Or.inl ⟨by rfl,?_⟩) ?_ ?_
          rotate_left
          ·intro w'
           go_simp
           with_reducible rfl
          rotate_left
          ·simp only [Act.put,List.setIfInBounds_toArray,List.set_cons_zero,List.set_cons_succ,i64_w]
           rfl
          refine pure_ (i:=8) (N:=some 61) (v:=?_) (a':=?_) #[true,true,true,false,false,true,true,true,true,false,false,false] rfl rfl (any_of HT_.out q4_) (fun _ _ _ h => h) (Or.inl ⟨by rfl,?_⟩) ?_ ?_
          rotate_left
          ·intro w'
           go_simp
           with_reducible rfl
          rotate_left
          ·simp only [Act.put,List.setIfInBounds_toArray,List.set_cons_zero,List.set_cons_succ,i64_w]
           rfl
          refine take_ (i:=3) (N:=some 56) (v:=?_) (a':=?_) #[true,true,true,true,false,true,true,true,true,false,false,false] rfl rfl (take_ofW HT_.out HW_.out q4_) (fun _ _ _ h => h) (Or.inl ⟨by rfl,?_⟩) hHeld ?_ ?_
          rotate_left
          ·rintro w' ⟨s0,s1,s2,s3,s4,s5,s6,s7,s8,s9,s10,s11⟩
           go_simp
           with_reducible rfl
          rotate_left
          ·simp only [Act.put,List.setIfInBounds_toArray,List.set_cons_zero,List.set_cons_succ,i64_w]
           rfl
          refine take_ (i:=9) (N:=some 62) (v:=?_) (a':=?_) #[true,true,true,true,false,true,true,true,true,true,false,false] rfl rfl (take_ofW HT_.out HW_.out q4_) (fun _ _ _ h => h) (Or.inl ⟨by rfl,?_⟩) hHeld ?_ ?_
          rotate_left
          ·rintro w' ⟨s0,s1,s2,s3,s4,s5,s6,s7,s8,s9,s10,s11⟩
           go_simp
           with_reducible rfl
          rotate_left
          ·simp only [Act.put,List.setIfInBounds_toArray,List.set_cons_zero,List.set_cons_succ,i64_w]
           rfl
          refine one_ (i:=4) (N:=some 57) #[true,true,true,true,true,true,true,true,true,true,false,false] rfl rfl (one_of HT_.out q4_) q34_ (fun K hK => ?_)
          refine goes_ Tryz.func35 q4_ rfl #[.agg #[.string ((rd_T41 l0 x6_2).f0),.int .i64 ((rd_T41 l0 x6_2).f1.f0),.int .i64 ((rd_T41 l0 x6_2).f1.f1),.int .i64 ((rd_T41 l0 x6_2).f1.f2),.string ((rd_T41 l0 x6_2).f1.f3),.string ((rd_T41 l0 x6_2).f1.f4)]] q42_ rfl rfl q2_ ?_
          with_reducible refine (Rf17_May.calls k2 ((rd_T41 l0 x6_2).f0) ((rd_T41 l0 x6_2).f1.f0) ((rd_T41 l0 x6_2).f1.f1) ((rd_T41 l0 x6_2).f1.f2) ((rd_T41 l0 x6_2).f1.f3) ((rd_T41 l0 x6_2).f1.f4) t120 _ A41.out).mono ?_
          rintro e w48 ⟨rfl,hb⟩
          refine ⟨_,rfl,?_⟩
          replace HO_3:=Aside0.mk (Kd.R_below q19_ hb)
          replace HO_4:=Aside0.mk (Kd.R_below q24_ hb)
          replace HB:=Aside0.mk (below_step bh_ hb)
          (try clear hb)
          (try clear hb2)
          (try clear hk)
          (try clear hi)
          refine hK.out _ _ ⟨((HB.out.cell (World.block_lt_of_cell? w _ hw119_0)).trans hw119_0),((HB.out.cell (World.block_lt_of_cell? w _ hw119_1)).trans hw119_1),((HB.out.cell (World.block_lt_of_cell? w _ hw119_2)).trans hw119_2),((HB.out.cell (World.block_lt_of_cell? w _ hw119_3)).trans hw119_3),((HB.out.cell (World.block_lt_of_cell? w _ hw119_4)).trans hw119_4),((HB.out.cell (World.block_lt_of_cell? w _ hw119_5)).trans hw119_5),((HB.out.cell (World.block_lt_of_cell? w _ hw121_0)).trans hw121_0),((HB.out.cell (World.block_lt_of_cell? w _ hw121_1)).trans hw121_1),((HB.out.cell (World.block_lt_of_cell? w _ hw121_2)).trans hw121_2),((HB.out.cell (World.block_lt_of_cell? w _ hw121_3)).trans hw121_3),((HB.out.cell (World.block_lt_of_cell? w _ hw121_4)).trans hw121_4),((HB.out.cell (World.block_lt_of_cell? w _ hw121_5)).trans hw121_5)⟩ (fun hHeld => ?_)
          clear hK K
          refine norm_ (a':=?_) ?_ ?_
          rotate_left
          ·show Act.put _ (some 57) _ = _
           simp only [Act.put,List.setIfInBounds_toArray,List.set_cons_zero,List.set_cons_succ,i64_w]
           rfl
          refine one_ (i:=10) (N:=some 63) #[true,true,true,true,true,true,true,true,true,true,true,false] rfl rfl (one_of HT_.out q4_) q34_ (fun K hK => ?_)
          refine goes_ Tryz.func33 q4_ rfl #[.slice Ao38 t103.length co38,.agg #[.string ((rd_T41 l0 x6_2).f0),.int .i64 ((rd_T41 l0 x6_2).f1.f0),.int .i64 ((rd_T41 l0 x6_2).f1.f1),.int .i64 ((rd_T41 l0 x6_2).f1.f2),.string ((rd_T41 l0 x6_2).f1.f3),.string ((rd_T41 l0 x6_2).f1.f4)]] q42_ rfl rfl q2_ ?_
          with_reducible refine (Rf17_In.calls k2 _ _ t103 ((rd_T41 l0 x6_2).f0) ((rd_T41 l0 x6_2).f1.f0) ((rd_T41 l0 x6_2).f1.f1) ((rd_T41 l0 x6_2).f1.f2) ((rd_T41 l0 x6_2).f1.f3) ((rd_T41 l0 x6_2).f1.f4) t122 _ ?side1 ?side2 A42.out).mono ?_
          (case side1 => repeat (first | exact (Kd.R_reads' HO_3.out).2.2 | (with_reducible refine Kd.C_alloc ?_ _) | (with_reducible refine Kd.C_drewN ?_ _) | (with_reducible refine Kd.C_drew ?_)))
          (case side2 => exact (Kd.R_reads' HO_3.out).2.1)
          rintro e w49 ⟨rfl,hb⟩
          refine ⟨_,rfl,?_⟩
          replace HO_3:=Aside0.mk (Kd.R_below q19_ hb)
          replace HO_4:=Aside0.mk (Kd.R_below q24_ hb)
          replace HB:=Aside0.mk (below_step bh_ hb)
          (try clear hb)
          (try clear hb2)
          (try clear hk)
          (try clear hi)
          refine hK.out _ _ ⟨((HB.out.cell (World.block_lt_of_cell? w _ hw119_0)).trans hw119_0),((HB.out.cell (World.block_lt_of_cell? w _ hw119_1)).trans hw119_1),((HB.out.cell (World.block_lt_of_cell? w _ hw119_2)).trans hw119_2),((HB.out.cell (World.block_lt_of_cell? w _ hw119_3)).trans hw119_3),((HB.out.cell (World.block_lt_of_cell? w _ hw119_4)).trans hw119_4),((HB.out.cell (World.block_lt_of_cell? w _ hw119_5)).trans hw119_5),((HB.out.cell (World.block_lt_of_cell? w _ hw121_0)).trans hw121_0),((HB.out.cell (World.block_lt_of_cell? w _ hw121_1)).trans hw121_1),((HB.out.cell (World.block_lt_of_cell? w _ hw121_2)).trans hw121_2),((HB.out.cell (World.block_lt_of_cell? w _ hw121_3)).trans hw121_3),((HB.out.cell (World.block_lt_of_cell? w _ hw121_4)).trans hw121_4),((HB.out.cell (World.block_lt_of_cell? w _ hw121_5)).trans hw121_5)⟩ (fun hHeld => ?_)
          clear hK K
          refine norm_ (a':=?_) ?_ ?_
          rotate_left
          ·show Act.put _ (some 63) _ = _
           simp only [Act.put,List.setIfInBounds_toArray,List.set_cons_zero,List.set_cons_succ,i64_w]
           rfl
          refine pure_ (i:=11) (N:=some 64) (v:=?_) (a':=?_) #[true,true,true,true,true,true,true,true,true,true,true,true] rfl rfl (any_of HT_.out q4_) (fun _ _ _ h => h) (Or.inl ⟨by rfl,?_⟩) ?_ ?_
          rotate_left
          ·intro w'
           go_simp
           with_reducible rfl
          rotate_left
          ·simp only [Act.put,List.setIfInBounds_toArray,List.set_cons_zero,List.set_cons_succ,i64_w]
           rfl
          refine done_ (done_of HT_.out q4_) ?_
          try go_wp2
          go_roundg k2
          case measure => have:=HK1.out;have:=HK2.out;omega
          case rel => exact ⟨(wrap64 (x6_2 + 1)),q3_,H',⟨by have:=HK1.out;have:=HK2.out;omega⟩,⟨by (with_reducible repeat (first | apply Kd.R_alloc | apply Kd.R_drewN | apply Kd.R_drew));exact HO_3.out⟩,⟨by (with_reducible repeat (first | apply Kd.R_alloc | apply Kd.R_drewN | apply Kd.R_drew));exact HO_4.out⟩,⟨by repeat (first | (with_reducible first | exact HB.out | apply below_alloc | apply pw_below_drewN | apply below_drew1) | exact HB.out)⟩⟩
        ·rw [if_neg c40] at H
         exact absurd H q23_
       ·rw [if_neg c39] at H
        have c39b0 : decide (x6_2 < (l0.length : Int)) = false:=decide_eq_false c39
        clear c39
        have H':=Aside0.mk H
        clear H
        go_wp2
        go_loopg [7] k2 (fun kq v7 w' => ∃ (x7_3 : Int),v7 = .int .i64 x7_3 ∧ Aside0 (Lw17_MvsAlone.l2 kq l0 t103 t106 x7_3 = some r) ∧ Aside0 (kq ≤ k2) ∧ Aside0 (Kd.R k41 41 w' w.heap.size (fun k_ => some k_ ≠ (v107 : Value).ownBlock) (.slice Ao38 t103.length co38) t103) ∧ Aside0 (Kd.R k41 41 w' w.heap.size (fun k_ => some k_ ≠ ((.slice Ao38 t103.length co38) : Value).ownBlock) v107 t106) ∧ Aside0 (Below w.heap.size w w'))
        case atStart => exact ⟨(0),q3_,H',⟨Nat.le_refl _⟩,⟨by (with_reducible repeat (first | apply Kd.R_alloc | apply Kd.R_drewN | apply Kd.R_drew));exact HO_3.out⟩,⟨by (with_reducible repeat (first | apply Kd.R_alloc | apply Kd.R_drewN | apply Kd.R_drew));exact HO_4.out⟩,⟨by repeat (first | (with_reducible first | exact HB.out | apply below_alloc | apply pw_below_drewN | apply below_drew1) | exact HB.out)⟩⟩
        case round =>
         clear H'
         try clear c1
         try clear p1
         try clear q1
         try clear hx1
         try clear p2
         try clear c3
         try clear c4
         try clear p6
         try clear c9
         try clear c9b0
         try clear c10
         try clear p10
         try clear q10
         try clear hx10
         try clear p11
         try clear q11
         try clear hx11
         try clear c12
         try clear p12
         try clear q12
         try clear hx12
         try clear c14
         try clear c16
         try clear c33
         try clear c35
         try clear c39
         try clear c39b0
         try clear c40
         try clear c40b0
         try clear c43
         try clear c43b0
         try clear c43b1
         try clear c43b2
         try clear hx109_0
         try clear hx109_1
         try clear hx109_2
         try clear hx109_3
         try clear hx109_4
         try clear hx109_5
         try clear hx111_0
         try clear hx111_1
         try clear hx111_2
         try clear hx111_3
         try clear hx111_4
         try clear hx111_5
         try clear hx119_0
         try clear hx119_1
         try clear hx119_2
         try clear hx119_3
         try clear hx119_4
         try clear hx119_5
         try clear hx121_0
         try clear hx121_1
         try clear hx121_2
         try clear hx121_3
         try clear hx121_4
         try clear hx121_5
         try clear p1
         try clear p10
         try clear p109
         try clear p11
         try clear p111
         try clear p119
         try clear p121
         try clear p2
         try clear p6
         try clear q1
         try clear q10
         try clear q109
         try clear q11
         try clear q111
         try clear q119
         try clear q121
         obtain ⟨x7_3,rfl,HA,HK3,HO_3,HO_4,HB⟩:=hrel
         cases gk with
         | zero => exact absurd HA.out (by simp [Lw17_MvsAlone.l2])
         | succ k3 =>
          have H:=HA.out
          clear HA
          simp only [Lw17_MvsAlone.l2] at H
          by_cases c50 : x7_3 < (t106.length : Int)
          ·rw [if_pos c50] at H
           have c50b0 : decide (x7_3 < (t106.length : Int)) = true:=decide_eq_true c50
           clear c50
           by_cases c51 : 0 ≤ x7_3
           ·rw [if_pos c51] at H
            have c51b0 : decide (0 ≤ x7_3) = true:=decide_eq_true c51
            clear c51
            obtain ⟨t124,A520,H⟩:=Option.bind_eq_some_iff.mp H
            have A52:=Aside0.mk A520
            clear A520
            by_cases c53 : t124 = true
            ·subst c53
             rw [if_pos rfl] at H
             have H':=Aside0.mk H
             clear H
             obtain ⟨Ao54,co54,eo54⟩:=Kd.R_slice HO_4.out
             subst eo54
             have p123 : 0 ≤ (x7_3 : Int):=of_decide_eq_true q1_
             have q123 : x7_3 < (t106.length : Int):=of_decide_eq_true q1_
             obtain ⟨ad123,e123,hx123_0,hx123_1,hx123_2,hx123_3,hx123_4,hx123_5⟩:=at_T41 (Kd.R_reads' HO_4.out).2.2 x7_3 p123 q123
             cases e123
             replace p123:=eq_true p123
             replace q123:=eq_true q123
             go_wp2_with (first | ((with_reducible refine gate_callee (f:=33) rfl ?_);refine goesL_ (some 76) rfl rfl Tryz.func33 q4_ rfl #[.slice A0 l0.length c0,.agg #[.string ((rd_T41 t106 x7_3).f0),.int .i64 ((rd_T41 t106 x7_3).f1.f0),.int .i64 ((rd_T41 t106 x7_3).f1.f1),.int .i64 ((rd_T41 t106 x7_3).f1.f2),.string ((rd_T41 t106 x7_3).f1.f3),.string ((rd_T41 t106 x7_3).f1.f4)]] rfl q2_ ?_;(with_reducible refine (Rf17_In.calls k3 _ _ l0 ((rd_T41 t106 x7_3).f0) ((rd_T41 t106 x7_3).f1.f0) ((rd_T41 t106 x7_3).f1.f1) ((rd_T41 t106 x7_3).f1.f2) ((rd_T41 t106 x7_3).f1.f3) ((rd_T41 t106 x7_3).f1.f4) true _ ?side1 ?side2 A52.out).mono ?_);(case side1 => repeat (first | exact (Kd.C_below HR0.out HB.out) | (with_reducible refine Kd.C_alloc ?_ _) | (with_reducible refine Kd.C_drewN ?_ _) | (with_reducible refine Kd.C_drew ?_)));(case side2 => exact HC0.out);rintro e w55 ⟨rfl,hb⟩;refine ⟨_,rfl,?_⟩;replace HO_3:=Aside0.mk (Kd.R_below q19_ hb);replace HO_4:=Aside0.mk (Kd.R_below q24_ hb);replace HB:=Aside0.mk (below_step bh_ hb);(try clear hb);(try clear hb2);(try clear hk);(try clear hi)))
             go_roundg k3
             case measure => have:=HK1.out;have:=HK2.out;have:=HK3.out;omega
             case rel => exact ⟨(wrap64 (x7_3 + 1)),q3_,H',⟨by have:=HK1.out;have:=HK2.out;have:=HK3.out;omega⟩,⟨by (with_reducible repeat (first | apply Kd.R_alloc | apply Kd.R_drewN | apply Kd.R_drew));exact HO_3.out⟩,⟨by (with_reducible repeat (first | apply Kd.R_alloc | apply Kd.R_drewN | apply Kd.R_drew));exact HO_4.out⟩,⟨by repeat (first | (with_reducible first | exact HB.out | apply below_alloc | apply pw_below_drewN | apply below_drew1) | exact HB.out)⟩⟩
            ·replace c53:=Bool.eq_false_iff.mpr c53
             subst c53
             rw [if_neg (show ¬ (false = true) by decide)] at H
             exact absurd ((Option.some.inj H).trans HR_.out) q23_
           ·rw [if_neg c51] at H
            exact absurd H q23_
          ·rw [if_neg c50] at H
           have c50b0 : decide (x7_3 < (t106.length : Int)) = false:=decide_eq_false c50
           clear c50
           by_cases c58 : (t106.length : Int) ≤ (t103.length : Int)
           ·rw [if_pos c58] at H
            have c58b0 : decide ((t106.length : Int) ≤ (t103.length : Int)) = true:=decide_eq_true c58
            have c58b1 : decide (t106.length ≤ t103.length) = true:=decide_eq_true (Int.ofNat_le.mp c58)
            clear c58
            obtain ⟨t125,A590,H⟩:=Option.bind_eq_some_iff.mp H
            have A59:=Aside0.mk A590
            clear A590
            obtain rfl:=Option.some.inj H
            obtain ⟨Ao60,co60,eo60⟩:=Kd.R_slice HO_4.out
            subst eo60
            go_wp2_with (first | (go_at_call 22;(with_reducible refine (Lw17_live.calls k3  t125 _ A59.out HR_.out ?sideG).mono ?_);(case sideG => first | exact HG.out | exact Env.below HG.out bh_);rintro e w61 ⟨rfl,hb⟩;replace HO_3:=Aside0.mk (Kd.R_below q19_ hb);replace HO_4:=Aside0.mk (Kd.R_below q24_ hb);replace HB:=Aside0.mk (below_step bh_ hb);(try clear hb);(try clear hb2);(try clear hk);(try clear hi)))
            go_ret
            exact ⟨by first | rfl | (simp [] <;> rfl) | (simp [*] <;> rfl) | (simp [bne_nil_];done) | (simp [*,bne_nil_];done),by repeat (first | (with_reducible first | exact HB.out | apply below_alloc | apply pw_below_drewN | apply below_drew1) | exact HB.out)⟩
           ·rw [if_neg c58] at H
            have c58b0 : decide ((t106.length : Int) ≤ (t103.length : Int)) = false:=decide_eq_false c58
            have c58b1 : decide (t106.length ≤ t103.length) = false:=decide_eq_false (fun h => c58 (Int.ofNat_le.mpr h))
            clear c58
            obtain rfl:=Option.some.inj H
            obtain ⟨Ao62,co62,eo62⟩:=Kd.R_slice HO_4.out
            subst eo62
            go_wp2
            go_ret
            exact ⟨by first | rfl | (simp [] <;> rfl) | (simp [*] <;> rfl) | (simp [bne_nil_];done) | (simp [*,bne_nil_];done),by repeat (first | (with_reducible first | exact HB.out | apply below_alloc | apply pw_below_drewN | apply below_drew1) | exact HB.out)⟩
 ·replace c3:=Bool.eq_false_iff.mpr c3
  subst c3
  rw [if_neg (show ¬ (false = true) by decide)] at H
  obtain ⟨t102,A630,H⟩:=Option.bind_eq_some_iff.mp H
  have A63:=Aside0.mk A630
  clear A630
  obtain rfl:=Option.some.inj H
  go_enter Tryz.func10,Tryz.ntmps10
  go_wp2_with (first | ((with_reducible refine gate_callee (f:=21) rfl ?_);refine goesL_ (some 9) rfl rfl Tryz.func21 q4_ rfl #[.slice A0 l0.length c0,.slice none 0 0] rfl q2_ ?_;(refine (Rf17_Small.calls k _ _ l0 _ _ ([] : List (S68)) false _ ?side1 ?side2 ?side3 ?side4 A2.out).mono ?_);(case side1 => repeat (first | exact HR0.out | (with_reducible refine Kd.C_alloc ?_ _) | (with_reducible refine Kd.C_drewN ?_ _) | (with_reducible refine Kd.C_drew ?_)));(case side2 => exact HC0.out);(case side3 => exact Kd.C_nil _ _);(case side4 => exact Nat.le_refl _);rintro e w64 ⟨rfl,hb⟩;refine ⟨_,rfl,?_⟩;replace HB:=Aside0.mk (below_step bh_ hb);(try clear hb);(try clear hb2);(try clear hk);(try clear hi)) | ((with_reducible refine gate_callee (f:=22) rfl ?_);refine goesL_ (some 11) rfl rfl Tryz.func22 q4_ rfl #[] rfl q2_ ?_;(with_reducible refine (Lw17_live.calls k  t102 _ A63.out HR_.out ?sideG).mono ?_);(case sideG => first | exact HG.out | exact Env.below HG.out bh_);rintro e w65 ⟨rfl,hb⟩;refine ⟨_,rfl,?_⟩;replace HB:=Aside0.mk (below_step bh_ hb);(try clear hb);(try clear hb2);(try clear hk);(try clear hi)))
  go_ret
  exact ⟨by first | rfl | (simp [] <;> rfl) | (simp [*] <;> rfl) | (simp [bne_nil_];done) | (simp [*,bne_nil_];done),by repeat (first | (with_reducible first | exact HB.out | apply below_alloc | apply pw_below_drewN | apply below_drew1) | exact HB.out)⟩
end Go.Proofs.YtennhpoemdaghaaGreatDoor.P
end
section
namespace Go.Proofs.YtennhpoemdaghaaGreatDoor.P
open Go Go.RowKit Go.Proofs.YtennhpoemdaghaaGreatDoorW.PrintWords
theorem list_nil (root : List Req) (h : root.length ≤ 1000000) : mvs_List.f root [] = some (sortP ((addL [] root).foldl takeL [])):=by
 have hl:=addL_length root []
 rw [List.length_nil,Nat.zero_add] at hl
 have hl2:=takes_length (addL [] root) []
 rw [List.length_nil,Nat.zero_add] at hl2
 unfold mvs_List.f
 rw [reached_nil root h,Option.bind_some,eachP_eq _ _ (addL_may root [] q23_),Option.bind_some,if_pos ⟨by omega,by omega⟩]
section
variable (root : List Req) (hr : root.length ≤ 12)
include hr
theorem alone2 (all x : List Req) (hx : ∀ r ∈ x,r ∈ root) (hxl : x.length ≤ all.length) (hal : all.length ≤ 12) : ∀ (d i k : Nat),i ≤ x.length → x.length - i = d → 2000 + d < k → Lw17_MvsAlone.l2 k root all x (i : Int) = some true:=by
 intro d
 induction d with
 | zero =>
  intro i k hi hd hk
  obtain ⟨k,rfl⟩ : ∃ m,k = m + 1:=⟨k - 1,by omega⟩
  rw [Lw17_MvsAlone.l2,if_neg q7_,if_pos q7_,live_f k q7_]
  rfl
 | succ d ih =>
  intro i k hi hd hk
  obtain ⟨k,rfl⟩ : ∃ m,k = m + 1:=⟨k - 1,by omega⟩
  have h : i < x.length:=by omega
  have hw : wrap64 ((i : Int) + 1) = ((i + 1 : Nat) : Int):=by unfold wrap64;omega
  rw [Lw17_MvsAlone.l2,if_pos q7_,if_pos q7_,rd_at x i h,in_f root x[i] q7_ k q7_,memR_iff.2 (hx _ (List.getElem_mem h)),Option.bind_some,if_pos rfl,hw]
  exact ih (i + 1) k q7_ q7_ q7_
theorem alone1 (all x : List Req) (ha : ∀ r,r ∈ all ↔ r ∈ root ∧ mayB r = true) (hx : ∀ r ∈ x,r ∈ root) (hxl : x.length ≤ all.length) (hal : all.length ≤ 12) : ∀ (d i k : Nat),i ≤ root.length → root.length - i = d → 2100 + d < k → Lw17_MvsAlone.l1 k root all x (i : Int) = some true:=by
 intro d
 induction d with
 | zero =>
  intro i k hi hd hk
  obtain ⟨k,rfl⟩ : ∃ m,k = m + 1:=⟨k - 1,by omega⟩
  rw [Lw17_MvsAlone.l1,if_neg q7_]
  exact alone2 root hr all x hx hxl hal x.length 0 k (Nat.zero_le _) rfl q7_
 | succ d ih =>
  intro i k hi hd hk
  obtain ⟨k,rfl⟩ : ∃ m,k = m + 1:=⟨k - 1,by omega⟩
  have h : i < root.length:=by omega
  have hw : wrap64 ((i : Int) + 1) = ((i + 1 : Nat) : Int):=by unfold wrap64;omega
  have he : mayB root[i] = memR all root[i]:=by
   rw [Bool.eq_iff_iff,memR_iff,ha]
   exact ⟨fun hm => ⟨List.getElem_mem h,hm⟩,fun hm => hm.2⟩
  rw [Lw17_MvsAlone.l1,if_pos q7_,if_pos q7_,rd_at root i h,refMay_eq root[i] k q7_,Option.bind_some,in_f all root[i] q7_ k q7_,Option.bind_some,he,if_neg q23_,hw]
  exact ih (i + 1) k q7_ q7_ q7_
theorem alone0 (all x : List Req) (ha : ∀ r,r ∈ all ↔ r ∈ root ∧ mayB r = true) (hn : all.Nodup) (hx : ∀ r ∈ x,r ∈ root) (hxl : x.length ≤ all.length) (hal : all.length ≤ 12) : ∀ (d i k : Nat),i ≤ all.length → all.length - i = d → 2200 + d < k → Lw17_MvsAlone.l0 k root all x (i : Int) = some true:=by
 intro d
 induction d with
 | zero =>
  intro i k hi hd hk
  obtain ⟨k,rfl⟩ : ∃ m,k = m + 1:=⟨k - 1,by omega⟩
  rw [Lw17_MvsAlone.l0,if_neg q7_]
  exact alone1 root hr all x ha hx hxl hal root.length 0 k (Nat.zero_le _) rfl q7_
 | succ d ih =>
  intro i k hi hd hk
  obtain ⟨k,rfl⟩ : ∃ m,k = m + 1:=⟨k - 1,by omega⟩
  have h : i < all.length:=by omega
  have hw : wrap64 ((i : Int) + 1) = ((i + 1 : Nat) : Int):=by unfold wrap64;omega
  have hm:=(ha _).1 (List.getElem_mem h)
  have hni : memR (all.take i) all[i] = false:=by
   cases hb : memR (all.take i) all[i]
   ·rfl
   ·have hmem:=memR_iff.1 hb
    obtain ⟨j,hj,he⟩:=List.mem_iff_getElem.1 hmem
    rw [List.length_take] at hj
    rw [List.getElem_take] at he
    exact absurd he ((List.pairwise_iff_getElem.1 hn) j i q7_ h q7_)
  rw [Lw17_MvsAlone.l0,if_pos q7_,if_pos q7_,rd_at all i h,in_f root all[i] q7_ k q7_,memR_iff.2 hm.1,Option.bind_some,if_pos rfl,refMay_eq all[i] k q7_,hm.2,Option.bind_some,if_pos rfl,if_pos q7_,Int.toNat_natCast,in_f (all.take i) all[i] q55_ k q55_,hni,Option.bind_some,if_neg q34_,hw]
  exact ih (i + 1) k q7_ q7_ q7_
end
theorem alone_f (root : List Req) (hr0 : root.length ≤ 9223372036854775807) : ∃ K,∀ k,K ≤ k → Lw17_MvsAlone.f k root = some true:=by
 obtain ⟨K,hK⟩:=small_f root [] hr0 q23_ q23_
 refine ⟨K + 3000,fun k hk => ?_⟩
 unfold Lw17_MvsAlone.f
 rw [hK k q7_,Option.bind_some]
 cases hs : smallB root [] with
 | false => rw [if_neg q34_,live_f k q7_];rfl
 | true =>
  have hr : root.length ≤ 12:=by
   unfold smallB fewB at hs
   simp only [Bool.and_eq_true] at hs
   exact of_decide_eq_true hs.2.1.2
  have ha : ∀ r,r ∈ addL [] root ↔ r ∈ root ∧ mayB r = true:=fun r => by rw [addL_mem];simp
  have hal:=addL_length root []
  rw [List.length_nil,Nat.zero_add] at hal
  have hxl:=takes_length (addL [] root) []
  rw [List.length_nil,Nat.zero_add] at hxl
  have hx : ∀ r ∈ sortP ((addL [] root).foldl takeL []),r ∈ root:=fun r hm => by
   rcases takes_mem _ _ ((sortP_perm _).mem_iff.1 hm) with h | h
   ·exact absurd h q23_
   ·exact ((ha r).1 h).1
  have hsl : (sortP ((addL [] root).foldl takeL [])).length = ((addL [] root).foldl takeL []).length:=(sortP_perm _).length_eq
  rw [if_pos rfl,reached_nil root q7_,Option.bind_some,list_nil root q7_,Option.bind_some]
  exact alone0 root hr _ _ ha (addL_nodup root [] List.nodup_nil) hx q7_ q7_ (addL [] root).length 0 k (Nat.zero_le _) rfl q7_
end Go.Proofs.YtennhpoemdaghaaGreatDoor.P
end
section
namespace Go.Proofs.YtennhpoemdaghaaGreatDoor.P
open Go Go.RowKit
set_option maxRecDepth 100000 in
theorem tab_of_laid {w : World} (h : laidMetH Tryz.prog Go.Proofs.YtennhpoemdaghaaGreatDoor.Rows.mvsAloneRow.laid w) : Lib.TabIs Tryz.prog w "internal/strconv.uint64pow10" .u64 Lib.pow10Tab:=by
 rw [MakeChecks.laidMetH_plain _ _ _ q4_] at h
 have h2:=h.filter (fun x => x.1 == "internal/strconv.uint64pow10")
 have e : (Go.Proofs.YtennhpoemdaghaaGreatDoor.Rows.mvsAloneRow.laid.filter fun x => x.1 == "internal/strconv.uint64pow10") = [("internal/strconv.uint64pow10", Lib.tabData .u64 Lib.pow10Tab)]:=by kernel_rfl
 rw [e] at h2
 exact Lib.tabIs_of_head (g:=5) (t:=225) (e:=157) (n:=20) q4_ q4_ q4_ q4_ q4_ q4_ h2
end Go.Proofs.YtennhpoemdaghaaGreatDoor.P
end
section
namespace Go.Proofs.YtennhpoemdaghaaGreatDoor.P
open Go Go.RowKit Go.Proofs.YtennhpoemdaghaaGreatDoorW.PrintWords
section
variable {H : Type} {enc : TypeId × Value → H} {w : World} {base : Nat} {spare : Nat → Bool} {held : Bool}
set_option maxRecDepth 100000 in
theorem trod_ver {fuel : Nat} {cs : List Value} {x : DataW H × List MemPlace} (h : DataW.trod enc Tryz.prog w base spare held fuel 24 cs = some x) :
  ∃ v : S24,cs = [.int .i64 v.f0,.int .i64 v.f1,.int .i64 v.f2,.string v.f3,.string v.f4]:=by
 obtain ⟨xs,n,_,_,hl,hlen,hf⟩:=DataW.trod_struct Tryz.underlying24 h
 have hc : Tryz.prog.cellsOf 24 = 5:=by kernel_rfl
 have hci : Tryz.prog.cellsOf 3 = 1:=by kernel_rfl
 have hcs : Tryz.prog.cellsOf 9 = 1:=by kernel_rfl
 rw [hc] at hl
 match cs,hl with
 | [c0,c1,c2,c3,c4],_ =>
  have g : ∀ i (hi : i < 5),∃ y,xs[i]? = some y:=fun i hi => ⟨xs[i]'(by rw [hlen];exact hi),List.getElem?_eq_getElem _⟩
  obtain ⟨y0,e0⟩:=g 0 q7_
  obtain ⟨y1,e1⟩:=g 1 q7_
  obtain ⟨y2,e2⟩:=g 2 q7_
  obtain ⟨y3,e3⟩:=g 3 q7_
  obtain ⟨y4,e4⟩:=g 4 q7_
  have h0:=hf 0 _ rfl
  have h1:=hf 1 _ rfl
  have h2:=hf 2 _ rfl
  have h3:=hf 3 _ rfl
  have h4:=hf 4 _ rfl
  simp only [e0,e1,e2,e3,e4] at h0 h1 h2 h3 h4
  obtain ⟨a,ha,_⟩:=DataW.trod_int Tryz.underlying3 h0
  obtain ⟨b,hb,_⟩:=DataW.trod_int Tryz.underlying3 h1
  obtain ⟨c,hc,_⟩:=DataW.trod_int Tryz.underlying3 h2
  obtain ⟨d,hd,_⟩:=DataW.trod_string Tryz.underlying9 h3
  obtain ⟨e,he,_⟩:=DataW.trod_string Tryz.underlying9 h4
  simp [hci,hcs] at ha hb hc hd he
  exact ⟨⟨a,b,c,d,e⟩,by rw [ha,hb,hc,hd,he]⟩
set_option maxRecDepth 100000 in
theorem trod_req {fuel : Nat} {cs : List Value} {x : DataW H × List MemPlace} (h : DataW.trod enc Tryz.prog w base spare held fuel 41 cs = some x) : ∃ r : Req,cs = encR r:=by
 obtain ⟨xs,n,_,_,hl,hlen,hf⟩:=DataW.trod_struct Tryz.underlying41 h
 have hc : Tryz.prog.cellsOf 41 = 6:=by kernel_rfl
 have hcv : Tryz.prog.cellsOf 24 = 5:=by kernel_rfl
 have hcs : Tryz.prog.cellsOf 9 = 1:=by kernel_rfl
 rw [hc] at hl
 match cs,hl with
 | [c0,c1,c2,c3,c4,c5],_ =>
  have g : ∀ i (hi : i < 2),∃ y,xs[i]? = some y:=fun i hi => ⟨xs[i]'(by rw [hlen];exact hi),List.getElem?_eq_getElem _⟩
  obtain ⟨y0,e0⟩:=g 0 q7_
  obtain ⟨y1,e1⟩:=g 1 q7_
  have h0:=hf 0 _ rfl
  have h1:=hf 1 _ rfl
  simp only [e0,e1] at h0 h1
  obtain ⟨p,hp,_⟩:=DataW.trod_string Tryz.underlying9 h0
  obtain ⟨v,hv⟩:=trod_ver h1
  simp [hcs,hcv] at hp hv
  obtain ⟨v0,v1,v2,v3,v4⟩:=hv
  exact ⟨⟨p,v⟩,by rw [hp,v0,v1,v2,v3,v4];rfl⟩
theorem open_reqs {fuel : Nat} {cs : List Value} {x : DataW H × List MemPlace} (h : DataW.trod enc Tryz.prog w base spare held fuel 38 cs = some x) :
  ∃ (A : Option Addr) (c : Nat) (l : List Req),cs = [.slice A l.length c] ∧ l.length ≤ c ∧ Kd.C k41 w A l.length l:=by
 have hc : Tryz.prog.cellsOf 41 = 6:=by kernel_rfl
 rcases Go.Deep.open_slice Tryz.underlying38 h with ⟨rfl,_⟩ | ⟨a,len,cap,m,n,D,Pl,rfl,hb,hl,hm,rfl,_,hel⟩
 ·exact ⟨none,0,[],rfl,Nat.le_refl _,Kd.C_nil _ _⟩
 ·have hlm : len ≤ (if spare a.block then cap else len):=by split <;> omega
  have hr : ∀ i,i < len → ∃ r : Req,w.cells? base (a.add (i * 6)) 6 = some (encR r):=fun i hi => by
   obtain ⟨cs',h1,h2⟩:=hel i q7_
   obtain ⟨r,rfl⟩:=trod_req h2
   rw [hc] at h1
   exact ⟨r,h1⟩
  refine ⟨some a,cap,(List.range len).map (fun i => if hi : i < len then (hr i hi).choose else default),by simp,by simpa using hl,?_⟩
  refine ⟨rfl,?_,fun _ => ⟨a,rfl,fun j p hp => ?_⟩⟩
  ·unfold maxLen at hm
   simp
   omega
  ·have hj : j < len:=by
    rcases Nat.lt_or_ge j len with h1 | h1
    ·exact h1
    ·rw [List.getElem?_eq_none (by simpa using h1)] at hp;exact absurd hp q23_
   have hpe : p = (hr j hj).choose:=by
    rw [List.getElem?_map,List.getElem?_range hj] at hp
    simp only [Option.map_some,dif_pos hj,Option.some.injEq] at hp
    exact hp.symm
   have hsp:=(hr j hj).choose_spec
   rw [← hpe] at hsp
   obtain ⟨_,hlen,hcell⟩:=World.cells?_some hsp
   refine ⟨encR p,rfl,k41_mk w p,fun i u hu => ?_⟩
   have hi : i < 6:=by
    rcases Nat.lt_or_ge i 6 with h1 | h1
    ·exact h1
    ·rw [List.getElem?_eq_none (show (encR p).length ≤ i from h1)] at hu;exact absurd hu q23_
   have:=hcell i hi
   rw [hu] at this
   rw [← this]
   show w.cell? (a.add (j * 6 + i)) = _
   rw [← add_add]
end
end Go.Proofs.YtennhpoemdaghaaGreatDoor.P
end
section
namespace Go
theorem returnsInHanded_and_shaped {a : Assume} {C : Checked} {os : Os} {f : FuncId} {fn : Func} {s : ChangeSpec} {conds : List PathCond} {apart fresh handsOn again : Bool} {H : Type} {enc : TypeId × Value → H} {X : World → Array Value → Prop}
  (hX : ∀ (w w' : World) (args : Array Value),w.heap = w'.heap → X w args → X w' args)
  (own : ownKnob C.prog.godebug = none) (started : os.Started) (noInit : C.prog.inits.idxOf? f = none) (hfn : C.prog.funcs[f]? = some fn)
  (witness : ∃ (w : World) (tape : Tape) (i : Input),w.os = os ∧ (w.forCall tape i).Shaped C.prog ∧ i.vars = [] ∧ Input.okWide C.prog (w.forCall tape i) .any w.heap.size f i ∧
   ((s.pre enc C.prog fn conds apart (w.forCall tape i).memory i.args ∧ X (w.forCall tape i).memory i.args) ∧ sizedMet enc C.prog fn (OpenSpec.ofChange s) apart (w.forCall tape i).memory i.args) ∧ a.holds C.prog (lone (Frame.enter C.prog f i.args .normal) [] (w.forCall tape i)))
  (contract : ∀ (W : World) (base : Nat) (args : Array Value) (ds gs : List (DataW H)) (before : List MemPlace),
   (∀ (j : Nat) t v,fn.params[j]? = some t → args[j]? = some v → Value.okWide C.prog W .any base t v) →
   DataW.Whole enc C.prog fn.params.toList s.vars apart W args.toList ds gs before →
   (DataW.weightsEach C.prog (fn.params.toList ++ s.plain.varTypes C.prog) (ds ++ gs)).all (· ≤ reachBytes) = true → X W args → W.ShapedOpen C.prog →
   Calls C.prog f args W fun e W' => ∃ v,e = .returned v ∧ s.post enc C.prog fn apart fresh handsOn again W args v W') :
  ReturnsInHanded a C os f .any (fun w args => (s.pre enc C.prog fn conds apart w args ∧ X w args) ∧ sizedMet enc C.prog fn (OpenSpec.ofChange s) apart w args) (s.post enc C.prog fn apart fresh handsOn again):=by
 refine returnsInHanded_of_calls own started noInit witness ?_
 intro w tape i _ hsh _ hok hpre hholds
 obtain ⟨_,_,_,fn',hfn',_,_,_,_,hval⟩:=hok
 have e : fn' = fn:=Option.some.inj (hfn'.symm.trans hfn)
 subst e
 obtain ⟨⟨⟨ds,gs,before,hw,hc⟩,hx⟩,hz⟩:=hpre
 have hw':=DataW.Whole.of_heap (w':=w.forCall tape i) q42_ hw
 refine (contract (w.forCall tape i) w.heap.size i.args ds gs before hval hw' (hz.weights hw) (hX _ _ _ q42_ hx) hsh).mono fun e W' ⟨v,he,hp⟩ => ?_
 subst he
 exact ChangeSpec.post_blind hp
end Go
namespace Go.Proofs.YtennhpoemdaghaaGreatDoor.P
open Go Go.RowKit Go.ChangeShapes Go.WideShapes
theorem ownKnob_here : ownKnob Tryz.prog.godebug = none:=by kernel_rfl
theorem laidOut_here : laidOutB Tryz.prog = true:=by kernel_rfl
theorem laid_at {w : World} {name : String} {d : DataW Unit} (h : laidMetH Tryz.prog Go.Proofs.YtennhpoemdaghaaGreatDoor.Rows.mvsAloneRow.laid w)
  (e : (Go.Proofs.YtennhpoemdaghaaGreatDoor.Rows.mvsAloneRow.laid.filter fun x => x.1 == name) = [(name,d)]) : laidMet Tryz.prog [(name,d)] w:=by
 rw [MakeChecks.laidMetH_plain _ _ _ q4_] at h
 have h2:=h.filter (fun x => x.1 == name)
 rw [e] at h2
 exact h2
theorem err_of_laid {w : World} {name : String} {g : Nat} {t : TypeId} {ms : Array (String × TypeId)} {text : List UInt8} (hg : Tryz.prog.globalNamed name = some g) (ht : (Tryz.prog.globals[g]?).map (·.type) = some t) (hi : Tryz.prog.underlying t = some (.interface ms))
  (h : laidMet Tryz.prog [(name,.iface "*errors.errorString" (.ptr (.agg [.lit (.string text)])))] w) : ∃ ev,w.cell? ⟨g,0,none⟩ = some ev ∧ (ev = .nilIface ∨ ∃ te pe,ev = .iface te pe):=by
 obtain ⟨ps,⟨g0,t0,cs0,f0,p0,q0,hg0,ht0,hv0,hd0,_,_⟩,_,_⟩:=h
 obtain rfl:=Option.some.inj (hg.symm.trans hg0)
 obtain rfl:=Option.some.inj (ht.symm.trans ht0)
 obtain ⟨_,u,v,hcs,_,_⟩:=iface_of_trod hi hd0
 have:=World.var?_cell hg0 hv0 0
 rw [Array.eq_one_of_toList hcs] at this
 exact ⟨.iface u v,by simpa using this,.inr ⟨u,v,rfl⟩⟩
set_option maxRecDepth 100000 in
theorem env_of_laid {w : World} (h : laidMetH Tryz.prog Go.Proofs.YtennhpoemdaghaaGreatDoor.Rows.mvsAloneRow.laid w) (hs : w.ShapedOpen Tryz.prog) : Env w:=by
 have ht:=tab_of_laid h
 refine ⟨?_,?_,?_,ht,?_⟩
 ·exact cell_of_shapedOpen_int (P:=Tryz.prog) (g:=0) (t:=3) (zero:=#[.int .i64 0]) hs (of_decide_eq_true q4_) q4_ rfl q4_ q4_ Tryz.underlying3
 ·exact err_of_laid (text:=[105,110,118,97,108,105,100,32,115,121,110,116,97,120]) q4_ q4_ Tryz.underlying111 (laid_at (name := "strconv.ErrSyntax") h q4_)
 ·exact err_of_laid (text:=[118,97,108,117,101,32,111,117,116,32,111,102,32,114,97,110,103,101]) q4_ q4_ Tryz.underlying111 (laid_at (name := "strconv.ErrRange") h q4_)
 ·have h1:=World.var?_cell (g:=5) q4_ ht 0
  exact Lib.lt_of_cell (v:=.int .u64 1) (h1.trans q4_)
end Go.Proofs.YtennhpoemdaghaaGreatDoor.P
end
section
namespace Go.Proofs.YtennhpoemdaghaaGreatDoor.P
open Go Go.RowKit Go.ChangeShapes Go.WideShapes Go.Proofs.YtennhpoemdaghaaGreatDoorW.PrintWords
section
variable {H : Type} {enc : TypeId × Value → H} {w : World} {base : Nat} {spare : Nat → Bool} {held : Bool}
instance : Inhabited S68:=⟨⟨default,[]⟩⟩
end
end Go.Proofs.YtennhpoemdaghaaGreatDoor.P
end
section
namespace Go.Proofs.YtennhpoemdaghaaGreatDoor.P
open Go Go.RowKit Go.ChangeShapes Go.WideShapes Go.ChangeAt
open Go.ChangeMaps (open_string shut_string)
set_option maxRecDepth 100000 in
theorem mvsAlone_lifted (os : Os) (started : os.Started) (H : Type) (enc : TypeId × Value → H) :
  ReturnsInHanded {} Tryz.checked os 10 .any (fun w args => (Rows.mvsAloneSpec.pre enc Tryz.prog Tryz.f10 [] false w args ∧ laidMetH Tryz.prog Rows.mvsAloneRow.laid w) ∧ sizedMet enc Tryz.prog Tryz.f10 (OpenSpec.ofChange Rows.mvsAloneSpec) false w args)
   (Rows.mvsAloneSpec.post enc Tryz.prog Tryz.f10 false true false false):=by
 refine returnsInHanded_and_shaped (C:=Tryz.checked) (X:=fun w _ => laidMetH Tryz.prog Rows.mvsAloneRow.laid w) (fun _ _ _ hh h => h.of_heap hh) ownKnob_here started q4_ Tryz.func10
  (ChangeSpec.witness_shaped (enc:=enc) (C:=Tryz.checked) (os:=os) (X:=fun w _ => laidMetH Tryz.prog Rows.mvsAloneRow.laid w) false (World.laidAll Tryz.prog os Rows.mvsAloneRow.laid) #[.slice none 0 0] 8 (World.laidAll_os _ _ _)
   (World.shaped_of_ZipB q4_ q4_) q4_ q4_ q4_
   (by rw [MakeChecks.laidMetH_plain _ _ _ q4_];exact laidMet_laidAll _ q4_ q4_)) ?_
 intro W base args ds gs before hval0 hW hsz0 hL hsh
 have hE : Env W:=env_of_laid hL hsh
 have hval : ∀ (j : Nat) t v,Tryz.f10.params[j]? = some t → args[j]? = some v → Value.okWide Tryz.prog W .any base t v:=hval0
 have hW':=hW
 obtain ⟨p,q,hA0,hV,rfl,hfz,hnd⟩:=hW
 have hA : DataW.TrodAll enc Tryz.prog W 0 (fun _ => true) true Tryz.f10.params.toList args.toList ds p:=hA0
 rw [Tryz.params10] at hA hval
 obtain ⟨v0,vs0,d0,ds0,p0,q0,hargs,rfl,rfl,h0,r0⟩:=trodAll_cons hA
 obtain ⟨rfl,rfl,rfl⟩:=trodAll_nil r0
 obtain rfl : args = #[v0]:=by cases args;simp_all
 obtain ⟨rfl,rfl⟩:=trodVars_none hV
 obtain ⟨a0,len0,cap0,rfl⟩:=okWide_slice Tryz.underlying38 (hval 0 38 v0 rfl rfl)
 have k0:=h0
 have lt0 : ∀ x ∈ p0,x.block < W.heap.size:=by obtain ⟨m,hm⟩:=k0;exact DataW.trod_lt m _ _ _ hm
 obtain ⟨fu0,hf0⟩:=h0
 obtain ⟨A0,c0,l0,hcs0,hc0,hC0⟩:=open_reqs hf0
 simp [Value.cells] at hcs0
 obtain ⟨rfl,rfl,rfl⟩:=hcs0
 clear hA0 hval0 hsz0
 obtain ⟨K,hK⟩:=alone_f l0 hC0.2.1
 refine (Lw17_MvsAlone.calls K _ _ l0 true W hC0 hc0 (hK K (Nat.le_refl _)) rfl hE).mono fun e W' ⟨he,bel⟩ => ?_
 subst he
 exact ⟨_,rfl,_,_,_,[],_,[],hW',trodAll_mk1 (shut_bool Tryz.underlying4 _),(trodAll_cons_mk (Below.trod laidOut_here q4_ (of_decide_eq_true q4_) k0 bel lt0) trodAll_mk0),rfl,bel.frame _,fun h => by cases h⟩
theorem mvsAlone_row : Rows.MvsAloneSaid :=
 OpenClaim.holds_of_wide 10 Tryz.f10 rfl rfl rfl rfl rfl rfl rfl ⟨rfl,rfl,rfl,rfl,rfl⟩ rfl rfl rfl rfl rfl q4_ Tryz.func10 q4_
  (of_decide_eq_true q4_) (by unfold Func.isWrapper;first | (rw [if_pos q48_];kernel_rfl) | (rw [if_neg q48_];exact ⟨rfl,rfl⟩))
  (fun os started H enc _ => mvsAlone_lifted os started H enc)
end Go.Proofs.YtennhpoemdaghaaGreatDoor.P
namespace Go.Proofs.YtennhpoemdaghaaGreatDoor
open Go
theorem mvsAlone_card : Rows.MvsAloneCardSaid :=
 Claim7.holds_tied_plain_at .later [] [.data,.data,.data,.data,.sentinel,.sentinel,.pinned] true (true, "6b7efa70bd55ada926e5eb756efdd62c05decfa7f1cf08258461f7006b2a8a09") true
  P.mvsAlone_row (fun _ h => by cases h) q4_ (fun _ h => by cases h) mvsAlone_row_tie rfl ⟨rfl,rfl⟩ q4_ rfl
  (fun f fn hf hfn => by
   obtain rfl : f = 10:=Option.some.inj ((show Tryz.prog.funcNamed "armada/armadalaw17.MvsAlone" = some 10 by kernel_rfl).symm.trans hf) |>.symm
   obtain rfl : fn = Tryz.f10:=(Option.some.inj (Tryz.func10.symm.trans hfn)).symm
   exact ⟨by kernel_rfl,fun j t ht => by
    rw [Tryz.params10] at ht
    have hm : t ∈ [38]:=by simpa using Array.mem_of_getElem? ht
    have hall : ([38].all fun u => !Tryz.prog.wantsStandIn u) = true:=by kernel_rfl
    exact (show Tryz.prog.wantsStandIn t = false by simpa using List.all_eq_true.1 hall t hm)⟩)
  q4_
end Go.Proofs.YtennhpoemdaghaaGreatDoor
end
