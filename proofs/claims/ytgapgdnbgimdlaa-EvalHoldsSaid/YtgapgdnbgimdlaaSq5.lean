import Derived.Test.YtgapgdnbgimdlaaSq4
section
namespace Go.Proofs.Ytgapgdnbgimdlaa.PL
open Go.Proofs.Ytgapgdnbgimdlaa.PA Go.RowKit Go.Proofs.YtgapgdnbgimdlaaW.PrintWords Go.Proofs.YtgapgdnbgimdlaaW.PrintLast Go.Proofs.YtgapgdnbgimdlaaW.PrintMore
attribute [local go_sem] max2_int min2_int max_two min_two max_three min_three max_four min_four
set_option linter.unusedVariables false
set_option linter.unusedSimpArgs false
def tailracelaw17_awake.j0 : Nat → List (S44) → List (S44) → List (S44) → List (S44) → Bool → Int → Int → ByteArray → Int → Int → ByteArray → Option (Bool)
 | 0, _, _, _, _, _, _, _, _, _, _, _ => none
 | k + 1, x4, x5, x6, x7, x55, x102000, x102001, x102002, x103000, x103001, x103002 => if x55 = true then (some false) else (if 0 < (x5.length : Int) then (if ((rd_T44 x5 0).f1) = 1 then (if 0 < (x6.length : Int) then (if ((rd_T44 x6 0).f1) = 3 then (if 0 < (x7.length : Int) then (if 1 < (((rd_T44 x7 0).f0).length : Int) then (if ((rd_T23 ((rd_T44 x7 0).f0) 1).f1) = 4 then (if ((rd_T44 x7 0).f1) = 1 then ((eval_Holds.f 4 x102000 x102001 x102002 x103000 x103001 x103002).bind fun t140 => (if t140 = true then ((eval_Holds.f 7 x102000 x102001 x102002 x102000 x102001 x102002).bind fun t141 => (if t141 = true then (some false) else (if 0 < (x4.length : Int) then ((eval_Picked.f k ((rd_T44 x4 0).f0) (([1, 5] : List Int))).bind fun t146 => (some ((t146.length : Int) == 1))) else (none)))) else (some false))) else (some false)) else (some false)) else (none)) else (none)) else (some false)) else (none)) else (some false)) else (none))
def tailracelaw17_awake.f (k : Nat)  : Option (Bool) := (some (([(⟨(([(⟨1, 1, (⟨#[]⟩ : ByteArray)⟩ : S23), (⟨2, 0, (⟨#[120]⟩ : ByteArray)⟩ : S23)] : List (S23))), 2⟩ : S44), (⟨(([(⟨1, 2, (⟨#[]⟩ : ByteArray)⟩ : S23), (⟨2, 0, (⟨#[120]⟩ : ByteArray)⟩ : S23)] : List (S23))), 1⟩ : S44)] : List (S44)) : List (S44))).bind fun y110 => ((evalA.f k 2 (⟨#[116]⟩ : ByteArray) (⟨#[]⟩ : ByteArray) (([0] : List Int)) ([] : List Int) 5 1 1 (⟨#[]⟩ : ByteArray) ([] : List (S46)) y110 ([] : List (S44))).bind fun t116 => ((evalA.f k 3 (⟨#[116]⟩ : ByteArray) (⟨#[]⟩ : ByteArray) (([1] : List Int)) ([] : List Int) 0 0 0 (⟨#[]⟩ : ByteArray) ([] : List (S46)) y110 ([] : List (S44))).bind fun t122 => ((evalA.f k 7 (⟨#[116]⟩ : ByteArray) (⟨#[]⟩ : ByteArray) (([1] : List Int)) ([] : List Int) 0 0 0 (⟨#[]⟩ : ByteArray) (([(⟨2, 0⟩ : S46)] : List (S46))) y110 ([] : List (S44))).bind fun t131 => (if (t116.length : Int) = 1 then (if (t122.length : Int) = 1 then (if (t131.length : Int) = 1 then (if 0 < (t131.length : Int) then (tailracelaw17_awake.j0 k y110 t116 t122 t131 ((((rd_T44 t131 0).f0).length : Int) != 2) 1 1 (⟨#[]⟩ : ByteArray) 1 2 (⟨#[]⟩ : ByteArray)) else (none)) else (tailracelaw17_awake.j0 k y110 t116 t122 t131 true 1 1 (⟨#[]⟩ : ByteArray) 1 2 (⟨#[]⟩ : ByteArray))) else (tailracelaw17_awake.j0 k y110 t116 t122 t131 true 1 1 (⟨#[]⟩ : ByteArray) 1 2 (⟨#[]⟩ : ByteArray))) else (tailracelaw17_awake.j0 k y110 t116 t122 t131 true 1 1 (⟨#[]⟩ : ByteArray) 1 2 (⟨#[]⟩ : ByteArray))))))
theorem tailracelaw17_awake.mono_l : ∀ k, (∀ y0 y1 y2 y3 y4 y5 y6 y7 y8 y9 y10, LeO (tailracelaw17_awake.j0 k y0 y1 y2 y3 y4 y5 y6 y7 y8 y9 y10) (tailracelaw17_awake.j0 (k + 1) y0 y1 y2 y3 y4 y5 y6 y7 y8 y9 y10))
 | 0 => fun _ _ _ _ _ _ _ _ _ _ _ r h => by simp [tailracelaw17_awake.j0] at h
 | k + 1 => by
  have ih0 := tailracelaw17_awake.mono_l k
  ·intro y0 y1 y2 y3 y4 y5 y6 y7 y8 y9 y10
   unfold tailracelaw17_awake.j0
   repeat' first
   | (with_reducible exact ih0 _ _ _ _ _ _ _ _ _ _ _)
   | (with_reducible exact evalA.mono _ _ _ _ _ _ _ _ _ _ _ _ _)
   | (with_reducible exact eval_Picked.mono _ _ _)
   | (with_reducible exact LeO.refl _)
   | (with_reducible exact LeO.none _)
   | (with_reducible refine LeO.ite ?_ ?_)
   | (with_reducible refine LeO.bind ?_ (fun _ => ?_))
   | exact ih0 _ _ _ _ _ _ _ _ _ _ _
   | exact evalA.mono _ _ _ _ _ _ _ _ _ _ _ _ _
   | exact eval_Picked.mono _ _ _
   | exact LeO.none _
   | refine LeO.ite ?_ ?_
   | refine LeO.bind ?_ (fun _ => ?_)
theorem tailracelaw17_awake.mono : ∀ k, LeO (tailracelaw17_awake.f k ) (tailracelaw17_awake.f (k + 1) ) := by
 intro  k
 have ih0 := tailracelaw17_awake.mono_l k
 unfold tailracelaw17_awake.f
 repeat' first
   | (with_reducible exact ih0 _ _ _ _ _ _ _ _ _ _ _)
   | (with_reducible exact evalA.mono _ _ _ _ _ _ _ _ _ _ _ _ _)
   | (with_reducible exact eval_Picked.mono _ _ _)
   | (with_reducible exact LeO.refl _)
   | (with_reducible exact LeO.none _)
   | (with_reducible refine LeO.ite ?_ ?_)
   | (with_reducible refine LeO.bind ?_ (fun _ => ?_))
   | exact ih0 _ _ _ _ _ _ _ _ _ _ _
   | exact evalA.mono _ _ _ _ _ _ _ _ _ _ _ _ _
   | exact eval_Picked.mono _ _ _
   | exact LeO.none _
   | refine LeO.ite ?_ ?_
   | refine LeO.bind ?_ (fun _ => ?_)
set_option maxHeartbeats 8000000 in
set_option maxRecDepth 100000 in
theorem tailracelaw17_awake.calls (k : Nat)  (r : Bool) (w : World) (h : tailracelaw17_awake.f k  = some r) :
  Calls Try.prog 5 #[] w fun e w' => e = .returned (.bool r) ∧ Below w.heap.size w w' := by
 have hu23 := Try.underlying23
 have hu44 := Try.underlying44
 have hu37 := Try.underlying37
 have hu46 := Try.underlying46
 have HB := Aside0.mk (Below.refl w.heap.size w)
 have H : ((some (([(⟨(([(⟨1, 1, (⟨#[]⟩ : ByteArray)⟩ : S23), (⟨2, 0, (⟨#[120]⟩ : ByteArray)⟩ : S23)] : List (S23))), 2⟩ : S44), (⟨(([(⟨1, 2, (⟨#[]⟩ : ByteArray)⟩ : S23), (⟨2, 0, (⟨#[120]⟩ : ByteArray)⟩ : S23)] : List (S23))), 1⟩ : S44)] : List (S44)) : List (S44))).bind fun y110 => ((evalA.f k 2 (⟨#[116]⟩ : ByteArray) (⟨#[]⟩ : ByteArray) (([0] : List Int)) ([] : List Int) 5 1 1 (⟨#[]⟩ : ByteArray) ([] : List (S46)) y110 ([] : List (S44))).bind fun t116 => ((evalA.f k 3 (⟨#[116]⟩ : ByteArray) (⟨#[]⟩ : ByteArray) (([1] : List Int)) ([] : List Int) 0 0 0 (⟨#[]⟩ : ByteArray) ([] : List (S46)) y110 ([] : List (S44))).bind fun t122 => ((evalA.f k 7 (⟨#[116]⟩ : ByteArray) (⟨#[]⟩ : ByteArray) (([1] : List Int)) ([] : List Int) 0 0 0 (⟨#[]⟩ : ByteArray) (([(⟨2, 0⟩ : S46)] : List (S46))) y110 ([] : List (S44))).bind fun t131 => (if (t116.length : Int) = 1 then (if (t122.length : Int) = 1 then (if (t131.length : Int) = 1 then (if 0 < (t131.length : Int) then (tailracelaw17_awake.j0 k y110 t116 t122 t131 ((((rd_T44 t131 0).f0).length : Int) != 2) 1 1 (⟨#[]⟩ : ByteArray) 1 2 (⟨#[]⟩ : ByteArray)) else (none)) else (tailracelaw17_awake.j0 k y110 t116 t122 t131 true 1 1 (⟨#[]⟩ : ByteArray) 1 2 (⟨#[]⟩ : ByteArray))) else (tailracelaw17_awake.j0 k y110 t116 t122 t131 true 1 1 (⟨#[]⟩ : ByteArray) 1 2 (⟨#[]⟩ : ByteArray))) else (tailracelaw17_awake.j0 k y110 t116 t122 t131 true 1 1 (⟨#[]⟩ : ByteArray) 1 2 (⟨#[]⟩ : ByteArray))))))) = some r := h
 clear h
 obtain ⟨y104, hy104⟩ : ∃ y_ : List (S23), y_ = (([(⟨1, 1, (⟨#[]⟩ : ByteArray)⟩ : S23), (⟨2, 0, (⟨#[120]⟩ : ByteArray)⟩ : S23)] : List (S23))) := ⟨_, rfl⟩
 replace H : ((some (([(⟨y104, 2⟩ : S44), (⟨(([(⟨1, 2, (⟨#[]⟩ : ByteArray)⟩ : S23), (⟨2, 0, (⟨#[120]⟩ : ByteArray)⟩ : S23)] : List (S23))), 1⟩ : S44)] : List (S44)) : List (S44))).bind fun y110 => ((evalA.f k 2 (⟨#[116]⟩ : ByteArray) (⟨#[]⟩ : ByteArray) (([0] : List Int)) ([] : List Int) 5 1 1 (⟨#[]⟩ : ByteArray) ([] : List (S46)) y110 ([] : List (S44))).bind fun t116 => ((evalA.f k 3 (⟨#[116]⟩ : ByteArray) (⟨#[]⟩ : ByteArray) (([1] : List Int)) ([] : List Int) 0 0 0 (⟨#[]⟩ : ByteArray) ([] : List (S46)) y110 ([] : List (S44))).bind fun t122 => ((evalA.f k 7 (⟨#[116]⟩ : ByteArray) (⟨#[]⟩ : ByteArray) (([1] : List Int)) ([] : List Int) 0 0 0 (⟨#[]⟩ : ByteArray) (([(⟨2, 0⟩ : S46)] : List (S46))) y110 ([] : List (S44))).bind fun t131 => (if (t116.length : Int) = 1 then (if (t122.length : Int) = 1 then (if (t131.length : Int) = 1 then (if 0 < (t131.length : Int) then (tailracelaw17_awake.j0 k y110 t116 t122 t131 ((((rd_T44 t131 0).f0).length : Int) != 2) 1 1 (⟨#[]⟩ : ByteArray) 1 2 (⟨#[]⟩ : ByteArray)) else (none)) else (tailracelaw17_awake.j0 k y110 t116 t122 t131 true 1 1 (⟨#[]⟩ : ByteArray) 1 2 (⟨#[]⟩ : ByteArray))) else (tailracelaw17_awake.j0 k y110 t116 t122 t131 true 1 1 (⟨#[]⟩ : ByteArray) 1 2 (⟨#[]⟩ : ByteArray))) else (tailracelaw17_awake.j0 k y110 t116 t122 t131 true 1 1 (⟨#[]⟩ : ByteArray) 1 2 (⟨#[]⟩ : ByteArray))))))) = some r := by first | (rw [hy104]; with_reducible exact H) | (have H2_ := (Option.bind_some _ _).symm.trans H; rw [hy104]; with_reducible exact H2_) | (have H2_ := (Option.bind_some _ _).symm.trans H; with_reducible exact H2_) | with_reducible exact H | (rw [hy104]; exact H) | exact H
 have Ny104 := Aside0.mk hy104
 clear hy104
 obtain ⟨y107, hy107⟩ : ∃ y_ : List (S23), y_ = (([(⟨1, 2, (⟨#[]⟩ : ByteArray)⟩ : S23), (⟨2, 0, (⟨#[120]⟩ : ByteArray)⟩ : S23)] : List (S23))) := ⟨_, rfl⟩
 replace H : ((some (([(⟨y104, 2⟩ : S44), (⟨y107, 1⟩ : S44)] : List (S44)) : List (S44))).bind fun y110 => ((evalA.f k 2 (⟨#[116]⟩ : ByteArray) (⟨#[]⟩ : ByteArray) (([0] : List Int)) ([] : List Int) 5 1 1 (⟨#[]⟩ : ByteArray) ([] : List (S46)) y110 ([] : List (S44))).bind fun t116 => ((evalA.f k 3 (⟨#[116]⟩ : ByteArray) (⟨#[]⟩ : ByteArray) (([1] : List Int)) ([] : List Int) 0 0 0 (⟨#[]⟩ : ByteArray) ([] : List (S46)) y110 ([] : List (S44))).bind fun t122 => ((evalA.f k 7 (⟨#[116]⟩ : ByteArray) (⟨#[]⟩ : ByteArray) (([1] : List Int)) ([] : List Int) 0 0 0 (⟨#[]⟩ : ByteArray) (([(⟨2, 0⟩ : S46)] : List (S46))) y110 ([] : List (S44))).bind fun t131 => (if (t116.length : Int) = 1 then (if (t122.length : Int) = 1 then (if (t131.length : Int) = 1 then (if 0 < (t131.length : Int) then (tailracelaw17_awake.j0 k y110 t116 t122 t131 ((((rd_T44 t131 0).f0).length : Int) != 2) 1 1 (⟨#[]⟩ : ByteArray) 1 2 (⟨#[]⟩ : ByteArray)) else (none)) else (tailracelaw17_awake.j0 k y110 t116 t122 t131 true 1 1 (⟨#[]⟩ : ByteArray) 1 2 (⟨#[]⟩ : ByteArray))) else (tailracelaw17_awake.j0 k y110 t116 t122 t131 true 1 1 (⟨#[]⟩ : ByteArray) 1 2 (⟨#[]⟩ : ByteArray))) else (tailracelaw17_awake.j0 k y110 t116 t122 t131 true 1 1 (⟨#[]⟩ : ByteArray) 1 2 (⟨#[]⟩ : ByteArray))))))) = some r := by first | (rw [hy107]; with_reducible exact H) | (have H2_ := (Option.bind_some _ _).symm.trans H; rw [hy107]; with_reducible exact H2_) | (have H2_ := (Option.bind_some _ _).symm.trans H; with_reducible exact H2_) | with_reducible exact H | (rw [hy107]; exact H) | exact H
 have Ny107 := Aside0.mk hy107
 clear hy107
 obtain ⟨y110, hy110⟩ : ∃ y_ : List (S44), y_ = (([(⟨y104, 2⟩ : S44), (⟨y107, 1⟩ : S44)] : List (S44))) := ⟨_, rfl⟩
 replace H : ((evalA.f k 2 (⟨#[116]⟩ : ByteArray) (⟨#[]⟩ : ByteArray) (([0] : List Int)) ([] : List Int) 5 1 1 (⟨#[]⟩ : ByteArray) ([] : List (S46)) y110 ([] : List (S44))).bind fun t116 => ((evalA.f k 3 (⟨#[116]⟩ : ByteArray) (⟨#[]⟩ : ByteArray) (([1] : List Int)) ([] : List Int) 0 0 0 (⟨#[]⟩ : ByteArray) ([] : List (S46)) y110 ([] : List (S44))).bind fun t122 => ((evalA.f k 7 (⟨#[116]⟩ : ByteArray) (⟨#[]⟩ : ByteArray) (([1] : List Int)) ([] : List Int) 0 0 0 (⟨#[]⟩ : ByteArray) (([(⟨2, 0⟩ : S46)] : List (S46))) y110 ([] : List (S44))).bind fun t131 => (if (t116.length : Int) = 1 then (if (t122.length : Int) = 1 then (if (t131.length : Int) = 1 then (if 0 < (t131.length : Int) then (tailracelaw17_awake.j0 k y110 t116 t122 t131 ((((rd_T44 t131 0).f0).length : Int) != 2) 1 1 (⟨#[]⟩ : ByteArray) 1 2 (⟨#[]⟩ : ByteArray)) else (none)) else (tailracelaw17_awake.j0 k y110 t116 t122 t131 true 1 1 (⟨#[]⟩ : ByteArray) 1 2 (⟨#[]⟩ : ByteArray))) else (tailracelaw17_awake.j0 k y110 t116 t122 t131 true 1 1 (⟨#[]⟩ : ByteArray) 1 2 (⟨#[]⟩ : ByteArray))) else (tailracelaw17_awake.j0 k y110 t116 t122 t131 true 1 1 (⟨#[]⟩ : ByteArray) 1 2 (⟨#[]⟩ : ByteArray)))))) = some r := by first | (rw [hy110]; with_reducible exact H) | (have H2_ := (Option.bind_some _ _).symm.trans H; rw [hy110]; with_reducible exact H2_) | (have H2_ := (Option.bind_some _ _).symm.trans H; with_reducible exact H2_) | with_reducible exact H | (rw [hy110]; exact H) | exact H
 have Ny110 := Aside0.mk hy110
 clear hy110
 obtain ⟨y113, hy113⟩ : ∃ y_ : List Int, y_ = (([0] : List Int)) := ⟨_, rfl⟩
 replace H : ((evalA.f k 2 (⟨#[116]⟩ : ByteArray) (⟨#[]⟩ : ByteArray) y113 ([] : List Int) 5 1 1 (⟨#[]⟩ : ByteArray) ([] : List (S46)) y110 ([] : List (S44))).bind fun t116 => ((evalA.f k 3 (⟨#[116]⟩ : ByteArray) (⟨#[]⟩ : ByteArray) (([1] : List Int)) ([] : List Int) 0 0 0 (⟨#[]⟩ : ByteArray) ([] : List (S46)) y110 ([] : List (S44))).bind fun t122 => ((evalA.f k 7 (⟨#[116]⟩ : ByteArray) (⟨#[]⟩ : ByteArray) (([1] : List Int)) ([] : List Int) 0 0 0 (⟨#[]⟩ : ByteArray) (([(⟨2, 0⟩ : S46)] : List (S46))) y110 ([] : List (S44))).bind fun t131 => (if (t116.length : Int) = 1 then (if (t122.length : Int) = 1 then (if (t131.length : Int) = 1 then (if 0 < (t131.length : Int) then (tailracelaw17_awake.j0 k y110 t116 t122 t131 ((((rd_T44 t131 0).f0).length : Int) != 2) 1 1 (⟨#[]⟩ : ByteArray) 1 2 (⟨#[]⟩ : ByteArray)) else (none)) else (tailracelaw17_awake.j0 k y110 t116 t122 t131 true 1 1 (⟨#[]⟩ : ByteArray) 1 2 (⟨#[]⟩ : ByteArray))) else (tailracelaw17_awake.j0 k y110 t116 t122 t131 true 1 1 (⟨#[]⟩ : ByteArray) 1 2 (⟨#[]⟩ : ByteArray))) else (tailracelaw17_awake.j0 k y110 t116 t122 t131 true 1 1 (⟨#[]⟩ : ByteArray) 1 2 (⟨#[]⟩ : ByteArray)))))) = some r := by first | (rw [hy113]; with_reducible exact H) | (have H2_ := (Option.bind_some _ _).symm.trans H; rw [hy113]; with_reducible exact H2_) | (have H2_ := (Option.bind_some _ _).symm.trans H; with_reducible exact H2_) | with_reducible exact H | (rw [hy113]; exact H) | exact H
 have Ny113 := Aside0.mk hy113
 clear hy113
 replace H := Option.bind_eq_some_iff.mp H
 obtain ⟨t116, A10, H⟩ := H
 replace H : ((evalA.f k 3 (⟨#[116]⟩ : ByteArray) (⟨#[]⟩ : ByteArray) (([1] : List Int)) ([] : List Int) 0 0 0 (⟨#[]⟩ : ByteArray) ([] : List (S46)) y110 ([] : List (S44))).bind fun t122 => ((evalA.f k 7 (⟨#[116]⟩ : ByteArray) (⟨#[]⟩ : ByteArray) (([1] : List Int)) ([] : List Int) 0 0 0 (⟨#[]⟩ : ByteArray) (([(⟨2, 0⟩ : S46)] : List (S46))) y110 ([] : List (S44))).bind fun t131 => (if (t116.length : Int) = 1 then (if (t122.length : Int) = 1 then (if (t131.length : Int) = 1 then (if 0 < (t131.length : Int) then (tailracelaw17_awake.j0 k y110 t116 t122 t131 ((((rd_T44 t131 0).f0).length : Int) != 2) 1 1 (⟨#[]⟩ : ByteArray) 1 2 (⟨#[]⟩ : ByteArray)) else (none)) else (tailracelaw17_awake.j0 k y110 t116 t122 t131 true 1 1 (⟨#[]⟩ : ByteArray) 1 2 (⟨#[]⟩ : ByteArray))) else (tailracelaw17_awake.j0 k y110 t116 t122 t131 true 1 1 (⟨#[]⟩ : ByteArray) 1 2 (⟨#[]⟩ : ByteArray))) else (tailracelaw17_awake.j0 k y110 t116 t122 t131 true 1 1 (⟨#[]⟩ : ByteArray) 1 2 (⟨#[]⟩ : ByteArray))))) = some r := H
 have A1 := Aside0.mk A10
 clear A10
 obtain ⟨y119, hy119⟩ : ∃ y_ : List Int, y_ = (([1] : List Int)) := ⟨_, rfl⟩
 replace H : ((evalA.f k 3 (⟨#[116]⟩ : ByteArray) (⟨#[]⟩ : ByteArray) y119 ([] : List Int) 0 0 0 (⟨#[]⟩ : ByteArray) ([] : List (S46)) y110 ([] : List (S44))).bind fun t122 => ((evalA.f k 7 (⟨#[116]⟩ : ByteArray) (⟨#[]⟩ : ByteArray) (([1] : List Int)) ([] : List Int) 0 0 0 (⟨#[]⟩ : ByteArray) (([(⟨2, 0⟩ : S46)] : List (S46))) y110 ([] : List (S44))).bind fun t131 => (if (t116.length : Int) = 1 then (if (t122.length : Int) = 1 then (if (t131.length : Int) = 1 then (if 0 < (t131.length : Int) then (tailracelaw17_awake.j0 k y110 t116 t122 t131 ((((rd_T44 t131 0).f0).length : Int) != 2) 1 1 (⟨#[]⟩ : ByteArray) 1 2 (⟨#[]⟩ : ByteArray)) else (none)) else (tailracelaw17_awake.j0 k y110 t116 t122 t131 true 1 1 (⟨#[]⟩ : ByteArray) 1 2 (⟨#[]⟩ : ByteArray))) else (tailracelaw17_awake.j0 k y110 t116 t122 t131 true 1 1 (⟨#[]⟩ : ByteArray) 1 2 (⟨#[]⟩ : ByteArray))) else (tailracelaw17_awake.j0 k y110 t116 t122 t131 true 1 1 (⟨#[]⟩ : ByteArray) 1 2 (⟨#[]⟩ : ByteArray))))) = some r := by first | (rw [hy119]; with_reducible exact H) | (have H2_ := (Option.bind_some _ _).symm.trans H; rw [hy119]; with_reducible exact H2_) | (have H2_ := (Option.bind_some _ _).symm.trans H; with_reducible exact H2_) | with_reducible exact H | (rw [hy119]; exact H) | exact H
 have Ny119 := Aside0.mk hy119
 clear hy119
 replace H := Option.bind_eq_some_iff.mp H
 obtain ⟨t122, A20, H⟩ := H
 replace H : ((evalA.f k 7 (⟨#[116]⟩ : ByteArray) (⟨#[]⟩ : ByteArray) (([1] : List Int)) ([] : List Int) 0 0 0 (⟨#[]⟩ : ByteArray) (([(⟨2, 0⟩ : S46)] : List (S46))) y110 ([] : List (S44))).bind fun t131 => (if (t116.length : Int) = 1 then (if (t122.length : Int) = 1 then (if (t131.length : Int) = 1 then (if 0 < (t131.length : Int) then (tailracelaw17_awake.j0 k y110 t116 t122 t131 ((((rd_T44 t131 0).f0).length : Int) != 2) 1 1 (⟨#[]⟩ : ByteArray) 1 2 (⟨#[]⟩ : ByteArray)) else (none)) else (tailracelaw17_awake.j0 k y110 t116 t122 t131 true 1 1 (⟨#[]⟩ : ByteArray) 1 2 (⟨#[]⟩ : ByteArray))) else (tailracelaw17_awake.j0 k y110 t116 t122 t131 true 1 1 (⟨#[]⟩ : ByteArray) 1 2 (⟨#[]⟩ : ByteArray))) else (tailracelaw17_awake.j0 k y110 t116 t122 t131 true 1 1 (⟨#[]⟩ : ByteArray) 1 2 (⟨#[]⟩ : ByteArray)))) = some r := H
 have A2 := Aside0.mk A20
 clear A20
 obtain ⟨y125, hy125⟩ : ∃ y_ : List Int, y_ = (([1] : List Int)) := ⟨_, rfl⟩
 replace H : ((evalA.f k 7 (⟨#[116]⟩ : ByteArray) (⟨#[]⟩ : ByteArray) y125 ([] : List Int) 0 0 0 (⟨#[]⟩ : ByteArray) (([(⟨2, 0⟩ : S46)] : List (S46))) y110 ([] : List (S44))).bind fun t131 => (if (t116.length : Int) = 1 then (if (t122.length : Int) = 1 then (if (t131.length : Int) = 1 then (if 0 < (t131.length : Int) then (tailracelaw17_awake.j0 k y110 t116 t122 t131 ((((rd_T44 t131 0).f0).length : Int) != 2) 1 1 (⟨#[]⟩ : ByteArray) 1 2 (⟨#[]⟩ : ByteArray)) else (none)) else (tailracelaw17_awake.j0 k y110 t116 t122 t131 true 1 1 (⟨#[]⟩ : ByteArray) 1 2 (⟨#[]⟩ : ByteArray))) else (tailracelaw17_awake.j0 k y110 t116 t122 t131 true 1 1 (⟨#[]⟩ : ByteArray) 1 2 (⟨#[]⟩ : ByteArray))) else (tailracelaw17_awake.j0 k y110 t116 t122 t131 true 1 1 (⟨#[]⟩ : ByteArray) 1 2 (⟨#[]⟩ : ByteArray)))) = some r := by first | (rw [hy125]; with_reducible exact H) | (have H2_ := (Option.bind_some _ _).symm.trans H; rw [hy125]; with_reducible exact H2_) | (have H2_ := (Option.bind_some _ _).symm.trans H; with_reducible exact H2_) | with_reducible exact H | (rw [hy125]; exact H) | exact H
 have Ny125 := Aside0.mk hy125
 clear hy125
 obtain ⟨y128, hy128⟩ : ∃ y_ : List (S46), y_ = (([(⟨2, 0⟩ : S46)] : List (S46))) := ⟨_, rfl⟩
 replace H : ((evalA.f k 7 (⟨#[116]⟩ : ByteArray) (⟨#[]⟩ : ByteArray) y125 ([] : List Int) 0 0 0 (⟨#[]⟩ : ByteArray) y128 y110 ([] : List (S44))).bind fun t131 => (if (t116.length : Int) = 1 then (if (t122.length : Int) = 1 then (if (t131.length : Int) = 1 then (if 0 < (t131.length : Int) then (tailracelaw17_awake.j0 k y110 t116 t122 t131 ((((rd_T44 t131 0).f0).length : Int) != 2) 1 1 (⟨#[]⟩ : ByteArray) 1 2 (⟨#[]⟩ : ByteArray)) else (none)) else (tailracelaw17_awake.j0 k y110 t116 t122 t131 true 1 1 (⟨#[]⟩ : ByteArray) 1 2 (⟨#[]⟩ : ByteArray))) else (tailracelaw17_awake.j0 k y110 t116 t122 t131 true 1 1 (⟨#[]⟩ : ByteArray) 1 2 (⟨#[]⟩ : ByteArray))) else (tailracelaw17_awake.j0 k y110 t116 t122 t131 true 1 1 (⟨#[]⟩ : ByteArray) 1 2 (⟨#[]⟩ : ByteArray)))) = some r := by first | (rw [hy128]; with_reducible exact H) | (have H2_ := (Option.bind_some _ _).symm.trans H; rw [hy128]; with_reducible exact H2_) | (have H2_ := (Option.bind_some _ _).symm.trans H; with_reducible exact H2_) | with_reducible exact H | (rw [hy128]; exact H) | exact H
 have Ny128 := Aside0.mk hy128
 clear hy128
 replace H := Option.bind_eq_some_iff.mp H
 obtain ⟨t131, A30, H⟩ := H
 replace H : (if (t116.length : Int) = 1 then (if (t122.length : Int) = 1 then (if (t131.length : Int) = 1 then (if 0 < (t131.length : Int) then (tailracelaw17_awake.j0 k y110 t116 t122 t131 ((((rd_T44 t131 0).f0).length : Int) != 2) 1 1 (⟨#[]⟩ : ByteArray) 1 2 (⟨#[]⟩ : ByteArray)) else (none)) else (tailracelaw17_awake.j0 k y110 t116 t122 t131 true 1 1 (⟨#[]⟩ : ByteArray) 1 2 (⟨#[]⟩ : ByteArray))) else (tailracelaw17_awake.j0 k y110 t116 t122 t131 true 1 1 (⟨#[]⟩ : ByteArray) 1 2 (⟨#[]⟩ : ByteArray))) else (tailracelaw17_awake.j0 k y110 t116 t122 t131 true 1 1 (⟨#[]⟩ : ByteArray) 1 2 (⟨#[]⟩ : ByteArray))) = some r := H
 have A3 := Aside0.mk A30
 clear A30
 have HC4 := Aside0.mk H
 clear H
 go_enter Try.func5, Try.ntmps5
 go_upto_region 8 with (first | ((with_reducible refine gate_dst (N := 1) rfl ?_); (try (refine gate_guard (by rfl) ?_; dsimp only)); refine box_event ?hg (N := 1) ?hd (cs := #[.int .i64 0, .int .i64 0, .string (⟨#[]⟩ : ByteArray)]) (t := 23) ?hr ?_; (case hd => rfl); (case hg => rfl); (case hr => first | (go_simp; done) | (go_simp; rfl)); intro gb101 hg w5 hbox hb; have n0_ := Aside0.mk (below_step qh_ hb); have n1_ := Aside0.mk (hbox); have n2_ := Aside0.mk ((by rw [hg]; exact (below_size qh_) : w.heap.size ≤ gb101)); have n3_ := Aside0.mk ((by rw [hg]; exact (below_size qh_) : w.heap.size ≤ gb101)); clear HB; have HB := n0_; have BK101 := n1_; have GW101 := n2_; have GE101 := n3_; clear n0_ n1_ n2_ n3_; clear hb hbox hg; have hcz6_0 : w5.cell? ⟨gb101, 0, none⟩ = some (.int .i64 0) := (blk_cell BK101.out 0).trans rfl; have hcz6_1 : w5.cell? ⟨gb101, 1, none⟩ = some (.int .i64 0) := (blk_cell BK101.out 1).trans rfl; have hcz6_2 : w5.cell? ⟨gb101, 2, none⟩ = some (.string (⟨#[]⟩ : ByteArray)) := (blk_cell BK101.out 2).trans rfl; have hfz6_0 := blk_frozen BK101.out 0; have hfz6_1 := blk_frozen BK101.out 1; have hfz6_2 := blk_frozen BK101.out 2) | ((with_reducible refine gate_dst (N := 2) rfl ?_); (try (refine gate_guard (by rfl) ?_; dsimp only)); refine box_event ?hg (N := 2) ?hd (cs := #[.int .i64 0, .int .i64 0, .string (⟨#[]⟩ : ByteArray)]) (t := 23) ?hr ?_; (case hd => rfl); (case hg => rfl); (case hr => first | (go_simp; done) | (go_simp; rfl)); intro gb102 hg w7 hbox hb; have n0_ := Aside0.mk (blk_below (g := gb101) (o := .cells #[.int .i64 1, .int .i64 1, .string (⟨#[]⟩ : ByteArray)] 23 (0, 0)) (by (with_reducible repeat (first | refine blk_drewN ?_ _ | refine blk_drew ?_ | refine blk_alloc ?_ _)); refine blk_put (cs := #[.int .i64 1, .int .i64 1, .string (⟨#[]⟩ : ByteArray)]) ?_ 2 _ rfl; (with_reducible repeat (first | refine blk_drewN ?_ _ | refine blk_drew ?_ | refine blk_alloc ?_ _)); refine blk_put (cs := #[.int .i64 1, .int .i64 0, .string (⟨#[]⟩ : ByteArray)]) ?_ 1 _ rfl; (with_reducible repeat (first | refine blk_drewN ?_ _ | refine blk_drew ?_ | refine blk_alloc ?_ _)); refine blk_put (cs := #[.int .i64 0, .int .i64 0, .string (⟨#[]⟩ : ByteArray)]) ?_ 0 _ rfl; (with_reducible repeat (first | refine blk_drewN ?_ _ | refine blk_drew ?_ | refine blk_alloc ?_ _)); exact BK101.out) hb); have n1_ := Aside0.mk (below_step (by repeat (first | (with_reducible first | exact HB.out | apply below_alloc | apply pw_below_drewN | apply below_drew1 | refine below_set ?_ GE101.out) | exact HB.out)) hb); have n2_ := Aside0.mk (hbox); have n3_ := Aside0.mk ((by rw [hg]; exact (below_size (by repeat (first | (with_reducible first | exact HB.out | apply below_alloc | apply pw_below_drewN | apply below_drew1 | refine below_set ?_ GE101.out) | exact HB.out))) : w.heap.size ≤ gb102)); have n4_ := Aside0.mk ((by rw [hg]; exact (below_size (by repeat (first | (with_reducible first | exact HB.out | apply below_alloc | apply pw_below_drewN | apply below_drew1 | refine below_set ?_ GE101.out) | exact HB.out))) : w.heap.size ≤ gb102)); have n5_ := Aside0.mk ((by rw [hg]; exact Nat.ne_of_lt (blk_lt (g := gb101) (o := .cells #[.int .i64 1, .int .i64 1, .string (⟨#[]⟩ : ByteArray)] 23 (0, 0)) (by (with_reducible repeat (first | refine blk_drewN ?_ _ | refine blk_drew ?_ | refine blk_alloc ?_ _)); refine blk_put (cs := #[.int .i64 1, .int .i64 1, .string (⟨#[]⟩ : ByteArray)]) ?_ 2 _ rfl; (with_reducible repeat (first | refine blk_drewN ?_ _ | refine blk_drew ?_ | refine blk_alloc ?_ _)); refine blk_put (cs := #[.int .i64 1, .int .i64 0, .string (⟨#[]⟩ : ByteArray)]) ?_ 1 _ rfl; (with_reducible repeat (first | refine blk_drewN ?_ _ | refine blk_drew ?_ | refine blk_alloc ?_ _)); refine blk_put (cs := #[.int .i64 0, .int .i64 0, .string (⟨#[]⟩ : ByteArray)]) ?_ 0 _ rfl; (with_reducible repeat (first | refine blk_drewN ?_ _ | refine blk_drew ?_ | refine blk_alloc ?_ _)); exact BK101.out)) : gb101 ≠ gb102)); have n6_ := Aside0.mk ((by rw [hg]; exact Nat.ne_of_gt (blk_lt (g := gb101) (o := .cells #[.int .i64 1, .int .i64 1, .string (⟨#[]⟩ : ByteArray)] 23 (0, 0)) (by (with_reducible repeat (first | refine blk_drewN ?_ _ | refine blk_drew ?_ | refine blk_alloc ?_ _)); refine blk_put (cs := #[.int .i64 1, .int .i64 1, .string (⟨#[]⟩ : ByteArray)]) ?_ 2 _ rfl; (with_reducible repeat (first | refine blk_drewN ?_ _ | refine blk_drew ?_ | refine blk_alloc ?_ _)); refine blk_put (cs := #[.int .i64 1, .int .i64 0, .string (⟨#[]⟩ : ByteArray)]) ?_ 1 _ rfl; (with_reducible repeat (first | refine blk_drewN ?_ _ | refine blk_drew ?_ | refine blk_alloc ?_ _)); refine blk_put (cs := #[.int .i64 0, .int .i64 0, .string (⟨#[]⟩ : ByteArray)]) ?_ 0 _ rfl; (with_reducible repeat (first | refine blk_drewN ?_ _ | refine blk_drew ?_ | refine blk_alloc ?_ _)); exact BK101.out)) : gb102 ≠ gb101)); clear BK101; clear HB; have BK101 := n0_; have HB := n1_; have BK102 := n2_; have GW102 := n3_; have GE102 := n4_; have NB101_102 := n5_; have NB102_101 := n6_; clear n0_ n1_ n2_ n3_ n4_ n5_ n6_; clear hb hbox hg; have hnb8 := NB102_101.out; have hnc8 := NB101_102.out; have hcz9_0 : w7.cell? ⟨gb102, 0, none⟩ = some (.int .i64 0) := (blk_cell BK102.out 0).trans rfl; have hcz9_1 : w7.cell? ⟨gb102, 1, none⟩ = some (.int .i64 0) := (blk_cell BK102.out 1).trans rfl; have hcz9_2 : w7.cell? ⟨gb102, 2, none⟩ = some (.string (⟨#[]⟩ : ByteArray)) := (blk_cell BK102.out 2).trans rfl; have hfz9_0 := blk_frozen BK102.out 0; have hfz9_1 := blk_frozen BK102.out 1; have hfz9_2 := blk_frozen BK102.out 2) | ((with_reducible refine gate_dst (N := 3) rfl ?_); (try (refine gate_guard (by rfl) ?_; dsimp only)); refine box_event ?hg (N := 3) ?hd (cs := #[.int .i64 0, .int .i64 0, .string (⟨#[]⟩ : ByteArray)]) (t := 23) ?hr ?_; (case hd => rfl); (case hg => rfl); (case hr => first | (go_simp; done) | (go_simp; rfl)); intro gb103 hg w10 hbox hb; have n0_ := Aside0.mk (blk_below (g := gb101) (o := .cells #[.int .i64 1, .int .i64 1, .string (⟨#[]⟩ : ByteArray)] 23 (0, 0)) (by (with_reducible repeat (first | refine blk_drewN ?_ _ | refine blk_drew ?_ | refine blk_alloc ?_ _)); refine blk_far ?_ NB101_102.out _; (with_reducible repeat (first | refine blk_drewN ?_ _ | refine blk_drew ?_ | refine blk_alloc ?_ _)); refine blk_far ?_ NB101_102.out _; (with_reducible repeat (first | refine blk_drewN ?_ _ | refine blk_drew ?_ | refine blk_alloc ?_ _)); refine blk_far ?_ NB101_102.out _; (with_reducible repeat (first | refine blk_drewN ?_ _ | refine blk_drew ?_ | refine blk_alloc ?_ _)); exact BK101.out) hb); have n1_ := Aside0.mk (blk_below (g := gb102) (o := .cells #[.int .i64 1, .int .i64 2, .string (⟨#[]⟩ : ByteArray)] 23 (0, 0)) (by (with_reducible repeat (first | refine blk_drewN ?_ _ | refine blk_drew ?_ | refine blk_alloc ?_ _)); refine blk_put (cs := #[.int .i64 1, .int .i64 2, .string (⟨#[]⟩ : ByteArray)]) ?_ 2 _ rfl; (with_reducible repeat (first | refine blk_drewN ?_ _ | refine blk_drew ?_ | refine blk_alloc ?_ _)); refine blk_put (cs := #[.int .i64 1, .int .i64 0, .string (⟨#[]⟩ : ByteArray)]) ?_ 1 _ rfl; (with_reducible repeat (first | refine blk_drewN ?_ _ | refine blk_drew ?_ | refine blk_alloc ?_ _)); refine blk_put (cs := #[.int .i64 0, .int .i64 0, .string (⟨#[]⟩ : ByteArray)]) ?_ 0 _ rfl; (with_reducible repeat (first | refine blk_drewN ?_ _ | refine blk_drew ?_ | refine blk_alloc ?_ _)); exact BK102.out) hb); have n2_ := Aside0.mk (below_step (by repeat (first | (with_reducible first | exact HB.out | apply below_alloc | apply pw_below_drewN | apply below_drew1 | refine below_set ?_ GE101.out | refine below_set ?_ GE102.out) | exact HB.out)) hb); have n3_ := Aside0.mk (hbox); have n4_ := Aside0.mk ((by rw [hg]; exact (below_size (by repeat (first | (with_reducible first | exact HB.out | apply below_alloc | apply pw_below_drewN | apply below_drew1 | refine below_set ?_ GE101.out | refine below_set ?_ GE102.out) | exact HB.out))) : w.heap.size ≤ gb103)); have n5_ := Aside0.mk ((by rw [hg]; exact (below_size (by repeat (first | (with_reducible first | exact HB.out | apply below_alloc | apply pw_below_drewN | apply below_drew1 | refine below_set ?_ GE101.out | refine below_set ?_ GE102.out) | exact HB.out))) : w.heap.size ≤ gb103)); have n6_ := Aside0.mk ((by rw [hg]; exact Nat.ne_of_lt (blk_lt (g := gb101) (o := .cells #[.int .i64 1, .int .i64 1, .string (⟨#[]⟩ : ByteArray)] 23 (0, 0)) (by (with_reducible repeat (first | refine blk_drewN ?_ _ | refine blk_drew ?_ | refine blk_alloc ?_ _)); refine blk_far ?_ NB101_102.out _; (with_reducible repeat (first | refine blk_drewN ?_ _ | refine blk_drew ?_ | refine blk_alloc ?_ _)); refine blk_far ?_ NB101_102.out _; (with_reducible repeat (first | refine blk_drewN ?_ _ | refine blk_drew ?_ | refine blk_alloc ?_ _)); refine blk_far ?_ NB101_102.out _; (with_reducible repeat (first | refine blk_drewN ?_ _ | refine blk_drew ?_ | refine blk_alloc ?_ _)); exact BK101.out)) : gb101 ≠ gb103)); have n7_ := Aside0.mk ((by rw [hg]; exact Nat.ne_of_gt (blk_lt (g := gb101) (o := .cells #[.int .i64 1, .int .i64 1, .string (⟨#[]⟩ : ByteArray)] 23 (0, 0)) (by (with_reducible repeat (first | refine blk_drewN ?_ _ | refine blk_drew ?_ | refine blk_alloc ?_ _)); refine blk_far ?_ NB101_102.out _; (with_reducible repeat (first | refine blk_drewN ?_ _ | refine blk_drew ?_ | refine blk_alloc ?_ _)); refine blk_far ?_ NB101_102.out _; (with_reducible repeat (first | refine blk_drewN ?_ _ | refine blk_drew ?_ | refine blk_alloc ?_ _)); refine blk_far ?_ NB101_102.out _; (with_reducible repeat (first | refine blk_drewN ?_ _ | refine blk_drew ?_ | refine blk_alloc ?_ _)); exact BK101.out)) : gb103 ≠ gb101)); have n8_ := Aside0.mk ((by rw [hg]; exact Nat.ne_of_lt (blk_lt (g := gb102) (o := .cells #[.int .i64 1, .int .i64 2, .string (⟨#[]⟩ : ByteArray)] 23 (0, 0)) (by (with_reducible repeat (first | refine blk_drewN ?_ _ | refine blk_drew ?_ | refine blk_alloc ?_ _)); refine blk_put (cs := #[.int .i64 1, .int .i64 2, .string (⟨#[]⟩ : ByteArray)]) ?_ 2 _ rfl; (with_reducible repeat (first | refine blk_drewN ?_ _ | refine blk_drew ?_ | refine blk_alloc ?_ _)); refine blk_put (cs := #[.int .i64 1, .int .i64 0, .string (⟨#[]⟩ : ByteArray)]) ?_ 1 _ rfl; (with_reducible repeat (first | refine blk_drewN ?_ _ | refine blk_drew ?_ | refine blk_alloc ?_ _)); refine blk_put (cs := #[.int .i64 0, .int .i64 0, .string (⟨#[]⟩ : ByteArray)]) ?_ 0 _ rfl; (with_reducible repeat (first | refine blk_drewN ?_ _ | refine blk_drew ?_ | refine blk_alloc ?_ _)); exact BK102.out)) : gb102 ≠ gb103)); have n9_ := Aside0.mk ((by rw [hg]; exact Nat.ne_of_gt (blk_lt (g := gb102) (o := .cells #[.int .i64 1, .int .i64 2, .string (⟨#[]⟩ : ByteArray)] 23 (0, 0)) (by (with_reducible repeat (first | refine blk_drewN ?_ _ | refine blk_drew ?_ | refine blk_alloc ?_ _)); refine blk_put (cs := #[.int .i64 1, .int .i64 2, .string (⟨#[]⟩ : ByteArray)]) ?_ 2 _ rfl; (with_reducible repeat (first | refine blk_drewN ?_ _ | refine blk_drew ?_ | refine blk_alloc ?_ _)); refine blk_put (cs := #[.int .i64 1, .int .i64 0, .string (⟨#[]⟩ : ByteArray)]) ?_ 1 _ rfl; (with_reducible repeat (first | refine blk_drewN ?_ _ | refine blk_drew ?_ | refine blk_alloc ?_ _)); refine blk_put (cs := #[.int .i64 0, .int .i64 0, .string (⟨#[]⟩ : ByteArray)]) ?_ 0 _ rfl; (with_reducible repeat (first | refine blk_drewN ?_ _ | refine blk_drew ?_ | refine blk_alloc ?_ _)); exact BK102.out)) : gb103 ≠ gb102)); clear BK101; clear BK102; clear HB; have BK101 := n0_; have BK102 := n1_; have HB := n2_; have BK103 := n3_; have GW103 := n4_; have GE103 := n5_; have NB101_103 := n6_; have NB103_101 := n7_; have NB102_103 := n8_; have NB103_102 := n9_; clear n0_ n1_ n2_ n3_ n4_ n5_ n6_ n7_ n8_ n9_; clear hb hbox hg; have hnb11 := NB103_101.out; have hnc11 := NB101_103.out; have hnb12 := NB103_102.out; have hnc12 := NB102_103.out; have hcz13_0 : w10.cell? ⟨gb103, 0, none⟩ = some (.int .i64 0) := (blk_cell BK103.out 0).trans rfl; have hcz13_1 : w10.cell? ⟨gb103, 1, none⟩ = some (.int .i64 0) := (blk_cell BK103.out 1).trans rfl; have hcz13_2 : w10.cell? ⟨gb103, 2, none⟩ = some (.string (⟨#[]⟩ : ByteArray)) := (blk_cell BK103.out 2).trans rfl; have hfz13_0 := blk_frozen BK103.out 0; have hfz13_1 := blk_frozen BK103.out 1; have hfz13_2 := blk_frozen BK103.out 2; have hcz14_0 : w10.cell? ⟨gb101, 0, none⟩ = some (.int .i64 1) := (blk_cell BK101.out 0).trans rfl; have hcz14_1 : w10.cell? ⟨gb101, 1, none⟩ = some (.int .i64 1) := (blk_cell BK101.out 1).trans rfl; have hcz14_2 : w10.cell? ⟨gb101, 2, none⟩ = some (.string (⟨#[]⟩ : ByteArray)) := (blk_cell BK101.out 2).trans rfl; have hfz14_0 := blk_frozen BK101.out 0; have hfz14_1 := blk_frozen BK101.out 1; have hfz14_2 := blk_frozen BK101.out 2) | ((with_reducible refine gate_dst (N := 13) rfl ?_); (try (refine gate_guard (by rfl) ?_; dsimp only)); refine Kd.R_lit k23 _ 23 ?hg (N := 13) ?hd (xs := ([(⟨1, 1, (⟨#[]⟩ : ByteArray)⟩ : S23), (⟨2, 0, (⟨#[120]⟩ : ByteArray)⟩ : S23)] : List (S23))) (inner := [.int .i64 1, .int .i64 1, .string (⟨#[]⟩ : ByteArray), .int .i64 2, .int .i64 0, .string (⟨#[120]⟩ : ByteArray)]) (ok := fun _ => True) (okp := fun _ => True) ?hr ?hp (fun _ hk => hk) trivial (Below.refl _ _) (Nat.le_refl _) (by simp) ?_; (case hd => rfl); (case hg => rfl); (case hr => first | (go_simp; done) | (go_simp; rfl)); (case hp => exact (Reps.c3 (show Kd.M k23 _ _ _ (⟨1, 1, (⟨#[]⟩ : ByteArray)⟩ : S23) [.int .i64 1, .int .i64 1, .string (⟨#[]⟩ : ByteArray)] from (k23_mkM _ _ _ (⟨1, 1, (⟨#[]⟩ : ByteArray)⟩ : S23) )) (Reps.c3 (show Kd.M k23 _ _ _ (⟨2, 0, (⟨#[120]⟩ : ByteArray)⟩ : S23) [.int .i64 2, .int .i64 0, .string (⟨#[120]⟩ : ByteArray)] from (k23_mkM _ _ _ (⟨2, 0, (⟨#[120]⟩ : ByteArray)⟩ : S23) )) (Reps.none _ _)))); intro v105 w15 ho16 hb hg_ hnew_; clear hg_ hnew_; (first | rw [← Ny104.out] at ho16 | (simp only [Int.reduceToNat] at ho16; rw [← Ny104.out] at ho16)); have n0_ := Aside0.mk (Kd.R_lower (Kd.R_newB (Kd.R_newB (Kd.R_newB ho16 (g := gb101) (o := .cells #[.int .i64 1, .int .i64 1, .string (⟨#[]⟩ : ByteArray)] 23 (0, 0)) (by (with_reducible repeat (first | refine blk_drewN ?_ _ | refine blk_drew ?_ | refine blk_alloc ?_ _)); refine blk_far ?_ NB101_103.out _; (with_reducible repeat (first | refine blk_drewN ?_ _ | refine blk_drew ?_ | refine blk_alloc ?_ _)); refine blk_far ?_ NB101_103.out _; (with_reducible repeat (first | refine blk_drewN ?_ _ | refine blk_drew ?_ | refine blk_alloc ?_ _)); refine blk_far ?_ NB101_103.out _; (with_reducible repeat (first | refine blk_drewN ?_ _ | refine blk_drew ?_ | refine blk_alloc ?_ _)); exact BK101.out)) (g := gb102) (o := .cells #[.int .i64 1, .int .i64 2, .string (⟨#[]⟩ : ByteArray)] 23 (0, 0)) (by (with_reducible repeat (first | refine blk_drewN ?_ _ | refine blk_drew ?_ | refine blk_alloc ?_ _)); refine blk_far ?_ NB102_103.out _; (with_reducible repeat (first | refine blk_drewN ?_ _ | refine blk_drew ?_ | refine blk_alloc ?_ _)); refine blk_far ?_ NB102_103.out _; (with_reducible repeat (first | refine blk_drewN ?_ _ | refine blk_drew ?_ | refine blk_alloc ?_ _)); refine blk_far ?_ NB102_103.out _; (with_reducible repeat (first | refine blk_drewN ?_ _ | refine blk_drew ?_ | refine blk_alloc ?_ _)); exact BK102.out)) (g := gb103) (o := .cells #[.int .i64 2, .int .i64 0, .string (⟨#[120]⟩ : ByteArray)] 23 (0, 0)) (by (with_reducible repeat (first | refine blk_drewN ?_ _ | refine blk_drew ?_ | refine blk_alloc ?_ _)); refine blk_put (cs := #[.int .i64 2, .int .i64 0, .string (⟨#[]⟩ : ByteArray)]) ?_ 2 _ rfl; (with_reducible repeat (first | refine blk_drewN ?_ _ | refine blk_drew ?_ | refine blk_alloc ?_ _)); refine blk_put (cs := #[.int .i64 2, .int .i64 0, .string (⟨#[]⟩ : ByteArray)]) ?_ 1 _ rfl; (with_reducible repeat (first | refine blk_drewN ?_ _ | refine blk_drew ?_ | refine blk_alloc ?_ _)); refine blk_put (cs := #[.int .i64 0, .int .i64 0, .string (⟨#[]⟩ : ByteArray)]) ?_ 0 _ rfl; (with_reducible repeat (first | refine blk_drewN ?_ _ | refine blk_drew ?_ | refine blk_alloc ?_ _)); exact BK103.out)) (below_size (by repeat (first | (with_reducible first | exact HB.out | apply below_alloc | apply pw_below_drewN | apply below_drew1 | refine below_set ?_ GE101.out | refine below_set ?_ GE102.out | refine below_set ?_ GE103.out) | exact HB.out)))); have n1_ := Aside0.mk (blk_below (g := gb101) (o := .cells #[.int .i64 1, .int .i64 1, .string (⟨#[]⟩ : ByteArray)] 23 (0, 0)) (by (with_reducible repeat (first | refine blk_drewN ?_ _ | refine blk_drew ?_ | refine blk_alloc ?_ _)); refine blk_far ?_ NB101_103.out _; (with_reducible repeat (first | refine blk_drewN ?_ _ | refine blk_drew ?_ | refine blk_alloc ?_ _)); refine blk_far ?_ NB101_103.out _; (with_reducible repeat (first | refine blk_drewN ?_ _ | refine blk_drew ?_ | refine blk_alloc ?_ _)); refine blk_far ?_ NB101_103.out _; (with_reducible repeat (first | refine blk_drewN ?_ _ | refine blk_drew ?_ | refine blk_alloc ?_ _)); exact BK101.out) hb); have n2_ := Aside0.mk (blk_below (g := gb102) (o := .cells #[.int .i64 1, .int .i64 2, .string (⟨#[]⟩ : ByteArray)] 23 (0, 0)) (by (with_reducible repeat (first | refine blk_drewN ?_ _ | refine blk_drew ?_ | refine blk_alloc ?_ _)); refine blk_far ?_ NB102_103.out _; (with_reducible repeat (first | refine blk_drewN ?_ _ | refine blk_drew ?_ | refine blk_alloc ?_ _)); refine blk_far ?_ NB102_103.out _; (with_reducible repeat (first | refine blk_drewN ?_ _ | refine blk_drew ?_ | refine blk_alloc ?_ _)); refine blk_far ?_ NB102_103.out _; (with_reducible repeat (first | refine blk_drewN ?_ _ | refine blk_drew ?_ | refine blk_alloc ?_ _)); exact BK102.out) hb); have n3_ := Aside0.mk (blk_below (g := gb103) (o := .cells #[.int .i64 2, .int .i64 0, .string (⟨#[120]⟩ : ByteArray)] 23 (0, 0)) (by (with_reducible repeat (first | refine blk_drewN ?_ _ | refine blk_drew ?_ | refine blk_alloc ?_ _)); refine blk_put (cs := #[.int .i64 2, .int .i64 0, .string (⟨#[]⟩ : ByteArray)]) ?_ 2 _ rfl; (with_reducible repeat (first | refine blk_drewN ?_ _ | refine blk_drew ?_ | refine blk_alloc ?_ _)); refine blk_put (cs := #[.int .i64 2, .int .i64 0, .string (⟨#[]⟩ : ByteArray)]) ?_ 1 _ rfl; (with_reducible repeat (first | refine blk_drewN ?_ _ | refine blk_drew ?_ | refine blk_alloc ?_ _)); refine blk_put (cs := #[.int .i64 0, .int .i64 0, .string (⟨#[]⟩ : ByteArray)]) ?_ 0 _ rfl; (with_reducible repeat (first | refine blk_drewN ?_ _ | refine blk_drew ?_ | refine blk_alloc ?_ _)); exact BK103.out) hb); have n4_ := Aside0.mk (below_step (by repeat (first | (with_reducible first | exact HB.out | apply below_alloc | apply pw_below_drewN | apply below_drew1 | refine below_set ?_ GE101.out | refine below_set ?_ GE102.out | refine below_set ?_ GE103.out) | exact HB.out)) hb); clear BK101; clear BK102; clear BK103; clear HB; have HO106 := n0_; have BK101 := n1_; have BK102 := n2_; have BK103 := n3_; have HB := n4_; clear n0_ n1_ n2_ n3_ n4_; clear hb ho16; obtain ⟨Ao17, co17, eo17⟩ := Kd.R_slice HO106.out; subst eo17; have hcz18_0 : w15.cell? ⟨gb102, 0, none⟩ = some (.int .i64 1) := (blk_cell BK102.out 0).trans rfl; have hcz18_1 : w15.cell? ⟨gb102, 1, none⟩ = some (.int .i64 2) := (blk_cell BK102.out 1).trans rfl; have hcz18_2 : w15.cell? ⟨gb102, 2, none⟩ = some (.string (⟨#[]⟩ : ByteArray)) := (blk_cell BK102.out 2).trans rfl; have hfz18_0 := blk_frozen BK102.out 0; have hfz18_1 := blk_frozen BK102.out 1; have hfz18_2 := blk_frozen BK102.out 2; have hcz19_0 : w15.cell? ⟨gb103, 0, none⟩ = some (.int .i64 2) := (blk_cell BK103.out 0).trans rfl; have hcz19_1 : w15.cell? ⟨gb103, 1, none⟩ = some (.int .i64 0) := (blk_cell BK103.out 1).trans rfl; have hcz19_2 : w15.cell? ⟨gb103, 2, none⟩ = some (.string (⟨#[120]⟩ : ByteArray)) := (blk_cell BK103.out 2).trans rfl; have hfz19_0 := blk_frozen BK103.out 0; have hfz19_1 := blk_frozen BK103.out 1; have hfz19_2 := blk_frozen BK103.out 2) | ((with_reducible refine gate_dst (N := 17) rfl ?_); (try (refine gate_guard (by rfl) ?_; dsimp only)); refine Kd.R_lit k23 _ 23 ?hg (N := 17) ?hd (xs := ([(⟨1, 2, (⟨#[]⟩ : ByteArray)⟩ : S23), (⟨2, 0, (⟨#[120]⟩ : ByteArray)⟩ : S23)] : List (S23))) (inner := [.int .i64 1, .int .i64 2, .string (⟨#[]⟩ : ByteArray), .int .i64 2, .int .i64 0, .string (⟨#[120]⟩ : ByteArray)]) (ok := fun _ => True) (okp := fun _ => True) ?hr ?hp (fun _ hk => hk) trivial (Below.refl _ _) (Nat.le_refl _) (by simp) ?_; (case hd => rfl); (case hg => rfl); (case hr => first | (go_simp; done) | (go_simp; rfl)); (case hp => exact (Reps.c3 (show Kd.M k23 _ _ _ (⟨1, 2, (⟨#[]⟩ : ByteArray)⟩ : S23) [.int .i64 1, .int .i64 2, .string (⟨#[]⟩ : ByteArray)] from (k23_mkM _ _ _ (⟨1, 2, (⟨#[]⟩ : ByteArray)⟩ : S23) )) (Reps.c3 (show Kd.M k23 _ _ _ (⟨2, 0, (⟨#[120]⟩ : ByteArray)⟩ : S23) [.int .i64 2, .int .i64 0, .string (⟨#[120]⟩ : ByteArray)] from (k23_mkM _ _ _ (⟨2, 0, (⟨#[120]⟩ : ByteArray)⟩ : S23) )) (Reps.none _ _)))); intro v108 w20 ho21 hb hg_ hnew_; clear hg_ hnew_; (first | rw [← Ny107.out] at ho21 | (simp only [Int.reduceToNat] at ho21; rw [← Ny107.out] at ho21)); have n0_ := Aside0.mk (Kd.R_elder' (qr_ HO106.out) (Kd.R_base ho21) hb); have n1_ := Aside0.mk (Kd.R_lower (Kd.R_newB (Kd.R_newB (Kd.R_newB (Kd.R_new' ho21 (Kd.R_lt (qr_ HO106.out))) (g := gb101) (o := .cells #[.int .i64 1, .int .i64 1, .string (⟨#[]⟩ : ByteArray)] 23 (0, 0)) (qb_ BK101.out)) (g := gb102) (o := .cells #[.int .i64 1, .int .i64 2, .string (⟨#[]⟩ : ByteArray)] 23 (0, 0)) (qb_ BK102.out)) (g := gb103) (o := .cells #[.int .i64 2, .int .i64 0, .string (⟨#[120]⟩ : ByteArray)] 23 (0, 0)) (qb_ BK103.out)) (below_size (by repeat (first | (with_reducible first | exact HB.out | apply below_alloc | apply pw_below_drewN | apply below_drew1 | refine below_set ?_ GE101.out | refine below_set ?_ GE102.out | refine below_set ?_ GE103.out) | exact HB.out)))); have n2_ := Aside0.mk (blk_below (g := gb101) (o := .cells #[.int .i64 1, .int .i64 1, .string (⟨#[]⟩ : ByteArray)] 23 (0, 0)) (qb_ BK101.out) hb); have n3_ := Aside0.mk (blk_below (g := gb102) (o := .cells #[.int .i64 1, .int .i64 2, .string (⟨#[]⟩ : ByteArray)] 23 (0, 0)) (qb_ BK102.out) hb); have n4_ := Aside0.mk (blk_below (g := gb103) (o := .cells #[.int .i64 2, .int .i64 0, .string (⟨#[120]⟩ : ByteArray)] 23 (0, 0)) (qb_ BK103.out) hb); have n5_ := Aside0.mk (below_step (by repeat (first | (with_reducible first | exact HB.out | apply below_alloc | apply pw_below_drewN | apply below_drew1 | refine below_set ?_ GE101.out | refine below_set ?_ GE102.out | refine below_set ?_ GE103.out) | exact HB.out)) hb); clear HO106; clear BK101; clear BK102; clear BK103; clear HB; have HO106 := n0_; have HO109 := n1_; have BK101 := n2_; have BK102 := n3_; have BK103 := n4_; have HB := n5_; clear n0_ n1_ n2_ n3_ n4_ n5_; clear hb ho21; obtain ⟨Ao22, co22, eo22⟩ := Kd.R_slice HO109.out; subst eo22) | ((with_reducible refine gate_dst (N := 19) rfl ?_); (try (refine gate_guard (by rfl) ?_; dsimp only)); refine Kd.N_lit k44 _ 44 ?hg (N' := 19) ?hd (xs := ([(⟨y104, 2⟩ : S44), (⟨y107, 1⟩ : S44)] : List (S44))) (inner := [.slice Ao17 y104.length co17, .int .i64 2, .slice Ao22 y107.length co22, .int .i64 1]) (ok := (fun k_ => k_ ≠ gb101 ∧ k_ ≠ gb102 ∧ k_ ≠ gb103)) (okp := (fun k_ => k_ ≠ gb101 ∧ k_ ≠ gb102 ∧ k_ ≠ gb103)) ?hr ?hp (fun _ hk => hk) ((show ∀ k_, w20.heap.size ≤ k_ → (fun k_ => k_ ≠ gb101 ∧ k_ ≠ gb102 ∧ k_ ≠ gb103) k_ from fun k_ hk => ⟨Kd.freshB (g := gb101) (o := .cells #[.int .i64 1, .int .i64 1, .string (⟨#[]⟩ : ByteArray)] 23 (0, 0)) (qb_ BK101.out) k_ hk, Kd.freshB (g := gb102) (o := .cells #[.int .i64 1, .int .i64 2, .string (⟨#[]⟩ : ByteArray)] 23 (0, 0)) (qb_ BK102.out) k_ hk, Kd.freshB (g := gb103) (o := .cells #[.int .i64 2, .int .i64 0, .string (⟨#[120]⟩ : ByteArray)] 23 (0, 0)) (qb_ BK103.out) k_ hk⟩) _ (Nat.le_refl _)) (Below.refl _ _) (Nat.le_refl _) (by simp) ?_; (case hd => rfl); (case hg => rfl); (case hr => first | (go_simp; done) | (go_simp; rfl)); (case hp => exact (Reps.c2 (show Kd.FK k44 _ _ (⟨y104, 2⟩ : S44) [.slice Ao17 y104.length co17, .int .i64 2] from (k44_mkF _ _ (⟨y104, 2⟩ : S44) (Kd.R_reads' (Kd.R_mono (ok' := (fun k_ => k_ ≠ gb101 ∧ k_ ≠ gb102 ∧ k_ ≠ gb103)) (HO106.out) (fun k_ hk => ⟨hk.1.1.1.2, ⟨hk.1.1.2, hk.1.2⟩⟩))).2.1 (Kd.R_F (Kd.R_mono (ok' := (fun k_ => k_ ≠ gb101 ∧ k_ ≠ gb102 ∧ k_ ≠ gb103)) (HO106.out) (fun k_ hk => ⟨hk.1.1.1.2, ⟨hk.1.1.2, hk.1.2⟩⟩))))) (Reps.c2 (show Kd.FK k44 _ _ (⟨y107, 1⟩ : S44) [.slice Ao22 y107.length co22, .int .i64 1] from (k44_mkF _ _ (⟨y107, 1⟩ : S44) (Kd.R_reads' (Kd.R_mono (ok' := (fun k_ => k_ ≠ gb101 ∧ k_ ≠ gb102 ∧ k_ ≠ gb103)) (HO109.out) (fun k_ hk => ⟨hk.1.1.2, ⟨hk.1.2, hk.2⟩⟩))).2.1 (Kd.R_F (Kd.R_mono (ok' := (fun k_ => k_ ≠ gb101 ∧ k_ ≠ gb102 ∧ k_ ≠ gb103)) (HO109.out) (fun k_ hk => ⟨hk.1.1.2, ⟨hk.1.2, hk.2⟩⟩))))) (Reps.none _ _)))); intro v111 w23 ho24 hb hg_ hnew_; clear hg_ hnew_; (first | rw [← Ny110.out] at ho24 | (simp only [Int.reduceToNat] at ho24; rw [← Ny110.out] at ho24)); have n0_ := Aside0.mk (Kd.N_lower ho24 (below_size (by repeat (first | (with_reducible first | exact HB.out | apply below_alloc | apply pw_below_drewN | apply below_drew1 | refine below_set ?_ GE101.out | refine below_set ?_ GE102.out | refine below_set ?_ GE103.out) | exact HB.out)))); have n1_ := Aside0.mk (blk_below (g := gb101) (o := .cells #[.int .i64 1, .int .i64 1, .string (⟨#[]⟩ : ByteArray)] 23 (0, 0)) (qb_ BK101.out) hb); have n2_ := Aside0.mk (blk_below (g := gb102) (o := .cells #[.int .i64 1, .int .i64 2, .string (⟨#[]⟩ : ByteArray)] 23 (0, 0)) (qb_ BK102.out) hb); have n3_ := Aside0.mk (blk_below (g := gb103) (o := .cells #[.int .i64 2, .int .i64 0, .string (⟨#[120]⟩ : ByteArray)] 23 (0, 0)) (qb_ BK103.out) hb); have n4_ := Aside0.mk (below_step (by repeat (first | (with_reducible first | exact HB.out | apply below_alloc | apply pw_below_drewN | apply below_drew1 | refine below_set ?_ GE101.out | refine below_set ?_ GE102.out | refine below_set ?_ GE103.out) | exact HB.out)) hb); clear BK101; clear BK102; clear BK103; clear HB; clear HO106; clear HO109; have HO112 := n0_; have BK101 := n1_; have BK102 := n2_; have BK103 := n3_; have HB := n4_; clear n0_ n1_ n2_ n3_ n4_; clear hb ho24) | ((with_reducible refine gate_dst (N := 20) rfl ?_); (try (refine gate_guard (by rfl) ?_; dsimp only)); refine Kd.R_lit (Kd.int .i64) _ 3 ?hg (N := 20) ?hd (xs := ([0] : List Int)) (inner := [.int .i64 0]) (ok := fun _ => True) (okp := fun _ => True) ?hr ?hp (fun _ hk => hk) trivial (Below.refl _ _) (Nat.le_refl _) (by simp) ?_; (case hd => rfl); (case hg => rfl); (case hr => first | (go_simp; done) | (go_simp; rfl)); (case hp => exact (Reps.one (show Kd.M (Kd.int .i64) _ _ _ 0 [.int .i64 0] from rfl) (Reps.none _ _))); intro v114 w25 ho26 hb hg_ hnew_; clear hg_ hnew_; (first | rw [← Ny113.out] at ho26 | (simp only [Int.reduceToNat] at ho26; rw [← Ny113.out] at ho26)); have n0_ := Aside0.mk (Kd.N_elder' (qn_ HO112.out) (Kd.R_base ho26) hb); have n1_ := Aside0.mk (Kd.R_lower ho26 (below_size (by repeat (first | (with_reducible first | exact HB.out | apply below_alloc | apply pw_below_drewN | apply below_drew1 | refine below_set ?_ GE101.out | refine below_set ?_ GE102.out | refine below_set ?_ GE103.out) | exact HB.out)))); have n2_ := Aside0.mk (blk_below (g := gb101) (o := .cells #[.int .i64 1, .int .i64 1, .string (⟨#[]⟩ : ByteArray)] 23 (0, 0)) (qb_ BK101.out) hb); have n3_ := Aside0.mk (blk_below (g := gb102) (o := .cells #[.int .i64 1, .int .i64 2, .string (⟨#[]⟩ : ByteArray)] 23 (0, 0)) (qb_ BK102.out) hb); have n4_ := Aside0.mk (blk_below (g := gb103) (o := .cells #[.int .i64 2, .int .i64 0, .string (⟨#[120]⟩ : ByteArray)] 23 (0, 0)) (qb_ BK103.out) hb); have n5_ := Aside0.mk (below_step (by repeat (first | (with_reducible first | exact HB.out | apply below_alloc | apply pw_below_drewN | apply below_drew1 | refine below_set ?_ GE101.out | refine below_set ?_ GE102.out | refine below_set ?_ GE103.out) | exact HB.out)) hb); clear HO112; clear BK101; clear BK102; clear BK103; clear HB; have HO112 := n0_; have HO115 := n1_; have BK101 := n2_; have BK102 := n3_; have BK103 := n4_; have HB := n5_; clear n0_ n1_ n2_ n3_ n4_ n5_; clear hb ho26; have hcz27_0 : w25.cell? ⟨gb101, 0, none⟩ = some (.int .i64 1) := (blk_cell BK101.out 0).trans rfl; have hcz27_1 : w25.cell? ⟨gb101, 1, none⟩ = some (.int .i64 1) := (blk_cell BK101.out 1).trans rfl; have hcz27_2 : w25.cell? ⟨gb101, 2, none⟩ = some (.string (⟨#[]⟩ : ByteArray)) := (blk_cell BK101.out 2).trans rfl; have hfz27_0 := blk_frozen BK101.out 0; have hfz27_1 := blk_frozen BK101.out 1; have hfz27_2 := blk_frozen BK101.out 2; obtain ⟨Ao28, co28, eo28⟩ := Kd.R_slice HO115.out; subst eo28; obtain ⟨Ao29, co29, eo29⟩ := Kd.N_slice HO112.out; subst eo29) | ((with_reducible refine gate_callee (f := 13) rfl ?_); refine goesL_ (some 24) rfl rfl Try.func13 (by kernel_rfl) rfl #[.agg #[.int .i64 2, .string (⟨#[116]⟩ : ByteArray), .string (⟨#[]⟩ : ByteArray), .slice Ao28 y113.length co28, .slice none 0 0, .int .i64 5, .int .i64 1, .int .i64 1, .string (⟨#[]⟩ : ByteArray), .slice none 0 0], .slice Ao29 y110.length co29, .slice none 0 0] rfl (by (try simp only [List.map_toArray, List.map_cons, List.map_nil]); first | done | rfl | (simp only [List.length_drop, List.length_take]; rfl)) ?_; (refine (evalA.calls k 2 (⟨#[116]⟩ : ByteArray) (⟨#[]⟩ : ByteArray) _ _ y113 _ _ ([] : List Int) 5 1 1 (⟨#[]⟩ : ByteArray) _ _ ([] : List (S46)) (fun k_ => ((k_ ≠ gb101 ∧ (k_ ≠ gb102 ∧ k_ ≠ gb103)) ∧ some k_ ≠ (.slice Ao28 y113.length co28 : Value).ownBlock)) _ _ y110 (fun k_ => False) _ _ ([] : List (S44)) t116 _ ?side1 ?side2 ?side3 ?side4 ?side5 ?side6 ?side7 ?side8 A1.out).mono ?_); (case side1 => repeat (first | exact (Kd.R_reads' HO115.out).2.2 | (with_reducible refine Kd.C_alloc ?_ _) | (with_reducible refine Kd.C_drewN ?_ _) | (with_reducible refine Kd.C_drew ?_))); (case side2 => exact (Kd.R_reads' HO115.out).2.1); (case side3 => exact Kd.C_nil _ _); (case side4 => exact Nat.le_refl _); (case side5 => exact Kd.C_nil _ _); (case side6 => exact Nat.le_refl _); (case side7 => exact Kd.N_V (HO112.out)); (case side8 => exact Kd.V_nil _ _ _ _ _); rintro e w30 ⟨v117, rfl, ho0, hb⟩; refine ⟨_, rfl, ?_⟩; have n0_ := Aside0.mk (Kd.N_elder' (qn_ HO112.out) (Kd.N_base ho0) hb); have n1_ := Aside0.mk (Kd.R_below (qr_ HO115.out) hb); have n2_ := Aside0.mk (Kd.N_lower (Kd.N_mono (ok' := fun k_ => some k_ ≠ (.slice Ao28 y113.length co28 : Value).ownBlock ∧ k_ ≠ gb101 ∧ k_ ≠ gb102 ∧ k_ ≠ gb103) ho0 (fun k_ hk_ => ⟨Or.elim hk_ (fun hs_ => Or.elim hs_ (fun hs_ => hs_.2) (fun hs_ => (hs_).elim)) (fun hn_ => (Kd.fresh' (Kd.R_lt (qr_ HO115.out)) k_ hn_)), Or.elim hk_ (fun hs_ => Or.elim hs_ (fun hs_ => hs_.1.1) (fun hs_ => (hs_).elim)) (fun hn_ => (Kd.freshB (g := gb101) (o := .cells #[.int .i64 1, .int .i64 1, .string (⟨#[]⟩ : ByteArray)] 23 (0, 0)) (qb_ BK101.out) k_ hn_)), Or.elim hk_ (fun hs_ => Or.elim hs_ (fun hs_ => hs_.1.2.1) (fun hs_ => (hs_).elim)) (fun hn_ => (Kd.freshB (g := gb102) (o := .cells #[.int .i64 1, .int .i64 2, .string (⟨#[]⟩ : ByteArray)] 23 (0, 0)) (qb_ BK102.out) k_ hn_)), Or.elim hk_ (fun hs_ => Or.elim hs_ (fun hs_ => hs_.1.2.2) (fun hs_ => (hs_).elim)) (fun hn_ => (Kd.freshB (g := gb103) (o := .cells #[.int .i64 2, .int .i64 0, .string (⟨#[120]⟩ : ByteArray)] 23 (0, 0)) (qb_ BK103.out) k_ hn_))⟩)) (below_size (by repeat (first | (with_reducible first | exact HB.out | apply below_alloc | apply pw_below_drewN | apply below_drew1 | refine below_set ?_ GE101.out | refine below_set ?_ GE102.out | refine below_set ?_ GE103.out) | exact HB.out)))); have n3_ := Aside0.mk (blk_below (g := gb101) (o := .cells #[.int .i64 1, .int .i64 1, .string (⟨#[]⟩ : ByteArray)] 23 (0, 0)) (qb_ BK101.out) hb); have n4_ := Aside0.mk (blk_below (g := gb102) (o := .cells #[.int .i64 1, .int .i64 2, .string (⟨#[]⟩ : ByteArray)] 23 (0, 0)) (qb_ BK102.out) hb); have n5_ := Aside0.mk (blk_below (g := gb103) (o := .cells #[.int .i64 2, .int .i64 0, .string (⟨#[120]⟩ : ByteArray)] 23 (0, 0)) (qb_ BK103.out) hb); have n6_ := Aside0.mk (below_step (by repeat (first | (with_reducible first | exact HB.out | apply below_alloc | apply pw_below_drewN | apply below_drew1 | refine below_set ?_ GE101.out | refine below_set ?_ GE102.out | refine below_set ?_ GE103.out) | exact HB.out)) hb); clear HO112; clear HO115; clear BK101; clear BK102; clear BK103; clear HB; have HO112 := n0_; have HO115 := n1_; have HO118 := n2_; have BK101 := n3_; have BK102 := n4_; have BK103 := n5_; have HB := n6_; clear n0_ n1_ n2_ n3_ n4_ n5_ n6_; (try clear hb); (try clear hb2); (try clear hk); (try clear hi); (try clear ho0)) | ((with_reducible refine gate_dst (N := 25) rfl ?_); (try (refine gate_guard (by rfl) ?_; dsimp only)); refine Kd.R_lit (Kd.int .i64) _ 3 ?hg (N := 25) ?hd (xs := ([1] : List Int)) (inner := [.int .i64 1]) (ok := fun _ => True) (okp := fun _ => True) ?hr ?hp (fun _ hk => hk) trivial (Below.refl _ _) (Nat.le_refl _) (by simp) ?_; (case hd => rfl); (case hg => rfl); (case hr => first | (go_simp; done) | (go_simp; rfl)); (case hp => exact (Reps.one (show Kd.M (Kd.int .i64) _ _ _ 1 [.int .i64 1] from rfl) (Reps.none _ _))); intro v120 w31 ho32 hb hg_ hnew_; clear hg_ hnew_; (first | rw [← Ny119.out] at ho32 | (simp only [Int.reduceToNat] at ho32; rw [← Ny119.out] at ho32)); have n0_ := Aside0.mk (Kd.N_elder' (qn_ HO112.out) (Kd.R_base ho32) hb); have n1_ := Aside0.mk (Kd.R_elder' (qr_ HO115.out) (Kd.R_base ho32) hb); have n2_ := Aside0.mk (Kd.N_elder' (qn_ HO118.out) (Kd.R_base ho32) hb); have n3_ := Aside0.mk (Kd.R_lower (Kd.R_new' ho32 (Kd.R_lt (qr_ HO115.out))) (below_size (by repeat (first | (with_reducible first | exact HB.out | apply below_alloc | apply pw_below_drewN | apply below_drew1 | refine below_set ?_ GE101.out | refine below_set ?_ GE102.out | refine below_set ?_ GE103.out) | exact HB.out)))); have n4_ := Aside0.mk (blk_below (g := gb101) (o := .cells #[.int .i64 1, .int .i64 1, .string (⟨#[]⟩ : ByteArray)] 23 (0, 0)) (qb_ BK101.out) hb); have n5_ := Aside0.mk (blk_below (g := gb102) (o := .cells #[.int .i64 1, .int .i64 2, .string (⟨#[]⟩ : ByteArray)] 23 (0, 0)) (qb_ BK102.out) hb); have n6_ := Aside0.mk (blk_below (g := gb103) (o := .cells #[.int .i64 2, .int .i64 0, .string (⟨#[120]⟩ : ByteArray)] 23 (0, 0)) (qb_ BK103.out) hb); have n7_ := Aside0.mk (below_step (by repeat (first | (with_reducible first | exact HB.out | apply below_alloc | apply pw_below_drewN | apply below_drew1 | refine below_set ?_ GE101.out | refine below_set ?_ GE102.out | refine below_set ?_ GE103.out) | exact HB.out)) hb); clear HO112; clear HO115; clear HO118; clear BK101; clear BK102; clear BK103; clear HB; have HO112 := n0_; have HO115 := n1_; have HO118 := n2_; have HO121 := n3_; have BK101 := n4_; have BK102 := n5_; have BK103 := n6_; have HB := n7_; clear n0_ n1_ n2_ n3_ n4_ n5_ n6_ n7_; clear hb ho32; obtain ⟨Ao33, co33, eo33⟩ := Kd.R_slice HO121.out; subst eo33) | ((with_reducible refine gate_callee (f := 13) rfl ?_); refine goesL_ (some 28) rfl rfl Try.func13 (by kernel_rfl) rfl #[.agg #[.int .i64 3, .string (⟨#[116]⟩ : ByteArray), .string (⟨#[]⟩ : ByteArray), .slice Ao33 y119.length co33, .slice none 0 0, .int .i64 0, .int .i64 0, .int .i64 0, .string (⟨#[]⟩ : ByteArray), .slice none 0 0], .slice Ao29 y110.length co29, .slice none 0 0] rfl (by (try simp only [List.map_toArray, List.map_cons, List.map_nil]); first | done | rfl | (simp only [List.length_drop, List.length_take]; rfl)) ?_; (refine (evalA.calls k 3 (⟨#[116]⟩ : ByteArray) (⟨#[]⟩ : ByteArray) _ _ y119 _ _ ([] : List Int) 0 0 0 (⟨#[]⟩ : ByteArray) _ _ ([] : List (S46)) (fun k_ => ((((k_ ≠ gb101 ∧ (k_ ≠ gb102 ∧ k_ ≠ gb103)) ∧ some k_ ≠ (.slice Ao28 y113.length co28 : Value).ownBlock) ∧ some k_ ≠ (v117 : Value).ownBlock) ∧ some k_ ≠ (.slice Ao33 y119.length co33 : Value).ownBlock)) _ _ y110 (fun k_ => False) _ _ ([] : List (S44)) t122 _ ?side1 ?side2 ?side3 ?side4 ?side5 ?side6 ?side7 ?side8 A2.out).mono ?_); (case side1 => repeat (first | exact (Kd.R_reads' HO121.out).2.2 | (with_reducible refine Kd.C_alloc ?_ _) | (with_reducible refine Kd.C_drewN ?_ _) | (with_reducible refine Kd.C_drew ?_))); (case side2 => exact (Kd.R_reads' HO121.out).2.1); (case side3 => exact Kd.C_nil _ _); (case side4 => exact Nat.le_refl _); (case side5 => exact Kd.C_nil _ _); (case side6 => exact Nat.le_refl _); (case side7 => exact Kd.N_V (HO112.out)); (case side8 => exact Kd.V_nil _ _ _ _ _); rintro e w34 ⟨v123, rfl, ho0, hb⟩; refine ⟨_, rfl, ?_⟩; have n0_ := Aside0.mk (Kd.N_elder' (qn_ HO112.out) (Kd.N_base ho0) hb); have n1_ := Aside0.mk (Kd.R_below (qr_ HO115.out) hb); have n2_ := Aside0.mk (Kd.N_elder' (qn_ HO118.out) (Kd.N_base ho0) hb); have n3_ := Aside0.mk (Kd.R_below (qr_ HO121.out) hb); have n4_ := Aside0.mk (Kd.N_lower (Kd.N_mono (ok' := fun k_ => some k_ ≠ (.slice Ao28 y113.length co28 : Value).ownBlock ∧ some k_ ≠ (v117 : Value).ownBlock ∧ some k_ ≠ (.slice Ao33 y119.length co33 : Value).ownBlock ∧ k_ ≠ gb101 ∧ k_ ≠ gb102 ∧ k_ ≠ gb103) ho0 (fun k_ hk_ => ⟨Or.elim hk_ (fun hs_ => Or.elim hs_ (fun hs_ => hs_.1.1.2) (fun hs_ => (hs_).elim)) (fun hn_ => (Kd.fresh' (Kd.R_lt (qr_ HO115.out)) k_ hn_)), Or.elim hk_ (fun hs_ => Or.elim hs_ (fun hs_ => hs_.1.2) (fun hs_ => (hs_).elim)) (fun hn_ => (Kd.fresh' (Kd.N_lt (qn_ HO118.out)) k_ hn_)), Or.elim hk_ (fun hs_ => Or.elim hs_ (fun hs_ => hs_.2) (fun hs_ => (hs_).elim)) (fun hn_ => (Kd.fresh' (Kd.R_lt (qr_ HO121.out)) k_ hn_)), Or.elim hk_ (fun hs_ => Or.elim hs_ (fun hs_ => hs_.1.1.1.1) (fun hs_ => (hs_).elim)) (fun hn_ => (Kd.freshB (g := gb101) (o := .cells #[.int .i64 1, .int .i64 1, .string (⟨#[]⟩ : ByteArray)] 23 (0, 0)) (qb_ BK101.out) k_ hn_)), Or.elim hk_ (fun hs_ => Or.elim hs_ (fun hs_ => hs_.1.1.1.2.1) (fun hs_ => (hs_).elim)) (fun hn_ => (Kd.freshB (g := gb102) (o := .cells #[.int .i64 1, .int .i64 2, .string (⟨#[]⟩ : ByteArray)] 23 (0, 0)) (qb_ BK102.out) k_ hn_)), Or.elim hk_ (fun hs_ => Or.elim hs_ (fun hs_ => hs_.1.1.1.2.2) (fun hs_ => (hs_).elim)) (fun hn_ => (Kd.freshB (g := gb103) (o := .cells #[.int .i64 2, .int .i64 0, .string (⟨#[120]⟩ : ByteArray)] 23 (0, 0)) (qb_ BK103.out) k_ hn_))⟩)) (below_size (by repeat (first | (with_reducible first | exact HB.out | apply below_alloc | apply pw_below_drewN | apply below_drew1 | refine below_set ?_ GE101.out | refine below_set ?_ GE102.out | refine below_set ?_ GE103.out) | exact HB.out)))); have n5_ := Aside0.mk (blk_below (g := gb101) (o := .cells #[.int .i64 1, .int .i64 1, .string (⟨#[]⟩ : ByteArray)] 23 (0, 0)) (qb_ BK101.out) hb); have n6_ := Aside0.mk (blk_below (g := gb102) (o := .cells #[.int .i64 1, .int .i64 2, .string (⟨#[]⟩ : ByteArray)] 23 (0, 0)) (qb_ BK102.out) hb); have n7_ := Aside0.mk (blk_below (g := gb103) (o := .cells #[.int .i64 2, .int .i64 0, .string (⟨#[120]⟩ : ByteArray)] 23 (0, 0)) (qb_ BK103.out) hb); have n8_ := Aside0.mk (below_step (by repeat (first | (with_reducible first | exact HB.out | apply below_alloc | apply pw_below_drewN | apply below_drew1 | refine below_set ?_ GE101.out | refine below_set ?_ GE102.out | refine below_set ?_ GE103.out) | exact HB.out)) hb); clear HO112; clear HO115; clear HO118; clear HO121; clear BK101; clear BK102; clear BK103; clear HB; have HO112 := n0_; have HO115 := n1_; have HO118 := n2_; have HO121 := n3_; have HO124 := n4_; have BK101 := n5_; have BK102 := n6_; have BK103 := n7_; have HB := n8_; clear n0_ n1_ n2_ n3_ n4_ n5_ n6_ n7_ n8_; (try clear hb); (try clear hb2); (try clear hk); (try clear hi); (try clear ho0)) | ((with_reducible refine gate_dst (N := 29) rfl ?_); (try (refine gate_guard (by rfl) ?_; dsimp only)); refine Kd.R_lit (Kd.int .i64) _ 3 ?hg (N := 29) ?hd (xs := ([1] : List Int)) (inner := [.int .i64 1]) (ok := fun _ => True) (okp := fun _ => True) ?hr ?hp (fun _ hk => hk) trivial (Below.refl _ _) (Nat.le_refl _) (by simp) ?_; (case hd => rfl); (case hg => rfl); (case hr => first | (go_simp; done) | (go_simp; rfl)); (case hp => exact (Reps.one (show Kd.M (Kd.int .i64) _ _ _ 1 [.int .i64 1] from rfl) (Reps.none _ _))); intro v126 w35 ho36 hb hg_ hnew_; clear hg_ hnew_; (first | rw [← Ny125.out] at ho36 | (simp only [Int.reduceToNat] at ho36; rw [← Ny125.out] at ho36)); have n0_ := Aside0.mk (Kd.N_elder' (qn_ HO112.out) (Kd.R_base ho36) hb); have n1_ := Aside0.mk (Kd.R_elder' (qr_ HO115.out) (Kd.R_base ho36) hb); have n2_ := Aside0.mk (Kd.N_elder' (qn_ HO118.out) (Kd.R_base ho36) hb); have n3_ := Aside0.mk (Kd.R_elder' (qr_ HO121.out) (Kd.R_base ho36) hb); have n4_ := Aside0.mk (Kd.N_elder' (qn_ HO124.out) (Kd.R_base ho36) hb); have n5_ := Aside0.mk (Kd.R_lower (Kd.R_new' (Kd.R_new' ho36 (Kd.R_lt (qr_ HO115.out))) (Kd.R_lt (qr_ HO121.out))) (below_size (by repeat (first | (with_reducible first | exact HB.out | apply below_alloc | apply pw_below_drewN | apply below_drew1 | refine below_set ?_ GE101.out | refine below_set ?_ GE102.out | refine below_set ?_ GE103.out) | exact HB.out)))); have n6_ := Aside0.mk (blk_below (g := gb101) (o := .cells #[.int .i64 1, .int .i64 1, .string (⟨#[]⟩ : ByteArray)] 23 (0, 0)) (qb_ BK101.out) hb); have n7_ := Aside0.mk (blk_below (g := gb102) (o := .cells #[.int .i64 1, .int .i64 2, .string (⟨#[]⟩ : ByteArray)] 23 (0, 0)) (qb_ BK102.out) hb); have n8_ := Aside0.mk (blk_below (g := gb103) (o := .cells #[.int .i64 2, .int .i64 0, .string (⟨#[120]⟩ : ByteArray)] 23 (0, 0)) (qb_ BK103.out) hb); have n9_ := Aside0.mk (below_step (by repeat (first | (with_reducible first | exact HB.out | apply below_alloc | apply pw_below_drewN | apply below_drew1 | refine below_set ?_ GE101.out | refine below_set ?_ GE102.out | refine below_set ?_ GE103.out) | exact HB.out)) hb); clear HO112; clear HO115; clear HO118; clear HO121; clear HO124; clear BK101; clear BK102; clear BK103; clear HB; have HO112 := n0_; have HO115 := n1_; have HO118 := n2_; have HO121 := n3_; have HO124 := n4_; have HO127 := n5_; have BK101 := n6_; have BK102 := n7_; have BK103 := n8_; have HB := n9_; clear n0_ n1_ n2_ n3_ n4_ n5_ n6_ n7_ n8_ n9_; clear hb ho36) | ((with_reducible refine gate_dst (N := 31) rfl ?_); (try (refine gate_guard (by rfl) ?_; dsimp only)); refine Kd.R_lit k46 _ 46 ?hg (N := 31) ?hd (xs := ([(⟨2, 0⟩ : S46)] : List (S46))) (inner := [.int .i64 2, .int .i64 0]) (ok := fun _ => True) (okp := fun _ => True) ?hr ?hp (fun _ hk => hk) trivial (Below.refl _ _) (Nat.le_refl _) (by simp) ?_; (case hd => rfl); (case hg => rfl); (case hr => first | (go_simp; done) | (go_simp; rfl)); (case hp => exact (Reps.c2 (show Kd.M k46 _ _ _ (⟨2, 0⟩ : S46) [.int .i64 2, .int .i64 0] from (k46_mkM _ _ _ (⟨2, 0⟩ : S46) )) (Reps.none _ _))); intro v129 w37 ho38 hb hg_ hnew_; clear hg_ hnew_; (first | rw [← Ny128.out] at ho38 | (simp only [Int.reduceToNat] at ho38; rw [← Ny128.out] at ho38)); have n0_ := Aside0.mk (Kd.N_elder' (qn_ HO112.out) (Kd.R_base ho38) hb); have n1_ := Aside0.mk (Kd.R_below (qr_ HO115.out) hb); have n2_ := Aside0.mk (Kd.N_elder' (qn_ HO118.out) (Kd.R_base ho38) hb); have n3_ := Aside0.mk (Kd.R_below (qr_ HO121.out) hb); have n4_ := Aside0.mk (Kd.N_elder' (qn_ HO124.out) (Kd.R_base ho38) hb); have n5_ := Aside0.mk (Kd.R_below (qr_ HO127.out) hb); have n6_ := Aside0.mk (Kd.R_lower ho38 (below_size (by repeat (first | (with_reducible first | exact HB.out | apply below_alloc | apply pw_below_drewN | apply below_drew1 | refine below_set ?_ GE101.out | refine below_set ?_ GE102.out | refine below_set ?_ GE103.out) | exact HB.out)))); have n7_ := Aside0.mk (blk_below (g := gb101) (o := .cells #[.int .i64 1, .int .i64 1, .string (⟨#[]⟩ : ByteArray)] 23 (0, 0)) (qb_ BK101.out) hb); have n8_ := Aside0.mk (blk_below (g := gb102) (o := .cells #[.int .i64 1, .int .i64 2, .string (⟨#[]⟩ : ByteArray)] 23 (0, 0)) (qb_ BK102.out) hb); have n9_ := Aside0.mk (blk_below (g := gb103) (o := .cells #[.int .i64 2, .int .i64 0, .string (⟨#[120]⟩ : ByteArray)] 23 (0, 0)) (qb_ BK103.out) hb); have n10_ := Aside0.mk (below_step (by repeat (first | (with_reducible first | exact HB.out | apply below_alloc | apply pw_below_drewN | apply below_drew1 | refine below_set ?_ GE101.out | refine below_set ?_ GE102.out | refine below_set ?_ GE103.out) | exact HB.out)) hb); clear HO112; clear HO115; clear HO118; clear HO121; clear HO124; clear HO127; clear BK101; clear BK102; clear BK103; clear HB; have HO112 := n0_; have HO115 := n1_; have HO118 := n2_; have HO121 := n3_; have HO124 := n4_; have HO127 := n5_; have HO130 := n6_; have BK101 := n7_; have BK102 := n8_; have BK103 := n9_; have HB := n10_; clear n0_ n1_ n2_ n3_ n4_ n5_ n6_ n7_ n8_ n9_ n10_; clear hb ho38; obtain ⟨Ao39, co39, eo39⟩ := Kd.R_slice HO130.out; subst eo39; obtain ⟨Ao40, co40, eo40⟩ := Kd.R_slice HO127.out; subst eo40) | ((with_reducible refine gate_callee (f := 13) rfl ?_); refine goesL_ (some 34) rfl rfl Try.func13 (by kernel_rfl) rfl #[.agg #[.int .i64 7, .string (⟨#[116]⟩ : ByteArray), .string (⟨#[]⟩ : ByteArray), .slice Ao40 y125.length co40, .slice none 0 0, .int .i64 0, .int .i64 0, .int .i64 0, .string (⟨#[]⟩ : ByteArray), .slice Ao39 y128.length co39], .slice Ao29 y110.length co29, .slice none 0 0] rfl (by (try simp only [List.map_toArray, List.map_cons, List.map_nil]); first | done | rfl | (simp only [List.length_drop, List.length_take]; rfl)) ?_; (refine (evalA.calls k 7 (⟨#[116]⟩ : ByteArray) (⟨#[]⟩ : ByteArray) _ _ y125 _ _ ([] : List Int) 0 0 0 (⟨#[]⟩ : ByteArray) _ _ y128 (fun k_ => (((((((k_ ≠ gb101 ∧ (k_ ≠ gb102 ∧ k_ ≠ gb103)) ∧ some k_ ≠ (.slice Ao28 y113.length co28 : Value).ownBlock) ∧ some k_ ≠ (v117 : Value).ownBlock) ∧ some k_ ≠ (.slice Ao33 y119.length co33 : Value).ownBlock) ∧ some k_ ≠ (v123 : Value).ownBlock) ∧ some k_ ≠ (.slice Ao40 y125.length co40 : Value).ownBlock) ∧ some k_ ≠ (.slice Ao39 y128.length co39 : Value).ownBlock)) _ _ y110 (fun k_ => False) _ _ ([] : List (S44)) t131 _ ?side1 ?side2 ?side3 ?side4 ?side5 ?side6 ?side7 ?side8 A3.out).mono ?_); (case side1 => repeat (first | exact (Kd.R_reads' HO127.out).2.2 | (with_reducible refine Kd.C_alloc ?_ _) | (with_reducible refine Kd.C_drewN ?_ _) | (with_reducible refine Kd.C_drew ?_))); (case side2 => exact (Kd.R_reads' HO127.out).2.1); (case side3 => exact Kd.C_nil _ _); (case side4 => exact Nat.le_refl _); (case side5 => repeat (first | exact (Kd.R_reads' HO130.out).2.2 | (with_reducible refine Kd.C_alloc ?_ _) | (with_reducible refine Kd.C_drewN ?_ _) | (with_reducible refine Kd.C_drew ?_))); (case side6 => exact (Kd.R_reads' HO130.out).2.1); (case side7 => exact Kd.N_V (HO112.out)); (case side8 => exact Kd.V_nil _ _ _ _ _); rintro e w41 ⟨v132, rfl, ho0, hb⟩; refine ⟨_, rfl, ?_⟩; have n0_ := Aside0.mk (Kd.N_elder' (qn_ HO112.out) (Kd.N_base ho0) hb); have n1_ := Aside0.mk (Kd.R_below (qr_ HO115.out) hb); have n2_ := Aside0.mk (Kd.N_elder' (qn_ HO118.out) (Kd.N_base ho0) hb); have n3_ := Aside0.mk (Kd.R_below (qr_ HO121.out) hb); have n4_ := Aside0.mk (Kd.N_elder' (qn_ HO124.out) (Kd.N_base ho0) hb); have n5_ := Aside0.mk (Kd.R_below (qr_ HO127.out) hb); have n6_ := Aside0.mk (Kd.R_below (qr_ HO130.out) hb); have n7_ := Aside0.mk (Kd.N_lower (Kd.N_mono (ok' := fun k_ => some k_ ≠ (.slice Ao28 y113.length co28 : Value).ownBlock ∧ some k_ ≠ (v117 : Value).ownBlock ∧ some k_ ≠ (.slice Ao33 y119.length co33 : Value).ownBlock ∧ some k_ ≠ (v123 : Value).ownBlock ∧ some k_ ≠ (.slice Ao40 y125.length co40 : Value).ownBlock ∧ some k_ ≠ (.slice Ao39 y128.length co39 : Value).ownBlock ∧ k_ ≠ gb101 ∧ k_ ≠ gb102 ∧ k_ ≠ gb103) ho0 (fun k_ hk_ => ⟨Or.elim hk_ (fun hs_ => Or.elim hs_ (fun hs_ => hs_.1.1.1.1.1.2) (fun hs_ => (hs_).elim)) (fun hn_ => (Kd.fresh' (Kd.R_lt (qr_ HO115.out)) k_ hn_)), Or.elim hk_ (fun hs_ => Or.elim hs_ (fun hs_ => hs_.1.1.1.1.2) (fun hs_ => (hs_).elim)) (fun hn_ => (Kd.fresh' (Kd.N_lt (qn_ HO118.out)) k_ hn_)), Or.elim hk_ (fun hs_ => Or.elim hs_ (fun hs_ => hs_.1.1.1.2) (fun hs_ => (hs_).elim)) (fun hn_ => (Kd.fresh' (Kd.R_lt (qr_ HO121.out)) k_ hn_)), Or.elim hk_ (fun hs_ => Or.elim hs_ (fun hs_ => hs_.1.1.2) (fun hs_ => (hs_).elim)) (fun hn_ => (Kd.fresh' (Kd.N_lt (qn_ HO124.out)) k_ hn_)), Or.elim hk_ (fun hs_ => Or.elim hs_ (fun hs_ => hs_.1.2) (fun hs_ => (hs_).elim)) (fun hn_ => (Kd.fresh' (Kd.R_lt (qr_ HO127.out)) k_ hn_)), Or.elim hk_ (fun hs_ => Or.elim hs_ (fun hs_ => hs_.2) (fun hs_ => (hs_).elim)) (fun hn_ => (Kd.fresh' (Kd.R_lt (qr_ HO130.out)) k_ hn_)), Or.elim hk_ (fun hs_ => Or.elim hs_ (fun hs_ => hs_.1.1.1.1.1.1.1) (fun hs_ => (hs_).elim)) (fun hn_ => (Kd.freshB (g := gb101) (o := .cells #[.int .i64 1, .int .i64 1, .string (⟨#[]⟩ : ByteArray)] 23 (0, 0)) (qb_ BK101.out) k_ hn_)), Or.elim hk_ (fun hs_ => Or.elim hs_ (fun hs_ => hs_.1.1.1.1.1.1.2.1) (fun hs_ => (hs_).elim)) (fun hn_ => (Kd.freshB (g := gb102) (o := .cells #[.int .i64 1, .int .i64 2, .string (⟨#[]⟩ : ByteArray)] 23 (0, 0)) (qb_ BK102.out) k_ hn_)), Or.elim hk_ (fun hs_ => Or.elim hs_ (fun hs_ => hs_.1.1.1.1.1.1.2.2) (fun hs_ => (hs_).elim)) (fun hn_ => (Kd.freshB (g := gb103) (o := .cells #[.int .i64 2, .int .i64 0, .string (⟨#[120]⟩ : ByteArray)] 23 (0, 0)) (qb_ BK103.out) k_ hn_))⟩)) (below_size (by repeat (first | (with_reducible first | exact HB.out | apply below_alloc | apply pw_below_drewN | apply below_drew1 | refine below_set ?_ GE101.out | refine below_set ?_ GE102.out | refine below_set ?_ GE103.out) | exact HB.out)))); have n8_ := Aside0.mk (blk_below (g := gb101) (o := .cells #[.int .i64 1, .int .i64 1, .string (⟨#[]⟩ : ByteArray)] 23 (0, 0)) (qb_ BK101.out) hb); have n9_ := Aside0.mk (blk_below (g := gb102) (o := .cells #[.int .i64 1, .int .i64 2, .string (⟨#[]⟩ : ByteArray)] 23 (0, 0)) (qb_ BK102.out) hb); have n10_ := Aside0.mk (blk_below (g := gb103) (o := .cells #[.int .i64 2, .int .i64 0, .string (⟨#[120]⟩ : ByteArray)] 23 (0, 0)) (qb_ BK103.out) hb); have n11_ := Aside0.mk (below_step (by repeat (first | (with_reducible first | exact HB.out | apply below_alloc | apply pw_below_drewN | apply below_drew1 | refine below_set ?_ GE101.out | refine below_set ?_ GE102.out | refine below_set ?_ GE103.out) | exact HB.out)) hb); clear HO112; clear HO115; clear HO118; clear HO121; clear HO124; clear HO127; clear HO130; clear BK101; clear BK102; clear BK103; clear HB; have HO112 := n0_; have HO115 := n1_; have HO118 := n2_; have HO121 := n3_; have HO124 := n4_; have HO127 := n5_; have HO130 := n6_; have HO133 := n7_; have BK101 := n8_; have BK102 := n9_; have BK103 := n10_; have HB := n11_; clear n0_ n1_ n2_ n3_ n4_ n5_ n6_ n7_ n8_ n9_ n10_ n11_; (try clear hb); (try clear hb2); (try clear hk); (try clear hi); (try clear ho0)))
 (try simp only [Act.put, List.setIfInBounds_toArray, List.set_cons_zero, List.set_cons_succ])
 go_cut [55] (fun v55 wc => ∃ (kq : Nat) (x55_3 : Bool), v55 = .bool x55_3 ∧ Aside0 (tailracelaw17_awake.j0 kq y110 t116 t122 t131 x55_3 1 1 (⟨#[]⟩ : ByteArray) 1 2 (⟨#[]⟩ : ByteArray) = some r) ∧ Aside0 (kq ≤ k) ∧ Aside0 (Kd.N k44 44 wc w.heap.size (fun k_ => some k_ ≠ (v117 : Value).ownBlock ∧ some k_ ≠ (v123 : Value).ownBlock ∧ some k_ ≠ (v132 : Value).ownBlock ∧ k_ ≠ gb101 ∧ k_ ≠ gb102 ∧ k_ ≠ gb103) (.slice Ao29 y110.length co29) y110) ∧ Aside0 (Kd.N k44 44 wc w.heap.size (fun k_ => some k_ ≠ (v123 : Value).ownBlock ∧ some k_ ≠ (v132 : Value).ownBlock ∧ k_ ≠ gb101 ∧ k_ ≠ gb102 ∧ k_ ≠ gb103) v117 t116) ∧ Aside0 (Kd.N k44 44 wc w.heap.size (fun k_ => some k_ ≠ (v117 : Value).ownBlock ∧ some k_ ≠ (v132 : Value).ownBlock ∧ k_ ≠ gb101 ∧ k_ ≠ gb102 ∧ k_ ≠ gb103) v123 t122) ∧ Aside0 (Kd.N k44 44 wc w.heap.size (fun k_ => some k_ ≠ (v117 : Value).ownBlock ∧ some k_ ≠ (v123 : Value).ownBlock ∧ k_ ≠ gb101 ∧ k_ ≠ gb102 ∧ k_ ≠ gb103) v132 t131) ∧ Aside0 (wc.heap[gb101]? = some (.cells #[.int .i64 1, .int .i64 1, .string (⟨#[]⟩ : ByteArray)] 23 (0, 0))) ∧ Aside0 (wc.heap[gb102]? = some (.cells #[.int .i64 1, .int .i64 2, .string (⟨#[]⟩ : ByteArray)] 23 (0, 0))) ∧ Aside0 (wc.heap[gb103]? = some (.cells #[.int .i64 2, .int .i64 0, .string (⟨#[120]⟩ : ByteArray)] 23 (0, 0))) ∧ Aside0 (Below w.heap.size w wc))
 case first =>
  have H := HC4.out
  clear HC4
  by_cases c42 : (t116.length : Int) = 1
  ·rw [if_pos c42] at H
   have c42b0 : ((t116.length : Int) == 1) = true := beq_iff_eq.mpr c42
   have c42b1 : ((t116.length : Int) != 1) = false := bne_eq_false_iff_eq.mpr c42
   clear c42
   (first | rw [c42b0] | (simp only [i64_w, i32_w]; rw [c42b0]) | skip)
   by_cases c43 : (t122.length : Int) = 1
   ·rw [if_pos c43] at H
    have c43b0 : ((t122.length : Int) == 1) = true := beq_iff_eq.mpr c43
    have c43b1 : ((t122.length : Int) != 1) = false := bne_eq_false_iff_eq.mpr c43
    clear c43
    by_cases c44 : (t131.length : Int) = 1
    ·rw [if_pos c44] at H
     have c44b0 : ((t131.length : Int) == 1) = true := beq_iff_eq.mpr c44
     have c44b1 : ((t131.length : Int) != 1) = false := bne_eq_false_iff_eq.mpr c44
     clear c44
     by_cases c45 : 0 < (t131.length : Int)
     ·rw [if_pos c45] at H
      have c45b0 : decide (0 < (t131.length : Int)) = true := decide_eq_true c45
      have c45b1 : decide (0 < t131.length) = true := decide_eq_true (by omega)
      clear c45
      have H' := Aside0.mk H
      clear H
      obtain ⟨Ao46, co46, eo46⟩ := Kd.N_slice HO118.out
      subst eo46
      obtain ⟨Ao47, co47, eo47⟩ := Kd.N_slice HO124.out
      subst eo47
      obtain ⟨Ao48, co48, eo48⟩ := Kd.N_slice HO133.out
      subst eo48
      have p134 : 0 ≤ (0 : Int) := (by omega)
      have q134 : 0 < (t131.length : Int) := of_decide_eq_true (by first | (with_reducible assumption) | assumption)
      obtain ⟨ad134, A134_0, c134_0, e134, hx134_0, hx134_1, hl134_0, hi134_0⟩ := at_T44 (Kd.N_reads' HO133.out).2.2 0 p134 q134
      cases e134
      obtain ⟨ce134, hce134, hMe134, hcc134⟩ := Kd.N_get HO133.out z44 0 p134 (by first | exact q134 | exact of_decide_eq_true (by first | (with_reducible assumption) | assumption) | (have e_ := (Kd.N_reads' HO133.out).1; omega))
      obtain ⟨ua134_0, uc134_0, rfl, ul134_0, ge134_0⟩ := k44_openF hMe134
      have hv134_0 := hcc134 0 _ rfl
      rw [Nat.add_zero] at hv134_0
      replace hv134_0 := Option.some.inj (hv134_0.symm.trans hx134_0)
      injection hv134_0 with hva_ hvn_ hvc_
      rw [hva_] at ge134_0
      rw [hvc_] at ul134_0
      have HL134_0 := Aside0.mk (show Kd.V k23 23 _ w.heap.size _ _ ((rd_T44 t131 0).f0) from Kd.V_mk ul134_0 ge134_0)
      clear hva_ hvn_ hvc_ ge134_0 ul134_0
      clear hcc134 hce134
      have qi134 : (0 < t131.length) = True := eq_true (by omega)
      (try rw [show ((0 : Int)).toNat = 0 from rfl] at hx134_0)
      (try rw [show 0 * 2 = 0 from rfl] at hx134_0)
      (try rw [Addr.add_zero'] at hx134_0)
      (try rw [show ((0 : Int)).toNat = 0 from rfl] at hx134_1)
      (try rw [show 0 * 2 = 0 from rfl] at hx134_1)
      (try rw [Addr.add_zero'] at hx134_1)
      have HR134_0 := Aside0.mk hi134_0
      have HC134_0 := Aside0.mk hl134_0
      clear hi134_0 hl134_0
      replace p134 := eq_true p134
      replace q134 := eq_true q134
      go_wp2
      go_meet
      case rel => exact ⟨_, (((((rd_T44 t131 0).f0).length : Int) != 2)), (by first | rfl | (simp; done) | (simp [*]; done)), H', ⟨by first | omega | exact Nat.le_refl _⟩, ⟨by (with_reducible repeat (first | apply Kd.N_alloc | apply Kd.N_drewN | apply Kd.N_drew)); exact Kd.N_mono HO112.out (fun _ hk => ⟨hk.1.1.1.1.1.2, ⟨hk.1.1.1.2, ⟨hk.2, ⟨hk.1.1.1.1.1.1.1.1, ⟨hk.1.1.1.1.1.1.1.2.1, hk.1.1.1.1.1.1.1.2.2⟩⟩⟩⟩⟩)⟩, ⟨by (with_reducible repeat (first | apply Kd.N_alloc | apply Kd.N_drewN | apply Kd.N_drew)); exact Kd.N_mono HO118.out (fun _ hk => ⟨hk.1.1.1.2, ⟨hk.2, ⟨hk.1.1.1.1.1.2.1, ⟨hk.1.1.1.1.1.2.2.1, hk.1.1.1.1.1.2.2.2⟩⟩⟩⟩)⟩, ⟨by (with_reducible repeat (first | apply Kd.N_alloc | apply Kd.N_drewN | apply Kd.N_drew)); exact Kd.N_mono HO124.out (fun _ hk => ⟨hk.1.1.1.2.1, ⟨hk.2, ⟨hk.1.1.1.2.2.2.1, ⟨hk.1.1.1.2.2.2.2.1, hk.1.1.1.2.2.2.2.2⟩⟩⟩⟩)⟩, ⟨by (with_reducible repeat (first | apply Kd.N_alloc | apply Kd.N_drewN | apply Kd.N_drew)); exact Kd.N_mono HO133.out (fun _ hk => ⟨hk.2.1, ⟨hk.2.2.2.1, ⟨hk.2.2.2.2.2.2.1, ⟨hk.2.2.2.2.2.2.2.1, hk.2.2.2.2.2.2.2.2⟩⟩⟩⟩)⟩, ⟨qb_ BK101.out⟩, ⟨qb_ BK102.out⟩, ⟨qb_ BK103.out⟩, ⟨by repeat (first | (with_reducible first | exact HB.out | apply below_alloc | apply pw_below_drewN | apply below_drew1 | refine below_set ?_ GE101.out | refine below_set ?_ GE102.out | refine below_set ?_ GE103.out) | exact HB.out)⟩⟩
     ·rw [if_neg c45] at H
      exact absurd H (by simp)
    ·rw [if_neg c44] at H
     have c44b0 : ((t131.length : Int) == 1) = false := beq_eq_false_iff_ne.mpr c44
     have c44b1 : ((t131.length : Int) != 1) = true := bne_iff_ne.mpr c44
     have H' := Aside0.mk H
     clear H
     obtain ⟨Ao49, co49, eo49⟩ := Kd.N_slice HO118.out
     subst eo49
     obtain ⟨Ao50, co50, eo50⟩ := Kd.N_slice HO124.out
     subst eo50
     obtain ⟨Ao51, co51, eo51⟩ := Kd.N_slice HO133.out
     subst eo51
     go_wp2
     go_meet
     case rel => exact ⟨_, (true), (by first | rfl | (simp; done) | (simp [*]; done)), H', ⟨by first | omega | exact Nat.le_refl _⟩, ⟨by (with_reducible repeat (first | apply Kd.N_alloc | apply Kd.N_drewN | apply Kd.N_drew)); exact Kd.N_mono HO112.out (fun _ hk => ⟨hk.1.1.1.1.1.2, ⟨hk.1.1.1.2, ⟨hk.2, ⟨hk.1.1.1.1.1.1.1.1, ⟨hk.1.1.1.1.1.1.1.2.1, hk.1.1.1.1.1.1.1.2.2⟩⟩⟩⟩⟩)⟩, ⟨by (with_reducible repeat (first | apply Kd.N_alloc | apply Kd.N_drewN | apply Kd.N_drew)); exact Kd.N_mono HO118.out (fun _ hk => ⟨hk.1.1.1.2, ⟨hk.2, ⟨hk.1.1.1.1.1.2.1, ⟨hk.1.1.1.1.1.2.2.1, hk.1.1.1.1.1.2.2.2⟩⟩⟩⟩)⟩, ⟨by (with_reducible repeat (first | apply Kd.N_alloc | apply Kd.N_drewN | apply Kd.N_drew)); exact Kd.N_mono HO124.out (fun _ hk => ⟨hk.1.1.1.2.1, ⟨hk.2, ⟨hk.1.1.1.2.2.2.1, ⟨hk.1.1.1.2.2.2.2.1, hk.1.1.1.2.2.2.2.2⟩⟩⟩⟩)⟩, ⟨by (with_reducible repeat (first | apply Kd.N_alloc | apply Kd.N_drewN | apply Kd.N_drew)); exact Kd.N_mono HO133.out (fun _ hk => ⟨hk.2.1, ⟨hk.2.2.2.1, ⟨hk.2.2.2.2.2.2.1, ⟨hk.2.2.2.2.2.2.2.1, hk.2.2.2.2.2.2.2.2⟩⟩⟩⟩)⟩, ⟨qb_ BK101.out⟩, ⟨qb_ BK102.out⟩, ⟨qb_ BK103.out⟩, ⟨by repeat (first | (with_reducible first | exact HB.out | apply below_alloc | apply pw_below_drewN | apply below_drew1 | refine below_set ?_ GE101.out | refine below_set ?_ GE102.out | refine below_set ?_ GE103.out) | exact HB.out)⟩⟩
   ·rw [if_neg c43] at H
    have c43b0 : ((t122.length : Int) == 1) = false := beq_eq_false_iff_ne.mpr c43
    have c43b1 : ((t122.length : Int) != 1) = true := bne_iff_ne.mpr c43
    have H' := Aside0.mk H
    clear H
    obtain ⟨Ao52, co52, eo52⟩ := Kd.N_slice HO118.out
    subst eo52
    obtain ⟨Ao53, co53, eo53⟩ := Kd.N_slice HO124.out
    subst eo53
    go_wp2
    go_meet
    case rel => exact ⟨_, (true), (by first | rfl | (simp; done) | (simp [*]; done)), H', ⟨by first | omega | exact Nat.le_refl _⟩, ⟨by (with_reducible repeat (first | apply Kd.N_alloc | apply Kd.N_drewN | apply Kd.N_drew)); exact Kd.N_mono HO112.out (fun _ hk => ⟨hk.1.1.1.1.1.2, ⟨hk.1.1.1.2, ⟨hk.2, ⟨hk.1.1.1.1.1.1.1.1, ⟨hk.1.1.1.1.1.1.1.2.1, hk.1.1.1.1.1.1.1.2.2⟩⟩⟩⟩⟩)⟩, ⟨by (with_reducible repeat (first | apply Kd.N_alloc | apply Kd.N_drewN | apply Kd.N_drew)); exact Kd.N_mono HO118.out (fun _ hk => ⟨hk.1.1.1.2, ⟨hk.2, ⟨hk.1.1.1.1.1.2.1, ⟨hk.1.1.1.1.1.2.2.1, hk.1.1.1.1.1.2.2.2⟩⟩⟩⟩)⟩, ⟨by (with_reducible repeat (first | apply Kd.N_alloc | apply Kd.N_drewN | apply Kd.N_drew)); exact Kd.N_mono HO124.out (fun _ hk => ⟨hk.1.1.1.2.1, ⟨hk.2, ⟨hk.1.1.1.2.2.2.1, ⟨hk.1.1.1.2.2.2.2.1, hk.1.1.1.2.2.2.2.2⟩⟩⟩⟩)⟩, ⟨by (with_reducible repeat (first | apply Kd.N_alloc | apply Kd.N_drewN | apply Kd.N_drew)); exact Kd.N_mono HO133.out (fun _ hk => ⟨hk.2.1, ⟨hk.2.2.2.1, ⟨hk.2.2.2.2.2.2.1, ⟨hk.2.2.2.2.2.2.2.1, hk.2.2.2.2.2.2.2.2⟩⟩⟩⟩)⟩, ⟨qb_ BK101.out⟩, ⟨qb_ BK102.out⟩, ⟨qb_ BK103.out⟩, ⟨by repeat (first | (with_reducible first | exact HB.out | apply below_alloc | apply pw_below_drewN | apply below_drew1 | refine below_set ?_ GE101.out | refine below_set ?_ GE102.out | refine below_set ?_ GE103.out) | exact HB.out)⟩⟩
  ·rw [if_neg c42] at H
   have c42b0 : ((t116.length : Int) == 1) = false := beq_eq_false_iff_ne.mpr c42
   have c42b1 : ((t116.length : Int) != 1) = true := bne_iff_ne.mpr c42
   (first | rw [c42b0] | (simp only [i64_w, i32_w]; rw [c42b0]) | skip)
   have H' := Aside0.mk H
   clear H
   obtain ⟨Ao54, co54, eo54⟩ := Kd.N_slice HO118.out
   subst eo54
   go_wp2
   go_meet
   case rel => exact ⟨_, (true), (by first | rfl | (simp; done) | (simp [*]; done)), H', ⟨by first | omega | exact Nat.le_refl _⟩, ⟨by (with_reducible repeat (first | apply Kd.N_alloc | apply Kd.N_drewN | apply Kd.N_drew)); exact Kd.N_mono HO112.out (fun _ hk => ⟨hk.1.1.1.1.1.2, ⟨hk.1.1.1.2, ⟨hk.2, ⟨hk.1.1.1.1.1.1.1.1, ⟨hk.1.1.1.1.1.1.1.2.1, hk.1.1.1.1.1.1.1.2.2⟩⟩⟩⟩⟩)⟩, ⟨by (with_reducible repeat (first | apply Kd.N_alloc | apply Kd.N_drewN | apply Kd.N_drew)); exact Kd.N_mono HO118.out (fun _ hk => ⟨hk.1.1.1.2, ⟨hk.2, ⟨hk.1.1.1.1.1.2.1, ⟨hk.1.1.1.1.1.2.2.1, hk.1.1.1.1.1.2.2.2⟩⟩⟩⟩)⟩, ⟨by (with_reducible repeat (first | apply Kd.N_alloc | apply Kd.N_drewN | apply Kd.N_drew)); exact Kd.N_mono HO124.out (fun _ hk => ⟨hk.1.1.1.2.1, ⟨hk.2, ⟨hk.1.1.1.2.2.2.1, ⟨hk.1.1.1.2.2.2.2.1, hk.1.1.1.2.2.2.2.2⟩⟩⟩⟩)⟩, ⟨by (with_reducible repeat (first | apply Kd.N_alloc | apply Kd.N_drewN | apply Kd.N_drew)); exact Kd.N_mono HO133.out (fun _ hk => ⟨hk.2.1, ⟨hk.2.2.2.1, ⟨hk.2.2.2.2.2.2.1, ⟨hk.2.2.2.2.2.2.2.1, hk.2.2.2.2.2.2.2.2⟩⟩⟩⟩)⟩, ⟨qb_ BK101.out⟩, ⟨qb_ BK102.out⟩, ⟨qb_ BK103.out⟩, ⟨by repeat (first | (with_reducible first | exact HB.out | apply below_alloc | apply pw_below_drewN | apply below_drew1 | refine below_set ?_ GE101.out | refine below_set ?_ GE102.out | refine below_set ?_ GE103.out) | exact HB.out)⟩⟩
 case rest =>
  clear HC4
  try clear c1
  try clear p1
  try clear q1
  try clear hx1
  try clear qi1
  try clear c2
  try clear p2
  try clear c3
  try clear c4
  try clear c5
  try clear c8
  try clear c11
  try clear c12
  try clear c13
  try clear p13
  try clear q13
  try clear hx13
  try clear qi13
  try clear c42
  try clear c42b0
  try clear c42b1
  try clear c43
  try clear c43b0
  try clear c43b1
  try clear c44
  try clear c44b0
  try clear c44b1
  try clear c45
  try clear c45b0
  try clear c45b1
  try clear hcz13_0
  try clear hcz13_1
  try clear hcz13_2
  try clear hcz14_0
  try clear hcz14_1
  try clear hcz14_2
  try clear hcz18_0
  try clear hcz18_1
  try clear hcz18_2
  try clear hcz19_0
  try clear hcz19_1
  try clear hcz19_2
  try clear hcz27_0
  try clear hcz27_1
  try clear hcz27_2
  try clear hcz6_0
  try clear hcz6_1
  try clear hcz6_2
  try clear hcz9_0
  try clear hcz9_1
  try clear hcz9_2
  try clear hfz13_0
  try clear hfz13_1
  try clear hfz13_2
  try clear hfz14_0
  try clear hfz14_1
  try clear hfz14_2
  try clear hfz18_0
  try clear hfz18_1
  try clear hfz18_2
  try clear hfz19_0
  try clear hfz19_1
  try clear hfz19_2
  try clear hfz27_0
  try clear hfz27_1
  try clear hfz27_2
  try clear hfz6_0
  try clear hfz6_1
  try clear hfz6_2
  try clear hfz9_0
  try clear hfz9_1
  try clear hfz9_2
  try clear hx134_0
  try clear hx134_1
  try clear p134
  try clear q134
  obtain ⟨kq, x55_3, rfl, HA, HJ3, HO_4, HO_5, HO_6, HO_7, BK101, BK102, BK103, HB⟩ := hcut
  cases kq with
  | zero => exact absurd HA.out (by simp [tailracelaw17_awake.j0])
  | succ kj3 =>
   have H := HA.out
   clear HA
   simp only [tailracelaw17_awake.j0] at H
   by_cases c55 : x55_3 = true
   ·subst c55
    have H1 : (some false) = some r := by rw [if_pos rfl] at H; exact H
    clear H
    have H := H1
    clear H1
    obtain rfl := Option.some.inj H
    go_wp2
    go_ret
    exact ⟨by first | rfl | (simp [errW_none, errW_some] <;> rfl) | (simp [*, errW_none, errW_some] <;> rfl), by repeat (first | (with_reducible first | exact HB.out | apply below_alloc | apply pw_below_drewN | apply below_drew1 | refine below_set ?_ GE101.out | refine below_set ?_ GE102.out | refine below_set ?_ GE103.out) | exact HB.out)⟩
   ·replace c55 := Bool.eq_false_iff.mpr c55
    subst c55
    have H1 : (if 0 < (t116.length : Int) then (if ((rd_T44 t116 0).f1) = 1 then (if 0 < (t122.length : Int) then (if ((rd_T44 t122 0).f1) = 3 then (if 0 < (t131.length : Int) then (if 1 < (((rd_T44 t131 0).f0).length : Int) then (if ((rd_T23 ((rd_T44 t131 0).f0) 1).f1) = 4 then (if ((rd_T44 t131 0).f1) = 1 then ((eval_Holds.f 4 1 1 (⟨#[]⟩ : ByteArray) 1 2 (⟨#[]⟩ : ByteArray)).bind fun t140 => (if t140 = true then ((eval_Holds.f 7 1 1 (⟨#[]⟩ : ByteArray) 1 1 (⟨#[]⟩ : ByteArray)).bind fun t141 => (if t141 = true then (some false) else (if 0 < (y110.length : Int) then ((eval_Picked.f kj3 ((rd_T44 y110 0).f0) (([1, 5] : List Int))).bind fun t146 => (some ((t146.length : Int) == 1))) else (none)))) else (some false))) else (some false)) else (some false)) else (none)) else (none)) else (some false)) else (none)) else (some false)) else (none)) = some r := by rw [if_neg (show ¬ (false = true) by decide)] at H; exact H
    clear H
    have H := H1
    clear H1
    by_cases c56 : 0 < (t116.length : Int)
    ·rw [if_pos c56] at H
     have c56b0 : decide (0 < (t116.length : Int)) = true := decide_eq_true c56
     have c56b1 : decide (0 < t116.length) = true := decide_eq_true (by omega)
     clear c56
     by_cases c57 : ((rd_T44 t116 0).f1) = 1
     ·rw [if_pos c57] at H
      have c57b0 : (((rd_T44 t116 0).f1) == 1) = true := beq_iff_eq.mpr c57
      have c57b1 : (((rd_T44 t116 0).f1) != 1) = false := bne_eq_false_iff_eq.mpr c57
      clear c57
      by_cases c58 : 0 < (t122.length : Int)
      ·rw [if_pos c58] at H
       have c58b0 : decide (0 < (t122.length : Int)) = true := decide_eq_true c58
       have c58b1 : decide (0 < t122.length) = true := decide_eq_true (by omega)
       clear c58
       by_cases c59 : ((rd_T44 t122 0).f1) = 3
       ·rw [if_pos c59] at H
        have c59b0 : (((rd_T44 t122 0).f1) == 3) = true := beq_iff_eq.mpr c59
        have c59b1 : (((rd_T44 t122 0).f1) != 3) = false := bne_eq_false_iff_eq.mpr c59
        clear c59
        by_cases c60 : 0 < (t131.length : Int)
        ·rw [if_pos c60] at H
         have c60b0 : decide (0 < (t131.length : Int)) = true := decide_eq_true c60
         have c60b1 : decide (0 < t131.length) = true := decide_eq_true (by omega)
         clear c60
         by_cases c61 : 1 < (((rd_T44 t131 0).f0).length : Int)
         ·rw [if_pos c61] at H
          have c61b0 : decide (1 < (((rd_T44 t131 0).f0).length : Int)) = true := decide_eq_true c61
          have c61b1 : decide (1 < ((rd_T44 t131 0).f0).length) = true := decide_eq_true (by omega)
          clear c61
          by_cases c62 : ((rd_T23 ((rd_T44 t131 0).f0) 1).f1) = 4
          ·rw [if_pos c62] at H
           have c62b0 : (((rd_T23 ((rd_T44 t131 0).f0) 1).f1) == 4) = true := beq_iff_eq.mpr c62
           have c62b1 : (((rd_T23 ((rd_T44 t131 0).f0) 1).f1) != 4) = false := bne_eq_false_iff_eq.mpr c62
           clear c62
           by_cases c63 : ((rd_T44 t131 0).f1) = 1
           ·rw [if_pos c63] at H
            have c63b0 : (((rd_T44 t131 0).f1) == 1) = true := beq_iff_eq.mpr c63
            have c63b1 : (((rd_T44 t131 0).f1) != 1) = false := bne_eq_false_iff_eq.mpr c63
            clear c63
            replace H := Option.bind_eq_some_iff.mp H
            obtain ⟨t140, A640, H⟩ := H
            replace H : (if t140 = true then ((eval_Holds.f 7 1 1 (⟨#[]⟩ : ByteArray) 1 1 (⟨#[]⟩ : ByteArray)).bind fun t141 => (if t141 = true then (some false) else (if 0 < (y110.length : Int) then ((eval_Picked.f kj3 ((rd_T44 y110 0).f0) (([1, 5] : List Int))).bind fun t146 => (some ((t146.length : Int) == 1))) else (none)))) else (some false)) = some r := H
            have A64 := Aside0.mk A640
            clear A640
            by_cases c65 : t140 = true
            ·subst c65
             have H1 : ((eval_Holds.f 7 1 1 (⟨#[]⟩ : ByteArray) 1 1 (⟨#[]⟩ : ByteArray)).bind fun t141 => (if t141 = true then (some false) else (if 0 < (y110.length : Int) then ((eval_Picked.f kj3 ((rd_T44 y110 0).f0) (([1, 5] : List Int))).bind fun t146 => (some ((t146.length : Int) == 1))) else (none)))) = some r := by rw [if_pos rfl] at H; exact H
             clear H
             have H := H1
             clear H1
             replace H := Option.bind_eq_some_iff.mp H
             obtain ⟨t141, A660, H⟩ := H
             replace H : (if t141 = true then (some false) else (if 0 < (y110.length : Int) then ((eval_Picked.f kj3 ((rd_T44 y110 0).f0) (([1, 5] : List Int))).bind fun t146 => (some ((t146.length : Int) == 1))) else (none))) = some r := H
             have A66 := Aside0.mk A660
             clear A660
             by_cases c67 : t141 = true
             ·subst c67
              have H1 : (some false) = some r := by rw [if_pos rfl] at H; exact H
              clear H
              have H := H1
              clear H1
              obtain rfl := Option.some.inj H
              obtain ⟨Ao68, co68, eo68⟩ := Kd.N_slice HO_5.out
              subst eo68
              have p135 : 0 ≤ (0 : Int) := (by omega)
              have q135 : 0 < (t116.length : Int) := of_decide_eq_true (by first | (with_reducible assumption) | assumption)
              obtain ⟨ad135, A135_0, c135_0, e135, hx135_0, hx135_1, hl135_0, hi135_0⟩ := at_T44 (Kd.N_reads' HO_5.out).2.2 0 p135 q135
              cases e135
              obtain ⟨ce135, hce135, hMe135, hcc135⟩ := Kd.N_get HO_5.out z44 0 p135 (by first | exact q135 | exact of_decide_eq_true (by first | (with_reducible assumption) | assumption) | (have e_ := (Kd.N_reads' HO_5.out).1; omega))
              obtain ⟨ua135_0, uc135_0, rfl, ul135_0, ge135_0⟩ := k44_openF hMe135
              have hv135_0 := hcc135 0 _ rfl
              rw [Nat.add_zero] at hv135_0
              replace hv135_0 := Option.some.inj (hv135_0.symm.trans hx135_0)
              injection hv135_0 with hva_ hvn_ hvc_
              rw [hva_] at ge135_0
              rw [hvc_] at ul135_0
              have HL135_0 := Aside0.mk (show Kd.V k23 23 _ w.heap.size _ _ ((rd_T44 t116 0).f0) from Kd.V_mk ul135_0 ge135_0)
              clear hva_ hvn_ hvc_ ge135_0 ul135_0
              clear hcc135 hce135
              have qi135 : (0 < t116.length) = True := eq_true (by omega)
              (try rw [show ((0 : Int)).toNat = 0 from rfl] at hx135_0)
              (try rw [show 0 * 2 = 0 from rfl] at hx135_0)
              (try rw [Addr.add_zero'] at hx135_0)
              (try rw [show ((0 : Int)).toNat = 0 from rfl] at hx135_1)
              (try rw [show 0 * 2 = 0 from rfl] at hx135_1)
              (try rw [Addr.add_zero'] at hx135_1)
              have HR135_0 := Aside0.mk hi135_0
              have HC135_0 := Aside0.mk hl135_0
              clear hi135_0 hl135_0
              replace p135 := eq_true p135
              replace q135 := eq_true q135
              obtain ⟨Ao69, co69, eo69⟩ := Kd.N_slice HO_6.out
              subst eo69
              have p136 : 0 ≤ (0 : Int) := (by omega)
              have q136 : 0 < (t122.length : Int) := of_decide_eq_true (by first | (with_reducible assumption) | assumption)
              obtain ⟨ad136, A136_0, c136_0, e136, hx136_0, hx136_1, hl136_0, hi136_0⟩ := at_T44 (Kd.N_reads' HO_6.out).2.2 0 p136 q136
              cases e136
              obtain ⟨ce136, hce136, hMe136, hcc136⟩ := Kd.N_get HO_6.out z44 0 p136 (by first | exact q136 | exact of_decide_eq_true (by first | (with_reducible assumption) | assumption) | (have e_ := (Kd.N_reads' HO_6.out).1; omega))
              obtain ⟨ua136_0, uc136_0, rfl, ul136_0, ge136_0⟩ := k44_openF hMe136
              have hv136_0 := hcc136 0 _ rfl
              rw [Nat.add_zero] at hv136_0
              replace hv136_0 := Option.some.inj (hv136_0.symm.trans hx136_0)
              injection hv136_0 with hva_ hvn_ hvc_
              rw [hva_] at ge136_0
              rw [hvc_] at ul136_0
              have HL136_0 := Aside0.mk (show Kd.V k23 23 _ w.heap.size _ _ ((rd_T44 t122 0).f0) from Kd.V_mk ul136_0 ge136_0)
              clear hva_ hvn_ hvc_ ge136_0 ul136_0
              clear hcc136 hce136
              have qi136 : (0 < t122.length) = True := eq_true (by omega)
              (try rw [show ((0 : Int)).toNat = 0 from rfl] at hx136_0)
              (try rw [show 0 * 2 = 0 from rfl] at hx136_0)
              (try rw [Addr.add_zero'] at hx136_0)
              (try rw [show ((0 : Int)).toNat = 0 from rfl] at hx136_1)
              (try rw [show 0 * 2 = 0 from rfl] at hx136_1)
              (try rw [Addr.add_zero'] at hx136_1)
              have HR136_0 := Aside0.mk hi136_0
              have HC136_0 := Aside0.mk hl136_0
              clear hi136_0 hl136_0
              replace p136 := eq_true p136
              replace q136 := eq_true q136
              obtain ⟨Ao70, co70, eo70⟩ := Kd.N_slice HO_7.out
              subst eo70
              have p137 : 0 ≤ (0 : Int) := (by omega)
              have q137 : 0 < (t131.length : Int) := of_decide_eq_true (by first | (with_reducible assumption) | assumption)
              obtain ⟨ad137, A137_0, c137_0, e137, hx137_0, hx137_1, hl137_0, hi137_0⟩ := at_T44 (Kd.N_reads' HO_7.out).2.2 0 p137 q137
              cases e137
              obtain ⟨ce137, hce137, hMe137, hcc137⟩ := Kd.N_get HO_7.out z44 0 p137 (by first | exact q137 | exact of_decide_eq_true (by first | (with_reducible assumption) | assumption) | (have e_ := (Kd.N_reads' HO_7.out).1; omega))
              obtain ⟨ua137_0, uc137_0, rfl, ul137_0, ge137_0⟩ := k44_openF hMe137
              have hv137_0 := hcc137 0 _ rfl
              rw [Nat.add_zero] at hv137_0
              replace hv137_0 := Option.some.inj (hv137_0.symm.trans hx137_0)
              injection hv137_0 with hva_ hvn_ hvc_
              rw [hva_] at ge137_0
              rw [hvc_] at ul137_0
              have HL137_0 := Aside0.mk (show Kd.V k23 23 _ w.heap.size _ _ ((rd_T44 t131 0).f0) from Kd.V_mk ul137_0 ge137_0)
              clear hva_ hvn_ hvc_ ge137_0 ul137_0
              clear hcc137 hce137
              have qi137 : (0 < t131.length) = True := eq_true (by omega)
              (try rw [show ((0 : Int)).toNat = 0 from rfl] at hx137_0)
              (try rw [show 0 * 2 = 0 from rfl] at hx137_0)
              (try rw [Addr.add_zero'] at hx137_0)
              (try rw [show ((0 : Int)).toNat = 0 from rfl] at hx137_1)
              (try rw [show 0 * 2 = 0 from rfl] at hx137_1)
              (try rw [Addr.add_zero'] at hx137_1)
              have HR137_0 := Aside0.mk hi137_0
              have HC137_0 := Aside0.mk hl137_0
              clear hi137_0 hl137_0
              replace p137 := eq_true p137
              replace q137 := eq_true q137
              have p138 : 0 ≤ (1 : Int) := (by omega)
              have q138 : 1 < (((rd_T44 t131 0).f0).length : Int) := of_decide_eq_true (by first | (with_reducible assumption) | assumption)
              obtain ⟨ad138, e138, hx138_0, hx138_1, hx138_2⟩ := at_T23 (by repeat (first | (with_reducible exact HR137_0.out) | (with_reducible refine Kd.C_alloc ?_ _) | (with_reducible refine Kd.C_drewN ?_ _) | (with_reducible refine Kd.C_drew ?_) | exact HR137_0.out)) 1 p138 q138
              cases e138
              (try simp only [show (1 : Int).toNat = 1 from rfl, Nat.reduceMul, Nat.reduceEqDiff, Go.Addr.add, ↓reduceIte] at hx138_0)
              (try simp only [show (1 : Int).toNat = 1 from rfl, Nat.reduceMul, Nat.reduceEqDiff, Go.Addr.add, ↓reduceIte] at hx138_1)
              (try simp only [show (1 : Int).toNat = 1 from rfl, Nat.reduceMul, Nat.reduceEqDiff, Go.Addr.add, ↓reduceIte] at hx138_2)
              have qi138 : (1 < ((rd_T44 t131 0).f0).length) = True := eq_true (by omega)
              (try rw [show ((1 : Int)).toNat = 1 from rfl] at hx138_0)
              (try rw [show 1 * 3 = 3 from rfl] at hx138_0)
              (try rw [show ((1 : Int)).toNat = 1 from rfl] at hx138_1)
              (try rw [show 1 * 3 = 3 from rfl] at hx138_1)
              (try rw [show ((1 : Int)).toNat = 1 from rfl] at hx138_2)
              (try rw [show 1 * 3 = 3 from rfl] at hx138_2)
              replace p138 := eq_true p138
              replace q138 := eq_true q138
              have p139 : 0 ≤ (0 : Int) := (by omega)
              have q139 : 0 < (t131.length : Int) := of_decide_eq_true (by first | (with_reducible assumption) | assumption)
              obtain ⟨ad139, A139_0, c139_0, e139, hx139_0, hx139_1, hl139_0, hi139_0⟩ := at_T44 (Kd.N_reads' HO_7.out).2.2 0 p139 q139
              obtain rfl : ad137 = ad139 := (by injection e139)
              obtain ⟨ce139, hce139, hMe139, hcc139⟩ := Kd.N_get HO_7.out z44 0 p139 (by first | exact q139 | exact of_decide_eq_true (by first | (with_reducible assumption) | assumption) | (have e_ := (Kd.N_reads' HO_7.out).1; omega))
              obtain ⟨ua139_0, uc139_0, rfl, ul139_0, ge139_0⟩ := k44_openF hMe139
              have hv139_0 := hcc139 0 _ rfl
              rw [Nat.add_zero] at hv139_0
              replace hv139_0 := Option.some.inj (hv139_0.symm.trans hx139_0)
              injection hv139_0 with hva_ hvn_ hvc_
              rw [hva_] at ge139_0
              rw [hvc_] at ul139_0
              have HL139_0 := Aside0.mk (show Kd.V k23 23 _ w.heap.size _ _ ((rd_T44 t131 0).f0) from Kd.V_mk ul139_0 ge139_0)
              clear hva_ hvn_ hvc_ ge139_0 ul139_0
              clear hcc139 hce139
              have qi139 : (0 < t131.length) = True := eq_true (by omega)
              (try rw [show ((0 : Int)).toNat = 0 from rfl] at hx139_0)
              (try rw [show 0 * 2 = 0 from rfl] at hx139_0)
              (try rw [Addr.add_zero'] at hx139_0)
              (try rw [show ((0 : Int)).toNat = 0 from rfl] at hx139_1)
              (try rw [show 0 * 2 = 0 from rfl] at hx139_1)
              (try rw [Addr.add_zero'] at hx139_1)
              have HR139_0 := Aside0.mk hi139_0
              have HC139_0 := Aside0.mk hl139_0
              clear hi139_0 hl139_0
              replace p139 := eq_true p139
              replace q139 := eq_true q139
              have ea_ := Option.some.inj (hx137_0.symm.trans hx139_0)
              injection ea_ with ea_ en_ ec_
              subst ea_
              subst ec_
              clear en_
              have hnb71 := NB101_102.out
              have hnc71 := NB102_101.out
              have hnb72 := NB101_103.out
              have hnc72 := NB103_101.out
              have hcz73_0 : wc.cell? ⟨gb101, 0, none⟩ = some (.int .i64 1) := (blk_cell BK101.out 0).trans rfl
              have hcz73_1 : wc.cell? ⟨gb101, 1, none⟩ = some (.int .i64 1) := (blk_cell BK101.out 1).trans rfl
              have hcz73_2 : wc.cell? ⟨gb101, 2, none⟩ = some (.string (⟨#[]⟩ : ByteArray)) := (blk_cell BK101.out 2).trans rfl
              have hfz73_0 := blk_frozen BK101.out 0
              have hfz73_1 := blk_frozen BK101.out 1
              have hfz73_2 := blk_frozen BK101.out 2
              have hnb74 := NB102_103.out
              have hnc74 := NB103_102.out
              have hcz75_0 : wc.cell? ⟨gb102, 0, none⟩ = some (.int .i64 1) := (blk_cell BK102.out 0).trans rfl
              have hcz75_1 : wc.cell? ⟨gb102, 1, none⟩ = some (.int .i64 2) := (blk_cell BK102.out 1).trans rfl
              have hcz75_2 : wc.cell? ⟨gb102, 2, none⟩ = some (.string (⟨#[]⟩ : ByteArray)) := (blk_cell BK102.out 2).trans rfl
              have hfz75_0 := blk_frozen BK102.out 0
              have hfz75_1 := blk_frozen BK102.out 1
              have hfz75_2 := blk_frozen BK102.out 2
              go_wp2_with (first | (go_at_call 9; (with_reducible refine (eval_Holds.calls 4 1 1 (⟨#[]⟩ : ByteArray) 1 2 (⟨#[]⟩ : ByteArray) true _ A64.out).mono ?_); rintro e w76 ⟨rfl, hb⟩; have n0_ := Aside0.mk (Kd.N_below (qn_ HO_4.out) hb); have n1_ := Aside0.mk (Kd.N_below (qn_ HO_5.out) hb); have n2_ := Aside0.mk (Kd.N_below (qn_ HO_6.out) hb); have n3_ := Aside0.mk (Kd.N_below (qn_ HO_7.out) hb); have n4_ := Aside0.mk (Kd.V_below (qv_ HL135_0.out) hb); have n5_ := Aside0.mk (Kd.V_below (qv_ HL136_0.out) hb); have n6_ := Aside0.mk (Kd.V_below (qv_ HL137_0.out) hb); have n7_ := Aside0.mk (Kd.V_below (qv_ HL139_0.out) hb); have n8_ := Aside0.mk (blk_below (g := gb101) (o := .cells #[.int .i64 1, .int .i64 1, .string (⟨#[]⟩ : ByteArray)] 23 (0, 0)) (qb_ BK101.out) hb); have n9_ := Aside0.mk (blk_below (g := gb102) (o := .cells #[.int .i64 1, .int .i64 2, .string (⟨#[]⟩ : ByteArray)] 23 (0, 0)) (qb_ BK102.out) hb); have n10_ := Aside0.mk (blk_below (g := gb103) (o := .cells #[.int .i64 2, .int .i64 0, .string (⟨#[120]⟩ : ByteArray)] 23 (0, 0)) (qb_ BK103.out) hb); have n11_ := Aside0.mk (Kd.C_below (by repeat (first | (with_reducible exact HR135_0.out) | (with_reducible refine Kd.C_alloc ?_ _) | (with_reducible refine Kd.C_drewN ?_ _) | (with_reducible refine Kd.C_drew ?_) | exact HR135_0.out)) hb); have n12_ := Aside0.mk (Kd.C_below (by repeat (first | (with_reducible exact HR136_0.out) | (with_reducible refine Kd.C_alloc ?_ _) | (with_reducible refine Kd.C_drewN ?_ _) | (with_reducible refine Kd.C_drew ?_) | exact HR136_0.out)) hb); have n13_ := Aside0.mk (Kd.C_below (by repeat (first | (with_reducible exact HR137_0.out) | (with_reducible refine Kd.C_alloc ?_ _) | (with_reducible refine Kd.C_drewN ?_ _) | (with_reducible refine Kd.C_drew ?_) | exact HR137_0.out)) hb); have n14_ := Aside0.mk (Kd.C_below (by repeat (first | (with_reducible exact HR139_0.out) | (with_reducible refine Kd.C_alloc ?_ _) | (with_reducible refine Kd.C_drewN ?_ _) | (with_reducible refine Kd.C_drew ?_) | exact HR139_0.out)) hb); have n15_ := Aside0.mk (below_step (by repeat (first | (with_reducible first | exact HB.out | apply below_alloc | apply pw_below_drewN | apply below_drew1 | refine below_set ?_ GE101.out | refine below_set ?_ GE102.out | refine below_set ?_ GE103.out) | exact HB.out)) hb); clear HO_4; clear HO_5; clear HO_6; clear HO_7; clear HL135_0; clear HL136_0; clear HL137_0; clear HL139_0; clear BK101; clear BK102; clear BK103; clear HR135_0; clear HR136_0; clear HR137_0; clear HR139_0; clear HB; have HO_4 := n0_; have HO_5 := n1_; have HO_6 := n2_; have HO_7 := n3_; have HL135_0 := n4_; have HL136_0 := n5_; have HL137_0 := n6_; have HL139_0 := n7_; have BK101 := n8_; have BK102 := n9_; have BK103 := n10_; have HR135_0 := n11_; have HR136_0 := n12_; have HR137_0 := n13_; have HR139_0 := n14_; have HB := n15_; clear n0_ n1_ n2_ n3_ n4_ n5_ n6_ n7_ n8_ n9_ n10_ n11_ n12_ n13_ n14_ n15_; (try clear hb); (try clear hb2); (try clear hk); (try clear hi); have hcz77_0 : w76.cell? ⟨gb101, 0, none⟩ = some (.int .i64 1) := (blk_cell BK101.out 0).trans rfl; have hcz77_1 : w76.cell? ⟨gb101, 1, none⟩ = some (.int .i64 1) := (blk_cell BK101.out 1).trans rfl; have hcz77_2 : w76.cell? ⟨gb101, 2, none⟩ = some (.string (⟨#[]⟩ : ByteArray)) := (blk_cell BK101.out 2).trans rfl; have hfz77_0 := blk_frozen BK101.out 0; have hfz77_1 := blk_frozen BK101.out 1; have hfz77_2 := blk_frozen BK101.out 2) | (go_at_call 9; (with_reducible refine (eval_Holds.calls 7 1 1 (⟨#[]⟩ : ByteArray) 1 1 (⟨#[]⟩ : ByteArray) true _ A66.out).mono ?_); rintro e w78 ⟨rfl, hb⟩; have n0_ := Aside0.mk (Kd.N_below (qn_ HO_4.out) hb); have n1_ := Aside0.mk (Kd.N_below (qn_ HO_5.out) hb); have n2_ := Aside0.mk (Kd.N_below (qn_ HO_6.out) hb); have n3_ := Aside0.mk (Kd.N_below (qn_ HO_7.out) hb); have n4_ := Aside0.mk (Kd.V_below (qv_ HL135_0.out) hb); have n5_ := Aside0.mk (Kd.V_below (qv_ HL136_0.out) hb); have n6_ := Aside0.mk (Kd.V_below (qv_ HL137_0.out) hb); have n7_ := Aside0.mk (Kd.V_below (qv_ HL139_0.out) hb); have n8_ := Aside0.mk (blk_below (g := gb101) (o := .cells #[.int .i64 1, .int .i64 1, .string (⟨#[]⟩ : ByteArray)] 23 (0, 0)) (qb_ BK101.out) hb); have n9_ := Aside0.mk (blk_below (g := gb102) (o := .cells #[.int .i64 1, .int .i64 2, .string (⟨#[]⟩ : ByteArray)] 23 (0, 0)) (qb_ BK102.out) hb); have n10_ := Aside0.mk (blk_below (g := gb103) (o := .cells #[.int .i64 2, .int .i64 0, .string (⟨#[120]⟩ : ByteArray)] 23 (0, 0)) (qb_ BK103.out) hb); have n11_ := Aside0.mk (Kd.C_below (by repeat (first | (with_reducible exact HR135_0.out) | (with_reducible refine Kd.C_alloc ?_ _) | (with_reducible refine Kd.C_drewN ?_ _) | (with_reducible refine Kd.C_drew ?_) | exact HR135_0.out)) hb); have n12_ := Aside0.mk (Kd.C_below (by repeat (first | (with_reducible exact HR136_0.out) | (with_reducible refine Kd.C_alloc ?_ _) | (with_reducible refine Kd.C_drewN ?_ _) | (with_reducible refine Kd.C_drew ?_) | exact HR136_0.out)) hb); have n13_ := Aside0.mk (Kd.C_below (by repeat (first | (with_reducible exact HR137_0.out) | (with_reducible refine Kd.C_alloc ?_ _) | (with_reducible refine Kd.C_drewN ?_ _) | (with_reducible refine Kd.C_drew ?_) | exact HR137_0.out)) hb); have n14_ := Aside0.mk (Kd.C_below (by repeat (first | (with_reducible exact HR139_0.out) | (with_reducible refine Kd.C_alloc ?_ _) | (with_reducible refine Kd.C_drewN ?_ _) | (with_reducible refine Kd.C_drew ?_) | exact HR139_0.out)) hb); have n15_ := Aside0.mk (below_step (by repeat (first | (with_reducible first | exact HB.out | apply below_alloc | apply pw_below_drewN | apply below_drew1 | refine below_set ?_ GE101.out | refine below_set ?_ GE102.out | refine below_set ?_ GE103.out) | exact HB.out)) hb); clear HO_4; clear HO_5; clear HO_6; clear HO_7; clear HL135_0; clear HL136_0; clear HL137_0; clear HL139_0; clear BK101; clear BK102; clear BK103; clear HR135_0; clear HR136_0; clear HR137_0; clear HR139_0; clear HB; have HO_4 := n0_; have HO_5 := n1_; have HO_6 := n2_; have HO_7 := n3_; have HL135_0 := n4_; have HL136_0 := n5_; have HL137_0 := n6_; have HL139_0 := n7_; have BK101 := n8_; have BK102 := n9_; have BK103 := n10_; have HR135_0 := n11_; have HR136_0 := n12_; have HR137_0 := n13_; have HR139_0 := n14_; have HB := n15_; clear n0_ n1_ n2_ n3_ n4_ n5_ n6_ n7_ n8_ n9_ n10_ n11_ n12_ n13_ n14_ n15_; (try clear hb); (try clear hb2); (try clear hk); (try clear hi)))
              go_ret
              exact ⟨by first | rfl | (simp [errW_none, errW_some] <;> rfl) | (simp [*, errW_none, errW_some] <;> rfl), by repeat (first | (with_reducible first | exact HB.out | apply below_alloc | apply pw_below_drewN | apply below_drew1 | refine below_set ?_ GE101.out | refine below_set ?_ GE102.out | refine below_set ?_ GE103.out) | exact HB.out)⟩
             ·replace c67 := Bool.eq_false_iff.mpr c67
              subst c67
              have H1 : (if 0 < (y110.length : Int) then ((eval_Picked.f kj3 ((rd_T44 y110 0).f0) (([1, 5] : List Int))).bind fun t146 => (some ((t146.length : Int) == 1))) else (none)) = some r := by rw [if_neg (show ¬ (false = true) by decide)] at H; exact H
              clear H
              have H := H1
              clear H1
              by_cases c79 : 0 < (y110.length : Int)
              ·rw [if_pos c79] at H
               have c79b0 : decide (0 < (y110.length : Int)) = true := decide_eq_true c79
               have c79b1 : decide (0 < y110.length) = true := decide_eq_true (by omega)
               clear c79
               obtain ⟨y143, hy143⟩ : ∃ y_ : List Int, y_ = (([1, 5] : List Int)) := ⟨_, rfl⟩
               replace H : ((eval_Picked.f kj3 ((rd_T44 y110 0).f0) y143).bind fun t146 => (some ((t146.length : Int) == 1))) = some r := by first | (rw [hy143]; with_reducible exact H) | (have H2_ := (Option.bind_some _ _).symm.trans H; rw [hy143]; with_reducible exact H2_) | (have H2_ := (Option.bind_some _ _).symm.trans H; with_reducible exact H2_) | with_reducible exact H | (rw [hy143]; exact H) | exact H
               have Ny143 := Aside0.mk hy143
               clear hy143
               replace H := Option.bind_eq_some_iff.mp H
               obtain ⟨t146, A800, H⟩ := H
               replace H : (some ((t146.length : Int) == 1)) = some r := H
               have A80 := Aside0.mk A800
               clear A800
               obtain rfl := Option.some.inj H
               obtain ⟨Ao81, co81, eo81⟩ := Kd.N_slice HO_5.out
               subst eo81
               have p135 : 0 ≤ (0 : Int) := (by omega)
               have q135 : 0 < (t116.length : Int) := of_decide_eq_true (by first | (with_reducible assumption) | assumption)
               obtain ⟨ad135, A135_0, c135_0, e135, hx135_0, hx135_1, hl135_0, hi135_0⟩ := at_T44 (Kd.N_reads' HO_5.out).2.2 0 p135 q135
               cases e135
               obtain ⟨ce135, hce135, hMe135, hcc135⟩ := Kd.N_get HO_5.out z44 0 p135 (by first | exact q135 | exact of_decide_eq_true (by first | (with_reducible assumption) | assumption) | (have e_ := (Kd.N_reads' HO_5.out).1; omega))
               obtain ⟨ua135_0, uc135_0, rfl, ul135_0, ge135_0⟩ := k44_openF hMe135
               have hv135_0 := hcc135 0 _ rfl
               rw [Nat.add_zero] at hv135_0
               replace hv135_0 := Option.some.inj (hv135_0.symm.trans hx135_0)
               injection hv135_0 with hva_ hvn_ hvc_
               rw [hva_] at ge135_0
               rw [hvc_] at ul135_0
               have HL135_0 := Aside0.mk (show Kd.V k23 23 _ w.heap.size _ _ ((rd_T44 t116 0).f0) from Kd.V_mk ul135_0 ge135_0)
               clear hva_ hvn_ hvc_ ge135_0 ul135_0
               clear hcc135 hce135
               have qi135 : (0 < t116.length) = True := eq_true (by omega)
               (try rw [show ((0 : Int)).toNat = 0 from rfl] at hx135_0)
               (try rw [show 0 * 2 = 0 from rfl] at hx135_0)
               (try rw [Addr.add_zero'] at hx135_0)
               (try rw [show ((0 : Int)).toNat = 0 from rfl] at hx135_1)
               (try rw [show 0 * 2 = 0 from rfl] at hx135_1)
               (try rw [Addr.add_zero'] at hx135_1)
               have HR135_0 := Aside0.mk hi135_0
               have HC135_0 := Aside0.mk hl135_0
               clear hi135_0 hl135_0
               replace p135 := eq_true p135
               replace q135 := eq_true q135
               obtain ⟨Ao82, co82, eo82⟩ := Kd.N_slice HO_6.out
               subst eo82
               have p136 : 0 ≤ (0 : Int) := (by omega)
               have q136 : 0 < (t122.length : Int) := of_decide_eq_true (by first | (with_reducible assumption) | assumption)
               obtain ⟨ad136, A136_0, c136_0, e136, hx136_0, hx136_1, hl136_0, hi136_0⟩ := at_T44 (Kd.N_reads' HO_6.out).2.2 0 p136 q136
               cases e136
               obtain ⟨ce136, hce136, hMe136, hcc136⟩ := Kd.N_get HO_6.out z44 0 p136 (by first | exact q136 | exact of_decide_eq_true (by first | (with_reducible assumption) | assumption) | (have e_ := (Kd.N_reads' HO_6.out).1; omega))
               obtain ⟨ua136_0, uc136_0, rfl, ul136_0, ge136_0⟩ := k44_openF hMe136
               have hv136_0 := hcc136 0 _ rfl
               rw [Nat.add_zero] at hv136_0
               replace hv136_0 := Option.some.inj (hv136_0.symm.trans hx136_0)
               injection hv136_0 with hva_ hvn_ hvc_
               rw [hva_] at ge136_0
               rw [hvc_] at ul136_0
               have HL136_0 := Aside0.mk (show Kd.V k23 23 _ w.heap.size _ _ ((rd_T44 t122 0).f0) from Kd.V_mk ul136_0 ge136_0)
               clear hva_ hvn_ hvc_ ge136_0 ul136_0
               clear hcc136 hce136
               have qi136 : (0 < t122.length) = True := eq_true (by omega)
               (try rw [show ((0 : Int)).toNat = 0 from rfl] at hx136_0)
               (try rw [show 0 * 2 = 0 from rfl] at hx136_0)
               (try rw [Addr.add_zero'] at hx136_0)
               (try rw [show ((0 : Int)).toNat = 0 from rfl] at hx136_1)
               (try rw [show 0 * 2 = 0 from rfl] at hx136_1)
               (try rw [Addr.add_zero'] at hx136_1)
               have HR136_0 := Aside0.mk hi136_0
               have HC136_0 := Aside0.mk hl136_0
               clear hi136_0 hl136_0
               replace p136 := eq_true p136
               replace q136 := eq_true q136
               obtain ⟨Ao83, co83, eo83⟩ := Kd.N_slice HO_7.out
               subst eo83
               have p137 : 0 ≤ (0 : Int) := (by omega)
               have q137 : 0 < (t131.length : Int) := of_decide_eq_true (by first | (with_reducible assumption) | assumption)
               obtain ⟨ad137, A137_0, c137_0, e137, hx137_0, hx137_1, hl137_0, hi137_0⟩ := at_T44 (Kd.N_reads' HO_7.out).2.2 0 p137 q137
               cases e137
               obtain ⟨ce137, hce137, hMe137, hcc137⟩ := Kd.N_get HO_7.out z44 0 p137 (by first | exact q137 | exact of_decide_eq_true (by first | (with_reducible assumption) | assumption) | (have e_ := (Kd.N_reads' HO_7.out).1; omega))
               obtain ⟨ua137_0, uc137_0, rfl, ul137_0, ge137_0⟩ := k44_openF hMe137
               have hv137_0 := hcc137 0 _ rfl
               rw [Nat.add_zero] at hv137_0
               replace hv137_0 := Option.some.inj (hv137_0.symm.trans hx137_0)
               injection hv137_0 with hva_ hvn_ hvc_
               rw [hva_] at ge137_0
               rw [hvc_] at ul137_0
               have HL137_0 := Aside0.mk (show Kd.V k23 23 _ w.heap.size _ _ ((rd_T44 t131 0).f0) from Kd.V_mk ul137_0 ge137_0)
               clear hva_ hvn_ hvc_ ge137_0 ul137_0
               clear hcc137 hce137
               have qi137 : (0 < t131.length) = True := eq_true (by omega)
               (try rw [show ((0 : Int)).toNat = 0 from rfl] at hx137_0)
               (try rw [show 0 * 2 = 0 from rfl] at hx137_0)
               (try rw [Addr.add_zero'] at hx137_0)
               (try rw [show ((0 : Int)).toNat = 0 from rfl] at hx137_1)
               (try rw [show 0 * 2 = 0 from rfl] at hx137_1)
               (try rw [Addr.add_zero'] at hx137_1)
               have HR137_0 := Aside0.mk hi137_0
               have HC137_0 := Aside0.mk hl137_0
               clear hi137_0 hl137_0
               replace p137 := eq_true p137
               replace q137 := eq_true q137
               have p138 : 0 ≤ (1 : Int) := (by omega)
               have q138 : 1 < (((rd_T44 t131 0).f0).length : Int) := of_decide_eq_true (by first | (with_reducible assumption) | assumption)
               obtain ⟨ad138, e138, hx138_0, hx138_1, hx138_2⟩ := at_T23 (by repeat (first | (with_reducible exact HR137_0.out) | (with_reducible refine Kd.C_alloc ?_ _) | (with_reducible refine Kd.C_drewN ?_ _) | (with_reducible refine Kd.C_drew ?_) | exact HR137_0.out)) 1 p138 q138
               cases e138
               (try simp only [show (1 : Int).toNat = 1 from rfl, Nat.reduceMul, Nat.reduceEqDiff, Go.Addr.add, ↓reduceIte] at hx138_0)
               (try simp only [show (1 : Int).toNat = 1 from rfl, Nat.reduceMul, Nat.reduceEqDiff, Go.Addr.add, ↓reduceIte] at hx138_1)
               (try simp only [show (1 : Int).toNat = 1 from rfl, Nat.reduceMul, Nat.reduceEqDiff, Go.Addr.add, ↓reduceIte] at hx138_2)
               have qi138 : (1 < ((rd_T44 t131 0).f0).length) = True := eq_true (by omega)
               (try rw [show ((1 : Int)).toNat = 1 from rfl] at hx138_0)
               (try rw [show 1 * 3 = 3 from rfl] at hx138_0)
               (try rw [show ((1 : Int)).toNat = 1 from rfl] at hx138_1)
               (try rw [show 1 * 3 = 3 from rfl] at hx138_1)
               (try rw [show ((1 : Int)).toNat = 1 from rfl] at hx138_2)
               (try rw [show 1 * 3 = 3 from rfl] at hx138_2)
               replace p138 := eq_true p138
               replace q138 := eq_true q138
               have p139 : 0 ≤ (0 : Int) := (by omega)
               have q139 : 0 < (t131.length : Int) := of_decide_eq_true (by first | (with_reducible assumption) | assumption)
               obtain ⟨ad139, A139_0, c139_0, e139, hx139_0, hx139_1, hl139_0, hi139_0⟩ := at_T44 (Kd.N_reads' HO_7.out).2.2 0 p139 q139
               obtain rfl : ad137 = ad139 := (by injection e139)
               obtain ⟨ce139, hce139, hMe139, hcc139⟩ := Kd.N_get HO_7.out z44 0 p139 (by first | exact q139 | exact of_decide_eq_true (by first | (with_reducible assumption) | assumption) | (have e_ := (Kd.N_reads' HO_7.out).1; omega))
               obtain ⟨ua139_0, uc139_0, rfl, ul139_0, ge139_0⟩ := k44_openF hMe139
               have hv139_0 := hcc139 0 _ rfl
               rw [Nat.add_zero] at hv139_0
               replace hv139_0 := Option.some.inj (hv139_0.symm.trans hx139_0)
               injection hv139_0 with hva_ hvn_ hvc_
               rw [hva_] at ge139_0
               rw [hvc_] at ul139_0
               have HL139_0 := Aside0.mk (show Kd.V k23 23 _ w.heap.size _ _ ((rd_T44 t131 0).f0) from Kd.V_mk ul139_0 ge139_0)
               clear hva_ hvn_ hvc_ ge139_0 ul139_0
               clear hcc139 hce139
               have qi139 : (0 < t131.length) = True := eq_true (by omega)
               (try rw [show ((0 : Int)).toNat = 0 from rfl] at hx139_0)
               (try rw [show 0 * 2 = 0 from rfl] at hx139_0)
               (try rw [Addr.add_zero'] at hx139_0)
               (try rw [show ((0 : Int)).toNat = 0 from rfl] at hx139_1)
               (try rw [show 0 * 2 = 0 from rfl] at hx139_1)
               (try rw [Addr.add_zero'] at hx139_1)
               have HR139_0 := Aside0.mk hi139_0
               have HC139_0 := Aside0.mk hl139_0
               clear hi139_0 hl139_0
               replace p139 := eq_true p139
               replace q139 := eq_true q139
               have ea_ := Option.some.inj (hx137_0.symm.trans hx139_0)
               injection ea_ with ea_ en_ ec_
               subst ea_
               subst ec_
               clear en_
               have hnb84 := NB101_102.out
               have hnc84 := NB102_101.out
               have hnb85 := NB101_103.out
               have hnc85 := NB103_101.out
               have hcz86_0 : wc.cell? ⟨gb101, 0, none⟩ = some (.int .i64 1) := (blk_cell BK101.out 0).trans rfl
               have hcz86_1 : wc.cell? ⟨gb101, 1, none⟩ = some (.int .i64 1) := (blk_cell BK101.out 1).trans rfl
               have hcz86_2 : wc.cell? ⟨gb101, 2, none⟩ = some (.string (⟨#[]⟩ : ByteArray)) := (blk_cell BK101.out 2).trans rfl
               have hfz86_0 := blk_frozen BK101.out 0
               have hfz86_1 := blk_frozen BK101.out 1
               have hfz86_2 := blk_frozen BK101.out 2
               have hnb87 := NB102_103.out
               have hnc87 := NB103_102.out
               have hcz88_0 : wc.cell? ⟨gb102, 0, none⟩ = some (.int .i64 1) := (blk_cell BK102.out 0).trans rfl
               have hcz88_1 : wc.cell? ⟨gb102, 1, none⟩ = some (.int .i64 2) := (blk_cell BK102.out 1).trans rfl
               have hcz88_2 : wc.cell? ⟨gb102, 2, none⟩ = some (.string (⟨#[]⟩ : ByteArray)) := (blk_cell BK102.out 2).trans rfl
               have hfz88_0 := blk_frozen BK102.out 0
               have hfz88_1 := blk_frozen BK102.out 1
               have hfz88_2 := blk_frozen BK102.out 2
               go_wp2_with (first | (go_at_call 9; (with_reducible refine (eval_Holds.calls 4 1 1 (⟨#[]⟩ : ByteArray) 1 2 (⟨#[]⟩ : ByteArray) true _ A64.out).mono ?_); rintro e w89 ⟨rfl, hb⟩; have n0_ := Aside0.mk (Kd.N_below (qn_ HO_4.out) hb); have n1_ := Aside0.mk (Kd.N_below (qn_ HO_5.out) hb); have n2_ := Aside0.mk (Kd.N_below (qn_ HO_6.out) hb); have n3_ := Aside0.mk (Kd.N_below (qn_ HO_7.out) hb); have n4_ := Aside0.mk (Kd.V_below (qv_ HL135_0.out) hb); have n5_ := Aside0.mk (Kd.V_below (qv_ HL136_0.out) hb); have n6_ := Aside0.mk (Kd.V_below (qv_ HL137_0.out) hb); have n7_ := Aside0.mk (Kd.V_below (qv_ HL139_0.out) hb); have n8_ := Aside0.mk (blk_below (g := gb101) (o := .cells #[.int .i64 1, .int .i64 1, .string (⟨#[]⟩ : ByteArray)] 23 (0, 0)) (qb_ BK101.out) hb); have n9_ := Aside0.mk (blk_below (g := gb102) (o := .cells #[.int .i64 1, .int .i64 2, .string (⟨#[]⟩ : ByteArray)] 23 (0, 0)) (qb_ BK102.out) hb); have n10_ := Aside0.mk (blk_below (g := gb103) (o := .cells #[.int .i64 2, .int .i64 0, .string (⟨#[120]⟩ : ByteArray)] 23 (0, 0)) (qb_ BK103.out) hb); have n11_ := Aside0.mk (Kd.C_below (by repeat (first | (with_reducible exact HR135_0.out) | (with_reducible refine Kd.C_alloc ?_ _) | (with_reducible refine Kd.C_drewN ?_ _) | (with_reducible refine Kd.C_drew ?_) | exact HR135_0.out)) hb); have n12_ := Aside0.mk (Kd.C_below (by repeat (first | (with_reducible exact HR136_0.out) | (with_reducible refine Kd.C_alloc ?_ _) | (with_reducible refine Kd.C_drewN ?_ _) | (with_reducible refine Kd.C_drew ?_) | exact HR136_0.out)) hb); have n13_ := Aside0.mk (Kd.C_below (by repeat (first | (with_reducible exact HR137_0.out) | (with_reducible refine Kd.C_alloc ?_ _) | (with_reducible refine Kd.C_drewN ?_ _) | (with_reducible refine Kd.C_drew ?_) | exact HR137_0.out)) hb); have n14_ := Aside0.mk (Kd.C_below (by repeat (first | (with_reducible exact HR139_0.out) | (with_reducible refine Kd.C_alloc ?_ _) | (with_reducible refine Kd.C_drewN ?_ _) | (with_reducible refine Kd.C_drew ?_) | exact HR139_0.out)) hb); have n15_ := Aside0.mk (below_step (by repeat (first | (with_reducible first | exact HB.out | apply below_alloc | apply pw_below_drewN | apply below_drew1 | refine below_set ?_ GE101.out | refine below_set ?_ GE102.out | refine below_set ?_ GE103.out) | exact HB.out)) hb); clear HO_4; clear HO_5; clear HO_6; clear HO_7; clear HL135_0; clear HL136_0; clear HL137_0; clear HL139_0; clear BK101; clear BK102; clear BK103; clear HR135_0; clear HR136_0; clear HR137_0; clear HR139_0; clear HB; have HO_4 := n0_; have HO_5 := n1_; have HO_6 := n2_; have HO_7 := n3_; have HL135_0 := n4_; have HL136_0 := n5_; have HL137_0 := n6_; have HL139_0 := n7_; have BK101 := n8_; have BK102 := n9_; have BK103 := n10_; have HR135_0 := n11_; have HR136_0 := n12_; have HR137_0 := n13_; have HR139_0 := n14_; have HB := n15_; clear n0_ n1_ n2_ n3_ n4_ n5_ n6_ n7_ n8_ n9_ n10_ n11_ n12_ n13_ n14_ n15_; (try clear hb); (try clear hb2); (try clear hk); (try clear hi); have hcz90_0 : w89.cell? ⟨gb101, 0, none⟩ = some (.int .i64 1) := (blk_cell BK101.out 0).trans rfl; have hcz90_1 : w89.cell? ⟨gb101, 1, none⟩ = some (.int .i64 1) := (blk_cell BK101.out 1).trans rfl; have hcz90_2 : w89.cell? ⟨gb101, 2, none⟩ = some (.string (⟨#[]⟩ : ByteArray)) := (blk_cell BK101.out 2).trans rfl; have hfz90_0 := blk_frozen BK101.out 0; have hfz90_1 := blk_frozen BK101.out 1; have hfz90_2 := blk_frozen BK101.out 2) | (go_at_call 9; (with_reducible refine (eval_Holds.calls 7 1 1 (⟨#[]⟩ : ByteArray) 1 1 (⟨#[]⟩ : ByteArray) false _ A66.out).mono ?_); rintro e w91 ⟨rfl, hb⟩; have n0_ := Aside0.mk (Kd.N_below (qn_ HO_4.out) hb); have n1_ := Aside0.mk (Kd.N_below (qn_ HO_5.out) hb); have n2_ := Aside0.mk (Kd.N_below (qn_ HO_6.out) hb); have n3_ := Aside0.mk (Kd.N_below (qn_ HO_7.out) hb); have n4_ := Aside0.mk (Kd.V_below (qv_ HL135_0.out) hb); have n5_ := Aside0.mk (Kd.V_below (qv_ HL136_0.out) hb); have n6_ := Aside0.mk (Kd.V_below (qv_ HL137_0.out) hb); have n7_ := Aside0.mk (Kd.V_below (qv_ HL139_0.out) hb); have n8_ := Aside0.mk (blk_below (g := gb101) (o := .cells #[.int .i64 1, .int .i64 1, .string (⟨#[]⟩ : ByteArray)] 23 (0, 0)) (qb_ BK101.out) hb); have n9_ := Aside0.mk (blk_below (g := gb102) (o := .cells #[.int .i64 1, .int .i64 2, .string (⟨#[]⟩ : ByteArray)] 23 (0, 0)) (qb_ BK102.out) hb); have n10_ := Aside0.mk (blk_below (g := gb103) (o := .cells #[.int .i64 2, .int .i64 0, .string (⟨#[120]⟩ : ByteArray)] 23 (0, 0)) (qb_ BK103.out) hb); have n11_ := Aside0.mk (Kd.C_below (by repeat (first | (with_reducible exact HR135_0.out) | (with_reducible refine Kd.C_alloc ?_ _) | (with_reducible refine Kd.C_drewN ?_ _) | (with_reducible refine Kd.C_drew ?_) | exact HR135_0.out)) hb); have n12_ := Aside0.mk (Kd.C_below (by repeat (first | (with_reducible exact HR136_0.out) | (with_reducible refine Kd.C_alloc ?_ _) | (with_reducible refine Kd.C_drewN ?_ _) | (with_reducible refine Kd.C_drew ?_) | exact HR136_0.out)) hb); have n13_ := Aside0.mk (Kd.C_below (by repeat (first | (with_reducible exact HR137_0.out) | (with_reducible refine Kd.C_alloc ?_ _) | (with_reducible refine Kd.C_drewN ?_ _) | (with_reducible refine Kd.C_drew ?_) | exact HR137_0.out)) hb); have n14_ := Aside0.mk (Kd.C_below (by repeat (first | (with_reducible exact HR139_0.out) | (with_reducible refine Kd.C_alloc ?_ _) | (with_reducible refine Kd.C_drewN ?_ _) | (with_reducible refine Kd.C_drew ?_) | exact HR139_0.out)) hb); have n15_ := Aside0.mk (below_step (by repeat (first | (with_reducible first | exact HB.out | apply below_alloc | apply pw_below_drewN | apply below_drew1 | refine below_set ?_ GE101.out | refine below_set ?_ GE102.out | refine below_set ?_ GE103.out) | exact HB.out)) hb); clear HO_4; clear HO_5; clear HO_6; clear HO_7; clear HL135_0; clear HL136_0; clear HL137_0; clear HL139_0; clear BK101; clear BK102; clear BK103; clear HR135_0; clear HR136_0; clear HR137_0; clear HR139_0; clear HB; have HO_4 := n0_; have HO_5 := n1_; have HO_6 := n2_; have HO_7 := n3_; have HL135_0 := n4_; have HL136_0 := n5_; have HL137_0 := n6_; have HL139_0 := n7_; have BK101 := n8_; have BK102 := n9_; have BK103 := n10_; have HR135_0 := n11_; have HR136_0 := n12_; have HR137_0 := n13_; have HR139_0 := n14_; have HB := n15_; clear n0_ n1_ n2_ n3_ n4_ n5_ n6_ n7_ n8_ n9_ n10_ n11_ n12_ n13_ n14_ n15_; (try clear hb); (try clear hb2); (try clear hk); (try clear hi); have p142 : 0 ≤ (0 : Int) := (by omega); have q142 : 0 < (y110.length : Int) := of_decide_eq_true (by first | (with_reducible assumption) | assumption); obtain ⟨ad142, A142_0, c142_0, e142, hx142_0, hx142_1, hl142_0, hi142_0⟩ := at_T44 (Kd.N_reads' HO_4.out).2.2 0 p142 q142; cases e142; obtain ⟨ce142, hce142, hMe142, hcc142⟩ := Kd.N_get HO_4.out z44 0 p142 (by first | exact q142 | exact of_decide_eq_true (by first | (with_reducible assumption) | assumption) | (have e_ := (Kd.N_reads' HO_4.out).1; omega)); obtain ⟨ua142_0, uc142_0, rfl, ul142_0, ge142_0⟩ := k44_openF hMe142; have hv142_0 := hcc142 0 _ rfl; rw [Nat.add_zero] at hv142_0; replace hv142_0 := Option.some.inj (hv142_0.symm.trans hx142_0); injection hv142_0 with hva_ hvn_ hvc_; rw [hva_] at ge142_0; rw [hvc_] at ul142_0; have HL142_0 := Aside0.mk (show Kd.V k23 23 _ w.heap.size _ _ ((rd_T44 y110 0).f0) from Kd.V_mk ul142_0 ge142_0); clear hva_ hvn_ hvc_ ge142_0 ul142_0; clear hcc142 hce142; have qi142 : (0 < y110.length) = True := eq_true (by omega); (try rw [show ((0 : Int)).toNat = 0 from rfl] at hx142_0); (try rw [show 0 * 2 = 0 from rfl] at hx142_0); (try rw [Addr.add_zero'] at hx142_0); (try rw [show ((0 : Int)).toNat = 0 from rfl] at hx142_1); (try rw [show 0 * 2 = 0 from rfl] at hx142_1); (try rw [Addr.add_zero'] at hx142_1); have HR142_0 := Aside0.mk hi142_0; have HC142_0 := Aside0.mk hl142_0; clear hi142_0 hl142_0; replace p142 := eq_true p142; replace q142 := eq_true q142) | ((with_reducible refine gate_dst (N := 101) rfl ?_); (try (refine gate_guard (by rfl) ?_; dsimp only)); refine Kd.R_lit (Kd.int .i64) _ 3 ?hg (N := 101) ?hd (xs := ([1, 5] : List Int)) (inner := [.int .i64 1, .int .i64 5]) (ok := fun _ => True) (okp := fun _ => True) ?hr ?hp (fun _ hk => hk) trivial (Below.refl _ _) (Nat.le_refl _) (by simp) ?_; (case hd => rfl); (case hg => rfl); (case hr => first | (go_simp; done) | (go_simp; rfl)); (case hp => exact (Reps.one (show Kd.M (Kd.int .i64) _ _ _ 1 [.int .i64 1] from rfl) (Reps.one (show Kd.M (Kd.int .i64) _ _ _ 5 [.int .i64 5] from rfl) (Reps.none _ _)))); intro v144 w92 ho93 hb hg_ hnew_; clear hg_ hnew_; (first | rw [← Ny143.out] at ho93 | (simp only [Int.reduceToNat] at ho93; rw [← Ny143.out] at ho93)); have n0_ := Aside0.mk (Kd.N_elder' (qn_ HO_4.out) (Kd.R_base ho93) hb); have n1_ := Aside0.mk (Kd.N_elder' (qn_ HO_5.out) (Kd.R_base ho93) hb); have n2_ := Aside0.mk (Kd.N_elder' (qn_ HO_6.out) (Kd.R_base ho93) hb); have n3_ := Aside0.mk (Kd.N_elder' (qn_ HO_7.out) (Kd.R_base ho93) hb); have n4_ := Aside0.mk (Kd.V_elder' (qv_ HL135_0.out) (Kd.R_base ho93) hb); have n5_ := Aside0.mk (Kd.V_elder' (qv_ HL136_0.out) (Kd.R_base ho93) hb); have n6_ := Aside0.mk (Kd.V_elder' (qv_ HL137_0.out) (Kd.R_base ho93) hb); have n7_ := Aside0.mk (Kd.V_elder' (qv_ HL139_0.out) (Kd.R_base ho93) hb); have n8_ := Aside0.mk (Kd.V_elder' (qv_ HL142_0.out) (Kd.R_base ho93) hb); have n9_ := Aside0.mk (Kd.R_lower ho93 (below_size (by repeat (first | (with_reducible first | exact HB.out | apply below_alloc | apply pw_below_drewN | apply below_drew1 | refine below_set ?_ GE101.out | refine below_set ?_ GE102.out | refine below_set ?_ GE103.out) | exact HB.out)))); have n10_ := Aside0.mk (blk_below (g := gb101) (o := .cells #[.int .i64 1, .int .i64 1, .string (⟨#[]⟩ : ByteArray)] 23 (0, 0)) (qb_ BK101.out) hb); have n11_ := Aside0.mk (blk_below (g := gb102) (o := .cells #[.int .i64 1, .int .i64 2, .string (⟨#[]⟩ : ByteArray)] 23 (0, 0)) (qb_ BK102.out) hb); have n12_ := Aside0.mk (blk_below (g := gb103) (o := .cells #[.int .i64 2, .int .i64 0, .string (⟨#[120]⟩ : ByteArray)] 23 (0, 0)) (qb_ BK103.out) hb); have n13_ := Aside0.mk (Kd.C_below (by repeat (first | (with_reducible exact HR135_0.out) | (with_reducible refine Kd.C_alloc ?_ _) | (with_reducible refine Kd.C_drewN ?_ _) | (with_reducible refine Kd.C_drew ?_) | exact HR135_0.out)) hb); have n14_ := Aside0.mk (Kd.C_below (by repeat (first | (with_reducible exact HR136_0.out) | (with_reducible refine Kd.C_alloc ?_ _) | (with_reducible refine Kd.C_drewN ?_ _) | (with_reducible refine Kd.C_drew ?_) | exact HR136_0.out)) hb); have n15_ := Aside0.mk (Kd.C_below (by repeat (first | (with_reducible exact HR137_0.out) | (with_reducible refine Kd.C_alloc ?_ _) | (with_reducible refine Kd.C_drewN ?_ _) | (with_reducible refine Kd.C_drew ?_) | exact HR137_0.out)) hb); have n16_ := Aside0.mk (Kd.C_below (by repeat (first | (with_reducible exact HR139_0.out) | (with_reducible refine Kd.C_alloc ?_ _) | (with_reducible refine Kd.C_drewN ?_ _) | (with_reducible refine Kd.C_drew ?_) | exact HR139_0.out)) hb); have n17_ := Aside0.mk (Kd.C_below (by repeat (first | (with_reducible exact HR142_0.out) | (with_reducible refine Kd.C_alloc ?_ _) | (with_reducible refine Kd.C_drewN ?_ _) | (with_reducible refine Kd.C_drew ?_) | exact HR142_0.out)) hb); have n18_ := Aside0.mk (below_step (by repeat (first | (with_reducible first | exact HB.out | apply below_alloc | apply pw_below_drewN | apply below_drew1 | refine below_set ?_ GE101.out | refine below_set ?_ GE102.out | refine below_set ?_ GE103.out) | exact HB.out)) hb); clear HO_4; clear HO_5; clear HO_6; clear HO_7; clear HL135_0; clear HL136_0; clear HL137_0; clear HL139_0; clear HL142_0; clear BK101; clear BK102; clear BK103; clear HR135_0; clear HR136_0; clear HR137_0; clear HR139_0; clear HR142_0; clear HB; have HO_4 := n0_; have HO_5 := n1_; have HO_6 := n2_; have HO_7 := n3_; have HL135_0 := n4_; have HL136_0 := n5_; have HL137_0 := n6_; have HL139_0 := n7_; have HL142_0 := n8_; have HO145 := n9_; have BK101 := n10_; have BK102 := n11_; have BK103 := n12_; have HR135_0 := n13_; have HR136_0 := n14_; have HR137_0 := n15_; have HR139_0 := n16_; have HR142_0 := n17_; have HB := n18_; clear n0_ n1_ n2_ n3_ n4_ n5_ n6_ n7_ n8_ n9_ n10_ n11_ n12_ n13_ n14_ n15_ n16_ n17_ n18_; clear hb ho93; obtain ⟨Ao94, co94, eo94⟩ := Kd.R_slice HO145.out; subst eo94) | (go_at_call 7; (with_reducible refine (eval_Picked.calls kj3 _ _ ((rd_T44 y110 0).f0) _ _ y143 t146 _ ?side1 ?side2 ?side3 ?side4 A80.out).mono ?_); (case side1 => repeat (first | exact (by repeat (first | (with_reducible exact HR142_0.out) | (with_reducible refine Kd.C_alloc ?_ _) | (with_reducible refine Kd.C_drewN ?_ _) | (with_reducible refine Kd.C_drew ?_) | exact HR142_0.out)) | (with_reducible refine Kd.C_alloc ?_ _) | (with_reducible refine Kd.C_drewN ?_ _) | (with_reducible refine Kd.C_drew ?_))); (case side2 => exact HC142_0.out); (case side3 => repeat (first | exact (Kd.R_reads' HO145.out).2.2 | (with_reducible refine Kd.C_alloc ?_ _) | (with_reducible refine Kd.C_drewN ?_ _) | (with_reducible refine Kd.C_drew ?_))); (case side4 => exact (Kd.R_reads' HO145.out).2.1); rintro e w95 ⟨v147, rfl, ho0, hb⟩; have n0_ := Aside0.mk (Kd.N_elder' (qn_ HO_4.out) (Kd.R_base ho0) hb); have n1_ := Aside0.mk (Kd.N_elder' (qn_ HO_5.out) (Kd.R_base ho0) hb); have n2_ := Aside0.mk (Kd.N_elder' (qn_ HO_6.out) (Kd.R_base ho0) hb); have n3_ := Aside0.mk (Kd.N_elder' (qn_ HO_7.out) (Kd.R_base ho0) hb); have n4_ := Aside0.mk (Kd.V_elder' (qv_ HL135_0.out) (Kd.R_base ho0) hb); have n5_ := Aside0.mk (Kd.V_elder' (qv_ HL136_0.out) (Kd.R_base ho0) hb); have n6_ := Aside0.mk (Kd.V_elder' (qv_ HL137_0.out) (Kd.R_base ho0) hb); have n7_ := Aside0.mk (Kd.V_elder' (qv_ HL139_0.out) (Kd.R_base ho0) hb); have n8_ := Aside0.mk (Kd.V_elder' (qv_ HL142_0.out) (Kd.R_base ho0) hb); have n9_ := Aside0.mk (Kd.R_below (qr_ HO145.out) hb); have n10_ := Aside0.mk (Kd.R_lower (Kd.R_newB (Kd.R_newB (Kd.R_newB ho0 (g := gb101) (o := .cells #[.int .i64 1, .int .i64 1, .string (⟨#[]⟩ : ByteArray)] 23 (0, 0)) (qb_ BK101.out)) (g := gb102) (o := .cells #[.int .i64 1, .int .i64 2, .string (⟨#[]⟩ : ByteArray)] 23 (0, 0)) (qb_ BK102.out)) (g := gb103) (o := .cells #[.int .i64 2, .int .i64 0, .string (⟨#[120]⟩ : ByteArray)] 23 (0, 0)) (qb_ BK103.out)) (below_size (by repeat (first | (with_reducible first | exact HB.out | apply below_alloc | apply pw_below_drewN | apply below_drew1 | refine below_set ?_ GE101.out | refine below_set ?_ GE102.out | refine below_set ?_ GE103.out) | exact HB.out)))); have n11_ := Aside0.mk (blk_below (g := gb101) (o := .cells #[.int .i64 1, .int .i64 1, .string (⟨#[]⟩ : ByteArray)] 23 (0, 0)) (qb_ BK101.out) hb); have n12_ := Aside0.mk (blk_below (g := gb102) (o := .cells #[.int .i64 1, .int .i64 2, .string (⟨#[]⟩ : ByteArray)] 23 (0, 0)) (qb_ BK102.out) hb); have n13_ := Aside0.mk (blk_below (g := gb103) (o := .cells #[.int .i64 2, .int .i64 0, .string (⟨#[120]⟩ : ByteArray)] 23 (0, 0)) (qb_ BK103.out) hb); have n14_ := Aside0.mk (Kd.C_below (by repeat (first | (with_reducible exact HR135_0.out) | (with_reducible refine Kd.C_alloc ?_ _) | (with_reducible refine Kd.C_drewN ?_ _) | (with_reducible refine Kd.C_drew ?_) | exact HR135_0.out)) hb); have n15_ := Aside0.mk (Kd.C_below (by repeat (first | (with_reducible exact HR136_0.out) | (with_reducible refine Kd.C_alloc ?_ _) | (with_reducible refine Kd.C_drewN ?_ _) | (with_reducible refine Kd.C_drew ?_) | exact HR136_0.out)) hb); have n16_ := Aside0.mk (Kd.C_below (by repeat (first | (with_reducible exact HR137_0.out) | (with_reducible refine Kd.C_alloc ?_ _) | (with_reducible refine Kd.C_drewN ?_ _) | (with_reducible refine Kd.C_drew ?_) | exact HR137_0.out)) hb); have n17_ := Aside0.mk (Kd.C_below (by repeat (first | (with_reducible exact HR139_0.out) | (with_reducible refine Kd.C_alloc ?_ _) | (with_reducible refine Kd.C_drewN ?_ _) | (with_reducible refine Kd.C_drew ?_) | exact HR139_0.out)) hb); have n18_ := Aside0.mk (Kd.C_below (by repeat (first | (with_reducible exact HR142_0.out) | (with_reducible refine Kd.C_alloc ?_ _) | (with_reducible refine Kd.C_drewN ?_ _) | (with_reducible refine Kd.C_drew ?_) | exact HR142_0.out)) hb); have n19_ := Aside0.mk (below_step (by repeat (first | (with_reducible first | exact HB.out | apply below_alloc | apply pw_below_drewN | apply below_drew1 | refine below_set ?_ GE101.out | refine below_set ?_ GE102.out | refine below_set ?_ GE103.out) | exact HB.out)) hb); clear HO_4; clear HO_5; clear HO_6; clear HO_7; clear HL135_0; clear HL136_0; clear HL137_0; clear HL139_0; clear HL142_0; clear HO145; clear BK101; clear BK102; clear BK103; clear HR135_0; clear HR136_0; clear HR137_0; clear HR139_0; clear HR142_0; clear HB; have HO_4 := n0_; have HO_5 := n1_; have HO_6 := n2_; have HO_7 := n3_; have HL135_0 := n4_; have HL136_0 := n5_; have HL137_0 := n6_; have HL139_0 := n7_; have HL142_0 := n8_; have HO145 := n9_; have HO148 := n10_; have BK101 := n11_; have BK102 := n12_; have BK103 := n13_; have HR135_0 := n14_; have HR136_0 := n15_; have HR137_0 := n16_; have HR139_0 := n17_; have HR142_0 := n18_; have HB := n19_; clear n0_ n1_ n2_ n3_ n4_ n5_ n6_ n7_ n8_ n9_ n10_ n11_ n12_ n13_ n14_ n15_ n16_ n17_ n18_ n19_; (try clear hb); (try clear hb2); (try clear hk); (try clear hi); (try clear ho0); obtain ⟨Ao96, co96, eo96⟩ := Kd.R_slice HO148.out; subst eo96))
               go_ret
               exact ⟨by first | rfl | (simp [errW_none, errW_some] <;> rfl) | (simp [*, errW_none, errW_some] <;> rfl), by repeat (first | (with_reducible first | exact HB.out | apply below_alloc | apply pw_below_drewN | apply below_drew1 | refine below_set ?_ GE101.out | refine below_set ?_ GE102.out | refine below_set ?_ GE103.out) | exact HB.out)⟩
              ·rw [if_neg c79] at H
               exact absurd H (by simp)
            ·replace c65 := Bool.eq_false_iff.mpr c65
             subst c65
             have H1 : (some false) = some r := by rw [if_neg (show ¬ (false = true) by decide)] at H; exact H
             clear H
             have H := H1
             clear H1
             obtain rfl := Option.some.inj H
             obtain ⟨Ao97, co97, eo97⟩ := Kd.N_slice HO_5.out
             subst eo97
             have p135 : 0 ≤ (0 : Int) := (by omega)
             have q135 : 0 < (t116.length : Int) := of_decide_eq_true (by first | (with_reducible assumption) | assumption)
             obtain ⟨ad135, A135_0, c135_0, e135, hx135_0, hx135_1, hl135_0, hi135_0⟩ := at_T44 (Kd.N_reads' HO_5.out).2.2 0 p135 q135
             cases e135
             obtain ⟨ce135, hce135, hMe135, hcc135⟩ := Kd.N_get HO_5.out z44 0 p135 (by first | exact q135 | exact of_decide_eq_true (by first | (with_reducible assumption) | assumption) | (have e_ := (Kd.N_reads' HO_5.out).1; omega))
             obtain ⟨ua135_0, uc135_0, rfl, ul135_0, ge135_0⟩ := k44_openF hMe135
             have hv135_0 := hcc135 0 _ rfl
             rw [Nat.add_zero] at hv135_0
             replace hv135_0 := Option.some.inj (hv135_0.symm.trans hx135_0)
             injection hv135_0 with hva_ hvn_ hvc_
             rw [hva_] at ge135_0
             rw [hvc_] at ul135_0
             have HL135_0 := Aside0.mk (show Kd.V k23 23 _ w.heap.size _ _ ((rd_T44 t116 0).f0) from Kd.V_mk ul135_0 ge135_0)
             clear hva_ hvn_ hvc_ ge135_0 ul135_0
             clear hcc135 hce135
             have qi135 : (0 < t116.length) = True := eq_true (by omega)
             (try rw [show ((0 : Int)).toNat = 0 from rfl] at hx135_0)
             (try rw [show 0 * 2 = 0 from rfl] at hx135_0)
             (try rw [Addr.add_zero'] at hx135_0)
             (try rw [show ((0 : Int)).toNat = 0 from rfl] at hx135_1)
             (try rw [show 0 * 2 = 0 from rfl] at hx135_1)
             (try rw [Addr.add_zero'] at hx135_1)
             have HR135_0 := Aside0.mk hi135_0
             have HC135_0 := Aside0.mk hl135_0
             clear hi135_0 hl135_0
             replace p135 := eq_true p135
             replace q135 := eq_true q135
             obtain ⟨Ao98, co98, eo98⟩ := Kd.N_slice HO_6.out
             subst eo98
             have p136 : 0 ≤ (0 : Int) := (by omega)
             have q136 : 0 < (t122.length : Int) := of_decide_eq_true (by first | (with_reducible assumption) | assumption)
             obtain ⟨ad136, A136_0, c136_0, e136, hx136_0, hx136_1, hl136_0, hi136_0⟩ := at_T44 (Kd.N_reads' HO_6.out).2.2 0 p136 q136
             cases e136
             obtain ⟨ce136, hce136, hMe136, hcc136⟩ := Kd.N_get HO_6.out z44 0 p136 (by first | exact q136 | exact of_decide_eq_true (by first | (with_reducible assumption) | assumption) | (have e_ := (Kd.N_reads' HO_6.out).1; omega))
             obtain ⟨ua136_0, uc136_0, rfl, ul136_0, ge136_0⟩ := k44_openF hMe136
             have hv136_0 := hcc136 0 _ rfl
             rw [Nat.add_zero] at hv136_0
             replace hv136_0 := Option.some.inj (hv136_0.symm.trans hx136_0)
             injection hv136_0 with hva_ hvn_ hvc_
             rw [hva_] at ge136_0
             rw [hvc_] at ul136_0
             have HL136_0 := Aside0.mk (show Kd.V k23 23 _ w.heap.size _ _ ((rd_T44 t122 0).f0) from Kd.V_mk ul136_0 ge136_0)
             clear hva_ hvn_ hvc_ ge136_0 ul136_0
             clear hcc136 hce136
             have qi136 : (0 < t122.length) = True := eq_true (by omega)
             (try rw [show ((0 : Int)).toNat = 0 from rfl] at hx136_0)
             (try rw [show 0 * 2 = 0 from rfl] at hx136_0)
             (try rw [Addr.add_zero'] at hx136_0)
             (try rw [show ((0 : Int)).toNat = 0 from rfl] at hx136_1)
             (try rw [show 0 * 2 = 0 from rfl] at hx136_1)
             (try rw [Addr.add_zero'] at hx136_1)
             have HR136_0 := Aside0.mk hi136_0
             have HC136_0 := Aside0.mk hl136_0
             clear hi136_0 hl136_0
             replace p136 := eq_true p136
             replace q136 := eq_true q136
             obtain ⟨Ao99, co99, eo99⟩ := Kd.N_slice HO_7.out
             subst eo99
             have p137 : 0 ≤ (0 : Int) := (by omega)
             have q137 : 0 < (t131.length : Int) := of_decide_eq_true (by first | (with_reducible assumption) | assumption)
             obtain ⟨ad137, A137_0, c137_0, e137, hx137_0, hx137_1, hl137_0, hi137_0⟩ := at_T44 (Kd.N_reads' HO_7.out).2.2 0 p137 q137
             cases e137
             obtain ⟨ce137, hce137, hMe137, hcc137⟩ := Kd.N_get HO_7.out z44 0 p137 (by first | exact q137 | exact of_decide_eq_true (by first | (with_reducible assumption) | assumption) | (have e_ := (Kd.N_reads' HO_7.out).1; omega))
             obtain ⟨ua137_0, uc137_0, rfl, ul137_0, ge137_0⟩ := k44_openF hMe137
             have hv137_0 := hcc137 0 _ rfl
             rw [Nat.add_zero] at hv137_0
             replace hv137_0 := Option.some.inj (hv137_0.symm.trans hx137_0)
             injection hv137_0 with hva_ hvn_ hvc_
             rw [hva_] at ge137_0
             rw [hvc_] at ul137_0
             have HL137_0 := Aside0.mk (show Kd.V k23 23 _ w.heap.size _ _ ((rd_T44 t131 0).f0) from Kd.V_mk ul137_0 ge137_0)
             clear hva_ hvn_ hvc_ ge137_0 ul137_0
             clear hcc137 hce137
             have qi137 : (0 < t131.length) = True := eq_true (by omega)
             (try rw [show ((0 : Int)).toNat = 0 from rfl] at hx137_0)
             (try rw [show 0 * 2 = 0 from rfl] at hx137_0)
             (try rw [Addr.add_zero'] at hx137_0)
             (try rw [show ((0 : Int)).toNat = 0 from rfl] at hx137_1)
             (try rw [show 0 * 2 = 0 from rfl] at hx137_1)
             (try rw [Addr.add_zero'] at hx137_1)
             have HR137_0 := Aside0.mk hi137_0
             have HC137_0 := Aside0.mk hl137_0
             clear hi137_0 hl137_0
             replace p137 := eq_true p137
             replace q137 := eq_true q137
             have p138 : 0 ≤ (1 : Int) := (by omega)
             have q138 : 1 < (((rd_T44 t131 0).f0).length : Int) := of_decide_eq_true (by first | (with_reducible assumption) | assumption)
             obtain ⟨ad138, e138, hx138_0, hx138_1, hx138_2⟩ := at_T23 (by repeat (first | (with_reducible exact HR137_0.out) | (with_reducible refine Kd.C_alloc ?_ _) | (with_reducible refine Kd.C_drewN ?_ _) | (with_reducible refine Kd.C_drew ?_) | exact HR137_0.out)) 1 p138 q138
             cases e138
             (try simp only [show (1 : Int).toNat = 1 from rfl, Nat.reduceMul, Nat.reduceEqDiff, Go.Addr.add, ↓reduceIte] at hx138_0)
             (try simp only [show (1 : Int).toNat = 1 from rfl, Nat.reduceMul, Nat.reduceEqDiff, Go.Addr.add, ↓reduceIte] at hx138_1)
             (try simp only [show (1 : Int).toNat = 1 from rfl, Nat.reduceMul, Nat.reduceEqDiff, Go.Addr.add, ↓reduceIte] at hx138_2)
             have qi138 : (1 < ((rd_T44 t131 0).f0).length) = True := eq_true (by omega)
             (try rw [show ((1 : Int)).toNat = 1 from rfl] at hx138_0)
             (try rw [show 1 * 3 = 3 from rfl] at hx138_0)
             (try rw [show ((1 : Int)).toNat = 1 from rfl] at hx138_1)
             (try rw [show 1 * 3 = 3 from rfl] at hx138_1)
             (try rw [show ((1 : Int)).toNat = 1 from rfl] at hx138_2)
             (try rw [show 1 * 3 = 3 from rfl] at hx138_2)
             replace p138 := eq_true p138
             replace q138 := eq_true q138
             have p139 : 0 ≤ (0 : Int) := (by omega)
             have q139 : 0 < (t131.length : Int) := of_decide_eq_true (by first | (with_reducible assumption) | assumption)
             obtain ⟨ad139, A139_0, c139_0, e139, hx139_0, hx139_1, hl139_0, hi139_0⟩ := at_T44 (Kd.N_reads' HO_7.out).2.2 0 p139 q139
             obtain rfl : ad137 = ad139 := (by injection e139)
             obtain ⟨ce139, hce139, hMe139, hcc139⟩ := Kd.N_get HO_7.out z44 0 p139 (by first | exact q139 | exact of_decide_eq_true (by first | (with_reducible assumption) | assumption) | (have e_ := (Kd.N_reads' HO_7.out).1; omega))
             obtain ⟨ua139_0, uc139_0, rfl, ul139_0, ge139_0⟩ := k44_openF hMe139
             have hv139_0 := hcc139 0 _ rfl
             rw [Nat.add_zero] at hv139_0
             replace hv139_0 := Option.some.inj (hv139_0.symm.trans hx139_0)
             injection hv139_0 with hva_ hvn_ hvc_
             rw [hva_] at ge139_0
             rw [hvc_] at ul139_0
             have HL139_0 := Aside0.mk (show Kd.V k23 23 _ w.heap.size _ _ ((rd_T44 t131 0).f0) from Kd.V_mk ul139_0 ge139_0)
             clear hva_ hvn_ hvc_ ge139_0 ul139_0
             clear hcc139 hce139
             have qi139 : (0 < t131.length) = True := eq_true (by omega)
             (try rw [show ((0 : Int)).toNat = 0 from rfl] at hx139_0)
             (try rw [show 0 * 2 = 0 from rfl] at hx139_0)
             (try rw [Addr.add_zero'] at hx139_0)
             (try rw [show ((0 : Int)).toNat = 0 from rfl] at hx139_1)
             (try rw [show 0 * 2 = 0 from rfl] at hx139_1)
             (try rw [Addr.add_zero'] at hx139_1)
             have HR139_0 := Aside0.mk hi139_0
             have HC139_0 := Aside0.mk hl139_0
             clear hi139_0 hl139_0
             replace p139 := eq_true p139
             replace q139 := eq_true q139
             have ea_ := Option.some.inj (hx137_0.symm.trans hx139_0)
             injection ea_ with ea_ en_ ec_
             subst ea_
             subst ec_
             clear en_
             have hnb100 := NB101_102.out
             have hnc100 := NB102_101.out
             have hnb101 := NB101_103.out
             have hnc101 := NB103_101.out
             have hcz102_0 : wc.cell? ⟨gb101, 0, none⟩ = some (.int .i64 1) := (blk_cell BK101.out 0).trans rfl
             have hcz102_1 : wc.cell? ⟨gb101, 1, none⟩ = some (.int .i64 1) := (blk_cell BK101.out 1).trans rfl
             have hcz102_2 : wc.cell? ⟨gb101, 2, none⟩ = some (.string (⟨#[]⟩ : ByteArray)) := (blk_cell BK101.out 2).trans rfl
             have hfz102_0 := blk_frozen BK101.out 0
             have hfz102_1 := blk_frozen BK101.out 1
             have hfz102_2 := blk_frozen BK101.out 2
             have hnb103 := NB102_103.out
             have hnc103 := NB103_102.out
             have hcz104_0 : wc.cell? ⟨gb102, 0, none⟩ = some (.int .i64 1) := (blk_cell BK102.out 0).trans rfl
             have hcz104_1 : wc.cell? ⟨gb102, 1, none⟩ = some (.int .i64 2) := (blk_cell BK102.out 1).trans rfl
             have hcz104_2 : wc.cell? ⟨gb102, 2, none⟩ = some (.string (⟨#[]⟩ : ByteArray)) := (blk_cell BK102.out 2).trans rfl
             have hfz104_0 := blk_frozen BK102.out 0
             have hfz104_1 := blk_frozen BK102.out 1
             have hfz104_2 := blk_frozen BK102.out 2
             go_wp2_with (first | (go_at_call 9; (with_reducible refine (eval_Holds.calls 4 1 1 (⟨#[]⟩ : ByteArray) 1 2 (⟨#[]⟩ : ByteArray) false _ A64.out).mono ?_); rintro e w105 ⟨rfl, hb⟩; have n0_ := Aside0.mk (Kd.N_below (qn_ HO_4.out) hb); have n1_ := Aside0.mk (Kd.N_below (qn_ HO_5.out) hb); have n2_ := Aside0.mk (Kd.N_below (qn_ HO_6.out) hb); have n3_ := Aside0.mk (Kd.N_below (qn_ HO_7.out) hb); have n4_ := Aside0.mk (Kd.V_below (qv_ HL135_0.out) hb); have n5_ := Aside0.mk (Kd.V_below (qv_ HL136_0.out) hb); have n6_ := Aside0.mk (Kd.V_below (qv_ HL137_0.out) hb); have n7_ := Aside0.mk (Kd.V_below (qv_ HL139_0.out) hb); have n8_ := Aside0.mk (blk_below (g := gb101) (o := .cells #[.int .i64 1, .int .i64 1, .string (⟨#[]⟩ : ByteArray)] 23 (0, 0)) (qb_ BK101.out) hb); have n9_ := Aside0.mk (blk_below (g := gb102) (o := .cells #[.int .i64 1, .int .i64 2, .string (⟨#[]⟩ : ByteArray)] 23 (0, 0)) (qb_ BK102.out) hb); have n10_ := Aside0.mk (blk_below (g := gb103) (o := .cells #[.int .i64 2, .int .i64 0, .string (⟨#[120]⟩ : ByteArray)] 23 (0, 0)) (qb_ BK103.out) hb); have n11_ := Aside0.mk (Kd.C_below (by repeat (first | (with_reducible exact HR135_0.out) | (with_reducible refine Kd.C_alloc ?_ _) | (with_reducible refine Kd.C_drewN ?_ _) | (with_reducible refine Kd.C_drew ?_) | exact HR135_0.out)) hb); have n12_ := Aside0.mk (Kd.C_below (by repeat (first | (with_reducible exact HR136_0.out) | (with_reducible refine Kd.C_alloc ?_ _) | (with_reducible refine Kd.C_drewN ?_ _) | (with_reducible refine Kd.C_drew ?_) | exact HR136_0.out)) hb); have n13_ := Aside0.mk (Kd.C_below (by repeat (first | (with_reducible exact HR137_0.out) | (with_reducible refine Kd.C_alloc ?_ _) | (with_reducible refine Kd.C_drewN ?_ _) | (with_reducible refine Kd.C_drew ?_) | exact HR137_0.out)) hb); have n14_ := Aside0.mk (Kd.C_below (by repeat (first | (with_reducible exact HR139_0.out) | (with_reducible refine Kd.C_alloc ?_ _) | (with_reducible refine Kd.C_drewN ?_ _) | (with_reducible refine Kd.C_drew ?_) | exact HR139_0.out)) hb); have n15_ := Aside0.mk (below_step (by repeat (first | (with_reducible first | exact HB.out | apply below_alloc | apply pw_below_drewN | apply below_drew1 | refine below_set ?_ GE101.out | refine below_set ?_ GE102.out | refine below_set ?_ GE103.out) | exact HB.out)) hb); clear HO_4; clear HO_5; clear HO_6; clear HO_7; clear HL135_0; clear HL136_0; clear HL137_0; clear HL139_0; clear BK101; clear BK102; clear BK103; clear HR135_0; clear HR136_0; clear HR137_0; clear HR139_0; clear HB; have HO_4 := n0_; have HO_5 := n1_; have HO_6 := n2_; have HO_7 := n3_; have HL135_0 := n4_; have HL136_0 := n5_; have HL137_0 := n6_; have HL139_0 := n7_; have BK101 := n8_; have BK102 := n9_; have BK103 := n10_; have HR135_0 := n11_; have HR136_0 := n12_; have HR137_0 := n13_; have HR139_0 := n14_; have HB := n15_; clear n0_ n1_ n2_ n3_ n4_ n5_ n6_ n7_ n8_ n9_ n10_ n11_ n12_ n13_ n14_ n15_; (try clear hb); (try clear hb2); (try clear hk); (try clear hi)))
             go_ret
             exact ⟨by first | rfl | (simp [errW_none, errW_some] <;> rfl) | (simp [*, errW_none, errW_some] <;> rfl), by repeat (first | (with_reducible first | exact HB.out | apply below_alloc | apply pw_below_drewN | apply below_drew1 | refine below_set ?_ GE101.out | refine below_set ?_ GE102.out | refine below_set ?_ GE103.out) | exact HB.out)⟩
           ·rw [if_neg c63] at H
            have c63b0 : (((rd_T44 t131 0).f1) == 1) = false := beq_eq_false_iff_ne.mpr c63
            have c63b1 : (((rd_T44 t131 0).f1) != 1) = true := bne_iff_ne.mpr c63
            obtain rfl := Option.some.inj H
            obtain ⟨Ao106, co106, eo106⟩ := Kd.N_slice HO_5.out
            subst eo106
            have p135 : 0 ≤ (0 : Int) := (by omega)
            have q135 : 0 < (t116.length : Int) := of_decide_eq_true (by first | (with_reducible assumption) | assumption)
            obtain ⟨ad135, A135_0, c135_0, e135, hx135_0, hx135_1, hl135_0, hi135_0⟩ := at_T44 (Kd.N_reads' HO_5.out).2.2 0 p135 q135
            cases e135
            obtain ⟨ce135, hce135, hMe135, hcc135⟩ := Kd.N_get HO_5.out z44 0 p135 (by first | exact q135 | exact of_decide_eq_true (by first | (with_reducible assumption) | assumption) | (have e_ := (Kd.N_reads' HO_5.out).1; omega))
            obtain ⟨ua135_0, uc135_0, rfl, ul135_0, ge135_0⟩ := k44_openF hMe135
            have hv135_0 := hcc135 0 _ rfl
            rw [Nat.add_zero] at hv135_0
            replace hv135_0 := Option.some.inj (hv135_0.symm.trans hx135_0)
            injection hv135_0 with hva_ hvn_ hvc_
            rw [hva_] at ge135_0
            rw [hvc_] at ul135_0
            have HL135_0 := Aside0.mk (show Kd.V k23 23 _ w.heap.size _ _ ((rd_T44 t116 0).f0) from Kd.V_mk ul135_0 ge135_0)
            clear hva_ hvn_ hvc_ ge135_0 ul135_0
            clear hcc135 hce135
            have qi135 : (0 < t116.length) = True := eq_true (by omega)
            (try rw [show ((0 : Int)).toNat = 0 from rfl] at hx135_0)
            (try rw [show 0 * 2 = 0 from rfl] at hx135_0)
            (try rw [Addr.add_zero'] at hx135_0)
            (try rw [show ((0 : Int)).toNat = 0 from rfl] at hx135_1)
            (try rw [show 0 * 2 = 0 from rfl] at hx135_1)
            (try rw [Addr.add_zero'] at hx135_1)
            have HR135_0 := Aside0.mk hi135_0
            have HC135_0 := Aside0.mk hl135_0
            clear hi135_0 hl135_0
            replace p135 := eq_true p135
            replace q135 := eq_true q135
            obtain ⟨Ao107, co107, eo107⟩ := Kd.N_slice HO_6.out
            subst eo107
            have p136 : 0 ≤ (0 : Int) := (by omega)
            have q136 : 0 < (t122.length : Int) := of_decide_eq_true (by first | (with_reducible assumption) | assumption)
            obtain ⟨ad136, A136_0, c136_0, e136, hx136_0, hx136_1, hl136_0, hi136_0⟩ := at_T44 (Kd.N_reads' HO_6.out).2.2 0 p136 q136
            cases e136
            obtain ⟨ce136, hce136, hMe136, hcc136⟩ := Kd.N_get HO_6.out z44 0 p136 (by first | exact q136 | exact of_decide_eq_true (by first | (with_reducible assumption) | assumption) | (have e_ := (Kd.N_reads' HO_6.out).1; omega))
            obtain ⟨ua136_0, uc136_0, rfl, ul136_0, ge136_0⟩ := k44_openF hMe136
            have hv136_0 := hcc136 0 _ rfl
            rw [Nat.add_zero] at hv136_0
            replace hv136_0 := Option.some.inj (hv136_0.symm.trans hx136_0)
            injection hv136_0 with hva_ hvn_ hvc_
            rw [hva_] at ge136_0
            rw [hvc_] at ul136_0
            have HL136_0 := Aside0.mk (show Kd.V k23 23 _ w.heap.size _ _ ((rd_T44 t122 0).f0) from Kd.V_mk ul136_0 ge136_0)
            clear hva_ hvn_ hvc_ ge136_0 ul136_0
            clear hcc136 hce136
            have qi136 : (0 < t122.length) = True := eq_true (by omega)
            (try rw [show ((0 : Int)).toNat = 0 from rfl] at hx136_0)
            (try rw [show 0 * 2 = 0 from rfl] at hx136_0)
            (try rw [Addr.add_zero'] at hx136_0)
            (try rw [show ((0 : Int)).toNat = 0 from rfl] at hx136_1)
            (try rw [show 0 * 2 = 0 from rfl] at hx136_1)
            (try rw [Addr.add_zero'] at hx136_1)
            have HR136_0 := Aside0.mk hi136_0
            have HC136_0 := Aside0.mk hl136_0
            clear hi136_0 hl136_0
            replace p136 := eq_true p136
            replace q136 := eq_true q136
            obtain ⟨Ao108, co108, eo108⟩ := Kd.N_slice HO_7.out
            subst eo108
            have p137 : 0 ≤ (0 : Int) := (by omega)
            have q137 : 0 < (t131.length : Int) := of_decide_eq_true (by first | (with_reducible assumption) | assumption)
            obtain ⟨ad137, A137_0, c137_0, e137, hx137_0, hx137_1, hl137_0, hi137_0⟩ := at_T44 (Kd.N_reads' HO_7.out).2.2 0 p137 q137
            cases e137
            obtain ⟨ce137, hce137, hMe137, hcc137⟩ := Kd.N_get HO_7.out z44 0 p137 (by first | exact q137 | exact of_decide_eq_true (by first | (with_reducible assumption) | assumption) | (have e_ := (Kd.N_reads' HO_7.out).1; omega))
            obtain ⟨ua137_0, uc137_0, rfl, ul137_0, ge137_0⟩ := k44_openF hMe137
            have hv137_0 := hcc137 0 _ rfl
            rw [Nat.add_zero] at hv137_0
            replace hv137_0 := Option.some.inj (hv137_0.symm.trans hx137_0)
            injection hv137_0 with hva_ hvn_ hvc_
            rw [hva_] at ge137_0
            rw [hvc_] at ul137_0
            have HL137_0 := Aside0.mk (show Kd.V k23 23 _ w.heap.size _ _ ((rd_T44 t131 0).f0) from Kd.V_mk ul137_0 ge137_0)
            clear hva_ hvn_ hvc_ ge137_0 ul137_0
            clear hcc137 hce137
            have qi137 : (0 < t131.length) = True := eq_true (by omega)
            (try rw [show ((0 : Int)).toNat = 0 from rfl] at hx137_0)
            (try rw [show 0 * 2 = 0 from rfl] at hx137_0)
            (try rw [Addr.add_zero'] at hx137_0)
            (try rw [show ((0 : Int)).toNat = 0 from rfl] at hx137_1)
            (try rw [show 0 * 2 = 0 from rfl] at hx137_1)
            (try rw [Addr.add_zero'] at hx137_1)
            have HR137_0 := Aside0.mk hi137_0
            have HC137_0 := Aside0.mk hl137_0
            clear hi137_0 hl137_0
            replace p137 := eq_true p137
            replace q137 := eq_true q137
            have p138 : 0 ≤ (1 : Int) := (by omega)
            have q138 : 1 < (((rd_T44 t131 0).f0).length : Int) := of_decide_eq_true (by first | (with_reducible assumption) | assumption)
            obtain ⟨ad138, e138, hx138_0, hx138_1, hx138_2⟩ := at_T23 (by repeat (first | (with_reducible exact HR137_0.out) | (with_reducible refine Kd.C_alloc ?_ _) | (with_reducible refine Kd.C_drewN ?_ _) | (with_reducible refine Kd.C_drew ?_) | exact HR137_0.out)) 1 p138 q138
            cases e138
            (try simp only [show (1 : Int).toNat = 1 from rfl, Nat.reduceMul, Nat.reduceEqDiff, Go.Addr.add, ↓reduceIte] at hx138_0)
            (try simp only [show (1 : Int).toNat = 1 from rfl, Nat.reduceMul, Nat.reduceEqDiff, Go.Addr.add, ↓reduceIte] at hx138_1)
            (try simp only [show (1 : Int).toNat = 1 from rfl, Nat.reduceMul, Nat.reduceEqDiff, Go.Addr.add, ↓reduceIte] at hx138_2)
            have qi138 : (1 < ((rd_T44 t131 0).f0).length) = True := eq_true (by omega)
            (try rw [show ((1 : Int)).toNat = 1 from rfl] at hx138_0)
            (try rw [show 1 * 3 = 3 from rfl] at hx138_0)
            (try rw [show ((1 : Int)).toNat = 1 from rfl] at hx138_1)
            (try rw [show 1 * 3 = 3 from rfl] at hx138_1)
            (try rw [show ((1 : Int)).toNat = 1 from rfl] at hx138_2)
            (try rw [show 1 * 3 = 3 from rfl] at hx138_2)
            replace p138 := eq_true p138
            replace q138 := eq_true q138
            have p139 : 0 ≤ (0 : Int) := (by omega)
            have q139 : 0 < (t131.length : Int) := of_decide_eq_true (by first | (with_reducible assumption) | assumption)
            obtain ⟨ad139, A139_0, c139_0, e139, hx139_0, hx139_1, hl139_0, hi139_0⟩ := at_T44 (Kd.N_reads' HO_7.out).2.2 0 p139 q139
            obtain rfl : ad137 = ad139 := (by injection e139)
            obtain ⟨ce139, hce139, hMe139, hcc139⟩ := Kd.N_get HO_7.out z44 0 p139 (by first | exact q139 | exact of_decide_eq_true (by first | (with_reducible assumption) | assumption) | (have e_ := (Kd.N_reads' HO_7.out).1; omega))
            obtain ⟨ua139_0, uc139_0, rfl, ul139_0, ge139_0⟩ := k44_openF hMe139
            have hv139_0 := hcc139 0 _ rfl
            rw [Nat.add_zero] at hv139_0
            replace hv139_0 := Option.some.inj (hv139_0.symm.trans hx139_0)
            injection hv139_0 with hva_ hvn_ hvc_
            rw [hva_] at ge139_0
            rw [hvc_] at ul139_0
            have HL139_0 := Aside0.mk (show Kd.V k23 23 _ w.heap.size _ _ ((rd_T44 t131 0).f0) from Kd.V_mk ul139_0 ge139_0)
            clear hva_ hvn_ hvc_ ge139_0 ul139_0
            clear hcc139 hce139
            have qi139 : (0 < t131.length) = True := eq_true (by omega)
            (try rw [show ((0 : Int)).toNat = 0 from rfl] at hx139_0)
            (try rw [show 0 * 2 = 0 from rfl] at hx139_0)
            (try rw [Addr.add_zero'] at hx139_0)
            (try rw [show ((0 : Int)).toNat = 0 from rfl] at hx139_1)
            (try rw [show 0 * 2 = 0 from rfl] at hx139_1)
            (try rw [Addr.add_zero'] at hx139_1)
            have HR139_0 := Aside0.mk hi139_0
            have HC139_0 := Aside0.mk hl139_0
            clear hi139_0 hl139_0
            replace p139 := eq_true p139
            replace q139 := eq_true q139
            have ea_ := Option.some.inj (hx137_0.symm.trans hx139_0)
            injection ea_ with ea_ en_ ec_
            subst ea_
            subst ec_
            clear en_
            go_wp2
            go_ret
            exact ⟨by first | rfl | (simp [errW_none, errW_some] <;> rfl) | (simp [*, errW_none, errW_some] <;> rfl), by repeat (first | (with_reducible first | exact HB.out | apply below_alloc | apply pw_below_drewN | apply below_drew1 | refine below_set ?_ GE101.out | refine below_set ?_ GE102.out | refine below_set ?_ GE103.out) | exact HB.out)⟩
          ·rw [if_neg c62] at H
           have c62b0 : (((rd_T23 ((rd_T44 t131 0).f0) 1).f1) == 4) = false := beq_eq_false_iff_ne.mpr c62
           have c62b1 : (((rd_T23 ((rd_T44 t131 0).f0) 1).f1) != 4) = true := bne_iff_ne.mpr c62
           obtain rfl := Option.some.inj H
           obtain ⟨Ao109, co109, eo109⟩ := Kd.N_slice HO_5.out
           subst eo109
           have p135 : 0 ≤ (0 : Int) := (by omega)
           have q135 : 0 < (t116.length : Int) := of_decide_eq_true (by first | (with_reducible assumption) | assumption)
           obtain ⟨ad135, A135_0, c135_0, e135, hx135_0, hx135_1, hl135_0, hi135_0⟩ := at_T44 (Kd.N_reads' HO_5.out).2.2 0 p135 q135
           cases e135
           obtain ⟨ce135, hce135, hMe135, hcc135⟩ := Kd.N_get HO_5.out z44 0 p135 (by first | exact q135 | exact of_decide_eq_true (by first | (with_reducible assumption) | assumption) | (have e_ := (Kd.N_reads' HO_5.out).1; omega))
           obtain ⟨ua135_0, uc135_0, rfl, ul135_0, ge135_0⟩ := k44_openF hMe135
           have hv135_0 := hcc135 0 _ rfl
           rw [Nat.add_zero] at hv135_0
           replace hv135_0 := Option.some.inj (hv135_0.symm.trans hx135_0)
           injection hv135_0 with hva_ hvn_ hvc_
           rw [hva_] at ge135_0
           rw [hvc_] at ul135_0
           have HL135_0 := Aside0.mk (show Kd.V k23 23 _ w.heap.size _ _ ((rd_T44 t116 0).f0) from Kd.V_mk ul135_0 ge135_0)
           clear hva_ hvn_ hvc_ ge135_0 ul135_0
           clear hcc135 hce135
           have qi135 : (0 < t116.length) = True := eq_true (by omega)
           (try rw [show ((0 : Int)).toNat = 0 from rfl] at hx135_0)
           (try rw [show 0 * 2 = 0 from rfl] at hx135_0)
           (try rw [Addr.add_zero'] at hx135_0)
           (try rw [show ((0 : Int)).toNat = 0 from rfl] at hx135_1)
           (try rw [show 0 * 2 = 0 from rfl] at hx135_1)
           (try rw [Addr.add_zero'] at hx135_1)
           have HR135_0 := Aside0.mk hi135_0
           have HC135_0 := Aside0.mk hl135_0
           clear hi135_0 hl135_0
           replace p135 := eq_true p135
           replace q135 := eq_true q135
           obtain ⟨Ao110, co110, eo110⟩ := Kd.N_slice HO_6.out
           subst eo110
           have p136 : 0 ≤ (0 : Int) := (by omega)
           have q136 : 0 < (t122.length : Int) := of_decide_eq_true (by first | (with_reducible assumption) | assumption)
           obtain ⟨ad136, A136_0, c136_0, e136, hx136_0, hx136_1, hl136_0, hi136_0⟩ := at_T44 (Kd.N_reads' HO_6.out).2.2 0 p136 q136
           cases e136
           obtain ⟨ce136, hce136, hMe136, hcc136⟩ := Kd.N_get HO_6.out z44 0 p136 (by first | exact q136 | exact of_decide_eq_true (by first | (with_reducible assumption) | assumption) | (have e_ := (Kd.N_reads' HO_6.out).1; omega))
           obtain ⟨ua136_0, uc136_0, rfl, ul136_0, ge136_0⟩ := k44_openF hMe136
           have hv136_0 := hcc136 0 _ rfl
           rw [Nat.add_zero] at hv136_0
           replace hv136_0 := Option.some.inj (hv136_0.symm.trans hx136_0)
           injection hv136_0 with hva_ hvn_ hvc_
           rw [hva_] at ge136_0
           rw [hvc_] at ul136_0
           have HL136_0 := Aside0.mk (show Kd.V k23 23 _ w.heap.size _ _ ((rd_T44 t122 0).f0) from Kd.V_mk ul136_0 ge136_0)
           clear hva_ hvn_ hvc_ ge136_0 ul136_0
           clear hcc136 hce136
           have qi136 : (0 < t122.length) = True := eq_true (by omega)
           (try rw [show ((0 : Int)).toNat = 0 from rfl] at hx136_0)
           (try rw [show 0 * 2 = 0 from rfl] at hx136_0)
           (try rw [Addr.add_zero'] at hx136_0)
           (try rw [show ((0 : Int)).toNat = 0 from rfl] at hx136_1)
           (try rw [show 0 * 2 = 0 from rfl] at hx136_1)
           (try rw [Addr.add_zero'] at hx136_1)
           have HR136_0 := Aside0.mk hi136_0
           have HC136_0 := Aside0.mk hl136_0
           clear hi136_0 hl136_0
           replace p136 := eq_true p136
           replace q136 := eq_true q136
           obtain ⟨Ao111, co111, eo111⟩ := Kd.N_slice HO_7.out
           subst eo111
           have p137 : 0 ≤ (0 : Int) := (by omega)
           have q137 : 0 < (t131.length : Int) := of_decide_eq_true (by first | (with_reducible assumption) | assumption)
           obtain ⟨ad137, A137_0, c137_0, e137, hx137_0, hx137_1, hl137_0, hi137_0⟩ := at_T44 (Kd.N_reads' HO_7.out).2.2 0 p137 q137
           cases e137
           obtain ⟨ce137, hce137, hMe137, hcc137⟩ := Kd.N_get HO_7.out z44 0 p137 (by first | exact q137 | exact of_decide_eq_true (by first | (with_reducible assumption) | assumption) | (have e_ := (Kd.N_reads' HO_7.out).1; omega))
           obtain ⟨ua137_0, uc137_0, rfl, ul137_0, ge137_0⟩ := k44_openF hMe137
           have hv137_0 := hcc137 0 _ rfl
           rw [Nat.add_zero] at hv137_0
           replace hv137_0 := Option.some.inj (hv137_0.symm.trans hx137_0)
           injection hv137_0 with hva_ hvn_ hvc_
           rw [hva_] at ge137_0
           rw [hvc_] at ul137_0
           have HL137_0 := Aside0.mk (show Kd.V k23 23 _ w.heap.size _ _ ((rd_T44 t131 0).f0) from Kd.V_mk ul137_0 ge137_0)
           clear hva_ hvn_ hvc_ ge137_0 ul137_0
           clear hcc137 hce137
           have qi137 : (0 < t131.length) = True := eq_true (by omega)
           (try rw [show ((0 : Int)).toNat = 0 from rfl] at hx137_0)
           (try rw [show 0 * 2 = 0 from rfl] at hx137_0)
           (try rw [Addr.add_zero'] at hx137_0)
           (try rw [show ((0 : Int)).toNat = 0 from rfl] at hx137_1)
           (try rw [show 0 * 2 = 0 from rfl] at hx137_1)
           (try rw [Addr.add_zero'] at hx137_1)
           have HR137_0 := Aside0.mk hi137_0
           have HC137_0 := Aside0.mk hl137_0
           clear hi137_0 hl137_0
           replace p137 := eq_true p137
           replace q137 := eq_true q137
           have p138 : 0 ≤ (1 : Int) := (by omega)
           have q138 : 1 < (((rd_T44 t131 0).f0).length : Int) := of_decide_eq_true (by first | (with_reducible assumption) | assumption)
           obtain ⟨ad138, e138, hx138_0, hx138_1, hx138_2⟩ := at_T23 (by repeat (first | (with_reducible exact HR137_0.out) | (with_reducible refine Kd.C_alloc ?_ _) | (with_reducible refine Kd.C_drewN ?_ _) | (with_reducible refine Kd.C_drew ?_) | exact HR137_0.out)) 1 p138 q138
           cases e138
           (try simp only [show (1 : Int).toNat = 1 from rfl, Nat.reduceMul, Nat.reduceEqDiff, Go.Addr.add, ↓reduceIte] at hx138_0)
           (try simp only [show (1 : Int).toNat = 1 from rfl, Nat.reduceMul, Nat.reduceEqDiff, Go.Addr.add, ↓reduceIte] at hx138_1)
           (try simp only [show (1 : Int).toNat = 1 from rfl, Nat.reduceMul, Nat.reduceEqDiff, Go.Addr.add, ↓reduceIte] at hx138_2)
           have qi138 : (1 < ((rd_T44 t131 0).f0).length) = True := eq_true (by omega)
           (try rw [show ((1 : Int)).toNat = 1 from rfl] at hx138_0)
           (try rw [show 1 * 3 = 3 from rfl] at hx138_0)
           (try rw [show ((1 : Int)).toNat = 1 from rfl] at hx138_1)
           (try rw [show 1 * 3 = 3 from rfl] at hx138_1)
           (try rw [show ((1 : Int)).toNat = 1 from rfl] at hx138_2)
           (try rw [show 1 * 3 = 3 from rfl] at hx138_2)
           replace p138 := eq_true p138
           replace q138 := eq_true q138
           go_wp2
           go_ret
           exact ⟨by first | rfl | (simp [errW_none, errW_some] <;> rfl) | (simp [*, errW_none, errW_some] <;> rfl), by repeat (first | (with_reducible first | exact HB.out | apply below_alloc | apply pw_below_drewN | apply below_drew1 | refine below_set ?_ GE101.out | refine below_set ?_ GE102.out | refine below_set ?_ GE103.out) | exact HB.out)⟩
         ·rw [if_neg c61] at H
          exact absurd H (by simp)
        ·rw [if_neg c60] at H
         exact absurd H (by simp)
       ·rw [if_neg c59] at H
        have c59b0 : (((rd_T44 t122 0).f1) == 3) = false := beq_eq_false_iff_ne.mpr c59
        have c59b1 : (((rd_T44 t122 0).f1) != 3) = true := bne_iff_ne.mpr c59
        obtain rfl := Option.some.inj H
        obtain ⟨Ao112, co112, eo112⟩ := Kd.N_slice HO_5.out
        subst eo112
        have p135 : 0 ≤ (0 : Int) := (by omega)
        have q135 : 0 < (t116.length : Int) := of_decide_eq_true (by first | (with_reducible assumption) | assumption)
        obtain ⟨ad135, A135_0, c135_0, e135, hx135_0, hx135_1, hl135_0, hi135_0⟩ := at_T44 (Kd.N_reads' HO_5.out).2.2 0 p135 q135
        cases e135
        obtain ⟨ce135, hce135, hMe135, hcc135⟩ := Kd.N_get HO_5.out z44 0 p135 (by first | exact q135 | exact of_decide_eq_true (by first | (with_reducible assumption) | assumption) | (have e_ := (Kd.N_reads' HO_5.out).1; omega))
        obtain ⟨ua135_0, uc135_0, rfl, ul135_0, ge135_0⟩ := k44_openF hMe135
        have hv135_0 := hcc135 0 _ rfl
        rw [Nat.add_zero] at hv135_0
        replace hv135_0 := Option.some.inj (hv135_0.symm.trans hx135_0)
        injection hv135_0 with hva_ hvn_ hvc_
        rw [hva_] at ge135_0
        rw [hvc_] at ul135_0
        have HL135_0 := Aside0.mk (show Kd.V k23 23 _ w.heap.size _ _ ((rd_T44 t116 0).f0) from Kd.V_mk ul135_0 ge135_0)
        clear hva_ hvn_ hvc_ ge135_0 ul135_0
        clear hcc135 hce135
        have qi135 : (0 < t116.length) = True := eq_true (by omega)
        (try rw [show ((0 : Int)).toNat = 0 from rfl] at hx135_0)
        (try rw [show 0 * 2 = 0 from rfl] at hx135_0)
        (try rw [Addr.add_zero'] at hx135_0)
        (try rw [show ((0 : Int)).toNat = 0 from rfl] at hx135_1)
        (try rw [show 0 * 2 = 0 from rfl] at hx135_1)
        (try rw [Addr.add_zero'] at hx135_1)
        have HR135_0 := Aside0.mk hi135_0
        have HC135_0 := Aside0.mk hl135_0
        clear hi135_0 hl135_0
        replace p135 := eq_true p135
        replace q135 := eq_true q135
        obtain ⟨Ao113, co113, eo113⟩ := Kd.N_slice HO_6.out
        subst eo113
        have p136 : 0 ≤ (0 : Int) := (by omega)
        have q136 : 0 < (t122.length : Int) := of_decide_eq_true (by first | (with_reducible assumption) | assumption)
        obtain ⟨ad136, A136_0, c136_0, e136, hx136_0, hx136_1, hl136_0, hi136_0⟩ := at_T44 (Kd.N_reads' HO_6.out).2.2 0 p136 q136
        cases e136
        obtain ⟨ce136, hce136, hMe136, hcc136⟩ := Kd.N_get HO_6.out z44 0 p136 (by first | exact q136 | exact of_decide_eq_true (by first | (with_reducible assumption) | assumption) | (have e_ := (Kd.N_reads' HO_6.out).1; omega))
        obtain ⟨ua136_0, uc136_0, rfl, ul136_0, ge136_0⟩ := k44_openF hMe136
        have hv136_0 := hcc136 0 _ rfl
        rw [Nat.add_zero] at hv136_0
        replace hv136_0 := Option.some.inj (hv136_0.symm.trans hx136_0)
        injection hv136_0 with hva_ hvn_ hvc_
        rw [hva_] at ge136_0
        rw [hvc_] at ul136_0
        have HL136_0 := Aside0.mk (show Kd.V k23 23 _ w.heap.size _ _ ((rd_T44 t122 0).f0) from Kd.V_mk ul136_0 ge136_0)
        clear hva_ hvn_ hvc_ ge136_0 ul136_0
        clear hcc136 hce136
        have qi136 : (0 < t122.length) = True := eq_true (by omega)
        (try rw [show ((0 : Int)).toNat = 0 from rfl] at hx136_0)
        (try rw [show 0 * 2 = 0 from rfl] at hx136_0)
        (try rw [Addr.add_zero'] at hx136_0)
        (try rw [show ((0 : Int)).toNat = 0 from rfl] at hx136_1)
        (try rw [show 0 * 2 = 0 from rfl] at hx136_1)
        (try rw [Addr.add_zero'] at hx136_1)
        have HR136_0 := Aside0.mk hi136_0
        have HC136_0 := Aside0.mk hl136_0
        clear hi136_0 hl136_0
        replace p136 := eq_true p136
        replace q136 := eq_true q136
        go_wp2
        go_ret
        exact ⟨by first | rfl | (simp [errW_none, errW_some] <;> rfl) | (simp [*, errW_none, errW_some] <;> rfl), by repeat (first | (with_reducible first | exact HB.out | apply below_alloc | apply pw_below_drewN | apply below_drew1 | refine below_set ?_ GE101.out | refine below_set ?_ GE102.out | refine below_set ?_ GE103.out) | exact HB.out)⟩
      ·rw [if_neg c58] at H
       exact absurd H (by simp)
     ·rw [if_neg c57] at H
      have c57b0 : (((rd_T44 t116 0).f1) == 1) = false := beq_eq_false_iff_ne.mpr c57
      have c57b1 : (((rd_T44 t116 0).f1) != 1) = true := bne_iff_ne.mpr c57
      obtain rfl := Option.some.inj H
      obtain ⟨Ao114, co114, eo114⟩ := Kd.N_slice HO_5.out
      subst eo114
      have p135 : 0 ≤ (0 : Int) := (by omega)
      have q135 : 0 < (t116.length : Int) := of_decide_eq_true (by first | (with_reducible assumption) | assumption)
      obtain ⟨ad135, A135_0, c135_0, e135, hx135_0, hx135_1, hl135_0, hi135_0⟩ := at_T44 (Kd.N_reads' HO_5.out).2.2 0 p135 q135
      cases e135
      obtain ⟨ce135, hce135, hMe135, hcc135⟩ := Kd.N_get HO_5.out z44 0 p135 (by first | exact q135 | exact of_decide_eq_true (by first | (with_reducible assumption) | assumption) | (have e_ := (Kd.N_reads' HO_5.out).1; omega))
      obtain ⟨ua135_0, uc135_0, rfl, ul135_0, ge135_0⟩ := k44_openF hMe135
      have hv135_0 := hcc135 0 _ rfl
      rw [Nat.add_zero] at hv135_0
      replace hv135_0 := Option.some.inj (hv135_0.symm.trans hx135_0)
      injection hv135_0 with hva_ hvn_ hvc_
      rw [hva_] at ge135_0
      rw [hvc_] at ul135_0
      have HL135_0 := Aside0.mk (show Kd.V k23 23 _ w.heap.size _ _ ((rd_T44 t116 0).f0) from Kd.V_mk ul135_0 ge135_0)
      clear hva_ hvn_ hvc_ ge135_0 ul135_0
      clear hcc135 hce135
      have qi135 : (0 < t116.length) = True := eq_true (by omega)
      (try rw [show ((0 : Int)).toNat = 0 from rfl] at hx135_0)
      (try rw [show 0 * 2 = 0 from rfl] at hx135_0)
      (try rw [Addr.add_zero'] at hx135_0)
      (try rw [show ((0 : Int)).toNat = 0 from rfl] at hx135_1)
      (try rw [show 0 * 2 = 0 from rfl] at hx135_1)
      (try rw [Addr.add_zero'] at hx135_1)
      have HR135_0 := Aside0.mk hi135_0
      have HC135_0 := Aside0.mk hl135_0
      clear hi135_0 hl135_0
      replace p135 := eq_true p135
      replace q135 := eq_true q135
      go_wp2
      go_ret
      exact ⟨by first | rfl | (simp [errW_none, errW_some] <;> rfl) | (simp [*, errW_none, errW_some] <;> rfl), by repeat (first | (with_reducible first | exact HB.out | apply below_alloc | apply pw_below_drewN | apply below_drew1 | refine below_set ?_ GE101.out | refine below_set ?_ GE102.out | refine below_set ?_ GE103.out) | exact HB.out)⟩
    ·rw [if_neg c56] at H
     exact absurd H (by simp)
end Go.Proofs.Ytgapgdnbgimdlaa.PL
end
section
namespace Go.Proofs.Ytgapgdnbgimdlaa.PA
open Go.RowKit Go.Proofs.YtgapgdnbgimdlaaW.PrintWords Go.Proofs.YtgapgdnbgimdlaaW.PrintLast Go.Proofs.YtgapgdnbgimdlaaW.PrintMore
attribute [local go_sem] max2_int min2_int max_two min_two max_three min_three max_four min_four
set_option linter.unusedVariables false
set_option linter.unusedSimpArgs false
theorem eqA23 (d : Nat) (w : World) (x0 y0 : Int) (x1 y1 : Int) (x2 y2 : ByteArray) :
  (Op.equalIn (d + 2) 23 (.agg #[.int .i64 x0, .int .i64 x1, .string x2]) (.agg #[.int .i64 y0, .int .i64 y1, .string y2])).run Try.prog w = .ok (x0 == y0 && (x1 == y1 && (x2.toList == y2.toList))) w := by
 refine eqA_of Try.underlying23 (by kernel_rfl) ?_
 refine eqf_cons (by rfl) (by go_simp; rfl) (by go_simp; rfl) (by go_simp) ?_
 refine eqf_cons (by rfl) (by go_simp; rfl) (by go_simp; rfl) (by go_simp) ?_
 exact eqf_last (by rfl) (by go_simp; rfl) (by go_simp; rfl) (by go_simp)
end Go.Proofs.Ytgapgdnbgimdlaa.PA
end
section
namespace Go.Proofs.Ytgapgdnbgimdlaa.PA
open Go.RowKit Go.Proofs.YtgapgdnbgimdlaaW.PrintWords Go.Proofs.YtgapgdnbgimdlaaW.PrintLast Go.Proofs.YtgapgdnbgimdlaaW.PrintMore
attribute [local go_sem] max2_int min2_int max_two min_two max_three min_three max_four min_four
set_option linter.unusedVariables false
set_option linter.unusedSimpArgs false
attribute [local go_sem high] eqA23
def tailraceref01_Cmp.j0 : Nat → Bool → Int → Int → ByteArray → Int → Int → ByteArray → Option (Int)
 | 0, _, _, _, _, _, _, _ => none
 | k + 1, x44, x209000, x209001, x209002, x210000, x210001, x210002 => if x44 = true then (some (-1)) else (if (x209000 == x210000 && (x209001 == x210001 && (x209002.toList == x210002.toList))) = true then (some 0) else (some 1))
def tailraceref01_Cmp.f (k : Nat) (a0_0 : Int) (a0_1 : Int) (a0_2 : ByteArray) (a1_0 : Int) (a1_1 : Int) (a1_2 : ByteArray) : Option (Int) := if a0_0 < a1_0 then (tailraceref01_Cmp.j0 k true a0_0 a0_1 a0_2 a1_0 a1_1 a1_2) else (if a0_0 = a1_0 then (if a0_1 < a1_1 then (tailraceref01_Cmp.j0 k true a0_0 a0_1 a0_2 a1_0 a1_1 a1_2) else (if a0_1 = a1_1 then (tailraceref01_Cmp.j0 k (Op.bytesLess a0_2.toList a1_2.toList) a0_0 a0_1 a0_2 a1_0 a1_1 a1_2) else (tailraceref01_Cmp.j0 k false a0_0 a0_1 a0_2 a1_0 a1_1 a1_2))) else (tailraceref01_Cmp.j0 k false a0_0 a0_1 a0_2 a1_0 a1_1 a1_2))
theorem tailraceref01_Cmp.mono_l : ∀ k, (∀ y0 y1 y2 y3 y4 y5 y6, LeO (tailraceref01_Cmp.j0 k y0 y1 y2 y3 y4 y5 y6) (tailraceref01_Cmp.j0 (k + 1) y0 y1 y2 y3 y4 y5 y6))
 | 0 => fun _ _ _ _ _ _ _ r h => by simp [tailraceref01_Cmp.j0] at h
 | k + 1 => by
  have ih0 := tailraceref01_Cmp.mono_l k
  ·intro y0 y1 y2 y3 y4 y5 y6
   unfold tailraceref01_Cmp.j0
   repeat' first
   | (with_reducible exact ih0 _ _ _ _ _ _ _)
   | (with_reducible exact LeO.refl _)
   | (with_reducible exact LeO.none _)
   | (with_reducible refine LeO.ite ?_ ?_)
   | (with_reducible refine LeO.bind ?_ (fun _ => ?_))
   | exact ih0 _ _ _ _ _ _ _
   | exact LeO.none _
   | refine LeO.ite ?_ ?_
   | refine LeO.bind ?_ (fun _ => ?_)
theorem tailraceref01_Cmp.mono : ∀ a0 a1 a2 a3 a4 a5 k, LeO (tailraceref01_Cmp.f k a0 a1 a2 a3 a4 a5) (tailraceref01_Cmp.f (k + 1) a0 a1 a2 a3 a4 a5) := by
 intro a0 a1 a2 a3 a4 a5 k
 have ih0 := tailraceref01_Cmp.mono_l k
 unfold tailraceref01_Cmp.f
 repeat' first
   | (with_reducible exact ih0 _ _ _ _ _ _ _)
   | (with_reducible exact LeO.refl _)
   | (with_reducible exact LeO.none _)
   | (with_reducible refine LeO.ite ?_ ?_)
   | (with_reducible refine LeO.bind ?_ (fun _ => ?_))
   | exact ih0 _ _ _ _ _ _ _
   | exact LeO.none _
   | refine LeO.ite ?_ ?_
   | refine LeO.bind ?_ (fun _ => ?_)
set_option maxHeartbeats 8000000 in
set_option maxRecDepth 100000 in
theorem tailraceref01_Cmp.calls (k : Nat) (a0_0 : Int) (a0_1 : Int) (a0_2 : ByteArray) (a1_0 : Int) (a1_1 : Int) (a1_2 : ByteArray) (r : Int) (w : World) (h : tailraceref01_Cmp.f k a0_0 a0_1 a0_2 a1_0 a1_1 a1_2 = some r) :
  Calls Try.prog 19 #[.agg #[.int .i64 a0_0, .int .i64 a0_1, .string a0_2], .agg #[.int .i64 a1_0, .int .i64 a1_1, .string a1_2]] w fun e w' => e = .returned (.int .i64 r) ∧ Below w.heap.size w w' := by
 have hu23 := Try.underlying23
 have HB := Aside0.mk (Below.refl w.heap.size w)
 have H : (if a0_0 < a1_0 then (tailraceref01_Cmp.j0 k true a0_0 a0_1 a0_2 a1_0 a1_1 a1_2) else (if a0_0 = a1_0 then (if a0_1 < a1_1 then (tailraceref01_Cmp.j0 k true a0_0 a0_1 a0_2 a1_0 a1_1 a1_2) else (if a0_1 = a1_1 then (tailraceref01_Cmp.j0 k (Op.bytesLess a0_2.toList a1_2.toList) a0_0 a0_1 a0_2 a1_0 a1_1 a1_2) else (tailraceref01_Cmp.j0 k false a0_0 a0_1 a0_2 a1_0 a1_1 a1_2))) else (tailraceref01_Cmp.j0 k false a0_0 a0_1 a0_2 a1_0 a1_1 a1_2))) = some r := h
 clear h
 have HC3 := Aside0.mk H
 clear H
 go_enter Try.func19, Try.ntmps19
 go_upto_region 1 with (first | ((with_reducible refine gate_dst (N := 2) rfl ?_); refine box_event ?hg (N := 2) ?hd (cs := #[.int .i64 a0_0, .int .i64 a0_1, .string a0_2]) (t := 23) ?hr ?_; (case hd => rfl); (case hg => rfl); (case hr => first | (go_simp; done) | (go_simp; rfl)); intro gb208 hg w4 hbox hb; have n0_ := Aside0.mk (below_step qh_ hb); have n1_ := Aside0.mk (hbox); have n2_ := Aside0.mk ((by rw [hg]; exact (below_size qh_) : w.heap.size ≤ gb208)); have n3_ := Aside0.mk ((by rw [hg]; exact (below_size qh_) : w.heap.size ≤ gb208)); clear HB; have HB := n0_; have BK208 := n1_; have GW208 := n2_; have GE208 := n3_; clear n0_ n1_ n2_ n3_; clear hb hbox hg) | ((with_reducible refine gate_dst (N := 3) rfl ?_); refine box_event ?hg (N := 3) ?hd (cs := #[.int .i64 a1_0, .int .i64 a1_1, .string a1_2]) (t := 23) ?hr ?_; (case hd => rfl); (case hg => rfl); (case hr => first | (go_simp; done) | (go_simp; rfl)); intro gb209 hg w5 hbox hb; have n0_ := Aside0.mk (blk_below (g := gb208) (o := .cells #[.int .i64 a0_0, .int .i64 a0_1, .string a0_2] 23 (0, 0)) (qb_ BK208.out) hb); have n1_ := Aside0.mk (below_step (by repeat (first | (with_reducible first | exact HB.out | apply below_alloc | apply pw_below_drewN | apply below_drew1 | refine below_set ?_ GE208.out) | exact HB.out)) hb); have n2_ := Aside0.mk (hbox); have n3_ := Aside0.mk ((by rw [hg]; exact (below_size (by repeat (first | (with_reducible first | exact HB.out | apply below_alloc | apply pw_below_drewN | apply below_drew1 | refine below_set ?_ GE208.out) | exact HB.out))) : w.heap.size ≤ gb209)); have n4_ := Aside0.mk ((by rw [hg]; exact (below_size (by repeat (first | (with_reducible first | exact HB.out | apply below_alloc | apply pw_below_drewN | apply below_drew1 | refine below_set ?_ GE208.out) | exact HB.out))) : w.heap.size ≤ gb209)); have n5_ := Aside0.mk ((by rw [hg]; exact Nat.ne_of_lt (blk_lt (g := gb208) (o := .cells #[.int .i64 a0_0, .int .i64 a0_1, .string a0_2] 23 (0, 0)) (qb_ BK208.out)) : gb208 ≠ gb209)); have n6_ := Aside0.mk ((by rw [hg]; exact Nat.ne_of_gt (blk_lt (g := gb208) (o := .cells #[.int .i64 a0_0, .int .i64 a0_1, .string a0_2] 23 (0, 0)) (qb_ BK208.out)) : gb209 ≠ gb208)); clear BK208; clear HB; have BK208 := n0_; have HB := n1_; have BK209 := n2_; have GW209 := n3_; have GE209 := n4_; have NB208_209 := n5_; have NB209_208 := n6_; clear n0_ n1_ n2_ n3_ n4_ n5_ n6_; clear hb hbox hg))
 (try simp only [Act.put, List.setIfInBounds_toArray, List.set_cons_zero, List.set_cons_succ])
 go_cut [44] (fun v44 wc => ∃ (kq : Nat) (x44_2 : Bool), v44 = .bool x44_2 ∧ Aside0 (tailraceref01_Cmp.j0 kq x44_2 a0_0 a0_1 a0_2 a1_0 a1_1 a1_2 = some r) ∧ Aside0 (kq ≤ k) ∧ Aside0 (wc.heap[gb208]? = some (.cells #[.int .i64 a0_0, .int .i64 a0_1, .string a0_2] 23 (0, 0))) ∧ Aside0 (wc.heap[gb209]? = some (.cells #[.int .i64 a1_0, .int .i64 a1_1, .string a1_2] 23 (0, 0))) ∧ Aside0 (Below w.heap.size w wc))
 case first =>
  have H := HC3.out
  clear HC3
  by_cases c6 : a0_0 < a1_0
  ·rw [if_pos c6] at H
   have c6b0 : decide (a0_0 < a1_0) = true := decide_eq_true c6
   clear c6
   (first | rw [c6b0] | (simp only [i64_w, i32_w]; rw [c6b0]) | skip)
   have H' := Aside0.mk H
   clear H
   have hnb7 := NB208_209.out
   have hnc7 := NB209_208.out
   have hcz8_0 : w5.cell? ⟨gb208, 0, none⟩ = some (.int .i64 a0_0) := (blk_cell BK208.out 0).trans rfl
   have hcz8_1 : w5.cell? ⟨gb208, 1, none⟩ = some (.int .i64 a0_1) := (blk_cell BK208.out 1).trans rfl
   have hcz8_2 : w5.cell? ⟨gb208, 2, none⟩ = some (.string a0_2) := (blk_cell BK208.out 2).trans rfl
   have hfz8_0 := blk_frozen BK208.out 0
   have hfz8_1 := blk_frozen BK208.out 1
   have hfz8_2 := blk_frozen BK208.out 2
   have hcz9_0 : w5.cell? ⟨gb209, 0, none⟩ = some (.int .i64 a1_0) := (blk_cell BK209.out 0).trans rfl
   have hcz9_1 : w5.cell? ⟨gb209, 1, none⟩ = some (.int .i64 a1_1) := (blk_cell BK209.out 1).trans rfl
   have hcz9_2 : w5.cell? ⟨gb209, 2, none⟩ = some (.string a1_2) := (blk_cell BK209.out 2).trans rfl
   have hfz9_0 := blk_frozen BK209.out 0
   have hfz9_1 := blk_frozen BK209.out 1
   have hfz9_2 := blk_frozen BK209.out 2
   go_wp2
   go_meet
   case rel => exact ⟨_, (true), (by first | rfl | (simp; done) | (simp [*]; done)), H', ⟨by first | omega | exact Nat.le_refl _⟩, ⟨qb_ BK208.out⟩, ⟨qb_ BK209.out⟩, ⟨by repeat (first | (with_reducible first | exact HB.out | apply below_alloc | apply pw_below_drewN | apply below_drew1 | refine below_set ?_ GE208.out | refine below_set ?_ GE209.out) | exact HB.out)⟩⟩
  ·rw [if_neg c6] at H
   have c6b0 : decide (a0_0 < a1_0) = false := decide_eq_false c6
   clear c6
   (first | rw [c6b0] | (simp only [i64_w, i32_w]; rw [c6b0]) | skip)
   by_cases c10 : a0_0 = a1_0
   ·rw [if_pos c10] at H
    have c10b0 : (a0_0 == a1_0) = true := beq_iff_eq.mpr c10
    have c10b1 : (a0_0 != a1_0) = false := bne_eq_false_iff_eq.mpr c10
    clear c10
    by_cases c11 : a0_1 < a1_1
    ·rw [if_pos c11] at H
     have c11b0 : decide (a0_1 < a1_1) = true := decide_eq_true c11
     clear c11
     have H' := Aside0.mk H
     clear H
     have hnb12 := NB208_209.out
     have hnc12 := NB209_208.out
     have hcz13_0 : w5.cell? ⟨gb208, 0, none⟩ = some (.int .i64 a0_0) := (blk_cell BK208.out 0).trans rfl
     have hcz13_1 : w5.cell? ⟨gb208, 1, none⟩ = some (.int .i64 a0_1) := (blk_cell BK208.out 1).trans rfl
     have hcz13_2 : w5.cell? ⟨gb208, 2, none⟩ = some (.string a0_2) := (blk_cell BK208.out 2).trans rfl
     have hfz13_0 := blk_frozen BK208.out 0
     have hfz13_1 := blk_frozen BK208.out 1
     have hfz13_2 := blk_frozen BK208.out 2
     have hcz14_0 : w5.cell? ⟨gb209, 0, none⟩ = some (.int .i64 a1_0) := (blk_cell BK209.out 0).trans rfl
     have hcz14_1 : w5.cell? ⟨gb209, 1, none⟩ = some (.int .i64 a1_1) := (blk_cell BK209.out 1).trans rfl
     have hcz14_2 : w5.cell? ⟨gb209, 2, none⟩ = some (.string a1_2) := (blk_cell BK209.out 2).trans rfl
     have hfz14_0 := blk_frozen BK209.out 0
     have hfz14_1 := blk_frozen BK209.out 1
     have hfz14_2 := blk_frozen BK209.out 2
     go_wp2
     go_meet
     case rel => exact ⟨_, (true), (by first | rfl | (simp; done) | (simp [*]; done)), H', ⟨by first | omega | exact Nat.le_refl _⟩, ⟨qb_ BK208.out⟩, ⟨qb_ BK209.out⟩, ⟨by repeat (first | (with_reducible first | exact HB.out | apply below_alloc | apply pw_below_drewN | apply below_drew1 | refine below_set ?_ GE208.out | refine below_set ?_ GE209.out) | exact HB.out)⟩⟩
    ·rw [if_neg c11] at H
     have c11b0 : decide (a0_1 < a1_1) = false := decide_eq_false c11
     clear c11
     by_cases c15 : a0_1 = a1_1
     ·rw [if_pos c15] at H
      have c15b0 : (a0_1 == a1_1) = true := beq_iff_eq.mpr c15
      have c15b1 : (a0_1 != a1_1) = false := bne_eq_false_iff_eq.mpr c15
      clear c15
      have H' := Aside0.mk H
      clear H
      have hnb16 := NB208_209.out
      have hnc16 := NB209_208.out
      have hcz17_0 : w5.cell? ⟨gb208, 0, none⟩ = some (.int .i64 a0_0) := (blk_cell BK208.out 0).trans rfl
      have hcz17_1 : w5.cell? ⟨gb208, 1, none⟩ = some (.int .i64 a0_1) := (blk_cell BK208.out 1).trans rfl
      have hcz17_2 : w5.cell? ⟨gb208, 2, none⟩ = some (.string a0_2) := (blk_cell BK208.out 2).trans rfl
      have hfz17_0 := blk_frozen BK208.out 0
      have hfz17_1 := blk_frozen BK208.out 1
      have hfz17_2 := blk_frozen BK208.out 2
      have hcz18_0 : w5.cell? ⟨gb209, 0, none⟩ = some (.int .i64 a1_0) := (blk_cell BK209.out 0).trans rfl
      have hcz18_1 : w5.cell? ⟨gb209, 1, none⟩ = some (.int .i64 a1_1) := (blk_cell BK209.out 1).trans rfl
      have hcz18_2 : w5.cell? ⟨gb209, 2, none⟩ = some (.string a1_2) := (blk_cell BK209.out 2).trans rfl
      have hfz18_0 := blk_frozen BK209.out 0
      have hfz18_1 := blk_frozen BK209.out 1
      have hfz18_2 := blk_frozen BK209.out 2
      go_wp2
      go_meet
      case rel => exact ⟨_, ((Op.bytesLess a0_2.toList a1_2.toList)), (by first | rfl | (simp; done) | (simp [*]; done)), H', ⟨by first | omega | exact Nat.le_refl _⟩, ⟨qb_ BK208.out⟩, ⟨qb_ BK209.out⟩, ⟨by repeat (first | (with_reducible first | exact HB.out | apply below_alloc | apply pw_below_drewN | apply below_drew1 | refine below_set ?_ GE208.out | refine below_set ?_ GE209.out) | exact HB.out)⟩⟩
     ·rw [if_neg c15] at H
      have c15b0 : (a0_1 == a1_1) = false := beq_eq_false_iff_ne.mpr c15
      have c15b1 : (a0_1 != a1_1) = true := bne_iff_ne.mpr c15
      have H' := Aside0.mk H
      clear H
      have hnb19 := NB208_209.out
      have hnc19 := NB209_208.out
      have hcz20_0 : w5.cell? ⟨gb208, 0, none⟩ = some (.int .i64 a0_0) := (blk_cell BK208.out 0).trans rfl
      have hcz20_1 : w5.cell? ⟨gb208, 1, none⟩ = some (.int .i64 a0_1) := (blk_cell BK208.out 1).trans rfl
      have hcz20_2 : w5.cell? ⟨gb208, 2, none⟩ = some (.string a0_2) := (blk_cell BK208.out 2).trans rfl
      have hfz20_0 := blk_frozen BK208.out 0
      have hfz20_1 := blk_frozen BK208.out 1
      have hfz20_2 := blk_frozen BK208.out 2
      have hcz21_0 : w5.cell? ⟨gb209, 0, none⟩ = some (.int .i64 a1_0) := (blk_cell BK209.out 0).trans rfl
      have hcz21_1 : w5.cell? ⟨gb209, 1, none⟩ = some (.int .i64 a1_1) := (blk_cell BK209.out 1).trans rfl
      have hcz21_2 : w5.cell? ⟨gb209, 2, none⟩ = some (.string a1_2) := (blk_cell BK209.out 2).trans rfl
      have hfz21_0 := blk_frozen BK209.out 0
      have hfz21_1 := blk_frozen BK209.out 1
      have hfz21_2 := blk_frozen BK209.out 2
      go_wp2
      go_meet
      case rel => exact ⟨_, (false), (by first | rfl | (simp; done) | (simp [*]; done)), H', ⟨by first | omega | exact Nat.le_refl _⟩, ⟨qb_ BK208.out⟩, ⟨qb_ BK209.out⟩, ⟨by repeat (first | (with_reducible first | exact HB.out | apply below_alloc | apply pw_below_drewN | apply below_drew1 | refine below_set ?_ GE208.out | refine below_set ?_ GE209.out) | exact HB.out)⟩⟩
   ·rw [if_neg c10] at H
    have c10b0 : (a0_0 == a1_0) = false := beq_eq_false_iff_ne.mpr c10
    have c10b1 : (a0_0 != a1_0) = true := bne_iff_ne.mpr c10
    have H' := Aside0.mk H
    clear H
    have hnb22 := NB208_209.out
    have hnc22 := NB209_208.out
    have hcz23_0 : w5.cell? ⟨gb208, 0, none⟩ = some (.int .i64 a0_0) := (blk_cell BK208.out 0).trans rfl
    have hcz23_1 : w5.cell? ⟨gb208, 1, none⟩ = some (.int .i64 a0_1) := (blk_cell BK208.out 1).trans rfl
    have hcz23_2 : w5.cell? ⟨gb208, 2, none⟩ = some (.string a0_2) := (blk_cell BK208.out 2).trans rfl
    have hfz23_0 := blk_frozen BK208.out 0
    have hfz23_1 := blk_frozen BK208.out 1
    have hfz23_2 := blk_frozen BK208.out 2
    have hcz24_0 : w5.cell? ⟨gb209, 0, none⟩ = some (.int .i64 a1_0) := (blk_cell BK209.out 0).trans rfl
    have hcz24_1 : w5.cell? ⟨gb209, 1, none⟩ = some (.int .i64 a1_1) := (blk_cell BK209.out 1).trans rfl
    have hcz24_2 : w5.cell? ⟨gb209, 2, none⟩ = some (.string a1_2) := (blk_cell BK209.out 2).trans rfl
    have hfz24_0 := blk_frozen BK209.out 0
    have hfz24_1 := blk_frozen BK209.out 1
    have hfz24_2 := blk_frozen BK209.out 2
    go_wp2
    go_meet
    case rel => exact ⟨_, (false), (by first | rfl | (simp; done) | (simp [*]; done)), H', ⟨by first | omega | exact Nat.le_refl _⟩, ⟨qb_ BK208.out⟩, ⟨qb_ BK209.out⟩, ⟨by repeat (first | (with_reducible first | exact HB.out | apply below_alloc | apply pw_below_drewN | apply below_drew1 | refine below_set ?_ GE208.out | refine below_set ?_ GE209.out) | exact HB.out)⟩⟩
 case rest =>
  clear HC3
  try clear c1
  try clear c2
  try clear p2
  try clear c6
  try clear c6b0
  try clear c7
  try clear c10
  try clear c10b0
  try clear c10b1
  try clear c11
  try clear c11b0
  try clear c12
  try clear c15
  try clear c15b0
  try clear c15b1
  try clear c16
  try clear c19
  try clear c22
  try clear hcz13_0
  try clear hcz13_1
  try clear hcz13_2
  try clear hcz14_0
  try clear hcz14_1
  try clear hcz14_2
  try clear hcz17_0
  try clear hcz17_1
  try clear hcz17_2
  try clear hcz18_0
  try clear hcz18_1
  try clear hcz18_2
  try clear hcz20_0
  try clear hcz20_1
  try clear hcz20_2
  try clear hcz21_0
  try clear hcz21_1
  try clear hcz21_2
  try clear hcz23_0
  try clear hcz23_1
  try clear hcz23_2
  try clear hcz24_0
  try clear hcz24_1
  try clear hcz24_2
  try clear hcz8_0
  try clear hcz8_1
  try clear hcz8_2
  try clear hcz9_0
  try clear hcz9_1
  try clear hcz9_2
  try clear hfz13_0
  try clear hfz13_1
  try clear hfz13_2
  try clear hfz14_0
  try clear hfz14_1
  try clear hfz14_2
  try clear hfz17_0
  try clear hfz17_1
  try clear hfz17_2
  try clear hfz18_0
  try clear hfz18_1
  try clear hfz18_2
  try clear hfz20_0
  try clear hfz20_1
  try clear hfz20_2
  try clear hfz21_0
  try clear hfz21_1
  try clear hfz21_2
  try clear hfz23_0
  try clear hfz23_1
  try clear hfz23_2
  try clear hfz24_0
  try clear hfz24_1
  try clear hfz24_2
  try clear hfz8_0
  try clear hfz8_1
  try clear hfz8_2
  try clear hfz9_0
  try clear hfz9_1
  try clear hfz9_2
  obtain ⟨kq, x44_2, rfl, HA, HJ2, BK208, BK209, HB⟩ := hcut
  cases kq with
  | zero => exact absurd HA.out (by simp [tailraceref01_Cmp.j0])
  | succ kj2 =>
   have H := HA.out
   clear HA
   simp only [tailraceref01_Cmp.j0] at H
   by_cases c25 : x44_2 = true
   ·subst c25
    have H1 : (some (-1)) = some r := by rw [if_pos rfl] at H; exact H
    clear H
    have H := H1
    clear H1
    obtain rfl := Option.some.inj H
    go_wp2
    go_ret
    exact ⟨by first | rfl | (simp [errW_none, errW_some] <;> rfl) | (simp [*, errW_none, errW_some] <;> rfl), by repeat (first | (with_reducible first | exact HB.out | apply below_alloc | apply pw_below_drewN | apply below_drew1 | refine below_set ?_ GE208.out | refine below_set ?_ GE209.out) | exact HB.out)⟩
   ·replace c25 := Bool.eq_false_iff.mpr c25
    subst c25
    have H1 : (if (a0_0 == a1_0 && (a0_1 == a1_1 && (a0_2.toList == a1_2.toList))) = true then (some 0) else (some 1)) = some r := by rw [if_neg (show ¬ (false = true) by decide)] at H; exact H
    clear H
    have H := H1
    clear H1
    by_cases c26 : (a0_0 == a1_0 && (a0_1 == a1_1 && (a0_2.toList == a1_2.toList))) = true
    ·rw [if_pos c26] at H
     have c26b0 : (a0_0 == a1_0 && (a0_1 == a1_1 && (a0_2.toList == a1_2.toList))) = true := c26
     (try (have c26b1 : decide (a0_0 = a1_0 && (a0_1 == a1_1 && (a0_2.toList == a1_2.toList))) = true := by simpa using c26))
     (try (have c26b2 : (a0_0 == a1_0 && (a0_1 == a1_1 && (a0_2.toList == a1_2.toList))) = true := by simpa using c26))
     clear c26
     obtain rfl := Option.some.inj H
     have hnb27 := NB208_209.out
     have hnc27 := NB209_208.out
     have hcz28_0 : wc.cell? ⟨gb208, 0, none⟩ = some (.int .i64 a0_0) := (blk_cell BK208.out 0).trans rfl
     have hcz28_1 : wc.cell? ⟨gb208, 1, none⟩ = some (.int .i64 a0_1) := (blk_cell BK208.out 1).trans rfl
     have hcz28_2 : wc.cell? ⟨gb208, 2, none⟩ = some (.string a0_2) := (blk_cell BK208.out 2).trans rfl
     have hfz28_0 := blk_frozen BK208.out 0
     have hfz28_1 := blk_frozen BK208.out 1
     have hfz28_2 := blk_frozen BK208.out 2
     have hcz29_0 : wc.cell? ⟨gb209, 0, none⟩ = some (.int .i64 a1_0) := (blk_cell BK209.out 0).trans rfl
     have hcz29_1 : wc.cell? ⟨gb209, 1, none⟩ = some (.int .i64 a1_1) := (blk_cell BK209.out 1).trans rfl
     have hcz29_2 : wc.cell? ⟨gb209, 2, none⟩ = some (.string a1_2) := (blk_cell BK209.out 2).trans rfl
     have hfz29_0 := blk_frozen BK209.out 0
     have hfz29_1 := blk_frozen BK209.out 1
     have hfz29_2 := blk_frozen BK209.out 2
     go_wp2
     go_ret
     exact ⟨by first | rfl | (simp [errW_none, errW_some] <;> rfl) | (simp [*, errW_none, errW_some] <;> rfl), by repeat (first | (with_reducible first | exact HB.out | apply below_alloc | apply pw_below_drewN | apply below_drew1 | refine below_set ?_ GE208.out | refine below_set ?_ GE209.out) | exact HB.out)⟩
    ·rw [if_neg c26] at H
     have c26b0 : (a0_0 == a1_0 && (a0_1 == a1_1 && (a0_2.toList == a1_2.toList))) = false := by simpa using c26
     (try (have c26b1 : decide (a0_0 = a1_0 && (a0_1 == a1_1 && (a0_2.toList == a1_2.toList))) = false := by simpa using c26))
     (try (have c26b2 : (a0_0 == a1_0 && (a0_1 == a1_1 && (a0_2.toList == a1_2.toList))) = false := by simpa using c26))
     (try (have c26b3 : ¬ (a0_0 = a1_0 && (a0_1 == a1_1 && (a0_2.toList == a1_2.toList))) := by simpa using c26))
     clear c26
     obtain rfl := Option.some.inj H
     have hnb30 := NB208_209.out
     have hnc30 := NB209_208.out
     have hcz31_0 : wc.cell? ⟨gb208, 0, none⟩ = some (.int .i64 a0_0) := (blk_cell BK208.out 0).trans rfl
     have hcz31_1 : wc.cell? ⟨gb208, 1, none⟩ = some (.int .i64 a0_1) := (blk_cell BK208.out 1).trans rfl
     have hcz31_2 : wc.cell? ⟨gb208, 2, none⟩ = some (.string a0_2) := (blk_cell BK208.out 2).trans rfl
     have hfz31_0 := blk_frozen BK208.out 0
     have hfz31_1 := blk_frozen BK208.out 1
     have hfz31_2 := blk_frozen BK208.out 2
     have hcz32_0 : wc.cell? ⟨gb209, 0, none⟩ = some (.int .i64 a1_0) := (blk_cell BK209.out 0).trans rfl
     have hcz32_1 : wc.cell? ⟨gb209, 1, none⟩ = some (.int .i64 a1_1) := (blk_cell BK209.out 1).trans rfl
     have hcz32_2 : wc.cell? ⟨gb209, 2, none⟩ = some (.string a1_2) := (blk_cell BK209.out 2).trans rfl
     have hfz32_0 := blk_frozen BK209.out 0
     have hfz32_1 := blk_frozen BK209.out 1
     have hfz32_2 := blk_frozen BK209.out 2
     go_wp2
     go_ret
     exact ⟨by first | rfl | (simp [errW_none, errW_some] <;> rfl) | (simp [*, errW_none, errW_some] <;> rfl), by repeat (first | (with_reducible first | exact HB.out | apply below_alloc | apply pw_below_drewN | apply below_drew1 | refine below_set ?_ GE208.out | refine below_set ?_ GE209.out) | exact HB.out)⟩
mutual
def tailraceref01_CmpRow.l0 : Nat → List (S23) → List (S23) → Int → Option (Int)
 | 0, _, _, _ => none
 | k + 1, x0, x1, x5 => if x5 < (x0.length : Int) then (tailraceref01_CmpRow.j1 k x0 x1 x5 (decide (x5 < (x1.length : Int)))) else (tailraceref01_CmpRow.j1 k x0 x1 x5 false)
def tailraceref01_CmpRow.j1 : Nat → List (S23) → List (S23) → Int → Bool → Option (Int)
 | 0, _, _, _, _ => none
 | k + 1, x0, x1, x5, x16 => if x16 = true then (if 0 ≤ x5 then (if x5 < (x0.length : Int) then (if x5 < (x1.length : Int) then ((tailraceref01_Cmp.f k ((rd_T23 x0 x5).f0) ((rd_T23 x0 x5).f1) ((rd_T23 x0 x5).f2) ((rd_T23 x1 x5).f0) ((rd_T23 x1 x5).f1) ((rd_T23 x1 x5).f2)).bind fun t212 => (if t212 = 0 then (tailraceref01_CmpRow.l0 k x0 x1 (wrap64 (x5 + 1))) else (some t212))) else (none)) else (none)) else (none)) else (if (x0.length : Int) < (x1.length : Int) then (some (-1)) else (if (x0.length : Int) > (x1.length : Int) then (some 1) else (some 0)))
end
def tailraceref01_CmpRow.f (k : Nat) (l0 : List (S23)) (l1 : List (S23)) : Option (Int) := tailraceref01_CmpRow.l0 k l0 l1 0
theorem tailraceref01_CmpRow.mono_l : ∀ k, (∀ y0 y1 y2, LeO (tailraceref01_CmpRow.l0 k y0 y1 y2) (tailraceref01_CmpRow.l0 (k + 1) y0 y1 y2)) ∧ (∀ y0 y1 y2 y3, LeO (tailraceref01_CmpRow.j1 k y0 y1 y2 y3) (tailraceref01_CmpRow.j1 (k + 1) y0 y1 y2 y3))
 | 0 => ⟨fun _ _ _ r h => by simp [tailraceref01_CmpRow.l0] at h, fun _ _ _ _ r h => by simp [tailraceref01_CmpRow.j1] at h⟩
 | k + 1 => by
  obtain ⟨ih0, ih1⟩ := tailraceref01_CmpRow.mono_l k
  refine ⟨?_, ?_⟩
  ·intro y0 y1 y2
   unfold tailraceref01_CmpRow.l0
   repeat' first
   | (with_reducible exact ih0 _ _ _)
   | (with_reducible exact ih1 _ _ _ _)
   | (with_reducible exact tailraceref01_Cmp.mono _ _ _ _ _ _ _)
   | (with_reducible exact LeO.refl _)
   | (with_reducible exact LeO.none _)
   | (with_reducible refine LeO.ite ?_ ?_)
   | (with_reducible refine LeO.bind ?_ (fun _ => ?_))
   | exact ih0 _ _ _
   | exact ih1 _ _ _ _
   | exact tailraceref01_Cmp.mono _ _ _ _ _ _ _
   | exact LeO.none _
   | refine LeO.ite ?_ ?_
   | refine LeO.bind ?_ (fun _ => ?_)
  ·intro y0 y1 y2 y3
   unfold tailraceref01_CmpRow.j1
   repeat' first
   | (with_reducible exact ih0 _ _ _)
   | (with_reducible exact ih1 _ _ _ _)
   | (with_reducible exact tailraceref01_Cmp.mono _ _ _ _ _ _ _)
   | (with_reducible exact LeO.refl _)
   | (with_reducible exact LeO.none _)
   | (with_reducible refine LeO.ite ?_ ?_)
   | (with_reducible refine LeO.bind ?_ (fun _ => ?_))
   | exact ih0 _ _ _
   | exact ih1 _ _ _ _
   | exact tailraceref01_Cmp.mono _ _ _ _ _ _ _
   | exact LeO.none _
   | refine LeO.ite ?_ ?_
   | refine LeO.bind ?_ (fun _ => ?_)
theorem tailraceref01_CmpRow.mono : ∀ a0 a1 k, LeO (tailraceref01_CmpRow.f k a0 a1) (tailraceref01_CmpRow.f (k + 1) a0 a1) := by
 intro a0 a1 k
 obtain ⟨ih0, ih1⟩ := tailraceref01_CmpRow.mono_l k
 unfold tailraceref01_CmpRow.f
 repeat' first
   | (with_reducible exact ih0 _ _ _)
   | (with_reducible exact ih1 _ _ _ _)
   | (with_reducible exact tailraceref01_Cmp.mono _ _ _ _ _ _ _)
   | (with_reducible exact LeO.refl _)
   | (with_reducible exact LeO.none _)
   | (with_reducible refine LeO.ite ?_ ?_)
   | (with_reducible refine LeO.bind ?_ (fun _ => ?_))
   | exact ih0 _ _ _
   | exact ih1 _ _ _ _
   | exact tailraceref01_Cmp.mono _ _ _ _ _ _ _
   | exact LeO.none _
   | refine LeO.ite ?_ ?_
   | refine LeO.bind ?_ (fun _ => ?_)
def tailraceref01_CmpRow.T4 : Bool × List (List Nat × List Nat) := (true, [([], []), ([], []), ([0, 1], [0, 1]), ([2], [2]), ([], []), ([], []), ([4, 5], [4, 5]), ([6], [6]), ([3, 7], [3, 7]), ([8, 8, 0, 1, 2, 3, 4, 5, 6, 7, 8], [8])])
def tailraceref01_CmpRow.B4 : List Nat := [0, 0, 3, 7, 0, 0, 48, 112, 255, 511]
theorem tailraceref01_CmpRow.tab4 : rtab .any (opsOf Try.f17 4) = tailraceref01_CmpRow.T4 := by kernel_rfl
theorem tailraceref01_CmpRow.bits4 : waitsOk tailraceref01_CmpRow.T4.2 tailraceref01_CmpRow.B4 = true := by kernel_rfl
set_option maxHeartbeats 8000000 in
set_option maxRecDepth 100000 in
theorem tailraceref01_CmpRow.calls (k : Nat) (A0 : Option Addr) (c0 : Nat) (l0 : List (S23)) (A1 : Option Addr) (c1 : Nat) (l1 : List (S23)) (r : Int) (w : World) (hr0 : Kd.C k23 w A0 l0.length l0) (hc0 : l0.length ≤ c0) (hr1 : Kd.C k23 w A1 l1.length l1) (hc1 : l1.length ≤ c1) (h : tailraceref01_CmpRow.f k l0 l1 = some r) :
  Calls Try.prog 17 #[.slice A0 l0.length c0, .slice A1 l1.length c1] w fun e w' => e = .returned (.int .i64 r) ∧ Below w.heap.size w w' := by
 have hu23 := Try.underlying23
 have HR0 := Aside0.mk hr0
 have HC0 := Aside0.mk hc0
 clear hr0 hc0
 have HR1 := Aside0.mk hr1
 have HC1 := Aside0.mk hc1
 clear hr1 hc1
 have HB := Aside0.mk (Below.refl w.heap.size w)
 have H : (tailraceref01_CmpRow.l0 k l0 l1 0) = some r := h
 clear h
 have H' := Aside0.mk H
 clear H
 go_enter Try.func17, Try.ntmps17
 go_wp2
 go_loopg [5] k (fun kq v5 w' => ∃ (x5_1 : Int), v5 = .int .i64 x5_1 ∧ Aside0 (tailraceref01_CmpRow.l0 kq l0 l1 x5_1 = some r) ∧ Aside0 (kq ≤ k) ∧ Aside0 (Below w.heap.size w w'))
 case atStart => exact ⟨(0), (by first | rfl | (simp; done) | (simp [*]; done)), H', ⟨Nat.le_refl _⟩, ⟨qh_⟩⟩
 case round =>
  clear H'
  try clear c1
  try clear p2
  obtain ⟨x5_1, rfl, HA, HK1, HB⟩ := hrel
  cases gk with
  | zero => exact absurd HA.out (by simp [tailraceref01_CmpRow.l0])
  | succ k1 =>
   have H := HA.out
   clear HA
   simp only [tailraceref01_CmpRow.l0] at H
   have HC3 := Aside0.mk H
   clear H
   go_upto_region 2 with (fail)
   go_cut [16] (fun v16 wc => ∃ (kq : Nat) (x16_2 : Bool), v16 = .bool x16_2 ∧ Aside0 (tailraceref01_CmpRow.j1 kq l0 l1 x5_1 x16_2 = some r) ∧ Aside0 (kq ≤ k1) ∧ Aside0 (Below w.heap.size w wc))
   case first =>
    have H := HC3.out
    clear HC3
    by_cases c4 : x5_1 < (l0.length : Int)
    ·rw [if_pos c4] at H
     have c4b0 : decide (x5_1 < (l0.length : Int)) = true := decide_eq_true c4
     clear c4
     (first | rw [c4b0] | (simp only [i64_w, i32_w]; rw [c4b0]) | skip)
     have H' := Aside0.mk H
     clear H
     go_wp2
     go_meet
     case rel => exact ⟨_, (decide (x5_1 < (l1.length : Int))), (by first | rfl | (simp; done) | (simp [*]; done)), H', ⟨by have := HK1.out; first | omega | exact Nat.le_refl _⟩, ⟨qh_⟩⟩
    ·rw [if_neg c4] at H
     have c4b0 : decide (x5_1 < (l0.length : Int)) = false := decide_eq_false c4
     clear c4
     (first | rw [c4b0] | (simp only [i64_w, i32_w]; rw [c4b0]) | skip)
     have H' := Aside0.mk H
     clear H
     go_wp2
     go_meet
     case rel => exact ⟨_, (false), (by first | rfl | (simp; done) | (simp [*]; done)), H', ⟨by have := HK1.out; first | omega | exact Nat.le_refl _⟩, ⟨qh_⟩⟩
   case rest =>
    clear HC3
    try clear c1
    try clear p2
    try clear c4
    try clear c4b0
    try clear p2
    obtain ⟨kq, x16_2, rfl, HA, HJ2, HB⟩ := hcut
    cases kq with
    | zero => exact absurd HA.out (by simp [tailraceref01_CmpRow.j1])
    | succ kj2 =>
     have H := HA.out
     clear HA
     simp only [tailraceref01_CmpRow.j1] at H
     by_cases c5 : x16_2 = true
     ·subst c5
      have H1 : (if 0 ≤ x5_1 then (if x5_1 < (l0.length : Int) then (if x5_1 < (l1.length : Int) then ((tailraceref01_Cmp.f kj2 ((rd_T23 l0 x5_1).f0) ((rd_T23 l0 x5_1).f1) ((rd_T23 l0 x5_1).f2) ((rd_T23 l1 x5_1).f0) ((rd_T23 l1 x5_1).f1) ((rd_T23 l1 x5_1).f2)).bind fun t212 => (if t212 = 0 then (tailraceref01_CmpRow.l0 kj2 l0 l1 (wrap64 (x5_1 + 1))) else (some t212))) else (none)) else (none)) else (none)) = some r := by rw [if_pos rfl] at H; exact H
      clear H
      have H := H1
      clear H1
      by_cases c6 : 0 ≤ x5_1
      ·rw [if_pos c6] at H
       have c6b0 : decide (0 ≤ x5_1) = true := decide_eq_true c6
       clear c6
       by_cases c7 : x5_1 < (l0.length : Int)
       ·rw [if_pos c7] at H
        have c7b0 : decide (x5_1 < (l0.length : Int)) = true := decide_eq_true c7
        clear c7
        by_cases c8 : x5_1 < (l1.length : Int)
        ·rw [if_pos c8] at H
         have c8b0 : decide (x5_1 < (l1.length : Int)) = true := decide_eq_true c8
         clear c8
         replace H := Option.bind_eq_some_iff.mp H
         obtain ⟨t212, A90, H⟩ := H
         replace H : (if t212 = 0 then (tailraceref01_CmpRow.l0 kj2 l0 l1 (wrap64 (x5_1 + 1))) else (some t212)) = some r := H
         have A9 := Aside0.mk A90
         clear A90
         by_cases c10 : t212 = 0
         ·rw [if_pos c10] at H
          have c10b0 : (t212 == 0) = true := beq_iff_eq.mpr c10
          have c10b1 : (t212 != 0) = false := bne_eq_false_iff_eq.mpr c10
          clear c10
          have H' := Aside0.mk H
          clear H
          try go_wp2
          have n0_ := Aside0.mk (below_drew1 HB.out)
          clear HB
          have HB := n0_
          clear n0_
          have p210 : 0 ≤ (x5_1 : Int) := of_decide_eq_true (by first | (with_reducible assumption) | assumption)
          have q210 : x5_1 < (l0.length : Int) := of_decide_eq_true (by first | (with_reducible assumption) | assumption)
          obtain ⟨ad210, e210, hx210_0, hx210_1, hx210_2⟩ := at_T23 HR0.out x5_1 p210 q210
          have hw210_2 := hx210_2
          have hw210_1 := hx210_1
          have hw210_0 := hx210_0
          cases e210
          replace hx210_0 := (HB.out.cell (World.block_lt_of_cell? w _ hx210_0)).trans hx210_0
          replace hx210_1 := (HB.out.cell (World.block_lt_of_cell? w _ hx210_1)).trans hx210_1
          replace hx210_2 := (HB.out.cell (World.block_lt_of_cell? w _ hx210_2)).trans hx210_2
          replace p210 := eq_true p210
          replace q210 := eq_true q210
          have p211 : 0 ≤ (x5_1 : Int) := of_decide_eq_true (by first | (with_reducible assumption) | assumption)
          have q211 : x5_1 < (l1.length : Int) := of_decide_eq_true (by first | (with_reducible assumption) | assumption)
          obtain ⟨ad211, e211, hx211_0, hx211_1, hx211_2⟩ := at_T23 HR1.out x5_1 p211 q211
          have hw211_2 := hx211_2
          have hw211_1 := hx211_1
          have hw211_0 := hx211_0
          cases e211
          replace hx211_0 := (HB.out.cell (World.block_lt_of_cell? w _ hx211_0)).trans hx211_0
          replace hx211_1 := (HB.out.cell (World.block_lt_of_cell? w _ hx211_1)).trans hx211_1
          replace hx211_2 := (HB.out.cell (World.block_lt_of_cell? w _ hx211_2)).trans hx211_2
          replace p211 := eq_true p211
          replace q211 := eq_true q211
          refine start_ (n := 10) (S := fun w' => w'.cell? (ad210.add ((x5_1).toNat * 3)) = some (.int .i64 ((rd_T23 l0 x5_1).f0)) ∧ w'.cell? ⟨(ad210.add ((x5_1).toNat * 3)).block, (ad210.add ((x5_1).toNat * 3)).off + 1, none⟩ = some (.int .i64 ((rd_T23 l0 x5_1).f1)) ∧ w'.cell? ⟨(ad210.add ((x5_1).toNat * 3)).block, (ad210.add ((x5_1).toNat * 3)).off + 2, none⟩ = some (.string ((rd_T23 l0 x5_1).f2)) ∧ w'.cell? (ad211.add ((x5_1).toNat * 3)) = some (.int .i64 ((rd_T23 l1 x5_1).f0)) ∧ w'.cell? ⟨(ad211.add ((x5_1).toNat * 3)).block, (ad211.add ((x5_1).toNat * 3)).off + 1, none⟩ = some (.int .i64 ((rd_T23 l1 x5_1).f1)) ∧ w'.cell? ⟨(ad211.add ((x5_1).toNat * 3)).block, (ad211.add ((x5_1).toNat * 3)).off + 2, none⟩ = some (.string ((rd_T23 l1 x5_1).f2))) (ds := []) #[false, false, false, false, false, false, false, false, false, false] (by kernel_rfl) rfl rfl ⟨((HB.out.cell (World.block_lt_of_cell? w _ hw210_0)).trans hw210_0), ((HB.out.cell (World.block_lt_of_cell? w _ hw210_1)).trans hw210_1), ((HB.out.cell (World.block_lt_of_cell? w _ hw210_2)).trans hw210_2), ((HB.out.cell (World.block_lt_of_cell? w _ hw211_0)).trans hw211_0), ((HB.out.cell (World.block_lt_of_cell? w _ hw211_1)).trans hw211_1), ((HB.out.cell (World.block_lt_of_cell? w _ hw211_2)).trans hw211_2)⟩ (fun hHeld => ?_); refine with_tabW tailraceref01_CmpRow.tab4 tailraceref01_CmpRow.bits4 (fun HT_ HW_ => ?_)
          generalize wc.drew = w11 at HB hx210_0 hx210_1 hx210_2 hx211_0 hx211_1 hx211_2 hHeld ⊢
          refine pure_ (i := 0) (N := some 19) (v := ?_) (a' := ?_) #[true, false, false, false, false, false, false, false, false, false] rfl rfl (any_of HT_.out (by kernel_rfl)) (fun _ _ _ h => h) (Or.inl ⟨by rfl, ?_⟩) ?_ ?_
          rotate_left
          ·intro w'
           go_simp
           with_reducible rfl
          rotate_left
          ·simp only [Act.put, List.setIfInBounds_toArray, List.set_cons_zero, List.set_cons_succ, i64_w, i32_w]
           rfl
          refine pure_ (i := 1) (N := some 20) (v := ?_) (a' := ?_) #[true, true, false, false, false, false, false, false, false, false] rfl rfl (any_of HT_.out (by kernel_rfl)) (fun _ _ _ h => h) (Or.inl ⟨by rfl, ?_⟩) ?_ ?_
          rotate_left
          ·intro w'
           go_simp
           with_reducible rfl
          rotate_left
          ·simp only [Act.put, List.setIfInBounds_toArray, List.set_cons_zero, List.set_cons_succ, i64_w, i32_w]
           rfl
          refine pure_ (i := 2) (N := some 21) (v := ?_) (a' := ?_) #[true, true, true, false, false, false, false, false, false, false] rfl rfl (any_of HT_.out (by kernel_rfl)) (fun _ _ _ h => h) (Or.inl ⟨by rfl, ?_⟩) ?_ ?_
          rotate_left
          ·intro w'
           go_simp
           with_reducible rfl
          rotate_left
          ·simp only [Act.put, List.setIfInBounds_toArray, List.set_cons_zero, List.set_cons_succ, i64_w, i32_w]
           rfl
          refine pure_ (i := 4) (N := some 23) (v := ?_) (a' := ?_) #[true, true, true, false, true, false, false, false, false, false] rfl rfl (any_of HT_.out (by kernel_rfl)) (fun _ _ _ h => h) (Or.inl ⟨by rfl, ?_⟩) ?_ ?_
          rotate_left
          ·intro w'
           go_simp
           with_reducible rfl
          rotate_left
          ·simp only [Act.put, List.setIfInBounds_toArray, List.set_cons_zero, List.set_cons_succ, i64_w, i32_w]
           rfl
          refine pure_ (i := 5) (N := some 24) (v := ?_) (a' := ?_) #[true, true, true, false, true, true, false, false, false, false] rfl rfl (any_of HT_.out (by kernel_rfl)) (fun _ _ _ h => h) (Or.inl ⟨by rfl, ?_⟩) ?_ ?_
          rotate_left
          ·intro w'
           go_simp
           with_reducible rfl
          rotate_left
          ·simp only [Act.put, List.setIfInBounds_toArray, List.set_cons_zero, List.set_cons_succ, i64_w, i32_w]
           rfl
          refine pure_ (i := 6) (N := some 25) (v := ?_) (a' := ?_) #[true, true, true, false, true, true, true, false, false, false] rfl rfl (any_of HT_.out (by kernel_rfl)) (fun _ _ _ h => h) (Or.inl ⟨by rfl, ?_⟩) ?_ ?_
          rotate_left
          ·intro w'
           go_simp
           with_reducible rfl
          rotate_left
          ·simp only [Act.put, List.setIfInBounds_toArray, List.set_cons_zero, List.set_cons_succ, i64_w, i32_w]
           rfl
          refine take_ (i := 3) (N := some 22) (v := ?_) (a' := ?_) #[true, true, true, true, true, true, true, false, false, false] rfl rfl (take_ofW HT_.out HW_.out (by kernel_rfl)) (fun _ _ _ h => h) (Or.inl ⟨by rfl, ?_⟩) hHeld ?_ ?_
          rotate_left
          ·rintro w' ⟨s0, s1, s2, s3, s4, s5⟩
           go_simp
           with_reducible rfl
          rotate_left
          ·simp only [Act.put, List.setIfInBounds_toArray, List.set_cons_zero, List.set_cons_succ, i64_w, i32_w]
           rfl
          refine take_ (i := 7) (N := some 26) (v := ?_) (a' := ?_) #[true, true, true, true, true, true, true, true, false, false] rfl rfl (take_ofW HT_.out HW_.out (by kernel_rfl)) (fun _ _ _ h => h) (Or.inl ⟨by rfl, ?_⟩) hHeld ?_ ?_
          rotate_left
          ·rintro w' ⟨s0, s1, s2, s3, s4, s5⟩
           go_simp
           with_reducible rfl
          rotate_left
          ·simp only [Act.put, List.setIfInBounds_toArray, List.set_cons_zero, List.set_cons_succ, i64_w, i32_w]
           rfl
          refine one_ (i := 8) (N := some 27) #[true, true, true, true, true, true, true, true, true, false] rfl rfl (one_of HT_.out (by kernel_rfl)) (by decide) (fun K hK => ?_)
          refine goes_ Try.func19 (by kernel_rfl) rfl #[.agg #[.int .i64 ((rd_T23 l0 x5_1).f0), .int .i64 ((rd_T23 l0 x5_1).f1), .string ((rd_T23 l0 x5_1).f2)], .agg #[.int .i64 ((rd_T23 l1 x5_1).f0), .int .i64 ((rd_T23 l1 x5_1).f1), .string ((rd_T23 l1 x5_1).f2)]] (by rfl) rfl rfl (by (try simp only [List.map_toArray, List.map_cons, List.map_nil]); first | done | rfl | (simp only [List.length_drop, List.length_take]; rfl)) ?_
          with_reducible refine (tailraceref01_Cmp.calls kj2 ((rd_T23 l0 x5_1).f0) ((rd_T23 l0 x5_1).f1) ((rd_T23 l0 x5_1).f2) ((rd_T23 l1 x5_1).f0) ((rd_T23 l1 x5_1).f1) ((rd_T23 l1 x5_1).f2) t212 _ A9.out).mono ?_
          rintro e w12 ⟨rfl, hb⟩
          refine ⟨_, rfl, ?_⟩
          have n0_ := Aside0.mk (below_step qh_ hb)
          clear HB
          have HB := n0_
          clear n0_
          (try clear hb)
          (try clear hb2)
          (try clear hk)
          (try clear hi)
          refine hK.out _ _ ⟨((HB.out.cell (World.block_lt_of_cell? w _ hw210_0)).trans hw210_0), ((HB.out.cell (World.block_lt_of_cell? w _ hw210_1)).trans hw210_1), ((HB.out.cell (World.block_lt_of_cell? w _ hw210_2)).trans hw210_2), ((HB.out.cell (World.block_lt_of_cell? w _ hw211_0)).trans hw211_0), ((HB.out.cell (World.block_lt_of_cell? w _ hw211_1)).trans hw211_1), ((HB.out.cell (World.block_lt_of_cell? w _ hw211_2)).trans hw211_2)⟩ (fun hHeld => ?_)
          clear hK K
          refine norm_ (a' := ?_) ?_ ?_
          rotate_left
          ·show Act.put _ (some 27) _ = _
           simp only [Act.put, List.setIfInBounds_toArray, List.set_cons_zero, List.set_cons_succ, i64_w, i32_w]
           rfl
          refine pure_ (i := 9) (N := some 6) (v := ?_) (a' := ?_) #[true, true, true, true, true, true, true, true, true, true] rfl rfl (any_of HT_.out (by kernel_rfl)) (fun _ _ _ h => h) (Or.inl ⟨by rfl, ?_⟩) ?_ ?_
          rotate_left
          ·intro w'
           go_simp
           with_reducible rfl
          rotate_left
          ·simp only [Act.put, List.setIfInBounds_toArray, List.set_cons_zero, List.set_cons_succ, i64_w, i32_w]
           rfl
          refine done_ (done_of HT_.out (by kernel_rfl)) ?_
          try go_wp2
          go_roundg kj2
          case measure => have := HK1.out; have := HJ2.out; omega
          case rel => exact ⟨(wrap64 (x5_1 + 1)), (by first | rfl | (simp; done) | (simp [*]; done)), H', ⟨by have := HK1.out; have := HJ2.out; omega⟩, ⟨qh_⟩⟩
         ·rw [if_neg c10] at H
          have c10b0 : (t212 == 0) = false := beq_eq_false_iff_ne.mpr c10
          have c10b1 : (t212 != 0) = true := bne_iff_ne.mpr c10
          obtain rfl := Option.some.inj H
          try go_wp2
          have n0_ := Aside0.mk (below_drew1 HB.out)
          clear HB
          have HB := n0_
          clear n0_
          have p210 : 0 ≤ (x5_1 : Int) := of_decide_eq_true (by first | (with_reducible assumption) | assumption)
          have q210 : x5_1 < (l0.length : Int) := of_decide_eq_true (by first | (with_reducible assumption) | assumption)
          obtain ⟨ad210, e210, hx210_0, hx210_1, hx210_2⟩ := at_T23 HR0.out x5_1 p210 q210
          have hw210_2 := hx210_2
          have hw210_1 := hx210_1
          have hw210_0 := hx210_0
          cases e210
          replace hx210_0 := (HB.out.cell (World.block_lt_of_cell? w _ hx210_0)).trans hx210_0
          replace hx210_1 := (HB.out.cell (World.block_lt_of_cell? w _ hx210_1)).trans hx210_1
          replace hx210_2 := (HB.out.cell (World.block_lt_of_cell? w _ hx210_2)).trans hx210_2
          replace p210 := eq_true p210
          replace q210 := eq_true q210
          have p211 : 0 ≤ (x5_1 : Int) := of_decide_eq_true (by first | (with_reducible assumption) | assumption)
          have q211 : x5_1 < (l1.length : Int) := of_decide_eq_true (by first | (with_reducible assumption) | assumption)
          obtain ⟨ad211, e211, hx211_0, hx211_1, hx211_2⟩ := at_T23 HR1.out x5_1 p211 q211
          have hw211_2 := hx211_2
          have hw211_1 := hx211_1
          have hw211_0 := hx211_0
          cases e211
          replace hx211_0 := (HB.out.cell (World.block_lt_of_cell? w _ hx211_0)).trans hx211_0
          replace hx211_1 := (HB.out.cell (World.block_lt_of_cell? w _ hx211_1)).trans hx211_1
          replace hx211_2 := (HB.out.cell (World.block_lt_of_cell? w _ hx211_2)).trans hx211_2
          replace p211 := eq_true p211
          replace q211 := eq_true q211
          refine start_ (n := 10) (S := fun w' => w'.cell? (ad210.add ((x5_1).toNat * 3)) = some (.int .i64 ((rd_T23 l0 x5_1).f0)) ∧ w'.cell? ⟨(ad210.add ((x5_1).toNat * 3)).block, (ad210.add ((x5_1).toNat * 3)).off + 1, none⟩ = some (.int .i64 ((rd_T23 l0 x5_1).f1)) ∧ w'.cell? ⟨(ad210.add ((x5_1).toNat * 3)).block, (ad210.add ((x5_1).toNat * 3)).off + 2, none⟩ = some (.string ((rd_T23 l0 x5_1).f2)) ∧ w'.cell? (ad211.add ((x5_1).toNat * 3)) = some (.int .i64 ((rd_T23 l1 x5_1).f0)) ∧ w'.cell? ⟨(ad211.add ((x5_1).toNat * 3)).block, (ad211.add ((x5_1).toNat * 3)).off + 1, none⟩ = some (.int .i64 ((rd_T23 l1 x5_1).f1)) ∧ w'.cell? ⟨(ad211.add ((x5_1).toNat * 3)).block, (ad211.add ((x5_1).toNat * 3)).off + 2, none⟩ = some (.string ((rd_T23 l1 x5_1).f2))) (ds := []) #[false, false, false, false, false, false, false, false, false, false] (by kernel_rfl) rfl rfl ⟨((HB.out.cell (World.block_lt_of_cell? w _ hw210_0)).trans hw210_0), ((HB.out.cell (World.block_lt_of_cell? w _ hw210_1)).trans hw210_1), ((HB.out.cell (World.block_lt_of_cell? w _ hw210_2)).trans hw210_2), ((HB.out.cell (World.block_lt_of_cell? w _ hw211_0)).trans hw211_0), ((HB.out.cell (World.block_lt_of_cell? w _ hw211_1)).trans hw211_1), ((HB.out.cell (World.block_lt_of_cell? w _ hw211_2)).trans hw211_2)⟩ (fun hHeld => ?_); refine with_tabW tailraceref01_CmpRow.tab4 tailraceref01_CmpRow.bits4 (fun HT_ HW_ => ?_)
          generalize wc.drew = w13 at HB hx210_0 hx210_1 hx210_2 hx211_0 hx211_1 hx211_2 hHeld ⊢
          refine pure_ (i := 0) (N := some 19) (v := ?_) (a' := ?_) #[true, false, false, false, false, false, false, false, false, false] rfl rfl (any_of HT_.out (by kernel_rfl)) (fun _ _ _ h => h) (Or.inl ⟨by rfl, ?_⟩) ?_ ?_
          rotate_left
          ·intro w'
           go_simp
           with_reducible rfl
          rotate_left
          ·simp only [Act.put, List.setIfInBounds_toArray, List.set_cons_zero, List.set_cons_succ, i64_w, i32_w]
           rfl
          refine pure_ (i := 1) (N := some 20) (v := ?_) (a' := ?_) #[true, true, false, false, false, false, false, false, false, false] rfl rfl (any_of HT_.out (by kernel_rfl)) (fun _ _ _ h => h) (Or.inl ⟨by rfl, ?_⟩) ?_ ?_
          rotate_left
          ·intro w'
           go_simp
           with_reducible rfl
          rotate_left
          ·simp only [Act.put, List.setIfInBounds_toArray, List.set_cons_zero, List.set_cons_succ, i64_w, i32_w]
           rfl
          refine pure_ (i := 2) (N := some 21) (v := ?_) (a' := ?_) #[true, true, true, false, false, false, false, false, false, false] rfl rfl (any_of HT_.out (by kernel_rfl)) (fun _ _ _ h => h) (Or.inl ⟨by rfl, ?_⟩) ?_ ?_
          rotate_left
          ·intro w'
           go_simp
           with_reducible rfl
          rotate_left
          ·simp only [Act.put, List.setIfInBounds_toArray, List.set_cons_zero, List.set_cons_succ, i64_w, i32_w]
           rfl
          refine pure_ (i := 4) (N := some 23) (v := ?_) (a' := ?_) #[true, true, true, false, true, false, false, false, false, false] rfl rfl (any_of HT_.out (by kernel_rfl)) (fun _ _ _ h => h) (Or.inl ⟨by rfl, ?_⟩) ?_ ?_
          rotate_left
          ·intro w'
           go_simp
           with_reducible rfl
          rotate_left
          ·simp only [Act.put, List.setIfInBounds_toArray, List.set_cons_zero, List.set_cons_succ, i64_w, i32_w]
           rfl
          refine pure_ (i := 5) (N := some 24) (v := ?_) (a' := ?_) #[true, true, true, false, true, true, false, false, false, false] rfl rfl (any_of HT_.out (by kernel_rfl)) (fun _ _ _ h => h) (Or.inl ⟨by rfl, ?_⟩) ?_ ?_
          rotate_left
          ·intro w'
           go_simp
           with_reducible rfl
          rotate_left
          ·simp only [Act.put, List.setIfInBounds_toArray, List.set_cons_zero, List.set_cons_succ, i64_w, i32_w]
           rfl
          refine pure_ (i := 6) (N := some 25) (v := ?_) (a' := ?_) #[true, true, true, false, true, true, true, false, false, false] rfl rfl (any_of HT_.out (by kernel_rfl)) (fun _ _ _ h => h) (Or.inl ⟨by rfl, ?_⟩) ?_ ?_
          rotate_left
          ·intro w'
           go_simp
           with_reducible rfl
          rotate_left
          ·simp only [Act.put, List.setIfInBounds_toArray, List.set_cons_zero, List.set_cons_succ, i64_w, i32_w]
           rfl
          refine take_ (i := 3) (N := some 22) (v := ?_) (a' := ?_) #[true, true, true, true, true, true, true, false, false, false] rfl rfl (take_ofW HT_.out HW_.out (by kernel_rfl)) (fun _ _ _ h => h) (Or.inl ⟨by rfl, ?_⟩) hHeld ?_ ?_
          rotate_left
          ·rintro w' ⟨s0, s1, s2, s3, s4, s5⟩
           go_simp
           with_reducible rfl
          rotate_left
          ·simp only [Act.put, List.setIfInBounds_toArray, List.set_cons_zero, List.set_cons_succ, i64_w, i32_w]
           rfl
          refine take_ (i := 7) (N := some 26) (v := ?_) (a' := ?_) #[true, true, true, true, true, true, true, true, false, false] rfl rfl (take_ofW HT_.out HW_.out (by kernel_rfl)) (fun _ _ _ h => h) (Or.inl ⟨by rfl, ?_⟩) hHeld ?_ ?_
          rotate_left
          ·rintro w' ⟨s0, s1, s2, s3, s4, s5⟩
           go_simp
           with_reducible rfl
          rotate_left
          ·simp only [Act.put, List.setIfInBounds_toArray, List.set_cons_zero, List.set_cons_succ, i64_w, i32_w]
           rfl
          refine one_ (i := 8) (N := some 27) #[true, true, true, true, true, true, true, true, true, false] rfl rfl (one_of HT_.out (by kernel_rfl)) (by decide) (fun K hK => ?_)
          refine goes_ Try.func19 (by kernel_rfl) rfl #[.agg #[.int .i64 ((rd_T23 l0 x5_1).f0), .int .i64 ((rd_T23 l0 x5_1).f1), .string ((rd_T23 l0 x5_1).f2)], .agg #[.int .i64 ((rd_T23 l1 x5_1).f0), .int .i64 ((rd_T23 l1 x5_1).f1), .string ((rd_T23 l1 x5_1).f2)]] (by rfl) rfl rfl (by (try simp only [List.map_toArray, List.map_cons, List.map_nil]); first | done | rfl | (simp only [List.length_drop, List.length_take]; rfl)) ?_
          with_reducible refine (tailraceref01_Cmp.calls kj2 ((rd_T23 l0 x5_1).f0) ((rd_T23 l0 x5_1).f1) ((rd_T23 l0 x5_1).f2) ((rd_T23 l1 x5_1).f0) ((rd_T23 l1 x5_1).f1) ((rd_T23 l1 x5_1).f2) t212 _ A9.out).mono ?_
          rintro e w14 ⟨rfl, hb⟩
          refine ⟨_, rfl, ?_⟩
          have n0_ := Aside0.mk (below_step qh_ hb)
          clear HB
          have HB := n0_
          clear n0_
          (try clear hb)
          (try clear hb2)
          (try clear hk)
          (try clear hi)
          refine hK.out _ _ ⟨((HB.out.cell (World.block_lt_of_cell? w _ hw210_0)).trans hw210_0), ((HB.out.cell (World.block_lt_of_cell? w _ hw210_1)).trans hw210_1), ((HB.out.cell (World.block_lt_of_cell? w _ hw210_2)).trans hw210_2), ((HB.out.cell (World.block_lt_of_cell? w _ hw211_0)).trans hw211_0), ((HB.out.cell (World.block_lt_of_cell? w _ hw211_1)).trans hw211_1), ((HB.out.cell (World.block_lt_of_cell? w _ hw211_2)).trans hw211_2)⟩ (fun hHeld => ?_)
          clear hK K
          refine norm_ (a' := ?_) ?_ ?_
          rotate_left
          ·show Act.put _ (some 27) _ = _
           simp only [Act.put, List.setIfInBounds_toArray, List.set_cons_zero, List.set_cons_succ, i64_w, i32_w]
           rfl
          refine pure_ (i := 9) (N := some 6) (v := ?_) (a' := ?_) #[true, true, true, true, true, true, true, true, true, true] rfl rfl (any_of HT_.out (by kernel_rfl)) (fun _ _ _ h => h) (Or.inl ⟨by rfl, ?_⟩) ?_ ?_
          rotate_left
          ·intro w'
           go_simp
           with_reducible rfl
          rotate_left
          ·simp only [Act.put, List.setIfInBounds_toArray, List.set_cons_zero, List.set_cons_succ, i64_w, i32_w]
           rfl
          refine done_ (done_of HT_.out (by kernel_rfl)) ?_
          try go_wp2
          go_ret
          exact ⟨by first | rfl | (simp [errW_none, errW_some] <;> rfl) | (simp [*, errW_none, errW_some] <;> rfl), qh_⟩
        ·rw [if_neg c8] at H
         exact absurd H (by simp)
       ·rw [if_neg c7] at H
        exact absurd H (by simp)
      ·rw [if_neg c6] at H
       exact absurd H (by simp)
     ·replace c5 := Bool.eq_false_iff.mpr c5
      subst c5
      have H1 : (if (l0.length : Int) < (l1.length : Int) then (some (-1)) else (if (l0.length : Int) > (l1.length : Int) then (some 1) else (some 0))) = some r := by rw [if_neg (show ¬ (false = true) by decide)] at H; exact H
      clear H
      have H := H1
      clear H1
      by_cases c15 : (l0.length : Int) < (l1.length : Int)
      ·rw [if_pos c15] at H
       have c15b0 : decide ((l0.length : Int) < (l1.length : Int)) = true := decide_eq_true c15
       have c15b1 : decide (l0.length < l1.length) = true := decide_eq_true (Int.ofNat_lt.mp c15)
       clear c15
       obtain rfl := Option.some.inj H
       go_wp2
       go_ret
       exact ⟨by first | rfl | (simp [errW_none, errW_some] <;> rfl) | (simp [*, errW_none, errW_some] <;> rfl), qh_⟩
      ·rw [if_neg c15] at H
       have c15b0 : decide ((l0.length : Int) < (l1.length : Int)) = false := decide_eq_false c15
       have c15b1 : decide (l0.length < l1.length) = false := decide_eq_false (fun h => c15 (Int.ofNat_lt.mpr h))
       clear c15
       by_cases c16 : (l0.length : Int) > (l1.length : Int)
       ·rw [if_pos c16] at H
        have c16b0 : decide ((l1.length : Int) < (l0.length : Int)) = true := decide_eq_true c16
        have c16b1 : decide (l1.length < l0.length) = true := decide_eq_true (Int.ofNat_lt.mp c16)
        clear c16
        obtain rfl := Option.some.inj H
        go_wp2
        go_ret
        exact ⟨by first | rfl | (simp [errW_none, errW_some] <;> rfl) | (simp [*, errW_none, errW_some] <;> rfl), qh_⟩
       ·rw [if_neg c16] at H
        have c16b0 : decide ((l1.length : Int) < (l0.length : Int)) = false := decide_eq_false c16
        have c16b1 : decide (l1.length < l0.length) = false := decide_eq_false (fun h => c16 (Int.ofNat_lt.mpr h))
        clear c16
        obtain rfl := Option.some.inj H
        go_wp2
        go_ret
        exact ⟨by first | rfl | (simp [errW_none, errW_some] <;> rfl) | (simp [*, errW_none, errW_some] <;> rfl), qh_⟩
def tailraceref01_Same.f (k : Nat) (l0 : List (S23)) (l1 : List (S23)) : Option (Bool) := (tailraceref01_CmpRow.f k l0 l1).bind fun t213 => (some (t213 == 0))
theorem tailraceref01_Same.mono : ∀ a0 a1 k, LeO (tailraceref01_Same.f k a0 a1) (tailraceref01_Same.f (k + 1) a0 a1) := by
 intro a0 a1 k
 unfold tailraceref01_Same.f
 repeat' first
   | (with_reducible exact tailraceref01_CmpRow.mono _ _ _)
   | (with_reducible exact LeO.refl _)
   | (with_reducible exact LeO.none _)
   | (with_reducible refine LeO.ite ?_ ?_)
   | (with_reducible refine LeO.bind ?_ (fun _ => ?_))
   | exact tailraceref01_CmpRow.mono _ _ _
   | exact LeO.none _
   | refine LeO.ite ?_ ?_
   | refine LeO.bind ?_ (fun _ => ?_)
set_option maxHeartbeats 8000000 in
set_option maxRecDepth 100000 in
theorem tailraceref01_Same.calls (k : Nat) (A0 : Option Addr) (c0 : Nat) (l0 : List (S23)) (A1 : Option Addr) (c1 : Nat) (l1 : List (S23)) (r : Bool) (w : World) (hr0 : Kd.C k23 w A0 l0.length l0) (hc0 : l0.length ≤ c0) (hr1 : Kd.C k23 w A1 l1.length l1) (hc1 : l1.length ≤ c1) (h : tailraceref01_Same.f k l0 l1 = some r) :
  Calls Try.prog 6 #[.slice A0 l0.length c0, .slice A1 l1.length c1] w fun e w' => e = .returned (.bool r) ∧ Below w.heap.size w w' := by
 have HR0 := Aside0.mk hr0
 have HC0 := Aside0.mk hc0
 clear hr0 hc0
 have HR1 := Aside0.mk hr1
 have HC1 := Aside0.mk hc1
 clear hr1 hc1
 have HB := Aside0.mk (Below.refl w.heap.size w)
 have H : ((tailraceref01_CmpRow.f k l0 l1).bind fun t213 => (some (t213 == 0))) = some r := h
 clear h
 replace H := Option.bind_eq_some_iff.mp H
 obtain ⟨t213, A30, H⟩ := H
 replace H : (some (t213 == 0)) = some r := H
 have A3 := Aside0.mk A30
 clear A30
 obtain rfl := Option.some.inj H
 go_enter Try.func6, Try.ntmps6
 go_wp2_with (first | ((with_reducible refine gate_callee (f := 17) rfl ?_); refine goesL_ (some 7) rfl rfl Try.func17 (by kernel_rfl) rfl #[.slice A0 l0.length c0, .slice A1 l1.length c1] rfl (by (try simp only [List.map_toArray, List.map_cons, List.map_nil]); first | done | rfl | (simp only [List.length_drop, List.length_take]; rfl)) ?_; (with_reducible refine (tailraceref01_CmpRow.calls k _ _ l0 _ _ l1 t213 _ ?side1 ?side2 ?side3 ?side4 A3.out).mono ?_); (case side1 => repeat (first | exact HR0.out | (with_reducible refine Kd.C_alloc ?_ _) | (with_reducible refine Kd.C_drewN ?_ _) | (with_reducible refine Kd.C_drew ?_))); (case side2 => exact HC0.out); (case side3 => repeat (first | exact HR1.out | (with_reducible refine Kd.C_alloc ?_ _) | (with_reducible refine Kd.C_drewN ?_ _) | (with_reducible refine Kd.C_drew ?_))); (case side4 => exact HC1.out); rintro e w4 ⟨rfl, hb⟩; refine ⟨_, rfl, ?_⟩; have n0_ := Aside0.mk (below_step qh_ hb); clear HB; have HB := n0_; clear n0_; (try clear hb); (try clear hb2); (try clear hk); (try clear hi)))
 go_ret
 exact ⟨by first | rfl | (simp [errW_none, errW_some] <;> rfl) | (simp [*, errW_none, errW_some] <;> rfl), qh_⟩
end Go.Proofs.Ytgapgdnbgimdlaa.PA
end
