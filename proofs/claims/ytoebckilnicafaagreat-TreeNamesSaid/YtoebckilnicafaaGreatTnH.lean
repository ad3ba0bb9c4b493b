/-
TreeNames returns true. No condition.
-/
import Derived.Test.YtoebckilnicafaaGreatRows
import Derived.Test.YtoebckilnicafaaGreatTnA
import Derived.Test.YtoebckilnicafaaGreatTnB
import Derived.Test.YtoebckilnicafaaGreatTnJ
import Derived.WalkKit
import Derived.ProofKit
import Derived.OpenShut
import Derived.ShutString
import Derived.ChangeOld
import Derived.Below
import Derived.SizedLaws
namespace Go.Proofs.YtoebckilnicafaaGreat.treeNames
open Go.ChangeShapes Go.WideShapes Go.ChangeAt Go.RowKit Go.Rx
set_option linter.unusedVariables false
theorem own : ownKnob Tryz.prog.godebug = none := by kernel_rfl
theorem sums : sumB = sumT := rfl
theorem walked (W : World) : Calls Tryz.prog 3 ⟨[]⟩ W fun e W' => e = .returned (.bool true) ∧ Below W.heap.size W W' :=
  ran_calls (call := runCall Tryz.prog sumB 100000) (sums ▸ sumT_ok 100000) treeNames_ran rfl W
set_option maxRecDepth 100000 in
theorem lifted (os : Os) (started : os.Started) (H : Type) (enc : TypeId × Value → H) :
    ReturnsInHanded {} Tryz.checked os 3 .any (Rows.treeNamesSpec.pre6 enc Tryz.prog Tryz.f3 Rows.treeNamesRow.domain false) (Rows.treeNamesSpec.post enc Tryz.prog Tryz.f3 false true false false) := by
  refine returnsInHanded_of_change_sized (C := Tryz.checked) own started (by kernel_rfl) Tryz.func3
    (ChangeSpec.witness6 (enc := enc) (C := Tryz.checked) false ⟨#[], #[], []⟩ 8 (by kernel_rfl) (by kernel_rfl) (by kernel_rfl) (by kernel_rfl)) ?_
  intro W base args ds gs before hval0 hW hcnd hsz0 _
  have hW' := hW
  obtain ⟨p, q, hA0, hV, rfl, hfz, hnd⟩ := hW
  have hA : DataW.TrodAll enc Tryz.prog W 0 (fun _ => true) true Tryz.f3.params.toList args.toList ds p := hA0
  rw [Tryz.params3] at hA
  obtain ⟨hargs, rfl, rfl⟩ := trodAll_nil hA
  obtain rfl : args = #[] := by cases args; simp_all
  obtain ⟨rfl, rfl⟩ := trodVars_none hV
  clear hA0 hval0 hsz0
  refine (walked W).mono fun e W' ⟨he, bel⟩ => ?_
  subst he
  exact ⟨_, rfl, _, _, _, [], _, [], hW', trodAll_mk1 (shut_bool Tryz.underlying4 _), trodAll_mk0, rfl, bel.frame _, fun h => by cases h⟩
theorem over : Rows.treeNamesRow.holds Tryz.pinned (OpenSpec.ofChange Rows.treeNamesSpec) :=
  OpenClaim.holds_of_wide 3 Tryz.f3 rfl rfl rfl rfl rfl rfl rfl ⟨rfl, rfl, rfl, rfl, rfl⟩ rfl rfl rfl rfl rfl name Tryz.func3 facts
    (of_decide_eq_true (by kernel_rfl)) (by unfold Func.isWrapper; first | (rw [if_pos (by decide +kernel)]; kernel_rfl) | (rw [if_neg (by decide +kernel)]; exact ⟨rfl, rfl⟩))
    (fun os started H enc _ => lifted os started H enc)
theorem proved : Rows.TreeNamesSaid := over
#print axioms proved
end Go.Proofs.YtoebckilnicafaaGreat.treeNames
