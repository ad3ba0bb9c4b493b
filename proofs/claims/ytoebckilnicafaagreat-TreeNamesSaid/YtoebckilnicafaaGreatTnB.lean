/-
The law of the tree's names, gone through by the second reading.
-/
import Derived.Test.YtoebckilnicafaaGreatTnT
set_option linter.unusedVariables false
namespace Go.Rx
open Go.Proofs
def sumB : FuncId → Option Caller := fun f => bif Nat.beq f 335 then some (fun _ args s => match args with | [] => some (.ret tabV s) | _ => none) else none
set_option maxRecDepth 100000
theorem treeNames_ran : isV (.bool true) (runCall Tryz.prog sumB 100000 3 [] ⟨0, .nil⟩) = true := by kernel_rfl
end Go.Rx
