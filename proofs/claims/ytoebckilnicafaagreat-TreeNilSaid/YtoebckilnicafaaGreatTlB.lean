/-
TreeNil, gone through by the second reading, whatever its arguments.
-/
import Derived.Test.YtoebckilnicafaaGreatTlW
set_option linter.unusedVariables false
namespace Go.Proofs.YtoebckilnicafaaGreat.treeNil
open Go.Rx
section
set_option maxRecDepth 100000
theorem ran0 (s : ByteArray) : isV (.bool true) (runCall Tryz.prog sumW 1000 4 [.string s, .int .i64 (.ofNat 0)] ⟨0, .nil⟩) = true := by kernel_rfl
theorem ran1 (s : ByteArray) (m : Nat) : isV (.bool true) (runCall Tryz.prog sumW 1000 4 [.string s, .int .i64 (.ofNat (m + 1))] ⟨0, .nil⟩) = true := by kernel_rfl
theorem ran2 (s : ByteArray) : isV (.bool true) (runCall Tryz.prog sumW 1000 4 [.string s, .int .i64 (.negSucc 0)] ⟨0, .nil⟩) = true := by kernel_rfl
theorem ran3 (s : ByteArray) (m : Nat) : isV (.bool true) (runCall Tryz.prog sumW 1000 4 [.string s, .int .i64 (.negSucc (m + 1))] ⟨0, .nil⟩) = true := by kernel_rfl
end
theorem ran (s : ByteArray) : ∀ n : Int, isV (.bool true) (runCall Tryz.prog sumW 1000 4 [.string s, .int .i64 n] ⟨0, .nil⟩) = true
  | .ofNat 0 => ran0 s
  | .ofNat (m + 1) => ran1 s m
  | .negSucc 0 => ran2 s
  | .negSucc (m + 1) => ran3 s m
end Go.Proofs.YtoebckilnicafaaGreat.treeNil
