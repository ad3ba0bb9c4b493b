/-
A closed fact of TreeNames' program.
-/
import Derived.Test.YtoebckilnicafaaGreatRows
import Derived.JoinedOf
namespace Go.Proofs.YtoebckilnicafaaGreat.treeNames
theorem rec : (Rows.treeNamesRow.recurses == Tryz.prog.recurses 3) = true := by kernel_rfl
end Go.Proofs.YtoebckilnicafaaGreat.treeNames
