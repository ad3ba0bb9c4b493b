/-
  No cell of these rows narrows 'for every input' (looked for: loops, veiled, ifaces, maps, wideKeys, modest, calm, conditions, laid).
  DERIVED. THE GIVEN ROWS OF THIS SEAT. 11 by the template 'for every input the law returns true; each argument reads behind the call as it read before'; 0 by the template 'total and deterministic' (their statements: YtoebckilnicafaaGreatTotals.lean).
  GIVEN WITH THE SEED: the statements are not yours to turn. If you find one false, say at which input.
  Laid BY PROGRAM, IN A SANDBOX (cutbox-rows.mjs): the forced cells as the released guide's own fill.sh prints them over the translation 64fc3b3906a31d31… (all of the seat's roots in one cut). By AI agents, Wed Nov 11 2026. No macro, syntax, notation, axiom, sorry.
-/
import Derived.Test.YtoebckilnicafaaGreatChecked
import GoSem.Claim
import GoSem.ClaimJoined
import GoSem.ClaimMapViews
import Derived.JoinedTies
import Derived.KernelRfl
namespace Go.Proofs.YtoebckilnicafaaGreat
/- THE CELL 'sum', in the pinned program and in every row, IS THE sha256 OF THE DUMP (.gsa) THAT YtoebckilnicafaaGreatProg.lean LOADS. Nothing in Lean hashes anything: it is a label: what it is worth is what the hold of that sum in a sandbox is worth. -/
noncomputable def Tryz.pinned : Pinned := { name := "ytoebckilnicafaagreat", sum := "64fc3b3906a31d314ec3e88f044605192edbdc8f310d8603c0121b7ecff524cf", checked := Tryz.checked }
namespace Rows
def none {H : Type} : Left H := { results := [], args := [] }

/-- 'tailracelaw12.TreeNames': WHATEVER THE INPUT: true; the input reads as it did. -/
def treeNamesSpec : ChangeSpec := { name := "treeNames", fn := fun _ => fun
  | [] => { results := [.lit (.bool true)], args := [] }
  | _ => none }
def treeNamesRow : OpenClaim := { program := "ytoebckilnicafaagreat", sum := "64fc3b3906a31d314ec3e88f044605192edbdc8f310d8603c0121b7ecff524cf", func := "tailrace/tailracelaw12.TreeNames", spec := "treeNames", inPlace := ["slices.overlaps[int]"], unfollowed := true, recurses := true, apart := false }
def TreeNamesSaid : Prop := treeNamesRow.holds Tryz.pinned (OpenSpec.ofChange treeNamesSpec)

/-- ITS FALSE NEIGHBOUR: 'it returns false'. Refute it at one input. -/
def treeNamesWrong : ChangeSpec := { name := "treeNames", fn := fun _ => fun
  | [] => { results := [.lit (.bool false)], args := [] }
  | _ => none }
def TreeNamesWrongFalsely : Prop := treeNamesRow.holds Tryz.pinned (OpenSpec.ofChange treeNamesWrong)

/-- 'tailracelaw12.TreeNil': WHATEVER THE INPUT: true; the input reads as it did. -/
def treeNilSpec : ChangeSpec := { name := "treeNil", fn := fun _ => fun
  | [d1, d2] => { results := [.lit (.bool true)], args := [d1, d2] }
  | _ => none }
def treeNilRow : OpenClaim := { program := "ytoebckilnicafaagreat", sum := "64fc3b3906a31d314ec3e88f044605192edbdc8f310d8603c0121b7ecff524cf", func := "tailrace/tailracelaw12.TreeNil", spec := "treeNil", inPlace := ["slices.overlaps[int]"], unfollowed := true, recurses := true, apart := false }
def TreeNilSaid : Prop := treeNilRow.holds Tryz.pinned (OpenSpec.ofChange treeNilSpec)

/-- ITS FALSE NEIGHBOUR: 'it returns false'. Refute it at one input. -/
def treeNilWrong : ChangeSpec := { name := "treeNil", fn := fun _ => fun
  | [d1, d2] => { results := [.lit (.bool false)], args := [d1, d2] }
  | _ => none }
def TreeNilWrongFalsely : Prop := treeNilRow.holds Tryz.pinned (OpenSpec.ofChange treeNilWrong)

/-- 'tailracelaw19.PlanNames': WHATEVER THE INPUT: true; the input reads as it did. -/
def planNamesSpec : ChangeSpec := { name := "planNames", fn := fun _ => fun
  | [] => { results := [.lit (.bool true)], args := [] }
  | _ => none }
def planNamesRow : OpenClaim := { program := "ytoebckilnicafaagreat", sum := "64fc3b3906a31d314ec3e88f044605192edbdc8f310d8603c0121b7ecff524cf", func := "tailrace/tailracelaw19.PlanNames", spec := "planNames", inPlace := ["internal/bytealg.IndexByteString", "internal/bytealg.IndexString"], unfollowed := true, recurses := true, named := ["internal/bytealg.MaxLen"], apart := false }
def PlanNamesSaid : Prop := planNamesRow.holds Tryz.pinned (OpenSpec.ofChange planNamesSpec)

/-- ITS FALSE NEIGHBOUR: 'it returns false'. Refute it at one input. -/
def planNamesWrong : ChangeSpec := { name := "planNames", fn := fun _ => fun
  | [] => { results := [.lit (.bool false)], args := [] }
  | _ => none }
def PlanNamesWrongFalsely : Prop := planNamesRow.holds Tryz.pinned (OpenSpec.ofChange planNamesWrong)

/-- 'tailracelaw13.ScanNames': WHATEVER THE INPUT: true; the input reads as it did. -/
def scanNamesSpec : ChangeSpec := { name := "scanNames", fn := fun _ => fun
  | [] => { results := [.lit (.bool true)], args := [] }
  | _ => none }
def scanNamesRow : OpenClaim := { program := "ytoebckilnicafaagreat", sum := "64fc3b3906a31d314ec3e88f044605192edbdc8f310d8603c0121b7ecff524cf", func := "tailrace/tailracelaw13.ScanNames", spec := "scanNames", inPlace := ["slices.overlaps[int]"], unfollowed := true, recurses := true, apart := false }
def ScanNamesSaid : Prop := scanNamesRow.holds Tryz.pinned (OpenSpec.ofChange scanNamesSpec)

/-- ITS FALSE NEIGHBOUR: 'it returns false'. Refute it at one input. -/
def scanNamesWrong : ChangeSpec := { name := "scanNames", fn := fun _ => fun
  | [] => { results := [.lit (.bool false)], args := [] }
  | _ => none }
def ScanNamesWrongFalsely : Prop := scanNamesRow.holds Tryz.pinned (OpenSpec.ofChange scanNamesWrong)

/-- 'tailracelaw13.ScanNil': WHATEVER THE INPUT: true; the input reads as it did. -/
def scanNilSpec : ChangeSpec := { name := "scanNil", fn := fun _ => fun
  | [d1, d2] => { results := [.lit (.bool true)], args := [d1, d2] }
  | _ => none }
def scanNilRow : OpenClaim := { program := "ytoebckilnicafaagreat", sum := "64fc3b3906a31d314ec3e88f044605192edbdc8f310d8603c0121b7ecff524cf", func := "tailrace/tailracelaw13.ScanNil", spec := "scanNil", inPlace := ["slices.overlaps[int]"], unfollowed := true, recurses := true, apart := false }
def ScanNilSaid : Prop := scanNilRow.holds Tryz.pinned (OpenSpec.ofChange scanNilSpec)

/-- ITS FALSE NEIGHBOUR: 'it returns false'. Refute it at one input. -/
def scanNilWrong : ChangeSpec := { name := "scanNil", fn := fun _ => fun
  | [d1, d2] => { results := [.lit (.bool false)], args := [d1, d2] }
  | _ => none }
def ScanNilWrongFalsely : Prop := scanNilRow.holds Tryz.pinned (OpenSpec.ofChange scanNilWrong)

/-- 'tailracelaw14.FileNames': WHATEVER THE INPUT: true; the input reads as it did. -/
def fileNamesSpec : ChangeSpec := { name := "fileNames", fn := fun _ => fun
  | [] => { results := [.lit (.bool true)], args := [] }
  | _ => none }
def fileNamesRow : OpenClaim := { program := "ytoebckilnicafaagreat", sum := "64fc3b3906a31d314ec3e88f044605192edbdc8f310d8603c0121b7ecff524cf", func := "tailrace/tailracelaw14.FileNames", spec := "fileNames", inPlace := ["slices.overlaps[int]"], unfollowed := true, recurses := true, apart := false }
def FileNamesSaid : Prop := fileNamesRow.holds Tryz.pinned (OpenSpec.ofChange fileNamesSpec)

/-- ITS FALSE NEIGHBOUR: 'it returns false'. Refute it at one input. -/
def fileNamesWrong : ChangeSpec := { name := "fileNames", fn := fun _ => fun
  | [] => { results := [.lit (.bool false)], args := [] }
  | _ => none }
def FileNamesWrongFalsely : Prop := fileNamesRow.holds Tryz.pinned (OpenSpec.ofChange fileNamesWrong)

/-- 'tailracelaw14.FileNil': WHATEVER THE INPUT: true; the input reads as it did. -/
def fileNilSpec : ChangeSpec := { name := "fileNil", fn := fun _ => fun
  | [d1, d2] => { results := [.lit (.bool true)], args := [d1, d2] }
  | _ => none }
def fileNilRow : OpenClaim := { program := "ytoebckilnicafaagreat", sum := "64fc3b3906a31d314ec3e88f044605192edbdc8f310d8603c0121b7ecff524cf", func := "tailrace/tailracelaw14.FileNil", spec := "fileNil", inPlace := ["slices.overlaps[int]"], unfollowed := true, recurses := true, apart := false }
def FileNilSaid : Prop := fileNilRow.holds Tryz.pinned (OpenSpec.ofChange fileNilSpec)

/-- ITS FALSE NEIGHBOUR: 'it returns false'. Refute it at one input. -/
def fileNilWrong : ChangeSpec := { name := "fileNil", fn := fun _ => fun
  | [d1, d2] => { results := [.lit (.bool false)], args := [d1, d2] }
  | _ => none }
def FileNilWrongFalsely : Prop := fileNilRow.holds Tryz.pinned (OpenSpec.ofChange fileNilWrong)

/-- 'tailracelaw21.FsckNil': WHATEVER THE INPUT: true; the input reads as it did. -/
def fsckNilSpec : ChangeSpec := { name := "fsckNil", fn := fun _ => fun
  | [d] => { results := [.lit (.bool true)], args := [d] }
  | _ => none }
def fsckNilRow : OpenClaim := { program := "ytoebckilnicafaagreat", sum := "64fc3b3906a31d314ec3e88f044605192edbdc8f310d8603c0121b7ecff524cf", func := "tailrace/tailracelaw21.FsckNil", spec := "fsckNil", inPlace := ["slices.overlaps[int]", "internal/bytealg.IndexByteString", "internal/bytealg.IndexString"], unfollowed := true, recurses := true, named := ["internal/bytealg.MaxLen"], apart := false }
def FsckNilSaid : Prop := fsckNilRow.holds Tryz.pinned (OpenSpec.ofChange fsckNilSpec)

/-- ITS FALSE NEIGHBOUR: 'it returns false'. Refute it at one input. -/
def fsckNilWrong : ChangeSpec := { name := "fsckNil", fn := fun _ => fun
  | [d] => { results := [.lit (.bool false)], args := [d] }
  | _ => none }
def FsckNilWrongFalsely : Prop := fsckNilRow.holds Tryz.pinned (OpenSpec.ofChange fsckNilWrong)

/-- 'tailracelaw20.EngineNames': WHATEVER THE INPUT: true; the input reads as it did. -/
def engineNamesSpec : ChangeSpec := { name := "engineNames", fn := fun _ => fun
  | [] => { results := [.lit (.bool true)], args := [] }
  | _ => none }
def engineNamesRow : OpenClaim := { program := "ytoebckilnicafaagreat", sum := "64fc3b3906a31d314ec3e88f044605192edbdc8f310d8603c0121b7ecff524cf", func := "tailrace/tailracelaw20.EngineNames", spec := "engineNames", inPlace := ["slices.overlaps[int]", "internal/bytealg.IndexByteString", "internal/bytealg.IndexString"], unfollowed := true, recurses := true, named := ["internal/bytealg.MaxLen"], apart := false }
def EngineNamesSaid : Prop := engineNamesRow.holds Tryz.pinned (OpenSpec.ofChange engineNamesSpec)

/-- ITS FALSE NEIGHBOUR: 'it returns false'. Refute it at one input. -/
def engineNamesWrong : ChangeSpec := { name := "engineNames", fn := fun _ => fun
  | [] => { results := [.lit (.bool false)], args := [] }
  | _ => none }
def EngineNamesWrongFalsely : Prop := engineNamesRow.holds Tryz.pinned (OpenSpec.ofChange engineNamesWrong)

/-- 'tailracelaw20.EngineNil': WHATEVER THE INPUT: true; the input reads as it did. -/
def engineNilSpec : ChangeSpec := { name := "engineNil", fn := fun _ => fun
  | [d1, d2] => { results := [.lit (.bool true)], args := [d1, d2] }
  | _ => none }
def engineNilRow : OpenClaim := { program := "ytoebckilnicafaagreat", sum := "64fc3b3906a31d314ec3e88f044605192edbdc8f310d8603c0121b7ecff524cf", func := "tailrace/tailracelaw20.EngineNil", spec := "engineNil", inPlace := ["slices.overlaps[int]", "internal/bytealg.IndexByteString", "internal/bytealg.IndexString"], unfollowed := true, recurses := true, named := ["internal/bytealg.MaxLen"], apart := false }
def EngineNilSaid : Prop := engineNilRow.holds Tryz.pinned (OpenSpec.ofChange engineNilSpec)

/-- ITS FALSE NEIGHBOUR: 'it returns false'. Refute it at one input. -/
def engineNilWrong : ChangeSpec := { name := "engineNil", fn := fun _ => fun
  | [d1, d2] => { results := [.lit (.bool false)], args := [d1, d2] }
  | _ => none }
def EngineNilWrongFalsely : Prop := engineNilRow.holds Tryz.pinned (OpenSpec.ofChange engineNilWrong)

/-- 'tailracelaw22.ScriptNames': WHATEVER THE INPUT: true; the input reads as it did. -/
def scriptNamesSpec : ChangeSpec := { name := "scriptNames", fn := fun _ => fun
  | [] => { results := [.lit (.bool true)], args := [] }
  | _ => none }
def scriptNamesRow : OpenClaim := { program := "ytoebckilnicafaagreat", sum := "64fc3b3906a31d314ec3e88f044605192edbdc8f310d8603c0121b7ecff524cf", func := "tailrace/tailracelaw22.ScriptNames", spec := "scriptNames", inPlace := ["slices.overlaps[int]", "internal/bytealg.IndexByteString", "internal/bytealg.IndexString"], unfollowed := true, recurses := true, named := ["internal/bytealg.MaxLen"], apart := false }
def ScriptNamesSaid : Prop := scriptNamesRow.holds Tryz.pinned (OpenSpec.ofChange scriptNamesSpec)

/-- ITS FALSE NEIGHBOUR: 'it returns false'. Refute it at one input. -/
def scriptNamesWrong : ChangeSpec := { name := "scriptNames", fn := fun _ => fun
  | [] => { results := [.lit (.bool false)], args := [] }
  | _ => none }
def ScriptNamesWrongFalsely : Prop := scriptNamesRow.holds Tryz.pinned (OpenSpec.ofChange scriptNamesWrong)

/- THE SECOND FORM. 'bulk': how many values and letters a reading holds, each counted each time it is reached (what is shared counts as often as it is met; a slice's spare places count too). A statement '..UptoSaid' is the law's where the arguments, and the package variables that the reading takes, are together of bulk at most 1048576: NARROWER than '..Said'. Prove '..Said' where nothing that the law and all that it calls make is longer than what came in: it says more and counts as full. Else prove '..UptoSaid'. A law counts once. -/
mutual
def uptoBulk {H : Type} : DataW H → Nat
  | .lit (.string bytes) => bytes.length + 1
  | .lit _ => 1
  | .nil => 1
  | .ptr d => uptoBulk d + 1
  | .slice elems spare => uptoBulkAll elems + uptoBulkAll spare + 1
  | .agg parts => uptoBulkAll parts + 1
  | .iface _ d => uptoBulk d + 1
  | .map entries => uptoBulkEntries entries + 1
  | .held _ => 1
def uptoBulkAll {H : Type} : List (DataW H) → Nat
  | [] => 0
  | d :: r => uptoBulk d + uptoBulkAll r
def uptoBulkEntries {H : Type} : List (Lit × DataW H) → Nat
  | [] => 0
  | x :: r => uptoBulkEntry x + uptoBulkEntries r
def uptoBulkEntry {H : Type} : Lit × DataW H → Nat
  | (.string bytes, d) => bytes.length + uptoBulk d + 1
  | (_, d) => uptoBulk d + 1
 end
def uptoSmall : (H : Type) → List (DataW H) → Bool := fun _ ds => decide (uptoBulkAll ds ≤ 1048576)
def OpenSpec.upto (s : _root_.Go.ChangeSpec) : _root_.Go.OpenSpec := { _root_.Go.OpenSpec.ofChange s with cond := some uptoSmall }

/-- 'tailracelaw12.TreeNames', WHERE WHAT IT READS IS OF BULK AT MOST 1048576: true; the input reads as it did. -/
def treeNamesUptoRow : OpenClaim := { program := "ytoebckilnicafaagreat", sum := "64fc3b3906a31d314ec3e88f044605192edbdc8f310d8603c0121b7ecff524cf", func := "tailrace/tailracelaw12.TreeNames", spec := "treeNames", inPlace := ["slices.overlaps[int]"], unfollowed := true, recurses := true, apart := false, narrowed := true }
def TreeNamesUptoSaid : Prop := treeNamesUptoRow.holds Tryz.pinned (OpenSpec.upto treeNamesSpec)

/-- 'tailracelaw12.TreeNil', WHERE WHAT IT READS IS OF BULK AT MOST 1048576: true; the input reads as it did. -/
def treeNilUptoRow : OpenClaim := { program := "ytoebckilnicafaagreat", sum := "64fc3b3906a31d314ec3e88f044605192edbdc8f310d8603c0121b7ecff524cf", func := "tailrace/tailracelaw12.TreeNil", spec := "treeNil", inPlace := ["slices.overlaps[int]"], unfollowed := true, recurses := true, apart := false, narrowed := true }
def TreeNilUptoSaid : Prop := treeNilUptoRow.holds Tryz.pinned (OpenSpec.upto treeNilSpec)

/-- 'tailracelaw19.PlanNames', WHERE WHAT IT READS IS OF BULK AT MOST 1048576: true; the input reads as it did. -/
def planNamesUptoRow : OpenClaim := { program := "ytoebckilnicafaagreat", sum := "64fc3b3906a31d314ec3e88f044605192edbdc8f310d8603c0121b7ecff524cf", func := "tailrace/tailracelaw19.PlanNames", spec := "planNames", inPlace := ["internal/bytealg.IndexByteString", "internal/bytealg.IndexString"], unfollowed := true, recurses := true, named := ["internal/bytealg.MaxLen"], apart := false, narrowed := true }
def PlanNamesUptoSaid : Prop := planNamesUptoRow.holds Tryz.pinned (OpenSpec.upto planNamesSpec)

/-- 'tailracelaw13.ScanNames', WHERE WHAT IT READS IS OF BULK AT MOST 1048576: true; the input reads as it did. -/
def scanNamesUptoRow : OpenClaim := { program := "ytoebckilnicafaagreat", sum := "64fc3b3906a31d314ec3e88f044605192edbdc8f310d8603c0121b7ecff524cf", func := "tailrace/tailracelaw13.ScanNames", spec := "scanNames", inPlace := ["slices.overlaps[int]"], unfollowed := true, recurses := true, apart := false, narrowed := true }
def ScanNamesUptoSaid : Prop := scanNamesUptoRow.holds Tryz.pinned (OpenSpec.upto scanNamesSpec)

/-- 'tailracelaw13.ScanNil', WHERE WHAT IT READS IS OF BULK AT MOST 1048576: true; the input reads as it did. -/
def scanNilUptoRow : OpenClaim := { program := "ytoebckilnicafaagreat", sum := "64fc3b3906a31d314ec3e88f044605192edbdc8f310d8603c0121b7ecff524cf", func := "tailrace/tailracelaw13.ScanNil", spec := "scanNil", inPlace := ["slices.overlaps[int]"], unfollowed := true, recurses := true, apart := false, narrowed := true }
def ScanNilUptoSaid : Prop := scanNilUptoRow.holds Tryz.pinned (OpenSpec.upto scanNilSpec)

/-- 'tailracelaw14.FileNames', WHERE WHAT IT READS IS OF BULK AT MOST 1048576: true; the input reads as it did. -/
def fileNamesUptoRow : OpenClaim := { program := "ytoebckilnicafaagreat", sum := "64fc3b3906a31d314ec3e88f044605192edbdc8f310d8603c0121b7ecff524cf", func := "tailrace/tailracelaw14.FileNames", spec := "fileNames", inPlace := ["slices.overlaps[int]"], unfollowed := true, recurses := true, apart := false, narrowed := true }
def FileNamesUptoSaid : Prop := fileNamesUptoRow.holds Tryz.pinned (OpenSpec.upto fileNamesSpec)

/-- 'tailracelaw14.FileNil', WHERE WHAT IT READS IS OF BULK AT MOST 1048576: true; the input reads as it did. -/
def fileNilUptoRow : OpenClaim := { program := "ytoebckilnicafaagreat", sum := "64fc3b3906a31d314ec3e88f044605192edbdc8f310d8603c0121b7ecff524cf", func := "tailrace/tailracelaw14.FileNil", spec := "fileNil", inPlace := ["slices.overlaps[int]"], unfollowed := true, recurses := true, apart := false, narrowed := true }
def FileNilUptoSaid : Prop := fileNilUptoRow.holds Tryz.pinned (OpenSpec.upto fileNilSpec)

/-- 'tailracelaw21.FsckNil', WHERE WHAT IT READS IS OF BULK AT MOST 1048576: true; the input reads as it did. -/
def fsckNilUptoRow : OpenClaim := { program := "ytoebckilnicafaagreat", sum := "64fc3b3906a31d314ec3e88f044605192edbdc8f310d8603c0121b7ecff524cf", func := "tailrace/tailracelaw21.FsckNil", spec := "fsckNil", inPlace := ["slices.overlaps[int]", "internal/bytealg.IndexByteString", "internal/bytealg.IndexString"], unfollowed := true, recurses := true, named := ["internal/bytealg.MaxLen"], apart := false, narrowed := true }
def FsckNilUptoSaid : Prop := fsckNilUptoRow.holds Tryz.pinned (OpenSpec.upto fsckNilSpec)

/-- 'tailracelaw20.EngineNames', WHERE WHAT IT READS IS OF BULK AT MOST 1048576: true; the input reads as it did. -/
def engineNamesUptoRow : OpenClaim := { program := "ytoebckilnicafaagreat", sum := "64fc3b3906a31d314ec3e88f044605192edbdc8f310d8603c0121b7ecff524cf", func := "tailrace/tailracelaw20.EngineNames", spec := "engineNames", inPlace := ["slices.overlaps[int]", "internal/bytealg.IndexByteString", "internal/bytealg.IndexString"], unfollowed := true, recurses := true, named := ["internal/bytealg.MaxLen"], apart := false, narrowed := true }
def EngineNamesUptoSaid : Prop := engineNamesUptoRow.holds Tryz.pinned (OpenSpec.upto engineNamesSpec)

/-- 'tailracelaw20.EngineNil', WHERE WHAT IT READS IS OF BULK AT MOST 1048576: true; the input reads as it did. -/
def engineNilUptoRow : OpenClaim := { program := "ytoebckilnicafaagreat", sum := "64fc3b3906a31d314ec3e88f044605192edbdc8f310d8603c0121b7ecff524cf", func := "tailrace/tailracelaw20.EngineNil", spec := "engineNil", inPlace := ["slices.overlaps[int]", "internal/bytealg.IndexByteString", "internal/bytealg.IndexString"], unfollowed := true, recurses := true, named := ["internal/bytealg.MaxLen"], apart := false, narrowed := true }
def EngineNilUptoSaid : Prop := engineNilUptoRow.holds Tryz.pinned (OpenSpec.upto engineNilSpec)

/-- 'tailracelaw22.ScriptNames', WHERE WHAT IT READS IS OF BULK AT MOST 1048576: true; the input reads as it did. -/
def scriptNamesUptoRow : OpenClaim := { program := "ytoebckilnicafaagreat", sum := "64fc3b3906a31d314ec3e88f044605192edbdc8f310d8603c0121b7ecff524cf", func := "tailrace/tailracelaw22.ScriptNames", spec := "scriptNames", inPlace := ["slices.overlaps[int]", "internal/bytealg.IndexByteString", "internal/bytealg.IndexString"], unfollowed := true, recurses := true, named := ["internal/bytealg.MaxLen"], apart := false, narrowed := true }
def ScriptNamesUptoSaid : Prop := scriptNamesUptoRow.holds Tryz.pinned (OpenSpec.upto scriptNamesSpec)

end Rows
end Go.Proofs.YtoebckilnicafaaGreat
