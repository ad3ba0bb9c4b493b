/-
Layer 12's opening calls, gone through once by the second reading.
-/
import Derived.Test.YtoebckilnicafaaGreatTnA
set_option linter.unusedVariables false
namespace Go.Rx
open Go.Proofs Go.RowKit
set_option maxRecDepth 100000
theorem awake12_ran : isV (.bool true) (runCall Tryz.prog sumT 100000 14 [] ⟨0, .nil⟩) = true := by kernel_rfl
theorem awake12_calls (w : World) : Calls Tryz.prog 14 ⟨[]⟩ w fun e w' => e = .returned (.bool true) ∧ Below w.heap.size w w' :=
  ran_calls (call := runCall Tryz.prog sumT 100000) (sumT_ok 100000) awake12_ran rfl w
def sumW : FuncId → Option Caller := fun f => bif Nat.beq f 14 then some (fun _ args s => match args with | [] => some (.ret (.bool true) s) | _ => none) else none
theorem sumW_ok (n : Nat) : CallOK Tryz.prog (runCall Tryz.prog sumW n) :=
  runCall_run (fun f g h args s r hr B ρ w args' hrel hvs => by
    unfold sumW at h
    rw [cond_eq_ite] at h
    split at h
    · rename_i hf
      have hf : f = 14 := by simpa using hf
      subst hf
      cases h
      cases args with
      | nil =>
        cases hr
        cases hvs
        exact sum_ok rfl awake12_calls B ρ s w hrel
      | cons _ _ => cases hr
    · cases h) (fun _ hc => drawOK mixed hc) n
theorem args_calls {P : Program} {call : Caller} (hc : CallOK P call) {f : FuncId} {args : List Value} {v : Value} (h : isV v (call f args ⟨0, .nil⟩) = true) (hv : closedV v = true) (ha : closedVs args = true) (w : World) :
    Calls P f ⟨args⟩ w fun e w' => e = .returned v ∧ Below w.heap.size w w' := by
  obtain ⟨s, hs⟩ := isV_some h
  refine (hc f args _ _ hs w.heap.size _ w args (rel_none w) (closedVs_self _ ha)).mono fun e w' he => ?_
  obtain ⟨ρ', v', rfl, st, hvr⟩ := he
  rw [closedV_eq hvr hv]
  exact ⟨rfl, st.below⟩
end Go.Rx
