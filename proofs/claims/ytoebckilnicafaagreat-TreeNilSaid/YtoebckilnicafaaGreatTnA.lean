/-
What the second reading tells of a closed call, and the checking sums' table told once.
-/
import Derived.Test.YtoebckilnicafaaGreatTnT
import Derived.Test.YtoebckilnicafaaGreatRxR
set_option linter.unusedVariables false
namespace Go.Rx
open Go.Proofs Go.RowKit
section
variable {P : Program} {call : Caller}
theorem rel_none (w : World) : Rel w.heap.size (fun _ => none) ⟨0, .nil⟩ w :=
  ⟨fun i q h => (by cases h), fun i o h => (by cases h), fun i j q r h => (by cases h), Nat.le_refl _⟩
theorem isV_some {v : Value} {r : Option CR} (h : isV v r = true) : ∃ s, r = some (.ret v s) := by
  unfold isV at h
  split at h
  · exact ⟨_, by rw [sameV_eq _ _ _ h]⟩
  · cases h
theorem ran_calls (hc : CallOK P call) {f : FuncId} {v : Value} (h : isV v (call f [] ⟨0, .nil⟩) = true) (hv : closedV v = true) (w : World) : Calls P f ⟨[]⟩ w fun e w' => e = .returned v ∧ Below w.heap.size w w' := by
  obtain ⟨s, hs⟩ := isV_some h
  refine (hc f [] _ _ hs w.heap.size _ w [] (rel_none w) .nil).mono fun e w' he => ?_
  obtain ⟨ρ', v', rfl, st, hvr⟩ := he
  rw [closedV_eq hvr hv]
  exact ⟨rfl, st.below⟩
theorem sum_ok {f : FuncId} {v : Value} (hv : closedV v = true) (h : ∀ w : World, Calls P f ⟨[]⟩ w fun e w' => e = .returned v ∧ Below w.heap.size w w') (B : Nat) (ρ : Ren) (s : S) (w : World) (hr : Rel B ρ s w) :
    Calls P f ⟨[]⟩ w fun e w' => ∃ ρ' v', e = .returned v' ∧ Step B ρ s w ρ' s w' ∧ VR ρ' v v' := by
  refine (h w).mono fun e w' ⟨he, hb⟩ => ⟨ρ, v, he, ⟨.refl _, ⟨fun i q hq => ⟨(hr.dom i q hq).1, Nat.lt_of_lt_of_le (hr.dom i q hq).2 hb.size⟩, fun i o ho => ?_, hr.inj, Nat.le_trans hr.size hb.size⟩, hb.mono hr.size, fun c hc _ => hb.block c hc, fun _ _ h => h, Nat.le_refl _, fun _ _ h => .inl h⟩, closedV_self v hv⟩
  obtain ⟨q, hq, hor⟩ := hr.blk i o ho
  exact ⟨q, hq, hor.same (hb.block _ (hr.dom i q hq).2)⟩
end
theorem mixed : Tryz.prog.follows .mixedOrders = true := by kernel_rfl
theorem sumS_ok (n : Nat) : CallOK Tryz.prog (runCall Tryz.prog sumS n) :=
  runCall_run (fun f g h args s r hr B ρ w args' hrel hvs => by
    unfold sumS at h
    rw [cond_eq_ite] at h
    split at h
    · rename_i hf
      have hf : f = 365 := by simpa using hf
      subst hf
      cases h
      simp only at hr
      split at hr
      · rename_i m
        rw [cond_eq_ite] at hr
        split at hr
        · rename_i hm
          have hm : m < 4294967296 := by simpa [Nat.blt_eq] using hm
          rw [fN_eq] at hr
          cases hr
          cases hvs with
          | cons hv ht =>
            cases hv
            cases ht
            exact (step_any m hm w).mono fun e w' ⟨he, hw⟩ => ⟨ρ, _, he, by rw [hw]; exact .refl hrel, .int _ _⟩
        · cases hr
      · cases hr
    · cases h) (fun _ hc => drawOK mixed hc) n
theorem table_calls (w : World) : Calls Tryz.prog 335 ⟨[]⟩ w fun e w' => e = .returned tabV ∧ Below w.heap.size w w' :=
  ran_calls (sumS_ok 1000) table_ran tab_closed w
def sumT : FuncId → Option Caller := fun f => bif Nat.beq f 335 then some (fun _ args s => match args with | [] => some (.ret tabV s) | _ => none) else none
theorem sumT_ok (n : Nat) : CallOK Tryz.prog (runCall Tryz.prog sumT n) :=
  runCall_run (fun f g h args s r hr B ρ w args' hrel hvs => by
    unfold sumT at h
    rw [cond_eq_ite] at h
    split at h
    · rename_i hf
      have hf : f = 335 := by simpa using hf
      subst hf
      cases h
      cases args with
      | nil =>
        cases hr
        cases hvs
        exact sum_ok tab_closed table_calls B ρ s w hrel
      | cons _ _ => cases hr
    · cases h) (fun _ hc => drawOK mixed hc) n
end Go.Rx
