/-
A second reading of a program's text: code does what the model's code does.
-/
import Derived.Test.YtoebckilnicafaaGreatRxF
import Derived.Test.YtoebckilnicafaaGreatRxL
import Derived.Scope
import Derived.Deep.LoopGhost
set_option linter.unusedVariables false
set_option linter.unusedSimpArgs false
namespace Go.Rx
open Go.RowKit
section
variable {P : Program} {B : Nat} {ρ : Ren} {s s' : S} {w : World} {fr fr' : Fr} {a : Act} {call : Caller}
/-- A panic of a value. -/
def chain1 (v : Value) : List PanicEntry := [{ v, recovered := false }]
def CallOK (P : Program) (call : Caller) : Prop :=
  ∀ (f : FuncId) (args : List Value) (s : S) (r : CR), call f args s = some r → ∀ (B : Nat) (ρ : Ren) (w : World) (args' : List Value), Rel B ρ s w → VRs ρ args args' →
    Calls P f ⟨args'⟩ w fun e w' => match r with
      | .ret v s' => ∃ ρ' v', e = .returned v' ∧ Step B ρ s w ρ' s' w' ∧ VR ρ' v v'
      | .pan v s' => ∃ ρ' v', e = .panicked (chain1 v') ∧ Step B ρ s w ρ' s' w' ∧ VR ρ' v v'
def ExR (ρ : Ren) : Ex → Exit → Prop
  | .normal, e => e = .normal
  | .exit id, e => e = .exit id
  | .goto l, e => e = .goto l
  | .ret, e => e = .ret
  | .pan v, e => ∃ v', e = .panic (chain1 v') ∧ VR ρ v v'
/-- What is left to show behind a piece of code that came to ex, fr' and s'. -/
def Then (B : Nat) (ρ : Ren) (s : S) (w : World) (a : Act) (ex : Ex) (fr' : Fr) (s' : S) (Q : Exit → Act → World → Prop) : Prop :=
  ∀ ρ' e a' w', Step B ρ s w ρ' s' w' → FR ρ' fr' a' → a'.defers = a.defers → ExR ρ' ex e → Q e a' w'
theorem Then.after {ρ1 : Ren} {s1 : S} {w1 : World} {a1 : Act} {ex : Ex} {Q : Exit → Act → World → Prop} (h : Then B ρ s w a ex fr' s' Q) (st : Step B ρ s w ρ1 s1 w1) (hd : a1.defers = a.defers) : Then B ρ1 s1 w1 a1 ex fr' s' Q :=
  fun ρ' e a' w' h1 h2 h3 h4 => h ρ' e a' w' (st.trans h1) h2 (h3.trans hd) h4
theorem put_defers (a : Act) (d : Option Tmp) (v : Value) : (a.put d v).defers = a.defers := by cases d <;> rfl
theorem guardA_run {ops : Array Oper} {o : Oper} {g : Bool} (hf : FR ρ fr a) (h : guardA fr ops.toList o = some g) : Region.wanted o (yielded ops a.tmps) = g := by
  unfold guardA at h
  unfold Region.wanted
  split at h
  · rename_i hg
    rw [hg]
    cases h
    rfl
  · rename_i j want hg
    rw [hg]
    rw [Option.bind_eq_some_iff] at h
    obtain ⟨oj, hoj, h⟩ := h
    rw [nth_eq] at hoj
    have hoj2 : ops[j]? = some oj := by simpa using hoj
    unfold yielded
    simp only [hoj2, Option.bind_some]
    split at h
    · rename_i d hd
      rw [hd]
      simp only [Option.bind_some]
      have hs := hf.slot d
      split at h
      · rename_i b hb
        cases h
        rw [hb] at hs
        generalize hcc : a.tmps.getD d undef = c' at hs
        cases hs
        have : a.tmps[d]? = some (.bool b) := by
          simp at hcc
          cases hq : a.tmps[d]? with
          | none => rw [hq] at hcc; simp [undef] at hcc
          | some u => rw [hq] at hcc; simp at hcc; rw [hcc]
        rw [this]
        cases b <;> cases want <;> rfl
      · rename_i hb
        cases h
        cases hq : a.tmps[d]? with
        | none => rfl
        | some u =>
          have hu : a.tmps.getD d undef = u := by simp [hq]
          rw [hu] at hs
          cases u <;> try rfl
          rename_i b
          generalize hcc : fr.at d = c' at hs hb
          cases hs
          exact absurd rfl (hb b)
    · rename_i hd
      cases h
      rw [hd]
      rfl
theorem valA_run {o : Oper} {ex : Ex} {K : Act → World → Prop} {Q : Exit → Act → World → Prop} (hf : FR ρ fr a) (hr : Rel B ρ s w) (h : valA P o fr s = some (ex, fr', s')) (hK : ex = .normal → ∀ ρ' a' w', Step B ρ s w ρ' s' w' → FR ρ' fr' a' → a'.defers = a.defers → K a' w') : ex = .normal ∧ o.wp P a w K Q := by
  unfold valA at h
  split at h
  · rename_i v s2 hop
    rw [Option.bind_eq_some_iff] at h
    obtain ⟨fr2, hp, h⟩ := h
    cases h
    refine ⟨rfl, ?_⟩
    obtain ⟨ρ', w', v', hrun, hst, hv, _⟩ := aop_val hf hr hop
    have := hK rfl ρ' (a.put o.dst v') w' hst ((hf.mono hst.le).put hp hv) (put_defers _ _ _)
    unfold Oper.wp
    rcases hrun with hrun | ⟨hrun, rfl⟩
    · rw [hrun]; exact this
    · rw [hrun]; exact this
  · cases h
theorem stepA_run {o : Oper} {ex : Ex} {K : Act → World → Prop} {Q : Exit → Act → World → Prop} (hc : CallOK P call) (hf : FR ρ fr a) (hr : Rel B ρ s w) (h : stepA P call o fr s = some (ex, fr', s'))
    (hK : ex = .normal → ∀ ρ' a' w', Step B ρ s w ρ' s' w' → FR ρ' fr' a' → a'.defers = a.defers → K a' w') (hQ : ex ≠ .normal → Then B ρ s w a ex fr' s' Q) : o.wp P a w K Q := by
  unfold stepA at h
  split at h
  · rename_i c ho
    split at h
    · rename_i f hcal
      rw [cond_eq_ite] at h
      split at h
      · rename_i hok
        rw [Option.bind_eq_some_iff] at h
        obtain ⟨args, hargs, h⟩ := h
        rw [Option.bind_eq_some_iff] at h
        obtain ⟨⟨g, l⟩, hfn, h⟩ := h
        rw [Option.bind_eq_some_iff] at h
        obtain ⟨r, hcr, h⟩ := h
        obtain ⟨l', hrun, hl⟩ := fnA_run (P := P) (w := w) hf ho hcal hok hargs hfn
        have hcall := hc g l s r hcr B ρ w l' hr hl
        unfold Oper.wp
        rw [hrun]
        simp only [Oper.upon]
        refine hcall.mono fun e w' he => ?_
        split at h
        · rename_i v s2
          rw [Option.bind_eq_some_iff] at h
          obtain ⟨fr2, hp, h⟩ := h
          cases h
          obtain ⟨ρ', v', rfl, hst, hv⟩ := he
          exact hK rfl ρ' _ w' hst ((hf.mono hst.le).put hp hv) (put_defers _ _ _)
        · rename_i v s2
          cases h
          obtain ⟨ρ', v', rfl, hst, hv⟩ := he
          exact hQ (by simp) ρ' _ a w' hst (hf.mono hst.le) rfl ⟨v', rfl, hv⟩
      · cases h
    · exact (valA_run hf hr h hK).2
  · rename_i x ho
    rw [cond_eq_ite] at h
    split at h
    · rename_i hok
      split at h
      · rename_i t v hx
        cases h
        obtain ⟨v', hrun, hv⟩ := pan_run (P := P) (w := w) hf ho hok hx
        unfold Oper.wp
        rw [hrun]
        exact hQ (by simp) ρ _ a w (.refl hr) hf rfl ⟨v', rfl, hv⟩
      · cases h
    · cases h
  · exact (valA_run hf hr h hK).2
theorem runOps_run {ops : Array Oper} {Q : Exit → Act → World → Prop} (hc : CallOK P call) : ∀ (l : List Oper) (k : Nat) {fr : Fr} {s : S} {a : Act} {w : World} {ρ : Ren} {ex : Ex}, (∀ j, l[j]? = ops[k + j]?) → FR ρ fr a → Rel B ρ s w →
    runOps P call ops.toList l fr s = some (ex, fr', s') → Then B ρ s w a ex fr' s' Q → wpOps P ops Q (List.range' k l.length) a w
  | [], k, fr, s, a, w, ρ, ex, _, hf, hr, h, hQ => by
    simp only [runOps, Option.some.injEq, Prod.mk.injEq] at h
    obtain ⟨rfl, rfl, rfl⟩ := h
    exact hQ ρ _ a w (.refl hr) hf rfl rfl
  | o :: l, k, fr, s, a, w, ρ, ex, hl, hf, hr, h, hQ => by
    have h0 : ops[k]? = some o := by simpa using (hl 0).symm
    have hl' : ∀ j, l[j]? = ops[k + 1 + j]? := fun j => by
      have := hl (j + 1)
      simpa [Nat.add_assoc, Nat.add_comm 1 j] using this
    simp only [runOps] at h
    rw [Option.bind_eq_some_iff] at h
    obtain ⟨g, hg, h⟩ := h
    have hw := guardA_run hf hg
    rw [List.length_cons, List.range'_succ]
    simp only [wpOps, h0, hw]
    cases g
    · simp only [cond_false] at h
      rw [Option.bind_eq_some_iff] at h
      obtain ⟨fr2, hp, h⟩ := h
      simp only [Bool.false_eq_true, if_false]
      exact runOps_run hc l (k + 1) hl' (hf.put hp (.tuple .nil)) hr h (fun ρ' e a' w' h1 h2 h3 h4 => hQ ρ' e a' w' h1 h2 (h3.trans (put_defers _ _ _)) h4)
    · simp only [cond_true] at h
      rw [Option.bind_eq_some_iff] at h
      obtain ⟨⟨e1, fr2, s2⟩, hs, h⟩ := h
      simp only [if_true]
      left
      refine stepA_run hc hf hr hs (fun he ρ1 a1 w1 st1 hf1 hd1 => ?_) (fun he => ?_)
      · subst he
        simp only at h
        exact runOps_run hc l (k + 1) hl' hf1 st1.rel h (hQ.after st1 hd1)
      · cases e1 with
        | normal => exact absurd rfl he
        | _ => simp only [Option.some.injEq, Prod.mk.injEq] at h; obtain ⟨rfl, rfl, rfl⟩ := h; exact hQ
/-- What a region that draws its order owes. -/
def DrawOK (P : Program) (call : Caller) : Prop :=
  ∀ (ops : Array Oper) (fr : Fr) (s : S) (ex : Ex) (fr' : Fr) (s' : S), runRegion P call ops true fr s = some (ex, fr', s') → ∀ (B : Nat) (ρ : Ren) (a : Act) (w : World) (Q : Exit → Act → World → Prop) (id : Nat),
    FR ρ fr a → Rel B ρ s w → Then B ρ s w a ex fr' s' Q → (Code.region id ops true).wp P Q a w
theorem runCode_run (hc : CallOK P call) (hd : DrawOK P call) : ∀ (n : Nat) (c : Code) {fr : Fr} {s : S} {a : Act} {w : World} {ρ : Ren} {ex : Ex} {fr' : Fr} {s' : S} {Q : Exit → Act → World → Prop}, FR ρ fr a → Rel B ρ s w →
    runCode P call n c fr s = some (ex, fr', s') → Then B ρ s w a ex fr' s' Q → c.wp P Q a w
  | 0, c, _, _, _, _, _, _, _, _, _, _, _, h, _ => by simp [runCode] at h
  | n + 1, c, fr, s, a, w, ρ, ex, fr', s', Q, hf, hr, h, hQ => by
    cases c with
    | skip =>
      simp only [runCode, Option.some.injEq, Prod.mk.injEq] at h
      obtain ⟨rfl, rfl, rfl⟩ := h
      exact wp_skip (hQ ρ _ a w (.refl hr) hf rfl rfl)
    | label l =>
      simp only [runCode, Option.some.injEq, Prod.mk.injEq] at h
      obtain ⟨rfl, rfl, rfl⟩ := h
      exact wp_label (hQ ρ _ a w (.refl hr) hf rfl rfl)
    | region id ops draw =>
      simp only [runCode] at h
      cases draw
      · refine wp_region ?_
        simp only [runRegion, cond_false] at h
        have := runOps_run (ops := ops) (Q := Q) hc ops.toList 0 (by simp) hf hr h hQ
        rw [List.range_eq_range']
        simpa using this
      · exact hd ops fr s ex fr' s' h B ρ a w Q id hf hr hQ
    | seq x y =>
      simp only [runCode] at h
      rw [Option.bind_eq_some_iff] at h
      obtain ⟨⟨e1, fr1, s1⟩, h1, h⟩ := h
      refine wp_seq (runCode_run hc hd n x hf hr h1 ?_)
      intro ρ1 e a1 w1 st1 hf1 hd1 he
      cases e1 with
      | normal =>
        cases he
        simp only at h
        exact runCode_run hc hd n y hf1 st1.rel h (hQ.after st1 hd1)
      | exit id => cases he; simp only [Option.some.injEq, Prod.mk.injEq] at h; obtain ⟨rfl, rfl, rfl⟩ := h; exact hQ ρ1 _ a1 w1 st1 hf1 hd1 rfl
      | goto l => cases he; simp only [Option.some.injEq, Prod.mk.injEq] at h; obtain ⟨rfl, rfl, rfl⟩ := h; exact hQ ρ1 _ a1 w1 st1 hf1 hd1 rfl
      | ret => cases he; simp only [Option.some.injEq, Prod.mk.injEq] at h; obtain ⟨rfl, rfl, rfl⟩ := h; exact hQ ρ1 _ a1 w1 st1 hf1 hd1 rfl
      | pan v => obtain ⟨v', rfl, hv⟩ := he; simp only [Option.some.injEq, Prod.mk.injEq] at h; obtain ⟨rfl, rfl, rfl⟩ := h; exact hQ ρ1 _ a1 w1 st1 hf1 hd1 ⟨v', rfl, hv⟩
    | cond x b1 b2 =>
      simp only [runCode, cond_eq_ite] at h
      split at h
      · rename_i hok
        have hv := hf.op hok
        split at h
        · rename_i hx
          rw [hx] at hv
          generalize hcc : a.eval x = c' at hv
          cases hv
          exact wp_cond_true hcc (runCode_run hc hd n b1 hf hr h hQ)
        · rename_i hx
          rw [hx] at hv
          generalize hcc : a.eval x = c' at hv
          cases hv
          exact wp_cond_false hcc (runCode_run hc hd n b2 hf hr h hQ)
        · cases h
      · cases h
    | block id b =>
      simp only [runCode] at h
      rw [Option.bind_eq_some_iff] at h
      obtain ⟨⟨e1, fr1, s1⟩, h1, h⟩ := h
      refine wp_block (runCode_run hc hd n b hf hr h1 ?_)
      intro ρ1 e a1 w1 st1 hf1 hd1 he
      cases e1 with
      | exit id' =>
        cases he
        simp only [cond_eq_ite] at h
        split at h
        · rename_i hid
          have hid : id' = id := by simpa using hid
          simp only [Option.some.injEq, Prod.mk.injEq] at h
          obtain ⟨rfl, rfl, rfl⟩ := h
          simp only [Exit.inBlock, hid, if_true]
          exact hQ ρ1 _ a1 w1 st1 hf1 hd1 rfl
        · rename_i hid
          have hid : ¬ id' = id := by simpa using hid
          simp only [Option.some.injEq, Prod.mk.injEq] at h
          obtain ⟨rfl, rfl, rfl⟩ := h
          simp only [Exit.inBlock, hid, if_false]
          exact hQ ρ1 _ a1 w1 st1 hf1 hd1 rfl
      | normal => cases he; simp only [Option.some.injEq, Prod.mk.injEq] at h; obtain ⟨rfl, rfl, rfl⟩ := h; exact hQ ρ1 _ a1 w1 st1 hf1 hd1 rfl
      | goto l => cases he; simp only [Option.some.injEq, Prod.mk.injEq] at h; obtain ⟨rfl, rfl, rfl⟩ := h; exact hQ ρ1 _ a1 w1 st1 hf1 hd1 rfl
      | ret => cases he; simp only [Option.some.injEq, Prod.mk.injEq] at h; obtain ⟨rfl, rfl, rfl⟩ := h; exact hQ ρ1 _ a1 w1 st1 hf1 hd1 rfl
      | pan v => obtain ⟨v', rfl, hv⟩ := he; simp only [Option.some.injEq, Prod.mk.injEq] at h; obtain ⟨rfl, rfl, rfl⟩ := h; exact hQ ρ1 _ a1 w1 st1 hf1 hd1 ⟨v', rfl, hv⟩
    | loop b =>
      refine wp_loop_ghost (fun m a w => m ≤ n + 1 ∧ ∃ ρ fr s, FR ρ fr a ∧ Rel B ρ s w ∧ runCode P call m (.loop b) fr s = some (ex, fr', s') ∧ Then B ρ s w a ex fr' s' Q) (n + 1) ⟨Nat.le_refl _, ρ, fr, s, hf, hr, h, hQ⟩ ?_
      intro m a0 w0 ⟨hm, ρ0, fr0, s0, hf0, hr0, h0, hQ0⟩
      cases m with
      | zero => simp [runCode] at h0
      | succ m =>
        simp only [runCode] at h0
        rw [Option.bind_eq_some_iff] at h0
        obtain ⟨⟨e1, fr1, s1⟩, h1, h0⟩ := h0
        refine runCode_run hc hd m b hf0 hr0 h1 ?_
        intro ρ1 e a1 w1 st1 hf1 hd1 he
        cases e1 with
        | normal =>
          cases he
          simp only at h0
          exact ⟨m, Nat.lt_succ_self _, by omega, ρ1, fr1, s1, hf1, st1.rel, h0, hQ0.after st1 hd1⟩
        | exit id => cases he; simp only [Option.some.injEq, Prod.mk.injEq] at h0; obtain ⟨rfl, rfl, rfl⟩ := h0; exact hQ0 ρ1 _ a1 w1 st1 hf1 hd1 rfl
        | goto l => cases he; simp only [Option.some.injEq, Prod.mk.injEq] at h0; obtain ⟨rfl, rfl, rfl⟩ := h0; exact hQ0 ρ1 _ a1 w1 st1 hf1 hd1 rfl
        | ret => cases he; simp only [Option.some.injEq, Prod.mk.injEq] at h0; obtain ⟨rfl, rfl, rfl⟩ := h0; exact hQ0 ρ1 _ a1 w1 st1 hf1 hd1 rfl
        | pan v => obtain ⟨v', rfl, hv⟩ := he; simp only [Option.some.injEq, Prod.mk.injEq] at h0; obtain ⟨rfl, rfl, rfl⟩ := h0; exact hQ0 ρ1 _ a1 w1 st1 hf1 hd1 ⟨v', rfl, hv⟩
    | exit id =>
      simp only [runCode, Option.some.injEq, Prod.mk.injEq] at h
      obtain ⟨rfl, rfl, rfl⟩ := h
      exact wp_exit (hQ ρ _ a w (.refl hr) hf rfl rfl)
    | goto l =>
      simp only [runCode, Option.some.injEq, Prod.mk.injEq] at h
      obtain ⟨rfl, rfl, rfl⟩ := h
      exact wp_goto (hQ ρ _ a w (.refl hr) hf rfl rfl)
    | scope b =>
      simp only [runCode] at h
      rw [Option.bind_eq_some_iff] at h
      obtain ⟨⟨e1, fr1, s1⟩, h1, h⟩ := h
      refine wp_scope_straight (runCode_run hc hd n b hf hr h1 ?_)
      intro ρ1 e a1 w1 st1 hf1 hd1 he
      cases e1 with
      | goto l => simp at h
      | normal => cases he; simp only [Option.some.injEq, Prod.mk.injEq] at h; obtain ⟨rfl, rfl, rfl⟩ := h; exact hQ ρ1 _ a1 w1 st1 hf1 hd1 rfl
      | exit id => cases he; simp only [Option.some.injEq, Prod.mk.injEq] at h; obtain ⟨rfl, rfl, rfl⟩ := h; exact hQ ρ1 _ a1 w1 st1 hf1 hd1 rfl
      | ret => cases he; simp only [Option.some.injEq, Prod.mk.injEq] at h; obtain ⟨rfl, rfl, rfl⟩ := h; exact hQ ρ1 _ a1 w1 st1 hf1 hd1 rfl
      | pan v => obtain ⟨v', rfl, hv⟩ := he; simp only [Option.some.injEq, Prod.mk.injEq] at h; obtain ⟨rfl, rfl, rfl⟩ := h; exact hQ ρ1 _ a1 w1 st1 hf1 hd1 ⟨v', rfl, hv⟩
    | ret =>
      simp only [runCode, Option.some.injEq, Prod.mk.injEq] at h
      obtain ⟨rfl, rfl, rfl⟩ := h
      exact wp_ret (hQ ρ _ a w (.refl hr) hf rfl rfl)
    | rangeFunc => simp [runCode] at h
    | refuse => simp [runCode] at h
termination_by n => n
decreasing_by all_goals omega
/-! Calls. -/
theorem fillFr_at : ∀ (l : List Value) (i : Nat) (t t' : T Value), fillFr l i t = some t' → ∀ k, t'.get k = if i ≤ k ∧ k < i + l.length then l[k - i]? else t.get k
  | [], i, t, t', h, k => by simp [fillFr] at h; subst h; rw [if_neg (by simp)]
  | v :: l, i, t, t', h, k => by
    simp only [fillFr] at h
    rw [Option.bind_eq_some_iff] at h
    obtain ⟨t1, h1, h⟩ := h
    rw [fillFr_at l (i + 1) t1 t' h k, T.get_set _ _ _ _ _ h1 k]
    by_cases e : k = i
    · subst e
      rw [if_neg (by omega), if_pos rfl, if_pos (by simp)]
      simp
    · by_cases e2 : i + 1 ≤ k ∧ k < i + 1 + l.length
      · rw [if_pos e2, if_pos (by simp; omega)]
        rw [show k - i = (k - (i + 1)) + 1 by omega]
        simp
      · rw [if_neg e2, if_neg e, if_neg (by simp; omega)]
theorem FR.start {args args' : List Value} {k : Nat} {t : T Value} (h : fillFr args 0 .nil = some t) (hk : args.length ≤ k) (hv : VRs ρ args args') : FR ρ ⟨t, k⟩ { tmps := (⟨args'⟩ : Array Value) ++ Array.replicate (k - (⟨args'⟩ : Array Value).size) undef, defers := [] } := by
  have hlen := hv.len
  refine ⟨?_, fun j => ?_⟩
  · simp
    omega
  · show VR ρ ((t.get j).getD undef) _
    rw [fillFr_at _ _ _ _ h j]
    by_cases hj : j < args.length
    · rw [if_pos (by omega)]
      obtain ⟨v', h1, h2⟩ := hv.at (List.getElem?_eq_getElem hj)
      have hj' : j < args'.length := by omega
      have : ((⟨args'⟩ : Array Value) ++ Array.replicate (k - (⟨args'⟩ : Array Value).size) undef).getD j undef = v' := by
        simp [Array.getElem?_append, hj', h1]
        rw [List.getElem?_eq_getElem hj'] at h1
        exact Option.some.inj h1
      rw [this, Nat.sub_zero, List.getElem?_eq_getElem hj]
      exact h2
    · rw [if_neg (by omega)]
      have : ((⟨args'⟩ : Array Value) ++ Array.replicate (k - (⟨args'⟩ : Array Value).size) undef).getD j undef = undef := by
        have hj' : ¬ j < args'.length := by omega
        simp [Array.getElem?_append, hj', Array.getElem?_replicate]
        split <;> rfl
      rw [this]
      exact .tuple .nil
def resVar (tmps : Array Value) : ResultVar → Sem Value
  | .tmp t => pure (tmps.getD t undef)
  | .cell x t => do loadVar t (← asAddr (tmps.getD x undef))
theorem results_eq (fn : Func) (tmps : Array Value) : results fn tmps = (fn.results.mapM (resVar tmps) >>= fun vs => pure (if h : vs.size = 1 then vs[0] else .tuple vs)) := by
  unfold results
  congr 1
theorem resA_run (hf : FR ρ fr a) (hr : Rel B ρ s w) : ∀ {l : List ResultVar} {r : List Value}, resA P fr s l = some r → ∃ r', VRs ρ r r' ∧ (l.mapM (resVar a.tmps)).run P w = .ok r' w
  | [], r, h => by simp [resA] at h; subst h; exact ⟨[], .nil, by simp⟩
  | .tmp t :: l, r, h => by
    simp only [resA] at h
    rw [Option.bind_eq_some_iff] at h
    obtain ⟨r2, h2, h⟩ := h
    cases h
    obtain ⟨r', g1, g2⟩ := resA_run hf hr h2
    refine ⟨_ :: r', .cons (hf.slot t) g1, ?_⟩
    have hstep : (resVar a.tmps (.tmp t)).run P w = .ok (a.tmps.getD t undef) w := rfl
    rw [List.mapM_cons]
    simp only [Sem.run_bind, hstep, Sem.run_pure, Result.andThen_ok, g2]
  | .cell x t :: l, r, h => by
    simp only [resA] at h
    rw [Option.bind_eq_some_iff] at h
    obtain ⟨v, hv, h⟩ := h
    rw [Option.bind_eq_some_iff] at h
    obtain ⟨r2, h2, h⟩ := h
    cases h
    obtain ⟨r', g1, g2⟩ := resA_run hf hr h2
    obtain ⟨v', j1, j2⟩ := loadA_run hr (hf.slot x) hv
    refine ⟨v' :: r', .cons j2 g1, ?_⟩
    have hp : ∃ p, a.tmps.getD x undef = .pointer (some p) := by
      have := hf.slot x
      unfold loadA at hv
      split at hv
      · rename_i b o hx
        rw [hx] at this
        generalize a.tmps.getD x undef = y at this
        cases this
        exact ⟨_, rfl⟩
      · cases hv
    obtain ⟨p, hp⟩ := hp
    rw [hp] at j1
    have j3 : (loadVar t p).run P w = .ok v' w := by simpa [Instr.loadAt, Instr.sureAddr] using j1
    have hstep : (resVar a.tmps (.cell x t)).run P w = .ok v' w := by
      unfold resVar
      simp only [Sem.run_bind, hp, asAddr, Sem.run_pure, Result.andThen_ok, j3]
    rw [List.mapM_cons]
    simp only [Sem.run_bind, hstep, Sem.run_pure, Result.andThen_ok, g2]
theorem results_run {fn : Func} {r r' : List Value} (hv : VRs ρ r r') (h : (fn.results.toList.mapM (resVar a.tmps)).run P w = .ok r' w) : ∃ v', (results fn a.tmps).run P w = .ok v' w ∧ VR ρ (one1 r) v' := by
  have hm : (fn.results.mapM (resVar a.tmps)).run P w = .ok r'.toArray w := by
    rw [Array.mapM_eq_mapM_toList, Sem.run_map, h]
    rfl
  refine ⟨if h : r'.toArray.size = 1 then r'.toArray[0] else .tuple r'.toArray, ?_, ?_⟩
  · rw [results_eq, Sem.run_bind, hm]
    rfl
  · match r, r', hv with
    | [], _, .nil => exact .tuple .nil
    | [v], _, .cons h .nil => exact h
    | v :: u :: l, _, .cons h (.cons h2 t) => exact .tuple (.cons h (.cons h2 t))
theorem runCall_run {sum : FuncId → Option Caller} (hsum : ∀ f g, sum f = some g → ∀ (args : List Value) (s : S) (r : CR), g f args s = some r → ∀ (B : Nat) (ρ : Ren) (w : World) (args' : List Value), Rel B ρ s w → VRs ρ args args' →
    Calls P f ⟨args'⟩ w fun e w' => match r with
      | .ret v s' => ∃ ρ' v', e = .returned v' ∧ Step B ρ s w ρ' s' w' ∧ VR ρ' v v'
      | .pan v s' => ∃ ρ' v', e = .panicked (chain1 v') ∧ Step B ρ s w ρ' s' w' ∧ VR ρ' v v')
    (hdraw : ∀ call, CallOK P call → DrawOK P call) : ∀ n, CallOK P (runCall P sum n)
  | 0 => fun f args s r h => by simp [runCall] at h
  | n + 1 => fun f args s r h B ρ w args' hr hv => by
    have hc := runCall_run hsum hdraw n
    unfold runCall at h
    split at h
    · rename_i g hg
      exact hsum f g hg args s r h B ρ w args' hr hv
    · rw [Option.bind_eq_some_iff] at h
      obtain ⟨fn, hfn, h⟩ := h
      rw [nth_eq] at hfn
      have hfn2 : P.funcs[f]? = some fn := by simpa using hfn
      split at h
      · cases h
      · rename_i c hb
        rw [fN_eq] at h
        simp only [Option.bind_some] at h
        rw [Option.bind_eq_some_iff] at h
        obtain ⟨t, ht, h⟩ := h
        rw [cond_eq_ite] at h
        split at h
        · rename_i hle
          have hle : args.length ≤ fn.ntmps := by simpa using hle
          rw [Option.bind_eq_some_iff] at h
          obtain ⟨⟨ex, fr', s'⟩, hrun, h⟩ := h
          refine calls_of_wp hfn2 hb (runCode_run hc (hdraw _ hc) n c (FR.start ht hle hv) hr hrun ?_)
          intro ρ1 e a1 w1 st1 hf1 hd1 he
          have hd1 : a1.defers = [] := hd1
          cases ex with
          | normal =>
            cases he
            simp only at h
            rw [Option.bind_eq_some_iff] at h
            obtain ⟨rr, hres, h⟩ := h
            cases h
            obtain ⟨r', g1, g2⟩ := resA_run (P := P) hf1 st1.rel hres
            obtain ⟨v', g3, g4⟩ := results_run g1 g2
            exact ⟨hd1, v', g3, ρ1, v', rfl, st1, g4⟩
          | ret =>
            cases he
            simp only at h
            rw [Option.bind_eq_some_iff] at h
            obtain ⟨rr, hres, h⟩ := h
            cases h
            obtain ⟨r', g1, g2⟩ := resA_run (P := P) hf1 st1.rel hres
            obtain ⟨v', g3, g4⟩ := results_run g1 g2
            exact ⟨hd1, v', g3, ρ1, v', rfl, st1, g4⟩
          | pan v =>
            obtain ⟨v', rfl, hv⟩ := he
            simp only [Option.some.injEq] at h
            subst h
            exact ⟨hd1, ρ1, v', rfl, st1, hv⟩
          | exit id => simp at h
          | goto l => simp at h
        · cases h
end
end Go.Rx
