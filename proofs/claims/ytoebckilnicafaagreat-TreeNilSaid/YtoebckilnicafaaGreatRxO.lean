/-
A second reading of a program's text: regions that draw their order. Second: one operation, wherever it comes up.
-/
import Derived.Test.YtoebckilnicafaaGreatRxN
set_option linter.unusedVariables false
set_option linter.unusedSimpArgs false
namespace Go.Rx
open Go.RowKit
/-! A value that is spelt the same is the same. -/
theorem sameVs_of {n : Nat} (ih : ∀ x y, sameV n x y = true → x = y) : ∀ l m, sameV.sameVs n l m = true → l = m
  | [], [], _ => rfl
  | a :: l, b :: m, h => by
    simp [sameV.sameVs] at h
    rw [ih a b h.1, sameVs_of ih l m h.2]
  | [], b :: m, h => by simp [sameV.sameVs] at h
  | a :: l, [], h => by simp [sameV.sameVs] at h
theorem bytes_ext (a b : ByteArray) (h : a.data.toList = b.data.toList) : a = b := by
  cases a; cases b
  simp at h
  rw [h]
theorem arr_ext (a b : Array Value) (h : a.toList = b.toList) : a = b := Array.toList_inj.1 h
theorem sameV_eq (n : Nat) : ∀ x y, sameV n x y = true → x = y := by
  induction n with
  | zero =>
    intro x y h
    unfold sameV at h
    split at h
    case h_3 => exact congrArg Value.string (bytes_ext _ _ (by simpa using h))
    all_goals simp_all
  | succ n ih =>
    intro x y h
    unfold sameV at h
    split at h
    case h_3 => exact congrArg Value.string (bytes_ext _ _ (by simpa using h))
    case h_11 =>
      rename_i e
      cases e
      simp at h
      rw [h.1, ih _ _ h.2]
    case h_12 =>
      rename_i e
      cases e
      rw [arr_ext _ _ (sameVs_of ih _ _ h)]
    case h_13 =>
      rename_i e
      cases e
      rw [arr_ext _ _ (sameVs_of ih _ _ h)]
    case h_14 =>
      rename_i e
      cases e
      simp only [Bool.and_eq_true] at h
      rw [arr_ext _ _ (sameVs_of ih _ _ h.1.2), arr_ext _ _ (sameVs_of ih _ _ h.2)]
      have := h.1.1
      simp at this
      rw [this]
    all_goals simp_all
section
variable {P : Program} {B : Nat} {ρ : Ren} {s s' : S} {w : World} {fr r : Fr} {a : Act} {call : Caller}
/-- What an operation came to in the model. -/
def Came (P : Program) (B : Nat) (ρ : Ren) (s : S) (w : World) (v : Value) (s' : S) (r : Result Next) : Prop :=
  (∃ ρ' w' v', (r = .ok (.value v') w' ∨ (r = .ok .skip w' ∧ v' = undef)) ∧ Step B ρ s w ρ' s' w' ∧ VR ρ' v v') ∨
  ∃ g l, r = .ok (.enter g l) w ∧ Calls P g l w fun e w' => ∃ ρ' v', e = .returned v' ∧ Step B ρ s w ρ' s' w' ∧ VR ρ' v v'
theorem val_came {o : Oper} {v : Value} (hf : FR ρ fr a) (hr : Rel B ρ s w) (h : (match aop P fr s o with | some (.val v s') => some (v, s') | _ => none) = some (v, s')) : Came P B ρ s w v s' ((execOp a.eval o).run P w) := by
  split at h
  · rename_i u s2 hop
    cases h
    obtain ⟨ρ', w', v', h1, h2, h3, _⟩ := aop_val hf hr hop
    exact .inl ⟨ρ', w', v', h1, h2, h3⟩
  · cases h
theorem stepV_came {o : Oper} {v : Value} (hc : CallOK P call) (hf : FR ρ fr a) (hr : Rel B ρ s w) (h : stepV P call o fr s = some (v, s')) : Came P B ρ s w v s' ((execOp a.eval o).run P w) := by
  unfold stepV at h
  split at h
  · rename_i c ho
    split at h
    · rename_i f hcal
      rw [cond_eq_ite] at h
      split at h
      · rename_i hok
        rw [Option.bind_eq_some_iff] at h
        obtain ⟨args, hargs, h⟩ := h
        rw [Option.bind_eq_some_iff] at h
        obtain ⟨⟨g, l⟩, hfn, h⟩ := h
        rw [Option.bind_eq_some_iff] at h
        obtain ⟨cr, hcr, h⟩ := h
        obtain ⟨l', hrun, hl⟩ := fnA_run (P := P) (w := w) hf ho hcal hok hargs hfn
        have hcall := hc g l s cr hcr B ρ w l' hr hl
        split at h
        · cases h
          exact .inr ⟨g, _, hrun, hcall⟩
        · cases h
      · cases h
    · exact val_came hf hr h
  · cases h
  · exact val_came hf hr h
theorem came_wp {o : Oper} {v : Value} {K : Act → World → Prop} {Q : Exit → Act → World → Prop} (h : Came P B ρ s w v s' ((execOp a.eval o).run P w)) (hK : ∀ ρ' w' v', Step B ρ s w ρ' s' w' → VR ρ' v v' → K (a.put o.dst v') w') : o.wp P a w K Q := by
  unfold Oper.wp
  rcases h with ⟨ρ', w', v', h1, h2, h3⟩ | ⟨g, l, h1, h2⟩
  · rcases h1 with h1 | ⟨h1, rfl⟩
    · rw [h1]; exact hK ρ' w' v' h2 h3
    · rw [h1]; exact hK ρ' w' undef h2 h3
  · rw [h1]
    exact h2.mono fun e w' ⟨ρ', v', he, h3, h4⟩ => by subst he; exact hK ρ' w' v' h3 h4
/-- A reader, under a renaming that may know more. -/
theorem rd_came {o : Oper} {v u : Value} {x : S} (hf : FR ρ fr a) (hr : Rel B ρ s w) (he : effOf P o.op = 0) (h : aop P fr s o = some (.val v x)) : ∃ v', (execOp a.eval o).run P w = .ok (.value v') w ∧ VR ρ v v' := by
  obtain ⟨ρ', w', v', _, _, _, h4⟩ := aop_val hf hr h
  obtain ⟨_, h5, h6⟩ := h4 he
  exact ⟨v', h5, h6⟩
/-! A block of its own. -/
theorem buildCells_run {t : TypeId} {len z : Nat} {ps : List (Nat × Value)} {parts' : Array (Nat × Value)} {cs : List Value} (hp : PR ρ ps parts'.toList) (h : buildCells P t len ps = some (cs, z)) :
    ∃ c e, (Instr.buildSlice t len parts').run P w = .ok (.slice (some ⟨w.heap.size, 0, none⟩) len len) (w.alloc (.cells c e)) ∧ VRs ρ cs c.toList := by
  unfold buildCells at h
  rw [Option.bind_eq_some_iff] at h
  obtain ⟨d, hd, h⟩ := h
  split at h
  · rename_i e
    rw [Option.bind_eq_some_iff] at h
    obtain ⟨i, hi, h⟩ := h
    rw [Option.bind_eq_some_iff] at h
    obtain ⟨zv, hz, h⟩ := h
    rw [cond_eq_ite] at h
    split at h
    · rename_i hc
      simp only [Bool.and_eq_true, Nat.ble_eq, Nat.beq_eq] at hc
      obtain ⟨⟨c1, c2⟩, c3⟩ := hc
      simp only [repL_eq, Option.bind_some] at h
      rw [Option.bind_eq_some_iff] at h
      obtain ⟨cs2, hcs, h⟩ := h
      cases h
      have hzs : zv.cells.size = i.size := by rw [← c2]; simp
      by_cases hn : len * i.size = 0
      · have hz0 : ((List.replicate len zv.cells.toList).flatten) = [] := by
          apply List.eq_nil_of_length_eq_zero
          rw [List.length_flatten]
          simp
          rw [hzs]
          exact hn
        rw [hz0] at hcs
        obtain ⟨c4, g1, g2, g3⟩ := fillA_run (cs' := (Array.range (len * i.size)).map ((#[] : Array Value)[· % (#[] : Array Value).size]!)) hp (by rw [hn]; simp; exact .nil) hcs
        refine ⟨c4, e, ?_, g2⟩
        have hsmall : ¬ (16777216 < len * i.size) := by omega
        have g1' := g1
        simp only [hn] at g1'
        simp [Instr.buildSlice, run_underlying hd, sizeOf, typeInfo, hi, hsmall, hn, newRow, g1']
        simp at g1'
        simp [g1']
      · obtain ⟨c4, g1, g2, g3⟩ := fillA_run (cs' := (Array.range (len * i.size)).map (zv.cells[· % zv.cells.size]!)) hp (by
          have hpos : 0 < zv.cells.size := by
            rw [hzs]
            rcases Nat.eq_zero_or_pos i.size with e1 | e1
            · rw [e1] at hn; simp at hn
            · exact e1
          rw [← hzs, zeros_list _ _ hpos]
          exact closedVs_self _ (closedVs_rep c1 len)) hcs
        exact ⟨c4, e, run_buildSlice w t e len parts' c4 i zv hd hi hz (by omega) hn g1, g2⟩
    · cases h
  · cases h
theorem mkA_run {o : Oper} {cs : List Value} {z : Nat} {f : Nat → Value} (hf : FR ρ fr a) (hB : B ≤ w.heap.size) (h : mkA P fr o = some (cs, z, f)) :
    ∃ c e v' q, (execOp a.eval o).run P w = .ok (.value v') (w.alloc (.cells c e)) ∧ q.b = w.heap.size ∧ OR ρ B (w.alloc (.cells c e)) q (.cells cs false z) ∧ ∀ (σ : Ren) (k : Nat), σ k = some q → VR σ (f k) v' := by
  unfold mkA at h
  split at h
  · rename_i e ho
    rw [Option.bind_eq_some_iff] at h
    obtain ⟨i, hi, h⟩ := h
    rw [Option.bind_eq_some_iff] at h
    obtain ⟨zv, hz, h⟩ := h
    rw [cond_eq_ite] at h
    split at h
    · rename_i hc
      cases h
      exact ⟨zv.cells, e, _, ⟨w.heap.size, 0, zv.cells.size, i.size⟩, by simp [execOp, ho, Instr.alloc, zeroValue, typeInfo, hi, hz, newVar, newRow], rfl, OR.new (closedVs_self _ hc) (post := []) (by simp) hB,
        fun σ k hk => .ptr (q := ⟨w.heap.size, 0, zv.cells.size, i.size⟩) hk⟩
    · cases h
  · rename_i e x ho
    rw [cond_eq_ite] at h
    split at h
    · rename_i hx
      rw [Option.bind_eq_some_iff] at h
      obtain ⟨i, hi, h⟩ := h
      cases h
      exact ⟨(a.eval x).cells, e, _, ⟨w.heap.size, 0, (a.eval x).cells.size, i.size⟩, by simp [execOp, ho, Instr.box, newVar, newRow], rfl, OR.new (hf.op hx).cells (post := []) (by simp) hB,
        fun σ k hk => .ptr (q := ⟨w.heap.size, 0, (a.eval x).cells.size, i.size⟩) hk⟩
    · cases h
  · rename_i t len parts ho
    rw [Option.bind_eq_some_iff] at h
    obtain ⟨ps, hps, h⟩ := h
    rw [Option.bind_eq_some_iff] at h
    obtain ⟨⟨cs2, z2⟩, hb, h⟩ := h
    cases h
    obtain ⟨c, e, h1, h2⟩ := buildCells_run (w := w) (parts' := parts.map fun (i, x) => (i, a.eval x)) (by simpa using evParts_run hf hps) hb
    refine ⟨c, e, _, ⟨w.heap.size, 0, c.size, z⟩, by simp only [execOp, ho, Sem.run_bind, h1]; rfl, rfl, OR.new h2 (post := []) (by simp) hB,
      fun σ k hk => .slc (q := ⟨w.heap.size, 0, c.size, z⟩) hk (by unfold CapR; rw [if_pos (by omega)]; omega) (by omega) (by omega)⟩
  · cases h
/-! A block that was made ahead is laid into memory. -/
theorem Rel.insert {k : Nat} {b : Blk} {q : Loc} (h : Rel B ρ s w) (hk : ρ k = some q) (hb : OR ρ B w q b) (hno : ¬ Own ρ s q.b) (hp : s.put k (some b) = some s') : Rel B ρ s' w ∧ (∀ c, Own ρ s' c → Own ρ s c ∨ c = q.b) ∧ s'.next = s.next ∧ ∀ j, j ≠ k → s'.get j = s.get j := by
  obtain ⟨hn, hg⟩ := S.put_get hp
  refine ⟨⟨fun j r e => by rw [hn]; exact h.dom j r e, fun j o' e => ?_, fun x y r t ex ey hkr lx ly => ?_, h.size⟩, fun c hc => ?_, hn, fun j hj => by rw [hg, if_neg hj]⟩
  · rw [hg] at e
    split at e
    · rename_i hj
      cases e
      subst hj
      exact ⟨q, hk, hb⟩
    · exact h.blk j o' e
  · have own : ∀ x r, ρ x = some r → x ≠ k → (s'.get x).isSome = true → Own ρ s r.b ∧ (s.get x).isSome = true := fun x r hx hne hl => by
      rw [hg, if_neg hne] at hl
      obtain ⟨o, ho⟩ := Option.isSome_iff_exists.1 hl
      exact ⟨⟨x, o, r, ho, hx, rfl⟩, hl⟩
    by_cases e1 : x = k
    · by_cases e2 : y = k
      · omega
      · subst e1
        rw [hk] at ex
        cases ex
        exact absurd (hkr ▸ (own y t ey e2 ly).1) hno
    · by_cases e2 : y = k
      · subst e2
        rw [hk] at ey
        cases ey
        exact absurd (hkr ▸ (own x r ex e1 lx).1) hno
      · exact h.inj _ _ _ _ ex ey hkr (own x r ex e1 lx).2 (own y t ey e2 ly).2
  · obtain ⟨j, o, r, h1, h2, h3⟩ := hc
    rw [hg] at h1
    split at h1
    · rename_i hj
      subst hj
      rw [hk] at h2
      cases h2
      exact .inr h3.symm
    · exact .inl ⟨j, o, r, h1, h2, h3⟩
end
end Go.Rx
