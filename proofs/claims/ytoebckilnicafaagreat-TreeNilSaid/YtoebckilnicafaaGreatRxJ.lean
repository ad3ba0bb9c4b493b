/-
A second reading of a program's text: maps, lengths, sameness.
-/
import Derived.Test.YtoebckilnicafaaGreatRxI
set_option linter.unusedVariables false
set_option linter.unusedSimpArgs false
namespace Go.Rx
open Go.RowKit Go.MapKept
section
variable {P : Program} {B : Nat} {ρ : Ren} {s s' : S} {w : World} {fr fr' : Fr} {a : Act}
theorem isKeyB_run {d : TypeDesc} {k k' : Value} (h : isKeyB d k = true) (hk : VR ρ k k') : k' = k ∧ IsKey d k := by
  unfold isKeyB at h
  split at h
  · cases hk; exact ⟨rfl, trivial⟩
  · rename_i k1 k2 n
    cases hk
    exact ⟨rfl, by simpa [IsKey] using h⟩
  · cases hk; exact ⟨rfl, trivial⟩
  · cases h
theorem sameNow_eq {d : TypeDesc} {k x x' : Value} {b : Bool} (hx : VR ρ x x') (h : Instr.sameNow d k x = some b) : x' = x := by
  cases hx <;> first | rfl | (cases d <;> cases k <;> simp [Instr.sameNow] at h)
theorem findNow_rel {d : TypeDesc} {k : Value} : ∀ {es es' : List MapEntry}, MRs ρ es es' → ∀ {i : Nat} {r : Option (Nat × Value)}, Instr.findNow d k es i = some r →
    (r = none ∧ Instr.findNow d k es' i = some none) ∨ ∃ j v v', r = some (i + j, v) ∧ Instr.findNow d k es' i = some (some (i + j, v')) ∧ VR ρ v v' ∧ ∃ e e', es[j]? = some e ∧ es'[j]? = some e' ∧ Instr.sameNow d k e.key = some true ∧ e'.key = e.key ∧ e'.born = e.born ∧ v = e.val
  | _, _, .nil, i, r, h => by simp [Instr.findNow] at h; subst h; exact .inl ⟨rfl, rfl⟩
  | _, _, .cons hk hv hb t, i, r, h => by
    simp only [Instr.findNow] at h ⊢
    split at h
    · rename_i e1
      cases h
      have := sameNow_eq hk e1
      refine .inr ⟨0, _, _, rfl, by rw [this, e1]; rfl, hv, _, _, rfl, rfl, e1, this, hb.symm, rfl⟩
    · rename_i e1
      have := sameNow_eq hk e1
      rw [this, e1]
      rcases findNow_rel t h with ⟨rfl, h2⟩ | ⟨j, v, v', rfl, h2, h3, e, e', h4, h5, h6⟩
      · exact .inl ⟨rfl, h2⟩
      · refine .inr ⟨j + 1, v, v', by congr 2; omega, ?_, h3, e, e', by simpa using h4, by simpa using h5, h6⟩
        simp only
        rw [h2]
        congr 3
        omega
    · cases h
theorem mapOf_run {m m' : Value} {es : List MapEntry} (hr : Rel B ρ s w) (hm : VR ρ m m') (h : mapOf s m = some es) :
    (m' = .map none ∧ es = []) ∨ ∃ r q es' clock, m = .map (some r) ∧ m' = .map (some q.b) ∧ ρ r = some q ∧ s.get r = some (.map es clock) ∧ w.heap[q.b]? = some (.map es' clock) ∧ MRs ρ es es'.toList := by
  unfold mapOf at h
  split at h
  · cases hm; cases h; exact .inl ⟨rfl, rfl⟩
  · rename_i r
    split at h
    · rename_i es2 clock hg
      cases h
      cases hm with
      | map hq =>
      rename_i q
      obtain ⟨q', hq', es', h1, h2, h3⟩ := hr.blk r _ hg
      rw [hq] at hq'
      cases hq'
      exact .inr ⟨r, q, es', clock, rfl, rfl, hq, hg, h1, h2⟩
    · cases h
  · cases h
theorem lookupA_run {t : TypeId} {m m' k k' v : Value} {ok : Bool} (hr : Rel B ρ s w) (hm : VR ρ m m') (hk : VR ρ k k') (h : lookupA P s t m k ok = some v) : ∃ v', (Instr.lookup t m' k' ok).run P w = .ok v' w ∧ VR ρ v v' := by
  unfold lookupA at h
  rw [Option.bind_eq_some_iff] at h
  obtain ⟨d, hd, h⟩ := h
  split at h
  · rename_i kt e
    rw [Option.bind_eq_some_iff] at h
    obtain ⟨kd, hkd, h⟩ := h
    rw [cond_eq_ite] at h
    split at h
    · rename_i hkey
      obtain ⟨rfl, hik⟩ := isKeyB_run hkey hk
      rw [Option.bind_eq_some_iff] at h
      obtain ⟨es, hes, h⟩ := h
      rw [Option.bind_eq_some_iff] at h
      obtain ⟨r, hf, h⟩ := h
      have hcheck : ∀ b, (Instr.checkKey b 10000 kt k').run P w = .ok () w := fun b => MapKept.run_checkKey hkd hik b 9999
      have hend : ∀ (v0 v0' : Value) (b : Bool), VR ρ v0 v0' → some (bif ok then Value.tuple #[v0, .bool b] else v0) = some v → VR ρ v (if ok then .tuple #[v0', .bool b] else v0') := fun v0 v0' b hv he => by
        cases he
        cases ok
        · exact hv
        · exact .tuple (.cons hv (.cons (.bool _) .nil))
      rcases mapOf_run hr hm hes with ⟨rfl, rfl⟩ | ⟨r0, q, es', clock, rfl, rfl, hq, hg, h1, h2⟩
      · simp [Instr.findNow] at hf
        subst hf
        simp only at h
        rw [Option.bind_eq_some_iff] at h
        obtain ⟨i, hi, h⟩ := h
        rw [Option.bind_eq_some_iff] at h
        obtain ⟨z, hz, h⟩ := h
        rw [cond_eq_ite] at h
        split at h
        · rename_i hcl
          refine ⟨_, ?_, hend z z false (closedV_self _ hcl) h⟩
          have hf2 : Instr.findNow kd k' [] 0 = some none := rfl
          simp [Instr.lookup, run_underlying hd, hcheck, MapKept.run_findKey hkd hf2, zeroValue, typeInfo, hi, hz]
        · cases h
      · rcases findNow_rel h2 hf with ⟨rfl, g1⟩ | ⟨j, v1, v1', rfl, g1, g2, _⟩
        · simp only at h
          rw [Option.bind_eq_some_iff] at h
          obtain ⟨i, hi, h⟩ := h
          rw [Option.bind_eq_some_iff] at h
          obtain ⟨z, hz, h⟩ := h
          rw [cond_eq_ite] at h
          split at h
          · rename_i hcl
            refine ⟨_, ?_, hend z z false (closedV_self _ hcl) h⟩
            simp [Instr.lookup, run_underlying hd, MapKept.run_getObj_map h1, hcheck, MapKept.run_findKey hkd g1, zeroValue, typeInfo, hi, hz]
          · cases h
        · refine ⟨_, ?_, hend v1 v1' true g2 h⟩
          simp [Instr.lookup, run_underlying hd, MapKept.run_getObj_map h1, hcheck, MapKept.run_findKey hkd g1]
    · cases h
  · cases h
theorem Rel.setMap {i : Nat} {q : Loc} {es es2 : List MapEntry} {es2' : Array MapEntry} {c c2 : Nat} (h : Rel B ρ s w) (hi : s.get i = some (.map es c)) (hq : ρ i = some q) (hp : s.put i (some (.map es2 c2)) = some s') (hv : MRs ρ es2 es2'.toList) :
    Step B ρ s w ρ s' { w with heap := w.heap.setIfInBounds q.b (.map es2' c2) } := by
  obtain ⟨hn, hg⟩ := S.put_get hp
  obtain ⟨q', hq', es', h1, h2, h3⟩ := h.blk i _ hi
  rw [hq] at hq'
  cases hq'
  obtain ⟨g1, g2⟩ := heap_set (o' := .map es2' c2) h1
  have hold : ∀ k, k ≠ q.b → ({ w with heap := w.heap.setIfInBounds q.b (.map es2' c2) } : World).heap[k]? = w.heap[k]? := g2
  refine ⟨.refl _, ⟨fun j k e => by rw [hn]; simpa using h.dom j k e, fun j o' e => ?_, fun x y k r ex ey hkr lx ly => ?_, by simpa using h.size⟩, ⟨rfl, rfl, rfl, by simp, fun k hk => hold k (by omega)⟩, fun c hc ho => hold c (fun e => ho ⟨i, _, q, hi, hq, e.symm⟩), fun c hc ho => ?_, by omega, fun _ _ h => .inl h⟩
  · rw [hg] at e
    split at e
    · rename_i hj
      cases e
      subst hj
      exact ⟨q, hq, es2', g1, hv, h3⟩
    · rename_i hj
      obtain ⟨k, hk, hr2⟩ := h.blk j o' e
      exact ⟨k, hk, hr2.same (hold _ (fun e2 => hj (h.inj _ _ _ _ hk hq e2 (by simp [e]) (by simp [hi]))))⟩
  · rw [hg] at lx ly
    have fix : ∀ x, (if x = i then some (Blk.map es2 c2) else s.get x).isSome = true → (s.get x).isSome = true := fun x hx => by
      by_cases e : x = i
      · subst e; simp [hi]
      · rwa [if_neg e] at hx
    exact h.inj _ _ _ _ ex ey hkr (fix _ lx) (fix _ ly)
  · obtain ⟨j, o', k, e1, e3, e4⟩ := ho
    rw [hg] at e1
    split at e1
    · rename_i hj
      subst hj
      exact ⟨j, _, k, hi, e3, e4⟩
    · exact ⟨j, o', k, e1, e3, e4⟩
theorem MRs.append : ∀ {l l' m m' : List MapEntry}, MRs ρ l l' → MRs ρ m m' → MRs ρ (l ++ m) (l' ++ m')
  | _, _, _, _, .nil, k => k
  | _, _, _, _, .cons a b c t, k => .cons a b c (MRs.append t k)
theorem MRs.len : ∀ {l l' : List MapEntry}, MRs ρ l l' → l.length = l'.length
  | _, _, .nil => rfl
  | _, _, .cons _ _ _ t => by simp [MRs.len t]
theorem setE_run {k v v' : Value} (hv : VR ρ v v') (hk : VR ρ k k) : ∀ {es es2 es' : List MapEntry} {i : Nat}, MRs ρ es es' → setE v es i = some es2 → (∀ e, es[i]? = some e → e.key = k) → MRs ρ es2 (es'.modify i fun e => { e with key := k, val := v' })
  | _, _, _, _, .nil, h, _ => by simp [setE] at h
  | _, es2, _, 0, .cons a b c t, h, hkk => by
    simp [setE] at h
    subst h
    have := hkk _ rfl
    simp only [List.modify_zero_cons]
    exact .cons (by rw [this]; exact hk) hv c t
  | _, es2, _, i + 1, .cons a b c t, h, hkk => by
    simp only [setE, Nat.beq, cond_false, Nat.add_sub_cancel] at h
    rw [Option.bind_eq_some_iff] at h
    obtain ⟨r, hr, h⟩ := h
    cases h
    simp only [List.modify_succ_cons]
    exact .cons a b c (setE_run hv hk t hr (fun e he => hkk e (by simpa using he)))
theorem sameNow_true {d : TypeDesc} {k x : Value} (h : Instr.sameNow d k x = some true) : x = k ∧ Instr.sameBits 10000 x k = true := by
  cases d <;> cases k <;> cases x <;> simp [Instr.sameNow, bytes_beq] at h
  · subst h; exact ⟨rfl, by simp [Instr.sameBits]⟩
  · obtain ⟨rfl, rfl⟩ := h; exact ⟨rfl, by simp [Instr.sameBits]⟩
  · subst h; exact ⟨rfl, by simp [Instr.sameBits, bytes_beq]⟩
theorem mapUpdateA_run {t : TypeId} {m m' k k' v v' : Value} (hr : Rel B ρ s w) (hm : VR ρ m m') (hk : VR ρ k k') (hv : VR ρ v v') (h : mapUpdateA P s t m k v = some s') : ∃ w', (Instr.mapUpdate t m' k' v').run P w = .ok () w' ∧ Step B ρ s w ρ s' w' := by
  unfold mapUpdateA at h
  rw [Option.bind_eq_some_iff] at h
  obtain ⟨d, hd, h⟩ := h
  split at h
  · rename_i kt e r
    rw [Option.bind_eq_some_iff] at h
    obtain ⟨kd, hkd, h⟩ := h
    rw [cond_eq_ite] at h
    split at h
    · rename_i hkey
      obtain ⟨rfl, hik⟩ := isKeyB_run hkey hk
      split at h
      · rename_i es clock hg
        rw [Option.bind_eq_some_iff] at h
        obtain ⟨f, hf, h⟩ := h
        rw [fV_eq] at h
        simp only [Option.bind_some] at h
        have hcheck : ∀ b, (Instr.checkKey b 10000 kt k').run P w = .ok () w := fun b => MapKept.run_checkKey hkd hik b 9999
        cases hm with
        | map hq =>
        rename_i q
        obtain ⟨q', hq', es', h1, h2, h3⟩ := hr.blk r _ hg
        rw [hq] at hq'
        cases hq'
        rcases findNow_rel h2 hf with ⟨rfl, g1⟩ | ⟨j, v1, v1', rfl, g1, g2, e1, e2, g3, g4, g5, g6, g7, g8⟩
        · simp only [fV_eq, app_eq, fN_eq, Option.bind_some] at h
          refine ⟨_, ?_, hr.setMap (es2' := es'.push ⟨k', v', clock⟩) hg hq h (show MRs ρ (es ++ [⟨k', v, clock⟩]) (es'.push ⟨k', v', clock⟩).toList from by rw [Array.toList_push]; exact h2.append (.cons hk hv rfl .nil))⟩
          simp [Instr.mapUpdate, run_underlying hd, MapKept.run_getObj_map h1, hcheck, MapKept.run_findKey hkd g1, MapKept.run_setObj_map _ h1]
        · simp only [Nat.zero_add] at h g1
          rw [Option.bind_eq_some_iff] at h
          obtain ⟨es2, h5, h⟩ := h
          obtain ⟨hkk, hbits⟩ := sameNow_true g5
          have hs := setE_run (k := k') (v' := v') hv hk h2 h5 (fun e he => by rw [g3] at he; cases he; exact hkk)
          refine ⟨_, ?_, hr.setMap (es2' := es'.modify j fun e => { e with key := k', val := v' }) hg hq h (by simpa using hs)⟩
          have hold : ((es'[j]?).map (·.key)).getD k' = e1.key := by
            have : es'[j]? = some e2 := by simpa using g4
            rw [this]
            simp [g6]
          simp [Instr.mapUpdate, run_underlying hd, MapKept.run_getObj_map h1, hcheck, MapKept.run_findKey hkd g1, MapKept.run_setObj_map _ h1, Instr.keyThatStays, hold, hbits]
      · cases h
    · cases h
  · cases h
end
end Go.Rx
