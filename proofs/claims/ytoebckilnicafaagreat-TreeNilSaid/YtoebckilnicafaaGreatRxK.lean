/-
A second reading of a program's text: maps' entries, lengths, sameness.
-/
import Derived.Test.YtoebckilnicafaaGreatRxJ
set_option linter.unusedVariables false
set_option linter.unusedSimpArgs false
namespace Go.Rx
open Go.RowKit Go.MapKept
section
variable {P : Program} {B : Nat} {ρ : Ren} {s s' : S} {w : World} {fr fr' : Fr} {a : Act}
theorem heap_same {r : Nat} {o : Obj} (h : w.heap[r]? = some o) : ({ w with heap := w.heap.setIfInBounds r o } : World) = w := by
  have : w.heap.setIfInBounds r o = w.heap := by
    apply Array.ext_getElem?
    intro i
    by_cases e : r = i
    · subst e
      have hlt : r < w.heap.size := (Array.getElem?_eq_some_iff.1 h).1
      simp [hlt]
      have := (Array.getElem?_eq_some_iff.1 h).2
      exact this.symm
    · rw [Array.getElem?_setIfInBounds_ne e]
  rw [this]
theorem modify_key {es : Array MapEntry} {j : Nat} {e : MapEntry} {k : Value} (h : es[j]? = some e) (hk : e.key = k) : (es.modify j fun e => { e with key := k }) = es := by
  apply Array.ext_getElem?
  intro i
  rw [Array.getElem?_modify]
  split
  · rename_i e2
    subst e2
    rw [h, Option.map_some, ← hk]
  · rfl
theorem mapEntryA_run {t : TypeId} {m m' k k' v : Value} (hr : Rel B ρ s w) (hm : VR ρ m m') (hk : VR ρ k k') (h : mapEntryA P s t m k = some (v, s')) : ∃ ρ' w' v', (Instr.mapEntry t m' k').run P w = .ok v' w' ∧ Step B ρ s w ρ' s' w' ∧ VR ρ' v v' := by
  unfold mapEntryA at h
  rw [Option.bind_eq_some_iff] at h
  obtain ⟨d, hd, h⟩ := h
  split at h
  · rename_i kt e r
    rw [Option.bind_eq_some_iff] at h
    obtain ⟨kd, hkd, h⟩ := h
    rw [cond_eq_ite] at h
    split at h
    · rename_i hkey
      obtain ⟨rfl, hik⟩ := isKeyB_run hkey hk
      split at h
      · rename_i es clock hg
        rw [Option.bind_eq_some_iff] at h
        obtain ⟨f, hf, h⟩ := h
        have hcheck : ∀ b, (Instr.checkKey b 10000 kt k').run P w = .ok () w := fun b => MapKept.run_checkKey hkd hik b 9999
        cases hm with
        | map hq =>
        rename_i q
        obtain ⟨q', hq', es', h1, h2, h3⟩ := hr.blk r _ hg
        rw [hq] at hq'
        cases hq'
        rcases findNow_rel h2 hf with ⟨rfl, g1⟩ | ⟨j, v1, v1', rfl, g1, g2, e1, e2, g3, g4, g5, g6, g7, g8⟩
        · simp only at h
          rw [Option.bind_eq_some_iff] at h
          obtain ⟨i, hi, h⟩ := h
          rw [Option.bind_eq_some_iff] at h
          obtain ⟨z, hz, h⟩ := h
          rw [cond_eq_ite] at h
          split at h
          · rename_i hcl
            simp only [fV_eq, app_eq, fN_eq, Option.bind_some] at h
            rw [Option.bind_eq_some_iff] at h
            obtain ⟨s2, hp, h⟩ := h
            cases h
            refine ⟨ρ, _, .tuple #[z, goInt clock], ?_, hr.setMap (es2' := es'.push ⟨k', z, clock⟩) hg hq hp (show MRs ρ (es ++ [⟨k', z, clock⟩]) (es'.push ⟨k', z, clock⟩).toList from by rw [Array.toList_push]; exact h2.append (.cons hk (closedV_self _ hcl) rfl .nil)), .tuple (.cons (closedV_self _ hcl) (.cons (.int _ _) .nil))⟩
            simp [Instr.mapEntry, run_underlying hd, MapKept.run_getObj_map h1, hcheck, MapKept.run_findKey hkd g1, MapKept.run_setObj_map _ h1, zeroValue, typeInfo, hi, hz]
          · cases h
        · simp only [Nat.zero_add] at h g1
          rw [Option.bind_eq_some_iff] at h
          obtain ⟨en, hen, h⟩ := h
          cases h
          rw [nth_eq, g3] at hen
          cases hen
          obtain ⟨hkk, hbits⟩ := sameNow_true g5
          have hat : es'[j]? = some e2 := by simpa using g4
          have hold : ((es'[j]?).map (·.key)).getD k' = e1.key := by rw [hat]; simp [g6]
          have hb : ((es'[j]?).map (·.born)).getD 0 = e1.born := by rw [hat]; simp [g7]
          refine ⟨ρ, w, .tuple #[v1', goInt e1.born], ?_, .refl hr, .tuple (.cons g2 (.cons (.int _ _) .nil))⟩
          have hmod := modify_key (k := k') hat (by rw [g6]; exact hkk)
          simp [Instr.mapEntry, run_underlying hd, MapKept.run_getObj_map h1, hcheck, MapKept.run_findKey hkd g1, MapKept.run_setObj_map _ h1, Instr.keyThatStays, hold, hbits, hb, hmod, heap_same h1]
          rw [hat]
          simp [g7]
      · cases h
    · cases h
  · cases h
theorem setV_run {v v' : Value} (hv : VR ρ v v') : ∀ {es es2 es' : List MapEntry} {i : Nat}, MRs ρ es es' → setE v es i = some es2 → MRs ρ es2 (es'.modify i fun e => { e with val := v' })
  | _, _, _, _, .nil, h => by simp [setE] at h
  | _, es2, _, 0, .cons a b c t, h => by
    simp [setE] at h
    subst h
    simp only [List.modify_zero_cons]
    exact .cons a hv c t
  | _, es2, _, i + 1, .cons a b c t, h => by
    simp only [setE, Nat.beq, cond_false, Nat.add_sub_cancel] at h
    rw [Option.bind_eq_some_iff] at h
    obtain ⟨r, hr, h⟩ := h
    cases h
    simp only [List.modify_succ_cons]
    exact .cons a b c (setV_run hv t hr)
theorem bornAt_run {n : Nat} : ∀ {es es' : List MapEntry}, MRs ρ es es' → ∀ {i j : Nat}, bornAt n es i = some j → ∃ k, j = i + k ∧ es'.findIdx? (fun e => (e.born : Int) == (n : Int)) = some k
  | _, _, .nil, i, j, h => by simp [bornAt] at h
  | _, _, .cons (e := e) (e' := e') a b c t, i, j, h => by
    simp only [bornAt, cond_eq_ite] at h
    split at h
    · rename_i h1
      have h1 : e.born = n := by simpa using h1
      cases h
      exact ⟨0, rfl, by simp [List.findIdx?_cons, ← c, h1]⟩
    · rename_i h1
      have h1 : ¬ e.born = n := by simpa using h1
      obtain ⟨k, rfl, h2⟩ := bornAt_run t h
      refine ⟨k + 1, by omega, ?_⟩
      have : ((e'.born : Int) == (n : Int)) = false := by rw [← c]; simp; omega
      simp [List.findIdx?_cons, this, h2]
theorem entryStoreA_run {t : TypeId} {m m' st st' v v' : Value} (hr : Rel B ρ s w) (hm : VR ρ m m') (hk : VR ρ st st') (hv : VR ρ v v') (h : entryStoreA s m st v = some s') : ∃ w', (Instr.entryStore t m' st' v').run P w = .ok () w' ∧ Step B ρ s w ρ s' w' := by
  unfold entryStoreA at h
  split at h
  · rename_i r k n
    split at h
    · rename_i es clock hg
      rw [Option.bind_eq_some_iff] at h
      obtain ⟨i, hi, h⟩ := h
      rw [fV_eq] at h
      simp only [Option.bind_some] at h
      rw [Option.bind_eq_some_iff] at h
      obtain ⟨es2, h5, h⟩ := h
      cases hk
      cases hm with
      | map hq =>
      rename_i q
      obtain ⟨q', hq', es', h1, h2, h3⟩ := hr.blk r _ hg
      rw [hq] at hq'
      cases hq'
      obtain ⟨j, hj, hfi⟩ := bornAt_run h2 hi
      rw [Nat.zero_add] at hj
      subst hj
      refine ⟨_, ?_, hr.setMap (es2' := es'.modify i fun e => { e with val := v' }) hg hq h (by simpa using setV_run hv h2 h5)⟩
      have hfa : es'.findIdx? (fun e => (e.born : Int) == (n : Int)) = some i := by
        have e : es' = es'.toList.toArray := by simp
        rw [e, List.findIdx?_toArray]
        exact hfi
      simp [Instr.entryStore, MapKept.run_getObj_map h1, asInt, asIntOf, hfa, MapKept.run_setObj_map _ h1]
    · cases h
  · cases h
theorem delE_run : ∀ {es es2 es' : List MapEntry} {i : Nat}, MRs ρ es es' → delE es i = some es2 → MRs ρ es2 (es'.eraseIdx i)
  | _, _, _, _, .nil, h => by simp [delE] at h
  | _, es2, _, 0, .cons a b c t, h => by simp [delE] at h; subst h; simpa using t
  | _, es2, _, i + 1, .cons a b c t, h => by
    simp only [delE, Nat.beq, cond_false, Nat.add_sub_cancel] at h
    rw [Option.bind_eq_some_iff] at h
    obtain ⟨r, hr, h⟩ := h
    cases h
    simp only [List.eraseIdx_cons_succ]
    exact .cons a b c (delE_run t hr)
theorem deleteA_run {t t2 ty : TypeId} {m m' k k' : Value} (hr : Rel B ρ s w) (hm : VR ρ m m') (hk : VR ρ k k') (h : deleteA P s t m k = some s') : ∃ w', (Builtin.delete_ #[t, t2] ty #[m', k']).run P w = .ok (.tuple #[]) w' ∧ Step B ρ s w ρ s' w' := by
  unfold deleteA at h
  rw [Option.bind_eq_some_iff] at h
  obtain ⟨d, hd, h⟩ := h
  split at h
  · rename_i kt e r
    rw [Option.bind_eq_some_iff] at h
    obtain ⟨kd, hkd, h⟩ := h
    rw [cond_eq_ite] at h
    split at h
    · rename_i hkey
      obtain ⟨rfl, hik⟩ := isKeyB_run hkey hk
      split at h
      · rename_i es clock hg
        rw [Option.bind_eq_some_iff] at h
        obtain ⟨f, hf, h⟩ := h
        have hcheck : ∀ b, (Instr.checkKey b 10000 kt k').run P w = .ok () w := fun b => MapKept.run_checkKey hkd hik b 9999
        cases hm with
        | map hq =>
        rename_i q
        obtain ⟨q', hq', es', h1, h2, h3⟩ := hr.blk r _ hg
        rw [hq] at hq'
        cases hq'
        rcases findNow_rel h2 hf with ⟨rfl, g1⟩ | ⟨j, v1, v1', rfl, g1, g2, e1, e2, g3, g4, g5, g6, g7, g8⟩
        · cases h
          refine ⟨w, ?_, .refl hr⟩
          simp [Builtin.delete_, run_underlying hd, MapKept.run_getObj_map h1, hcheck, MapKept.run_findKey hkd g1, MapKept.run_setObj_map _ h1, heap_same h1]
        · simp only [Nat.zero_add] at h g1
          rw [Option.bind_eq_some_iff] at h
          obtain ⟨es2, h5, h⟩ := h
          have hlt : j < es'.size := by
            have := (List.getElem?_eq_some_iff.1 g4).1
            simpa using this
          refine ⟨_, ?_, hr.setMap (es2' := es'.eraseIdxIfInBounds j) hg hq h (by
            have : (es'.eraseIdxIfInBounds j).toList = es'.toList.eraseIdx j := by simp
            rw [this]
            exact delE_run h2 h5)⟩
          simp [Builtin.delete_, run_underlying hd, MapKept.run_getObj_map h1, hcheck, MapKept.run_findKey hkd g1, MapKept.run_setObj_map _ h1]
      · cases h
    · cases h
  · cases h
theorem lenA_run {t ty : TypeId} {x x' v : Value} (hr : Rel B ρ s w) (hx : VR ρ x x') (h : lenA P s t x = some v) : (Builtin.len_ #[t] ty #[x']).run P w = .ok v w ∧ VR ρ v v := by
  unfold lenA at h
  rw [Option.bind_eq_some_iff] at h
  obtain ⟨d, hd, h⟩ := h
  split at h
  · cases hx
    rw [fN_eq] at h
    cases h
    exact ⟨by simp [Builtin.len_, run_underlying hd, goInt], .int _ _⟩
  · cases h
    refine ⟨?_, .int _ _⟩
    cases hx <;> simp [Builtin.len_, run_underlying hd, goInt]
  · rename_i e a0 n c
    cases h
    refine ⟨?_, .int _ _⟩
    cases hx <;> simp [Builtin.len_, run_underlying hd, goInt]
  · cases hx
    cases h
    exact ⟨by simp [Builtin.len_, run_underlying hd, goInt], .int _ _⟩
  · rename_i kt e r
    split at h
    · rename_i es clock hg
      rw [fN_eq] at h
      cases h
      cases hx with
      | map hq =>
      rename_i q
      obtain ⟨q', hq', es', h1, h2, h3⟩ := hr.blk r _ hg
      rw [hq] at hq'
      cases hq'
      refine ⟨?_, .int _ _⟩
      have : es'.size = es.length := by rw [h2.len]; simp
      simp [Builtin.len_, run_underlying hd, MapKept.run_getObj_map h1, goInt, this]
    · cases h
  · cases h
theorem capA_run {t ty : TypeId} {x x' v : Value} (hx : VR ρ x x') (h : capA P t x = some v) : (Builtin.cap_ #[t] ty #[x']).run P w = .ok v w ∧ VR ρ v v := by
  unfold capA at h
  rw [Option.bind_eq_some_iff] at h
  obtain ⟨d, hd, h⟩ := h
  split at h
  · rename_i e a0 n c
    rw [cond_eq_ite] at h
    split at h
    · rename_i hev
      have hev : c % 2 = 0 := by simpa using hev
      rw [fN_eq] at h
      cases h
      refine ⟨?_, .int _ _⟩
      cases hx with
      | snil => simp [Builtin.cap_, run_underlying hd, goInt]
      | slc hq hc hn hro =>
        unfold CapR at hc
        rw [if_pos hev] at hc
        simp [Builtin.cap_, run_underlying hd, goInt, hc]
      | emp => omega
    · cases h
  · cases h
theorem eqA_run {t : TypeId} {x x' y y' : Value} {b : Bool} (hr : Rel B ρ s w) (hx : VR ρ x x') (hy : VR ρ y y') (h : eqA P t x y = some b) : ∀ d, (Op.equalIn (d + 1) t x' y').run P w = .ok b w := by
  intro n
  unfold eqA at h
  rw [Option.bind_eq_some_iff] at h
  obtain ⟨d, hd, h⟩ := h
  split at h
  all_goals first
    | (cases h; cases hx <;> cases hy <;> simp [Op.equalIn, run_underlying hd]; done)
    | (cases h; done)
end
end Go.Rx
