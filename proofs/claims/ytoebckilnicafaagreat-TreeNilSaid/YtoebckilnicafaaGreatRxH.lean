/-
A second reading of a program's text: making, parts, places.
-/
import Derived.Test.YtoebckilnicafaaGreatRxG
import Derived.Lib.AppendZeros
set_option linter.unusedVariables false
set_option linter.unusedSimpArgs false
namespace Go.Rx
open Go.RowKit
theorem repL_eq (z : List Value) : ∀ n, repL z n = some ((List.replicate n z).flatten)
  | 0 => rfl
  | n + 1 => by simp [repL, repL_eq z n, app_eq, List.replicate_succ]
theorem rep_range {α : Type} (f : Nat → α) (m : Nat) (hm : 0 < m) : ∀ k, (List.range (k * m)).map (fun i => f (i % m)) = (List.replicate k ((List.range m).map f)).flatten
  | 0 => by simp
  | k + 1 => by
    rw [Nat.add_mul, Nat.one_mul, List.range_add, List.map_append, rep_range f m hm k, List.replicate_succ', List.flatten_append]
    congr 1
    simp only [List.flatten_singleton, List.map_map]
    apply List.map_congr_left
    intro i hi
    simp only [List.mem_range] at hi
    simp [Nat.mod_eq_of_lt hi]
theorem range_self (z : Array Value) : (List.range z.size).map (fun i => z[i]!) = z.toList := by
  apply List.ext_getElem (by simp)
  intro i h1 h2
  simp at h1
  simp [h1]
theorem zeros_list (z : Array Value) (k : Nat) (hz : 0 < z.size) : ((Array.range (k * z.size)).map (z[· % z.size]!)).toList = (List.replicate k z.toList).flatten := by
  rw [← range_self z, ← rep_range (fun i => z[i]!) z.size hz k]
  simp
theorem zeros_list0 (z : Array Value) (k : Nat) : ((Array.range (k * 0)).map (z[· % z.size]!)).toList = [] := by simp
section
variable {P : Program} {B : Nat} {ρ : Ren} {s s' : S} {w : World} {fr fr' : Fr} {a : Act}
theorem closedVs_app : ∀ {l m : List Value}, closedVs l = true → closedVs m = true → closedVs (l ++ m) = true
  | [], _, _, h => h
  | v :: l, m, h, k => by
    simp only [closedVs, Bool.and_eq_true] at h
    simp only [List.cons_append, closedVs, Bool.and_eq_true]
    exact ⟨h.1, closedVs_app h.2 k⟩
theorem closedVs_rep {l : List Value} (h : closedVs l = true) : ∀ n, closedVs ((List.replicate n l).flatten) = true
  | 0 => rfl
  | n + 1 => by
    rw [List.replicate_succ, List.flatten_cons]
    exact closedVs_app h (closedVs_rep h n)
theorem appendB_run {t tx ty : TypeId} {sv sv' xv xv' v : Value} (hr : Rel B ρ s w) (hs : VR ρ sv sv') (hx : VR ρ xv xv') (h : appendB P s t tx sv xv = some (v, s')) :
    ∃ ρ' w' v', (Builtin.append_ #[t, tx] ty #[sv', xv']).run P w = .ok v' w' ∧ Step B ρ s w ρ' s' w' ∧ VR ρ' v v' := by
  unfold appendB at h
  rw [Option.bind_eq_some_iff] at h
  obtain ⟨d, hd, h⟩ := h
  split at h
  · rename_i kn
    unfold appendZ at h
    rw [Option.bind_eq_some_iff] at h
    obtain ⟨d2, ht, h⟩ := h
    split at h
    · rename_i e
      rw [Option.bind_eq_some_iff] at h
      obtain ⟨i, hi, h⟩ := h
      rw [Option.bind_eq_some_iff] at h
      obtain ⟨zv, hz, h⟩ := h
      split at h
      · rename_i k n
        rw [cond_eq_ite] at h
        split at h
        · rename_i hc
          simp only [Bool.and_eq_true, Nat.ble_eq, Nat.beq_eq, Nat.blt_eq] at hc
          obtain ⟨⟨⟨⟨c1, c2⟩, c3⟩, c4⟩, c5⟩ := hc
          simp only [repL_eq, fN_eq, Option.bind_some] at h
          obtain ⟨_, _, rfl⟩ := hs.slice0
          cases hx
          have hzs : zv.cells.size = i.size := by rw [← c2]; simp
          have hrun := Lib.run_append_nil_zeros (P := P) w t tx ty e i zv k kn ht hd hi hz n c4 c3 (by omega) (by omega)
          have hge : n ≤ grownCap w n 0 e := by have := grownCap_ge w n 0 e; omega
          obtain ⟨ρ', g1, g2⟩ := rowA_run (w := w.drew) (e := e) (a := Builtin.zeroCells zv.cells n ++ Builtin.zeroCells zv.cells (grownCap w n 0 e - n)) (pre := (List.replicate n zv.cells.toList).flatten) (post := (Builtin.zeroCells zv.cells (grownCap w n 0 e - n)).toList) (c' := grownCap w n 0 e) hr.drew (closedVs_self _ (closedVs_rep c1 n)) (by
            rw [Array.toList_append]
            congr 1
            exact zeros_list zv.cells n (by omega)) (by unfold CapR; rw [if_neg (by omega)]; omega) (by omega) (fun _ => by
            rw [Array.size_append, zeroCells_size, zeroCells_size, hzs, ← Nat.add_mul]
            exact Nat.mul_le_mul_right _ (by omega)) h
          exact ⟨ρ', _, _, hrun, (Step.drew hr).trans g1, g2⟩
        · cases h
      · cases h
    · cases h
  · exact appendA_run hr hs hx h
theorem makeSliceA_run {t : TypeId} {len len' cap cap' v : Value} (hr : Rel B ρ s w) (hl : VR ρ len len') (hc : VR ρ cap cap') (h : makeSliceA P s t len cap = some (v, s')) :
    ∃ ρ' w' v', (Instr.makeSlice t len' cap').run P w = .ok v' w' ∧ Step B ρ s w ρ' s' w' ∧ VR ρ' v v' := by
  unfold makeSliceA at h
  rw [Option.bind_eq_some_iff] at h
  obtain ⟨d, hd, h⟩ := h
  split at h
  · rename_i e k l k2 c
    cases hl
    cases hc
    rw [Option.bind_eq_some_iff] at h
    obtain ⟨i, hi, h⟩ := h
    rw [Option.bind_eq_some_iff] at h
    obtain ⟨zv, hz, h⟩ := h
    rw [cond_eq_ite] at h
    split at h
    · rename_i hcc
      simp only [Bool.and_eq_true, Nat.ble_eq, Nat.beq_eq] at hcc
      obtain ⟨⟨⟨⟨⟨c1, c2⟩, c3⟩, c4⟩, c5⟩, c6⟩ := hcc
      simp only [repL_eq, fN_eq, Option.bind_some] at h
      have hzs : zv.cells.size = i.size := by rw [← c5]; simp
      obtain ⟨ρ', g1, g2⟩ := rowA_run (w := w) (e := e) (a := madeCells zv.cells (((c : Int)).toNat * i.size)) (pre := (List.replicate c zv.cells.toList).flatten) (post := []) (c' := c) hr (closedVs_self _ (closedVs_rep c4 c)) (by rw [List.append_nil, ← hzs]; exact zeros_list _ _ (by omega)) (by simp [CapR]) (by omega) (by omega) h
      have hrun := run_make (P := P) w t e i zv hd hi hz k k2 (l : Int) (c : Int) (by omega) (by omega) (by
        have : ((i.bytes * c : Nat) : Int) = (i.bytes : Int) * (c : Int) := by simp
        omega) (by omega)
      exact ⟨ρ', _, _, hrun, g1, g2⟩
    · cases h
  · cases h
/-! Filling. -/
theorem sets_fold (off : Nat) : ∀ (vs : List Value) (k : Nat) (cs : Array Value), ((vs.zipIdx k).foldl (fun cs (x : Value × Nat) => cs.setIfInBounds (off + x.2) x.1) cs).toList = sets cs.toList (off + k) vs
  | [], k, cs => by simp [sets]
  | v :: vs, k, cs => by
    simp only [List.zipIdx_cons, List.foldl_cons]
    rw [sets_fold off vs (k + 1)]
    simp [sets, Nat.add_assoc]
def PR (ρ : Ren) : List (Nat × Value) → List (Nat × Value) → Prop
  | [], [] => True
  | (i, v) :: l, (i', v') :: l' => i = i' ∧ VR ρ v v' ∧ PR ρ l l'
  | _, _ => False
theorem fillA_run {place : Nat → Option (Nat × Nat)} : ∀ {parts parts' : List (Nat × Value)} {cs cs2 : List Value} {cs' : Array Value}, PR ρ parts parts' → VRs ρ cs cs'.toList → fillA place cs parts = some cs2 → ∃ c2, Instr.fill place cs' parts' = some c2 ∧ VRs ρ cs2 c2.toList ∧ c2.size = cs'.size
  | [], [], cs, cs2, cs', _, hv, h => by simp [fillA] at h; subst h; exact ⟨cs', rfl, hv, rfl⟩
  | [], (_, _) :: _, _, _, _, hp, _, _ => by simp [PR] at hp
  | (_, _) :: _, [], _, _, _, hp, _, _ => by simp [PR] at hp
  | (i, v) :: l, (i', v') :: l', cs, cs2, cs', hp, hv, h => by
    obtain ⟨rfl, hvv, hp⟩ := hp
    simp only [fillA] at h
    rw [Option.bind_eq_some_iff] at h
    obtain ⟨⟨off, size⟩, h1, h⟩ := h
    simp only [cond_eq_ite] at h
    split at h
    · rename_i hs
      simp only [Bool.and_eq_true, Nat.beq_eq, Nat.ble_eq] at hs
      obtain ⟨hs, hs2⟩ := hs
      rw [Option.bind_eq_some_iff] at h
      obtain ⟨c3, h3, h⟩ := h
      obtain ⟨rfl, hl⟩ := setLs_eq _ _ _ _ h3
      have hvc := hvv.cells
      have hsz : v'.cells.size = size := by rw [← hs, hvc.len]; simp
      have hlen : cs'.size = cs.length := by rw [hv.len]; simp
      have hfold : (v'.cells.zipIdx.foldl (fun cs (c, j) => cs.setIfInBounds (off + j) c) cs').toList = sets cs'.toList off v'.cells.toList := by
        have := sets_fold off v'.cells.toList 0 cs'
        rw [Nat.add_zero] at this
        rw [← this, ← Array.foldl_toList]
        simp
      have hv3 : VRs ρ (sets cs off v.cells.toList) (v'.cells.zipIdx.foldl (fun cs (c, j) => cs.setIfInBounds (off + j) c) cs').toList := by rw [hfold]; exact hvc.sets hv off
      obtain ⟨c2, g1, g2, g3⟩ := fillA_run hp hv3 h
      refine ⟨c2, ?_, g2, ?_⟩
      · unfold Instr.fill
        simp only [h1]
        rw [if_neg]
        · exact g1
        · rw [hsz]
          simp
          omega
      · rw [g3, ← Array.length_toList, hfold, sets_len]
        simp
    · cases h
end
end Go.Rx
