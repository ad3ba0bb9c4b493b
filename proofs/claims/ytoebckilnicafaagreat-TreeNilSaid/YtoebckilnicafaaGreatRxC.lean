/-
A second reading of a program's text: reading and writing memory.
-/
import Derived.Test.YtoebckilnicafaaGreatRxB
set_option linter.unusedVariables false
set_option linter.unusedSimpArgs false
namespace Go.Rx
open Go.RowKit
/-! Cells written one behind the other. -/
def sets {α : Type} : List α → Nat → List α → List α
  | l, _, [] => l
  | l, o, v :: vs => sets (l.set o v) (o + 1) vs
theorem sets_len {α : Type} : ∀ (vs l : List α) (o : Nat), (sets l o vs).length = l.length
  | [], _, _ => rfl
  | v :: vs, l, o => by simp [sets, sets_len vs]
def setLs : List Value → Nat → List Value → Option (List Value)
  | cs, _, [] => some cs
  | cs, o, v :: vs => (fV v).bind fun v => (setL cs o v).bind fun cs' => setLs cs' (o + 1) vs
theorem setLs_eq : ∀ (vs cs : List Value) (o : Nat) (cs2 : List Value), setLs cs o vs = some cs2 → cs2 = sets cs o vs ∧ (vs = [] ∨ o + vs.length ≤ cs.length)
  | [], _, _, _, h => by simp [setLs] at h; exact ⟨h.symm, .inl rfl⟩
  | v :: vs, cs, o, cs2, h => by
    simp only [setLs, fV_eq, Option.bind_some] at h
    obtain ⟨c3, h3, h4⟩ := Option.bind_eq_some_iff.1 h
    obtain ⟨hlt, rfl⟩ := setL_eq _ _ _ _ h3
    obtain ⟨h5, h6⟩ := setLs_eq vs _ _ _ h4
    refine ⟨h5, .inr ?_⟩
    rcases h6 with rfl | h6
    · simp; omega
    · simp at h6 ⊢; omega
section
variable {P : Program} {B : Nat} {ρ : Ren} {s s' : S} {w : World}
theorem VRs.sets : ∀ {vs vs' : List Value}, VRs ρ vs vs' → ∀ {l l' : List Value}, VRs ρ l l' → ∀ o, VRs ρ (Rx.sets l o vs) (Rx.sets l' o vs')
  | _, _, .nil, _, _, k, _ => k
  | _, _, .cons e t, _, _, k, o => VRs.sets t (k.set o e) (o + 1)
theorem VR.cells {v v' : Value} (h : VR ρ v v') : VRs ρ v.cells.toList v'.cells.toList := by
  cases h with
  | agg h => exact h
  | _ => refine .cons ?_ .nil; constructor <;> assumption
theorem VRs.one : ∀ {l l' : List Value}, VRs ρ l l' → (∀ u ∈ l, u.oneCell' = true) → ∀ u ∈ l', u.oneCell' = true
  | _, _, .nil, _, u, hu => by simp at hu
  | _, _, .cons e t, h, u, hu => by
    rcases List.mem_cons.1 hu with rfl | hu
    · rw [e.one]; exact h _ (by simp)
    · exact VRs.one t (fun x hx => h x (by simp [hx])) u hu
theorem rangeAt_set {b d o : Nat} {cs : List Value} {v : Value} (h : w.rangeAt b d cs) (ho : o < cs.length) : (w.setCell ⟨b, d + o, none⟩ v).rangeAt b d (cs.set o v) := fun j u hu => by
  rw [List.getElem?_set] at hu
  split at hu
  · rename_i e
    subst e
    simp only [ho, if_true, Option.some.injEq] at hu
    subst hu
    exact World.cell?_setCell_same _ _ _ (h o _ (List.getElem?_eq_getElem ho))
  · rename_i e
    rw [World.cell?_setCell_other _ _ _ _ (by intro e2; injection e2; omega)]
    exact h j u hu
theorem rangeAt_sets {b d : Nat} : ∀ (vs : List Value) (o : Nat) (cs : List Value) (w : World), w.rangeAt b d cs → (vs = [] ∨ o + vs.length ≤ cs.length) → (w.setCells b (d + o) vs).rangeAt b d (sets cs o vs)
  | [], _, _, _, h, _ => h
  | v :: vs, o, cs, w, h, hl => by
    rcases hl with hl | hl
    · cases hl
    simp only [List.length_cons] at hl
    rw [World.setCells, sets]
    exact rangeAt_sets vs (o + 1) _ _ (rangeAt_set h (by omega)) (.inr (by rw [List.length_set]; omega))
theorem there_part {b N o n : Nat} (h : w.there b 0 N) (hl : o + n ≤ N) : w.there b o n := fun j hj => by
  have := h (o + j) (by omega)
  simpa using this
theorem run_storeVar_any {b o : Nat} {ty : TypeId} {v : Value} (ht : w.there b o v.cells.size) (hi : (P.info? ty).map (·.size) = some v.cells.size) (h1 : ∀ u ∈ v.cells.toList, u.oneCell' = true) :
    (storeVar ty ⟨b, o, none⟩ v).run P w = .ok () (w.setCells b o v.cells.toList) := by
  have := run_storeCells_cells (P := P) b o v.cells.toList 0 w (fun j hj => by simpa using (ht j (by simpa using hj)).1) (fun j hj => by simpa using (ht j (by simpa using hj)).2) h1
  cases hq : P.info? ty with
  | none => simp [hq] at hi
  | some i =>
    have hs : v.cells.size = i.size := by simp [hq] at hi; omega
    simp only [Nat.add_zero] at this
    simp [storeVar, sizeOf, typeInfo, hq, hs, this]
/-! The reading's load and store. -/
def loadA (P : Program) (s : S) (t : TypeId) : Value → Option Value
  | .pointer (some ⟨b, o, none⟩) =>
    match s.get b with
    | some (.cells cs _ _) =>
      (P.underlying t).bind fun d =>
        bif d.isRow then (P.info? t).bind fun i => (takeL i.size (cs.drop o)).bind fun l => some (.agg ⟨l⟩)
        else nth cs o
    | _ => none
  | _ => none
def allOne : List Value → Bool
  | [] => true
  | .agg _ :: _ | .tuple _ :: _ => false
  | _ :: l => allOne l
theorem allOne_eq : ∀ (l : List Value), allOne l = true → ∀ u ∈ l, u.oneCell' = true
  | [], _, u, hu => by simp at hu
  | v :: l, h, u, hu => by
    unfold allOne at h
    split at h
    · simp at *
    · cases h
    · cases h
    · rename_i v' l' h1 h2 e
      cases e
      rcases List.mem_cons.1 hu with rfl | hu
      · cases u <;> simp_all [Value.oneCell']
      · exact allOne_eq _ h u hu
def storeA (P : Program) (s : S) (t : TypeId) (p v : Value) : Option S :=
  match p with
  | .pointer (some ⟨b, o, none⟩) =>
    match s.get b with
    | some (.cells cs false z) =>
      (P.info? t).bind fun i =>
        bif Nat.beq v.cells.toList.length i.size && allOne v.cells.toList then (setLs cs o v.cells.toList).bind fun cs' => s.put b (some (.cells cs' false z)) else none
    | _ => none
  | _ => none
theorem rangeAt_drop {b d : Nat} {cs : List Value} (h : w.rangeAt b d cs) (o : Nat) : w.rangeAt b (d + o) (cs.drop o) := fun j v hv => by
  rw [List.getElem?_drop] at hv
  have := h _ _ hv
  rwa [← Nat.add_assoc] at this
theorem rangeAt_take {b d : Nat} {cs : List Value} (h : w.rangeAt b d cs) (n : Nat) : w.rangeAt b d (cs.take n) := fun j v hv => by
  rw [List.getElem?_take] at hv
  split at hv
  · exact h _ _ hv
  · cases hv
theorem loadA_run {t : TypeId} {p p' v : Value} (hr : Rel B ρ s w) (hp : VR ρ p p') (h : loadA P s t p = some v) : ∃ v', (Instr.loadAt t p').run P w = .ok v' w ∧ VR ρ v v' := by
  unfold loadA at h
  split at h
  · rename_i b o
    split at h
    · rename_i cs ro z hb
      cases hp with
      | ptr hq =>
      rename_i q
      obtain ⟨q', hq', cs', h1, h2, h3, h4, h5⟩ := hr.blk b _ hb
      rw [hq] at hq'
      cases hq'
      obtain ⟨d, hd, h⟩ := Option.bind_eq_some_iff.1 h
      cases hrow : d.isRow
      · rw [hrow] at h
        simp only [cond_false] at h
        rw [nth_eq] at h
        obtain ⟨v', hv', hvr⟩ := h1.at h
        refine ⟨v', ?_, hvr⟩
        have hc := h2 _ _ hv'
        have hagg : (isAgg t).run P w = .ok false w := by
          unfold isAgg
          rw [Sem.run_bind, run_underlying hd w]
          cases d <;> simp_all
        simp [Instr.loadAt, Instr.sureAddr, loadVar, hagg, hc]
      · rw [hrow] at h
        simp only [cond_true] at h
        obtain ⟨i, hi, h⟩ := Option.bind_eq_some_iff.1 h
        obtain ⟨l, hl, h⟩ := Option.bind_eq_some_iff.1 h
        cases h
        obtain ⟨hle, rfl⟩ := takeL_eq _ _ _ hl
        have hv2 := (h1.drop o).take i.size
        refine ⟨.agg ((cs'.drop o).take i.size).toArray, run_loadAt_mid w q.b (q.d + o) t _ d (rangeAt_take (rangeAt_drop h2 o) _) hd hrow ?_, .agg hv2⟩
        have hln : ((cs'.drop o).take i.size).length = i.size := by
          have := h1.len
          rw [List.length_take]
          simp at hle ⊢
          omega
        rw [hi, hln]
        rfl
    · cases h
  · cases h
theorem storeA_run {t : TypeId} {p p' v v' : Value} (hr : Rel B ρ s w) (hp : VR ρ p p') (hv : VR ρ v v') (h : storeA P s t p v = some s') : ∃ w', (Instr.storeAt t p' v').run P w = .ok () w' ∧ Step B ρ s w ρ s' w' := by
  unfold storeA at h
  split at h
  · rename_i b o
    split at h
    · rename_i cs z hb
      cases hp with
      | ptr hq =>
      rename_i q
      obtain ⟨q', hq', cs', h1, h2, h3, h4, h5⟩ := hr.blk b _ hb
      rw [hq] at hq'
      cases hq'
      obtain ⟨i, hi, h⟩ := Option.bind_eq_some_iff.1 h
      rw [cond_eq_ite] at h
      split at h
      · rename_i hc
        simp only [Bool.and_eq_true, Nat.beq_eq] at hc
        obtain ⟨cs2, h6, h7⟩ := Option.bind_eq_some_iff.1 h
        obtain ⟨rfl, hlen⟩ := setLs_eq _ _ _ _ h6
        have hvc := hv.cells
        have hsz : v'.cells.size = i.size := by
          rw [← hc.1, hvc.len]; simp
        have hlen' : v'.cells.toList = [] ∨ o + v'.cells.toList.length ≤ cs'.length := by
          rcases hlen with e | e
          · left
            have := hvc.len
            rw [e] at this
            exact List.eq_nil_of_length_eq_zero this.symm
          · right; rw [← hvc.len, ← h1.len]; exact e
        have hth : w.there q.b (q.d + o) v'.cells.size := by
          rcases hlen with e | e
          · have := hvc.len
            rw [e] at this
            intro j hj
            simp at this
            omega
          · refine there_part (h5 rfl).2 ?_
            have := hvc.len
            simp at this e
            omega
        refine ⟨_, ?_, hr.setCells (o := q.d + o) (vs' := v'.cells.toList) hb hq h7 (sets_len _ _ _) (VRs.sets hvc h1 o) (rangeAt_sets _ _ _ _ h2 hlen')⟩
        simp only [Instr.storeAt, Instr.sureAddr, Sem.run_bind, Sem.run_pure, Result.andThen_ok]
        exact run_storeVar_any hth (by rw [hi, hsz]; rfl) (hvc.one (allOne_eq _ hc.2))
      · cases h
    · cases h
  · cases h
/-! New blocks. -/
theorem OR.new {cs pre : List Value} {c : Array Value} {e : TypeId} {z : Nat} {post : List Value} (hv : VRs ρ cs pre) (hc : c.toList = pre ++ post) (hB : B ≤ w.heap.size) :
    OR ρ B (w.alloc (.cells c e)) ⟨w.heap.size, 0, c.size, z⟩ (.cells cs false z) := by
  have hcell : ∀ j, (w.alloc (.cells c e)).cell? ⟨w.heap.size, j, none⟩ = c[j]? := fun j => by simp
  have hlen : c.size = pre.length + post.length := by rw [← Array.length_toList, hc, List.length_append]
  refine ⟨pre, hv, fun j v hj => ?_, ?_, rfl, fun _ => ⟨hB, fun j hj => ⟨?_, ?_⟩⟩⟩
  · simp only [Nat.zero_add]
    rw [hcell, ← Array.getElem?_toList, hc, List.getElem?_append_left (List.getElem?_eq_some_iff.1 hj).1]
    exact hj
  · show 0 + cs.length ≤ c.size
    rw [hv.len, hlen]
    omega
  · show ((w.alloc (.cells c e)).cell? ⟨w.heap.size, 0 + j, none⟩).isSome = true
    rw [Nat.zero_add, hcell]
    have hj' : j < c.size := hj
    simp [hj']
  · simp
def newA (s : S) (cs : List Value) (z : Nat) : Option (Value × S) := (s.push (.cells cs false z)).bind fun (i, s') => some (.pointer (some ⟨i, 0, none⟩), s')
theorem newA_run {cs : List Value} {z : Nat} {v : Value} {c : Array Value} {e : TypeId} (hr : Rel B ρ s w) (hv : VRs ρ cs c.toList) (h : newA s cs z = some (v, s')) :
    ∃ ρ', Step B ρ s w ρ' s' (w.alloc (.cells c e)) ∧ VR ρ' v (.pointer (some ⟨w.heap.size, 0, none⟩)) := by
  obtain ⟨⟨i, s2⟩, h1, h2⟩ := Option.bind_eq_some_iff.1 h
  cases h2
  have hst := hr.alloc (q := ⟨w.heap.size, 0, c.size, z⟩) (ob := .cells c e) h1 rfl (OR.new (hv.mono (hr.fresh _)) (post := []) (by simp) hr.size)
  exact ⟨_, hst, .ptr (q := ⟨w.heap.size, 0, c.size, z⟩) (Ren.add_at _ _ _)⟩
def allocA (P : Program) (s : S) (e : TypeId) : Option (Value × S) :=
  (P.info? e).bind fun i => i.zero.bind fun zv => bif closedVs zv.cells.toList then newA s zv.cells.toList i.size else none
theorem allocA_run {e : TypeId} {v : Value} (hr : Rel B ρ s w) (h : allocA P s e = some (v, s')) :
    ∃ ρ' w' v', (Instr.alloc e true (.tuple #[])).run P w = .ok v' w' ∧ Step B ρ s w ρ' s' w' ∧ VR ρ' v v' := by
  obtain ⟨i, hi, h⟩ := Option.bind_eq_some_iff.1 h
  obtain ⟨zv, hz, h⟩ := Option.bind_eq_some_iff.1 h
  rw [cond_eq_ite] at h
  split at h
  · rename_i hc
    obtain ⟨ρ', h1, h2⟩ := newA_run (c := zv.cells) (e := e) hr (closedVs_self _ hc) h
    exact ⟨ρ', _, _, by simp [Instr.alloc, zeroValue, typeInfo, hi, hz, newVar, newRow], h1, h2⟩
  · cases h
def boxA (P : Program) (s : S) (e : TypeId) (x : Value) : Option (Value × S) := (P.info? e).bind fun i => newA s x.cells.toList i.size
theorem boxA_run {e : TypeId} {v x x' : Value} (hr : Rel B ρ s w) (hx : VR ρ x x') (h : boxA P s e x = some (v, s')) :
    ∃ ρ' w' v', (Instr.box e x').run P w = .ok v' w' ∧ Step B ρ s w ρ' s' w' ∧ VR ρ' v v' := by
  obtain ⟨i, hi, h⟩ := Option.bind_eq_some_iff.1 h
  obtain ⟨ρ', h1, h2⟩ := newA_run (c := x'.cells) (e := e) hr hx.cells h
  exact ⟨ρ', _, _, by simp [Instr.box, newVar, newRow], h1, h2⟩
end
end Go.Rx
