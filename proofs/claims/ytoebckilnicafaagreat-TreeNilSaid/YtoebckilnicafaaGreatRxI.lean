/-
A second reading of a program's text: structs, places, text, maps.
-/
import Derived.Test.YtoebckilnicafaaGreatRxH
set_option linter.unusedVariables false
set_option linter.unusedSimpArgs false
namespace Go.Rx
open Go.RowKit
section
variable {P : Program} {B : Nat} {ρ : Ren} {s s' : S} {w : World} {fr fr' : Fr} {a : Act}
theorem evParts_run (hf : FR ρ fr a) : ∀ {l : List (Nat × Operand)} {ps : List (Nat × Value)}, evParts fr l = some ps → PR ρ ps (l.map fun (i, x) => (i, a.eval x))
  | [], ps, h => by simp [evParts] at h; subst h; trivial
  | (i, x) :: l, ps, h => by
    simp only [evParts, cond_eq_ite] at h
    split at h
    · rename_i hx
      rw [Option.bind_eq_some_iff] at h
      obtain ⟨r, hr, h⟩ := h
      cases h
      exact ⟨rfl, hf.op hx, evParts_run hf hr⟩
    · cases h
theorem placesA_eq : ∀ {l : List Field} {r : List (Nat × Nat)}, placesA P l = some r → l.mapM (fun f => (P.info? f.type).map fun i => (f.offset, i.size)) = some r
  | [], r, h => by simp [placesA] at h; subst h; rfl
  | f :: l, r, h => by
    simp only [placesA] at h
    rw [Option.bind_eq_some_iff] at h
    obtain ⟨i, hi, h⟩ := h
    rw [Option.bind_eq_some_iff] at h
    obtain ⟨r2, h2, h⟩ := h
    cases h
    simp [List.mapM_cons, hi, placesA_eq h2]
theorem buildA_run {t : TypeId} {ps : List (Nat × Value)} {parts' : Array (Nat × Value)} {v : Value} (hp : PR ρ ps parts'.toList) (h : buildA P t ps = some v) : ∃ v', (Instr.build t parts').run P w = .ok v' w ∧ VR ρ v v' := by
  unfold buildA at h
  rw [Option.bind_eq_some_iff] at h
  obtain ⟨it, hit, h⟩ := h
  rw [Option.bind_eq_some_iff] at h
  obtain ⟨z, hz, h⟩ := h
  rw [Option.bind_eq_some_iff] at h
  obtain ⟨d, hd, h⟩ := h
  rw [cond_eq_ite] at h
  split at h
  · rename_i hc
    split at h
    · rename_i n e
      rw [Option.bind_eq_some_iff] at h
      obtain ⟨ie, hie, h⟩ := h
      rw [Option.bind_eq_some_iff] at h
      obtain ⟨cs, hcs, h⟩ := h
      cases h
      obtain ⟨c2, g1, g2, _⟩ := fillA_run (cs' := z.cells) hp (closedVs_self _ hc) hcs
      exact ⟨_, run_build w t parts' c2 (by unfold Program.built; simp only [hit, hd, hz, hie]; exact g1), .agg g2⟩
    · rename_i fields
      rw [Option.bind_eq_some_iff] at h
      obtain ⟨pl, hpl, h⟩ := h
      rw [Option.bind_eq_some_iff] at h
      obtain ⟨cs, hcs, h⟩ := h
      cases h
      obtain ⟨c2, g1, g2, _⟩ := fillA_run (cs' := z.cells) hp (closedVs_self _ hc) hcs
      refine ⟨_, run_build w t parts' c2 ?_, .agg g2⟩
      unfold Program.built
      simp only [hit, hd, hz, placesA_eq hpl]
      rw [← g1]
      congr 1
      funext i
      rw [nth_eq]
      simp
    · cases h
  · cases h
theorem fill_empty {place : Nat → Option (Nat × Nat)} {z : Array Value} (hz : ∀ i, place i = none ∨ True) : True := trivial
theorem buildSliceA_run {t : TypeId} {len : Nat} {ps : List (Nat × Value)} {parts' : Array (Nat × Value)} {v : Value} (hr : Rel B ρ s w) (hp : PR ρ ps parts'.toList) (h : buildSliceA P s t len ps = some (v, s')) :
    ∃ ρ' w' v', (Instr.buildSlice t len parts').run P w = .ok v' w' ∧ Step B ρ s w ρ' s' w' ∧ VR ρ' v v' := by
  unfold buildSliceA at h
  rw [Option.bind_eq_some_iff] at h
  obtain ⟨d, hd, h⟩ := h
  split at h
  · rename_i e
    rw [Option.bind_eq_some_iff] at h
    obtain ⟨i, hi, h⟩ := h
    rw [Option.bind_eq_some_iff] at h
    obtain ⟨zv, hz, h⟩ := h
    rw [cond_eq_ite] at h
    split at h
    · rename_i hc
      simp only [Bool.and_eq_true, Nat.ble_eq, Nat.beq_eq] at hc
      obtain ⟨⟨c1, c2⟩, c3⟩ := hc
      simp only [repL_eq, fN_eq, Option.bind_some] at h
      rw [Option.bind_eq_some_iff] at h
      obtain ⟨cs, hcs, h⟩ := h
      have hzs : zv.cells.size = i.size := by rw [← c2]; simp
      by_cases hn : len * i.size = 0
      · have hz0 : ((List.replicate len zv.cells.toList).flatten) = [] := by
          apply List.eq_nil_of_length_eq_zero
          rw [List.length_flatten]
          simp
          rw [hzs]
          exact hn
        rw [hz0] at hcs
        obtain ⟨c4, g1, g2, g3⟩ := fillA_run (cs' := (Array.range (len * i.size)).map ((#[] : Array Value)[· % (#[] : Array Value).size]!)) hp (by rw [hn]; simp; exact .nil) hcs
        obtain ⟨ρ', j1, j2⟩ := rowA_run (w := w) (e := e) (a := c4) (pre := c4.toList) (post := []) (c' := len) hr g2 (by simp) (by simp [CapR]) (by omega) (by omega) h
        refine ⟨ρ', _, _, ?_, j1, j2⟩
        have hsmall : ¬ (16777216 < len * i.size) := by omega
        have g1' := g1
        simp only [hn] at g1'
        simp [Instr.buildSlice, run_underlying hd, sizeOf, typeInfo, hi, hsmall, hn, newRow, g1']
        simp at g1'
        simp [g1']
      · obtain ⟨c4, g1, g2, g3⟩ := fillA_run (cs' := (Array.range (len * i.size)).map (zv.cells[· % zv.cells.size]!)) hp (by
          have hpos : 0 < zv.cells.size := by
            rw [hzs]
            rcases Nat.eq_zero_or_pos i.size with e1 | e1
            · rw [e1] at hn; simp at hn
            · exact e1
          rw [← hzs, zeros_list _ _ hpos]
          exact closedVs_self _ (closedVs_rep c1 len)) hcs
        obtain ⟨ρ', j1, j2⟩ := rowA_run (w := w) (e := e) (a := c4) (pre := c4.toList) (post := []) (c' := len) hr g2 (by simp) (by simp [CapR]) (by omega) (by omega) h
        exact ⟨ρ', _, _, run_buildSlice w t e len parts' c4 i zv hd hi hz (by omega) hn g1, j1, j2⟩
    · cases h
  · cases h
/-! Parts. -/
theorem partA_run {t : TypeId} {cs cs' : Array Value} {off : Nat} {v : Value} (hv : VRs ρ cs.toList cs'.toList) (h : partA P t cs.toList off = some v) : ∃ v', (part t cs' off).run P w = .ok v' w ∧ VR ρ v v' := by
  unfold partA at h
  rw [Option.bind_eq_some_iff] at h
  obtain ⟨d, hd, h⟩ := h
  cases hrow : d.isRow
  · rw [hrow] at h
    simp only [cond_false] at h
    rw [nth_eq] at h
    obtain ⟨v', hv', hvr⟩ := hv.at h
    refine ⟨v', ?_, hvr⟩
    have hagg : (isAgg t).run P w = .ok false w := by
      unfold isAgg
      rw [Sem.run_bind, run_underlying hd w]
      cases d <;> simp_all
    have : cs'[off]? = some v' := by simpa using hv'
    simp [part, hagg, this]
  · rw [hrow] at h
    simp only [cond_true] at h
    rw [Option.bind_eq_some_iff] at h
    obtain ⟨i, hi, h⟩ := h
    rw [Option.bind_eq_some_iff] at h
    obtain ⟨l, hl, h⟩ := h
    cases h
    obtain ⟨hle, rfl⟩ := takeL_eq _ _ _ hl
    have hagg : (isAgg t).run P w = .ok true w := by
      unfold isAgg
      rw [Sem.run_bind, run_underlying hd w]
      cases d <;> simp_all
    refine ⟨.agg (cs'.extract off (off + i.size)), by simp [part, hagg, sizeOf, typeInfo, hi], .agg ?_⟩
    have := (hv.drop off).take i.size
    have e : (cs'.extract off (off + i.size)).toList = (cs'.toList.drop off).take i.size := by
      rw [Array.toList_extract, List.extract_eq_take_drop]
      congr 1
      omega
    rw [e]
    exact this
theorem fieldA_run {t : TypeId} {x x' v : Value} {f : Nat} (hx : VR ρ x x') (h : fieldA P t x f = some v) : ∃ v', (Instr.field t x' f).run P w = .ok v' w ∧ VR ρ v v' := by
  unfold fieldA at h
  rw [Option.bind_eq_some_iff] at h
  obtain ⟨d, hd, h⟩ := h
  split at h
  · rename_i fields cs
    rw [Option.bind_eq_some_iff] at h
    obtain ⟨fd, hfd, h⟩ := h
    rw [nth_eq] at hfd
    cases hx with
    | agg hv =>
    obtain ⟨v', g1, g2⟩ := partA_run (P := P) (w := w) hv h
    have : fields[f]? = some fd := by simpa using hfd
    exact ⟨v', by simp [Instr.field, run_underlying hd, this, asAgg, g1], g2⟩
  · cases h
theorem fieldAddrA_run {t : TypeId} {x x' v : Value} {f : Nat} (hx : VR ρ x x') (h : fieldAddrA P t x f = some v) : ∃ v', (Instr.fieldAt t x' f).run P w = .ok v' w ∧ VR ρ v v' := by
  unfold fieldAddrA at h
  rw [Option.bind_eq_some_iff] at h
  obtain ⟨d, hd, h⟩ := h
  split at h
  · rename_i fields b o
    rw [Option.bind_eq_some_iff] at h
    obtain ⟨fd, hfd, h⟩ := h
    rw [nth_eq] at hfd
    rw [Option.bind_eq_some_iff] at h
    obtain ⟨i, hi, h⟩ := h
    rw [cond_eq_ite] at h
    split at h
    · cases h
    · rename_i hsz
      have hsz : i.size ≠ 0 := by simpa using hsz
      rw [fN_eq] at h
      cases h
      cases hx with
      | ptr hq =>
      have : fields[f]? = some fd := by simpa using hfd
      refine ⟨_, by simp [Instr.fieldAt, run_underlying hd, this, Instr.sureAddr, fieldPlace, sizeOf, typeInfo, hi, hsz, add_at]; rfl, ?_⟩
      rw [Nat.add_assoc]
      exact .ptr hq
  · cases h
theorem indexA_run {t : TypeId} {x x' ix ix' v : Value} (hx : VR ρ x x') (hi : VR ρ ix ix') (h : indexA P t x ix = some v) : ∃ v', (Instr.index t x' ix').run P w = .ok v' w ∧ VR ρ v v' := by
  unfold indexA at h
  rw [Option.bind_eq_some_iff] at h
  obtain ⟨d, hd, h⟩ := h
  split at h
  · rename_i len e cs k i
    rw [cond_eq_ite] at h
    split at h
    · rename_i hlt
      have hlt : i < len := by simpa [Nat.blt_eq] using hlt
      rw [Option.bind_eq_some_iff] at h
      obtain ⟨ie, hie, h⟩ := h
      cases hi
      cases hx with
      | agg hv =>
      obtain ⟨v', g1, g2⟩ := partA_run (P := P) (w := w) hv h
      have c1 : (0 : Int) ≤ (i : Int) ∧ (i : Int) < len := by omega
      exact ⟨v', by simp [Instr.index, run_underlying hd, asIntOf, sizeOf, typeInfo, hie, g1, hlt], g2⟩
    · cases h
  · cases h
theorem indexAddrA_run {t : TypeId} {x x' ix ix' v : Value} (hx : VR ρ x x') (hi : VR ρ ix ix') (h : indexAddrA P s t x ix = some v) : ∃ v', (Instr.indexAt t x' ix').run P w = .ok v' w ∧ VR ρ v v' := by
  unfold indexAddrA at h
  rw [Option.bind_eq_some_iff] at h
  obtain ⟨d, hd, h⟩ := h
  split at h
  · rename_i len e b o k i
    rw [cond_eq_ite] at h
    split at h
    · rename_i hlt
      have hlt : i < len := by simpa [Nat.blt_eq] using hlt
      rw [Option.bind_eq_some_iff] at h
      obtain ⟨ie, hie, h⟩ := h
      rw [fN_eq] at h
      cases h
      cases hi
      cases hx with
      | ptr hq =>
      refine ⟨_, by simp [Instr.indexAt, run_underlying hd, asIntOf, Instr.sureAddr, sizeOf, typeInfo, hie, hlt, add_at]; rfl, ?_⟩
      rw [Nat.add_assoc]
      exact .ptr hq
    · cases h
  · rename_i e b o n c k i
    rw [cond_eq_ite] at h
    split at h
    · rename_i hlt
      have hlt : i < n := by simpa [Nat.blt_eq] using hlt
      rw [Option.bind_eq_some_iff] at h
      obtain ⟨ie, hie, h⟩ := h
      rw [fN_eq] at h
      cases h
      cases hi
      obtain ⟨q, a0, c', hq, rfl, _, _, hor⟩ := hx.slice
      rcases hor with ⟨rfl, _, _⟩ | ⟨e1, _⟩
      · refine ⟨_, by simp [Instr.indexAt, run_underlying hd, asIntOf, sizeOf, typeInfo, hie, hlt, add_at]; rfl, ?_⟩
        rw [Nat.add_assoc]
        exact .ptr hq
      · omega
    · cases h
  · cases h
/-! Text. -/
theorem textL_eq : ∀ {l : List Value} {r : List UInt8}, textL l = some r → ∃ ns : List Int, l = ns.map (Value.int .u8) ∧ ns.foldl (fun r n => r.push (UInt8.ofNat n.toNat)) ByteArray.empty = ⟨r.toArray⟩ := by
  have key : ∀ {l : List Value} {r : List UInt8}, textL l = some r → ∃ ns : List Int, l = ns.map (Value.int .u8) ∧ r = ns.map (fun n => UInt8.ofNat n.toNat) := by
    intro l
    induction l with
    | nil => intro r h; simp [textL] at h; subst h; exact ⟨[], rfl, rfl⟩
    | cons v l ih =>
      intro r h
      unfold textL at h
      split at h
      · rename_i he; cases he
      · rename_i n l' e
        cases e
        rw [fN_eq] at h
        simp only [Option.bind_some] at h
        rw [Option.bind_eq_some_iff] at h
        obtain ⟨r2, h2, h⟩ := h
        cases h
        obtain ⟨ns, rfl, rfl⟩ := ih h2
        exact ⟨(n : Int) :: ns, rfl, by simp⟩
      · cases h
  intro l r h
  obtain ⟨ns, rfl, rfl⟩ := key h
  refine ⟨ns, rfl, ?_⟩
  have : ∀ (ns : List Int) (b : ByteArray), ns.foldl (fun r n => r.push (UInt8.ofNat n.toNat)) b = ⟨(b.data.toList ++ ns.map (fun n => UInt8.ofNat n.toNat)).toArray⟩ := by
    intro ns
    induction ns with
    | nil => intro b; simp
    | cons n ns ih => intro b; rw [List.foldl_cons, ih]; simp [ByteArray.push]
  rw [this]
  simp
theorem closed_ints (ns : List Int) : closedVs (ns.map (Value.int .u8)) = true := by
  induction ns with
  | nil => rfl
  | cons n ns ih => simp [closedVs, closedV, ih]
theorem OR.same {w' : World} {q : Loc} {o : Blk} (h : w'.heap[q.b]? = w.heap[q.b]?) (ho : OR ρ B w q o) : OR ρ B w' q o := by
  cases o with
  | cells cs ro z =>
    obtain ⟨cs', h1, h2, h3, h4, h5⟩ := ho
    refine ⟨cs', h1, fun j v hj => ?_, h3, h4, fun e => ⟨(h5 e).1, fun j hj => ?_⟩⟩
    · rw [World.cell?_of_block (w := w) h]; exact h2 j v hj
    · rw [World.cell?_of_block (w := w) h, World.frozen?_of_block (w := w) h]; exact (h5 e).2 j hj
  | map es c => obtain ⟨es', h1, h2, h3⟩ := ho; exact ⟨es', by rw [h]; exact h1, h2, h3⟩
theorem Rel.allocW {w' : World} {i : Nat} {o : Blk} {q : Loc} (h : Rel B ρ s w) (hp : s.push o = some (i, s')) (hq : q.b = w.heap.size) (h1 : w'.heap.size = w.heap.size + 1) (h2 : ∀ j, j < w.heap.size → w'.heap[j]? = w.heap[j]?)
    (hos : w'.os = w.os) (hta : w'.tape = w.tape) (hou : w'.output = w.output) (ho : OR (ρ.add s.next q) B w' q o) : Step B ρ s w (ρ.add i q) s' w' := by
  obtain ⟨rfl, hn, hg⟩ := S.push_get hp
  have hle := h.fresh q
  refine ⟨hle, ⟨fun j k e => ?_, fun j o' e => ?_, fun a b k r ea eb hkr la lb => ?_, by have := h.size; omega⟩, ⟨hos, hta, hou, by omega, fun k hk => h2 k (by have := h.size; omega)⟩, fun c hc _ => h2 c hc, fun c hc ho => ?_, by omega, fun i q' e => by unfold Ren.add at e; split at e; (exact .inr (by omega)); exact .inl e⟩
  · unfold Ren.add at e
    split at e
    · rename_i hj; cases e; omega
    · have := h.dom j k e; omega
  · rw [hg] at e
    split at e
    · rename_i hj
      cases e
      subst hj
      exact ⟨_, by simp [Ren.add], ho⟩
    · obtain ⟨k, hk, hr⟩ := h.blk j o' e
      exact ⟨k, hle _ _ hk, (hr.mono hle).same (h2 _ (h.dom _ _ hk).2)⟩
  · rw [hg] at la lb
    unfold Ren.add at ea eb
    by_cases ha : a = s.next
    · by_cases hb : b = s.next
      · omega
      · rw [if_pos ha] at ea
        rw [if_neg hb] at eb
        cases ea
        have := (h.dom _ _ eb).2
        omega
    · rw [if_neg ha] at ea la
      by_cases hb : b = s.next
      · rw [if_pos hb] at eb
        cases eb
        have := (h.dom _ _ ea).2
        omega
      · rw [if_neg hb] at eb lb
        exact h.inj _ _ _ _ ea eb hkr la lb
  · obtain ⟨j, o', k, e1, e3, e4⟩ := ho
    rw [hg] at e1
    unfold Ren.add at e3
    split at e1
    · rename_i hj
      rw [if_pos hj] at e3
      cases e3
      omega
    · rename_i hj
      rw [if_neg hj] at e3
      exact ⟨j, o', k, e1, e3, e4⟩
theorem convA_run {src dst : TypeId} {x x' v : Value} (hr : Rel B ρ s w) (hx : VR ρ x x') (h : convA P s src dst x = some (v, s')) :
    ∃ ρ' w' v', (convert src dst x').run P w = .ok v' w' ∧ Step B ρ s w ρ' s' w' ∧ VR ρ' v v' ∧ ((∃ e, P.underlying src = some .string ∧ P.underlying dst = some (.slice e)) ∨ (s' = s ∧ ρ' = ρ ∧ w' = w)) := by
  unfold convA at h
  rw [Option.bind_eq_some_iff] at h
  obtain ⟨d1, hd1, h⟩ := h
  rw [Option.bind_eq_some_iff] at h
  obtain ⟨d2, hd2, h⟩ := h
  split at h
  · rename_i e bs
    rw [Option.bind_eq_some_iff] at h
    obtain ⟨d3, hd3, h⟩ := h
    split at h
    · cases hx
      rw [byteL_eq] at h
      simp only [Option.bind_some] at h
      unfold rowA at h
      rw [Option.bind_eq_some_iff] at h
      obtain ⟨⟨i, s2⟩, hp, h⟩ := h
      cases h
      have hrun := Lib.run_convert_string_bytes (P := P) w src dst e bs hd1 hd2 hd3
      have hnew := Lib.bytesWorld_at_new w e bs
      have hsz := Lib.bytesWorld_size w e bs
      have hge := grownCap_ge w bs.size 0 e
      have hcs : (Lib.bytesCells w e bs).size = grownCap w bs.size 0 e := by
        simp [Lib.bytesCells]
        omega
      have hcell : ∀ j, (Lib.bytesWorld w e bs).cell? ⟨w.heap.size, j, none⟩ = (Lib.bytesCells w e bs)[j]? := fun j => by
        unfold World.cell?
        simp only [hnew]
        rfl
      have hfree : ∀ j, j < grownCap w bs.size 0 e → (Lib.bytesWorld w e bs).frozen? ⟨w.heap.size, j, none⟩ = false := fun j hj => by
        unfold World.frozen?
        simp only [hnew]
        rw [hcs]
        simp
        omega
      have hlist : (Lib.bytesCells w e bs).toList = (bs.data.toList.map fun b => Value.int .u8 b.toNat) ++ List.replicate (grownCap w bs.size 0 e - bs.size) (.int .u8 0) := by
        simp [Lib.bytesCells]
      have hst := hr.allocW (w' := Lib.bytesWorld w e bs) (q := ⟨w.heap.size, 0, grownCap w bs.size 0 e, 1⟩) hp rfl hsz (Lib.bytesWorld_at_old w e bs) rfl rfl rfl ⟨_, byteVR _, fun j v hj => by
        rw [Nat.zero_add, hcell, ← Array.getElem?_toList, hlist, List.getElem?_append_left (List.getElem?_eq_some_iff.1 hj).1]
        exact hj, by simp; exact hge, rfl, fun _ => ⟨hr.size, fun j hj => by
          rw [Nat.zero_add]
          exact ⟨by rw [hcell]; have hj2 : j < (Lib.bytesCells w e bs).size := by rw [hcs]; exact hj
                    simp [hj2], hfree j hj⟩⟩⟩
      have hVR : VR (ρ.add i ⟨w.heap.size, 0, grownCap w bs.size 0 e, 1⟩) (.slice (some ⟨i, 0, none⟩) bs.size (2 * bs.size + 1)) (.slice (some ⟨w.heap.size, 0, none⟩) bs.size (grownCap w bs.size 0 e)) :=
        .slc (q := ⟨w.heap.size, 0, grownCap w bs.size 0 e, 1⟩) (Ren.add_at _ _ _) (by unfold CapR; rw [if_neg (by omega)]; omega) (by omega) (fun _ => by simp)
      exact ⟨_, _, _, hrun, hst, hVR, .inl ⟨e, hd1, hd2⟩⟩
    · cases h
  · rename_i e a0 n c
    rw [Option.bind_eq_some_iff] at h
    obtain ⟨d3, hd3, h⟩ := h
    split at h
    · cases h
      obtain ⟨rfl, rfl, rfl⟩ := hx.slice0
      refine ⟨ρ, w, _, ?_, .refl hr, .string _, .inr ⟨rfl, rfl, rfl⟩⟩
      rw [run_convert_bytes_string w src dst e _ _ _ hd1 hd3 hd2]
      rfl
    · rename_i b o
      obtain ⟨q, a1, c', hq, rfl, _, _, hor⟩ := hx.slice
      rw [cond_eq_ite] at h
      split at h
      · rename_i h0
        have h0 : n = 0 := by simpa using h0
        subst h0
        cases h
        refine ⟨ρ, w, _, ?_, .refl hr, .string _, .inr ⟨rfl, rfl, rfl⟩⟩
        rw [run_convert_bytes_string w src dst e _ _ _ hd1 hd3 hd2]
        exact run_bytesToString w _ 0 c' [] (by simpa using run_loadCells_list (P := P) w ⟨q.b, a1, none⟩ [] (by simp))
      · rename_i h0
        have h0 : n ≠ 0 := by simpa using h0
        rw [Option.bind_eq_some_iff] at h
        obtain ⟨l, hl, h⟩ := h
        rw [Option.bind_eq_some_iff] at h
        obtain ⟨r, hr2, h⟩ := h
        cases h
        rcases hor with ⟨rfl, _, _⟩ | ⟨e1, _⟩
        · obtain ⟨l', g1, g2, g3⟩ := cellsOf_at hr hq hl
          obtain ⟨ns, rfl, hns⟩ := textL_eq hr2
          obtain rfl := closedVs_eq g1 (closed_ints ns)
          refine ⟨ρ, w, _, ?_, .refl hr, .string _, .inr ⟨rfl, rfl, rfl⟩⟩
          rw [run_convert_bytes_string w src dst e _ _ _ hd1 hd3 hd2]
          have hld := run_loadCells_list (P := P) w ⟨q.b, q.d + o, none⟩ (ns.map (Value.int .u8)) (fun j u hj => by rw [Addr.add_mid]; exact g2 j u hj)
          rw [g3] at hld
          have := run_bytesToString w _ n c' ns hld
          rw [hns] at this
          exact this
        · exact absurd e1 h0
    · cases h
  · cases h
end
end Go.Rx
