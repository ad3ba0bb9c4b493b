/-
A second reading of a program's text: regions that draw their order. Fourth: whatever order is drawn.
-/
import Derived.Test.YtoebckilnicafaaGreatRxP
import Derived.Orders
set_option linter.unusedVariables false
set_option linter.unusedSimpArgs false
namespace Go.Rx
open Go.RowKit
section
variable {P : Program} {B : Nat} {ρ ρ0 : Ren} {s s0 s' : S} {w w0 : World} {fr0 r F : Fr} {a a0 : Act} {call : Caller} {L : List Oper} {bs : List Nat} {N0 : Nat} {rs : List (Fr × Rec)} {T0 : S}
/-! Blocks that were made ahead are laid. -/
theorem layP_run {e : Nat} : ∀ {pe pe2 : Pend} {s s1 : S}, layP bs e pe s = some (s1, pe2) → Rel B ρ s w → (pe.map (·.1)).Nodup →
    (∀ y ∈ pe, bit bs y.1 e = true → ∃ q, ρ y.2.1 = some q ∧ ¬ Own ρ s q.b ∧ OR ρ B w q y.2.2) →
    (∀ y ∈ pe, ∀ z ∈ pe, bit bs y.1 e = true → bit bs z.1 e = true → ∀ q t, ρ y.2.1 = some q → ρ z.2.1 = some t → q.b = t.b → y.1 = z.1) →
    Rel B ρ s1 w ∧ s1.next = s.next ∧ ∀ c, Own ρ s1 c → Own ρ s c ∨ ∃ y ∈ pe, bit bs y.1 e = true ∧ ∃ q, ρ y.2.1 = some q ∧ q.b = c
  | [], pe2, s, s1, h, hr, _, _, _ => by
    simp [layP] at h
    obtain ⟨rfl, rfl⟩ := h
    exact ⟨hr, rfl, fun c h => .inl h⟩
  | (i, k, b) :: l, pe2, s, s1, h, hr, hn, hy, hd => by
    simp only [List.map_cons, List.nodup_cons] at hn
    simp only [layP, cond_eq_ite] at h
    split at h
    · rename_i hb
      rw [Option.bind_eq_some_iff] at h
      obtain ⟨s2, hp, h⟩ := h
      obtain ⟨q, hq, hno, ho⟩ := hy (i, k, b) (by simp) hb
      obtain ⟨hr2, hown, hnx, _⟩ := hr.insert hq ho hno hp
      obtain ⟨g1, g2, g3⟩ := layP_run h hr2 hn.2 (fun y hm hyb => by
        obtain ⟨t, ht, hto, hor⟩ := hy y (by simp [hm]) hyb
        refine ⟨t, ht, fun hc => ?_, hor⟩
        rcases hown _ hc with hc | hc
        · exact hto hc
        · have := hd y (by simp [hm]) (i, k, b) (by simp) hyb hb t q ht hq hc
          exact hn.1 (List.mem_map.2 ⟨y, hm, this⟩)) (fun y hm z hz => hd y (by simp [hm]) z (by simp [hz]))
      refine ⟨g1, g2.trans hnx, fun c hc => ?_⟩
      rcases g3 c hc with hc | ⟨y, hm, h1, h2⟩
      · rcases hown c hc with hc | hc
        · exact .inl hc
        · exact .inr ⟨(i, k, b), by simp, hb, q, hq, hc.symm⟩
      · exact .inr ⟨y, by simp [hm], h1, h2⟩
    · rw [Option.bind_eq_some_iff] at h
      obtain ⟨⟨s2, r⟩, hl, h⟩ := h
      cases h
      obtain ⟨g1, g2, g3⟩ := layP_run hl hr hn.2 (fun y hm => hy y (by simp [hm])) (fun y hm z hz => hd y (by simp [hm]) z (by simp [hz]))
      refine ⟨g1, g2, fun c hc => ?_⟩
      rcases g3 c hc with hc | ⟨y, hm, h1, h2⟩
      · exact .inl hc
      · exact .inr ⟨y, by simp [hm], h1, h2⟩
theorem layAll_run : ∀ {pe : Pend} {s s1 : S}, layAll pe s = some s1 → Rel B ρ s w → (pe.map (·.1)).Nodup →
    (∀ y ∈ pe, ∃ q, ρ y.2.1 = some q ∧ ¬ Own ρ s q.b ∧ OR ρ B w q y.2.2) →
    (∀ y ∈ pe, ∀ z ∈ pe, ∀ q t, ρ y.2.1 = some q → ρ z.2.1 = some t → q.b = t.b → y.1 = z.1) →
    Rel B ρ s1 w ∧ s1.next = s.next ∧ ∀ c, Own ρ s1 c → Own ρ s c ∨ ∃ y ∈ pe, ∃ q, ρ y.2.1 = some q ∧ q.b = c
  | [], s, s1, h, hr, _, _, _ => by
    simp [layAll] at h
    subst h
    exact ⟨hr, rfl, fun c h => .inl h⟩
  | (i, k, b) :: l, s, s1, h, hr, hn, hy, hd => by
    simp only [List.map_cons, List.nodup_cons] at hn
    simp only [layAll] at h
    rw [Option.bind_eq_some_iff] at h
    obtain ⟨s2, hp, h⟩ := h
    obtain ⟨q, hq, hno, ho⟩ := hy (i, k, b) (by simp)
    obtain ⟨hr2, hown, hnx, _⟩ := hr.insert hq ho hno hp
    obtain ⟨g1, g2, g3⟩ := layAll_run h hr2 hn.2 (fun y hm => by
      obtain ⟨t, ht, hto, hor⟩ := hy y (by simp [hm])
      refine ⟨t, ht, fun hc => ?_, hor⟩
      rcases hown _ hc with hc | hc
      · exact hto hc
      · have := hd y (by simp [hm]) (i, k, b) (by simp) t q ht hq hc
        exact hn.1 (List.mem_map.2 ⟨y, hm, this⟩)) (fun y hm z hz => hd y (by simp [hm]) z (by simp [hz]))
    refine ⟨g1, g2.trans hnx, fun c hc => ?_⟩
    rcases g3 c hc with hc | ⟨y, hm, h1⟩
    · rcases hown c hc with hc | hc
      · exact .inl hc
      · exact .inr ⟨(i, k, b), by simp, q, hq, hc.symm⟩
    · exact .inr ⟨y, by simp [hm], h1⟩
/-- Overall, once blocks made since have been laid. -/
theorem Step.laid (h : Step B ρ0 s0 w0 ρ s w) (hr : Rel B ρ s' w) (hn : s'.next = s.next) (ho : ∀ c, Own ρ s' c → Own ρ s c ∨ w0.heap.size ≤ c) : Step B ρ0 s0 w0 ρ s' w :=
  ⟨h.le, hr, h.below, h.frame, fun c hc hO => (ho c hO).elim (h.own c hc) (fun h => by omega), by rw [hn]; exact h.mono, h.new⟩
/-- A block is made ahead. -/
theorem Step.ahead {k : Nat} {q : Loc} {ob : Obj} (h : Step B ρ0 s0 w0 ρ s w) (hB : B ≤ w0.heap.size) (hk : ρ k = none) (hlt : k < s.next) (hge : s0.next ≤ k) (hq : q.b = w.heap.size) :
    Step B ρ0 s0 w0 (ρ.add k q) s (w.alloc ob) ∧ ρ.le (ρ.add k q) ∧ ∀ c, Own (ρ.add k q) s c → Own ρ s c := by
  have hle : ρ.le (ρ.add k q) := fun j t e => by
    unfold Ren.add
    rw [if_neg (fun e2 => by rw [e2, hk] at e; cases e)]
    exact e
  have hs : ∀ j o, s.get j = some o → j ≠ k := fun j o hj e => by
    subst e
    obtain ⟨t, ht, _⟩ := h.rel.blk j o hj
    rw [hk] at ht
    cases ht
  have hown : ∀ c, Own (ρ.add k q) s c → Own ρ s c := fun c ⟨j, o, t, h1, h2, h3⟩ => by
    unfold Ren.add at h2
    rw [if_neg (hs j o h1)] at h2
    exact ⟨j, o, t, h1, h2, h3⟩
  refine ⟨⟨h.le.trans hle, ⟨fun j t e => ?_, fun j o hj => ?_, fun x y t u hx hy hb lx ly => ?_, ?_⟩, h.below.alloc (by have := h.below.size; omega) _, fun c hc hO => ?_, fun c hc hO => h.own c hc (hown c hO), h.mono, fun j t e => ?_⟩, hle, hown⟩
  · unfold Ren.add at e
    simp only [World.size_alloc]
    split at e
    · cases e; omega
    · have := h.rel.dom j t e; omega
  · obtain ⟨t, ht, ho⟩ := h.rel.blk j o hj
    exact ⟨t, hle _ _ ht, (ho.mono hle).alloc (h.rel.dom _ _ ht).2 _⟩
  · obtain ⟨ox, hox⟩ := Option.isSome_iff_exists.1 lx
    obtain ⟨oy, hoy⟩ := Option.isSome_iff_exists.1 ly
    unfold Ren.add at hx hy
    rw [if_neg (hs x ox hox)] at hx
    rw [if_neg (hs y oy hoy)] at hy
    exact h.rel.inj x y t u hx hy hb lx ly
  · simp only [World.size_alloc]
    have := h.rel.size
    omega
  · rw [Below.heap_alloc _ _ _ (Nat.lt_of_lt_of_le hc h.below.size)]
    exact h.frame c hc hO
  · unfold Ren.add at e
    split at e
    · exact .inr (by omega)
    · exact h.new j t e
/-! Whether an operation is wanted is told by what it looks at. -/
theorem wanted_only {ops : Array Oper} {o : Oper} : Region.wanted o (yielded ops (aOnly a (looks ops.toList o)).tmps) = Region.wanted o (yielded ops a.tmps) := by
  unfold Region.wanted
  split
  · rfl
  · rename_i j want hg
    have : yielded ops (aOnly a (looks ops.toList o)).tmps j = yielded ops a.tmps j := by
      unfold yielded
      cases hj : ops[j]? with
      | none => simp
      | some oj =>
        cases hd : oj.dst with
        | none => simp [hd]
        | some d =>
          have hm : d ∈ looks ops.toList o := by
            unfold looks gslot
            rw [List.mem_append]
            right
            rw [hg]
            simp only [nth_eq]
            have : ops.toList[j]? = some oj := by simpa using hj
            rw [this]
            simp [hd]
          have he : (aOnly a (looks ops.toList o)).tmps[d]? = a.tmps[d]? := by
            unfold aOnly
            simp only [List.getElem?_toArray, List.getElem?_map]
            by_cases ht : d < a.tmps.size
            · simp [ht, List.getElem?_range, cond_eq_ite, hasT_mem, hm]
            · have ht2 : a.tmps.size ≤ d := Nat.le_of_not_lt ht
              rw [Array.getElem?_eq_none ht2, List.getElem?_eq_none (l := List.range a.tmps.size) (i := d) (by simpa using ht2)]
              rfl
          simp [hd, he]
    rw [this]
/-! What holds while a drawn order goes on: E have come up. -/
def Hang (rs : List (Fr × Rec)) (bs : List Nat) (E : Nat → Prop) (i k : Nat) (b : Blk) : Prop := isMkAt rs i k b ∧ E i ∧ ∀ e, E e → isEffAt rs e → bit bs i e = false
structure Inv (B : Nat) (L : List Oper) (bs : List Nat) (N0 : Nat) (rs : List (Fr × Rec)) (T0 : S) (fr0 : Fr) (a0 : Act) (ρ0 : Ren) (s0 : S) (w0 : World) (ρ : Ren) (J : Nat) (E : Nat → Prop) (a : Act) (w : World) : Prop where
  step : Step B ρ0 s0 w0 ρ (stR T0 rs J) w
  nx : N0 + L.length ≤ (stR T0 rs J).next
  eff : ∀ e, isEffAt rs e → (E e ↔ e < J)
  cl : Closed L bs E
  size : a.tmps.size = fr0.n
  defs : a.defers = a0.defers
  slot : ∀ t, VR ρ (lastVal L (valAt rs) E t (fr0.at t) L.length) (a.tmps.getD t undef)
  pend : ∀ i k b, Hang rs bs E i k b → ∃ q, ρ k = some q ∧ w0.heap.size ≤ q.b ∧ ¬ Own ρ (stR T0 rs J) q.b ∧ OR ρ B w q b
  dist : ∀ i k b i' k' b', Hang rs bs E i k b → Hang rs bs E i' k' b' → ∀ q t, ρ k = some q → ρ k' = some t → q.b = t.b → i = i'
  free : ∀ i k b, isMkAt rs i k b → ¬ E i → ρ k = none
theorem getD_put {d : Option Tmp} {v : Value} {a : Act} (h : ∀ t, d = some t → t < a.tmps.size) (t : Nat) : (a.put d v).tmps.getD t undef = if d = some t then v else a.tmps.getD t undef := by
  cases d with
  | none => simp [Act.put]
  | some d =>
    have := h d rfl
    by_cases e : d = t
    · subst e
      simp [Act.put, this]
    · simp [Act.put, e]
/-- Slots, once j has come up. -/
theorem Inv.slots {ρ' : Ren} {J : Nat} {E : Nat → Prop} {j : Nat} {o : Oper} {rec : Rec} {v' : Value} (ho : Ord L bs) (h : Inv B L bs N0 rs T0 fr0 a0 ρ0 s0 w0 ρ J E a w) (hj : L[j]? = some o) (hr : rs[j]? = some (r, rec))
    (hnj : ¬ E j) (hd : ∀ t, o.dst = some t → t < fr0.n) (hle : ρ.le ρ') (hv : VR ρ' rec.val v') :
    ∀ t, VR ρ' (lastVal L (valAt rs) (fun i => E i ∨ i = j) t (fr0.at t) L.length) ((a.put o.dst v').tmps.getD t undef) := fun t => by
  have hlt : j < L.length := by
    rcases Nat.lt_or_ge j L.length with h1 | h1
    · exact h1
    · rw [List.getElem?_eq_none h1] at hj; cases hj
  rw [getD_put (fun t e => by rw [h.size]; exact hd t e)]
  by_cases e : o.dst = some t
  · rw [if_pos e]
    have hda : dstAt L j = some t := by unfold dstAt; rw [hj]; exact e
    rw [lastVal_add L.length hlt hda (fun i h1 h2 h3 h4 => by
      obtain ⟨p, hp⟩ : ∃ p, L[i]? = some p := ⟨_, List.getElem?_eq_getElem h2⟩
      have hdp : p.dst = some t := by unfold dstAt at h3; rw [hp] at h3; exact h3
      have := (ho.slot i p hp j o t hj e (.inr hdp)).1 h1
      exact hnj (h.cl i h4 j this))]
    have : valAt rs j = rec.val := by unfold valAt; rw [hr]; rfl
    rw [this]
    exact hv
  · rw [if_neg e]
    rw [lastVal_congr (p' := E) L.length (fun i h1 h2 => ⟨fun h3 => h3.resolve_right (fun e2 => by
      subst e2
      unfold dstAt at h2
      rw [hj] at h2
      exact e h2), .inl⟩)]
    exact (h.slot t).mono hle
theorem Inv.frame {J : Nat} {E : Nat → Prop} {j : Nat} {o : Oper} (ho : Ord L bs) (h : Inv B L bs N0 rs T0 fr0 a0 ρ0 s0 w0 ρ J E a w) (hj : L[j]? = some o) (hw : ∀ i, bit bs i j = true → E i) (hnj : ¬ E j)
    (hn : F.n = fr0.n) (hF : ∀ t, F.at t = lastVal L (valAt rs) (fun i => i < j) t (fr0.at t) L.length) (hl : onlyOf F (looks L o) ⟨.nil, F.n⟩ = some r) : FR ρ r (aOnly a (looks L o)) :=
  FR.only hl (by rw [h.size, hn]) fun t ht => by
    rw [hF t, lastVal_congr (p' := E) L.length (fun i h1 h2 => by
      obtain ⟨p, hp⟩ : ∃ p, L[i]? = some p := ⟨_, List.getElem?_eq_getElem h1⟩
      have hdp : p.dst = some t := by unfold dstAt at h2; rw [hp] at h2; exact h2
      obtain ⟨g1, g2⟩ := ho.slot j o hj i p t hp hdp (.inl ht)
      constructor
      · intro h3; exact hw i (g1 h3)
      · intro h3
        rcases Nat.lt_trichotomy i j with h4 | h4 | h4
        · exact h4
        · subst h4; exact absurd h3 hnj
        · exact absurd (h.cl i h3 j (g2 h4)) hnj)]
    exact h.slot t
theorem Closed.or {E : Nat → Prop} {j : Nat} (h : Closed L bs E) (hw : ∀ i, bit bs i j = true → E i) : Closed L bs (fun i => E i ∨ i = j) := fun i hi k hb => by
  rcases hi with hi | rfl
  · exact .inl (h i hi k hb)
  · exact .inl (hw k hb)
end
end Go.Rx
