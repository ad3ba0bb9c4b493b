/-
A second reading of a program's text: regions that draw their order. First: orders, slots.
-/
import Derived.Test.YtoebckilnicafaaGreatRxM
set_option linter.unusedVariables false
set_option linter.unusedSimpArgs false
namespace Go.Rx
open Go.RowKit
/-! What waits for what. -/
theorem maskOf_bit {acc : List Nat} {i : Nat} : ∀ (l : List Edge) (m : Nat), (maskOf acc l m).testBit i = true → m.testBit i = true ∨ ∃ e ∈ l, Region.binds .any e = true ∧ (i = e.on ∨ (upd acc e.on).testBit i = true)
  | [], m, h => .inl h
  | e :: l, m, h => by
    simp only [maskOf, cond_eq_ite] at h
    split at h
    · rename_i hb
      rcases maskOf_bit l _ h with h1 | ⟨e', h1, h2⟩
      · rw [Nat.testBit_or, Nat.testBit_or, Nat.testBit_two_pow] at h1
        simp only [Bool.or_eq_true, decide_eq_true_eq] at h1
        rcases h1 with (h1 | h1) | h1
        · exact .inl h1
        · exact .inr ⟨e, by simp, hb, .inl h1.symm⟩
        · exact .inr ⟨e, by simp, hb, .inr h1⟩
      · exact .inr ⟨e', by simp [h1], h2⟩
    · rcases maskOf_bit l _ h with h1 | ⟨e', h1, h2⟩
      · exact .inl h1
      · exact .inr ⟨e', by simp [h1], h2⟩
theorem upd_app {acc l : List Nat} {j i : Nat} (h : (upd acc j).testBit i = true) : (upd (acc ++ l) j).testBit i = true := by
  unfold upd at *
  rw [nth_eq] at *
  by_cases hj : j < acc.length
  · rw [List.getElem?_append_left hj]; exact h
  · rw [List.getElem?_eq_none (by omega)] at h
    simp at h
theorem masks_spec : ∀ (l : List Oper) (acc bs : List Nat), masks l acc = some bs → (∃ r, bs = acc ++ r ∧ r.length = l.length) ∧
    ∀ j o, l[j]? = some o → ∀ i, bit bs i (acc.length + j) = true → ∃ e ∈ o.after.toList, Region.binds .any e = true ∧ (i = e.on ∨ bit bs i e.on = true)
  | [], acc, bs, h => by simp [masks] at h; subst h; exact ⟨⟨[], by simp⟩, fun j o hj => by simp at hj⟩
  | o :: l, acc, bs, h => by
    simp only [masks, fN_eq, app_eq, Option.bind_some] at h
    obtain ⟨⟨r, hr, hlen⟩, ih⟩ := masks_spec l _ _ h
    refine ⟨⟨maskOf acc o.after.toList 0 :: r, by rw [hr]; simp, by simp [hlen]⟩, fun j o' hj i hb => ?_⟩
    cases j with
    | zero =>
      simp at hj
      subst hj
      have hb2 : (maskOf acc o.after.toList 0).testBit i = true := by
        unfold bit upd at hb
        rw [nth_eq, hr] at hb
        simpa using hb
      rcases maskOf_bit _ _ hb2 with h1 | ⟨e, h1, h2, h3⟩
      · simp at h1
      · refine ⟨e, h1, h2, h3.imp id (fun h3 => ?_)⟩
        unfold bit
        rw [hr, List.append_assoc]
        exact upd_app h3
    | succ j =>
      refine ih j o' (by simpa using hj) i ?_
      rw [List.length_append, List.length_singleton, Nat.add_assoc, Nat.add_comm 1 j]
      exact hb
theorem edgesBack_at : ∀ {l : List Edge} {j : Nat}, edgesBack l j = true → ∀ e ∈ l, Region.binds .any e = true → e.on < j
  | [], _, _, e, he, _ => by simp at he
  | x :: l, j, h, e, he, hb => by
    simp only [edgesBack, Bool.and_eq_true, Bool.or_eq_true] at h
    rcases List.mem_cons.1 he with rfl | he
    · rcases h.1 with h1 | h1
      · rw [hb] at h1; simp at h1
      · simpa [Nat.blt_eq] using h1
    · exact edgesBack_at h.2 e he hb
theorem allBack_at : ∀ {l : List Oper} {j : Nat}, allBack l j = true → ∀ k o, l[k]? = some o → ∀ e ∈ o.after.toList, Region.binds .any e = true → e.on < j + k
  | [], _, _, k, o, hk, _, _, _ => by simp at hk
  | x :: l, j, h, k, o, hk, e, he, hb => by
    simp only [allBack, Bool.and_eq_true] at h
    cases k with
    | zero => simp at hk; subst hk; exact edgesBack_at h.1 e he hb
    | succ k =>
      have := allBack_at h.2 k o (by simpa using hk) e he hb
      omega
theorem hasT_mem : ∀ {l : List Nat} {i : Nat}, hasT l i = true ↔ i ∈ l
  | [], i => by simp [hasT]
  | x :: l, i => by
    simp only [hasT, Bool.or_eq_true, Nat.beq_eq, List.mem_cons]
    constructor
    · rintro (h | h)
      · exact .inl h.symm
      · exact .inr (hasT_mem.1 h)
    · rintro (h | h)
      · exact .inl h.symm
      · exact .inr (hasT_mem.2 h)
theorem slotOne_at {bs : List Nat} {j : Nat} {ts : List Tmp} : ∀ {l : List Oper} {i : Nat}, slotOne bs j ts l i = true → ∀ k o d, l[k]? = some o → o.dst = some d → d ∈ ts → (i + k < j → bit bs (i + k) j = true) ∧ (j < i + k → bit bs j (i + k) = true)
  | [], _, _, k, o, d, hk, _, _ => by simp at hk
  | x :: l, i, h, k, o, d, hk, hd, ht => by
    simp only [slotOne, Bool.and_eq_true] at h
    cases k with
    | zero =>
      simp at hk
      subst hk
      have h1 := h.1
      rw [hd] at h1
      simp only [Bool.or_eq_true, Bool.not_eq_true', cond_eq_ite] at h1
      rcases h1 with (h1 | h1) | h1
      · have := hasT_mem.2 ht
        rw [this] at h1
        cases h1
      · have : i = j := by simpa using h1
        constructor <;> intro <;> omega
      · split at h1
        · rename_i hlt
          have hlt : i < j := by simpa [Nat.blt_eq] using hlt
          exact ⟨fun _ => h1, fun _ => by omega⟩
        · rename_i hlt
          have hlt : ¬ i < j := by simpa [Nat.blt_eq] using hlt
          exact ⟨fun h => by omega, fun _ => h1⟩
    | succ k =>
      have := slotOne_at h.2 k o d (by simpa using hk) hd ht
      rw [show i + (k + 1) = i + 1 + k by omega]
      exact this
theorem slotAll_at {bs : List Nat} {ops : List Oper} : ∀ {l : List Oper} {j : Nat}, slotAll bs ops l j = true → ∀ k o, l[k]? = some o → slotOne bs (j + k) (looks ops o ++ (match o.dst with | some d => [d] | none => [])) ops 0 = true
  | [], _, _, k, o, hk => by simp at hk
  | x :: l, j, h, k, o, hk => by
    simp only [slotAll, Bool.and_eq_true] at h
    cases k with
    | zero => simp at hk; subst hk; exact h.1
    | succ k =>
      have := slotAll_at h.2 k o (by simpa using hk)
      rw [show j + (k + 1) = j + 1 + k by omega]
      exact this
theorem noSel_at : ∀ {l : List Oper}, noSel l = true → ∀ o ∈ l, ∀ cs b, o.op ≠ .select cs b
  | [], _, o, ho, _, _ => by simp at ho
  | x :: l, h, o, ho, cs, b => by
    simp only [noSel, Bool.and_eq_true] at h
    rcases List.mem_cons.1 ho with rfl | ho
    · intro e
      have := h.1
      rw [e] at this
      cases this
    · exact noSel_at h.2 o ho cs b
/-- All that is known of a region's order. -/
structure Ord (L : List Oper) (bs : List Nat) : Prop where
  wait : ∀ j o, L[j]? = some o → ∀ i, bit bs i j = true → ∃ e ∈ o.after.toList, Region.binds .any e = true ∧ (i = e.on ∨ bit bs i e.on = true)
  back : ∀ j o, L[j]? = some o → ∀ e ∈ o.after.toList, Region.binds .any e = true → e.on < j
  slot : ∀ j o, L[j]? = some o → ∀ i p d, L[i]? = some p → p.dst = some d → (d ∈ looks L o ∨ o.dst = some d) → (i < j → bit bs i j = true) ∧ (j < i → bit bs j i = true)
  sel : ∀ o ∈ L, ∀ cs b, o.op ≠ .select cs b
theorem staticOk_ord {L : List Oper} {bs : List Nat} (h : staticOk L = some bs) : Ord L bs := by
  unfold staticOk at h
  rw [Option.bind_eq_some_iff] at h
  obtain ⟨bs2, h1, h⟩ := h
  rw [cond_eq_ite] at h
  split at h
  · rename_i hc
    cases h
    simp only [Bool.and_eq_true] at hc
    obtain ⟨⟨c1, c2⟩, c3⟩ := hc
    obtain ⟨_, hw⟩ := masks_spec _ _ _ h1
    refine ⟨fun j o hj i hb => hw j o hj i (by simpa using hb), fun j o hj e he hb => by simpa using allBack_at c1 j o hj e he hb, fun j o hj i p d hi hd ht => ?_, noSel_at c3⟩
    have h2 := slotAll_at c2 j o hj
    have := slotOne_at h2 i p d hi hd (by
      rw [List.mem_append]
      rcases ht with ht | ht
      · exact .inl ht
      · right; rw [ht]; simp)
    simpa using this
  · cases h
/-- What has come up: closed under waiting. -/
def Closed (L : List Oper) (bs : List Nat) (E : Nat → Prop) : Prop := ∀ j, E j → ∀ i, bit bs i j = true → E i
theorem ready_waits {L : List Oper} {bs : List Nat} {E : Nat → Prop} (ho : Ord L bs) (hE : Closed L bs E) {j : Nat} {o : Oper} (hj : L[j]? = some o) (hr : ∀ e ∈ o.after.toList, Region.binds .any e = true → E e.on) : ∀ i, bit bs i j = true → E i := fun i hb => by
  obtain ⟨e, h1, h2, h3⟩ := ho.wait j o hj i hb
  rcases h3 with rfl | h3
  · exact hr e h1 h2
  · exact hE _ (hr e h1 h2) i h3
/-! Slots. -/
def dstAt (L : List Oper) (i : Nat) : Option Tmp := (L[i]?).bind (·.dst)
open Classical in
/-- What a slot holds once those of p have come up: the last writer's value. -/
noncomputable def lastVal (L : List Oper) (V : Nat → Value) (p : Nat → Prop) (t : Nat) (d : Value) : Nat → Value
  | 0 => d
  | i + 1 => if p i ∧ dstAt L i = some t then V i else lastVal L V p t d i
theorem lastVal_congr {L : List Oper} {V : Nat → Value} {p p' : Nat → Prop} {t : Nat} {d : Value} : ∀ n, (∀ i, i < n → dstAt L i = some t → (p i ↔ p' i)) → lastVal L V p t d n = lastVal L V p' t d n
  | 0, _ => rfl
  | n + 1, h => by
    have ih := lastVal_congr (V := V) (d := d) n (fun i hi => h i (by omega))
    simp only [lastVal]
    by_cases hd : dstAt L n = some t
    · have := h n (by omega) hd
      rw [ih]
      by_cases hp : p n
      · rw [if_pos ⟨hp, hd⟩, if_pos ⟨this.1 hp, hd⟩]
      · rw [if_neg (fun e => hp e.1), if_neg (fun e => hp (this.2 e.1))]
    · rw [ih, if_neg (fun e => hd e.2), if_neg (fun e => hd e.2)]
theorem lastVal_add {L : List Oper} {V : Nat → Value} {p : Nat → Prop} {t : Nat} {d : Value} {j : Nat} : ∀ n, j < n → dstAt L j = some t → (∀ i, j < i → i < n → dstAt L i = some t → ¬ p i) → lastVal L V (fun i => p i ∨ i = j) t d n = V j
  | 0, h, _, _ => by omega
  | n + 1, h, hd, hn => by
    simp only [lastVal]
    by_cases e : n = j
    · subst e
      rw [if_pos ⟨.inr rfl, hd⟩]
    · have h1 : ¬ ((p n ∨ n = j) ∧ dstAt L n = some t) := fun ⟨h2, h3⟩ => by
        rcases h2 with h2 | h2
        · exact hn n (by omega) (by omega) h3 h2
        · exact e h2
      rw [if_neg h1]
      exact lastVal_add n (by omega) hd (fun i h1 h2 => hn i h1 (by omega))
theorem lastVal_past {L : List Oper} {V : Nat → Value} {p : Nat → Prop} {t : Nat} {d : Value} {j : Nat} (hp : ∀ i, j ≤ i → ¬ p i) : ∀ n, j ≤ n → lastVal L V p t d n = lastVal L V p t d j
  | 0, h => by have : j = 0 := by omega
               rw [this]
  | n + 1, h => by
    by_cases e : j = n + 1
    · rw [e]
    · simp only [lastVal]
      rw [if_neg (fun h2 => hp n (by omega) h2.1), lastVal_past hp n (by omega)]
theorem onlyOf_at {fr : Fr} : ∀ {l : List Tmp} {r r' : Fr}, onlyOf fr l r = some r' → r.n = fr.n → r'.n = fr.n ∧ ∀ t, r'.at t = if t ∈ l ∧ t < fr.n then fr.at t else r.at t
  | [], r, r', h, hn => by simp [onlyOf] at h; subst h; exact ⟨hn, fun t => by simp⟩
  | x :: l, r, r', h, hn => by
    simp only [onlyOf, cond_eq_ite] at h
    split at h
    · rename_i hlt
      have hlt : x < fr.n := by simpa [Nat.blt_eq] using hlt
      rw [Option.bind_eq_some_iff] at h
      obtain ⟨tm, htm, h⟩ := h
      obtain ⟨h1, h2⟩ := onlyOf_at h rfl
      refine ⟨h1, fun t => ?_⟩
      rw [h2 t]
      have hg := T.get_set _ _ _ _ _ htm t
      by_cases e1 : t ∈ l ∧ t < fr.n
      · rw [if_pos e1, if_pos ⟨by simp [e1.1], e1.2⟩]
      · rw [if_neg e1]
        show (tm.get t).getD undef = _
        rw [hg]
        by_cases e2 : t = x
        · subst e2
          rw [if_pos rfl, if_pos ⟨by simp, hlt⟩]
          rfl
        · rw [if_neg e2, if_neg (fun e3 => e1 ⟨by simpa [e2] using e3.1, e3.2⟩)]
          rfl
    · rename_i hlt
      have hlt : ¬ x < fr.n := by simpa [Nat.blt_eq] using hlt
      obtain ⟨h1, h2⟩ := onlyOf_at h hn
      refine ⟨h1, fun t => ?_⟩
      rw [h2 t]
      by_cases e1 : t ∈ l ∧ t < fr.n
      · rw [if_pos e1, if_pos ⟨by simp [e1.1], e1.2⟩]
      · rw [if_neg e1, if_neg (fun e3 => by
          rcases List.mem_cons.1 e3.1 with e4 | e4
          · rw [e4] at e3; exact hlt e3.2
          · exact e1 ⟨e4, e3.2⟩)]
/-- The model's frame with some slots alone. -/
noncomputable def aOnly (a : Act) (l : List Tmp) : Act := { a with tmps := ⟨(List.range a.tmps.size).map fun t => bif hasT l t then a.tmps.getD t undef else undef⟩ }
theorem aOnly_at (a : Act) (l : List Tmp) (t : Nat) : (aOnly a l).tmps.getD t undef = if t ∈ l then a.tmps.getD t undef else undef := by
  unfold aOnly
  simp only [Array.getD_eq_getD_getElem?, List.getElem?_toArray, List.getElem?_map]
  by_cases ht : t < a.tmps.size
  · simp [ht, List.getElem?_range, cond_eq_ite, hasT_mem]
  · have : a.tmps[t]? = none := by simp; omega
    simp [this, List.getElem?_eq_none (l := List.range a.tmps.size) (i := t) (by simp; omega)]
theorem FR.only {σ : Ren} {F r : Fr} {a : Act} {l : List Tmp} (h : onlyOf F l ⟨.nil, F.n⟩ = some r) (hs : a.tmps.size = F.n) (hv : ∀ t ∈ l, VR σ (F.at t) (a.tmps.getD t undef)) : FR σ r (aOnly a l) := by
  obtain ⟨h1, h2⟩ := onlyOf_at h rfl
  refine ⟨by unfold aOnly; simp [hs, h1], fun t => ?_⟩
  rw [h2 t, aOnly_at]
  by_cases ht : t ∈ l
  · by_cases hn : t < F.n
    · rw [if_pos ⟨ht, hn⟩, if_pos ht]
      exact hv t ht
    · rw [if_neg (fun e => hn e.2), if_pos ht]
      have : a.tmps.getD t undef = undef := by
        have : a.tmps[t]? = none := by simp; omega
        simp [this]
      rw [this]
      exact .tuple .nil
  · rw [if_neg (fun e => ht e.1), if_neg ht]
    exact .tuple .nil
theorem tmpsOf_mem : ∀ {l : List Operand} {t : Tmp}, Operand.tmp t ∈ l → t ∈ tmpsOf l
  | [], t, h => by simp at h
  | x :: l, t, h => by
    rcases List.mem_cons.1 h with h | h
    · subst h; simp [tmpsOf]
    · have := tmpsOf_mem h
      cases x <;> simp [tmpsOf, this]
theorem aOnly_eval {a : Act} {l : List Tmp} {x : Operand} (h : ∀ t, x = .tmp t → t ∈ l) : (aOnly a l).eval x = a.eval x := by
  cases x with
  | tmp t =>
    show (aOnly a l).tmps.getD t undef = a.tmps.getD t undef
    rw [aOnly_at, if_pos (h t rfl)]
  | _ => rfl
theorem exec_only {a : Act} {L : List Oper} {o : Oper} (hs : ∀ cs b, o.op ≠ .select cs b) : execOp (aOnly a (looks L o)).eval o = execOp a.eval o :=
  execOp_congr o hs fun x hx => aOnly_eval fun t ht => by
    subst ht
    unfold looks
    rw [List.mem_append]
    exact .inl (tmpsOf_mem (by simpa using hx))
end Go.Rx
