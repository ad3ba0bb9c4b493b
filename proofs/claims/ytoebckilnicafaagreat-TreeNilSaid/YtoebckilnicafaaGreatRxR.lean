/-
A second reading of a program's text: regions that draw their order. Fifth: one operation of a drawn order, and the whole.
-/
import Derived.Test.YtoebckilnicafaaGreatRxQ
set_option linter.unusedVariables false
set_option linter.unusedSimpArgs false
namespace Go.Rx
open Go.RowKit
section
variable {P : Program} {B : Nat} {ρ ρ0 : Ren} {s s0 s' : S} {w w0 : World} {fr0 r F : Fr} {a a0 : Act} {call : Caller} {L : List Oper} {bs : List Nat} {N0 : Nat} {rs : List (Fr × Rec)} {T0 : S} {x : Fr × S} {J : Nat} {E : Nat → Prop}
structure Ctx (P : Program) (call : Caller) (L : List Oper) (bs : List Nat) (N0 : Nat) (rs : List (Fr × Rec)) (x : Fr × S) (fr0 : Fr) (T0 : S) : Prop where
  ho : Ord L bs
  hc : CallOK P call
  all : ∀ j, j ≤ L.length → ∃ F s pe, At P call L bs N0 rs x fr0 T0 j F s pe
  len : rs.length ≤ L.length
  keys : ∀ i k b, isMkAt rs i k b → k = N0 + i
  chn : chain bs (effsIn rs 0) = true
  rds : rdsOk P bs T0 (effsIn rs 0) L rs 0 = true
theorem put_size (a : Act) (d : Option Tmp) (v : Value) : (a.put d v).tmps.size = a.tmps.size := by cases d <;> simp [Act.put]
theorem Inv.plain {o : Oper} {j : Nat} {rec : Rec} {v' : Value} (hx : Ctx P call L bs N0 rs x fr0 T0) (h : Inv B L bs N0 rs T0 fr0 a0 ρ0 s0 w0 ρ J E a w) (hj : L[j]? = some o) (hr : rs[j]? = some (r, rec)) (hne : ¬ isEffAt rs j) (hnm : ∀ k b, ¬ isMkAt rs j k b)
    (hw : ∀ i, bit bs i j = true → E i) (hnj : ¬ E j) (hd : ∀ t, o.dst = some t → t < fr0.n) (hv : VR ρ rec.val v') :
    Inv B L bs N0 rs T0 fr0 a0 ρ0 s0 w0 ρ J (fun i => E i ∨ i = j) (a.put o.dst v') w := by
  have hang : ∀ i k b, Hang rs bs (fun i => E i ∨ i = j) i k b → Hang rs bs E i k b := fun i k b ⟨h1, h2, h3⟩ =>
    ⟨h1, h2.resolve_right (fun e => hnm k b (e ▸ h1)), fun e he hef => h3 e (.inl he) hef⟩
  exact ⟨h.step, h.nx, fun e he => ⟨fun h1 => (h.eff e he).1 (h1.resolve_right (fun h2 => hne (h2 ▸ he))), fun h1 => .inl ((h.eff e he).2 h1)⟩, h.cl.or hw, by rw [put_size]; exact h.size, (put_defers _ _ _).trans h.defs,
    h.slots hx.ho hj hr hnj hd (.refl _) hv, fun i k b hh => h.pend i k b (hang i k b hh), fun i k b i' k' b' h1 h2 => h.dist i k b i' k' b' (hang _ _ _ h1) (hang _ _ _ h2), fun i k b h1 h2 => h.free i k b h1 (fun h3 => h2 (.inl h3))⟩
theorem Inv.made {o : Oper} {j k : Nat} {b : Blk} {v v' : Value} {q : Loc} {ob : Obj} (hx : Ctx P call L bs N0 rs x fr0 T0) (h : Inv B L bs N0 rs T0 fr0 a0 ρ0 s0 w0 ρ J E a w) (hB : B ≤ w0.heap.size) (hN : N0 = s0.next) (hj : L[j]? = some o) (hr : rs[j]? = some (r, .mk k b v))
    (hw : ∀ i, bit bs i j = true → E i) (hnj : ¬ E j) (hd : ∀ t, o.dst = some t → t < fr0.n) (hq : q.b = w.heap.size) (hO : OR ρ B (w.alloc ob) q b) (hv : ∀ σ : Ren, σ k = some q → VR σ v v') :
    Inv B L bs N0 rs T0 fr0 a0 ρ0 s0 w0 (ρ.add k q) J (fun i => E i ∨ i = j) (a.put o.dst v') (w.alloc ob) := by
  have hm : isMkAt rs j k b := ⟨r, v, hr⟩
  have hk := hx.keys j k b hm
  have hjl : j < L.length := by
    rcases Nat.lt_or_ge j L.length with h1 | h1
    · exact h1
    · rw [List.getElem?_eq_none h1] at hj; cases hj
  have hnx := h.nx
  obtain ⟨st, hle, hown⟩ := h.step.ahead (k := k) (q := q) (ob := ob) hB (h.free j k b hm hnj) (by omega) (by omega) hq
  have hne : ¬ isEffAt rs j := fun ⟨_, _, _, _, e⟩ => by rw [hr] at e; cases e
  have hang : ∀ i k' b', Hang rs bs (fun i => E i ∨ i = j) i k' b' → i ≠ j → Hang rs bs E i k' b' := fun i k' b' ⟨h1, h2, h3⟩ hij =>
    ⟨h1, h2.resolve_right hij, fun e he hef => h3 e (.inl he) hef⟩
  have at' : ∀ k' b', isMkAt rs j k' b' → k' = k ∧ b' = b := fun k' b' ⟨r', u, e⟩ => by rw [hr] at e; cases e; exact ⟨rfl, rfl⟩
  have hsz := h.step.below.size
  have old : ∀ i k' b', Hang rs bs (fun i => E i ∨ i = j) i k' b' → i ≠ j → ∀ t, (ρ.add k q) k' = some t → ρ k' = some t ∧ t.b < w.heap.size := fun i k' b' hh hij t ht => by
    obtain ⟨u, hu, _⟩ := h.pend i k' b' (hang i k' b' hh hij)
    have := hle _ _ hu
    rw [ht] at this
    cases this
    exact ⟨hu, (h.step.rel.dom _ _ hu).2⟩
  have key : (ρ.add k q) k = some q := by simp [Ren.add]
  refine ⟨st, h.nx, fun e he => ⟨fun h1 => (h.eff e he).1 (h1.resolve_right (fun h2 => hne (h2 ▸ he))), fun h1 => .inl ((h.eff e he).2 h1)⟩, h.cl.or hw, by rw [put_size]; exact h.size, (put_defers _ _ _).trans h.defs,
    h.slots hx.ho hj hr hnj hd hle (hv _ key), fun i k' b' hh => ?_, fun i k1 b1 i' k2 b2 h1 h2 u t hu ht hb => ?_, fun i k' b' h1 h2 => ?_⟩
  · by_cases hij : i = j
    · subst hij
      obtain ⟨rfl, rfl⟩ := at' k' b' hh.1
      refine ⟨q, key, by omega, fun hc => ?_, hO.mono hle⟩
      obtain ⟨j', o', t, g1, g2, g3⟩ := hown _ hc
      have := (h.step.rel.dom _ _ g2).2
      omega
    · obtain ⟨t, h1, h2, h3, h4⟩ := h.pend i k' b' (hang i k' b' hh hij)
      exact ⟨t, hle _ _ h1, h2, fun hc => h3 (hown _ hc), (h4.mono hle).alloc (h.step.rel.dom _ _ h1).2 _⟩
  · by_cases e1 : i = j
    · by_cases e2 : i' = j
      · omega
      · subst e1
        obtain ⟨rfl, rfl⟩ := at' k1 b1 h1.1
        rw [key] at hu
        cases hu
        have := (old i' k2 b2 h2 e2 t ht).2
        omega
    · by_cases e2 : i' = j
      · subst e2
        obtain ⟨rfl, rfl⟩ := at' k2 b2 h2.1
        rw [key] at ht
        cases ht
        have := (old i k1 b1 h1 e1 u hu).2
        omega
      · exact h.dist i k1 b1 i' k2 b2 (hang _ _ _ h1 e1) (hang _ _ _ h2 e2) u t (old i k1 b1 h1 e1 u hu).1 (old i' k2 b2 h2 e2 t ht).1 hb
  · have hij : i ≠ j := fun e => h2 (.inr e)
    have hk' := hx.keys i k' b' h1
    have := h.free i k' b' h1 (fun h3 => h2 (.inl h3))
    unfold Ren.add
    rw [if_neg (by omega)]
    exact this
theorem Inv.go {ops : Array Oper} {Q : Exit → Act → World → Prop} {j : Nat} {K : Act → World → Prop} (hx : Ctx P call ops.toList bs N0 rs x fr0 T0) (h : Inv B ops.toList bs N0 rs T0 fr0 a0 ρ0 s0 w0 ρ J E a w) (hB : B ≤ w0.heap.size) (hN : N0 = s0.next)
    (hjl : j < ops.toList.length) (hw : ∀ i, bit bs i j = true → E i) (hnj : ¬ E j) (hK : ∀ ρ' J' a' w', Inv B ops.toList bs N0 rs T0 fr0 a0 ρ0 s0 w0 ρ' J' (fun i => E i ∨ i = j) a' w' → K a' w') : wpOp P ops Q j K a w := by
  obtain ⟨F, s, pe, hat⟩ := hx.all j (by omega)
  obtain ⟨o, r, rec, F', s2, pe2, hLo, hrs, honly, hput, hrec, hnext⟩ := hat.next hx.ho hjl
  have hf : FR ρ r (aOnly a (looks ops.toList o)) := h.frame hx.ho hLo hw hnj hat.n hat.slot honly
  obtain ⟨p1, p2, p3⟩ := put_at hput
  have hd : ∀ t, o.dst = some t → t < fr0.n := fun t e => by rw [← hat.n]; exact p3 t e
  have h0 : ops[j]? = some o := by simpa using hLo
  have hsel : ∀ cs b, o.op ≠ .select cs b := hx.ho.sel o (List.mem_of_getElem? hLo)
  have hex := exec_only (a := a) (L := ops.toList) hsel
  have hwant : ∀ g, guardA r ops.toList o = some g → Region.wanted o (yielded ops a.tmps) = g := fun g hg => by
    rw [← wanted_only]
    exact guardA_run hf hg
  unfold wpOp
  rw [h0]
  cases rec with
  | skip =>
    obtain ⟨hg, _, _⟩ := hrec
    simp only [hwant _ hg, Bool.false_eq_true, if_false]
    exact hK ρ J _ w (h.plain hx hLo hrs (fun ⟨_, _, _, _, e⟩ => by rw [hrs] at e; cases e) (fun k b ⟨_, _, e⟩ => by rw [hrs] at e; cases e) hw hnj hd (.tuple .nil))
  | rd v =>
    obtain ⟨hg, he, _, _⟩ := hrec
    simp only [hwant _ hg, if_true]
    left
    have h1 := rdsOk_at hx.rds j o r v hLo hrs
    have h2 := rdOk_at rs T0 0 J (by simpa using h1) (fun i hi => by
      rw [Nat.zero_add]
      refine ⟨fun hb => (h.eff i hi).1 (hw i hb), fun hlt => ?_⟩
      cases hb : bit bs j i with
      | false => rfl
      | true => exact absurd (h.cl i ((h.eff i hi).2 hlt) j hb) hnj)
    unfold rdAt at h2
    split at h2
    · rename_i u s1 hop
      have hu := sameV_eq _ _ _ h2
      subst hu
      obtain ⟨v', hrun, hv⟩ := rd_came (u := u) hf h.step.rel he hop
      rw [hex] at hrun
      unfold Oper.wp
      rw [hrun]
      exact hK ρ J _ w (h.plain hx hLo hrs (fun ⟨_, _, _, _, e⟩ => by rw [hrs] at e; cases e) (fun k b ⟨_, _, e⟩ => by rw [hrs] at e; cases e) hw hnj hd hv)
    · cases h2
  | mk k b v =>
    obtain ⟨hg, hk, ⟨cs, z, f, hm, hb, hv⟩, _, _⟩ := hrec
    simp only [hwant _ hg, if_true]
    left
    obtain ⟨c, e, v', q, hrun, hq, hO, hV⟩ := mkA_run hf (by have := h.step.below.size; omega : B ≤ w.heap.size) hm
    rw [hex] at hrun
    unfold Oper.wp
    rw [hrun]
    exact hK _ J _ _ (h.made hx hB hN hLo hrs hw hnj hd hq (by rw [hb]; exact hO) (fun σ hσ => by rw [hv]; exact hV σ k hσ))
  | eff pre post v =>
    obtain ⟨hg, hl, hs, hs2⟩ := hrec
    simp only [hwant _ hg, if_true]
    left
    have hej : isEffAt rs j := ⟨r, pre, post, v, hrs⟩
    have hJ : J ≤ j := Nat.le_of_not_lt fun hlt => hnj ((h.eff j hej).2 hlt)
    have hnone : ∀ e, J ≤ e → e < j → ¬ isEffAt rs e := fun e h1 h2 he => by
      have := chain_at hx.chn e j h2 he hej
      rw [Nat.zero_add, Nat.zero_add] at this
      have := (h.eff e he).1 (hw e this)
      omega
    have hlen : j < rs.length := by
      rcases Nat.lt_or_ge j rs.length with h1 | h1
      · exact h1
      · rw [List.getElem?_eq_none h1] at hrs; cases hrs
    have hsJ : s = stR T0 rs J := hat.mem.trans (stR_same j hJ (by omega) hnone)
    have hpend : ∀ y ∈ pe, bit bs y.1 j = true → Hang rs bs E y.1 y.2.1 y.2.2 := fun y hy hb => by
      obtain ⟨g1, g2, g3⟩ := hat.pend y hy
      exact ⟨g2, hw _ hb, fun e he hef => g3 e (by have := (h.eff e hef).1 he; omega) hef⟩
    rw [hsJ] at hl
    obtain ⟨hr2, hn2, ho2⟩ := layP_run hl h.step.rel hat.nodup (fun y hy hb => by
      obtain ⟨q, g1, g2, g3, g4⟩ := h.pend _ _ _ (hpend y hy hb)
      exact ⟨q, g1, g3, g4⟩) (fun y hy z hz hb hb' q t => h.dist _ _ _ _ _ _ (hpend y hy hb) (hpend z hz hb') q t)
    have st1 := h.step.laid hr2 hn2 (fun c hc => (ho2 c hc).imp id (fun ⟨y, hy, hb, q, hq, hqc⟩ => by
      obtain ⟨t, g1, g2, _⟩ := h.pend _ _ _ (hpend y hy hb)
      rw [hq] at g1
      cases g1
      omega))
    have hcame := stepV_came hx.hc hf hr2 hs
    rw [hex] at hcame
    refine came_wp hcame fun ρ' w' v' st2 hv => hK ρ' (j + 1) _ w' ?_
    have hst : stR T0 rs (j + 1) = post := stR_succ rs T0 j r _ hrs
    have hang : ∀ i k b, Hang rs bs (fun i => E i ∨ i = j) i k b → Hang rs bs E i k b ∧ bit bs i j = false := fun i k b ⟨h1, h2, h3⟩ =>
      ⟨⟨h1, h2.resolve_right (fun e => by obtain ⟨_, _, e2⟩ := h1; rw [e, hrs] at e2; cases e2), fun e he hef => h3 e (.inl he) hef⟩, h3 j (.inr rfl) hej⟩
    refine ⟨by rw [hst]; exact st1.trans st2, by rw [hst]; have := h.nx; have := st2.mono; omega, fun e he => ⟨fun h1 => ?_, fun h1 => ?_⟩, h.cl.or hw, by rw [put_size]; exact h.size, (put_defers _ _ _).trans h.defs,
      h.slots hx.ho hLo hrs hnj hd st2.le hv, fun i k b hh => ?_, fun i k1 b1 i' k2 b2 h1 h2 u t hu ht hb => ?_, fun i k b h1 h2 => ?_⟩
    · rcases h1 with h1 | h1
      · have := (h.eff e he).1 h1; omega
      · omega
    · by_cases e1 : e = j
      · exact .inr e1
      · refine .inl ((h.eff e he).2 ?_)
        rcases Nat.lt_or_ge e J with h2 | h2
        · exact h2
        · exact absurd he (hnone e h2 (by omega))
    · obtain ⟨hh1, hbit⟩ := hang i k b hh
      obtain ⟨q, g1, g2, g3, g4⟩ := h.pend i k b hh1
      have hno : ¬ Own ρ pre q.b := fun hc => by
        rcases ho2 _ hc with hc | ⟨y, hy, hb, t, ht, htq⟩
        · exact g3 hc
        · have := h.dist _ _ _ _ _ _ (hpend y hy hb) hh1 t q ht g1 htq
          rw [this] at hb
          rw [hb] at hbit
          cases hbit
      have hlt := (h.step.rel.dom _ _ g1).2
      refine ⟨q, st2.le _ _ g1, g2, fun hc => ?_, (g4.mono st2.le).same (st2.frame _ hlt hno)⟩
      rw [hst] at hc
      exact hno (st2.own _ hlt hc)
    · obtain ⟨u0, g1, _⟩ := h.pend i k1 b1 (hang _ _ _ h1).1
      obtain ⟨t0, g2, _⟩ := h.pend i' k2 b2 (hang _ _ _ h2).1
      have e1 := st2.le _ _ g1
      have e2 := st2.le _ _ g2
      rw [hu] at e1
      rw [ht] at e2
      cases e1
      cases e2
      exact h.dist i k1 b1 i' k2 b2 (hang _ _ _ h1).1 (hang _ _ _ h2).1 u t g1 g2 hb
    · have h3 := h.free i k b h1 (fun h3 => h2 (.inl h3))
      cases hk : ρ' k with
      | none => rfl
      | some t =>
        rcases st2.new k t hk with h4 | h4
        · rw [h3] at h4; cases h4
        · have hk2 := hx.keys i k b h1
          obtain ⟨_, _, h5⟩ := h1
          have : i < rs.length := by
            rcases Nat.lt_or_ge i rs.length with h6 | h6
            · exact h6
            · rw [List.getElem?_eq_none h6] at h5; cases h5
          have := hx.len
          have := h.nx
          omega
theorem stR_past {s : S} : ∀ (rs : List (Fr × Rec)) (s : S) (j : Nat), rs.length ≤ j → stR s rs j = stR s rs rs.length
  | [], s, j, _ => by cases j <;> simp [stR]
  | (r, rec) :: l, s, j, h => by
    obtain ⟨j, rfl⟩ : ∃ m, j = m + 1 := ⟨j - 1, by simp at h; omega⟩
    have h' : l.length ≤ j := by simp at h; omega
    cases rec <;> simp only [stR, List.length_cons] <;> exact stR_past (s := s) l _ j h'
theorem Inv.done {fr' : Fr} {Q : Exit → Act → World → Prop} (hx : Ctx P call L bs N0 rs (fr', s') fr0 T0) (h : Inv B L bs N0 rs T0 fr0 a0 ρ0 s0 w0 ρ J E a w) (hQ : Then B ρ0 s0 w0 a0 .normal fr' s' Q) (hE : ∀ i, i < L.length → E i) : Q .normal a w := by
  obtain ⟨F, s, pe, hat⟩ := hx.all L.length (Nat.le_refl _)
  have hgo := hat.go
  rw [List.drop_length] at hgo
  simp only [drawGo] at hgo
  rw [Option.bind_eq_some_iff] at hgo
  obtain ⟨s2, hl, hgo⟩ := hgo
  simp only [Option.some.injEq, Prod.mk.injEq] at hgo
  obtain ⟨_, rfl, rfl⟩ := hgo
  have heff : ∀ e, isEffAt rs e → e < rs.length := fun e ⟨_, _, _, _, he⟩ => by
    rcases Nat.lt_or_ge e rs.length with h6 | h6
    · exact h6
    · rw [List.getElem?_eq_none h6] at he; cases he
  have hlen := hx.len
  have hs : s = stR T0 rs J := by
    rw [hat.mem, stR_past (s := T0) rs T0 _ hlen]
    rcases Nat.lt_or_ge rs.length J with h1 | h1
    · exact (stR_past (s := T0) rs T0 J (by omega)).symm
    · exact stR_same _ h1 (Nat.le_refl _) (fun e h2 h3 he => by
        have := (h.eff e he).1 (hE e (by omega))
        omega)
  rw [hs] at hl
  have hpend : ∀ y ∈ pe, Hang rs bs E y.1 y.2.1 y.2.2 := fun y hy => by
    obtain ⟨g1, g2, g3⟩ := hat.pend y hy
    exact ⟨g2, hE _ g1, fun e he hef => g3 e (by have := heff e hef; omega) hef⟩
  obtain ⟨hr2, hn2, ho2⟩ := layAll_run hl h.step.rel hat.nodup (fun y hy => by
    obtain ⟨q, g1, g2, g3, g4⟩ := h.pend _ _ _ (hpend y hy)
    exact ⟨q, g1, g3, g4⟩) (fun y hy z hz q t => h.dist _ _ _ _ _ _ (hpend y hy) (hpend z hz) q t)
  have st1 := h.step.laid hr2 hn2 (fun c hc => (ho2 c hc).imp id (fun ⟨y, hy, q, hq, hqc⟩ => by
    obtain ⟨t, g1, g2, _⟩ := h.pend _ _ _ (hpend y hy)
    rw [hq] at g1
    cases g1
    omega))
  refine hQ ρ .normal a w st1 ⟨h.size.trans hat.n.symm, fun t => ?_⟩ h.defs rfl
  rw [hat.slot t, lastVal_congr (p' := E) L.length (fun i h1 _ => ⟨fun _ => hE i h1, fun _ => h1⟩)]
  exact h.slot t
theorem Inv.any {ops : Array Oper} {fr' : Fr} {Q : Exit → Act → World → Prop} (hx : Ctx P call ops.toList bs N0 rs (fr', s') fr0 T0) (hB : B ≤ w0.heap.size) (hN : N0 = s0.next) (hQ : Then B ρ0 s0 w0 a0 .normal fr' s' Q) :
    ∀ (fuel : Nat) (listed : Array Bool) (a : Act) (w : World) (ρ : Ren) (J : Nat), listed.size = ops.size → listed.toList.count false ≤ fuel → Inv B ops.toList bs N0 rs T0 fr0 a0 ρ0 s0 w0 ρ J (fun i => listed.getD i false = true) a w → wpAny P .any ops Q fuel listed a w := by
  have ready : ∀ (listed : Array Bool) (j : Nat), listed.size = ops.size → (j ∈ Region.ready .any ops listed ↔ j < ops.size ∧ listed.getD j false = false ∧ ∀ o, ops[j]? = some o → ∀ e ∈ o.after.toList, Region.binds .any e = true → listed.getD e.on false = true) := fun listed j hsz => by
    unfold Region.ready
    rw [List.mem_filter, List.mem_range]
    constructor
    · rintro ⟨h1, h2⟩
      simp only [Bool.and_eq_true] at h2
      obtain ⟨h2, h3⟩ := h2
      have h4 : j < listed.size := by omega
      refine ⟨h1, by simpa [h4] using h2, fun o ho e he hb => ?_⟩
      rw [ho] at h3
      simp only [Option.map_some, Option.getD_some, Array.all_eq_true'] at h3
      have := h3 e (by simpa using he)
      rw [hb] at this
      simpa using this
    · rintro ⟨h1, h2, h3⟩
      refine ⟨h1, ?_⟩
      have h4 : j < listed.size := by omega
      simp only [Bool.and_eq_true]
      refine ⟨by simpa [h4] using h2, ?_⟩
      obtain ⟨o, ho⟩ : ∃ o, ops[j]? = some o := ⟨_, Array.getElem?_eq_getElem h1⟩
      rw [ho]
      simp only [Option.map_some, Option.getD_some, Array.all_eq_true']
      intro e he
      cases hb : Region.binds .any e with
      | false => rfl
      | true => simpa using h3 o ho e (by simpa using he) hb
  have full : ∀ (listed : Array Bool), listed.size = ops.size → Region.ready .any ops listed = [] → ∀ i, i < ops.toList.length → listed.getD i false = true := fun listed hsz hr i => by
    induction i using Nat.strongRecOn with
    | _ i ih =>
      intro hi
      cases hl : listed.getD i false with
      | true => rfl
      | false =>
        have : i ∈ Region.ready .any ops listed := (ready listed i hsz).2 ⟨by simpa using hi, hl, fun o ho e he hb => by
          have hlt := hx.ho.back i o (by simpa using ho) e he hb
          exact ih e.on hlt (by omega)⟩
        rw [hr] at this
        cases this
  intro fuel
  induction fuel with
  | zero =>
    intro listed a w ρ J hsz hc h
    have hall : ∀ i, i < ops.toList.length → listed.getD i false = true := fun i hi => by
      have hi' : i < listed.size := by rw [hsz]; simpa using hi
      have : listed.toList.count false = 0 := by omega
      rw [List.count_eq_zero] at this
      have hne : listed[i] ≠ false := fun e => this (e ▸ by simp)
      simpa [hi'] using hne
    refine ⟨?_, h.done hx hQ hall⟩
    cases hr : Region.ready .any ops listed with
    | nil => rfl
    | cons j l =>
      have : j ∈ Region.ready .any ops listed := by rw [hr]; simp
      obtain ⟨h1, h2, _⟩ := (ready listed j hsz).1 this
      rw [hall j (by simpa using h1)] at h2
      cases h2
  | succ fuel ih =>
    intro listed a w ρ J hsz hc h
    refine ⟨fun hr => h.done hx hQ (full listed hsz hr), fun j hj => ?_⟩
    obtain ⟨h1, h2, h3⟩ := (ready listed j hsz).1 hj
    have hj' : j < listed.size := by omega
    obtain ⟨o, ho⟩ : ∃ o, ops[j]? = some o := ⟨_, Array.getElem?_eq_getElem h1⟩
    refine h.go hx hB hN (by simpa using h1) (ready_waits hx.ho h.cl (by simpa using ho) (h3 o ho)) (by rw [h2]; simp) fun ρ' J' a' w' h' => ?_
    refine ih _ a' w' ρ' J' (by simpa using hsz) ?_ ?_
    · have hl : listed.toList[j]'(by simpa using hj') = false := by
        simpa [hj'] using h2
      have hpos : 0 < listed.toList.count false := List.count_pos_iff.2 (hl ▸ List.getElem_mem _)
      rw [Array.toList_setIfInBounds, List.count_set (by simpa using hj'), hl]
      have e1 : ((false : Bool) == false) = true := rfl
      have e2 : ((true : Bool) == false) = false := rfl
      rw [e1, e2]
      simp only [if_true, Bool.false_eq_true, if_false]
      omega
    · have : (fun i => (listed.setIfInBounds j true).getD i false = true) = (fun i => listed.getD i false = true ∨ i = j) := by
        funext i
        apply propext
        by_cases e : i = j
        · subst e; simp [hj']
        · have : ¬ j = i := fun h => e h.symm
          simp [e, this, Array.getElem?_setIfInBounds]
      rw [this]
      exact h'
theorem drawOK (hm : P.follows .mixedOrders = true) (hc : CallOK P call) : DrawOK P call := fun ops fr s ex fr' s' h B ρ a w Q id hf hr hQ => by
  simp only [runRegion, cond_true] at h
  unfold runDraw at h
  rw [Option.bind_eq_some_iff] at h
  obtain ⟨bs, hbs, h⟩ := h
  simp only [fN_eq, Option.bind_some] at h
  rw [Option.bind_eq_some_iff] at h
  obtain ⟨⟨rs, x⟩, hd, h⟩ := h
  rw [cond_eq_ite] at h
  split at h
  · rename_i hck
    simp only [Option.some.injEq, Prod.mk.injEq] at h
    obtain ⟨rfl, rfl, rfl⟩ := h
    simp only [Bool.and_eq_true] at hck
    have ho := staticOk_ord hbs
    have hall := At.all ho (At.start hd)
    have hlen : rs.length ≤ ops.toList.length := by
      obtain ⟨F, s2, pe, hat⟩ := hall ops.toList.length (Nat.le_refl _)
      have hgo := hat.go
      rw [List.drop_length] at hgo
      simp only [drawGo] at hgo
      rw [Option.bind_eq_some_iff] at hgo
      obtain ⟨s3, _, hgo⟩ := hgo
      simp only [Option.some.injEq, Prod.mk.injEq] at hgo
      have := congrArg List.length hgo.1
      rw [List.length_drop, List.length_nil] at this
      omega
    have hx : Ctx P call ops.toList bs s.next rs x fr ⟨s.next + ops.toList.length, s.h⟩ := ⟨ho, hc, hall, hlen, fun i k b ⟨r, v, he⟩ => by
      have hi : i < rs.length := by
        rcases Nat.lt_or_ge i rs.length with h6 | h6
        · exact h6
        · rw [List.getElem?_eq_none h6] at he; cases he
      obtain ⟨F, s2, pe, hat⟩ := hall i (by omega)
      obtain ⟨o, r', rec, F', s3, pe2, _, h2, _, _, h5, _⟩ := hat.next ho (by omega)
      rw [he] at h2
      cases h2
      exact h5.2.1, hck.1, hck.2⟩
    have hrel : Rel B ρ ⟨s.next + ops.toList.length, s.h⟩ w.drew := by
      have := hr.drew
      exact ⟨fun i q e => ⟨by have := (this.dom i q e).1; show i < s.next + _; omega, (this.dom i q e).2⟩, this.blk, this.inj, this.size⟩
    refine wp_region_any hm ?_
    have hstart : stR (⟨s.next + ops.toList.length, s.h⟩ : S) rs 0 = ⟨s.next + ops.toList.length, s.h⟩ := by cases rs <;> rfl
    refine Inv.any (ρ0 := ρ) (s0 := s) (w0 := w) (a0 := a) hx hr.size rfl hQ ops.size (Array.replicate ops.size false) a w.drew ρ 0 (by simp) (by simp) ?_
    have hE : ∀ i, ¬ ((Array.replicate ops.size false).getD i false = true) := fun i => by
      by_cases h : i < ops.size <;> simp [h]
    refine ⟨by rw [hstart]; exact ⟨.refl _, hrel, (Below.refl _ _).drew, fun _ _ _ => rfl, fun c _ ⟨j, o, t, h1, h2, h3⟩ => ⟨j, o, t, h1, h2, h3⟩, by show s.next ≤ s.next + _; omega, fun i q e => .inl e⟩, by rw [hstart]; exact Nat.le_refl _, fun e _ => ⟨fun h => absurd h (hE e), fun h => by omega⟩,
      fun j hj => absurd hj (hE j), hf.size, rfl, fun t => ?_, fun i k b hh => absurd hh.2.1 (hE i), fun i k b i' k' b' hh => absurd hh.2.1 (hE i), fun i k b hm _ => ?_⟩
    · rw [lastVal_past (j := 0) (fun i _ => hE i) _ (by omega)]
      exact hf.slot t
    · have hk := hx.keys i k b hm
      cases hq : ρ k with
      | none => rfl
      | some q =>
        have := (hr.dom k q hq).1
        omega
  · cases h
end
end Go.Rx
