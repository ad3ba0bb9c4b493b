/-
A second reading of a program's text: regions that draw their order. Third: what is known of a region that was gone through.
-/
import Derived.Test.YtoebckilnicafaaGreatRxO
set_option linter.unusedVariables false
set_option linter.unusedSimpArgs false
namespace Go.Rx
open Go.RowKit
section
variable {P : Program} {call : Caller} {L : List Oper} {bs : List Nat} {N0 : Nat}
def RecOK (P : Program) (call : Caller) (L : List Oper) (bs : List Nat) (N0 : Nat) (j : Nat) (o : Oper) (r : Fr) (s : S) (pe : Pend) (s2 : S) (pe2 : Pend) : Rec → Prop
  | .skip => guardA r L o = some false ∧ s2 = s ∧ pe2 = pe
  | .rd v => guardA r L o = some true ∧ effOf P o.op = 0 ∧ s2 = s ∧ pe2 = pe
  | .mk k b v => guardA r L o = some true ∧ k = N0 + j ∧ (∃ cs z f, mkA P r o = some (cs, z, f) ∧ b = .cells cs false z ∧ v = f k) ∧ s2 = s ∧ pe2 = (j, k, b) :: pe
  | .eff pre post v => guardA r L o = some true ∧ layP bs j pe s = some (pre, pe2) ∧ stepV P call o r pre = some (v, post) ∧ s2 = post
theorem drawGo_step {o : Oper} {l : List Oper} {j : Nat} {F : Fr} {s : S} {pe : Pend} {rs : List (Fr × Rec)} {x : Fr × S} (h : drawGo P call L bs N0 (o :: l) j F s pe = some (rs, x)) :
    ∃ r rec rs' F' s2 pe2, rs = (r, rec) :: rs' ∧ onlyOf F (looks L o) ⟨.nil, F.n⟩ = some r ∧ F.put o.dst rec.val = some F' ∧ drawGo P call L bs N0 l (j + 1) F' s2 pe2 = some (rs', x) ∧ RecOK P call L bs N0 j o r s pe s2 pe2 rec := by
  simp only [drawGo] at h
  rw [Option.bind_eq_some_iff] at h
  obtain ⟨r, hr, h⟩ := h
  rw [Option.bind_eq_some_iff] at h
  obtain ⟨g, hg, h⟩ := h
  simp only [fN_eq, Option.bind_some] at h
  cases g
  · simp only [cond_false] at h
    rw [Option.bind_eq_some_iff] at h
    obtain ⟨F', hp, h⟩ := h
    rw [Option.bind_eq_some_iff] at h
    obtain ⟨⟨rs', y⟩, hd, h⟩ := h
    cases h
    exact ⟨r, .skip, rs', F', s, pe, rfl, hr, hp, hd, hg, rfl, rfl⟩
  · simp only [cond_true] at h
    split at h
    · rename_i he
      split at h
      · rename_i v s1 hop
        rw [Option.bind_eq_some_iff] at h
        obtain ⟨F', hp, h⟩ := h
        rw [Option.bind_eq_some_iff] at h
        obtain ⟨⟨rs', y⟩, hd, h⟩ := h
        cases h
        exact ⟨r, .rd v, rs', F', s, pe, rfl, hr, hp, hd, hg, he, rfl, rfl⟩
      · cases h
    · rename_i he
      rw [Option.bind_eq_some_iff] at h
      obtain ⟨⟨cs, z, f⟩, hm, h⟩ := h
      rw [Option.bind_eq_some_iff] at h
      obtain ⟨F', hp, h⟩ := h
      rw [Option.bind_eq_some_iff] at h
      obtain ⟨⟨rs', y⟩, hd, h⟩ := h
      cases h
      exact ⟨r, .mk (N0 + j) (.cells cs false z) (f (N0 + j)), rs', F', s, _, rfl, hr, hp, hd, hg, rfl, ⟨cs, z, f, hm, rfl, rfl⟩, rfl, rfl⟩
    · rw [Option.bind_eq_some_iff] at h
      obtain ⟨⟨s1, pe'⟩, hl, h⟩ := h
      rw [Option.bind_eq_some_iff] at h
      obtain ⟨⟨v, s2⟩, hs, h⟩ := h
      rw [Option.bind_eq_some_iff] at h
      obtain ⟨F', hp, h⟩ := h
      rw [Option.bind_eq_some_iff] at h
      obtain ⟨⟨rs', y⟩, hd, h⟩ := h
      cases h
      exact ⟨r, .eff s1 s2 v, rs', F', s2, pe', rfl, hr, hp, hd, hg, hl, hs, rfl⟩
/-- Memory behind the first so many operations. -/
def stR : S → List (Fr × Rec) → Nat → S
  | s, _, 0 => s
  | s, [], _ => s
  | s, (_, .eff _ post _) :: l, j + 1 => stR post l j
  | s, _ :: l, j + 1 => stR s l j
theorem stR_succ : ∀ (rs : List (Fr × Rec)) (s : S) (j : Nat) (r : Fr) (rec : Rec), rs[j]? = some (r, rec) → stR s rs (j + 1) = match rec with | .eff _ post _ => post | _ => stR s rs j
  | [], s, j, r, rec, h => by simp at h
  | (r0, rec0) :: l, s, 0, r, rec, h => by
    simp at h
    obtain ⟨rfl, rfl⟩ := h
    cases rec0 <;> (cases l <;> simp [stR])
  | (r0, rec0) :: l, s, j + 1, r, rec, h => by
    have h' : l[j]? = some (r, rec) := by simpa using h
    cases rec0 <;> simp only [stR] <;> exact stR_succ l _ j r rec h'
def isEffAt (rs : List (Fr × Rec)) (e : Nat) : Prop := ∃ r pre post v, rs[e]? = some (r, .eff pre post v)
def isMkAt (rs : List (Fr × Rec)) (i k : Nat) (b : Blk) : Prop := ∃ r v, rs[i]? = some (r, .mk k b v)
theorem stR_same {rs : List (Fr × Rec)} {s : S} {i : Nat} : ∀ (j : Nat), i ≤ j → j ≤ rs.length → (∀ e, i ≤ e → e < j → ¬ isEffAt rs e) → stR s rs j = stR s rs i
  | 0, h, _, _ => by have : i = 0 := by omega
                     rw [this]
  | j + 1, h, hl, hn => by
    by_cases e : i = j + 1
    · rw [e]
    · obtain ⟨⟨r, rec⟩, hr⟩ : ∃ x, rs[j]? = some x := ⟨_, List.getElem?_eq_getElem (by omega)⟩
      rw [stR_succ rs s j r rec hr]
      have ih := stR_same (s := s) j (by omega) (by omega) (fun e h1 h2 => hn e h1 (by omega))
      cases rec with
      | eff pre post v => exact absurd ⟨r, pre, post, v, hr⟩ (hn j (by omega) (by omega))
      | _ => exact ih
/-! The readers. -/
theorem anyAhead_false {j : Nat} : ∀ {l : List (Nat × S)}, (∀ x ∈ l, bit bs x.1 j = false) → anyAhead bs j l = false
  | [], _ => rfl
  | (e, s) :: l, h => by
    simp only [anyAhead, Bool.or_eq_false_iff]
    exact ⟨h (e, s) (by simp), anyAhead_false (fun x hx => h x (by simp [hx]))⟩
theorem effsIn_mem : ∀ {rs : List (Fr × Rec)} {k : Nat}, ∀ x ∈ effsIn rs k, ∃ i, x.1 = k + i ∧ isEffAt rs i
  | [], k, x, h => by simp [effsIn] at h
  | (r, rec) :: l, k, x, h => by
    have rest : x ∈ effsIn l (k + 1) → ∃ i, x.1 = k + i ∧ isEffAt ((r, rec) :: l) i := fun h => by
      obtain ⟨i, h1, r', pre, post, v, h2⟩ := effsIn_mem x h
      exact ⟨i + 1, by omega, r', pre, post, v, by simpa using h2⟩
    cases rec with
    | eff pre post v =>
      simp only [effsIn, List.mem_cons] at h
      rcases h with rfl | h
      · exact ⟨0, rfl, r, pre, post, v, rfl⟩
      · exact rest h
    | skip => exact rest h
    | rd v => exact rest h
    | mk a b c => exact rest h
theorem rdOk_at {j : Nat} {o : Oper} {r : Fr} {v : Value} : ∀ (rs : List (Fr × Rec)) (s : S) (k J : Nat), rdOk P bs j o r v s (effsIn rs k) = true → (∀ i, isEffAt rs i → (bit bs (k + i) j = true → i < J) ∧ (i < J → bit bs j (k + i) = false)) → rdAt P o r v (stR s rs J) = true
  | [], s, k, J, h, _ => by
    cases J <;> simpa [stR, effsIn, rdOk] using h
  | (r0, rec) :: l, s, k, J, h, hc => by
    have shift : ∀ i, isEffAt l i → isEffAt ((r0, rec) :: l) (i + 1) := fun i ⟨r', pre, post, v, h⟩ => ⟨r', pre, post, v, by simpa using h⟩
    have shiftc : ∀ J', J = J' + 1 → ∀ i, isEffAt l i → (bit bs (k + 1 + i) j = true → i < J') ∧ (i < J' → bit bs j (k + 1 + i) = false) := fun J' hJ i hi => by
      have := hc (i + 1) (shift i hi)
      rw [show k + (i + 1) = k + 1 + i by omega] at this
      exact ⟨fun hb => by have := this.1 hb; omega, fun hlt => this.2 (by omega)⟩
    have plain : effsIn ((r0, rec) :: l) k = effsIn l (k + 1) → (∀ J', stR s ((r0, rec) :: l) (J' + 1) = stR s l J') → rdAt P o r v (stR s ((r0, rec) :: l) J) = true := fun he hs => by
      rw [he] at h
      cases J with
      | zero =>
        have := rdOk_at l s (k + 1) 0 h (fun i hi => by
          have := hc (i + 1) (shift i hi)
          rw [show k + (i + 1) = k + 1 + i by omega] at this
          exact ⟨fun hb => by have := this.1 hb; omega, fun hlt => by omega⟩)
        have e : stR s l 0 = s := by cases l <;> rfl
        rw [e] at this
        exact this
      | succ J' =>
        rw [hs]
        exact rdOk_at l s (k + 1) J' h (shiftc J' rfl)
    cases rec with
    | eff pre post u =>
      simp only [effsIn, rdOk, Bool.and_eq_true, Bool.or_eq_true] at h
      have h0 : isEffAt ((r0, .eff pre post u) :: l) 0 := ⟨r0, pre, post, u, rfl⟩
      cases J with
      | zero =>
        rcases h.1 with h1 | h1
        · exfalso
          have : anyAhead bs j ((k, post) :: effsIn l (k + 1)) = false := anyAhead_false (fun x hx => by
            have hx' : x ∈ effsIn ((r0, .eff pre post u) :: l) k := hx
            obtain ⟨i, h2, h3⟩ := effsIn_mem x hx'
            rw [h2]
            cases hb : bit bs (k + i) j with
            | false => rfl
            | true => have := (hc i h3).1 hb; omega)
          rw [this] at h1
          cases h1
        · exact h1
      | succ J' =>
        rcases h.2 with h1 | h1
        · have := (hc 0 h0).2 (by omega)
          rw [Nat.add_zero] at this
          rw [this] at h1
          cases h1
        · exact rdOk_at l post (k + 1) J' h1 (shiftc J' rfl)
    | skip => exact plain rfl (fun _ => rfl)
    | rd v => exact plain rfl (fun _ => rfl)
    | mk a b c => exact plain rfl (fun _ => rfl)
theorem rdsOk_at {s : S} {es : List (Nat × S)} : ∀ {ops : List Oper} {rs : List (Fr × Rec)} {k : Nat}, rdsOk P bs s es ops rs k = true → ∀ j o r v, ops[j]? = some o → rs[j]? = some (r, .rd v) → rdOk P bs (k + j) o r v s es = true
  | [], rs, k, h, j, o, r, v, ho, _ => by simp at ho
  | _ :: _, [], k, h, j, o, r, v, _, hr => by simp at hr
  | x :: ops, (r0, rec) :: l, k, h, j, o, r, v, ho, hr => by
    cases j with
    | zero =>
      simp at ho hr
      obtain ⟨rfl, rfl⟩ := hr
      subst ho
      simp only [rdsOk, Bool.and_eq_true] at h
      exact h.1
    | succ j =>
      have h2 : rdsOk P bs s es ops l (k + 1) = true := by
        cases rec <;> simp only [rdsOk, Bool.and_eq_true] at h <;> first | exact h.2 | exact h
      have := rdsOk_at h2 j o r v (by simpa using ho) (by simpa using hr)
      rw [show k + (j + 1) = k + 1 + j by omega]
      exact this
theorem aheadAll_at {i : Nat} : ∀ {l : List (Nat × S)}, aheadAll bs i l = true → ∀ x ∈ l, bit bs i x.1 = true
  | [], _, x, h => by simp at h
  | (e, s) :: l, h, x, hx => by
    simp only [aheadAll, Bool.and_eq_true] at h
    rcases List.mem_cons.1 hx with rfl | hx
    · exact h.1
    · exact aheadAll_at h.2 x hx
theorem effsIn_of : ∀ {rs : List (Fr × Rec)} {k i : Nat}, isEffAt rs i → ∃ x ∈ effsIn rs k, x.1 = k + i
  | [], k, i, ⟨r, pre, post, v, h⟩ => by simp at h
  | (r0, rec) :: l, k, i, ⟨r, pre, post, v, h⟩ => by
    cases i with
    | zero =>
      simp at h
      obtain ⟨rfl, rfl⟩ := h
      exact ⟨(k, post), by simp [effsIn], rfl⟩
    | succ i =>
      obtain ⟨x, h1, h2⟩ := effsIn_of (k := k + 1) (i := i) (rs := l) ⟨r, pre, post, v, by simpa using h⟩
      refine ⟨x, ?_, by omega⟩
      cases rec <;> simp [effsIn, h1]
theorem chain_at : ∀ {rs : List (Fr × Rec)} {k : Nat}, chain bs (effsIn rs k) = true → ∀ i j, i < j → isEffAt rs i → isEffAt rs j → bit bs (k + i) (k + j) = true
  | [], k, h, i, j, _, ⟨r, pre, post, v, h2⟩, _ => by simp at h2
  | (r0, rec) :: l, k, h, i, j, hlt, hi, hj => by
    obtain ⟨j, rfl⟩ : ∃ m, j = m + 1 := ⟨j - 1, by omega⟩
    have hj' : isEffAt l j := by obtain ⟨r, pre, post, v, h⟩ := hj; exact ⟨r, pre, post, v, by simpa using h⟩
    have h2 : chain bs (effsIn l (k + 1)) = true := by
      cases rec <;> simp only [effsIn, chain, Bool.and_eq_true] at h <;> first | exact h.2 | exact h
    cases i with
    | zero =>
      obtain ⟨r, pre, post, v, hi⟩ := hi
      simp at hi
      obtain ⟨rfl, rfl⟩ := hi
      simp only [effsIn, chain, Bool.and_eq_true] at h
      obtain ⟨x, h3, h4⟩ := effsIn_of (k := k + 1) hj'
      have := aheadAll_at h.1 x h3
      rw [h4] at this
      rw [Nat.add_zero, show k + (j + 1) = k + 1 + j by omega]
      exact this
    | succ i =>
      have := chain_at h2 i j (by omega) (by obtain ⟨r, pre, post, v, h⟩ := hi; exact ⟨r, pre, post, v, by simpa using h⟩) hj'
      rw [show k + (i + 1) = k + 1 + i by omega, show k + (j + 1) = k + 1 + j by omega]
      exact this
/-! The state ahead of each operation of the text. -/
def valAt (rs : List (Fr × Rec)) (i : Nat) : Value := ((rs[i]?).map (·.2.val)).getD undef
structure At (P : Program) (call : Caller) (L : List Oper) (bs : List Nat) (N0 : Nat) (rs : List (Fr × Rec)) (x : Fr × S) (fr0 : Fr) (T0 : S) (j : Nat) (F : Fr) (s : S) (pe : Pend) : Prop where
  go : drawGo P call L bs N0 (L.drop j) j F s pe = some (rs.drop j, x)
  n : F.n = fr0.n
  slot : ∀ t, F.at t = lastVal L (valAt rs) (fun i => i < j) t (fr0.at t) L.length
  mem : s = stR T0 rs j
  pend : ∀ y ∈ pe, y.1 < j ∧ isMkAt rs y.1 y.2.1 y.2.2 ∧ ∀ e, e < j → isEffAt rs e → bit bs y.1 e = false
  nodup : (pe.map (·.1)).Nodup
theorem put_at {F F' : Fr} {d : Option Tmp} {v : Value} (h : F.put d v = some F') : F'.n = F.n ∧ (∀ t, F'.at t = if d = some t then v else F.at t) ∧ ∀ t, d = some t → t < F.n := by
  unfold Fr.put at h
  cases d with
  | none => cases h; exact ⟨rfl, fun t => by simp, fun t h => by cases h⟩
  | some d =>
    simp only [cond_eq_ite, fV_eq, fN_eq, Option.bind_some] at h
    split at h
    · rename_i hlt
      have hlt : d < F.n := by simpa [Nat.blt_eq] using hlt
      rw [Option.bind_eq_some_iff] at h
      obtain ⟨t0, ht, h⟩ := h
      cases h
      refine ⟨rfl, fun t => ?_, fun t e => by cases e; exact hlt⟩
      show (t0.get t).getD undef = _
      rw [T.get_set _ _ _ _ _ ht t]
      by_cases e : t = d
      · subst e; rw [if_pos rfl, if_pos rfl]; rfl
      · rw [if_neg e, if_neg (fun h => e (by injection h with h; exact h.symm))]; rfl
    · cases h
theorem layP_rest {e : Nat} : ∀ {pe pe2 : Pend} {s s1 : S}, layP bs e pe s = some (s1, pe2) → (∀ y ∈ pe2, y ∈ pe ∧ bit bs y.1 e = false) ∧ ((pe.map (·.1)).Nodup → (pe2.map (·.1)).Nodup)
  | [], pe2, s, s1, h => by simp [layP] at h; obtain ⟨_, rfl⟩ := h; exact ⟨fun y hy => by simp at hy, fun _ => by simp⟩
  | (i, k, b) :: l, pe2, s, s1, h => by
    simp only [layP, cond_eq_ite] at h
    split at h
    · rename_i hb
      rw [Option.bind_eq_some_iff] at h
      obtain ⟨s', _, h⟩ := h
      obtain ⟨h1, h2⟩ := layP_rest h
      exact ⟨fun y hy => ⟨by simp [(h1 y hy).1], (h1 y hy).2⟩, fun hn => h2 (by simp at hn ⊢; exact hn.2)⟩
    · rename_i hb
      rw [Option.bind_eq_some_iff] at h
      obtain ⟨⟨s', r⟩, hr, h⟩ := h
      cases h
      obtain ⟨h1, h2⟩ := layP_rest hr
      refine ⟨fun y hy => ?_, fun hn => ?_⟩
      · rcases List.mem_cons.1 hy with rfl | hy
        · exact ⟨by simp, by simpa using hb⟩
        · exact ⟨by simp [(h1 y hy).1], (h1 y hy).2⟩
      · simp only [List.map_cons, List.nodup_cons] at hn ⊢
        refine ⟨fun hm => hn.1 ?_, h2 hn.2⟩
        obtain ⟨y, hy, he⟩ := List.mem_map.1 hm
        exact List.mem_map.2 ⟨y, (h1 y hy).1, he⟩
theorem bit_back (ho : Ord L bs) : ∀ (j : Nat), j < L.length → ∀ i, bit bs i j = true → i < j := by
  intro j
  induction j using Nat.strongRecOn with
  | _ j ih =>
    intro hj i hb
    obtain ⟨e, h1, h2, h3⟩ := ho.wait j _ (List.getElem?_eq_getElem hj) i hb
    have hlt := ho.back j _ (List.getElem?_eq_getElem hj) e h1 h2
    rcases h3 with rfl | h3
    · exact hlt
    · have := ih e.on hlt (by omega) i h3
      omega
theorem At.next (ho : Ord L bs) {rs : List (Fr × Rec)} {x : Fr × S} {fr0 : Fr} {T0 : S} {j : Nat} {F : Fr} {s : S} {pe : Pend} (h : At P call L bs N0 rs x fr0 T0 j F s pe) (hj : j < L.length) :
    ∃ o r rec F' s2 pe2, L[j]? = some o ∧ rs[j]? = some (r, rec) ∧ onlyOf F (looks L o) ⟨.nil, F.n⟩ = some r ∧ F.put o.dst rec.val = some F' ∧ RecOK P call L bs N0 j o r s pe s2 pe2 rec ∧ At P call L bs N0 rs x fr0 T0 (j + 1) F' s2 pe2 := by
  have hgo := h.go
  rw [List.drop_eq_getElem_cons hj] at hgo
  obtain ⟨r, rec, rs', F', s2, pe2, h1, h2, h3, h4, h5⟩ := drawGo_step hgo
  have hrj : rs[j]? = some (r, rec) := by
    have : (rs.drop j)[0]? = some (r, rec) := by rw [h1]; rfl
    simpa using this
  have hrs' : rs.drop (j + 1) = rs' := by
    rw [← List.tail_drop, h1]
    rfl
  obtain ⟨p1, p2, p3⟩ := put_at h3
  refine ⟨L[j], r, rec, F', s2, pe2, List.getElem?_eq_getElem hj, hrj, h2, h3, h5, ⟨by rw [hrs']; exact h4, by rw [p1, h.n], fun t => ?_, ?_, fun y hy => ?_, ?_⟩⟩
  · rw [p2 t]
    have hv : valAt rs j = rec.val := by unfold valAt; rw [hrj]; rfl
    by_cases hd : (L[j]).dst = some t
    · rw [if_pos hd]
      have hda : dstAt L j = some t := by unfold dstAt; rw [List.getElem?_eq_getElem hj]; exact hd
      have := lastVal_add (L := L) (V := valAt rs) (p := fun i => i < j) (t := t) (d := fr0.at t) (j := j) L.length hj hda (fun i h1 h2 h3 h4 => by omega)
      rw [hv] at this
      rw [← this]
      exact lastVal_congr _ (fun i _ _ => by omega)
    · rw [if_neg hd, h.slot t]
      refine lastVal_congr _ (fun i _ hi => ?_)
      have : i ≠ j := fun e => hd (by subst e; unfold dstAt at hi; rw [List.getElem?_eq_getElem hj] at hi; exact hi)
      omega
  · rw [stR_succ rs T0 j r rec hrj, ← h.mem]
    cases rec <;> simp only [RecOK] at h5
    · exact h5.2.1
    · exact h5.2.2.1
    · exact h5.2.2.2.1
    · exact h5.2.2.2
  · cases rec with
    | skip =>
      obtain ⟨_, _, rfl⟩ := h5
      obtain ⟨q1, q2, q3⟩ := h.pend y hy
      refine ⟨by omega, q2, fun e he hE => ?_⟩
      by_cases e1 : e = j
      · subst e1; obtain ⟨_, _, _, _, hE⟩ := hE; rw [hrj] at hE; cases hE
      · exact q3 e (by omega) hE
    | rd v =>
      obtain ⟨_, _, _, rfl⟩ := h5
      obtain ⟨q1, q2, q3⟩ := h.pend y hy
      refine ⟨by omega, q2, fun e he hE => ?_⟩
      by_cases e1 : e = j
      · subst e1; obtain ⟨_, _, _, _, hE⟩ := hE; rw [hrj] at hE; cases hE
      · exact q3 e (by omega) hE
    | mk k b v =>
      obtain ⟨_, hk, _, _, rfl⟩ := h5
      rcases List.mem_cons.1 hy with rfl | hy
      · refine ⟨by simp, ⟨r, v, hrj⟩, fun e he hE => ?_⟩
        cases hb : bit bs j e with
        | false => rfl
        | true =>
          have hel : e < L.length := by omega
          have := bit_back ho e hel j hb
          omega
      · obtain ⟨q1, q2, q3⟩ := h.pend y hy
        refine ⟨by omega, q2, fun e he hE => ?_⟩
        by_cases e1 : e = j
        · subst e1; obtain ⟨_, _, _, _, hE⟩ := hE; rw [hrj] at hE; cases hE
        · exact q3 e (by omega) hE
    | eff pre post v =>
      obtain ⟨_, hl, _, _⟩ := h5
      obtain ⟨l1, l2⟩ := (layP_rest hl).1 y hy
      obtain ⟨q1, q2, q3⟩ := h.pend y l1
      refine ⟨by omega, q2, fun e he hE => ?_⟩
      by_cases e1 : e = j
      · subst e1; exact l2
      · exact q3 e (by omega) hE
  · cases rec with
    | skip => obtain ⟨_, _, rfl⟩ := h5; exact h.nodup
    | rd v => obtain ⟨_, _, _, rfl⟩ := h5; exact h.nodup
    | mk k b v =>
      obtain ⟨_, hk, _, _, rfl⟩ := h5
      simp only [List.map_cons, List.nodup_cons]
      refine ⟨fun hm => ?_, h.nodup⟩
      obtain ⟨y, hy, he⟩ := List.mem_map.1 hm
      have := (h.pend y hy).1
      omega
    | eff pre post v => obtain ⟨_, hl, _, _⟩ := h5; exact (layP_rest hl).2 h.nodup
theorem At.all (ho : Ord L bs) {rs : List (Fr × Rec)} {x : Fr × S} {fr0 : Fr} {T0 : S} (h : At P call L bs N0 rs x fr0 T0 0 fr0 T0 []) : ∀ j, j ≤ L.length → ∃ F s pe, At P call L bs N0 rs x fr0 T0 j F s pe
  | 0, _ => ⟨_, _, _, h⟩
  | j + 1, hj => by
    obtain ⟨F, s, pe, h1⟩ := At.all ho h j (by omega)
    obtain ⟨o, r, rec, F', s2, pe2, _, _, _, _, _, h2⟩ := h1.next ho (by omega)
    exact ⟨F', s2, pe2, h2⟩
theorem At.start {rs : List (Fr × Rec)} {x : Fr × S} {fr0 : Fr} {T0 : S} (h : drawGo P call L bs N0 L 0 fr0 T0 [] = some (rs, x)) : At P call L bs N0 rs x fr0 T0 0 fr0 T0 [] :=
  ⟨by simpa using h, rfl, fun t => by
    have := lastVal_past (L := L) (V := valAt rs) (p := fun i => i < 0) (t := t) (d := fr0.at t) (j := 0) (fun i _ h => by omega) L.length (by omega)
    rw [this]
    rfl, by cases rs <;> rfl, fun y hy => by simp at hy, by simp⟩
end
end Go.Rx
