/-
A second reading of a program's text: each operation does what the model's does.
-/
import Derived.Test.YtoebckilnicafaaGreatRxE
set_option linter.unusedVariables false
set_option linter.unusedSimpArgs false
namespace Go.Rx
open Go.RowKit
inductive OV (ρ : Ren) : Option Value → Option Value → Prop
  | none : OV ρ none none
  | some {v v' : Value} (h : VR ρ v v') : OV ρ (some v) (some v')
structure FR (ρ : Ren) (fr : Fr) (a : Act) : Prop where
  size : a.tmps.size = fr.n
  slot : ∀ t, VR ρ (fr.at t) (a.tmps.getD t undef)
mutual
theorem closedV_eq {ρ : Ren} : ∀ {v v' : Value}, VR ρ v v' → closedV v = true → v' = v
  | _, _, .bool _, _ => rfl
  | _, _, .int _ _, _ => rfl
  | _, _, .string _, _ => rfl
  | _, _, .pnil, _ => rfl
  | _, _, .ptr _, h => by simp [closedV] at h
  | _, _, .snil, _ => rfl
  | _, _, .slc _ _ _ _, h => by simp [closedV] at h
  | _, _, .emp _ _, h => by simp [closedV] at h
  | _, _, .mnil, _ => rfl
  | _, _, .map _, h => by simp [closedV] at h
  | .func f ⟨x⟩ ⟨y⟩, .func _ ⟨x'⟩ ⟨y'⟩, .func hf hx hy, h => by
    cases f <;> simp only [closedV, Bool.and_eq_true] at h <;> first | exact absurd rfl (hf _) | (obtain rfl : x' = x := closedVs_eq hx h.1; obtain rfl : y' = y := closedVs_eq hy h.2; rfl)
  | _, _, .fnil, _ => rfl
  | _, _, .inil, _ => rfl
  | _, _, .iface e, h => by rw [closedV_eq e (by simpa [closedV] using h)]
  | .agg ⟨x⟩, .agg ⟨x'⟩, .agg e, h => by obtain rfl : x' = x := closedVs_eq e (by simpa [closedV] using h); rfl
  | .tuple ⟨x⟩, .tuple ⟨x'⟩, .tuple e, h => by obtain rfl : x' = x := closedVs_eq e (by simpa [closedV] using h); rfl
theorem closedVs_eq {ρ : Ren} : ∀ {l l' : List Value}, VRs ρ l l' → closedVs l = true → l' = l
  | _, _, .nil, _ => rfl
  | _, _, .cons e t, h => by
    simp only [closedVs, Bool.and_eq_true] at h
    rw [closedV_eq e h.1, closedVs_eq t h.2]
end
section
variable {P : Program} {B : Nat} {ρ : Ren} {s s' : S} {w : World} {fr fr' : Fr} {a : Act}
theorem FR.mono {σ : Ren} (h : FR ρ fr a) (hl : ρ.le σ) : FR σ fr a := ⟨h.size, fun t => (h.slot t).mono hl⟩
theorem FR.op (h : FR ρ fr a) {x : Operand} (hx : okOp x = true) : VR ρ (fr.op x) (a.eval x) := by
  cases x with
  | tmp t => exact h.slot t
  | const v => exact closedV_self v hx
  | global g => simp [okOp] at hx
  | func f => exact .func (fun _ e => by cases e) .nil .nil
theorem FR.put (h : FR ρ fr a) {d : Option Tmp} {v v' : Value} (hp : fr.put d v = some fr') (hv : VR ρ v v') : FR ρ fr' (a.put d v') := by
  unfold Fr.put at hp
  cases d with
  | none => cases hp; exact h
  | some d =>
    simp only [cond_eq_ite, fV_eq, fN_eq, Option.bind_some] at hp
    split at hp
    · rename_i hlt
      have hlt : d < fr.n := by simpa [Nat.blt_eq] using hlt
      rw [Option.bind_eq_some_iff] at hp
      obtain ⟨t, ht, hp⟩ := hp
      cases hp
      refine ⟨by simp [Act.put, h.size], fun k => ?_⟩
      have hg := T.get_set _ _ _ _ _ ht k
      show VR ρ ((t.get k).getD undef) _
      rw [hg]
      by_cases e : k = d
      · subst e
        rw [if_pos rfl]
        simp [Act.put, h.size, hlt]
        exact hv
      · rw [if_neg e]
        show VR ρ (fr.at k) _
        have := h.slot k
        simpa [Act.put, Array.getElem?_setIfInBounds_ne (Ne.symm e)] using this
    · cases hp
theorem runP_run {α : Type} : ∀ (x : Sem α) {v : α}, runP P x = some v → ∀ w, x.run P w = .ok v w
  | .pure a, v, h, w => by simp [runP] at h; subst h; rfl
  | .program k, v, h, w => by simp only [runP] at h; simp only [Sem.run]; exact runP_run (k P) h w
  | .mark m k, v, h, w => by simp only [runP] at h; simp only [Sem.run]; exact runP_run k h w
  | .load .., _, h, _ => by simp [runP] at h
  | .store .., _, h, _ => by simp [runP] at h
  | .new .., _, h, _ => by simp [runP] at h
  | .shape .., _, h, _ => by simp [runP] at h
  | .freeze .., _, h, _ => by simp [runP] at h
  | .frozen .., _, h, _ => by simp [runP] at h
  | .getObj .., _, h, _ => by simp [runP] at h
  | .setObj .., _, h, _ => by simp [runP] at h
  | .choose .., _, h, _ => by simp [runP] at h
  | .sys .., _, h, _ => by simp [runP] at h
  | .halt .., _, h, _ => by simp [runP] at h
/-- What an operation is asked: a value, and memory. -/
def Meets (B : Nat) (ρ : Ren) (s : S) (w : World) (v : Value) (s' : S) (r : Result Next) (q : Prop) : Prop :=
  ∃ ρ' w' v', (r = .ok (.value v') w' ∨ (r = .ok .skip w' ∧ v' = undef)) ∧ Step B ρ s w ρ' s' w' ∧ VR ρ' v v' ∧ (q → s' = s ∧ r = .ok (.value v') w ∧ VR ρ v v')
theorem Meets.quiet {v v' : Value} {r : Result Next} {q : Prop} (hr : Rel B ρ s w) (h : r = .ok (.value v') w) (hv : VR ρ v v') : Meets B ρ s w v s r q := ⟨ρ, w, v', .inl h, .refl hr, hv, fun _ => ⟨rfl, h, hv⟩⟩
theorem allClosed_at : ∀ {l : List Operand}, allClosed fr l = true → ∀ x ∈ l, okOp x = true ∧ closedV (fr.op x) = true
  | [], _, x, hx => by simp at hx
  | y :: l, h, x, hx => by
    simp only [allClosed, Bool.and_eq_true] at h
    rcases List.mem_cons.1 hx with rfl | hx
    · exact h.1
    · exact allClosed_at h.2 x hx
theorem pureA_run {o : Oper} {v : Value} (hf : FR ρ fr a) (h : pureA P fr o = some v) : (execOp a.eval o).run P w = .ok (.value v) w ∧ VR ρ v v := by
  unfold pureA at h
  rw [cond_eq_ite] at h
  split at h
  · rename_i hc
    split at h
    · rename_i u hu
      rw [cond_eq_ite] at h
      split at h
      · rename_i hcl
        cases h
        refine ⟨?_, closedV_self _ hcl⟩
        have hsel : ∀ cs b, o.op ≠ .select cs b := fun cs b e => by
          have := runP_run _ hu w
          unfold execOp at this
          simp only [e, Sem.run_bind, Sem.run_pure] at this
          generalize (Sem.run P (cs.mapM _) w) = r at this
          cases r <;> simp [Result.andThen] at this
        rw [execOp_congr (ρ' := fr.op) o hsel (fun x hx => ?_)]
        · exact runP_run _ hu w
        · obtain ⟨h1, h2⟩ := allClosed_at hc x (by simpa using hx)
          exact closedV_eq (hf.op h1) h2
      · cases h
    · cases h
  · cases h
/-! Slicing. -/
def BN (x : Option Value) (d n : Nat) : Prop := (x = none ∧ n = d) ∨ ∃ k, x = some (.int k (n : Int))
theorem bnd_run {x x' : Option Value} {d n : Nat} (hx : OV ρ x x') (h : bnd x d = some n) : BN x' d n ∧ (x = none ↔ x' = none) := by
  unfold bnd at h
  split at h
  · cases hx; cases h; exact ⟨.inl ⟨rfl, rfl⟩, by simp⟩
  · rw [fN_eq] at h
    cases h
    cases hx with
    | some hv => cases hv; exact ⟨.inr ⟨_, rfl⟩, by simp⟩
  · cases h
theorem sb_none {isS : Bool} {len cap l h : Nat} {lo hi : Option Value} (hl : BN lo 0 l) (hh : BN hi len h) (h1 : l ≤ h) (h2 : h ≤ cap ∨ hi = none) : (Instr.sliceBounds isS len cap lo hi none).run P w = .ok (l, h, cap) w := by
  have c1 : (0 : Int) ≤ l ∧ (l : Int) ≤ h := by omega
  have c3 : (0 : Int) ≤ h := by omega
  rcases hh with ⟨rfl, rfl⟩ | ⟨k, rfl⟩
  · rcases hl with ⟨rfl, rfl⟩ | ⟨k2, rfl⟩
    · simp [Instr.sliceBounds]
    · simp [Instr.sliceBounds, Instr.sliceBound, asIntOf, c1, h1]
  · rcases h2 with h2 | h2
    · have c2 : (h : Int) ≤ cap := by omega
      rcases hl with ⟨rfl, rfl⟩ | ⟨k2, rfl⟩
      · simp [Instr.sliceBounds, Instr.sliceBound, asIntOf, c2, c3, h2]
      · simp [Instr.sliceBounds, Instr.sliceBound, asIntOf, c1, c2, c3, h1, h2]
    · cases h2
theorem sb_some {isS : Bool} {len cap l h m : Nat} {lo hi : Option Value} {k k2 : IntKind} (hl : BN lo 0 l) (hh : hi = some (.int k (h : Int))) (h1 : l ≤ h) (h2 : h ≤ m) (h3 : m ≤ cap) : (Instr.sliceBounds isS len cap lo hi (some (.int k2 (m : Int)))).run P w = .ok (l, h, m) w := by
  have c1 : (0 : Int) ≤ l ∧ (l : Int) ≤ h := by omega
  have c2 : (0 : Int) ≤ h ∧ (h : Int) ≤ m := by omega
  have c3 : (0 : Int) ≤ m ∧ (m : Int) ≤ cap := by omega
  subst hh
  rcases hl with ⟨rfl, rfl⟩ | ⟨k3, rfl⟩
  · simp [Instr.sliceBounds, Instr.sliceBound, asIntOf, c2, c3, h2, h3]
  · simp [Instr.sliceBounds, Instr.sliceBound, asIntOf, c1, c2, c3, h1, h2, h3]
theorem add_at {b o n : Nat} : (⟨b, o, none⟩ : Addr).add n = ⟨b, o + n, none⟩ := Addr.add_mid b o n
theorem sliceA_run {t : TypeId} {x x' v : Value} {lo hi mx lo' hi' mx' : Option Value} (hr : Rel B ρ s w) (hx : VR ρ x x') (hlo : OV ρ lo lo') (hhi : OV ρ hi hi') (hmx : OV ρ mx mx') (h : sliceA P s t x lo hi mx = some v) :
    ∃ v', (Instr.sliceAt t x' lo' hi' mx').run P w = .ok v' w ∧ VR ρ v v' := by
  unfold sliceA at h
  rw [Option.bind_eq_some_iff] at h
  obtain ⟨d, hd, h⟩ := h
  split at h
  · rename_i e b o n c
    rw [Option.bind_eq_some_iff] at h
    obtain ⟨i, hi2, h⟩ := h
    rw [Option.bind_eq_some_iff] at h
    obtain ⟨l, hl, h⟩ := h
    rw [Option.bind_eq_some_iff] at h
    obtain ⟨hh, hh2, h⟩ := h
    obtain ⟨bl, _⟩ := bnd_run hlo hl
    obtain ⟨bh, bhn⟩ := bnd_run hhi hh2
    obtain ⟨q, a0, c', hq, rfl, hroom, hnc, hor⟩ := hx.slice
    split at h
    · rename_i cs ro z hb
      obtain ⟨q', hq', cs', h1, h2, h3, h4, h5⟩ := hr.blk b _ hb
      rw [hq] at hq'
      cases hq'
      simp only [cond_eq_ite] at h
      split at h
      · rename_i hz
        have hz : z = i.size ∨ c % 2 = 0 := by simpa using hz
        split at h
        · cases hmx
          split at h
          · rename_i hc
            simp only [Bool.and_eq_true, Bool.or_eq_true, Nat.ble_eq] at hc
            simp only [fN_eq, Option.bind_some] at h
            have hcc : hh ≤ c' ∨ hi' = none := by
              rcases hc.2 with e1 | e1
              · rcases hor with ⟨_, hcap, _⟩ | ⟨e2, e3⟩
                · left; have := hcap.le; omega
                · left; omega
              · right
                rw [← bhn]
                simpa using e1
            have hhc : hh ≤ c' := by
              rcases hcc with e1 | e1
              · exact e1
              · rcases bh with ⟨_, rfl⟩ | ⟨k, e2⟩
                · exact hnc
                · rw [e2] at e1; cases e1
            have hsb := sb_none (P := P) (w := w) (isS := true) bl bh hc.1 hcc
            have hrun : (Instr.sliceAt t (.slice (some ⟨q.b, a0, none⟩) n c') lo' hi' none).run P w = .ok (.slice (if c' = l then some ⟨q.b, a0, none⟩ else some ⟨q.b, a0 + l * i.size, none⟩) (hh - l) (c' - l)) w := by
              simp [Instr.sliceAt, Instr.slice, run_underlying hd, hsb, sizeOf, typeInfo, hi2, add_at]
            split at h
            · rename_i e0
              have e0 : l = 0 := by simpa using e0
              cases h
              subst e0
              refine ⟨_, hrun, ?_⟩
              have : (if c' = 0 then (some ⟨q.b, a0, none⟩ : Option Addr) else some ⟨q.b, a0 + 0 * i.size, none⟩) = some ⟨q.b, a0, none⟩ := by simp
              rw [this, Nat.sub_zero, Nat.sub_zero]
              rcases hor with ⟨rfl, hcap, hn⟩ | ⟨rfl, rfl⟩
              · refine .slc hq hcap ?_ hroom
                rcases hc.2 with e1 | e1
                · exact e1
                · have : hi' = none := by rw [← bhn]; simpa using e1
                  rcases bh with ⟨_, rfl⟩ | ⟨k, e2⟩
                  · exact hn
                  · rw [e2] at this; cases this
              · have : hh = 0 := by
                  rcases hc.2 with e1 | e1
                  · simpa using e1
                  · have : hi' = none := by rw [← bhn]; simpa using e1
                    rcases bh with ⟨_, e3⟩ | ⟨k, e2⟩
                    · exact e3
                    · rw [e2] at this; cases this
                subst this
                exact .emp hq (hroom rfl)
            · rename_i e0
              have e0 : l ≠ 0 := by simpa using e0
              have hor2 : a0 = q.d + o ∧ CapR c c' ∧ n ≤ c / 2 := by
                rcases hor with e1 | ⟨e1, e2⟩
                · exact e1
                · exfalso
                  rcases hc.2 with e3 | e3
                  · subst e2; omega
                  · have : hi' = none := by rw [← bhn]; simpa using e3
                    rcases bh with ⟨_, e4⟩ | ⟨k, e4⟩
                    · omega
                    · rw [e4] at this; cases this
              obtain ⟨rfl, hcap, hn⟩ := hor2
              have hhc2 : hh ≤ c / 2 := by
                rcases hc.2 with e1 | e1
                · exact e1
                · have : hi' = none := by rw [← bhn]; simpa using e1
                  rcases bh with ⟨_, rfl⟩ | ⟨k, e2⟩
                  · exact hn
                  · rw [e2] at this; cases this
              have hcl := hcap.le
              split at h
              · rename_i e1
                have e1 : l < c / 2 := by simpa [Nat.blt_eq] using e1
                cases h
                refine ⟨_, hrun, ?_⟩
                rw [if_neg (by omega), Nat.add_assoc]
                refine .slc hq ?_ (by omega) (fun ho => ?_)
                · unfold CapR at hcap ⊢
                  split at hcap
                  · rw [if_pos (by omega)]; omega
                  · rw [if_neg (by omega)]; omega
                · have hz2 : z = i.size := by rcases hz with hz | hz; exact hz; omega
                  have hrm := hroom (by omega)
                  rw [← hz2, ← h4]
                  have : (c' - l) * q.z + l * q.z = c' * q.z := by rw [← Nat.add_mul]; congr 1; omega
                  omega
              · rename_i e1
                have e1 : ¬ l < c / 2 := by simpa [Nat.blt_eq] using e1
                have hlc : l = c / 2 := by omega
                have hhl : hh = l := by omega
                subst hhl
                split at h
                · rename_i e2
                  have e2 : c % 2 = 0 := by simpa using e2
                  cases h
                  refine ⟨_, hrun, ?_⟩
                  have : c' = hh := by unfold CapR at hcap; rw [if_pos e2] at hcap; omega
                  rw [if_pos this, this]
                  simp
                  exact .slc hq (by simp [CapR]) (by simp) (by simp)
                · rename_i e2
                  have e2 : c % 2 = 1 := by have : ¬ c % 2 = 0 := by simpa using e2
                                            omega
                  cases h
                  refine ⟨_, hrun, ?_⟩
                  have hrm := hroom e2
                  have hz2 : z = i.size := by rcases hz with hz | hz; exact hz; omega
                  rw [Nat.sub_self]
                  split
                  · rename_i e3
                    exact .emp hq (by rw [e3]; simp; omega)
                  · refine .emp hq ?_
                    rw [← hz2, ← h4]
                    have : (c' - hh) * q.z + hh * q.z = c' * q.z := by rw [← Nat.add_mul]; congr 1; omega
                    omega
          · cases h
        · rename_i m
          cases hmx with
          | @some _ vm hmv =>
          rw [Option.bind_eq_some_iff] at h
          obtain ⟨m2, hm2, h⟩ := h
          obtain ⟨bm, _⟩ := bnd_run (OV.some hmv) hm2
          split at h
          · rename_i hc
            simp only [Bool.and_eq_true, Nat.ble_eq] at hc
            obtain ⟨⟨⟨hc1, hc2⟩, hc3⟩, hc4⟩ := hc
            simp only [fN_eq, Option.bind_some] at h
            have hhs : ∃ k, hi' = some (.int k (hh : Int)) := by
              rcases bh with ⟨e1, _⟩ | e1
              · rw [bhn.2 e1] at hc4; simp at hc4
              · exact e1
            obtain ⟨k1, hk1⟩ := hhs
            have hms : ∃ k, (some vm : Option Value) = some (.int k (m2 : Int)) := by
              rcases bm with ⟨e1, _⟩ | e1
              · cases e1
              · exact e1
            obtain ⟨k2, hk2⟩ := hms
            cases hk2
            have hmc : m2 ≤ c' := by
              rcases hor with ⟨_, hcap, _⟩ | ⟨e2, e3⟩
              · have := hcap.le; omega
              · omega
            have hsb := sb_some (P := P) (w := w) (isS := true) (len := n) (k2 := k2) bl hk1 hc1 hc2 hmc
            have hrun : (Instr.sliceAt t (.slice (some ⟨q.b, a0, none⟩) n c') lo' hi' (some (.int k2 (m2 : Int)))).run P w = .ok (.slice (if m2 = l then some ⟨q.b, a0, none⟩ else some ⟨q.b, a0 + l * i.size, none⟩) (hh - l) (m2 - l)) w := by
              simp [Instr.sliceAt, Instr.slice, run_underlying hd, hsb, sizeOf, typeInfo, hi2, add_at]
            have hor2 : a0 = q.d + o ∨ (c = 1 ∧ m2 = 0) := by
              rcases hor with ⟨e1, _⟩ | ⟨_, e3⟩
              · exact .inl e1
              · right; omega
            split at h
            · rename_i e0
              have e0 : l = m2 := by simpa using e0
              have e1 : hh = l := by omega
              split at h
              · rename_i e2
                have e2 : c % 2 = 0 := by simpa using e2
                cases h
                refine ⟨_, hrun, ?_⟩
                rw [if_pos e0.symm, ← e0, e1]
                rcases hor2 with rfl | ⟨e3, _⟩
                · simp
                  exact .slc hq (by simp [CapR]) (by simp) (by simp)
                · omega
              · rename_i e2
                have e2 : c % 2 = 1 := by have : ¬ c % 2 = 0 := by simpa using e2
                                          omega
                cases h
                refine ⟨_, hrun, ?_⟩
                rw [if_pos e0.symm, ← e0, e1]
                simp
                have := hroom e2
                exact .emp hq (by simp; omega)
            · rename_i e0
              have e0 : l ≠ m2 := by simpa using e0
              cases h
              refine ⟨_, hrun, ?_⟩
              rcases hor2 with rfl | ⟨_, e3⟩
              · rw [if_neg (Ne.symm e0), Nat.add_assoc]
                exact .slc hq (by unfold CapR; rw [if_pos (by omega)]; omega) (by omega) (by omega)
              · omega
          · cases h
      · cases h
    · cases h
  · rename_i n e b o
    rw [Option.bind_eq_some_iff] at h
    obtain ⟨i, hi2, h⟩ := h
    rw [Option.bind_eq_some_iff] at h
    obtain ⟨l, hl, h⟩ := h
    rw [Option.bind_eq_some_iff] at h
    obtain ⟨hh, hh2, h⟩ := h
    obtain ⟨bl, _⟩ := bnd_run hlo hl
    obtain ⟨bh, bhn⟩ := bnd_run hhi hh2
    cases hx with
    | ptr hq =>
    rename_i q
    split at h
    · cases hmx
      simp only [cond_eq_ite] at h
      split at h
      · rename_i hc
        simp only [Bool.and_eq_true, Nat.ble_eq] at hc
        simp only [fN_eq, Option.bind_some] at h
        have hsb := sb_none (P := P) (w := w) (isS := false) bl bh hc.1 (.inl hc.2)
        have hrun : (Instr.sliceAt t (.pointer (some ⟨q.b, q.d + o, none⟩)) lo' hi' none).run P w = .ok (.slice (some (if n = l then ⟨q.b, q.d + o, none⟩ else ⟨q.b, q.d + o + l * i.size, none⟩)) (hh - l) (n - l)) w := by
          simp [Instr.sliceAt, Instr.sureAddr, run_underlying hd, hsb, sizeOf, typeInfo, hi2, add_at]
        split at h
        · rename_i e0
          have e0 : l = n := by simpa using e0
          cases h
          refine ⟨_, hrun, ?_⟩
          have e1 : hh = l := by omega
          rw [if_pos e0.symm, ← e0, e1]
          simp
          exact .slc hq (by simp [CapR]) (by simp) (by simp)
        · rename_i e0
          have e0 : l ≠ n := by simpa using e0
          cases h
          refine ⟨_, hrun, ?_⟩
          rw [if_neg (Ne.symm e0), Nat.add_assoc]
          exact .slc hq (by unfold CapR; rw [if_pos (by omega)]; omega) (by omega) (by omega)
      · cases h
    · cases h
  · cases h
end
end Go.Rx
