/-
A second reading of a program's text: all operations.
-/
import Derived.Test.YtoebckilnicafaaGreatRxK
set_option linter.unusedVariables false
set_option linter.unusedSimpArgs false
namespace Go.Rx
open Go.RowKit Go.MapKept
section
variable {P : Program} {B : Nat} {ρ : Ren} {s s' : S} {w : World} {fr fr' : Fr} {a : Act}
theorem ok1_val {v v2 : Value} {x : Option Value} (h : ok1 s x = some (.val v s')) : x = some v ∧ s' = s := by
  unfold ok1 at h
  rw [Option.bind_eq_some_iff] at h
  obtain ⟨u, hu, h⟩ := h
  cases h
  exact ⟨hu, rfl⟩
theorem ok2_val {v : Value} {x : Option (Value × S)} (h : ok2 x = some (.val v s')) : x = some (v, s') := by
  unfold ok2 at h
  rw [Option.bind_eq_some_iff] at h
  obtain ⟨⟨u, s2⟩, hu, h⟩ := h
  cases h
  exact hu
theorem okS_val {v : Value} {x : Option S} (h : okS x = some (.val v s')) : x = some s' ∧ v = undef := by
  unfold okS at h
  rw [Option.bind_eq_some_iff] at h
  obtain ⟨s2, hu, h⟩ := h
  cases h
  exact ⟨hu, rfl⟩
theorem okT_val {v : Value} {x : Option S} (h : okT x = some (.val v s')) : x = some s' ∧ v = .tuple #[] := by
  unfold okT at h
  rw [Option.bind_eq_some_iff] at h
  obtain ⟨s2, hu, h⟩ := h
  cases h
  exact ⟨hu, rfl⟩
theorem Meets.pure {o : Oper} {v : Value} (hf : FR ρ fr a) (hr : Rel B ρ s w) {q : Prop} (h : ok1 s (pureA P fr o) = some (.val v s')) : Meets B ρ s w v s' ((execOp a.eval o).run P w) q := by
  obtain ⟨h1, rfl⟩ := ok1_val (v2 := v) h
  obtain ⟨h2, h3⟩ := pureA_run (P := P) (w := w) hf h1
  exact .quiet hr h2 h3
theorem evL_run (hf : FR ρ fr a) : ∀ {l : List Operand} {r : List Value}, evL fr l = some r → VRs ρ r (l.map a.eval)
  | [], r, h => by simp [evL] at h; subst h; exact .nil
  | x :: l, r, h => by
    simp only [evL, cond_eq_ite] at h
    split at h
    · rename_i hx
      rw [Option.bind_eq_some_iff] at h
      obtain ⟨r2, h2, h⟩ := h
      cases h
      exact .cons (hf.op hx) (evL_run hf h2)
    · cases h
theorem optA_run (hf : FR ρ fr a) {x : Option Operand} {r : Option Value} (h : optA fr x = some r) : OV ρ r (x.map a.eval) := by
  unfold optA at h
  split at h
  · cases h; exact .none
  · rw [cond_eq_ite] at h
    split at h
    · rename_i hx
      cases h
      exact .some (hf.op hx)
    · cases h
def noNum : Value → Bool
  | .int .. | .float .. | .complex .. | .string _ => false
  | _ => true
theorem binOp_eql {op : BinOp} (hop : op = .eql ∨ op = .neq) {t : TypeId} {x y : Value} (hx : noNum x = true) :
    binOp op t x y = (do let b ← Op.equal t x y; pure (.bool (if op = .eql then b else !b))) := by
  rcases hop with rfl | rfl <;> cases x <;> first | (simp [noNum] at hx; done) | (cases y <;> rfl)
theorem eqA_kind {t : TypeId} {x x' y y' : Value} {b : Bool} (hx : VR ρ x x') (hy : VR ρ y y') (h : eqA P t x y = some b) : noNum x' = true ∧ ∀ (op : BinOp) (p q : Operand), (eqGuard op t p q x' y').run P w = .ok () w := by
  unfold eqA at h
  rw [Option.bind_eq_some_iff] at h
  obtain ⟨d, hd, h⟩ := h
  split at h
  all_goals first
    | (cases h; done)
    | (cases hx <;> cases hy <;> exact ⟨rfl, fun op p q => by unfold eqGuard; cases op <;> rfl⟩)
set_option maxHeartbeats 1000000 in
theorem aop_val {o : Oper} {v : Value} (hf : FR ρ fr a) (hr : Rel B ρ s w) (h : aop P fr s o = some (.val v s')) : Meets B ρ s w v s' ((execOp a.eval o).run P w) (effOf P o.op = 0) := by
  unfold aop at h
  split at h
  · -- move
    rename_i x ho
    simp only [cond_eq_ite] at h
    split at h
    · rename_i hx
      cases h
      exact .quiet hr (by simp [execOp, ho]) (hf.op hx)
    · cases h
  · -- assign
    rename_i x ho
    simp only [cond_eq_ite] at h
    split at h
    · rename_i hx
      cases h
      exact .quiet hr (by simp [execOp, ho]) (hf.op hx)
    · cases h
  · -- pick
    rename_i c x y ho
    simp only [cond_eq_ite] at h
    split at h
    · rename_i hx
      simp only [Bool.and_eq_true] at hx
      have hc := hf.op hx.1.1
      split at h
      · rename_i hb
        cases h
        rw [hb] at hc
        generalize hcc : a.eval c = c' at hc
        cases hc
        exact .quiet hr (by simp [execOp, ho, hcc, asBool]) (hf.op hx.1.2)
      · rename_i hb
        cases h
        rw [hb] at hc
        generalize hcc : a.eval c = c' at hc
        cases hc
        exact .quiet hr (by simp [execOp, ho, hcc, asBool]) (hf.op hx.2)
      · cases h
    · cases h
  · -- alloc
    rename_i e ho
    obtain ⟨ρ', w', v', h1, h2, h3⟩ := allocA_run hr (ok2_val h)
    exact ⟨ρ', w', v', .inl (by simp [execOp, ho, h1]), h2, h3, fun hq => by simp [effOf, ho] at hq⟩
  · -- box
    rename_i e x ho
    simp only [cond_eq_ite] at h
    split at h
    · rename_i hx
      obtain ⟨ρ', w', v', h1, h2, h3⟩ := boxA_run hr (hf.op hx) (ok2_val h)
      exact ⟨ρ', w', v', .inl (by simp [execOp, ho, h1]), h2, h3, fun hq => by simp [effOf, ho] at hq⟩
    · cases h
  · -- build
    rename_i t parts ho
    rw [Option.bind_eq_some_iff] at h
    obtain ⟨ps, hps, h⟩ := h
    obtain ⟨h1, rfl⟩ := ok1_val (v2 := v) h
    obtain ⟨v', h2, h3⟩ := buildA_run (P := P) (w := w) (parts' := parts.map fun (i, x) => (i, a.eval x)) (by simpa using evParts_run hf hps) h1
    exact .quiet hr (by simp only [execOp, ho, Sem.run_bind, h2]; rfl) h3
  · -- buildSlice
    rename_i t len parts ho
    rw [Option.bind_eq_some_iff] at h
    obtain ⟨ps, hps, h⟩ := h
    obtain ⟨ρ', w', v', h1, h2, h3⟩ := buildSliceA_run (P := P) (parts' := parts.map fun (i, x) => (i, a.eval x)) hr (by simpa using evParts_run hf hps) (ok2_val h)
    exact ⟨ρ', w', v', .inl (by simp only [execOp, ho, Sem.run_bind, h1]; rfl), h2, h3, fun hq => by simp [effOf, ho] at hq⟩
  · -- load
    rename_i t x ho
    simp only [cond_eq_ite] at h
    split at h
    · rename_i hx
      obtain ⟨h1, rfl⟩ := ok1_val (v2 := v) h
      obtain ⟨v', h2, h3⟩ := loadA_run hr (hf.op hx) h1
      exact .quiet hr (by simp [execOp, ho, h2]) h3
    · cases h
  · -- store
    rename_i t x y ho
    simp only [cond_eq_ite] at h
    split at h
    · rename_i hx
      simp only [Bool.and_eq_true] at hx
      obtain ⟨h1, rfl⟩ := okS_val h
      obtain ⟨w', h2, h3⟩ := storeA_run hr (hf.op hx.1) (hf.op hx.2) h1
      exact ⟨ρ, w', undef, .inr ⟨by simp [execOp, ho, h2], rfl⟩, h3, .tuple .nil, fun hq => by simp [effOf, ho] at hq⟩
    · cases h
  · -- nilCheck
    rename_i x ho
    simp only [cond_eq_ite] at h
    split at h
    · rename_i hx
      have hv := hf.op hx
      split at h
      · rename_i p hp
        cases h
        rw [hp] at hv
        generalize hcc : a.eval x = c' at hv
        cases hv with
        | ptr hq => exact .quiet hr (by simp [execOp, ho, hcc]) (.ptr hq)
      · rename_i f y z hp
        cases h
        rw [hp] at hv
        generalize hcc : a.eval x = c' at hv
        cases hv with
        | func h1 h2 h3 => exact .quiet hr (by simp [execOp, ho, hcc]) (.func h1 h2 h3)
      · cases h
    · cases h
  · -- binOp
    rename_i op t x y yt ho
    simp only [cond_eq_ite] at h
    split at h
    · rename_i hx
      simp only [Bool.and_eq_true] at hx
      split at h
      · rename_i b he
        cases h
        obtain ⟨hk, hg⟩ := eqA_kind (P := P) (w := w) (hf.op hx.1) (hf.op hx.2) he
        have hrun := eqA_run (P := P) hr (hf.op hx.1) (hf.op hx.2) he 9999
        refine .quiet hr ?_ (.bool b)
        simp only [execOp, ho, Sem.run_bind, hg, Result.andThen_ok, binOp_eql (.inl rfl) hk, Op.equal, Op.maxDepth, hrun, Sem.run_pure, if_true]
      · rename_i b he
        cases h
        obtain ⟨hk, hg⟩ := eqA_kind (P := P) (w := w) (hf.op hx.1) (hf.op hx.2) he
        have hrun := eqA_run (P := P) hr (hf.op hx.1) (hf.op hx.2) he 9999
        refine .quiet hr ?_ (.bool _)
        simp only [execOp, ho, Sem.run_bind, hg, Result.andThen_ok, binOp_eql (.inr rfl) hk, Op.equal, Op.maxDepth, hrun, Sem.run_pure]
        rfl
      · exact .pure hf hr h
    · cases h
  · -- convert
    rename_i src dst x ho
    simp only [cond_eq_ite] at h
    split at h
    · rename_i hx
      split at h
      · rename_i u s2 he
        cases h
        obtain ⟨ρ', w', v', h1, h2, h3, h4⟩ := convA_run hr (hf.op hx) he
        refine ⟨ρ', w', v', .inl (by simp [execOp, ho, h1]), h2, h3, fun hq => ?_⟩
        rcases h4 with ⟨e, h5, h6⟩ | ⟨rfl, rfl, rfl⟩
        · simp [effOf, ho, h5, h6] at hq
        · exact ⟨rfl, by simp [execOp, ho, h1], h3⟩
      · exact .pure hf hr h
    · cases h
  · -- makeInterface
    rename_i t x ho
    simp only [cond_eq_ite] at h
    split at h
    · rename_i hx
      split at h
      · cases h
      · rename_i d hn hd
        cases h
        refine .quiet hr ?_ (.iface (hf.op hx))
        have : (Instr.makeInterface t (a.eval x)).run P w = .ok (.iface t (a.eval x)) w := by
          unfold Instr.makeInterface
          rw [Sem.run_bind, run_underlying hd w]
          cases d <;> first | rfl | exact (hn _ rfl).elim
        simp [execOp, ho, this]
      · cases h
    · cases h
  · -- makeFunc
    rename_i fn first cap ho
    split at h
    · rename_i f hfn
      rw [Option.bind_eq_some_iff] at h
      obtain ⟨x, hx, h⟩ := h
      rw [Option.bind_eq_some_iff] at h
      obtain ⟨y, hy, h⟩ := h
      cases h
      refine .quiet hr (by simp only [execOp, ho, Sem.run_bind]; rfl) (.func (fun _ e => by cases e) ?_ ?_)
      · simpa using evL_run hf hx
      · simpa using evL_run hf hy
    · cases h
  · -- makeMap
    rename_i t ho
    rw [Option.bind_eq_some_iff] at h
    obtain ⟨⟨i, s2⟩, hp, h⟩ := h
    cases h
    have hst := hr.alloc (q := ⟨w.heap.size, 0, 0, 0⟩) (ob := .map #[] 0) hp rfl ⟨#[], by simp [World.alloc, -World.alloc_eq], .nil, hr.size⟩
    exact ⟨_, _, .map (some w.heap.size), .inl (by simp [execOp, ho, Instr.makeMap]), hst, .map (q := ⟨w.heap.size, 0, 0, 0⟩) (Ren.add_at _ _ _), fun hq => by simp [effOf, ho] at hq⟩
  · -- makeSlice
    rename_i t l c ho
    simp only [cond_eq_ite] at h
    split at h
    · rename_i hx
      simp only [Bool.and_eq_true] at hx
      obtain ⟨ρ', w', v', h1, h2, h3⟩ := makeSliceA_run hr (hf.op hx.1) (hf.op hx.2) (ok2_val h)
      exact ⟨ρ', w', v', .inl (by simp [execOp, ho, h1]), h2, h3, fun hq => by simp [effOf, ho] at hq⟩
    · cases h
  · -- slice
    rename_i t x lo hi mx ho
    simp only [cond_eq_ite] at h
    split at h
    · rename_i hx
      rw [Option.bind_eq_some_iff] at h
      obtain ⟨l, hl, h⟩ := h
      rw [Option.bind_eq_some_iff] at h
      obtain ⟨hh, hh2, h⟩ := h
      rw [Option.bind_eq_some_iff] at h
      obtain ⟨m, hm, h⟩ := h
      split at h
      · rename_i u he
        cases h
        obtain ⟨v', h1, h2⟩ := sliceA_run hr (hf.op hx) (optA_run hf hl) (optA_run hf hh2) (optA_run hf hm) he
        exact .quiet hr (by simp [execOp, ho, h1]) h2
      · exact .pure hf hr h
    · cases h
  · -- fieldAddr
    rename_i t x f ho
    simp only [cond_eq_ite] at h
    split at h
    · rename_i hx
      obtain ⟨h1, rfl⟩ := ok1_val (v2 := v) h
      obtain ⟨v', h2, h3⟩ := fieldAddrA_run (P := P) (w := w) (hf.op hx) h1
      exact .quiet hr (by simp [execOp, ho, h2]) h3
    · cases h
  · -- field
    rename_i t x f ho
    simp only [cond_eq_ite] at h
    split at h
    · rename_i hx
      obtain ⟨h1, rfl⟩ := ok1_val (v2 := v) h
      obtain ⟨v', h2, h3⟩ := fieldA_run (P := P) (w := w) (hf.op hx) h1
      exact .quiet hr (by simp [execOp, ho, h2]) h3
    · cases h
  · -- indexAddr
    rename_i t x ix ho
    simp only [cond_eq_ite] at h
    split at h
    · rename_i hx
      simp only [Bool.and_eq_true] at hx
      obtain ⟨h1, rfl⟩ := ok1_val (v2 := v) h
      obtain ⟨v', h2, h3⟩ := indexAddrA_run (P := P) (w := w) (hf.op hx.1) (hf.op hx.2) h1
      exact .quiet hr (by simp [execOp, ho, h2]) h3
    · cases h
  · -- index
    rename_i t x ix ho
    simp only [cond_eq_ite] at h
    split at h
    · rename_i hx
      simp only [Bool.and_eq_true] at hx
      split at h
      · rename_i u he
        cases h
        obtain ⟨v', h2, h3⟩ := indexA_run (P := P) (w := w) (hf.op hx.1) (hf.op hx.2) he
        exact .quiet hr (by simp [execOp, ho, h2]) h3
      · exact .pure hf hr h
    · cases h
  · -- lookup
    rename_i t x ix ok ho
    simp only [cond_eq_ite] at h
    split at h
    · rename_i hx
      simp only [Bool.and_eq_true] at hx
      obtain ⟨h1, rfl⟩ := ok1_val (v2 := v) h
      obtain ⟨v', h2, h3⟩ := lookupA_run hr (hf.op hx.1) (hf.op hx.2) h1
      exact .quiet hr (by simp [execOp, ho, h2]) h3
    · cases h
  · -- mapUpdate
    rename_i t m k x ho
    simp only [cond_eq_ite] at h
    split at h
    · rename_i hx
      simp only [Bool.and_eq_true] at hx
      obtain ⟨h1, rfl⟩ := okS_val h
      obtain ⟨w', h2, h3⟩ := mapUpdateA_run hr (hf.op hx.1.1) (hf.op hx.1.2) (hf.op hx.2) h1
      exact ⟨ρ, w', undef, .inr ⟨by simp [execOp, ho, h2], rfl⟩, h3, .tuple .nil, fun hq => by simp [effOf, ho] at hq⟩
    · cases h
  · -- insert
    rename_i t m k x ho
    simp only [cond_eq_ite] at h
    split at h
    · rename_i hx
      simp only [Bool.and_eq_true] at hx
      obtain ⟨h1, rfl⟩ := okS_val h
      obtain ⟨w', h2, h3⟩ := mapUpdateA_run hr (hf.op hx.1.1) (hf.op hx.1.2) (hf.op hx.2) h1
      exact ⟨ρ, w', undef, .inr ⟨by simp [execOp, ho, h2], rfl⟩, h3, .tuple .nil, fun hq => by simp [effOf, ho] at hq⟩
    · cases h
  · -- mapEntry
    rename_i t m k ho
    simp only [cond_eq_ite] at h
    split at h
    · rename_i hx
      simp only [Bool.and_eq_true] at hx
      obtain ⟨ρ', w', v', h1, h2, h3⟩ := mapEntryA_run hr (hf.op hx.1) (hf.op hx.2) (ok2_val h)
      exact ⟨ρ', w', v', .inl (by simp [execOp, ho, h1]), h2, h3, fun hq => by simp [effOf, ho] at hq⟩
    · cases h
  · -- entryStore
    rename_i t m st x ho
    simp only [cond_eq_ite] at h
    split at h
    · rename_i hx
      simp only [Bool.and_eq_true] at hx
      obtain ⟨h1, rfl⟩ := okS_val h
      obtain ⟨w', h2, h3⟩ := entryStoreA_run (P := P) (t := t) hr (hf.op hx.1.1) (hf.op hx.1.2) (hf.op hx.2) h1
      exact ⟨ρ, w', undef, .inr ⟨by simp [execOp, ho, h2], rfl⟩, h3, .tuple .nil, fun hq => by simp [effOf, ho] at hq⟩
    · cases h
  · -- extract
    rename_i t ix ho
    simp only [cond_eq_ite] at h
    split at h
    · rename_i hx
      have hv := hf.op hx
      split at h
      · rename_i vs hvs
        rw [Option.bind_eq_some_iff] at h
        obtain ⟨u, hu, h⟩ := h
        cases h
        rw [hvs] at hv
        generalize hcc : a.eval t = c' at hv
        cases hv with
        | tuple hl =>
        rw [nth_eq] at hu
        obtain ⟨u', h1, h2⟩ := hl.at hu
        refine .quiet hr ?_ h2
        have : ∀ xs : Array Value, xs.toList[ix]? = some u' → (Instr.extract (.tuple xs) ix).run P w = .ok u' w := fun xs hxs => by
          have : xs[ix]? = some u' := by simpa using hxs
          simp [Instr.extract, this]
        simp [execOp, ho, hcc, this _ h1]
      · cases h
    · cases h
  · -- panic
    rename_i x ho
    simp only [cond_eq_ite] at h
    split at h
    · split at h <;> cases h
    · cases h
  · -- defer
    rename_i c ho
    split at h
    · simp only [cond_eq_ite] at h
      split at h
      · rw [Option.bind_eq_some_iff] at h
        obtain ⟨_, _, h⟩ := h
        rw [Option.bind_eq_some_iff] at h
        obtain ⟨⟨_, _⟩, _, h⟩ := h
        cases h
      · cases h
    · cases h
  · -- call
    rename_i c ho
    split at h
    · rename_i f hc
      simp only [cond_eq_ite] at h
      split at h
      · rw [Option.bind_eq_some_iff] at h
        obtain ⟨args, hargs, h⟩ := h
        split at h
        · cases h
        · rw [Option.bind_eq_some_iff] at h
          obtain ⟨⟨_, _⟩, _, h⟩ := h
          cases h
      · cases h
    · rename_i b hc
      rw [Option.bind_eq_some_iff] at h
      obtain ⟨args, hargs, h⟩ := h
      have hA := evL_run hf hargs
      obtain ⟨cs, hex⟩ : ∃ cs, (execOp a.eval o).run P w = (builtin b c.argTypes o.type cs (c.args.map a.eval)).run P w := ⟨_, by simp only [execOp, ho, resolve, hc, Sem.run_bind, Sem.run_pure, Result.andThen_ok, invoke]; rfl⟩
      obtain ⟨L, hL, hA⟩ : ∃ L, c.args.map a.eval = ⟨L⟩ ∧ VRs ρ args L := ⟨c.args.toList.map a.eval, by cases hq : c.args; simp, hA⟩
      obtain ⟨T, hT⟩ : ∃ T, c.argTypes = ⟨T⟩ := ⟨_, rfl⟩
      rw [hL, hT] at hex
      rw [hT] at h
      simp only at h
      split at h
      · -- append
        rename_i t tx sv xv
        cases hA with
        | cons h1 hA => cases hA with
          | cons h2 hA =>
            cases hA
            obtain ⟨ρ', w', v', g1, g2, g3⟩ := appendB_run (ty := o.type) hr h1 h2 (ok2_val h)
            refine ⟨ρ', w', v', .inl ?_, g2, g3, fun hq => by simp [effOf, ho, hc] at hq⟩
            rw [hex]
            simp only [builtin, Sem.run_bind, g1, Result.andThen_ok, Sem.run_pure]
      · -- copy
        cases h
      · -- len
        rename_i t x
        cases hA with
        | cons h1 hA =>
          cases hA
          obtain ⟨g0, rfl⟩ := ok1_val (v2 := v) h
          obtain ⟨g1, g2⟩ := lenA_run (ty := o.type) hr h1 g0
          refine .quiet hr ?_ g2
          rw [hex]
          simp only [builtin, Sem.run_bind, g1, Result.andThen_ok, Sem.run_pure]
      · -- cap
        rename_i t x
        cases hA with
        | cons h1 hA =>
          cases hA
          obtain ⟨g0, rfl⟩ := ok1_val (v2 := v) h
          obtain ⟨g1, g2⟩ := capA_run (P := P) (w := w) (ty := o.type) h1 g0
          refine .quiet hr ?_ g2
          rw [hex]
          simp only [builtin, Sem.run_bind, g1, Result.andThen_ok, Sem.run_pure]
      · -- delete
        rename_i t t2 m k
        cases hA with
        | cons h1 hA => cases hA with
          | cons h2 hA =>
            cases hA
            obtain ⟨g0, rfl⟩ := okT_val h
            obtain ⟨w', g1, g2⟩ := deleteA_run (ty := o.type) (t2 := t) hr h1 h2 g0
            refine ⟨ρ, w', .tuple #[], .inl ?_, g2, .tuple .nil, fun hq => by simp [effOf, ho, hc] at hq⟩
            rw [hex]
            simp only [builtin, Sem.run_bind, g1, Result.andThen_ok, Sem.run_pure]
      · cases h
      · exact .pure hf hr h
    · cases h
  · exact .pure hf hr h
theorem fnA_run {c : Call} {o : Oper} {f : Operand} {args l : List Value} {g : FuncId} (hf : FR ρ fr a) (ho : o.op = .call c) (hc : c.callee = .value f) (hok : okOp f = true) (hargs : evL fr c.args.toList = some args) (h : fnA P (fr.op f) args = some (g, l)) :
    ∃ l', (execOp a.eval o).run P w = .ok (.enter g ⟨l'⟩) w ∧ VRs ρ l l' := by
  unfold fnA at h
  split at h
  · rename_i k x y hfv
    rw [cond_eq_ite] at h
    split at h
    · rename_i hb
      rw [app_eq] at h
      simp only [Option.bind_some, app_eq] at h
      cases h
      have hv := hf.op hok
      rw [hfv] at hv
      generalize hcc : a.eval f = c' at hv
      cases hv with
      | func h1 h2 h3 =>
      rename_i x' y'
      have hA := evL_run hf hargs
      unfold hasBody at hb
      rw [nth_eq] at hb
      split at hb
      · rename_i fn hfn
        simp only [Bool.and_eq_true, Bool.not_eq_true'] at hb
        have hfn2 : P.funcs[g]? = some fn := by simpa using hfn
        have hbody : fn.body.isNone = false := by cases hq : fn.body <;> simp_all
        refine ⟨x'.toList ++ c.args.toList.map a.eval ++ y'.toList, ?_, (h2.append hA).append h3⟩
        have hne : ¬ fn.name = "runtime.NumGoroutine" := by simpa using hb.2
        have hnb : ¬ fn.body = none := fun e => by rw [e] at hbody; simp at hbody
        simp [execOp, ho, resolve, hc, hcc, Deferred.ofValue, invoke, callFunc, hfn2, hne, hnb]
      · cases hb
    · cases h
  · cases h
theorem pan_run {o : Oper} {x : Operand} {t : TypeId} {v : Value} (hf : FR ρ fr a) (ho : o.op = .panic x) (hok : okOp x = true) (hx : fr.op x = .iface t v) : ∃ v', (execOp a.eval o).run P w = .halt (.panic v') w ∧ VR ρ (.iface t v) v' := by
  have hv := hf.op hok
  rw [hx] at hv
  generalize hcc : a.eval x = c' at hv
  cases hv with
  | iface h => exact ⟨_, by simp [execOp, ho, hcc, Instr.panic], .iface h⟩
end
end Go.Rx
