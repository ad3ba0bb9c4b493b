/-
A second reading of a program's text: slices.
-/
import Derived.Test.YtoebckilnicafaaGreatRxC
set_option linter.unusedVariables false
set_option linter.unusedSimpArgs false
namespace Go.Rx
open Go.RowKit
section
variable {P : Program} {B : Nat} {ρ : Ren} {s s' : S} {w : World}
/-- What a slice with an address may be. -/
theorem VR.slice {b o n c : Nat} {v' : Value} (h : VR ρ (.slice (some ⟨b, o, none⟩) n c) v') :
    ∃ q a c', ρ b = some q ∧ v' = .slice (some ⟨q.b, a, none⟩) n c' ∧ (c % 2 = 1 → a + c' * q.z ≤ q.N) ∧ n ≤ c' ∧ ((a = q.d + o ∧ CapR c c' ∧ n ≤ c / 2) ∨ (n = 0 ∧ c = 1)) := by
  cases h with
  | slc h hc hn hr =>
    rename_i c' q
    refine ⟨q, _, c', h, rfl, hr, ?_, .inl ⟨rfl, hc, hn⟩⟩
    unfold CapR at hc
    split at hc <;> omega
  | emp h hr => exact ⟨_, _, _, h, rfl, fun _ => hr, Nat.zero_le _, .inr ⟨rfl, rfl⟩⟩
theorem CapR.le {c c' : Nat} (h : CapR c c') : c / 2 ≤ c' := by unfold CapR at h; split at h <;> omega
theorem VR.slice0 {n c : Nat} {v' : Value} (h : VR ρ (.slice none n c) v') : n = 0 ∧ c = 0 ∧ v' = .slice none 0 0 := by cases h; exact ⟨rfl, rfl, rfl⟩
/-! What is appended. -/
def cellsOf (s : S) (b o n : Nat) : Option (List Value) :=
  match s.get b with
  | some (.cells cs _ _) => takeL n (cs.drop o)
  | _ => none
theorem cellsOf_at {b o n : Nat} {l : List Value} {q : Loc} (hr : Rel B ρ s w) (hq : ρ b = some q) (h : cellsOf s b o n = some l) : ∃ l', VRs ρ l l' ∧ w.rangeAt q.b (q.d + o) l' ∧ l.length = n := by
  unfold cellsOf at h
  split at h
  · rename_i cs ro z hb
    obtain ⟨q', hq', cs', h1, h2, _⟩ := hr.blk b _ hb
    rw [hq] at hq'
    cases hq'
    obtain ⟨hle, rfl⟩ := takeL_eq _ _ _ h
    exact ⟨_, (h1.drop o).take n, rangeAt_take (rangeAt_drop h2 o) n, by rw [List.length_take]; omega⟩
  · cases h
def byteL : List UInt8 → Option (List Value)
  | [] => some []
  | b :: l => (fN b.toNat).bind fun n => (byteL l).bind fun r => some (.int .u8 (.ofNat n) :: r)
theorem byteL_eq : ∀ l, byteL l = some (l.map fun b => Value.int .u8 b.toNat)
  | [] => rfl
  | b :: l => by simp [byteL, fN_eq, byteL_eq l]
def srcA (P : Program) (s : S) (size : Nat) (tx : TypeId) (x : Value) : Option (Nat × List Value) :=
  (P.underlying tx).bind fun d =>
    match d, x with
    | .slice _, .slice none 0 0 => some (0, [])
    | .slice _, .slice (some ⟨b, o, none⟩) n _ => bif Nat.beq n 0 then some (0, []) else (cellsOf s b o (n * size)).bind fun l => some (n, l)
    | .string, .string bs => bif Nat.beq size 1 then (byteL bs.data.toList).bind fun l => some (bs.size, l) else none
    | _, _ => none
theorem byteVR (l : List UInt8) : VRs ρ (l.map fun b => Value.int .u8 b.toNat) (l.map fun b => Value.int .u8 b.toNat) := by
  induction l with
  | nil => exact .nil
  | cons b l ih => exact .cons (.int _ _) ih
theorem srcA_run {size n : Nat} {tx : TypeId} {x x' : Value} {news : List Value} (hr : Rel B ρ s w) (hx : VR ρ x x') (h0 : srcA P s size tx x = some (n, news)) (ho : allOne news = true) :
    ∃ news', VRs ρ news news' ∧ Src P size tx x' n news' w ∧ news.length = n * size := by
  obtain ⟨d, hd, h⟩ := Option.bind_eq_some_iff.1 (show ((P.underlying tx).bind _) = _ from h0)
  split at h
  · clear h0; cases h
    obtain ⟨_, _, rfl⟩ := hx.slice0
    exact ⟨[], .nil, Src.ofNil w hd 0, by simp⟩
  · clear h0; rename_i b o n0 c
    obtain ⟨q, a, c', hq, rfl, hroom, hnc, hor⟩ := hx.slice
    rw [cond_eq_ite] at h
    split at h
    · rename_i h0
      have h0 : n0 = 0 := by simpa using h0
      cases h
      subst h0
      exact ⟨[], .nil, Src.ofSlice w hd _ 0 c' [] (by simp) (fun j u hj => by simp at hj) (fun u hu => by simp at hu), by simp⟩
    · rename_i h0
      have h0 : n0 ≠ 0 := by simpa using h0
      obtain ⟨l, hl, h⟩ := Option.bind_eq_some_iff.1 h
      cases h
      rcases hor with ⟨rfl, hc, hn⟩ | ⟨e, _⟩
      · obtain ⟨l', h1, h2, h3⟩ := cellsOf_at hr hq hl
        refine ⟨l', h1, Src.ofSlice w hd _ _ c' l' (by rw [← h1.len]; exact h3) (fun j u hj => ?_) (h1.one (allOne_eq _ ho)), h3⟩
        rw [Addr.add_mid]
        exact h2 j u hj
      · exact absurd e h0
  · clear h0; rename_i bs
    cases hx
    rw [cond_eq_ite] at h
    split at h
    · rename_i h1
      have h1 : size = 1 := by simpa using h1
      subst h1
      rw [byteL_eq] at h
      cases h
      exact ⟨byteCells bs, byteVR _, Src.ofString w hd bs, by simp⟩
    · cases h
  · cases h
/-! The block that grows. -/
theorem OR.rangeAt_part {b o a : Nat} {cs cs' : List Value} {q : Loc} (h2 : w.rangeAt q.b q.d cs') : w.rangeAt q.b (q.d + o) (cs'.drop o) := rangeAt_drop h2 o
theorem Rel.move {i nb a o' : Nat} {q : Loc} {s1 s2 : S} {cs cs2 cs2' vs : List Value} {z : Nat} (h : Rel B ρ s w) (hi : s.get i = some (.cells cs false z)) (hq : ρ i = some q) (h1 : s.put i none = some s1)
    (h2 : s1.push (.cells cs2 false z) = some (nb, s2)) (hv : VRs ρ cs2 cs2') (hr : (w.setCells q.b o' vs).rangeAt q.b a cs2') (hl : a + cs2.length ≤ q.N) :
    Step B ρ s w (ρ.add nb ⟨q.b, a, q.N, q.z⟩) s2 (w.setCells q.b o' vs) := by
  obtain ⟨hn, hg⟩ := S.put_get h1
  obtain ⟨rfl, hn2, hg2⟩ := S.push_get h2
  obtain ⟨q', hq', cs', g1, g2, g3, g4, g5⟩ := h.blk i _ hi
  rw [hq] at hq'
  cases hq'
  have hb := g5 rfl
  have hle : ρ.le (ρ.add s1.next ⟨q.b, a, q.N, q.z⟩) := by rw [hn]; exact h.fresh _
  refine ⟨hle, ⟨fun j k e => ?_, fun j o' e => ?_, fun x y k r ex ey hkr lx ly => ?_, by rw [size_setCells]; exact h.size⟩, below_setCells _ hb.1 _ _ (.refl _ _), fun c hc ho => heap_setCells _ _ (fun e => ho ⟨i, _, q, hi, hq, e.symm⟩) _ _ _, fun c hc ho => ?_, by omega, fun i q' e => by unfold Ren.add at e; split at e; (exact .inr (by omega)); exact .inl e⟩
  · unfold Ren.add at e
    rw [size_setCells]
    split at e
    · rename_i hj; cases e; exact ⟨by omega, (h.dom _ _ hq).2⟩
    · have := h.dom j k e; exact ⟨by omega, this.2⟩
  · rw [hg2] at e
    split at e
    · rename_i hj
      cases e
      subst hj
      exact ⟨_, Ren.add_at _ _ _, cs2', hv.mono hle, hr, hl, g4, fun _ => ⟨hb.1, World.there_setCells hb.2 _ _ _⟩⟩
    · rw [hg] at e
      split at e
      · cases e
      · rename_i hj hji
        obtain ⟨k, hk, hr2⟩ := h.blk j o' e
        have hne : k.b ≠ q.b := fun e2 => hji (h.inj _ _ _ _ hk hq e2 (by simp [e]) (by simp [hi]))
        refine ⟨k, hle _ _ hk, ?_⟩
        cases o' with
        | cells cs3 ro3 z3 =>
          obtain ⟨cs3', f1, f2, f3, f4, f5⟩ := hr2
          exact ⟨cs3', f1.mono hle, World.rangeAt_setCells_apart f2 _ _ _ (.inl hne), f3, f4, fun e2 => ⟨(f5 e2).1, World.there_setCells (f5 e2).2 _ _ _⟩⟩
        | map es c =>
          obtain ⟨es', f1, f2, f3⟩ := hr2
          exact ⟨es', by rw [heap_setCells _ _ hne]; exact f1, f2.mono hle, f3⟩
  · rw [hg2] at lx ly
    unfold Ren.add at ex ey
    have live : ∀ x, x ≠ s1.next → (if x = s1.next then some (Blk.cells cs2 false z) else s1.get x).isSome = true → x ≠ i ∧ (s.get x).isSome = true := fun x hx hl => by
      rw [if_neg hx, hg] at hl
      by_cases e : x = i
      · subst e; simp at hl
      · rw [if_neg e] at hl; exact ⟨e, hl⟩
    by_cases hx : x = s1.next
    · by_cases hy : y = s1.next
      · omega
      · rw [if_pos hx] at ex
        rw [if_neg hy] at ey
        cases ex
        obtain ⟨l1, l2⟩ := live _ hy ly
        exact absurd (h.inj _ _ _ _ ey hq hkr.symm l2 (by simp [hi])) l1
    · rw [if_neg hx] at ex
      obtain ⟨l1, l2⟩ := live _ hx lx
      by_cases hy : y = s1.next
      · rw [if_pos hy] at ey
        cases ey
        exact absurd (h.inj _ _ _ _ ex hq hkr l2 (by simp [hi])) l1
      · rw [if_neg hy] at ey
        obtain ⟨m1, m2⟩ := live _ hy ly
        exact h.inj _ _ _ _ ex ey hkr l2 m2
  · obtain ⟨j, o', k, e1, e3, e4⟩ := ho
    rw [hg2] at e1
    unfold Ren.add at e3
    split at e1
    · rename_i hj
      rw [if_pos hj] at e3
      cases e3
      exact ⟨i, _, q, hi, hq, e4⟩
    · rename_i hj
      rw [if_neg hj] at e3
      rw [hg] at e1
      split at e1
      · cases e1
      · exact ⟨j, o', k, e1, e3, e4⟩
def rowA (s : S) (cs : List Value) (z n c : Nat) : Option (Value × S) := (s.push (.cells cs false z)).bind fun (i, s') => some (.slice (some ⟨i, 0, none⟩) n c, s')
theorem rowA_run {cs pre post : List Value} {z n c c' : Nat} {v : Value} {a : Array Value} {e : TypeId} (hr : Rel B ρ s w) (hv : VRs ρ cs pre) (ha : a.toList = pre ++ post) (hc : CapR c c') (hn : n ≤ c / 2) (hroom : c % 2 = 1 → c' * z ≤ a.size) (h : rowA s cs z n c = some (v, s')) :
    ∃ ρ', Step B ρ s w ρ' s' (w.alloc (.cells a e)) ∧ VR ρ' v (.slice (some ⟨w.heap.size, 0, none⟩) n c') := by
  obtain ⟨⟨i, s2⟩, h1, h2⟩ := Option.bind_eq_some_iff.1 h
  cases h2
  have hst := hr.alloc (q := ⟨w.heap.size, 0, a.size, z⟩) (ob := .cells a e) h1 rfl (OR.new (hv.mono (hr.fresh _)) ha hr.size)
  exact ⟨_, hst, .slc (q := ⟨w.heap.size, 0, a.size, z⟩) (Ren.add_at _ _ _) hc hn (by simpa using hroom)⟩
theorem nsc_le {need old : Nat} (h : old < need) : Builtin.nextslicecap need old ≤ 16 * need + 1000 := by
  unfold Builtin.nextslicecap
  split
  · omega
  · split
    · omega
    · rw [growBy_four]
      (repeat' split) <;> omega
theorem zeroCells_size (z : Array Value) (n : Nat) : (Builtin.zeroCells z n).size = n * z.size := by simp [Builtin.zeroCells]
def appendA (P : Program) (s : S) (t tx : TypeId) (sv xv : Value) : Option (Value × S) :=
  (P.underlying t).bind fun d =>
  match d with
  | .slice e => (P.info? e).bind fun i => i.zero.bind fun zv => (srcA P s i.size tx xv).bind fun (n, news) =>
    bif allOne news && Nat.beq zv.cells.toList.length i.size then
      match sv with
      | .slice none 0 0 =>
        bif Nat.beq n 0 then some (sv, s)
        else bif Nat.ble (n * i.bytes + n) 1099511627776 && Nat.ble i.bytes 1000000 then rowA s news i.size n (2 * n + 1) else none
      | .slice (some ⟨b, o, none⟩) sl c =>
        bif Nat.beq n 0 then some (sv, s)
        else
          match s.get b with
          | some (.cells cs false z) =>
            bif Nat.ble (sl + n) (c / 2) then (setLs cs (o + sl * i.size) news).bind fun cs' => (s.put b (some (.cells cs' false z))).bind fun s' => (fN (sl + n)).bind fun m => some (.slice (some ⟨b, o, none⟩) m c, s')
            else bif Nat.ble ((sl + n) * i.bytes + (sl + n)) 1099511627776 && Nat.ble i.bytes 1000000 then
              (takeL (sl * i.size) (cs.drop o)).bind fun olds => (app olds news).bind fun all => (fN (sl + n)).bind fun m =>
                bif Nat.beq (c % 2) 0 then rowA s all i.size m (2 * m + 1)
                else bif Nat.beq z i.size then (s.put b none).bind fun s1 => rowA s1 all z m (2 * m + 1) else none
            else none
          | _ => none
      | _ => none
    else none
  | _ => none
/-- A new row behind a draw. -/
theorem grow_run {e : TypeId} {i : TypeInfo} {zv v : Value} {t tx ty : TypeId} (base : Option Addr) {sl n sCap : Nat} {xv' : Value} {olds olds' news news' : List Value} (hr : Rel B ρ s w) (ht : P.underlying t = some (.slice e)) (hi : P.info? e = some i) (hz : i.zero = some zv) (hzl : zv.cells.size = i.size)
    (hold : (Builtin.firstCells i.size sl (.slice base sl sCap)).run P w.drew = .ok olds'.toArray w.drew) (ho : VRs ρ olds olds') (hol : olds.length = sl * i.size) (hn : VRs ρ news news') (hsrc : Src P i.size tx xv' n news' w) (hnl : news.length = n * i.size)
    (hg : sCap < sl + n) (hb1 : (sl + n) * i.bytes + (sl + n) ≤ 1099511627776) (hb2 : i.bytes ≤ 1000000) (h : rowA s (olds ++ news) i.size (sl + n) (2 * (sl + n) + 1) = some (v, s')) :
    ∃ ρ' w' v', (Builtin.append_ #[t, tx] ty #[.slice base sl sCap, xv']).run P w = .ok v' w' ∧ Step B ρ s w ρ' s' w' ∧ VR ρ' v v' := by
  have hfit : Builtin.nextslicecap (sl + n) sCap * i.bytes ≤ 281474976710656 := by
    have h1 := Nat.mul_le_mul_right i.bytes (nsc_le hg)
    rw [Nat.add_mul, Nat.mul_assoc] at h1
    omega
  have hrun := run_append_grow_src (P := P) w t tx ty e i zv ht hi hz base sl sCap olds' hold xv' n news' hsrc hg (by omega) hfit
  obtain ⟨ρ', h1, h2⟩ := rowA_run (w := w.drew) (e := e) (a := (olds' ++ news').toArray ++ Builtin.zeroCells zv.cells (grownCap w (sl + n) sCap e - (sl + n))) (pre := olds' ++ news') (post := (Builtin.zeroCells zv.cells (grownCap w (sl + n) sCap e - (sl + n))).toList) (c' := grownCap w (sl + n) sCap e) hr.drew (ho.append hn) (by simp) (by unfold CapR; rw [if_neg (by omega)]; have := grownCap_ge w (sl + n) sCap e; omega) (by omega) (fun _ => by
    have hge := grownCap_ge w (sl + n) sCap e
    have : ((olds' ++ news').toArray ++ Builtin.zeroCells zv.cells (grownCap w (sl + n) sCap e - (sl + n))).size = sl * i.size + n * i.size + (grownCap w (sl + n) sCap e - (sl + n)) * i.size := by
      rw [Array.size_append, zeroCells_size, hzl]
      simp [← ho.len, ← hn.len, hol, hnl]
    rw [this, ← Nat.add_mul, ← Nat.add_mul]
    exact Nat.mul_le_mul_right _ (by omega)) h
  exact ⟨ρ', _, _, hrun, (Step.drew hr).trans h1, h2⟩
set_option maxHeartbeats 1000000 in
theorem appendA_run {t tx ty : TypeId} {sv sv' xv xv' v : Value} (hr : Rel B ρ s w) (hs : VR ρ sv sv') (hx : VR ρ xv xv') (h0 : appendA P s t tx sv xv = some (v, s')) :
    ∃ ρ' w' v', (Builtin.append_ #[t, tx] ty #[sv', xv']).run P w = .ok v' w' ∧ Step B ρ s w ρ' s' w' ∧ VR ρ' v v' := by
  obtain ⟨d, ht, h⟩ := Option.bind_eq_some_iff.1 (show ((P.underlying t).bind _) = _ from h0)
  clear h0
  cases d with
  | slice e =>
    simp only at h
    rw [Option.bind_eq_some_iff] at h; obtain ⟨i, hi, h⟩ := h
    rw [Option.bind_eq_some_iff] at h; obtain ⟨zv, hz, h⟩ := h
    rw [Option.bind_eq_some_iff] at h; obtain ⟨⟨n, news⟩, hsrc, h⟩ := h
    simp only [cond_eq_ite] at h
    split at h
    · rename_i hc
      simp only [Bool.and_eq_true, Nat.beq_eq] at hc
      obtain ⟨news', hnv, hS, hnl⟩ := srcA_run hr hx hsrc hc.1
      have hzl : zv.cells.size = i.size := by rw [← hc.2]; simp
      split at h
      · cases hs
        split at h
        · rename_i hn
          have hn : n = 0 := by simpa using hn
          cases h
          subst hn
          have : news' = [] := List.eq_nil_of_length_eq_zero (by rw [← hnv.len]; omega)
          subst this
          exact ⟨ρ, w, _, run_append_nothing w t tx ty e i ht hi none 0 0 (Nat.le_refl _) xv' hS, .refl hr, .snil⟩
        · rename_i hn
          have hn : n ≠ 0 := by simpa using hn
          split at h
          · rename_i hb
            simp only [Bool.and_eq_true, Nat.ble_eq] at hb
            exact grow_run none (olds := []) (olds' := []) hr ht hi hz hzl (run_firstCells_none _ _ _ _ _) .nil (by simp) hnv hS hnl (by omega) (by simpa using hb.1) hb.2 (by simpa using h)
          · cases h
      · rename_i b o sl c
        obtain ⟨q, a, c', hq, rfl, hroom, hnc, hor⟩ := hs.slice
        split at h
        · rename_i hn
          have hn : n = 0 := by simpa using hn
          cases h
          subst hn
          have : news' = [] := List.eq_nil_of_length_eq_zero (by rw [← hnv.len]; omega)
          subst this
          exact ⟨ρ, w, _, run_append_nothing w t tx ty e i ht hi _ sl c' hnc xv' hS, .refl hr, hs⟩
        · rename_i hn
          have hn : n ≠ 0 := by simpa using hn
          split at h
          · rename_i cs z hb
            obtain ⟨q', hq', cs', h1, h2, h3, h4, h5⟩ := hr.blk b _ hb
            rw [hq] at hq'
            cases hq'
            have hfree := (h5 rfl).2
            split at h
            · rename_i hle
              have hle : sl + n ≤ c / 2 := by simpa using hle
              rcases hor with ⟨rfl, hcap, hn2⟩ | ⟨e1, e2⟩
              · rw [Option.bind_eq_some_iff] at h; obtain ⟨cs2, g1, h⟩ := h
                rw [Option.bind_eq_some_iff] at h; obtain ⟨s2, g2, h⟩ := h
                rw [fN_eq] at h
                cases h
                obtain ⟨rfl, hlen⟩ := setLs_eq _ _ _ _ g1
                have hlen' : news' = [] ∨ o + sl * i.size + news'.length ≤ cs'.length := by
                  rcases hlen with e | e
                  · left
                    have := hnv.len
                    rw [e] at this
                    exact List.eq_nil_of_length_eq_zero this.symm
                  · right; rw [← hnv.len, ← h1.len]; exact e
                have hth : w.there q.b (q.d + o + sl * i.size) news'.length := by
                  rcases hlen' with e | e
                  · intro j hj; simp [e] at hj
                  · refine there_part hfree ?_
                    have := h1.len
                    omega
                have hrun := run_append_room_src (P := P) w t tx ty e i ht hi q.b (q.d + o) sl c' xv' n news' hS (by have := hcap.le; omega) (fun j hj => (hth j hj).1) (fun j hj => (hth j hj).2)
                refine ⟨ρ, _, _, hrun, hr.setCells (o := q.d + o + sl * i.size) (vs' := news') hb hq g2 (sets_len _ _ _) (VRs.sets hnv h1 _) ?_, ?_⟩
                · rw [Nat.add_assoc]
                  exact rangeAt_sets _ _ _ _ h2 hlen'
                · exact .slc hq hcap hle hroom
              · omega
            · rename_i hle
              have hle : ¬ sl + n ≤ c / 2 := by simpa using hle
              split at h
              · rename_i hby
                simp only [Bool.and_eq_true, Nat.ble_eq] at hby
                rw [Option.bind_eq_some_iff] at h; obtain ⟨olds, g1, h⟩ := h
                rw [app_eq] at h
                simp only [Option.bind_some, fN_eq] at h
                obtain ⟨hle2, rfl⟩ := takeL_eq _ _ _ g1
                have hol : ((cs.drop o).take (sl * i.size)).length = sl * i.size := by rw [List.length_take]; omega
                have hov := (h1.drop o).take (sl * i.size)
                have hor2 : w.rangeAt q.b a ((cs'.drop o).take (sl * i.size)) := by
                  rcases hor with ⟨rfl, _, _⟩ | ⟨e1, _⟩
                  · exact rangeAt_take (rangeAt_drop h2 o) _
                  · subst e1
                    intro j u hj
                    simp at hj
                have hold : (Builtin.firstCells i.size sl (.slice (some ⟨q.b, a, none⟩) sl c')).run P w.drew = .ok ((cs'.drop o).take (sl * i.size)).toArray w.drew :=
                  run_firstCells_some w.drew i.size sl _ sl c' _ (by rw [← hov.len]; exact hol) (fun j u hj => by rw [Addr.add_mid]; simpa using hor2 j u hj)
                split at h
                · rename_i hev
                  have hev : c % 2 = 0 := by simpa using hev
                  rcases hor with ⟨rfl, hcap, hn2⟩ | ⟨e1, e2⟩
                  · have hc2 : c' = c / 2 := by unfold CapR at hcap; rwa [if_pos hev] at hcap
                    exact grow_run _ hr ht hi hz hzl hold hov hol hnv hS hnl (by omega) hby.1 hby.2 h
                  · omega
                · rename_i hev
                  have hev : c % 2 ≠ 0 := by simpa using hev
                  split at h
                  · rename_i hzz
                    have hzz : z = i.size := by simpa using hzz
                    rw [Option.bind_eq_some_iff] at h; obtain ⟨s1, g2, h⟩ := h
                    by_cases hroom2 : sl + n ≤ c'
                    · unfold rowA at h; rw [Option.bind_eq_some_iff] at h; obtain ⟨⟨nb, s2⟩, g3, h⟩ := h
                      cases h
                      have hroom := hroom (by omega)
                      have hqz : q.z = i.size := by rw [h4]; exact hzz
                      have hend : a + (sl + n) * i.size ≤ q.N := by
                        have := Nat.mul_le_mul_right q.z hroom2
                        rw [hqz] at this hroom
                        omega
                      have hth : w.there q.b (a + sl * i.size) news'.length := by
                        refine there_part hfree ?_
                        rw [← hnv.len, hnl, Nat.add_assoc, ← Nat.add_mul]
                        exact hend
                      have hrun := run_append_room_src (P := P) w t tx ty e i ht hi q.b a sl c' xv' n news' hS hroom2 (fun j hj => (hth j hj).1) (fun j hj => (hth j hj).2)
                      refine ⟨_, _, _, hrun, hr.move (a := a) (o' := a + sl * i.size) (vs := news') (cs2' := (cs'.drop o).take (sl * i.size) ++ news') hb hq g2 g3 (hov.append hnv) ?_ ?_, ?_⟩
                      · intro j u hj
                        rw [List.getElem?_append] at hj
                        have hlo : ((cs'.drop o).take (sl * i.size)).length = sl * i.size := by rw [← hov.len]; exact hol
                        split at hj
                        · rename_i hjl
                          rw [hlo] at hjl
                          rw [World.cell?_setCells_out q.b news' _ w ⟨q.b, a + j, none⟩ (fun _ _ => .inl (by show a + j < a + sl * i.size; omega))]
                          exact hor2 j u hj
                        · rename_i hjl
                          rw [hlo] at hjl hj
                          have hj2 : j - sl * i.size < news'.length := (List.getElem?_eq_some_iff.1 hj).1
                          have hin := World.cell?_setCells_in q.b news' (a + sl * i.size) w (fun k hk => (hth k hk).1) (j - sl * i.size) hj2
                          rw [show a + sl * i.size + (j - sl * i.size) = a + j by omega] at hin
                          rw [hin, ← hj, List.getElem?_eq_getElem hj2]
                      · rw [List.length_append, hol, hnl, ← Nat.add_mul]
                        exact hend
                      · exact .slc (q := ⟨q.b, a, q.N, q.z⟩) (Ren.add_at _ _ _) (by unfold CapR; rw [if_neg (by omega)]; omega) (by omega) (fun _ => by simpa using hroom)
                    · have hr1 := hr.kill g2
                      rw [hzz] at h
                      obtain ⟨ρ2, w2, v2, j1, j2, j3⟩ := grow_run _ hr1 ht hi hz hzl hold hov hol hnv hS hnl (by omega) hby.1 hby.2 h
                      exact ⟨ρ2, w2, v2, j1, (Step.kill hr g2).trans j2, j3⟩
                  · cases h
              · cases h
          · cases h
      · cases h
    · cases h
  | _ => cases h
end
end Go.Rx
