/-
A second reading of a program's text: how its memory stands to the model's.
-/
import Derived.Test.YtoebckilnicafaaGreatRxA
import Derived.Deep.MidRow
import Derived.Deep.Upon
import Derived.Deep.AppendSrc
set_option linter.unusedVariables false
namespace Go.Rx
open Go.RowKit
/-- Where a block of the reading lies: the model's block, the offset of its head, the block's cells in all, the cells of an element. -/
structure Loc where
  b : Nat
  d : Nat
  N : Nat
  z : Nat
abbrev Ren := Nat → Option Loc
/-- A capacity: known (2 c), or at least so much (2 c + 1). -/
def CapR (c c' : Nat) : Prop := if c % 2 = 0 then c' = c / 2 else c / 2 ≤ c'
mutual
inductive VR (ρ : Ren) : Value → Value → Prop
  | bool (b : Bool) : VR ρ (.bool b) (.bool b)
  | int (k : IntKind) (n : Int) : VR ρ (.int k n) (.int k n)
  | string (s : ByteArray) : VR ρ (.string s) (.string s)
  | pnil : VR ρ (.pointer none) (.pointer none)
  | ptr {b o : Nat} {q : Loc} (h : ρ b = some q) : VR ρ (.pointer (some ⟨b, o, none⟩)) (.pointer (some ⟨q.b, q.d + o, none⟩))
  | snil : VR ρ (.slice none 0 0) (.slice none 0 0)
  | slc {b o n c c' : Nat} {q : Loc} (h : ρ b = some q) (hc : CapR c c') (hn : n ≤ c / 2) (hr : c % 2 = 1 → q.d + o + c' * q.z ≤ q.N) : VR ρ (.slice (some ⟨b, o, none⟩) n c) (.slice (some ⟨q.b, q.d + o, none⟩) n c')
  | emp {b o o' c' : Nat} {q : Loc} (h : ρ b = some q) (hr : o' + c' * q.z ≤ q.N) : VR ρ (.slice (some ⟨b, o, none⟩) 0 1) (.slice (some ⟨q.b, o', none⟩) 0 c')
  | mnil : VR ρ (.map none) (.map none)
  | map {b : Nat} {q : Loc} (h : ρ b = some q) : VR ρ (.map (some b)) (.map (some q.b))
  | func {f : Fn} {x x' y y' : Array Value} (hf : ∀ l, f ≠ .yield l) (hx : VRs ρ x.toList x'.toList) (hy : VRs ρ y.toList y'.toList) : VR ρ (.func f x y) (.func f x' y')
  | fnil : VR ρ .nilFunc .nilFunc
  | inil : VR ρ .nilIface .nilIface
  | iface {t : TypeId} {v v' : Value} (h : VR ρ v v') : VR ρ (.iface t v) (.iface t v')
  | agg {x x' : Array Value} (h : VRs ρ x.toList x'.toList) : VR ρ (.agg x) (.agg x')
  | tuple {x x' : Array Value} (h : VRs ρ x.toList x'.toList) : VR ρ (.tuple x) (.tuple x')
inductive VRs (ρ : Ren) : List Value → List Value → Prop
  | nil : VRs ρ [] []
  | cons {v v' : Value} {l l' : List Value} (h : VR ρ v v') (t : VRs ρ l l') : VRs ρ (v :: l) (v' :: l')
end
def Ren.le (ρ σ : Ren) : Prop := ∀ i k, ρ i = some k → σ i = some k
theorem Ren.le.refl (ρ : Ren) : ρ.le ρ := fun _ _ h => h
theorem Ren.le.trans {ρ σ τ : Ren} (h : ρ.le σ) (k : σ.le τ) : ρ.le τ := fun i j e => k i j (h i j e)
mutual
theorem VR.mono {ρ σ : Ren} (h : ρ.le σ) : ∀ {v v' : Value}, VR ρ v v' → VR σ v v'
  | _, _, .bool b => .bool b
  | _, _, .int k n => .int k n
  | _, _, .string s => .string s
  | _, _, .pnil => .pnil
  | _, _, .ptr e => .ptr (h _ _ e)
  | _, _, .snil => .snil
  | _, _, .slc e c n r => .slc (h _ _ e) c n r
  | _, _, .emp e r => .emp (h _ _ e) r
  | _, _, .mnil => .mnil
  | _, _, .map e => .map (h _ _ e)
  | _, _, .func hf hx hy => .func hf (VRs.mono h hx) (VRs.mono h hy)
  | _, _, .fnil => .fnil
  | _, _, .inil => .inil
  | _, _, .iface e => .iface (VR.mono h e)
  | _, _, .agg e => .agg (VRs.mono h e)
  | _, _, .tuple e => .tuple (VRs.mono h e)
theorem VRs.mono {ρ σ : Ren} (h : ρ.le σ) : ∀ {l l' : List Value}, VRs ρ l l' → VRs σ l l'
  | _, _, .nil => .nil
  | _, _, .cons e t => .cons (VR.mono h e) (VRs.mono h t)
end
section
variable {ρ : Ren}
theorem VRs.len : ∀ {l l' : List Value}, VRs ρ l l' → l.length = l'.length
  | _, _, .nil => rfl
  | _, _, .cons _ t => by simp [VRs.len t]
theorem VRs.at : ∀ {l l' : List Value}, VRs ρ l l' → ∀ {j : Nat} {v : Value}, l[j]? = some v → ∃ v', l'[j]? = some v' ∧ VR ρ v v'
  | _, _, .nil, j, v, h => by simp at h
  | _, _, .cons e t, 0, v, h => by simp at h; subst h; exact ⟨_, rfl, e⟩
  | _, _, .cons e t, j + 1, v, h => by simpa using VRs.at t (j := j) (v := v) (by simpa using h)
theorem VRs.back : ∀ {l l' : List Value}, VRs ρ l l' → ∀ {j : Nat} {v' : Value}, l'[j]? = some v' → ∃ v, l[j]? = some v ∧ VR ρ v v'
  | _, _, .nil, j, v, h => by simp at h
  | _, _, .cons e t, 0, v, h => by simp at h; subst h; exact ⟨_, rfl, e⟩
  | _, _, .cons e t, j + 1, v, h => by simpa using VRs.back t (j := j) (v' := v) (by simpa using h)
theorem VRs.append : ∀ {l l' m m' : List Value}, VRs ρ l l' → VRs ρ m m' → VRs ρ (l ++ m) (l' ++ m')
  | _, _, _, _, .nil, k => k
  | _, _, _, _, .cons e t, k => .cons e (VRs.append t k)
theorem VRs.take : ∀ {l l' : List Value}, VRs ρ l l' → ∀ n, VRs ρ (l.take n) (l'.take n)
  | _, _, .nil, n => by simp; exact .nil
  | _, _, .cons e t, 0 => by simp; exact .nil
  | _, _, .cons e t, n + 1 => by simp; exact .cons e (VRs.take t n)
theorem VRs.drop : ∀ {l l' : List Value}, VRs ρ l l' → ∀ n, VRs ρ (l.drop n) (l'.drop n)
  | _, _, .nil, n => by simp; exact .nil
  | _, _, .cons e t, 0 => by simp; exact .cons e t
  | _, _, .cons e t, n + 1 => by simp; exact VRs.drop t n
theorem VRs.set : ∀ {l l' : List Value}, VRs ρ l l' → ∀ (n : Nat) {v v' : Value}, VR ρ v v' → VRs ρ (l.set n v) (l'.set n v')
  | _, _, .nil, n, _, _, _ => by simp; exact .nil
  | _, _, .cons e t, 0, _, _, h => by simp; exact .cons h t
  | _, _, .cons e t, n + 1, _, _, h => by simp; exact .cons e (VRs.set t n h)
theorem VR.one {v v' : Value} (h : VR ρ v v') : v'.oneCell' = v.oneCell' := by cases h <;> rfl
end
/-! Values without addresses. -/
mutual
def closedV : Value → Bool
  | .bool _ | .int _ _ | .string _ | .pointer none | .slice none 0 0 | .map none | .nilFunc | .nilIface => true
  | .iface _ v => closedV v
  | .agg ⟨l⟩ | .tuple ⟨l⟩ => closedVs l
  | .func (.yield _) _ _ => false
  | .func _ ⟨x⟩ ⟨y⟩ => closedVs x && closedVs y
  | _ => false
def closedVs : List Value → Bool
  | [] => true
  | v :: l => closedV v && closedVs l
end
mutual
theorem closedV_self {ρ : Ren} : ∀ (v : Value), closedV v = true → VR ρ v v
  | .bool b, _ => .bool b
  | .int k n, _ => .int k n
  | .string s, _ => .string s
  | .pointer none, _ => .pnil
  | .pointer (some _), h => by simp [closedV] at h
  | .slice none 0 0, _ => .snil
  | .slice none 0 (_ + 1), h => by simp [closedV] at h
  | .slice none (_ + 1) _, h => by simp [closedV] at h
  | .slice (some _) _ _, h => by simp [closedV] at h
  | .map none, _ => .mnil
  | .map (some _), h => by simp [closedV] at h
  | .nilFunc, _ => .fnil
  | .nilIface, _ => .inil
  | .iface _ v, h => .iface (closedV_self v (by simpa [closedV] using h))
  | .agg ⟨l⟩, h => .agg (closedVs_self l (by simpa [closedV] using h))
  | .tuple ⟨l⟩, h => .tuple (closedVs_self l (by simpa [closedV] using h))
  | .func f ⟨x⟩ ⟨y⟩, h => by
    cases f with
    | yield l => simp [closedV] at h
    | func f => simp only [closedV, Bool.and_eq_true] at h; exact .func (fun _ e => by cases e) (closedVs_self x h.1) (closedVs_self y h.2)
    | method f => simp only [closedV, Bool.and_eq_true] at h; exact .func (fun _ e => by cases e) (closedVs_self x h.1) (closedVs_self y h.2)
    | methodOf t f => simp only [closedV, Bool.and_eq_true] at h; exact .func (fun _ e => by cases e) (closedVs_self x h.1) (closedVs_self y h.2)
    | via a b c d => simp only [closedV, Bool.and_eq_true] at h; exact .func (fun _ e => by cases e) (closedVs_self x h.1) (closedVs_self y h.2)
  | .float _ _, h => by simp [closedV] at h
  | .complex _ _ _, h => by simp [closedV] at h
  | .chan _, h => by simp [closedV] at h
theorem closedVs_self {ρ : Ren} : ∀ (l : List Value), closedVs l = true → VRs ρ l l
  | [], _ => .nil
  | v :: l, h => by
    simp only [closedVs, Bool.and_eq_true] at h
    exact .cons (closedV_self v h.1) (closedVs_self l h.2)
end
/-! Memory. -/
inductive Blk where
  | cells (cs : List Value) (ro : Bool) (z : Nat)
  | map (es : List MapEntry) (clock : Nat)
structure S where
  next : Nat
  h : T Blk
def S.get (s : S) (i : Nat) : Option Blk := s.h.get i
def S.put (s : S) (i : Nat) (o : Option Blk) : Option S := (T.set deep s.h i o).bind fun t => (fN s.next).bind fun n => some ⟨n, t⟩
def S.push (s : S) (o : Blk) : Option (Nat × S) := (T.set deep s.h s.next (some o)).bind fun t => (fN (s.next + 1)).bind fun n => some (s.next, ⟨n, t⟩)
theorem S.put_get {s s' : S} {i : Nat} {o : Option Blk} (h : s.put i o = some s') : s'.next = s.next ∧ ∀ j, s'.get j = if j = i then o else s.get j := by
  unfold S.put at h
  obtain ⟨t, ht, he⟩ := Option.bind_eq_some_iff.1 h
  rw [fN_eq] at he
  cases he
  exact ⟨rfl, fun j => T.get_set _ _ _ _ _ ht j⟩
theorem S.push_get {s s' : S} {i : Nat} {o : Blk} (h : s.push o = some (i, s')) : i = s.next ∧ s'.next = s.next + 1 ∧ ∀ j, s'.get j = if j = s.next then some o else s.get j := by
  unfold S.push at h
  obtain ⟨t, ht, he⟩ := Option.bind_eq_some_iff.1 h
  rw [fN_eq] at he
  simp only [Option.bind_some] at he
  cases he
  exact ⟨rfl, rfl, fun j => T.get_set _ _ _ _ _ ht j⟩
inductive MRs (ρ : Ren) : List MapEntry → List MapEntry → Prop
  | nil : MRs ρ [] []
  | cons {e e' : MapEntry} {l l' : List MapEntry} (hk : VR ρ e.key e'.key) (hv : VR ρ e.val e'.val) (hb : e.born = e'.born) (t : MRs ρ l l') : MRs ρ (e :: l) (e' :: l')
theorem MRs.mono {ρ σ : Ren} (h : ρ.le σ) : ∀ {l l' : List MapEntry}, MRs ρ l l' → MRs σ l l'
  | _, _, .nil => .nil
  | _, _, .cons k v b t => .cons (k.mono h) (v.mono h) b (t.mono h)
def OR (ρ : Ren) (B : Nat) (w : World) (q : Loc) : Blk → Prop
  | .cells cs ro z => ∃ cs', VRs ρ cs cs' ∧ w.rangeAt q.b q.d cs' ∧ q.d + cs.length ≤ q.N ∧ q.z = z ∧ (ro = false → B ≤ q.b ∧ w.there q.b 0 q.N)
  | .map es clock => ∃ es' : Array MapEntry, w.heap[q.b]? = some (.map es' clock) ∧ MRs ρ es es'.toList ∧ B ≤ q.b
structure Rel (B : Nat) (ρ : Ren) (s : S) (w : World) : Prop where
  dom : ∀ i q, ρ i = some q → i < s.next ∧ q.b < w.heap.size
  blk : ∀ i o, s.get i = some o → ∃ q, ρ i = some q ∧ OR ρ B w q o
  inj : ∀ i j q r, ρ i = some q → ρ j = some r → q.b = r.b → (s.get i).isSome = true → (s.get j).isSome = true → i = j
  size : B ≤ w.heap.size
theorem OR.mono {ρ σ : Ren} (h : ρ.le σ) {B : Nat} {w : World} {q : Loc} {o : Blk} (ho : OR ρ B w q o) : OR σ B w q o := by
  cases o with
  | cells cs ro z => obtain ⟨cs', h1, h2⟩ := ho; exact ⟨cs', h1.mono h, h2⟩
  | map es c => obtain ⟨es', h1, h2, h3⟩ := ho; exact ⟨es', h1, h2.mono h, h3⟩
/-- The model's blocks that the reading knows of. -/
def Own (ρ : Ren) (s : S) (c : Nat) : Prop := ∃ i o q, s.get i = some o ∧ ρ i = some q ∧ q.b = c
/-- One step: the reading's memory goes from s to s', the model's from w to w'. -/
structure Step (B : Nat) (ρ : Ren) (s : S) (w : World) (ρ' : Ren) (s' : S) (w' : World) : Prop where
  le : ρ.le ρ'
  rel : Rel B ρ' s' w'
  below : Below B w w'
  frame : ∀ c, c < w.heap.size → ¬ Own ρ s c → w'.heap[c]? = w.heap[c]?
  own : ∀ c, c < w.heap.size → Own ρ' s' c → Own ρ s c
  mono : s.next ≤ s'.next
  new : ∀ i q, ρ' i = some q → ρ i = some q ∨ s.next ≤ i
theorem Step.refl {B : Nat} {ρ : Ren} {s : S} {w : World} (h : Rel B ρ s w) : Step B ρ s w ρ s w := ⟨.refl _, h, .refl _ _, fun _ _ _ => rfl, fun _ _ h => h, Nat.le_refl _, fun _ _ h => .inl h⟩
theorem Step.trans {B : Nat} {ρ ρ1 ρ2 : Ren} {s s1 s2 : S} {w w1 w2 : World} (h : Step B ρ s w ρ1 s1 w1) (k : Step B ρ1 s1 w1 ρ2 s2 w2) : Step B ρ s w ρ2 s2 w2 :=
  ⟨h.le.trans k.le, k.rel, h.below.trans k.below, fun c hc ho => (k.frame c (Nat.lt_of_lt_of_le hc h.below.size) (fun e => ho (h.own c hc e))).trans (h.frame c hc ho),
    fun c hc ho => h.own c hc (k.own c (Nat.lt_of_lt_of_le hc h.below.size) ho), Nat.le_trans h.mono k.mono, fun i q e => (k.new i q e).elim (fun e2 => h.new i q e2) (fun e2 => .inr (Nat.le_trans h.mono e2))⟩
theorem Rel.drew {B : Nat} {ρ : Ren} {s : S} {w : World} (h : Rel B ρ s w) : Rel B ρ s w.drew := by
  refine ⟨h.dom, fun i o ho => ?_, h.inj, h.size⟩
  obtain ⟨k, hk, hr⟩ := h.blk i o ho
  refine ⟨k, hk, ?_⟩
  cases o with
  | cells cs ro z => obtain ⟨cs', h1, h2, h3, h4, h5⟩ := hr; exact ⟨cs', h1, by simpa using h2, h3, h4, by simpa using h5⟩
  | map es c => exact hr
theorem Step.drew {B : Nat} {ρ : Ren} {s : S} {w : World} (h : Rel B ρ s w) : Step B ρ s w ρ s w.drew := ⟨.refl _, h.drew, (Below.refl _ _).drew, fun _ _ _ => rfl, fun _ _ h => h, Nat.le_refl _, fun _ _ h => .inl h⟩
/-- What a new block adds to the renaming. -/
def Ren.add (ρ : Ren) (i : Nat) (q : Loc) : Ren := fun j => if j = i then some q else ρ j
theorem Ren.add_at (ρ : Ren) (i : Nat) (q : Loc) : (ρ.add i q) i = some q := by simp [Ren.add]
theorem Rel.fresh {B : Nat} {ρ : Ren} {s : S} {w : World} (h : Rel B ρ s w) (q : Loc) : ρ.le (ρ.add s.next q) := fun j k e => by
  unfold Ren.add
  rw [if_neg (by have := (h.dom j k e).1; omega)]
  exact e
theorem OR.alloc {ρ : Ren} {B : Nat} {w : World} {q : Loc} {o : Blk} (ho : OR ρ B w q o) (hk : q.b < w.heap.size) (ob : Obj) : OR ρ B (w.alloc ob) q o := by
  cases o with
  | cells cs ro z => obtain ⟨cs', h1, h2, h3, h4, h5⟩ := ho; exact ⟨cs', h1, World.rangeAt_alloc h2 ob, h3, h4, fun e => ⟨(h5 e).1, World.there_alloc (h5 e).2 ob⟩⟩
  | map es c => obtain ⟨es', h1, h2, h3⟩ := ho; exact ⟨es', by rw [Below.heap_alloc _ _ _ hk]; exact h1, h2, h3⟩
theorem Rel.alloc {B : Nat} {ρ : Ren} {s s' : S} {w : World} {i : Nat} {o : Blk} {ob : Obj} {q : Loc} (h : Rel B ρ s w) (hp : s.push o = some (i, s')) (hq : q.b = w.heap.size)
    (ho : OR (ρ.add s.next q) B (w.alloc ob) q o) : Step B ρ s w (ρ.add i q) s' (w.alloc ob) := by
  obtain ⟨rfl, hn, hg⟩ := S.push_get hp
  have hle := h.fresh q
  refine ⟨hle, ⟨fun j k e => ?_, fun j o' e => ?_, fun a b k r ea eb hkr la lb => ?_, ?_⟩, (Below.refl _ _).alloc h.size _, fun c hc _ => Below.heap_alloc _ _ _ hc, fun c hc ho => ?_, by omega, fun i q' e => by unfold Ren.add at e; split at e; (exact .inr (by omega)); exact .inl e⟩
  · unfold Ren.add at e
    simp only [World.size_alloc]
    split at e
    · rename_i hj; cases e; omega
    · have := h.dom j k e; omega
  · rw [hg] at e
    split at e
    · rename_i hj
      cases e
      subst hj
      exact ⟨_, by simp [Ren.add], ho⟩
    · obtain ⟨k, hk, hr⟩ := h.blk j o' e
      exact ⟨k, hle _ _ hk, (hr.mono hle).alloc (h.dom _ _ hk).2 _⟩
  · rw [hg] at la lb
    unfold Ren.add at ea eb
    by_cases ha : a = s.next
    · by_cases hb : b = s.next
      · omega
      · rw [if_pos ha] at ea
        rw [if_neg hb] at eb
        cases ea
        have := (h.dom _ _ eb).2
        omega
    · rw [if_neg ha] at ea la
      by_cases hb : b = s.next
      · rw [if_pos hb] at eb
        cases eb
        have := (h.dom _ _ ea).2
        omega
      · rw [if_neg hb] at eb lb
        exact h.inj _ _ _ _ ea eb hkr la lb
  · simp only [World.size_alloc]
    have := h.size
    omega
  · obtain ⟨j, o', k, e1, e3, e4⟩ := ho
    rw [hg] at e1
    unfold Ren.add at e3
    split at e1
    · rename_i hj
      rw [if_pos hj] at e3
      cases e3
      omega
    · rename_i hj
      rw [if_neg hj] at e3
      exact ⟨j, o', k, e1, e3, e4⟩
/-- A block is taken out: nobody reads or writes it any more. -/
theorem Rel.kill {B : Nat} {ρ : Ren} {s s' : S} {w : World} {i : Nat} (h : Rel B ρ s w) (hp : s.put i none = some s') : Rel B ρ s' w := by
  obtain ⟨hn, hg⟩ := S.put_get hp
  refine ⟨fun j k e => by rw [hn]; exact h.dom j k e, fun j o e => ?_, fun a b q r ea eb hk la lb => ?_, h.size⟩
  · rw [hg] at e
    split at e
    · cases e
    · exact h.blk j o e
  · rw [hg] at la lb
    split at la
    · cases la
    · split at lb
      · cases lb
      · exact h.inj _ _ _ _ ea eb hk la lb
theorem Step.kill {B : Nat} {ρ : Ren} {s s' : S} {w : World} {i : Nat} (h : Rel B ρ s w) (hp : s.put i none = some s') : Step B ρ s w ρ s' w := by
  obtain ⟨hn, hg⟩ := S.put_get hp
  refine ⟨.refl _, h.kill hp, .refl _ _, fun _ _ _ => rfl, fun c hc ho => ?_, by omega, fun _ _ h => .inl h⟩
  obtain ⟨j, o', k, e1, e3, e4⟩ := ho
  rw [hg] at e1
  split at e1
  · cases e1
  · exact ⟨j, o', k, e1, e3, e4⟩
/-- A block's own cells anew: some cells of its model's block are written. -/
theorem below_setCells {B : Nat} {a : World} (b : Nat) (hb : B ≤ b) : ∀ (vs : List Value) (o : Nat) {w : World}, Below B a w → Below B a (w.setCells b o vs)
  | [], _, _, h => h
  | v :: r, o, w, h => by
    rw [World.setCells]
    exact below_setCells b hb r (o + 1) (h.setCell (p := ⟨b, o, none⟩) hb v)
theorem size_setCells (b : Nat) : ∀ (vs : List Value) (o : Nat) (w : World), (w.setCells b o vs).heap.size = w.heap.size
  | [], _, _ => rfl
  | v :: r, o, w => by rw [World.setCells, size_setCells b r]; simp [World.setCell]
theorem heap_setCells (b k : Nat) (hk : k ≠ b) : ∀ (vs : List Value) (o : Nat) (w : World), (w.setCells b o vs).heap[k]? = w.heap[k]?
  | [], _, _ => rfl
  | v :: r, o, w => by rw [World.setCells, heap_setCells b k hk r, Below.heap_setCell _ _ _ _ hk]
theorem Rel.setCells {B : Nat} {ρ : Ren} {s s' : S} {w : World} {i : Nat} {q : Loc} {cs cs2 cs2' vs' : List Value} {z o : Nat} (h : Rel B ρ s w) (hi : s.get i = some (.cells cs false z)) (hq : ρ i = some q)
    (hp : s.put i (some (.cells cs2 false z)) = some s') (hl : cs2.length = cs.length) (hv : VRs ρ cs2 cs2') (hr : (w.setCells q.b o vs').rangeAt q.b q.d cs2') : Step B ρ s w ρ s' (w.setCells q.b o vs') := by
  obtain ⟨hn, hg⟩ := S.put_get hp
  obtain ⟨q', hq', cs', h1, h2, h3, h4, h5⟩ := h.blk i _ hi
  rw [hq] at hq'
  cases hq'
  have hb := h5 rfl
  refine ⟨.refl _, ⟨fun j k e => by rw [hn, size_setCells]; exact h.dom j k e, fun j o' e => ?_, fun a b k r ea eb hkr la lb => ?_, by rw [size_setCells]; exact h.size⟩, below_setCells _ hb.1 _ _ (.refl _ _), fun c hc ho => heap_setCells _ _ (fun e => ho ⟨i, _, q, hi, hq, e.symm⟩) _ _ _, fun c hc ho => ?_, by omega, fun _ _ h => .inl h⟩
  · rw [hg] at e
    split at e
    · rename_i hj
      cases e
      subst hj
      exact ⟨q, hq, cs2', hv, hr, by rw [hl]; exact h3, h4, fun _ => ⟨hb.1, World.there_setCells hb.2 _ _ _⟩⟩
    · rename_i hj
      obtain ⟨k, hk, hr2⟩ := h.blk j o' e
      have hne : k.b ≠ q.b := fun e2 => hj (h.inj _ _ _ _ hk hq e2 (by simp [e]) (by simp [hi]))
      refine ⟨k, hk, ?_⟩
      cases o' with
      | cells cs3 ro3 z3 =>
        obtain ⟨cs3', g1, g2, g3, g4, g5⟩ := hr2
        exact ⟨cs3', g1, World.rangeAt_setCells_apart g2 _ _ _ (.inl hne), g3, g4, fun e2 => ⟨(g5 e2).1, World.there_setCells (g5 e2).2 _ _ _⟩⟩
      | map es c =>
        obtain ⟨es', g1, g2, g3⟩ := hr2
        exact ⟨es', by rw [heap_setCells _ _ hne]; exact g1, g2, g3⟩
  · rw [hg] at la lb
    have fix : ∀ x, (if x = i then some (Blk.cells cs2 false z) else s.get x).isSome = true → (s.get x).isSome = true := fun x hx => by
      by_cases e : x = i
      · subst e; simp [hi]
      · rwa [if_neg e] at hx
    exact h.inj _ _ _ _ ea eb hkr (fix _ la) (fix _ lb)
  · obtain ⟨j, o', k, e1, e3, e4⟩ := ho
    rw [hg] at e1
    split at e1
    · rename_i hj
      subst hj
      exact ⟨j, _, k, hi, e3, e4⟩
    · exact ⟨j, o', k, e1, e3, e4⟩
end Go.Rx
