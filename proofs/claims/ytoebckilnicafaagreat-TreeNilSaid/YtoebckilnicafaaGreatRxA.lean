/-
A second reading of a program's text: what memory looks like to it.
-/
import Derived.Below
import Derived.Orders
set_option linter.unusedVariables false
namespace Go.Rx
/-! A number, text and so on as it stands, with no step left to do. -/
def fN : Nat → Option Nat
  | 0 => some 0
  | n + 1 => some (n + 1)
theorem fN_eq : ∀ n, fN n = some n
  | 0 => rfl
  | _ + 1 => rfl
def fV : Value → Option Value
  | .int k (.ofNat n) => (fN n).bind fun m => some (.int k (.ofNat m))
  | .int k (.negSucc n) => (fN n).bind fun m => some (.int k (.negSucc m))
  | .bool true => some (.bool true)
  | .bool false => some (.bool false)
  | v => some v
theorem fV_eq (v : Value) : fV v = some v := by
  unfold fV
  split <;> simp [fN_eq]
/-! A tree of numbered places. -/
inductive T (α : Type) where
  | nil
  | node (v : Option α) (l r : T α)
def T.get {α : Type} : T α → Nat → Option α
  | .nil, _ => none
  | .node v l r, i => bif Nat.beq i 0 then v else bif Nat.beq (i % 2) 1 then l.get (i / 2) else r.get (i / 2 - 1)
def T.val {α : Type} : T α → Option α
  | .nil => none
  | .node v _ _ => v
def T.left {α : Type} : T α → T α
  | .nil => .nil
  | .node _ l _ => l
def T.right {α : Type} : T α → T α
  | .nil => .nil
  | .node _ _ r => r
def T.set {α : Type} : Nat → T α → Nat → Option α → Option (T α)
  | 0, _, _, _ => none
  | f + 1, .nil, i, x =>
    bif Nat.beq i 0 then some (.node x .nil .nil)
    else bif Nat.beq (i % 2) 1 then (T.set f .nil (i / 2) x).bind fun l => some (.node none l .nil)
    else (T.set f .nil (i / 2 - 1) x).bind fun r => some (.node none .nil r)
  | f + 1, .node v l r, i, x =>
    bif Nat.beq i 0 then some (.node x l r)
    else bif Nat.beq (i % 2) 1 then (T.set f l (i / 2) x).bind fun l => some (.node v l r)
    else (T.set f r (i / 2 - 1) x).bind fun r => some (.node v l r)
theorem T.set_succ {α : Type} (f : Nat) (t : T α) (i : Nat) (x : Option α) : T.set (f + 1) t i x =
    bif Nat.beq i 0 then some (.node x t.left t.right)
    else bif Nat.beq (i % 2) 1 then (T.set f t.left (i / 2) x).bind fun l => some (.node t.val l t.right)
    else (T.set f t.right (i / 2 - 1) x).bind fun r => some (.node t.val t.left r) := by
  cases t <;> rfl
theorem T.get_eq {α : Type} (t : T α) (i : Nat) : t.get i = if i = 0 then t.val else if i % 2 = 1 then t.left.get (i / 2) else t.right.get (i / 2 - 1) := by
  cases t with
  | nil => simp [T.get, T.val, T.left, T.right]
  | node v l r =>
    simp only [T.get, T.val, T.left, T.right, cond_eq_ite, Nat.beq_eq]
theorem T.get_set {α : Type} : ∀ (f : Nat) (t t' : T α) (i : Nat) (x : Option α), T.set f t i x = some t' → ∀ j, t'.get j = if j = i then x else t.get j
  | 0, _, _, _, _, h, _ => by simp [T.set] at h
  | f + 1, t, t', i, x, h, j => by
    simp only [T.set_succ, cond_eq_ite, Nat.beq_eq] at h
    split at h
    · rename_i h0
      cases h
      subst h0
      rw [T.get_eq (.node ..), T.get_eq t]
      simp only [T.val, T.left, T.right]
      split <;> rfl
    · rename_i h0
      split at h
      · rename_i h1
        obtain ⟨l, hl, he⟩ := Option.bind_eq_some_iff.1 h
        cases he
        have ih := T.get_set f _ _ _ _ hl
        rw [T.get_eq (.node ..), T.get_eq t]
        simp only [T.val, T.left, T.right]
        by_cases hj : j = 0
        · subst hj
          simp [Ne.symm h0]
        · rw [if_neg hj, if_neg hj]
          by_cases hj1 : j % 2 = 1
          · rw [if_pos hj1, if_pos hj1, ih]
            by_cases e : j = i
            · subst e; simp
            · rw [if_neg e, if_neg (by omega)]; cases t <;> rfl
          · rw [if_neg hj1, if_neg hj1]
            have : j ≠ i := by omega
            rw [if_neg this]
      · rename_i h1
        obtain ⟨r, hr, he⟩ := Option.bind_eq_some_iff.1 h
        cases he
        have ih := T.get_set f _ _ _ _ hr
        rw [T.get_eq (.node ..), T.get_eq t]
        simp only [T.val, T.left, T.right]
        by_cases hj : j = 0
        · subst hj
          simp [Ne.symm h0]
        · rw [if_neg hj, if_neg hj]
          by_cases hj1 : j % 2 = 1
          · rw [if_pos hj1, if_pos hj1]
            have : j ≠ i := by omega
            rw [if_neg this]
          · rw [if_neg hj1, if_neg hj1, ih]
            by_cases e : j = i
            · subst e; simp
            · rw [if_neg e, if_neg (by omega)]; cases t <;> rfl
def deep : Nat := 60
/-! Lists, told with no step left to do. -/
def nth {α : Type} : List α → Nat → Option α
  | [], _ => none
  | x :: l, n => bif Nat.beq n 0 then some x else nth l (n - 1)
theorem nth_eq {α : Type} : ∀ (l : List α) (n : Nat), nth l n = l[n]?
  | [], _ => by simp [nth]
  | x :: l, n => by
    cases n with
    | zero => rfl
    | succ n => simp [nth, nth_eq l n, Nat.beq]
def setL {α : Type} : List α → Nat → α → Option (List α)
  | [], _, _ => none
  | y :: l, n, x => bif Nat.beq n 0 then some (x :: l) else (setL l (n - 1) x).bind fun l' => some (y :: l')
theorem setL_eq {α : Type} : ∀ (l : List α) (n : Nat) (x : α) (l' : List α), setL l n x = some l' → n < l.length ∧ l' = l.set n x
  | [], _, _, _, h => by simp [setL] at h
  | y :: l, n, x, l', h => by
    cases n with
    | zero => simp [setL] at h; subst h; simp
    | succ n =>
      simp only [setL, Nat.add_sub_cancel, Nat.beq, cond_false] at h
      obtain ⟨l2, h2, he⟩ := Option.bind_eq_some_iff.1 h
      cases he
      obtain ⟨h3, rfl⟩ := setL_eq l n x l2 h2
      exact ⟨by simpa using h3, by simp⟩
def app {α : Type} : List α → List α → Option (List α)
  | [], m => some m
  | x :: l, m => (app l m).bind fun k => some (x :: k)
theorem app_eq {α : Type} : ∀ (l m : List α), app l m = some (l ++ m)
  | [], _ => rfl
  | x :: l, m => by simp [app, app_eq l m]
def takeL {α : Type} : Nat → List α → Option (List α)
  | 0, _ => some []
  | _ + 1, [] => none
  | n + 1, x :: l => (takeL n l).bind fun k => some (x :: k)
theorem takeL_eq {α : Type} : ∀ (n : Nat) (l k : List α), takeL n l = some k → n ≤ l.length ∧ k = l.take n
  | 0, l, k, h => by simp [takeL] at h; subst h; simp
  | n + 1, [], k, h => by simp [takeL] at h
  | n + 1, x :: l, k, h => by
    simp only [takeL] at h
    obtain ⟨k2, h2, he⟩ := Option.bind_eq_some_iff.1 h
    cases he
    obtain ⟨h3, rfl⟩ := takeL_eq n l k2 h2
    exact ⟨by simpa using h3, by simp⟩
end Go.Rx
