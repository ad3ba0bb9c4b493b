import Derived.Test.YtgapgdnbgimdlaaSq2
section
set_option linter.unusedVariables false
set_option linter.unusedSimpArgs false
namespace Go.Proofs.Ytgapgdnbgimdlaa.PO
open Go.RowKit Go.Proofs.Ytgapgdnbgimdlaa.Ov Go.Proofs.YtgapgdnbgimdlaaW.PrintWords Go.Proofs.YtgapgdnbgimdlaaW.PrintLast Go.Proofs.YtgapgdnbgimdlaaW.PrintMore
open Go.Proofs.Ytgapgdnbgimdlaa.PA (S23 ordR oi oi_lt oi_eq cmpRow_at)
open Std
def nz (x : S44) : Bool := !(x.f1 == 0)
theorem take_set_succ {l : List S44} {i : Nat} (h : i < l.length) (x : S44) : (l.set i x).take (i + 1) = l.take i ++ [x] := by
 rw [List.take_succ_eq_append_getElem (by simpa using h), List.take_set_of_le (Nat.le_refl _)]
 simp
theorem drop_set_lt {l : List S44} {i j : Nat} (h : i < j) (x : S44) : (l.set i x).drop j = l.drop j := by
 rw [List.drop_set_of_lt h]
section
variable [Ω : Env]
theorem delete_ev (d : Nat) : ∀ (x : List S44) (i j : Nat), x.length - j = d → i ≤ j → j ≤ x.length → x.length + 1 ≤ 4611686018427387904 →
  Ev (fun k => api_Weighted_42.l0 k x (i : Int) (j : Int)) (x.take i ++ (x.drop j).filter nz) := by
 induction d with
 | zero =>
  intro x i j hd hij hj hl
  refine Ev.step (f := fun _ => some (x.take i)) (fun k => ?_) (by rw [List.drop_of_length_le (by omega)]; simpa using Ev.now _)
  simp only [api_Weighted_42.l0]
  rw [if_neg (by omega), if_pos (by omega), if_pos (by omega)]
  simp
 | succ d ih =>
  intro x i j hd hij hj hl
  have hlt : j < x.length := by omega
  have hx : x.drop j = x[j] :: x.drop (j + 1) := List.drop_eq_getElem_cons hlt
  have hw : wrap64 ((j : Int) + 1) = ((j + 1 : Nat) : Int) := by rw [wrap_small] <;> omega
  have hwi : wrap64 ((i : Int) + 1) = ((i + 1 : Nat) : Int) := by rw [wrap_small] <;> omega
  by_cases hz : x[j].f1 = 0
  ·have h1 := ih x i (j + 1) (by omega) (by omega) (by omega) hl
   have e : (x.drop j).filter nz = (x.drop (j + 1)).filter nz := by rw [hx, List.filter_cons_of_neg (by simp [nz, hz])]
   rw [e]
   refine Ev.step (fun k => ?_) h1
   simp only [api_Weighted_42.l0]
   rw [if_pos (by omega), if_pos (by omega), rd_at hlt]
   simp [zset_sum_2.f, hz, hw]
  ·have h1 := ih (x.set i x[j]) (i + 1) (j + 1) (by rw [List.length_set]; omega) (by omega) (by rw [List.length_set]; omega) (by rw [List.length_set]; omega)
   have e : x.take i ++ (x.drop j).filter nz = (x.set i x[j]).take (i + 1) ++ ((x.set i x[j]).drop (j + 1)).filter nz := by
    rw [take_set_succ (by omega), drop_set_lt (by omega), hx, List.filter_cons_of_pos (by simp [nz, hz]), List.append_assoc]
    rfl
   rw [e]
   refine Ev.step (fun k => ?_) h1
   simp only [api_Weighted_42.l0]
   rw [if_pos (by omega), if_pos (by omega), rd_at hlt]
   simp only [zset_sum_2.f, Option.bind_some]
   rw [if_neg (by simpa using hz), if_pos (by omega), if_pos (by omega), hw, hwi]
   simp
theorem index_ev (d : Nat) : ∀ (x : List S44) (j : Nat), x.length - j = d → j ≤ x.length → x.length + 1 ≤ 4611686018427387904 → (∀ q, q < j → ∀ h : q < x.length, x[q].f1 ≠ 0) →
  (Ev (fun k => api_Weighted_57.l0 k x (x.length : Int) (j : Int)) (-1) ∧ x.filter nz = x) ∨ ∃ i, i < x.length ∧ Ev (fun k => api_Weighted_57.l0 k x (x.length : Int) (j : Int)) ((i : Nat) : Int) ∧ x.take i ++ (x.drop (i + 1)).filter nz = x.filter nz := by
 induction d with
 | zero =>
  intro x j hd hj hl hq
  refine .inl ⟨Ev.step (f := fun _ => some (-1)) (fun k => ?_) (Ev.now _), ?_⟩
  ·simp only [api_Weighted_57.l0]
   rw [if_neg (by omega)]
  ·rw [List.filter_eq_self]
   intro y hy
   obtain ⟨q, hql, rfl⟩ := List.mem_iff_getElem.1 hy
   simp [nz, hq q (by omega) hql]
 | succ d ih =>
  intro x j hd hj hl hq
  have hlt : j < x.length := by omega
  have hw : wrap64 ((j : Int) + 1) = ((j + 1 : Nat) : Int) := by rw [wrap_small] <;> omega
  by_cases hz : x[j].f1 = 0
  ·refine .inr ⟨j, hlt, Ev.step (f := fun _ => some (j : Int)) (fun k => ?_) (Ev.now _), ?_⟩
   ·simp only [api_Weighted_57.l0]
    rw [if_pos (by omega), if_pos (by omega), if_pos (by omega), rd_at hlt]
    simp [zset_sum_2.f, hz]
   ·conv => rhs; rw [← List.take_append_drop j x, List.filter_append, List.drop_eq_getElem_cons hlt]
    have : (x.take j).filter nz = x.take j := by
     rw [List.filter_eq_self]
     intro y hy
     obtain ⟨q, hql, rfl⟩ := List.mem_iff_getElem.1 hy
     have hqj : q < j := by simp at hql; omega
     simp [nz, hq q hqj (by omega)]
    rw [this, List.filter_cons_of_neg (by simp [nz, hz])]
  ·have h1 := ih x (j + 1) (by omega) (by omega) hl (fun q hqj h => by
    by_cases e : q = j
    ·subst e; exact hz
    ·exact hq q (by omega) h)
   have hs : ∀ r, Ev (fun k => api_Weighted_57.l0 k x (x.length : Int) ((j + 1 : Nat) : Int)) r → Ev (fun k => api_Weighted_57.l0 k x (x.length : Int) (j : Int)) r := fun r h => by
    refine Ev.step (fun k => ?_) h
    simp only [api_Weighted_57.l0]
    rw [if_pos (by omega), if_pos (by omega), if_pos (by omega), rd_at hlt, hw]
    simp [zset_sum_2.f, hz]
   rcases h1 with ⟨h1, h2⟩ | ⟨i, hi, h1, h2⟩
   ·exact .inl ⟨hs _ h1, h2⟩
   ·exact .inr ⟨i, hi, hs _ h1, h2⟩
theorem filter_ev (x : List S44) (hl : x.length + 2 ≤ 4611686018427387904) : Ev (fun k => api_Weighted_42.f k x) (x.filter nz) := by
 rcases index_ev x.length x 0 (by omega) (by omega) (by omega) (fun q h => by omega) with ⟨h1, h2⟩ | ⟨i, hi, h1, h2⟩
 ·refine Ev.congr (f := fun k => (api_Weighted_57.f k x).bind fun t => if t = (-1) then some x else api_Weighted_42.l0 k x t (wrap64 (t + 1))) (fun k => rfl) ?_
  refine Ev.bind (a := -1) (by simpa [api_Weighted_57.f] using h1) ?_
  simp only [if_true]
  rw [h2]
  exact Ev.now _
 ·refine Ev.congr (f := fun k => (api_Weighted_57.f k x).bind fun t => if t = (-1) then some x else api_Weighted_42.l0 k x t (wrap64 (t + 1))) (fun k => rfl) ?_
  refine Ev.bind (a := ((i : Nat) : Int)) (by simpa [api_Weighted_57.f] using h1) ?_
  have hne : ¬ ((i : Nat) : Int) = -1 := by omega
  simp only [hne, if_false]
  have hw : wrap64 ((i : Int) + 1) = ((i + 1 : Nat) : Int) := by rw [wrap_small] <;> omega
  rw [hw, ← h2]
  exact delete_ev (x.length - (i + 1)) x i (i + 1) rfl (by omega) (by omega) (by omega)
def pushR : List S44 → S44 → List S44
 | [], x => [x]
 | y :: ys, x => if ordK y x = .eq then ⟨y.f0, wrap64 (y.f1 + x.f1)⟩ :: ys else x :: y :: ys
theorem pushR_val {ro : List S44} {x : S44} (h : ∀ y ∈ ro, Val y) (hx : Val x) : ∀ y ∈ pushR ro x, Val y := by
 intro y hy
 cases ro with
 | nil => simp [pushR] at hy; subst hy; exact hx
 | cons z zs =>
  simp only [pushR] at hy
  split at hy
  ·rcases List.mem_cons.1 hy with e | hy
   ·rw [e]
    exact (h z (by simp) : Env.ok z.f0 = true)
   ·exact h y (by simp [hy])
  ·rcases List.mem_cons.1 hy with e | hy
   ·rw [e]
    exact hx
   ·exact h y hy
theorem pushR_len (ro : List S44) (x : S44) : (pushR ro x).length ≤ ro.length + 1 := by
 cases ro with
 | nil => simp [pushR]
 | cons z zs => simp only [pushR]; split <;> simp
theorem sum_ev (t : List S44) (hv : ∀ y ∈ t, Val y) (hl : t.length + 2 ≤ 4398046511104) (d : Nat) : ∀ (ro : List S44) (i : Nat), t.length - i = d → i ≤ t.length → ro.length ≤ i → (∀ y ∈ ro, Val y) →
  Ev (fun k => zset_sum.l0 k ro.reverse t (t.length : Int) (i : Int)) ((((t.drop i).foldl pushR ro).reverse).filter nz) := by
 induction d with
 | zero =>
  intro ro i hd hi hr hvr
  have hf := filter_ev ro.reverse (by simp; omega)
  refine Ev.step (f := fun k => (api_Weighted_42.f k ro.reverse).bind fun t => some t) (fun k => ?_) ?_
  ·simp only [zset_sum.l0]
   rw [if_neg (by omega)]
  ·rw [List.drop_of_length_le (by omega)]
   exact Ev.bind hf (Ev.now _)
 | succ d ih =>
  intro ro i hd hi hr hvr
  have hlt : i < t.length := by omega
  have hx : t.drop i = t[i] :: t.drop (i + 1) := List.drop_eq_getElem_cons hlt
  have hvx : Val t[i] := hv _ (List.getElem_mem hlt)
  have hw : wrap64 ((i : Int) + 1) = ((i + 1 : Nat) : Int) := by rw [wrap_small] <;> omega
  have h1 := ih (pushR ro t[i]) (i + 1) (by omega) (by omega) (by have := pushR_len ro t[i]; omega) (pushR_val hvr hvx)
  rw [hx, List.foldl_cons]
  cases ro with
  | nil =>
   refine Ev.step (fun k => ?_) h1
   simp only [zset_sum.l0]
   rw [if_pos (by omega), if_pos (by omega), if_pos (by omega), rd_at hlt, hw]
   by_cases hi0 : (i : Int) > 0
   ·rw [if_pos hi0, if_neg (by simp [wrap64]), if_pos (by simp)]
    simp [pushR]
   ·rw [if_neg hi0, if_pos (by simp)]
    simp [pushR]
  | cons y ys =>
   have hvy := hvr y (by simp)
   have hc := cmprowo_ev hvy hvx
   have hlen : ((y :: ys).reverse.length : Int) = ((ys.reverse.length + 1 : Nat) : Int) := by simp
   have hlw : wrap64 (((y :: ys).reverse.length : Int) - 1) = ((ys.reverse.length : Nat) : Int) := by
    simp at hr
    rw [hlen, wrap_small] <;> simp <;> omega
   have hg : rd_T44 (y :: ys).reverse ((ys.reverse.length : Nat) : Int) = y := by
    have := get_mid ys.reverse [] y
    simpa using this
   simp at hr
   have hstep : ∀ k, zset_sum.l0 (k + 1) (y :: ys).reverse t (t.length : Int) (i : Int) = (cmprowo.f k y.f0 t[i].f0).bind fun q => if q = 0 then zset_sum.l0 k ((⟨y.f0, wrap64 (y.f1 + t[i].f1)⟩ : S44) :: ys).reverse t (t.length : Int) ((i + 1 : Nat) : Int) else zset_sum.l0 k (t[i] :: y :: ys).reverse t (t.length : Int) ((i + 1 : Nat) : Int) := by
    intro k
    simp only [zset_sum.l0]
    rw [if_pos (by omega), if_pos (by omega), if_pos (by omega), if_pos (by omega), hlw, if_pos (by omega), if_pos (by omega), if_pos (by rw [hlen]; omega), hg, rd_at hlt, hw]
    congr 1
    funext q
    have e1 : (y :: ys).reverse.set ((ys.reverse.length : Nat) : Int).toNat (⟨y.f0, wrap64 (y.f1 + t[i].f1)⟩ : S44) = ((⟨y.f0, wrap64 (y.f1 + t[i].f1)⟩ : S44) :: ys).reverse := by
     rw [List.reverse_cons, List.reverse_cons, Int.toNat_natCast]
     exact set_mid ys.reverse [] y _
    rw [e1]
    split
    ·rfl
    ·rw [if_pos (by simp; omega)]
     simp
   refine Ev.step hstep (Ev.bind hc ?_)
   by_cases ho : ordK y t[i] = .eq
   ·rw [ho]
    simp only [pushR, ho, if_true] at h1 ⊢
    simpa [oi] using h1
   ·have : ¬ oi (ordK y t[i]) = 0 := fun e => ho (oi_eq.1 e)
    simp only [pushR, ho, if_false] at h1 ⊢
    simp only [this, if_false]
    exact h1
end
end Go.Proofs.Ytgapgdnbgimdlaa.PO
end
section
set_option linter.unusedVariables false
set_option linter.unusedSimpArgs false
namespace Go.Proofs.Ytgapgdnbgimdlaa.PA
open Go.RowKit Go.Proofs.YtgapgdnbgimdlaaW.PrintWords Go.Proofs.YtgapgdnbgimdlaaW.PrintLast Go.Proofs.YtgapgdnbgimdlaaW.PrintMore
open Std
def InR (n : Int) : Prop := -9223372036854775808 ≤ n ∧ n ≤ 9223372036854775807
instance (n : Int) : Decidable (InR n) := inferInstanceAs (Decidable (_ ∧ _))
theorem InR.wrap (n : Int) : InR (wrap64 n) := by unfold InR wrap64; omega
theorem InR.eq {n : Int} (h : InR n) : wrap64 n = n := by unfold InR at h; unfold wrap64; omega
theorem wrap_add_l (a b : Int) : wrap64 (wrap64 a + b) = wrap64 (a + b) := by unfold wrap64; omega
theorem wrap_add_r (a b : Int) : wrap64 (a + wrap64 b) = wrap64 (a + b) := by unfold wrap64; omega
theorem wrap_congr {a a' b b' : Int} (h : wrap64 a = wrap64 a') (k : wrap64 b = wrap64 b') : wrap64 (a + b) = wrap64 (a' + b') := by
 rw [← wrap_add_l, ← wrap_add_r, h, k, wrap_add_r, wrap_add_l]
def wsum : List S44 → List S23 → Int
 | [], _ => 0
 | x :: l, k => (if ordR x.f0 k = .eq then x.f1 else 0) + wsum l k
theorem wsum_perm {a b : List S44} (h : a.Perm b) (k : List S23) : wsum a k = wsum b k := by
 induction h with
 | nil => rfl
 | cons x _ ih => simp only [wsum, ih]
 | swap x y l => simp only [wsum]; omega
 | trans _ _ h1 h2 => rw [h1, h2]
theorem wsum_reverse (a : List S44) (k : List S23) : wsum a.reverse k = wsum a k := wsum_perm (List.reverse_perm a) k
theorem wsum_none {l : List S44} {k : List S23} (h : ∀ x ∈ l, ordR x.f0 k ≠ .eq) : wsum l k = 0 := by
 induction l with
 | nil => rfl
 | cons x l ih =>
  simp only [wsum]
  rw [if_neg (h x (by simp)), ih (fun y hy => h y (by simp [hy]))]
  rfl
def nzN (x : S44) : Bool := !(x.f1 == 0)
theorem wsum_filter (l : List S44) (k : List S23) : wsum (l.filter nzN) k = wsum l k := by
 induction l with
 | nil => rfl
 | cons x l ih =>
  by_cases h : x.f1 = 0
  ·rw [List.filter_cons_of_neg (by simp [nzN, h])]
   simp only [wsum, ih, h]
   split <;> omega
  ·rw [List.filter_cons_of_pos (by simp [nzN, h])]
   simp only [wsum, ih]
def Lt (a b : S44) : Prop := ordR a.f0 b.f0 = .lt
def LeN (a b : S44) : Prop := ordR a.f0 b.f0 ≠ .gt
def Rises (l : List S44) : Prop := l.Pairwise Lt ∧ ∀ x ∈ l, InR x.f1
def Canon (l : List S44) : Prop := Rises l ∧ ∀ x ∈ l, x.f1 ≠ 0
theorem ord_gt_of_lt {a b : List S23} (h : ordR a b = .lt) : ordR b a = .gt := by
 have := OrientedCmp.eq_swap (cmp := ordR) (a := b) (b := a)
 rw [this, h]; rfl
theorem ord_lt_of_gt {a b : List S23} (h : ordR a b = .gt) : ordR b a = .lt := by
 have := OrientedCmp.eq_swap (cmp := ordR) (a := b) (b := a)
 rw [this, h]; rfl
theorem ord_eq {a b : List S23} (h : ordR a b = .eq) : a = b := LawfulEqCmp.eq_of_compare h
theorem ord_self (a : List S23) : ordR a a = .eq := ReflCmp.compare_self
theorem ord_lt_trans {a b c : List S23} (h : ordR a b = .lt) (k : ordR b c = .lt) : ordR a c = .lt := TransCmp.lt_trans h k
theorem wsum_rises {x : S44} {l : List S44} (h : Rises (x :: l)) : wsum (x :: l) x.f0 = x.f1 := by
 simp only [wsum]
 rw [if_pos (ord_self _), wsum_none]
 ·omega
 ·intro y hy e
  have := (List.pairwise_cons.1 h.1).1 y hy
  unfold Lt at this
  rw [ord_gt_of_lt this] at e
  cases e
theorem Canon.tail {x : S44} {l : List S44} (h : Canon (x :: l)) : Canon l := ⟨⟨(List.pairwise_cons.1 h.1.1).2, fun y hy => h.1.2 y (by simp [hy])⟩, fun y hy => h.2 y (by simp [hy])⟩
theorem wsum_below {x : S44} {l : List S44} (h : Canon (x :: l)) {k : List S23} (hk : ordR k x.f0 = .lt) : wsum (x :: l) k = 0 := by
 refine wsum_none fun y hy e => ?_
 have e2 := ord_eq e
 rcases List.mem_cons.1 hy with rfl | hy
 ·rw [e2, ord_self] at hk; cases hk
 ·have := (List.pairwise_cons.1 h.1.1).1 y hy
  unfold Lt at this
  rw [e2] at this
  rw [ord_gt_of_lt this] at hk
  cases hk
theorem canon_unique : ∀ (l r : List S44), Canon l → Canon r → (∀ k, wrap64 (wsum l k) = wrap64 (wsum r k)) → l = r
 | [], [], _, _, _ => rfl
 | [], y :: r, _, hr, h => by
  have := h y.f0
  rw [wsum_rises hr.1, (hr.1.2 y (by simp)).eq] at this
  exact absurd this.symm (by simpa [wsum, wrap64] using hr.2 y (by simp))
 | x :: l, [], hl, _, h => by
  have := h x.f0
  rw [wsum_rises hl.1, (hl.1.2 x (by simp)).eq] at this
  exact absurd this (by simpa [wsum, wrap64] using hl.2 x (by simp))
 | x :: l, y :: r, hl, hr, h => by
  have hx0 := hl.2 x (by simp)
  have hy0 := hr.2 y (by simp)
  have hxi := (hl.1.2 x (by simp)).eq
  have hyi := (hr.1.2 y (by simp)).eq
  cases ho : ordR x.f0 y.f0 with
  | lt =>
   have := h x.f0
   rw [wsum_rises hl.1, wsum_below hr ho, hxi] at this
   exact absurd this (by simpa [wrap64] using hx0)
  | gt =>
   have := h y.f0
   rw [wsum_rises hr.1, wsum_below hl (ord_lt_of_gt ho), hyi] at this
   exact absurd this.symm (by simpa [wrap64] using hy0)
  | eq =>
   have e := ord_eq ho
   have h1 := h x.f0
   rw [wsum_rises hl.1, e, wsum_rises hr.1, hxi, hyi] at h1
   have hxy : x = y := by cases x; cases y; simp_all
   subst hxy
   rw [canon_unique l r hl.tail hr.tail fun k => ?_]
   have h2 := h k
   simp only [wsum] at h2
   generalize (if ordR x.f0 k = .eq then x.f1 else 0) = z at h2
   have h3 : wrap64 (-z + (z + wsum l k)) = wrap64 (-z + (z + wsum r k)) := wrap_congr rfl h2
   rwa [show -z + (z + wsum l k) = wsum l k by omega, show -z + (z + wsum r k) = wsum r k by omega] at h3
def pushN : List S44 → S44 → List S44
 | [], x => [x]
 | y :: ys, x => if ordR y.f0 x.f0 = .eq then ⟨y.f0, wrap64 (y.f1 + x.f1)⟩ :: ys else x :: y :: ys
def Falls (l : List S44) : Prop := l.Pairwise (fun a b => Lt b a) ∧ ∀ x ∈ l, InR x.f1
theorem push_spec {ro : List S44} {x : S44} (h : Falls ro) (hx : InR x.f1) (hle : ∀ y ∈ ro, LeN y x) : Falls (pushN ro x) ∧ (∀ y ∈ pushN ro x, LeN y x) ∧ ∀ k, wrap64 (wsum (pushN ro x) k) = wrap64 (wsum ro k + wsum [x] k) := by
 cases ro with
 | nil =>
  refine ⟨⟨by simp [pushN], by simpa [pushN] using hx⟩, ?_, fun k => by simp [pushN, wsum]⟩
  intro y hy
  simp [pushN] at hy
  subst hy
  unfold LeN
  rw [ord_self]
  decide
 | cons y ys =>
  have hyx := hle y (by simp)
  obtain ⟨h1, h2⟩ := h
  rw [List.pairwise_cons] at h1
  simp only [pushN]
  split
  ·rename_i he
   refine ⟨⟨?_, ?_⟩, ?_, fun k => ?_⟩
   ·rw [List.pairwise_cons]
    exact ⟨fun z hz => h1.1 z hz, h1.2⟩
   ·intro z hz
    rcases List.mem_cons.1 hz with e | hz
    ·rw [e]; exact InR.wrap _
    ·exact h2 z (by simp [hz])
   ·intro z hz
    rcases List.mem_cons.1 hz with e | hz
    ·rw [e]; exact hyx
    ·exact hle z (by simp [hz])
   ·have e := ord_eq he
    simp only [wsum, ← e]
    split
    ·rw [Int.add_assoc, wrap_add_l]
     congr 1
     omega
    ·congr 1
     omega
  ·rename_i he
   have hlt : ordR y.f0 x.f0 = .lt := by
    unfold LeN at hyx
    cases hq : ordR y.f0 x.f0 <;> simp_all
   refine ⟨⟨?_, ?_⟩, ?_, fun k => ?_⟩
   ·rw [List.pairwise_cons]
    refine ⟨fun z hz => ?_, List.pairwise_cons.2 h1⟩
    rcases List.mem_cons.1 hz with e | hz
    ·rw [e]; exact hlt
    ·exact ord_lt_trans (h1.1 z hz) hlt
   ·intro z hz
    rcases List.mem_cons.1 hz with e | hz
    ·rw [e]; exact hx
    ·exact h2 z hz
   ·intro z hz
    rcases List.mem_cons.1 hz with e | hz
    ·rw [e]; unfold LeN; rw [ord_self]; decide
    ·exact hle z hz
   ·simp only [wsum]
    congr 1
    omega
theorem pushAll_spec : ∀ (s ro : List S44), s.Pairwise LeN → (∀ x ∈ s, InR x.f1) → Falls ro → (∀ y ∈ ro, ∀ x ∈ s, LeN y x) →
  Falls (s.foldl pushN ro) ∧ ∀ k, wrap64 (wsum (s.foldl pushN ro) k) = wrap64 (wsum ro k + wsum s k)
 | [], ro, _, _, h, _ => ⟨h, fun k => by simp [wsum]⟩
 | x :: s, ro, hs, hr, h, hle => by
  rw [List.pairwise_cons] at hs
  obtain ⟨h1, h2, h3⟩ := push_spec h (hr x (by simp)) (fun y hy => hle y hy x (by simp))
  have hle2 : ∀ y ∈ pushN ro x, ∀ z ∈ s, LeN y z := by
   intro y hy z hz e
   have hyx := h2 y hy
   have hxz := hs.1 z hz
   unfold LeN at hyx hxz
   have h5 : (ordR y.f0 x.f0).isLE := by cases hq : ordR y.f0 x.f0 <;> simp_all
   have h6 : (ordR x.f0 z.f0).isLE := by cases hq : ordR x.f0 z.f0 <;> simp_all
   have := TransCmp.isLE_trans (cmp := ordR) h5 h6
   rw [e] at this
   cases this
  obtain ⟨h4, h5⟩ := pushAll_spec s (pushN ro x) hs.2 (fun z hz => hr z (by simp [hz])) h1 hle2
  refine ⟨h4, fun k => ?_⟩
  rw [List.foldl_cons, h5, wrap_congr (h3 k) rfl, Int.add_assoc]
  congr 2
  simp only [wsum]
  omega
def settle (s : List S44) : List S44 := ((s.foldl pushN []).reverse).filter nzN
theorem settle_spec {s : List S44} (hs : s.Pairwise LeN) (hr : ∀ x ∈ s, InR x.f1) : Canon (settle s) ∧ ∀ k, wrap64 (wsum (settle s) k) = wrap64 (wsum s k) := by
 obtain ⟨h1, h2⟩ := pushAll_spec s [] hs hr ⟨.nil, by simp⟩ (by simp)
 refine ⟨⟨⟨?_, ?_⟩, ?_⟩, fun k => ?_⟩
 ·exact List.Pairwise.filter _ (List.pairwise_reverse.2 h1.1)
 ·intro x hx
  exact h1.2 x (by have := (List.mem_filter.1 hx).1; simpa using this)
 ·intro x hx
  have := (List.mem_filter.1 hx).2
  simpa [nzN] using this
 ·unfold settle
  rw [wsum_filter, wsum_reverse, h2]
  simp [wsum]
def insN (x : S44) : List S44 → List S44
 | [] => [x]
 | y :: l => if ordR x.f0 y.f0 = .gt then y :: insN x l else x :: y :: l
def isortN : List S44 → List S44
 | [] => []
 | x :: l => insN x (isortN l)
theorem insN_perm (x : S44) : ∀ l, (insN x l).Perm (x :: l)
 | [] => .refl _
 | y :: l => by
  simp only [insN]
  split
  ·exact ((insN_perm x l).cons y).trans (.swap ..)
  ·exact .refl _
theorem isortN_perm : ∀ l, (isortN l).Perm l
 | [] => .refl _
 | x :: l => (insN_perm x _).trans ((isortN_perm l).cons x)
theorem insN_sorted (x : S44) : ∀ l : List S44, l.Pairwise LeN → (insN x l).Pairwise LeN
 | [], _ => by simp [insN]
 | y :: l, h => by
  rw [List.pairwise_cons] at h
  simp only [insN]
  split
  ·rename_i ho
   rw [List.pairwise_cons]
   refine ⟨fun z hz => ?_, insN_sorted x l h.2⟩
   rcases List.mem_cons.1 ((insN_perm x l).mem_iff.1 hz) with e | hz
   ·rw [e]; unfold LeN; rw [ord_lt_of_gt ho]; decide
   ·exact h.1 z hz
  ·rename_i ho
   rw [List.pairwise_cons]
   refine ⟨fun z hz => ?_, List.pairwise_cons.2 h⟩
   rcases List.mem_cons.1 hz with e | hz
   ·rw [e]; exact ho
   ·intro e
    have h2 := h.1 z hz
    unfold LeN at h2
    have h5 : (ordR x.f0 y.f0).isLE := by cases hq : ordR x.f0 y.f0 <;> simp_all
    have h6 : (ordR y.f0 z.f0).isLE := by cases hq : ordR y.f0 z.f0 <;> simp_all
    have := TransCmp.isLE_trans (cmp := ordR) h5 h6
    rw [e] at this
    cases this
theorem isortN_sorted : ∀ l : List S44, (isortN l).Pairwise LeN
 | [] => .nil
 | x :: l => insN_sorted x _ (isortN_sorted l)
def normL (l : List S44) : List S44 := settle (isortN l)
theorem normL_spec {l : List S44} (hr : ∀ x ∈ l, InR x.f1) : Canon (normL l) ∧ ∀ k, wrap64 (wsum (normL l) k) = wrap64 (wsum l k) := by
 obtain ⟨h1, h2⟩ := settle_spec (isortN_sorted l) (fun x hx => hr x ((isortN_perm l).mem_iff.1 hx))
 exact ⟨h1, fun k => by rw [normL, h2, wsum_perm (isortN_perm l)]⟩
theorem settle_eq {s l : List S44} (hs : s.Pairwise LeN) (hp : s.Perm l) (hr : ∀ x ∈ l, InR x.f1) : settle s = normL l := by
 obtain ⟨h1, h2⟩ := settle_spec hs (fun x hx => hr x (hp.mem_iff.1 hx))
 obtain ⟨h3, h4⟩ := normL_spec hr
 exact canon_unique _ _ h1 h3 fun k => by rw [h2, h4, wsum_perm hp]
end Go.Proofs.Ytgapgdnbgimdlaa.PA
end
section
set_option linter.unusedVariables false
set_option linter.unusedSimpArgs false
namespace Go.Proofs.Ytgapgdnbgimdlaa.PO
open Go.RowKit Go.Proofs.Ytgapgdnbgimdlaa.Ov Go.Proofs.YtgapgdnbgimdlaaW.PrintWords Go.Proofs.YtgapgdnbgimdlaaW.PrintLast Go.Proofs.YtgapgdnbgimdlaaW.PrintMore
open Go.Proofs.Ytgapgdnbgimdlaa.PA (S23 ordR oi oi_lt oi_eq cmpRow_at InR normL settle settle_eq LeN pushN nzN)
open Std
def smax : Nat := 20
theorem rd_L3_at {l : List (List S44)} {j : Nat} (h : j < l.length) : rd_L3 l (j : Int) = l[j] := by simp [rd_L3, h]
section
variable [Ω : Env]
theorem sort_ev (l : List S44) (hv : ∀ y ∈ l, Val y) (hl : l.length ≤ smax) : ∃ s, s.Perm l ∧ s.Pairwise Le ∧ Ev (fun k => api_Weighted_39.f k l) s := by
 unfold smax at hl
 obtain ⟨s, hp, hs, he⟩ := insertion_ev [] l [] hv (by simp; omega)
 simp only [List.nil_append, List.append_nil, List.length_nil, Nat.zero_add] at he
 have hsl : s.length = l.length := hp.length_eq
 refine ⟨s, hp, hs, Ev.congr (f := fun k => (api_Weighted_56.f k l (l.length : Int)).bind fun t => some t) (fun k => rfl) (Ev.bind ?_ (Ev.now _))⟩
 have hl1 : Ev (fun k => api_Weighted_56.l1 k s (l.length : Int) 20) s := by
  refine Ev.step (f := fun _ => some s) (fun k => ?_) (Ev.now _)
  simp only [api_Weighted_56.l1]
  rw [if_neg (by omega)]
 by_cases h20 : l.length = 20
 ·obtain ⟨s2, hp2, hs2, he2⟩ := insertion_ev s [] [] (by simp) (by simp; omega)
  have hs2n : s2 = [] := hp2.eq_nil
  subst hs2n
  simp only [List.append_nil, List.length_nil, Nat.add_zero] at he2
  refine Ev.step (g := fun k => api_Weighted_56.l0 k l (l.length : Int) 20 0 20) (f := fun k => (api_Weighted_69.f k l 0 20).bind fun t => api_Weighted_56.l0 k t (l.length : Int) 20 20 (wrap64 (20 + 20))) (fun k => ?_) ?_
  ·simp only [api_Weighted_56.l0]
   rw [if_pos (by omega)]
  ·refine Ev.bind (a := s) (by rw [h20] at he; exact he) ?_
   refine Ev.step (f := fun k => (api_Weighted_69.f k s 20 (l.length : Int)).bind fun t => api_Weighted_56.l1 k t (l.length : Int) 20) (fun k => ?_) ?_
   ·simp only [api_Weighted_56.l0]
    rw [if_neg (by rw [wrap_small] <;> omega)]
   ·refine Ev.bind (a := s) ?_ hl1
    rw [hsl, h20] at he2
    rw [h20]
    exact he2
 ·refine Ev.step (g := fun k => api_Weighted_56.l0 k l (l.length : Int) 20 0 20) (f := fun k => (api_Weighted_69.f k l 0 (l.length : Int)).bind fun t => api_Weighted_56.l1 k t (l.length : Int) 20) (fun k => ?_) (Ev.bind he hl1)
  simp only [api_Weighted_56.l0]
  rw [if_neg (by omega)]
end
theorem flat_drop {L : List (List S44)} {i : Nat} (h : i < L.length) : (L.drop i).flatten = L[i] ++ (L.drop (i + 1)).flatten := by
 rw [List.drop_eq_getElem_cons h]
 rfl
theorem flat_split {L : List (List S44)} {i : Nat} (h : i < L.length) : L.flatten.length = (L.take i).flatten.length + (L[i].length + (L.drop (i + 1)).flatten.length) := by
 conv => lhs; rw [← List.take_append_drop i L, List.flatten_append, flat_drop h]
 simp
theorem flat_take {L : List (List S44)} {i : Nat} (h : i < L.length) : (L.take (i + 1)).flatten = (L.take i).flatten ++ L[i] := by
 rw [List.take_succ_eq_append_getElem h, List.flatten_append]
 simp
section
variable [Ω : Env]
theorem concat1_ev (L : List (List S44)) (hL : L.length + 1 ≤ 4611686018427387904) (hl : L.flatten.length + 1 ≤ 4398046511104) (d : Nat) : ∀ i, L.length - i = d → i ≤ L.length →
  Ev (fun k => api_Weighted_22.l1 k (L.take i).flatten L (L.length : Int) (i : Int)) L.flatten := by
 induction d with
 | zero =>
  intro i hd hi
  refine Ev.step (f := fun _ => some L.flatten) (fun k => ?_) (Ev.now _)
  simp only [api_Weighted_22.l1]
  rw [if_neg (by omega), List.take_of_length_le (by omega)]
 | succ d ih =>
  intro i hd hi
  have hlt : i < L.length := by omega
  have hs := flat_split hlt
  have hw : wrap64 ((i : Int) + 1) = ((i + 1 : Nat) : Int) := by rw [wrap_small] <;> omega
  refine Ev.step (fun k => ?_) (ih (i + 1) (by omega) (by omega))
  simp only [api_Weighted_22.l1]
  rw [if_pos (by omega), if_pos (by omega), if_pos (by omega), rd_L3_at hlt, if_pos (by omega), hw, flat_take hlt]
theorem concat0_ev (L : List (List S44)) (hL : L.length + 1 ≤ 4611686018427387904) (hl : L.flatten.length + 1 ≤ 4398046511104) (d : Nat) : ∀ i, L.length - i = d → i ≤ L.length →
  Ev (fun k => api_Weighted_22.l0 k L ((L.take i).flatten.length : Int) L (L.length : Int) (i : Int)) L.flatten := by
 induction d with
 | zero =>
  intro i hd hi
  refine Ev.step (f := fun k => (growo.f (L.flatten.length : Int)).bind fun t => api_Weighted_22.l1 k t L (L.length : Int) 0) (fun k => ?_) ?_
  ·simp only [api_Weighted_22.l0]
   rw [if_neg (by omega), List.take_of_length_le (by omega)]
  ·refine Ev.bind (g := fun _ => growo.f (L.flatten.length : Int)) (a := []) ?_ ?_
   ·have : growo.f (L.flatten.length : Int) = some [] := by
     unfold growo.f
     rw [if_pos (by constructor <;> omega)]
    rw [this]
    exact Ev.now _
   ·have := concat1_ev L hL hl L.length 0 (by omega) (by omega)
    simpa using this
 | succ d ih =>
  intro i hd hi
  have hlt : i < L.length := by omega
  have hs := flat_split hlt
  have hw : wrap64 ((i : Int) + 1) = ((i + 1 : Nat) : Int) := by rw [wrap_small] <;> omega
  have hw2 : wrap64 (((L.take i).flatten.length : Int) + (L[i].length : Int)) = ((L.take (i + 1)).flatten.length : Int) := by
   rw [flat_take hlt, List.length_append, wrap_small] <;> omega
  refine Ev.step (fun k => ?_) (ih (i + 1) (by omega) (by omega))
  simp only [api_Weighted_22.l0]
  rw [if_pos (by omega), if_pos (by omega), if_pos (by omega), rd_L3_at hlt, hw2, if_neg (by omega), hw]
theorem concat_ev (L : List (List S44)) (hL : L.length + 1 ≤ 4611686018427387904) (hl : L.flatten.length + 1 ≤ 4398046511104) : Ev (fun k => api_Weighted_22.f k L) L.flatten := by
 have := concat0_ev L hL hl L.length 0 (by omega) (by omega)
 simpa [api_Weighted_22.f] using this
def pi (x : S44) : PA.S44 := ⟨key x, x.f1⟩
theorem push_pi (ro : List S44) (x : S44) : (pushR ro x).map pi = pushN (ro.map pi) (pi x) := by
 cases ro with
 | nil => rfl
 | cons y ys =>
  simp only [pushR, pushN, List.map_cons]
  show List.map pi (if ordR (key y) (key x) = .eq then _ else _) = if ordR (key y) (key x) = .eq then _ else _
  split <;> rfl
theorem pushAll_pi : ∀ (s ro : List S44), (s.foldl pushR ro).map pi = (s.map pi).foldl pushN (ro.map pi)
 | [], ro => rfl
 | x :: s, ro => by rw [List.foldl_cons, pushAll_pi, push_pi]; rfl
theorem filter_pi (l : List S44) : (l.filter nz).map pi = (l.map pi).filter nzN := by
 rw [List.filter_map]
 rfl
theorem push_mem (ro : List S44) (x : S44) : ∀ y ∈ pushR ro x, y.f0 = x.f0 ∨ ∃ z ∈ ro, y.f0 = z.f0 := by
 intro y hy
 cases ro with
 | nil => simp [pushR] at hy; subst hy; exact .inl rfl
 | cons z zs =>
  simp only [pushR] at hy
  split at hy
  ·rcases List.mem_cons.1 hy with e | hy
   ·exact .inr ⟨z, by simp, by rw [e]⟩
   ·exact .inr ⟨y, by simp [hy], rfl⟩
  ·rcases List.mem_cons.1 hy with e | hy
   ·exact .inl (by rw [e])
   ·exact .inr ⟨y, hy, rfl⟩
theorem pushAll_mem : ∀ (s ro : List S44), ∀ y ∈ s.foldl pushR ro, (∃ z ∈ s, y.f0 = z.f0) ∨ ∃ z ∈ ro, y.f0 = z.f0
 | [], ro, y, hy => .inr ⟨y, hy, rfl⟩
 | x :: s, ro, y, hy => by
  rcases pushAll_mem s (pushR ro x) y hy with ⟨z, hz, e⟩ | ⟨z, hz, e⟩
  ·exact .inl ⟨z, by simp [hz], e⟩
  ·rcases push_mem ro x z hz with h | ⟨q, hq, h⟩
   ·exact .inl ⟨x, by simp, e.trans h⟩
   ·exact .inr ⟨q, hq, e.trans h⟩
theorem sumf_ev (L : List (List S44)) (hv : ∀ x ∈ L.flatten, Val x) (hr : ∀ x ∈ L.flatten, InR x.f1) (hL : L.length + 1 ≤ 4611686018427387904) (hl : L.flatten.length ≤ smax) :
  ∃ ro, Ev (fun k => zset_sum.f k L) ro ∧ ro.map pi = normL (L.flatten.map pi) ∧ ∀ y ∈ ro, ∃ z ∈ L.flatten, y.f0 = z.f0 := by
 have hsm : smax ≤ 1000000 := by decide
 obtain ⟨s, hp, hs, he⟩ := sort_ev L.flatten hv hl
 have hsl := hp.length_eq
 refine ⟨((s.foldl pushR []).reverse).filter nz, ?_, ?_, ?_⟩
 ·refine Ev.congr (f := fun k => (api_Weighted_22.f k L).bind fun t => (api_Weighted_39.f k t).bind fun u => zset_sum.l0 k [] u (t.length : Int) 0) (fun k => rfl) ?_
  refine Ev.bind (concat_ev L hL (by omega)) (Ev.bind he ?_)
  have := sum_ev s (fun y hy => hv y (hp.mem_iff.1 hy)) (by omega) s.length [] 0 (by omega) (by omega) (by simp) (by simp)
  rw [← hsl]
  simpa using this
 ·rw [filter_pi, List.map_reverse, pushAll_pi]
  show PA.settle (s.map pi) = _
  refine settle_eq ?_ (hp.map pi) (fun x hx => ?_)
  ·rw [List.pairwise_map]
   exact hs
  ·obtain ⟨y, hy, rfl⟩ := List.mem_map.1 hx
   exact hr y hy
 ·intro y hy
  have h1 := (List.mem_filter.1 hy).1
  rw [List.mem_reverse] at h1
  rcases pushAll_mem s [] y h1 with ⟨z, hz, e⟩ | ⟨z, hz, _⟩
  ·exact ⟨z, hp.mem_iff.1 hz, e⟩
  ·simp at hz
end
end Go.Proofs.Ytgapgdnbgimdlaa.PO
end
section
set_option linter.unusedVariables false
set_option linter.unusedSimpArgs false
namespace Go.Proofs.Ytgapgdnbgimdlaa.PA
open Go.RowKit Go.Proofs.YtgapgdnbgimdlaaW.PrintWords Go.Proofs.YtgapgdnbgimdlaaW.PrintLast Go.Proofs.YtgapgdnbgimdlaaW.PrintMore
open Go.Proofs.Ytgapgdnbgimdlaa.Ov
theorem reads_choose {α β : Type} {R : α → List Value → Prop} {R' : β → List Value → Prop} {rel : α → β → Prop} {size : Nat} {w : World} {A : Option Addr} {n : Nat} {ps : List α} (h : ReadsRow R size w A n ps)
  (hc : ∀ p c, R p c → ∃ q, R' q c ∧ rel p q) : ∃ qs : List β, ReadsRow R' size w A n qs ∧ ∀ (j : Nat) p q, ps[j]? = some p → qs[j]? = some q → rel p q := by
 obtain ⟨hl, hm, hr⟩ := h
 by_cases hn : 0 < n
 ·obtain ⟨ad, rfl, hj⟩ := hr hn
  have hq : ∀ j : Fin n, ∃ q, rel (ps[j.1]'(by rw [hl]; exact j.2)) q ∧ ∃ c, c.length = size ∧ R' q c ∧ ∀ i u, c[i]? = some u → w.cell? (ad.add (j.1 * size + i)) = some u := by
   intro j
   obtain ⟨c, h1, h2, h3⟩ := hj j.1 _ (List.getElem?_eq_getElem (by rw [hl]; exact j.2))
   obtain ⟨q, h4, h5⟩ := hc _ _ h2
   exact ⟨q, h5, c, h1, h4, h3⟩
  refine ⟨List.ofFn fun j => Classical.choose (hq j), ⟨by simp, hm, fun _ => ⟨ad, rfl, fun j p hp => ?_⟩⟩, fun j p q hp hq' => ?_⟩
  ·rw [List.getElem?_ofFn] at hp
   split at hp
   ·rename_i hjn
    cases hp
    exact (Classical.choose_spec (hq ⟨j, hjn⟩)).2
   ·cases hp
  ·rw [List.getElem?_ofFn] at hq'
   split at hq'
   ·rename_i hjn
    cases hq'
    have h1 := (Classical.choose_spec (hq ⟨j, hjn⟩)).1
    obtain ⟨hjl, rfl⟩ := List.getElem?_eq_some_iff.1 hp
    exact h1
   ·cases hq'
 ·have hn0 : n = 0 := by omega
  subst hn0
  refine ⟨[], ⟨rfl, hm, fun h => absurd h hn⟩, fun j p q _ h => by simp at h⟩
theorem reads_one {w : World} {x : OV} {l l' : List S23} (h : x.reads w l) (h' : x.reads w l') : l = l' := by
 obtain ⟨h1, _, h2⟩ := h
 obtain ⟨k1, _, k2⟩ := h'
 apply List.ext_getElem (by omega)
 intro j hj hj'
 obtain ⟨ad, c, e, hcl, hK, hcc⟩ := Kd.C_get h2 z23 (j : Int) (by omega) (by omega)
 obtain ⟨ad', c', e', hcl', hK', hcc'⟩ := Kd.C_get k2 z23 (j : Int) (by omega) (by omega)
 rw [e] at e'
 injection e' with e'
 subst e'
 obtain rfl := k23_open hK
 obtain rfl := k23_open hK'
 simp only [Int.toNat_natCast] at hcc hcc'
 have a0 := (hcc 0 _ rfl).symm.trans (hcc' 0 _ rfl)
 have a1 := (hcc 1 _ rfl).symm.trans (hcc' 1 _ rfl)
 have a2 := (hcc 2 _ rfl).symm.trans (hcc' 2 _ rfl)
 injection a0 with a0; injection a0 with _ a0
 injection a1 with a1; injection a1 with _ a1
 injection a2 with a2; injection a2 with a2
 have g : l.getD j z23 = l[j] := by simp [hj]
 have g' : l'.getD j z23 = l'[j] := by simp [hj']
 rw [g] at a0 a1 a2
 rw [g'] at a0 a1 a2
 generalize l[j] = x at *
 generalize l'[j] = y at *
 cases x; cases y
 simp_all
open Classical in
@[reducible] noncomputable def envAt (w : World) : Env where
 W := w
 den := fun x => if h : ∃ l, x.reads w l then Classical.choose h else []
 ok := fun x => decide (∃ l, x.reads w l)
 okay := fun x hx => by
  have h := of_decide_eq_true hx
  rw [dif_pos h]
  exact Classical.choose_spec h
open Classical in
theorem den_at {w : World} {x : OV} {l : List S23} (h : x.reads w l) : (envAt w).den x = l := by
 have hx : ∃ l, x.reads w l := ⟨l, h⟩
 show (if h : ∃ l, x.reads w l then Classical.choose h else []) = l
 rw [dif_pos hx]
 exact reads_one (Classical.choose_spec hx) h
open Classical in
theorem ok_at {w : World} {x : OV} {l : List S23} (h : x.reads w l) : (envAt w).ok x = true := decide_eq_true ⟨l, h⟩
def Same1 (w : World) (P : Nat → Prop) (x : S44) (y : PO.S44) : Prop := y.f1 = x.f1 ∧ y.f0.n = x.f0.length ∧ x.f0.length ≤ y.f0.c ∧ Kd.F k23 w P y.f0.A x.f0.length x.f0
theorem Same1.reads {w : World} {P : Nat → Prop} {x : S44} {y : PO.S44} (h : Same1 w P x y) : y.f0.reads w x.f0 := ⟨h.2.1.symm, by rw [h.2.1]; exact h.2.2.1, by rw [h.2.1]; exact Kd.F_now h.2.2.2⟩
def Same2 (w : World) (P : Nat → Prop) (xs : List S44) (ys : List PO.S44) : Prop := xs.length = ys.length ∧ ∀ (j : Nat) x y, xs[j]? = some x → ys[j]? = some y → Same1 w P x y
theorem opaque1 {w : World} {P : Nat → Prop} {A : Option Addr} {n : Nat} {xs : List S44} (h : Kd.F k44 w P A n xs) : ∃ ys, Kd.C PO.k44 w A n ys ∧ Same2 w P xs ys := by
 have h1 := Kd.F_rows h
 obtain ⟨ys, hy, hs⟩ := reads_choose (R' := fun y c => PO.k44.K w y c) (rel := Same1 w P) h1 (fun x c hc => by
  obtain ⟨A0, c0, rfl, hl, hf⟩ := k44_openF hc
  exact ⟨⟨⟨A0, x.f0.length, c0⟩, x.f1⟩, PO.k44_mk w _, rfl, rfl, hl, hf⟩)
 exact ⟨ys, hy, by rw [h1.1, hy.1], hs⟩
theorem opaque2 {w : World} {P : Nat → Prop} {A : Option Addr} {n : Nat} {l : List (List S44)} (h : Kd.F (Kd.slice 44 k44) w P A n l) : ∃ L, Kd.C (Kd.slice 44 PO.k44) w A n L ∧ l.length = L.length ∧ ∀ (j : Nat) x y, l[j]? = some x → L[j]? = some y → Same2 w P x y := by
 have h1 := Kd.F_rows h
 obtain ⟨L, hy, hs⟩ := reads_choose (R' := fun y c => (Kd.slice 44 PO.k44).K w y c) (rel := Same2 w P) h1 (fun x c hc => by
  obtain ⟨A0, c0, rfl, hl, hf⟩ := Kd.FK_slice_open hc
  obtain ⟨ys, hy, hs⟩ := opaque1 hf
  exact ⟨ys, ⟨A0, c0, by rw [hs.1], by rw [← hs.1]; exact hl, by rw [← hs.1]; exact hy⟩, hs⟩)
 exact ⟨L, hy, by rw [h1.1, hy.1], hs⟩
theorem flat_same {w : World} {P : Nat → Prop} : ∀ (l : List (List S44)) (L : List (List PO.S44)), l.length = L.length → (∀ (j : Nat) x y, l[j]? = some x → L[j]? = some y → Same2 w P x y) → Same2 w P l.flatten L.flatten
 | [], [], _, _ => ⟨rfl, fun j x y h => by simp at h⟩
 | a :: l, b :: L, hl, h => by
  have h0 := h 0 a b rfl rfl
  have ih := flat_same l L (by simpa using hl) (fun j x y hx hy => h (j + 1) x y (by simpa using hx) (by simpa using hy))
  refine ⟨by simp [h0.1, ih.1], fun j x y hx hy => ?_⟩
  simp only [List.flatten_cons] at hx hy
  by_cases hj : j < a.length
  ·rw [List.getElem?_append_left hj] at hx
   rw [List.getElem?_append_left (by rw [← h0.1]; exact hj)] at hy
   exact h0.2 j x y hx hy
  ·rw [List.getElem?_append_right (by omega)] at hx
   rw [List.getElem?_append_right (by rw [← h0.1]; omega), ← h0.1] at hy
   exact ih.2 _ x y hx hy
theorem pi_same {w : World} {P : Nat → Prop} {x : S44} {y : PO.S44} (h : Same1 w P x y) : @PO.pi (envAt w) y = x := by
 have := den_at h.reads
 show (⟨(envAt w).den y.f0, y.f1⟩ : S44) = x
 rw [this, h.1]
theorem pi_all {w : World} {P : Nat → Prop} {xs : List S44} {ys : List PO.S44} (h : Same2 w P xs ys) : ys.map (@PO.pi (envAt w)) = xs := by
 apply List.ext_getElem (by simp [h.1])
 intro j hj hj'
 rw [List.getElem_map]
 exact pi_same (h.2 j _ _ (List.getElem?_eq_getElem hj') (List.getElem?_eq_getElem (by simpa using hj)))
theorem mem_same {w : World} {P : Nat → Prop} {xs : List S44} {ys : List PO.S44} (h : Same2 w P xs ys) {y : PO.S44} (hy : y ∈ ys) : ∃ x ∈ xs, Same1 w P x y := by
 obtain ⟨j, hj, rfl⟩ := List.mem_iff_getElem.1 hy
 have hj' : j < xs.length := by rw [h.1]; exact hj
 exact ⟨xs[j], List.getElem_mem hj', h.2 j _ _ (List.getElem?_eq_getElem hj') (List.getElem?_eq_getElem hj)⟩
def zset_sumN.f (l0 : List (List S44)) : Option (List S44) := if l0.length + 1 ≤ 4611686018427387904 ∧ l0.flatten.length ≤ PO.smax ∧ ∀ x ∈ l0.flatten, InR x.f1 then some (normL l0.flatten) else none
theorem zset_sumN.calls (P0_ : Nat → Prop) (A0 : Option Addr) (c0 : Nat) (l0 : List (List S44)) (r : List S44) (w : World) (hs0 : Kd.V (Kd.slice 44 k44) 31 w w.heap.size (fun k_ => P0_ k_) (.slice A0 l0.length c0) l0) (h : zset_sumN.f l0 = some r) :
  Calls Try.prog 28 #[.slice A0 l0.length c0] w fun e w' => ∃ v0_ : Value, e = .returned (v0_) ∧ Kd.N k44 44 w' w.heap.size (fun k_ => (P0_ k_ ∨ w.heap.size ≤ k_)) v0_ r ∧ Below w.heap.size w w' := by
 unfold zset_sumN.f at h
 split at h
 ·rename_i hc
  obtain ⟨hL, hfl, hir⟩ := hc
  obtain rfl := Option.some.inj h
  have hF := Kd.V_F hs0
  have hcap := (Kd.V_reads' hs0).2.1
  obtain ⟨L, hLC, hLl, hLs⟩ := opaque2 hF
  have hfs := flat_same l0 L hLl hLs
  letI Ω : Env := envAt w
  have hv : ∀ x ∈ L.flatten, PO.Val x := fun y hy => by
   obtain ⟨x, _, hxy⟩ := mem_same hfs hy
   exact ok_at hxy.reads
  have hr : ∀ x ∈ L.flatten, InR x.f1 := fun y hy => by
   obtain ⟨x, hx, hxy⟩ := mem_same hfs hy
   rw [hxy.1]
   exact hir x hx
  obtain ⟨ro, hev, hmap, hmem⟩ := PO.sumf_ev L hv hr (by rw [← hLl]; exact hL) (by rw [← hfs.1]; exact hfl)
  obtain ⟨k, hk⟩ := Ev.rounds hev
  have hcall := PO.zset_sum.calls k A0 c0 L ro (by rw [← hLl]; exact hLC) (by rw [← hLl]; exact hcap) hk
  rw [← hLl] at hcall
  refine hcall.mono fun e w' hq => ?_
  obtain ⟨v0, rfl, hR, hB⟩ := hq
  refine ⟨v0, rfl, ?_, hB⟩
  obtain ⟨_, rows, hrl, hraw, hFK⟩ := Kd.R_N hR
  rw [pi_all hfs] at hmap
  have hrr : (normL l0.flatten).length = ro.length := by rw [← hmap]; simp
  refine ⟨fun k hk => .inr (Kd.R_base hR k hk), rows, by rw [hrr]; exact hrl, hraw, fun j x c hx hcj => ?_⟩
  rw [← hmap, List.getElem?_map] at hx
  obtain ⟨y, hy, rfl⟩ := Option.map_eq_some_iff.1 hx
  have hK := hFK j y c hy hcj
  obtain rfl := PO.k44_open (Kd.FK_now hK)
  obtain ⟨z, hz, hyz⟩ := hmem y (List.mem_of_getElem? hy)
  obtain ⟨x, hx, hxz⟩ := mem_same hfs hz
  have hd : (envAt w).den y.f0 = x.f0 := by rw [hyz]; exact den_at hxz.reads
  have hn : y.f0.n = x.f0.length := by rw [hyz]; exact hxz.2.1
  have hF2 : Kd.F k23 w' (fun k => (P0_ k ∨ w.heap.size ≤ k) ∧ some k ≠ v0.ownBlock) y.f0.A x.f0.length x.f0 := by
   have h1 := Kd.F_below (Kd.F_bound hxz.2.2.2) hB
   rw [← hyz] at h1
   exact Kd.F_mono h1 fun k hk => ⟨.inl hk.1, fun e => by have := Kd.R_base hR k e.symm; have h2 := hk.2; exact absurd h2 (Nat.not_lt.2 this)⟩
  have := k44_mkF w' (fun k => (P0_ k ∨ w.heap.size ≤ k) ∧ some k ≠ v0.ownBlock) (⟨x.f0, y.f1⟩ : S44) (A0 := y.f0.A) (c0 := y.f0.c) (by rw [← hn, hyz, hxz.2.1]; exact hxz.2.2.1) hF2
  have e1 : PO.pi y = (⟨x.f0, y.f1⟩ : S44) := by show (⟨(envAt w).den y.f0, y.f1⟩ : S44) = _; rw [hd]
  rw [e1, hn]
  exact this
 ·cases h
end Go.Proofs.Ytgapgdnbgimdlaa.PA
end
section
namespace Go.Proofs.Ytgapgdnbgimdlaa.PA
open Go.RowKit Go.Proofs.YtgapgdnbgimdlaaW.PrintWords Go.Proofs.YtgapgdnbgimdlaaW.PrintLast Go.Proofs.YtgapgdnbgimdlaaW.PrintMore
def grown.f (a1 : Int) : Option (List S44) := if 0 ≤ a1 ∧ a1.toNat * 32 ≤ 140737488355328 then some [] else none
theorem grown.calls (a1 : Int) (r : List S44) (w : World) (h : grown.f a1 = some r) :
  Calls Try.prog 32 #[.slice none 0 0, .int .i64 a1] w fun e w' => ∃ v0_ : Value, e = .returned (v0_) ∧ Kd.N k44 44 w' w.heap.size (fun k_ => w.heap.size ≤ k_) v0_ r ∧ Below w.heap.size w w' := by
 unfold grown.f at h
 split at h
 ·rename_i hc
  obtain rfl := Option.some.inj h
  refine (Ov.growo.calls a1 [] w (by unfold Ov.growo.f; rw [if_pos hc])).mono ?_
  rintro e w' ⟨v, rfl, hR, hb⟩
  refine ⟨v, rfl, ?_, hb⟩
  have hN := Kd.R_N (Kd.R_mono (ok' := fun _ => True) hR (fun _ _ => trivial))
  have hB := Kd.N_base hN
  obtain ⟨h0, rows, hl, hr, hf⟩ := hN
  exact ⟨hB, rows, hl, hr, fun j x c hx hc => by simp at hx⟩
 ·cases h
end Go.Proofs.Ytgapgdnbgimdlaa.PA
end
section
namespace Go.Proofs.Ytgapgdnbgimdlaa.PA
open Go.RowKit Go.Proofs.YtgapgdnbgimdlaaW.PrintWords Go.Proofs.YtgapgdnbgimdlaaW.PrintLast Go.Proofs.YtgapgdnbgimdlaaW.PrintMore
attribute [local go_sem] max2_int min2_int max_two min_two max_three min_three max_four min_four
set_option linter.unusedVariables false
set_option linter.unusedSimpArgs false
def eval_Holds.f (a0 : Int) (a1_0 : Int) (a1_1 : Int) (a1_2 : ByteArray) (a2_0 : Int) (a2_1 : Int) (a2_2 : ByteArray) : Option (Bool) := (value_Cmp.f a1_0 a1_1 a1_2 a2_0 a2_1 a2_2).bind fun t126 => (if a0 = 1 then (some (t126 == 0)) else (if a0 = 2 then (some (t126 != 0)) else (if a0 = 3 then (some (decide (t126 < 0))) else (if a0 = 4 then (some (decide (t126 ≤ 0))) else (if a0 = 5 then (some (decide (t126 > 0))) else (if a0 = 6 then (some (decide (t126 ≥ 0))) else (some false)))))))
set_option maxHeartbeats 8000000 in
set_option maxRecDepth 100000 in
theorem eval_Holds.calls (a0 : Int) (a1_0 : Int) (a1_1 : Int) (a1_2 : ByteArray) (a2_0 : Int) (a2_1 : Int) (a2_2 : ByteArray) (r : Bool) (w : World) (h : eval_Holds.f a0 a1_0 a1_1 a1_2 a2_0 a2_1 a2_2 = some r) :
  Calls Try.prog 9 #[.int .i64 a0, .agg #[.int .i64 a1_0, .int .i64 a1_1, .string a1_2], .agg #[.int .i64 a2_0, .int .i64 a2_1, .string a2_2]] w fun e w' => e = .returned (.bool r) ∧ Below w.heap.size w w' := by
 have hu23 := Try.underlying23
 have HB := Aside0.mk (Below.refl w.heap.size w)
 have H : ((value_Cmp.f a1_0 a1_1 a1_2 a2_0 a2_1 a2_2).bind fun t126 => (if a0 = 1 then (some (t126 == 0)) else (if a0 = 2 then (some (t126 != 0)) else (if a0 = 3 then (some (decide (t126 < 0))) else (if a0 = 4 then (some (decide (t126 ≤ 0))) else (if a0 = 5 then (some (decide (t126 > 0))) else (if a0 = 6 then (some (decide (t126 ≥ 0))) else (some false)))))))) = some r := h
 clear h
 replace H := Option.bind_eq_some_iff.mp H
 obtain ⟨t126, A40, H⟩ := H
 replace H : (if a0 = 1 then (some (t126 == 0)) else (if a0 = 2 then (some (t126 != 0)) else (if a0 = 3 then (some (decide (t126 < 0))) else (if a0 = 4 then (some (decide (t126 ≤ 0))) else (if a0 = 5 then (some (decide (t126 > 0))) else (if a0 = 6 then (some (decide (t126 ≥ 0))) else (some false))))))) = some r := H
 have A4 := Aside0.mk A40
 clear A40
 by_cases c5 : a0 = 1
 ·rw [if_pos c5] at H
  have c5b0 : (a0 == 1) = true := beq_iff_eq.mpr c5
  have c5b1 : (a0 != 1) = false := bne_eq_false_iff_eq.mpr c5
  clear c5
  obtain rfl := Option.some.inj H
  go_enter Try.func9, Try.ntmps9
  go_wp2_with (first | ((with_reducible refine gate_dst (N := 4) rfl ?_); refine box_event ?hg (N := 4) ?hd (cs := #[.int .i64 a1_0, .int .i64 a1_1, .string a1_2]) (t := 23) ?hr ?_; (case hd => rfl); (case hg => rfl); (case hr => first | (go_simp; done) | (go_simp; rfl)); intro gb124 hg w6 hbox hb; have n0_ := Aside0.mk (below_step qh_ hb); have n1_ := Aside0.mk (hbox); have n2_ := Aside0.mk ((by rw [hg]; exact (below_size qh_) : w.heap.size ≤ gb124)); have n3_ := Aside0.mk ((by rw [hg]; exact (below_size qh_) : w.heap.size ≤ gb124)); clear HB; have HB := n0_; have BK124 := n1_; have GW124 := n2_; have GE124 := n3_; clear n0_ n1_ n2_ n3_; clear hb hbox hg) | ((with_reducible refine gate_dst (N := 5) rfl ?_); refine box_event ?hg (N := 5) ?hd (cs := #[.int .i64 a2_0, .int .i64 a2_1, .string a2_2]) (t := 23) ?hr ?_; (case hd => rfl); (case hg => rfl); (case hr => first | (go_simp; done) | (go_simp; rfl)); intro gb125 hg w7 hbox hb; have n0_ := Aside0.mk (blk_below (g := gb124) (o := .cells #[.int .i64 a1_0, .int .i64 a1_1, .string a1_2] 23 (0, 0)) (qb_ BK124.out) hb); have n1_ := Aside0.mk (below_step (by repeat (first | (with_reducible first | exact HB.out | apply below_alloc | apply pw_below_drewN | apply below_drew1 | refine below_set ?_ GE124.out) | exact HB.out)) hb); have n2_ := Aside0.mk (hbox); have n3_ := Aside0.mk ((by rw [hg]; exact (below_size (by repeat (first | (with_reducible first | exact HB.out | apply below_alloc | apply pw_below_drewN | apply below_drew1 | refine below_set ?_ GE124.out) | exact HB.out))) : w.heap.size ≤ gb125)); have n4_ := Aside0.mk ((by rw [hg]; exact (below_size (by repeat (first | (with_reducible first | exact HB.out | apply below_alloc | apply pw_below_drewN | apply below_drew1 | refine below_set ?_ GE124.out) | exact HB.out))) : w.heap.size ≤ gb125)); have n5_ := Aside0.mk ((by rw [hg]; exact Nat.ne_of_lt (blk_lt (g := gb124) (o := .cells #[.int .i64 a1_0, .int .i64 a1_1, .string a1_2] 23 (0, 0)) (qb_ BK124.out)) : gb124 ≠ gb125)); have n6_ := Aside0.mk ((by rw [hg]; exact Nat.ne_of_gt (blk_lt (g := gb124) (o := .cells #[.int .i64 a1_0, .int .i64 a1_1, .string a1_2] 23 (0, 0)) (qb_ BK124.out)) : gb125 ≠ gb124)); clear BK124; clear HB; have BK124 := n0_; have HB := n1_; have BK125 := n2_; have GW125 := n3_; have GE125 := n4_; have NB124_125 := n5_; have NB125_124 := n6_; clear n0_ n1_ n2_ n3_ n4_ n5_ n6_; clear hb hbox hg; have hnb8 := NB124_125.out; have hnc8 := NB125_124.out; have hcz9_0 : w7.cell? ⟨gb124, 0, none⟩ = some (.int .i64 a1_0) := (blk_cell BK124.out 0).trans rfl; have hcz9_1 : w7.cell? ⟨gb124, 1, none⟩ = some (.int .i64 a1_1) := (blk_cell BK124.out 1).trans rfl; have hcz9_2 : w7.cell? ⟨gb124, 2, none⟩ = some (.string a1_2) := (blk_cell BK124.out 2).trans rfl; have hfz9_0 := blk_frozen BK124.out 0; have hfz9_1 := blk_frozen BK124.out 1; have hfz9_2 := blk_frozen BK124.out 2; have hcz10_0 : w7.cell? ⟨gb125, 0, none⟩ = some (.int .i64 a2_0) := (blk_cell BK125.out 0).trans rfl; have hcz10_1 : w7.cell? ⟨gb125, 1, none⟩ = some (.int .i64 a2_1) := (blk_cell BK125.out 1).trans rfl; have hcz10_2 : w7.cell? ⟨gb125, 2, none⟩ = some (.string a2_2) := (blk_cell BK125.out 2).trans rfl; have hfz10_0 := blk_frozen BK125.out 0; have hfz10_1 := blk_frozen BK125.out 1; have hfz10_2 := blk_frozen BK125.out 2) | ((with_reducible refine gate_callee (f := 18) rfl ?_); refine goesL_ (some 10) rfl rfl Try.func18 (by kernel_rfl) rfl #[.agg #[.int .i64 a1_0, .int .i64 a1_1, .string a1_2], .agg #[.int .i64 a2_0, .int .i64 a2_1, .string a2_2]] rfl (by (try simp only [List.map_toArray, List.map_cons, List.map_nil]); first | done | rfl | (simp only [List.length_drop, List.length_take]; rfl)) ?_; (with_reducible refine (value_Cmp.calls a1_0 a1_1 a1_2 a2_0 a2_1 a2_2 t126 _ A4.out).mono ?_); rintro e w11 ⟨rfl, hb⟩; refine ⟨_, rfl, ?_⟩; have n0_ := Aside0.mk (blk_below (g := gb124) (o := .cells #[.int .i64 a1_0, .int .i64 a1_1, .string a1_2] 23 (0, 0)) (qb_ BK124.out) hb); have n1_ := Aside0.mk (blk_below (g := gb125) (o := .cells #[.int .i64 a2_0, .int .i64 a2_1, .string a2_2] 23 (0, 0)) (qb_ BK125.out) hb); have n2_ := Aside0.mk (below_step (by repeat (first | (with_reducible first | exact HB.out | apply below_alloc | apply pw_below_drewN | apply below_drew1 | refine below_set ?_ GE124.out | refine below_set ?_ GE125.out) | exact HB.out)) hb); clear BK124; clear BK125; clear HB; have BK124 := n0_; have BK125 := n1_; have HB := n2_; clear n0_ n1_ n2_; (try clear hb); (try clear hb2); (try clear hk); (try clear hi)))
  go_ret
  exact ⟨by first | rfl | (simp [errW_none, errW_some] <;> rfl) | (simp [*, errW_none, errW_some] <;> rfl), by repeat (first | (with_reducible first | exact HB.out | apply below_alloc | apply pw_below_drewN | apply below_drew1 | refine below_set ?_ GE124.out | refine below_set ?_ GE125.out) | exact HB.out)⟩
 ·rw [if_neg c5] at H
  have c5b0 : (a0 == 1) = false := beq_eq_false_iff_ne.mpr c5
  have c5b1 : (a0 != 1) = true := bne_iff_ne.mpr c5
  by_cases c12 : a0 = 2
  ·rw [if_pos c12] at H
   have c12b0 : (a0 == 2) = true := beq_iff_eq.mpr c12
   have c12b1 : (a0 != 2) = false := bne_eq_false_iff_eq.mpr c12
   clear c12
   obtain rfl := Option.some.inj H
   go_enter Try.func9, Try.ntmps9
   go_wp2_with (first | ((with_reducible refine gate_dst (N := 4) rfl ?_); refine box_event ?hg (N := 4) ?hd (cs := #[.int .i64 a1_0, .int .i64 a1_1, .string a1_2]) (t := 23) ?hr ?_; (case hd => rfl); (case hg => rfl); (case hr => first | (go_simp; done) | (go_simp; rfl)); intro gb124 hg w13 hbox hb; have n0_ := Aside0.mk (below_step qh_ hb); have n1_ := Aside0.mk (hbox); have n2_ := Aside0.mk ((by rw [hg]; exact (below_size qh_) : w.heap.size ≤ gb124)); have n3_ := Aside0.mk ((by rw [hg]; exact (below_size qh_) : w.heap.size ≤ gb124)); clear HB; have HB := n0_; have BK124 := n1_; have GW124 := n2_; have GE124 := n3_; clear n0_ n1_ n2_ n3_; clear hb hbox hg) | ((with_reducible refine gate_dst (N := 5) rfl ?_); refine box_event ?hg (N := 5) ?hd (cs := #[.int .i64 a2_0, .int .i64 a2_1, .string a2_2]) (t := 23) ?hr ?_; (case hd => rfl); (case hg => rfl); (case hr => first | (go_simp; done) | (go_simp; rfl)); intro gb125 hg w14 hbox hb; have n0_ := Aside0.mk (blk_below (g := gb124) (o := .cells #[.int .i64 a1_0, .int .i64 a1_1, .string a1_2] 23 (0, 0)) (qb_ BK124.out) hb); have n1_ := Aside0.mk (below_step (by repeat (first | (with_reducible first | exact HB.out | apply below_alloc | apply pw_below_drewN | apply below_drew1 | refine below_set ?_ GE124.out) | exact HB.out)) hb); have n2_ := Aside0.mk (hbox); have n3_ := Aside0.mk ((by rw [hg]; exact (below_size (by repeat (first | (with_reducible first | exact HB.out | apply below_alloc | apply pw_below_drewN | apply below_drew1 | refine below_set ?_ GE124.out) | exact HB.out))) : w.heap.size ≤ gb125)); have n4_ := Aside0.mk ((by rw [hg]; exact (below_size (by repeat (first | (with_reducible first | exact HB.out | apply below_alloc | apply pw_below_drewN | apply below_drew1 | refine below_set ?_ GE124.out) | exact HB.out))) : w.heap.size ≤ gb125)); have n5_ := Aside0.mk ((by rw [hg]; exact Nat.ne_of_lt (blk_lt (g := gb124) (o := .cells #[.int .i64 a1_0, .int .i64 a1_1, .string a1_2] 23 (0, 0)) (qb_ BK124.out)) : gb124 ≠ gb125)); have n6_ := Aside0.mk ((by rw [hg]; exact Nat.ne_of_gt (blk_lt (g := gb124) (o := .cells #[.int .i64 a1_0, .int .i64 a1_1, .string a1_2] 23 (0, 0)) (qb_ BK124.out)) : gb125 ≠ gb124)); clear BK124; clear HB; have BK124 := n0_; have HB := n1_; have BK125 := n2_; have GW125 := n3_; have GE125 := n4_; have NB124_125 := n5_; have NB125_124 := n6_; clear n0_ n1_ n2_ n3_ n4_ n5_ n6_; clear hb hbox hg; have hnb15 := NB124_125.out; have hnc15 := NB125_124.out; have hcz16_0 : w14.cell? ⟨gb124, 0, none⟩ = some (.int .i64 a1_0) := (blk_cell BK124.out 0).trans rfl; have hcz16_1 : w14.cell? ⟨gb124, 1, none⟩ = some (.int .i64 a1_1) := (blk_cell BK124.out 1).trans rfl; have hcz16_2 : w14.cell? ⟨gb124, 2, none⟩ = some (.string a1_2) := (blk_cell BK124.out 2).trans rfl; have hfz16_0 := blk_frozen BK124.out 0; have hfz16_1 := blk_frozen BK124.out 1; have hfz16_2 := blk_frozen BK124.out 2; have hcz17_0 : w14.cell? ⟨gb125, 0, none⟩ = some (.int .i64 a2_0) := (blk_cell BK125.out 0).trans rfl; have hcz17_1 : w14.cell? ⟨gb125, 1, none⟩ = some (.int .i64 a2_1) := (blk_cell BK125.out 1).trans rfl; have hcz17_2 : w14.cell? ⟨gb125, 2, none⟩ = some (.string a2_2) := (blk_cell BK125.out 2).trans rfl; have hfz17_0 := blk_frozen BK125.out 0; have hfz17_1 := blk_frozen BK125.out 1; have hfz17_2 := blk_frozen BK125.out 2) | ((with_reducible refine gate_callee (f := 18) rfl ?_); refine goesL_ (some 10) rfl rfl Try.func18 (by kernel_rfl) rfl #[.agg #[.int .i64 a1_0, .int .i64 a1_1, .string a1_2], .agg #[.int .i64 a2_0, .int .i64 a2_1, .string a2_2]] rfl (by (try simp only [List.map_toArray, List.map_cons, List.map_nil]); first | done | rfl | (simp only [List.length_drop, List.length_take]; rfl)) ?_; (with_reducible refine (value_Cmp.calls a1_0 a1_1 a1_2 a2_0 a2_1 a2_2 t126 _ A4.out).mono ?_); rintro e w18 ⟨rfl, hb⟩; refine ⟨_, rfl, ?_⟩; have n0_ := Aside0.mk (blk_below (g := gb124) (o := .cells #[.int .i64 a1_0, .int .i64 a1_1, .string a1_2] 23 (0, 0)) (qb_ BK124.out) hb); have n1_ := Aside0.mk (blk_below (g := gb125) (o := .cells #[.int .i64 a2_0, .int .i64 a2_1, .string a2_2] 23 (0, 0)) (qb_ BK125.out) hb); have n2_ := Aside0.mk (below_step (by repeat (first | (with_reducible first | exact HB.out | apply below_alloc | apply pw_below_drewN | apply below_drew1 | refine below_set ?_ GE124.out | refine below_set ?_ GE125.out) | exact HB.out)) hb); clear BK124; clear BK125; clear HB; have BK124 := n0_; have BK125 := n1_; have HB := n2_; clear n0_ n1_ n2_; (try clear hb); (try clear hb2); (try clear hk); (try clear hi)))
   go_ret
   exact ⟨by first | rfl | (simp [errW_none, errW_some] <;> rfl) | (simp [*, errW_none, errW_some] <;> rfl), by repeat (first | (with_reducible first | exact HB.out | apply below_alloc | apply pw_below_drewN | apply below_drew1 | refine below_set ?_ GE124.out | refine below_set ?_ GE125.out) | exact HB.out)⟩
  ·rw [if_neg c12] at H
   have c12b0 : (a0 == 2) = false := beq_eq_false_iff_ne.mpr c12
   have c12b1 : (a0 != 2) = true := bne_iff_ne.mpr c12
   by_cases c19 : a0 = 3
   ·rw [if_pos c19] at H
    have c19b0 : (a0 == 3) = true := beq_iff_eq.mpr c19
    have c19b1 : (a0 != 3) = false := bne_eq_false_iff_eq.mpr c19
    clear c19
    obtain rfl := Option.some.inj H
    go_enter Try.func9, Try.ntmps9
    go_wp2_with (first | ((with_reducible refine gate_dst (N := 4) rfl ?_); refine box_event ?hg (N := 4) ?hd (cs := #[.int .i64 a1_0, .int .i64 a1_1, .string a1_2]) (t := 23) ?hr ?_; (case hd => rfl); (case hg => rfl); (case hr => first | (go_simp; done) | (go_simp; rfl)); intro gb124 hg w20 hbox hb; have n0_ := Aside0.mk (below_step qh_ hb); have n1_ := Aside0.mk (hbox); have n2_ := Aside0.mk ((by rw [hg]; exact (below_size qh_) : w.heap.size ≤ gb124)); have n3_ := Aside0.mk ((by rw [hg]; exact (below_size qh_) : w.heap.size ≤ gb124)); clear HB; have HB := n0_; have BK124 := n1_; have GW124 := n2_; have GE124 := n3_; clear n0_ n1_ n2_ n3_; clear hb hbox hg) | ((with_reducible refine gate_dst (N := 5) rfl ?_); refine box_event ?hg (N := 5) ?hd (cs := #[.int .i64 a2_0, .int .i64 a2_1, .string a2_2]) (t := 23) ?hr ?_; (case hd => rfl); (case hg => rfl); (case hr => first | (go_simp; done) | (go_simp; rfl)); intro gb125 hg w21 hbox hb; have n0_ := Aside0.mk (blk_below (g := gb124) (o := .cells #[.int .i64 a1_0, .int .i64 a1_1, .string a1_2] 23 (0, 0)) (qb_ BK124.out) hb); have n1_ := Aside0.mk (below_step (by repeat (first | (with_reducible first | exact HB.out | apply below_alloc | apply pw_below_drewN | apply below_drew1 | refine below_set ?_ GE124.out) | exact HB.out)) hb); have n2_ := Aside0.mk (hbox); have n3_ := Aside0.mk ((by rw [hg]; exact (below_size (by repeat (first | (with_reducible first | exact HB.out | apply below_alloc | apply pw_below_drewN | apply below_drew1 | refine below_set ?_ GE124.out) | exact HB.out))) : w.heap.size ≤ gb125)); have n4_ := Aside0.mk ((by rw [hg]; exact (below_size (by repeat (first | (with_reducible first | exact HB.out | apply below_alloc | apply pw_below_drewN | apply below_drew1 | refine below_set ?_ GE124.out) | exact HB.out))) : w.heap.size ≤ gb125)); have n5_ := Aside0.mk ((by rw [hg]; exact Nat.ne_of_lt (blk_lt (g := gb124) (o := .cells #[.int .i64 a1_0, .int .i64 a1_1, .string a1_2] 23 (0, 0)) (qb_ BK124.out)) : gb124 ≠ gb125)); have n6_ := Aside0.mk ((by rw [hg]; exact Nat.ne_of_gt (blk_lt (g := gb124) (o := .cells #[.int .i64 a1_0, .int .i64 a1_1, .string a1_2] 23 (0, 0)) (qb_ BK124.out)) : gb125 ≠ gb124)); clear BK124; clear HB; have BK124 := n0_; have HB := n1_; have BK125 := n2_; have GW125 := n3_; have GE125 := n4_; have NB124_125 := n5_; have NB125_124 := n6_; clear n0_ n1_ n2_ n3_ n4_ n5_ n6_; clear hb hbox hg; have hnb22 := NB124_125.out; have hnc22 := NB125_124.out; have hcz23_0 : w21.cell? ⟨gb124, 0, none⟩ = some (.int .i64 a1_0) := (blk_cell BK124.out 0).trans rfl; have hcz23_1 : w21.cell? ⟨gb124, 1, none⟩ = some (.int .i64 a1_1) := (blk_cell BK124.out 1).trans rfl; have hcz23_2 : w21.cell? ⟨gb124, 2, none⟩ = some (.string a1_2) := (blk_cell BK124.out 2).trans rfl; have hfz23_0 := blk_frozen BK124.out 0; have hfz23_1 := blk_frozen BK124.out 1; have hfz23_2 := blk_frozen BK124.out 2; have hcz24_0 : w21.cell? ⟨gb125, 0, none⟩ = some (.int .i64 a2_0) := (blk_cell BK125.out 0).trans rfl; have hcz24_1 : w21.cell? ⟨gb125, 1, none⟩ = some (.int .i64 a2_1) := (blk_cell BK125.out 1).trans rfl; have hcz24_2 : w21.cell? ⟨gb125, 2, none⟩ = some (.string a2_2) := (blk_cell BK125.out 2).trans rfl; have hfz24_0 := blk_frozen BK125.out 0; have hfz24_1 := blk_frozen BK125.out 1; have hfz24_2 := blk_frozen BK125.out 2) | ((with_reducible refine gate_callee (f := 18) rfl ?_); refine goesL_ (some 10) rfl rfl Try.func18 (by kernel_rfl) rfl #[.agg #[.int .i64 a1_0, .int .i64 a1_1, .string a1_2], .agg #[.int .i64 a2_0, .int .i64 a2_1, .string a2_2]] rfl (by (try simp only [List.map_toArray, List.map_cons, List.map_nil]); first | done | rfl | (simp only [List.length_drop, List.length_take]; rfl)) ?_; (with_reducible refine (value_Cmp.calls a1_0 a1_1 a1_2 a2_0 a2_1 a2_2 t126 _ A4.out).mono ?_); rintro e w25 ⟨rfl, hb⟩; refine ⟨_, rfl, ?_⟩; have n0_ := Aside0.mk (blk_below (g := gb124) (o := .cells #[.int .i64 a1_0, .int .i64 a1_1, .string a1_2] 23 (0, 0)) (qb_ BK124.out) hb); have n1_ := Aside0.mk (blk_below (g := gb125) (o := .cells #[.int .i64 a2_0, .int .i64 a2_1, .string a2_2] 23 (0, 0)) (qb_ BK125.out) hb); have n2_ := Aside0.mk (below_step (by repeat (first | (with_reducible first | exact HB.out | apply below_alloc | apply pw_below_drewN | apply below_drew1 | refine below_set ?_ GE124.out | refine below_set ?_ GE125.out) | exact HB.out)) hb); clear BK124; clear BK125; clear HB; have BK124 := n0_; have BK125 := n1_; have HB := n2_; clear n0_ n1_ n2_; (try clear hb); (try clear hb2); (try clear hk); (try clear hi)))
    go_ret
    exact ⟨by first | rfl | (simp [errW_none, errW_some] <;> rfl) | (simp [*, errW_none, errW_some] <;> rfl), by repeat (first | (with_reducible first | exact HB.out | apply below_alloc | apply pw_below_drewN | apply below_drew1 | refine below_set ?_ GE124.out | refine below_set ?_ GE125.out) | exact HB.out)⟩
   ·rw [if_neg c19] at H
    have c19b0 : (a0 == 3) = false := beq_eq_false_iff_ne.mpr c19
    have c19b1 : (a0 != 3) = true := bne_iff_ne.mpr c19
    by_cases c26 : a0 = 4
    ·rw [if_pos c26] at H
     have c26b0 : (a0 == 4) = true := beq_iff_eq.mpr c26
     have c26b1 : (a0 != 4) = false := bne_eq_false_iff_eq.mpr c26
     clear c26
     obtain rfl := Option.some.inj H
     go_enter Try.func9, Try.ntmps9
     go_wp2_with (first | ((with_reducible refine gate_dst (N := 4) rfl ?_); refine box_event ?hg (N := 4) ?hd (cs := #[.int .i64 a1_0, .int .i64 a1_1, .string a1_2]) (t := 23) ?hr ?_; (case hd => rfl); (case hg => rfl); (case hr => first | (go_simp; done) | (go_simp; rfl)); intro gb124 hg w27 hbox hb; have n0_ := Aside0.mk (below_step qh_ hb); have n1_ := Aside0.mk (hbox); have n2_ := Aside0.mk ((by rw [hg]; exact (below_size qh_) : w.heap.size ≤ gb124)); have n3_ := Aside0.mk ((by rw [hg]; exact (below_size qh_) : w.heap.size ≤ gb124)); clear HB; have HB := n0_; have BK124 := n1_; have GW124 := n2_; have GE124 := n3_; clear n0_ n1_ n2_ n3_; clear hb hbox hg) | ((with_reducible refine gate_dst (N := 5) rfl ?_); refine box_event ?hg (N := 5) ?hd (cs := #[.int .i64 a2_0, .int .i64 a2_1, .string a2_2]) (t := 23) ?hr ?_; (case hd => rfl); (case hg => rfl); (case hr => first | (go_simp; done) | (go_simp; rfl)); intro gb125 hg w28 hbox hb; have n0_ := Aside0.mk (blk_below (g := gb124) (o := .cells #[.int .i64 a1_0, .int .i64 a1_1, .string a1_2] 23 (0, 0)) (qb_ BK124.out) hb); have n1_ := Aside0.mk (below_step (by repeat (first | (with_reducible first | exact HB.out | apply below_alloc | apply pw_below_drewN | apply below_drew1 | refine below_set ?_ GE124.out) | exact HB.out)) hb); have n2_ := Aside0.mk (hbox); have n3_ := Aside0.mk ((by rw [hg]; exact (below_size (by repeat (first | (with_reducible first | exact HB.out | apply below_alloc | apply pw_below_drewN | apply below_drew1 | refine below_set ?_ GE124.out) | exact HB.out))) : w.heap.size ≤ gb125)); have n4_ := Aside0.mk ((by rw [hg]; exact (below_size (by repeat (first | (with_reducible first | exact HB.out | apply below_alloc | apply pw_below_drewN | apply below_drew1 | refine below_set ?_ GE124.out) | exact HB.out))) : w.heap.size ≤ gb125)); have n5_ := Aside0.mk ((by rw [hg]; exact Nat.ne_of_lt (blk_lt (g := gb124) (o := .cells #[.int .i64 a1_0, .int .i64 a1_1, .string a1_2] 23 (0, 0)) (qb_ BK124.out)) : gb124 ≠ gb125)); have n6_ := Aside0.mk ((by rw [hg]; exact Nat.ne_of_gt (blk_lt (g := gb124) (o := .cells #[.int .i64 a1_0, .int .i64 a1_1, .string a1_2] 23 (0, 0)) (qb_ BK124.out)) : gb125 ≠ gb124)); clear BK124; clear HB; have BK124 := n0_; have HB := n1_; have BK125 := n2_; have GW125 := n3_; have GE125 := n4_; have NB124_125 := n5_; have NB125_124 := n6_; clear n0_ n1_ n2_ n3_ n4_ n5_ n6_; clear hb hbox hg; have hnb29 := NB124_125.out; have hnc29 := NB125_124.out; have hcz30_0 : w28.cell? ⟨gb124, 0, none⟩ = some (.int .i64 a1_0) := (blk_cell BK124.out 0).trans rfl; have hcz30_1 : w28.cell? ⟨gb124, 1, none⟩ = some (.int .i64 a1_1) := (blk_cell BK124.out 1).trans rfl; have hcz30_2 : w28.cell? ⟨gb124, 2, none⟩ = some (.string a1_2) := (blk_cell BK124.out 2).trans rfl; have hfz30_0 := blk_frozen BK124.out 0; have hfz30_1 := blk_frozen BK124.out 1; have hfz30_2 := blk_frozen BK124.out 2; have hcz31_0 : w28.cell? ⟨gb125, 0, none⟩ = some (.int .i64 a2_0) := (blk_cell BK125.out 0).trans rfl; have hcz31_1 : w28.cell? ⟨gb125, 1, none⟩ = some (.int .i64 a2_1) := (blk_cell BK125.out 1).trans rfl; have hcz31_2 : w28.cell? ⟨gb125, 2, none⟩ = some (.string a2_2) := (blk_cell BK125.out 2).trans rfl; have hfz31_0 := blk_frozen BK125.out 0; have hfz31_1 := blk_frozen BK125.out 1; have hfz31_2 := blk_frozen BK125.out 2) | ((with_reducible refine gate_callee (f := 18) rfl ?_); refine goesL_ (some 10) rfl rfl Try.func18 (by kernel_rfl) rfl #[.agg #[.int .i64 a1_0, .int .i64 a1_1, .string a1_2], .agg #[.int .i64 a2_0, .int .i64 a2_1, .string a2_2]] rfl (by (try simp only [List.map_toArray, List.map_cons, List.map_nil]); first | done | rfl | (simp only [List.length_drop, List.length_take]; rfl)) ?_; (with_reducible refine (value_Cmp.calls a1_0 a1_1 a1_2 a2_0 a2_1 a2_2 t126 _ A4.out).mono ?_); rintro e w32 ⟨rfl, hb⟩; refine ⟨_, rfl, ?_⟩; have n0_ := Aside0.mk (blk_below (g := gb124) (o := .cells #[.int .i64 a1_0, .int .i64 a1_1, .string a1_2] 23 (0, 0)) (qb_ BK124.out) hb); have n1_ := Aside0.mk (blk_below (g := gb125) (o := .cells #[.int .i64 a2_0, .int .i64 a2_1, .string a2_2] 23 (0, 0)) (qb_ BK125.out) hb); have n2_ := Aside0.mk (below_step (by repeat (first | (with_reducible first | exact HB.out | apply below_alloc | apply pw_below_drewN | apply below_drew1 | refine below_set ?_ GE124.out | refine below_set ?_ GE125.out) | exact HB.out)) hb); clear BK124; clear BK125; clear HB; have BK124 := n0_; have BK125 := n1_; have HB := n2_; clear n0_ n1_ n2_; (try clear hb); (try clear hb2); (try clear hk); (try clear hi)))
     go_ret
     exact ⟨by first | rfl | (simp [errW_none, errW_some] <;> rfl) | (simp [*, errW_none, errW_some] <;> rfl), by repeat (first | (with_reducible first | exact HB.out | apply below_alloc | apply pw_below_drewN | apply below_drew1 | refine below_set ?_ GE124.out | refine below_set ?_ GE125.out) | exact HB.out)⟩
    ·rw [if_neg c26] at H
     have c26b0 : (a0 == 4) = false := beq_eq_false_iff_ne.mpr c26
     have c26b1 : (a0 != 4) = true := bne_iff_ne.mpr c26
     by_cases c33 : a0 = 5
     ·rw [if_pos c33] at H
      have c33b0 : (a0 == 5) = true := beq_iff_eq.mpr c33
      have c33b1 : (a0 != 5) = false := bne_eq_false_iff_eq.mpr c33
      clear c33
      obtain rfl := Option.some.inj H
      go_enter Try.func9, Try.ntmps9
      go_wp2_with (first | ((with_reducible refine gate_dst (N := 4) rfl ?_); refine box_event ?hg (N := 4) ?hd (cs := #[.int .i64 a1_0, .int .i64 a1_1, .string a1_2]) (t := 23) ?hr ?_; (case hd => rfl); (case hg => rfl); (case hr => first | (go_simp; done) | (go_simp; rfl)); intro gb124 hg w34 hbox hb; have n0_ := Aside0.mk (below_step qh_ hb); have n1_ := Aside0.mk (hbox); have n2_ := Aside0.mk ((by rw [hg]; exact (below_size qh_) : w.heap.size ≤ gb124)); have n3_ := Aside0.mk ((by rw [hg]; exact (below_size qh_) : w.heap.size ≤ gb124)); clear HB; have HB := n0_; have BK124 := n1_; have GW124 := n2_; have GE124 := n3_; clear n0_ n1_ n2_ n3_; clear hb hbox hg) | ((with_reducible refine gate_dst (N := 5) rfl ?_); refine box_event ?hg (N := 5) ?hd (cs := #[.int .i64 a2_0, .int .i64 a2_1, .string a2_2]) (t := 23) ?hr ?_; (case hd => rfl); (case hg => rfl); (case hr => first | (go_simp; done) | (go_simp; rfl)); intro gb125 hg w35 hbox hb; have n0_ := Aside0.mk (blk_below (g := gb124) (o := .cells #[.int .i64 a1_0, .int .i64 a1_1, .string a1_2] 23 (0, 0)) (qb_ BK124.out) hb); have n1_ := Aside0.mk (below_step (by repeat (first | (with_reducible first | exact HB.out | apply below_alloc | apply pw_below_drewN | apply below_drew1 | refine below_set ?_ GE124.out) | exact HB.out)) hb); have n2_ := Aside0.mk (hbox); have n3_ := Aside0.mk ((by rw [hg]; exact (below_size (by repeat (first | (with_reducible first | exact HB.out | apply below_alloc | apply pw_below_drewN | apply below_drew1 | refine below_set ?_ GE124.out) | exact HB.out))) : w.heap.size ≤ gb125)); have n4_ := Aside0.mk ((by rw [hg]; exact (below_size (by repeat (first | (with_reducible first | exact HB.out | apply below_alloc | apply pw_below_drewN | apply below_drew1 | refine below_set ?_ GE124.out) | exact HB.out))) : w.heap.size ≤ gb125)); have n5_ := Aside0.mk ((by rw [hg]; exact Nat.ne_of_lt (blk_lt (g := gb124) (o := .cells #[.int .i64 a1_0, .int .i64 a1_1, .string a1_2] 23 (0, 0)) (qb_ BK124.out)) : gb124 ≠ gb125)); have n6_ := Aside0.mk ((by rw [hg]; exact Nat.ne_of_gt (blk_lt (g := gb124) (o := .cells #[.int .i64 a1_0, .int .i64 a1_1, .string a1_2] 23 (0, 0)) (qb_ BK124.out)) : gb125 ≠ gb124)); clear BK124; clear HB; have BK124 := n0_; have HB := n1_; have BK125 := n2_; have GW125 := n3_; have GE125 := n4_; have NB124_125 := n5_; have NB125_124 := n6_; clear n0_ n1_ n2_ n3_ n4_ n5_ n6_; clear hb hbox hg; have hnb36 := NB124_125.out; have hnc36 := NB125_124.out; have hcz37_0 : w35.cell? ⟨gb124, 0, none⟩ = some (.int .i64 a1_0) := (blk_cell BK124.out 0).trans rfl; have hcz37_1 : w35.cell? ⟨gb124, 1, none⟩ = some (.int .i64 a1_1) := (blk_cell BK124.out 1).trans rfl; have hcz37_2 : w35.cell? ⟨gb124, 2, none⟩ = some (.string a1_2) := (blk_cell BK124.out 2).trans rfl; have hfz37_0 := blk_frozen BK124.out 0; have hfz37_1 := blk_frozen BK124.out 1; have hfz37_2 := blk_frozen BK124.out 2; have hcz38_0 : w35.cell? ⟨gb125, 0, none⟩ = some (.int .i64 a2_0) := (blk_cell BK125.out 0).trans rfl; have hcz38_1 : w35.cell? ⟨gb125, 1, none⟩ = some (.int .i64 a2_1) := (blk_cell BK125.out 1).trans rfl; have hcz38_2 : w35.cell? ⟨gb125, 2, none⟩ = some (.string a2_2) := (blk_cell BK125.out 2).trans rfl; have hfz38_0 := blk_frozen BK125.out 0; have hfz38_1 := blk_frozen BK125.out 1; have hfz38_2 := blk_frozen BK125.out 2) | ((with_reducible refine gate_callee (f := 18) rfl ?_); refine goesL_ (some 10) rfl rfl Try.func18 (by kernel_rfl) rfl #[.agg #[.int .i64 a1_0, .int .i64 a1_1, .string a1_2], .agg #[.int .i64 a2_0, .int .i64 a2_1, .string a2_2]] rfl (by (try simp only [List.map_toArray, List.map_cons, List.map_nil]); first | done | rfl | (simp only [List.length_drop, List.length_take]; rfl)) ?_; (with_reducible refine (value_Cmp.calls a1_0 a1_1 a1_2 a2_0 a2_1 a2_2 t126 _ A4.out).mono ?_); rintro e w39 ⟨rfl, hb⟩; refine ⟨_, rfl, ?_⟩; have n0_ := Aside0.mk (blk_below (g := gb124) (o := .cells #[.int .i64 a1_0, .int .i64 a1_1, .string a1_2] 23 (0, 0)) (qb_ BK124.out) hb); have n1_ := Aside0.mk (blk_below (g := gb125) (o := .cells #[.int .i64 a2_0, .int .i64 a2_1, .string a2_2] 23 (0, 0)) (qb_ BK125.out) hb); have n2_ := Aside0.mk (below_step (by repeat (first | (with_reducible first | exact HB.out | apply below_alloc | apply pw_below_drewN | apply below_drew1 | refine below_set ?_ GE124.out | refine below_set ?_ GE125.out) | exact HB.out)) hb); clear BK124; clear BK125; clear HB; have BK124 := n0_; have BK125 := n1_; have HB := n2_; clear n0_ n1_ n2_; (try clear hb); (try clear hb2); (try clear hk); (try clear hi)))
      go_ret
      exact ⟨by first | rfl | (simp [errW_none, errW_some] <;> rfl) | (simp [*, errW_none, errW_some] <;> rfl), by repeat (first | (with_reducible first | exact HB.out | apply below_alloc | apply pw_below_drewN | apply below_drew1 | refine below_set ?_ GE124.out | refine below_set ?_ GE125.out) | exact HB.out)⟩
     ·rw [if_neg c33] at H
      have c33b0 : (a0 == 5) = false := beq_eq_false_iff_ne.mpr c33
      have c33b1 : (a0 != 5) = true := bne_iff_ne.mpr c33
      by_cases c40 : a0 = 6
      ·rw [if_pos c40] at H
       have c40b0 : (a0 == 6) = true := beq_iff_eq.mpr c40
       have c40b1 : (a0 != 6) = false := bne_eq_false_iff_eq.mpr c40
       clear c40
       obtain rfl := Option.some.inj H
       go_enter Try.func9, Try.ntmps9
       go_wp2_with (first | ((with_reducible refine gate_dst (N := 4) rfl ?_); refine box_event ?hg (N := 4) ?hd (cs := #[.int .i64 a1_0, .int .i64 a1_1, .string a1_2]) (t := 23) ?hr ?_; (case hd => rfl); (case hg => rfl); (case hr => first | (go_simp; done) | (go_simp; rfl)); intro gb124 hg w41 hbox hb; have n0_ := Aside0.mk (below_step qh_ hb); have n1_ := Aside0.mk (hbox); have n2_ := Aside0.mk ((by rw [hg]; exact (below_size qh_) : w.heap.size ≤ gb124)); have n3_ := Aside0.mk ((by rw [hg]; exact (below_size qh_) : w.heap.size ≤ gb124)); clear HB; have HB := n0_; have BK124 := n1_; have GW124 := n2_; have GE124 := n3_; clear n0_ n1_ n2_ n3_; clear hb hbox hg) | ((with_reducible refine gate_dst (N := 5) rfl ?_); refine box_event ?hg (N := 5) ?hd (cs := #[.int .i64 a2_0, .int .i64 a2_1, .string a2_2]) (t := 23) ?hr ?_; (case hd => rfl); (case hg => rfl); (case hr => first | (go_simp; done) | (go_simp; rfl)); intro gb125 hg w42 hbox hb; have n0_ := Aside0.mk (blk_below (g := gb124) (o := .cells #[.int .i64 a1_0, .int .i64 a1_1, .string a1_2] 23 (0, 0)) (qb_ BK124.out) hb); have n1_ := Aside0.mk (below_step (by repeat (first | (with_reducible first | exact HB.out | apply below_alloc | apply pw_below_drewN | apply below_drew1 | refine below_set ?_ GE124.out) | exact HB.out)) hb); have n2_ := Aside0.mk (hbox); have n3_ := Aside0.mk ((by rw [hg]; exact (below_size (by repeat (first | (with_reducible first | exact HB.out | apply below_alloc | apply pw_below_drewN | apply below_drew1 | refine below_set ?_ GE124.out) | exact HB.out))) : w.heap.size ≤ gb125)); have n4_ := Aside0.mk ((by rw [hg]; exact (below_size (by repeat (first | (with_reducible first | exact HB.out | apply below_alloc | apply pw_below_drewN | apply below_drew1 | refine below_set ?_ GE124.out) | exact HB.out))) : w.heap.size ≤ gb125)); have n5_ := Aside0.mk ((by rw [hg]; exact Nat.ne_of_lt (blk_lt (g := gb124) (o := .cells #[.int .i64 a1_0, .int .i64 a1_1, .string a1_2] 23 (0, 0)) (qb_ BK124.out)) : gb124 ≠ gb125)); have n6_ := Aside0.mk ((by rw [hg]; exact Nat.ne_of_gt (blk_lt (g := gb124) (o := .cells #[.int .i64 a1_0, .int .i64 a1_1, .string a1_2] 23 (0, 0)) (qb_ BK124.out)) : gb125 ≠ gb124)); clear BK124; clear HB; have BK124 := n0_; have HB := n1_; have BK125 := n2_; have GW125 := n3_; have GE125 := n4_; have NB124_125 := n5_; have NB125_124 := n6_; clear n0_ n1_ n2_ n3_ n4_ n5_ n6_; clear hb hbox hg; have hnb43 := NB124_125.out; have hnc43 := NB125_124.out; have hcz44_0 : w42.cell? ⟨gb124, 0, none⟩ = some (.int .i64 a1_0) := (blk_cell BK124.out 0).trans rfl; have hcz44_1 : w42.cell? ⟨gb124, 1, none⟩ = some (.int .i64 a1_1) := (blk_cell BK124.out 1).trans rfl; have hcz44_2 : w42.cell? ⟨gb124, 2, none⟩ = some (.string a1_2) := (blk_cell BK124.out 2).trans rfl; have hfz44_0 := blk_frozen BK124.out 0; have hfz44_1 := blk_frozen BK124.out 1; have hfz44_2 := blk_frozen BK124.out 2; have hcz45_0 : w42.cell? ⟨gb125, 0, none⟩ = some (.int .i64 a2_0) := (blk_cell BK125.out 0).trans rfl; have hcz45_1 : w42.cell? ⟨gb125, 1, none⟩ = some (.int .i64 a2_1) := (blk_cell BK125.out 1).trans rfl; have hcz45_2 : w42.cell? ⟨gb125, 2, none⟩ = some (.string a2_2) := (blk_cell BK125.out 2).trans rfl; have hfz45_0 := blk_frozen BK125.out 0; have hfz45_1 := blk_frozen BK125.out 1; have hfz45_2 := blk_frozen BK125.out 2) | ((with_reducible refine gate_callee (f := 18) rfl ?_); refine goesL_ (some 10) rfl rfl Try.func18 (by kernel_rfl) rfl #[.agg #[.int .i64 a1_0, .int .i64 a1_1, .string a1_2], .agg #[.int .i64 a2_0, .int .i64 a2_1, .string a2_2]] rfl (by (try simp only [List.map_toArray, List.map_cons, List.map_nil]); first | done | rfl | (simp only [List.length_drop, List.length_take]; rfl)) ?_; (with_reducible refine (value_Cmp.calls a1_0 a1_1 a1_2 a2_0 a2_1 a2_2 t126 _ A4.out).mono ?_); rintro e w46 ⟨rfl, hb⟩; refine ⟨_, rfl, ?_⟩; have n0_ := Aside0.mk (blk_below (g := gb124) (o := .cells #[.int .i64 a1_0, .int .i64 a1_1, .string a1_2] 23 (0, 0)) (qb_ BK124.out) hb); have n1_ := Aside0.mk (blk_below (g := gb125) (o := .cells #[.int .i64 a2_0, .int .i64 a2_1, .string a2_2] 23 (0, 0)) (qb_ BK125.out) hb); have n2_ := Aside0.mk (below_step (by repeat (first | (with_reducible first | exact HB.out | apply below_alloc | apply pw_below_drewN | apply below_drew1 | refine below_set ?_ GE124.out | refine below_set ?_ GE125.out) | exact HB.out)) hb); clear BK124; clear BK125; clear HB; have BK124 := n0_; have BK125 := n1_; have HB := n2_; clear n0_ n1_ n2_; (try clear hb); (try clear hb2); (try clear hk); (try clear hi)))
       go_ret
       exact ⟨by first | rfl | (simp [errW_none, errW_some] <;> rfl) | (simp [*, errW_none, errW_some] <;> rfl), by repeat (first | (with_reducible first | exact HB.out | apply below_alloc | apply pw_below_drewN | apply below_drew1 | refine below_set ?_ GE124.out | refine below_set ?_ GE125.out) | exact HB.out)⟩
      ·rw [if_neg c40] at H
       have c40b0 : (a0 == 6) = false := beq_eq_false_iff_ne.mpr c40
       have c40b1 : (a0 != 6) = true := bne_iff_ne.mpr c40
       obtain rfl := Option.some.inj H
       go_enter Try.func9, Try.ntmps9
       go_wp2_with (first | ((with_reducible refine gate_dst (N := 4) rfl ?_); refine box_event ?hg (N := 4) ?hd (cs := #[.int .i64 a1_0, .int .i64 a1_1, .string a1_2]) (t := 23) ?hr ?_; (case hd => rfl); (case hg => rfl); (case hr => first | (go_simp; done) | (go_simp; rfl)); intro gb124 hg w47 hbox hb; have n0_ := Aside0.mk (below_step qh_ hb); have n1_ := Aside0.mk (hbox); have n2_ := Aside0.mk ((by rw [hg]; exact (below_size qh_) : w.heap.size ≤ gb124)); have n3_ := Aside0.mk ((by rw [hg]; exact (below_size qh_) : w.heap.size ≤ gb124)); clear HB; have HB := n0_; have BK124 := n1_; have GW124 := n2_; have GE124 := n3_; clear n0_ n1_ n2_ n3_; clear hb hbox hg) | ((with_reducible refine gate_dst (N := 5) rfl ?_); refine box_event ?hg (N := 5) ?hd (cs := #[.int .i64 a2_0, .int .i64 a2_1, .string a2_2]) (t := 23) ?hr ?_; (case hd => rfl); (case hg => rfl); (case hr => first | (go_simp; done) | (go_simp; rfl)); intro gb125 hg w48 hbox hb; have n0_ := Aside0.mk (blk_below (g := gb124) (o := .cells #[.int .i64 a1_0, .int .i64 a1_1, .string a1_2] 23 (0, 0)) (qb_ BK124.out) hb); have n1_ := Aside0.mk (below_step (by repeat (first | (with_reducible first | exact HB.out | apply below_alloc | apply pw_below_drewN | apply below_drew1 | refine below_set ?_ GE124.out) | exact HB.out)) hb); have n2_ := Aside0.mk (hbox); have n3_ := Aside0.mk ((by rw [hg]; exact (below_size (by repeat (first | (with_reducible first | exact HB.out | apply below_alloc | apply pw_below_drewN | apply below_drew1 | refine below_set ?_ GE124.out) | exact HB.out))) : w.heap.size ≤ gb125)); have n4_ := Aside0.mk ((by rw [hg]; exact (below_size (by repeat (first | (with_reducible first | exact HB.out | apply below_alloc | apply pw_below_drewN | apply below_drew1 | refine below_set ?_ GE124.out) | exact HB.out))) : w.heap.size ≤ gb125)); have n5_ := Aside0.mk ((by rw [hg]; exact Nat.ne_of_lt (blk_lt (g := gb124) (o := .cells #[.int .i64 a1_0, .int .i64 a1_1, .string a1_2] 23 (0, 0)) (qb_ BK124.out)) : gb124 ≠ gb125)); have n6_ := Aside0.mk ((by rw [hg]; exact Nat.ne_of_gt (blk_lt (g := gb124) (o := .cells #[.int .i64 a1_0, .int .i64 a1_1, .string a1_2] 23 (0, 0)) (qb_ BK124.out)) : gb125 ≠ gb124)); clear BK124; clear HB; have BK124 := n0_; have HB := n1_; have BK125 := n2_; have GW125 := n3_; have GE125 := n4_; have NB124_125 := n5_; have NB125_124 := n6_; clear n0_ n1_ n2_ n3_ n4_ n5_ n6_; clear hb hbox hg; have hnb49 := NB124_125.out; have hnc49 := NB125_124.out; have hcz50_0 : w48.cell? ⟨gb124, 0, none⟩ = some (.int .i64 a1_0) := (blk_cell BK124.out 0).trans rfl; have hcz50_1 : w48.cell? ⟨gb124, 1, none⟩ = some (.int .i64 a1_1) := (blk_cell BK124.out 1).trans rfl; have hcz50_2 : w48.cell? ⟨gb124, 2, none⟩ = some (.string a1_2) := (blk_cell BK124.out 2).trans rfl; have hfz50_0 := blk_frozen BK124.out 0; have hfz50_1 := blk_frozen BK124.out 1; have hfz50_2 := blk_frozen BK124.out 2; have hcz51_0 : w48.cell? ⟨gb125, 0, none⟩ = some (.int .i64 a2_0) := (blk_cell BK125.out 0).trans rfl; have hcz51_1 : w48.cell? ⟨gb125, 1, none⟩ = some (.int .i64 a2_1) := (blk_cell BK125.out 1).trans rfl; have hcz51_2 : w48.cell? ⟨gb125, 2, none⟩ = some (.string a2_2) := (blk_cell BK125.out 2).trans rfl; have hfz51_0 := blk_frozen BK125.out 0; have hfz51_1 := blk_frozen BK125.out 1; have hfz51_2 := blk_frozen BK125.out 2) | ((with_reducible refine gate_callee (f := 18) rfl ?_); refine goesL_ (some 10) rfl rfl Try.func18 (by kernel_rfl) rfl #[.agg #[.int .i64 a1_0, .int .i64 a1_1, .string a1_2], .agg #[.int .i64 a2_0, .int .i64 a2_1, .string a2_2]] rfl (by (try simp only [List.map_toArray, List.map_cons, List.map_nil]); first | done | rfl | (simp only [List.length_drop, List.length_take]; rfl)) ?_; (with_reducible refine (value_Cmp.calls a1_0 a1_1 a1_2 a2_0 a2_1 a2_2 t126 _ A4.out).mono ?_); rintro e w52 ⟨rfl, hb⟩; refine ⟨_, rfl, ?_⟩; have n0_ := Aside0.mk (blk_below (g := gb124) (o := .cells #[.int .i64 a1_0, .int .i64 a1_1, .string a1_2] 23 (0, 0)) (qb_ BK124.out) hb); have n1_ := Aside0.mk (blk_below (g := gb125) (o := .cells #[.int .i64 a2_0, .int .i64 a2_1, .string a2_2] 23 (0, 0)) (qb_ BK125.out) hb); have n2_ := Aside0.mk (below_step (by repeat (first | (with_reducible first | exact HB.out | apply below_alloc | apply pw_below_drewN | apply below_drew1 | refine below_set ?_ GE124.out | refine below_set ?_ GE125.out) | exact HB.out)) hb); clear BK124; clear BK125; clear HB; have BK124 := n0_; have BK125 := n1_; have HB := n2_; clear n0_ n1_ n2_; (try clear hb); (try clear hb2); (try clear hk); (try clear hi)))
       go_ret
       exact ⟨by first | rfl | (simp [errW_none, errW_some] <;> rfl) | (simp [*, errW_none, errW_some] <;> rfl), by repeat (first | (with_reducible first | exact HB.out | apply below_alloc | apply pw_below_drewN | apply below_drew1 | refine below_set ?_ GE124.out | refine below_set ?_ GE125.out) | exact HB.out)⟩
def zset_Norm.f (l0 : List (S44)) : Option ((List (S44))) := (zset_sumN.f (([l0] : List (List (S44))))).bind fun t130 => (some t130)
set_option maxHeartbeats 8000000 in
set_option maxRecDepth 100000 in
theorem zset_Norm.calls (P0_ : Nat → Prop) (A0 : Option Addr) (c0 : Nat) (l0 : List (S44)) (r : List (S44)) (w : World) (hs0 : Kd.V k44 44 w w.heap.size (fun k_ => P0_ k_) (.slice A0 l0.length c0) l0) (h : zset_Norm.f l0 = some r) :
  Calls Try.prog 16 #[.slice A0 l0.length c0] w fun e w' => ∃ v0_ : Value, e = .returned (v0_) ∧ Kd.N k44 44 w' w.heap.size (fun k_ => (P0_ k_ ∨ w.heap.size ≤ k_)) v0_ r ∧ Below w.heap.size w w' := by
 have HO0 := Aside0.mk (show Kd.V k44 44 w w.heap.size (fun k_ => (P0_ k_ ∨ w.heap.size ≤ k_)) (.slice A0 l0.length c0) l0 from Kd.V_mono hs0 (fun k_ hk => .inl hk))
 have HB := Aside0.mk (Below.refl w.heap.size w)
 have H : ((zset_sumN.f (([l0] : List (List (S44))))).bind fun t130 => (some t130)) = some r := h
 clear h
 obtain ⟨y127, hy127⟩ : ∃ y_ : List (List (S44)), y_ = (([l0] : List (List (S44)))) := ⟨_, rfl⟩
 replace H : ((zset_sumN.f y127).bind fun t130 => (some t130)) = some r := by first | (rw [hy127]; with_reducible exact H) | (have H2_ := (Option.bind_some _ _).symm.trans H; rw [hy127]; with_reducible exact H2_) | (have H2_ := (Option.bind_some _ _).symm.trans H; with_reducible exact H2_) | with_reducible exact H | (rw [hy127]; exact H) | exact H
 have Ny127 := Aside0.mk hy127
 clear hy127
 replace H := Option.bind_eq_some_iff.mp H
 obtain ⟨t130, A20, H⟩ := H
 replace H : (some t130) = some r := H
 have A2 := Aside0.mk A20
 clear A20
 obtain rfl := Option.some.inj H
 go_enter Try.func16, Try.ntmps16
 go_wp2_with (first | ((with_reducible refine gate_dst (N := 4) rfl ?_); refine Kd.N_lit (Kd.slice 44 k44) _ 31 ?hg (N' := 4) ?hd (xs := ([l0] : List (List (S44)))) (inner := [.slice A0 l0.length c0]) (ok := (fun k_ => (P0_ k_ ∨ w.heap.size ≤ k_))) (okp := (fun k_ => (P0_ k_ ∨ w.heap.size ≤ k_))) ?hr ?hp (fun _ hk => hk) ((show ∀ k_, w.heap.size ≤ k_ → (fun k_ => (P0_ k_ ∨ w.heap.size ≤ k_)) k_ from fun k_ hk => (.inr (Nat.le_trans (below_size qh_) hk))) _ (Nat.le_refl _)) (Below.refl _ _) (Nat.le_refl _) (by simp) ?_; (case hd => rfl); (case hg => rfl); (case hr => first | (go_simp; done) | (go_simp; rfl)); (case hp => exact (Reps.one (show Kd.FK (Kd.slice 44 k44) _ _ l0 [.slice A0 l0.length c0] from (Kd.FK_slice_mk (Kd.V_reads' (Kd.V_mono (ok' := (fun k_ => (P0_ k_ ∨ w.heap.size ≤ k_))) (HO0.out) (fun k_ hk => hk))).2.1 (Kd.V_F (Kd.V_mono (ok' := (fun k_ => (P0_ k_ ∨ w.heap.size ≤ k_))) (HO0.out) (fun k_ hk => hk))))) (Reps.none _ _))); intro v128 w3 ho4 hb hg_ hnew_; clear hg_ hnew_; (first | rw [← Ny127.out] at ho4 | (simp only [Int.reduceToNat] at ho4; rw [← Ny127.out] at ho4)); have n0_ := Aside0.mk (Kd.V_elder' (qv_ HO0.out) (Kd.N_base ho4) hb); have n1_ := Aside0.mk (Kd.N_lower ho4 (below_size qh_)); have n2_ := Aside0.mk (below_step qh_ hb); clear HO0; clear HB; have HO0 := n0_; have HO129 := n1_; have HB := n2_; clear n0_ n1_ n2_; clear hb ho4; obtain ⟨Ao5, co5, eo5⟩ := Kd.N_slice HO129.out; subst eo5) | ((with_reducible refine gate_callee (f := 28) rfl ?_); refine goesL_ (some 5) rfl rfl Try.func28 (by kernel_rfl) rfl #[.slice Ao5 y127.length co5] rfl (by (try simp only [List.map_toArray, List.map_cons, List.map_nil]); first | done | rfl | (simp only [List.length_drop, List.length_take]; rfl)) ?_; (with_reducible refine (zset_sumN.calls (fun k_ => (P0_ k_ ∨ w.heap.size ≤ k_)) _ _ y127 t130 _ ?side1 A2.out).mono ?_); (case side1 => exact Kd.N_V (HO129.out)); rintro e w6 ⟨v131, rfl, ho0, hb⟩; refine ⟨_, rfl, ?_⟩; have n0_ := Aside0.mk (Kd.V_elder' (qv_ HO0.out) (Kd.N_base ho0) hb); have n1_ := Aside0.mk (Kd.N_elder' (qn_ HO129.out) (Kd.N_base ho0) hb); have n2_ := Aside0.mk (Kd.N_lower (Kd.N_mono (ok' := fun k_ => (P0_ k_ ∨ w.heap.size ≤ k_)) ho0 (fun k_ hk_ => Or.elim hk_ (fun hs_ => hs_) (fun hn_ => (.inr (Nat.le_trans (below_size qh_) hn_))))) (below_size qh_)); have n3_ := Aside0.mk (below_step qh_ hb); clear HO0; clear HO129; clear HB; have HO0 := n0_; have HO129 := n1_; have HO132 := n2_; have HB := n3_; clear n0_ n1_ n2_ n3_; (try clear hb); (try clear hb2); (try clear hk); (try clear hi); (try clear ho0)))
 go_ret
 exact ⟨_, by first | rfl | (simp [errW_none, errW_some] <;> rfl) | (simp [*, errW_none, errW_some] <;> rfl), by (with_reducible repeat (first | apply Kd.N_alloc | apply Kd.N_drewN | apply Kd.N_drew)); exact HO132.out, qh_⟩
mutual
def api_Weighted_22.l0 : Nat → List (List (S44)) → Int → List (List (S44)) → Int → Int → Option ((List (S44)))
 | 0, _, _, _, _, _ => none
 | k + 1, x0, x3, x9, x10, x11 => if x11 < x10 then (if 0 ≤ x11 then (if x11 < (x9.length : Int) then (if (wrap64 (x3 + ((rd_L5 x9 x11).length : Int))) < 0 then (none) else (api_Weighted_22.l0 k x0 (wrap64 (x3 + ((rd_L5 x9 x11).length : Int))) x9 x10 (wrap64 (x11 + 1)))) else (none)) else (none)) else ((grown.f x3).bind fun t134 => (api_Weighted_22.l1 k t134 x0 (x0.length : Int) 0))
def api_Weighted_22.l1 : Nat → List (S44) → List (List (S44)) → Int → Int → Option ((List (S44)))
 | 0, _, _, _, _ => none
 | k + 1, x6, x25, x26, x27 => if x27 < x26 then (if 0 ≤ x27 then (if x27 < (x25.length : Int) then (if x6.length + (rd_L5 x25 x27).length < 4398046511104 then (api_Weighted_22.l1 k (x6 ++ (rd_L5 x25 x27)) x25 x26 (wrap64 (x27 + 1))) else (none)) else (none)) else (none)) else (some x6)
end
def api_Weighted_22.f (k : Nat) (l0 : List (List (S44))) : Option ((List (S44))) := api_Weighted_22.l0 k l0 0 l0 (l0.length : Int) 0
theorem api_Weighted_22.mono_l : ∀ k, (∀ y0 y1 y2 y3 y4, LeO (api_Weighted_22.l0 k y0 y1 y2 y3 y4) (api_Weighted_22.l0 (k + 1) y0 y1 y2 y3 y4)) ∧ (∀ y0 y1 y2 y3, LeO (api_Weighted_22.l1 k y0 y1 y2 y3) (api_Weighted_22.l1 (k + 1) y0 y1 y2 y3))
 | 0 => ⟨fun _ _ _ _ _ r h => by simp [api_Weighted_22.l0] at h, fun _ _ _ _ r h => by simp [api_Weighted_22.l1] at h⟩
 | k + 1 => by
  obtain ⟨ih0, ih1⟩ := api_Weighted_22.mono_l k
  refine ⟨?_, ?_⟩
  ·intro y0 y1 y2 y3 y4
   unfold api_Weighted_22.l0
   repeat' first
   | (with_reducible exact ih0 _ _ _ _ _)
   | (with_reducible exact ih1 _ _ _ _)
   | (with_reducible exact LeO.refl _)
   | (with_reducible exact LeO.none _)
   | (with_reducible refine LeO.ite ?_ ?_)
   | (with_reducible refine LeO.bind ?_ (fun _ => ?_))
   | exact ih0 _ _ _ _ _
   | exact ih1 _ _ _ _
   | exact LeO.none _
   | refine LeO.ite ?_ ?_
   | refine LeO.bind ?_ (fun _ => ?_)
  ·intro y0 y1 y2 y3
   unfold api_Weighted_22.l1
   repeat' first
   | (with_reducible exact ih0 _ _ _ _ _)
   | (with_reducible exact ih1 _ _ _ _)
   | (with_reducible exact LeO.refl _)
   | (with_reducible exact LeO.none _)
   | (with_reducible refine LeO.ite ?_ ?_)
   | (with_reducible refine LeO.bind ?_ (fun _ => ?_))
   | exact ih0 _ _ _ _ _
   | exact ih1 _ _ _ _
   | exact LeO.none _
   | refine LeO.ite ?_ ?_
   | refine LeO.bind ?_ (fun _ => ?_)
theorem api_Weighted_22.mono : ∀ a0 k, LeO (api_Weighted_22.f k a0) (api_Weighted_22.f (k + 1) a0) := by
 intro a0 k
 obtain ⟨ih0, ih1⟩ := api_Weighted_22.mono_l k
 unfold api_Weighted_22.f
 repeat' first
   | (with_reducible exact ih0 _ _ _ _ _)
   | (with_reducible exact ih1 _ _ _ _)
   | (with_reducible exact LeO.refl _)
   | (with_reducible exact LeO.none _)
   | (with_reducible refine LeO.ite ?_ ?_)
   | (with_reducible refine LeO.bind ?_ (fun _ => ?_))
   | exact ih0 _ _ _ _ _
   | exact ih1 _ _ _ _
   | exact LeO.none _
   | refine LeO.ite ?_ ?_
   | refine LeO.bind ?_ (fun _ => ?_)
set_option maxHeartbeats 8000000 in
set_option maxRecDepth 100000 in
theorem api_Weighted_22.calls (k : Nat) (P0_ : Nat → Prop) (A0 : Option Addr) (c0 : Nat) (l0 : List (List (S44))) (r : List (S44)) (w : World) (hs0 : Kd.V (Kd.slice 44 k44) 31 w w.heap.size (fun k_ => P0_ k_) (.slice A0 l0.length c0) l0) (h : api_Weighted_22.f k l0 = some r) :
  Calls Try.prog 22 #[.slice A0 l0.length c0] w fun e w' => ∃ v0_ : Value, e = .returned (v0_) ∧ Kd.N k44 44 w' w.heap.size (fun k_ => (P0_ k_ ∨ w.heap.size ≤ k_)) v0_ r ∧ Below w.heap.size w w' := by
 have HO0 := Aside0.mk (show Kd.V (Kd.slice 44 k44) 31 w w.heap.size (fun k_ => (P0_ k_ ∨ w.heap.size ≤ k_)) (.slice A0 l0.length c0) l0 from Kd.V_mono hs0 (fun k_ hk => .inl hk))
 have HB := Aside0.mk (Below.refl w.heap.size w)
 have H : (api_Weighted_22.l0 k l0 0 l0 (l0.length : Int) 0) = some r := h
 clear h
 have H' := Aside0.mk H
 clear H
 go_enter Try.func22, Try.ntmps22
 go_wp2
 go_loopg [3, 11] k (fun kq v3 v11 w' => ∃ (x3_1 : Int) (x11_1 : Int), v3 = .int .i64 x3_1 ∧ v11 = .int .i64 x11_1 ∧ Aside0 (api_Weighted_22.l0 kq l0 x3_1 l0 (l0.length : Int) x11_1 = some r) ∧ Aside0 (kq ≤ k) ∧ Aside0 (Kd.V (Kd.slice 44 k44) 31 w' w.heap.size (fun k_ => (P0_ k_ ∨ w.heap.size ≤ k_)) (.slice A0 l0.length c0) l0) ∧ Aside0 (Kd.V (Kd.slice 44 k44) 31 w' w.heap.size (fun k_ => (P0_ k_ ∨ w.heap.size ≤ k_)) (.slice A0 l0.length c0) l0) ∧ Aside0 (Below w.heap.size w w'))
 case atStart => exact ⟨(0), (0), (by first | rfl | (simp; done) | (simp [*]; done)), (by first | rfl | (simp; done) | (simp [*]; done)), H', ⟨Nat.le_refl _⟩, ⟨qv_ HO0.out⟩, ⟨qv_ HO0.out⟩, ⟨qh_⟩⟩
 case round =>
  clear H'
  obtain ⟨x3_1, x11_1, rfl, rfl, HA, HK1, HO_0, HO_9, HB⟩ := hrel
  cases gk with
  | zero => exact absurd HA.out (by simp [api_Weighted_22.l0])
  | succ k1 =>
   have H := HA.out
   clear HA
   simp only [api_Weighted_22.l0] at H
   by_cases c2 : x11_1 < (l0.length : Int)
   ·rw [if_pos c2] at H
    have c2b0 : decide (x11_1 < (l0.length : Int)) = true := decide_eq_true c2
    clear c2
    by_cases c3 : 0 ≤ x11_1
    ·rw [if_pos c3] at H
     have c3b0 : decide (0 ≤ x11_1) = true := decide_eq_true c3
     clear c3
     by_cases c4 : x11_1 < (l0.length : Int)
     ·rw [if_pos c4] at H
      have c4b0 : decide (x11_1 < (l0.length : Int)) = true := decide_eq_true c4
      clear c4
      by_cases c5 : (wrap64 (x3_1 + ((rd_L5 l0 x11_1).length : Int))) < 0
      ·rw [if_pos c5] at H
       exact absurd H (by simp)
      ·rw [if_neg c5] at H
       have c5b0 : decide ((wrap64 (x3_1 + ((rd_L5 l0 x11_1).length : Int))) < 0) = false := decide_eq_false c5
       clear c5
       have H' := Aside0.mk H
       clear H
       have p133 : 0 ≤ (x11_1 : Int) := of_decide_eq_true (by first | (with_reducible assumption) | assumption)
       have q133 : x11_1 < (l0.length : Int) := of_decide_eq_true (by first | (with_reducible assumption) | assumption)
       obtain ⟨ad133, A133_0, c133_0, e133, hx133_0, hl133_0, hi133_0⟩ := at_L5 (Kd.V_reads' HO_9.out).2.2 x11_1 p133 q133
       cases e133
       obtain ⟨ce133, hce133, hMe133, hcc133⟩ := Kd.V_get HO_9.out [] x11_1 p133 (by first | exact q133 | exact of_decide_eq_true (by first | (with_reducible assumption) | assumption) | (have e_ := (Kd.V_reads' HO_9.out).1; omega))
       obtain ⟨ua133_0, uc133_0, rfl, ul133_0, ge133_0⟩ := Kd.FK_slice_open hMe133
       have hv133_0 := hcc133 0 _ rfl
       rw [Nat.add_zero, show ((Kd.slice 44 k44)).sz = 1 from rfl, Nat.mul_one] at hv133_0
       replace hv133_0 := Option.some.inj (hv133_0.symm.trans hx133_0)
       injection hv133_0 with hva_ hvn_ hvc_
       rw [hva_] at ge133_0
       rw [hvc_] at ul133_0
       have HL133_0 := Aside0.mk (show Kd.V k44 44 _ w.heap.size _ _ (rd_L5 l0 x11_1) from Kd.V_mk ul133_0 ge133_0)
       clear hva_ hvn_ hvc_ ge133_0 ul133_0
       clear hcc133 hce133
       have HR133_0 := Aside0.mk hi133_0
       have HC133_0 := Aside0.mk hl133_0
       clear hi133_0 hl133_0
       replace p133 := eq_true p133
       replace q133 := eq_true q133
       go_wp2
       go_roundg k1
       case measure => have := HK1.out; omega
       case rel => exact ⟨(wrap64 (x3_1 + ((rd_L5 l0 x11_1).length : Int))), (wrap64 (x11_1 + 1)), (by first | rfl | (simp; done) | (simp [*]; done)), (by first | rfl | (simp; done) | (simp [*]; done)), H', ⟨by have := HK1.out; omega⟩, ⟨qv_ HO_0.out⟩, ⟨qv_ HO_9.out⟩, ⟨qh_⟩⟩
     ·rw [if_neg c4] at H
      exact absurd H (by simp)
    ·rw [if_neg c3] at H
     exact absurd H (by simp)
   ·rw [if_neg c2] at H
    have c2b0 : decide (x11_1 < (l0.length : Int)) = false := decide_eq_false c2
    clear c2
    replace H := Option.bind_eq_some_iff.mp H
    obtain ⟨t134, A60, H⟩ := H
    replace H : (api_Weighted_22.l1 k1 t134 l0 (l0.length : Int) 0) = some r := H
    have A6 := Aside0.mk A60
    clear A60
    have H' := Aside0.mk H
    clear H
    go_wp2_with (first | ((with_reducible refine gate_callee (f := 32) rfl ?_); refine goesL_ (some 24) rfl rfl Try.func32 (by kernel_rfl) rfl #[.slice none 0 0, .int .i64 x3_1] rfl (by (try simp only [List.map_toArray, List.map_cons, List.map_nil]); first | done | rfl | (simp only [List.length_drop, List.length_take]; rfl)) ?_; (with_reducible refine (grown.calls  x3_1 t134 _ A6.out).mono ?_); rintro e w7 ⟨v135, rfl, ho0, hb⟩; refine ⟨_, rfl, ?_⟩; have n0_ := Aside0.mk (Kd.V_elder' (qv_ HO_0.out) (Kd.N_base ho0) hb); have n1_ := Aside0.mk (Kd.V_elder' (qv_ HO_9.out) (Kd.N_base ho0) hb); have n2_ := Aside0.mk (Kd.N_lower (Kd.N_mono (ok' := fun k_ => (P0_ k_ ∨ w.heap.size ≤ k_)) ho0 (fun k_ hk_ => (.inr (Nat.le_trans (below_size qh_) hk_)))) (below_size qh_)); have n3_ := Aside0.mk (below_step qh_ hb); clear HO_0; clear HO_9; clear HB; have HO_0 := n0_; have HO_9 := n1_; have HO136 := n2_; have HB := n3_; clear n0_ n1_ n2_ n3_; (try clear hb); (try clear hb2); (try clear hk); (try clear hi); (try clear ho0)))
    (try simp only [Act.put, List.setIfInBounds_toArray, List.set_cons_zero, List.set_cons_succ])
    go_loopg [6, 27] k1 (fun kq v6 v27 w' => ∃ (x6_2 : List (S44)) (x27_2 : Int), v27 = .int .i64 x27_2 ∧ Aside0 (api_Weighted_22.l1 kq x6_2 l0 (l0.length : Int) x27_2 = some r) ∧ Aside0 (kq ≤ k1) ∧ Aside0 (Kd.N k44 44 w' w.heap.size (fun k_ => (P0_ k_ ∨ w.heap.size ≤ k_)) v6 x6_2) ∧ Aside0 (Kd.V (Kd.slice 44 k44) 31 w' w.heap.size (fun k_ => (P0_ k_ ∨ w.heap.size ≤ k_) ∧ some k_ ≠ (v6 : Value).ownBlock) (.slice A0 l0.length c0) l0) ∧ Aside0 (Below w.heap.size w w'))
    case atStart => exact ⟨(t134), (0), (by first | rfl | (simp; done) | (simp [*]; done)), H', ⟨Nat.le_refl _⟩, ⟨qn_ HO136.out⟩, ⟨qv_ HO_0.out⟩, ⟨qh_⟩⟩
    case round =>
     clear H'
     try clear c1
     try clear p1
     try clear q1
     try clear hx1
     try clear c2
     try clear c2b0
     try clear p2
     try clear c3
     try clear c3b0
     try clear c4
     try clear c4b0
     try clear c5
     try clear c5b0
     try clear p6
     try clear hx133_0
     try clear p133
     try clear q133
     obtain ⟨x6_2, x27_2, rfl, HA, HK2, HO_6, HO_25, HB⟩ := hrel
     cases gk with
     | zero => exact absurd HA.out (by simp [api_Weighted_22.l1])
     | succ k2 =>
      have H := HA.out
      clear HA
      simp only [api_Weighted_22.l1] at H
      by_cases c8 : x27_2 < (l0.length : Int)
      ·rw [if_pos c8] at H
       have c8b0 : decide (x27_2 < (l0.length : Int)) = true := decide_eq_true c8
       clear c8
       by_cases c9 : 0 ≤ x27_2
       ·rw [if_pos c9] at H
        have c9b0 : decide (0 ≤ x27_2) = true := decide_eq_true c9
        clear c9
        by_cases c10 : x27_2 < (l0.length : Int)
        ·rw [if_pos c10] at H
         have c10b0 : decide (x27_2 < (l0.length : Int)) = true := decide_eq_true c10
         clear c10
         by_cases c11 : x6_2.length + (rd_L5 l0 x27_2).length < 4398046511104
         ·rw [if_pos c11] at H
          have LMc11 := Aside0.mk c11
          clear c11
          obtain ⟨y138, hy138⟩ : ∃ y_ : List (S44), y_ = (x6_2 ++ (rd_L5 l0 x27_2)) := ⟨_, rfl⟩
          replace H : (api_Weighted_22.l1 k2 y138 l0 (l0.length : Int) (wrap64 (x27_2 + 1))) = some r := by first | (rw [hy138]; with_reducible exact H) | (have H2_ := (Option.bind_some _ _).symm.trans H; rw [hy138]; with_reducible exact H2_) | (have H2_ := (Option.bind_some _ _).symm.trans H; with_reducible exact H2_) | with_reducible exact H | (rw [hy138]; exact H) | exact H
          have Ny138 := Aside0.mk hy138
          clear hy138
          have H' := Aside0.mk H
          clear H
          have p137 : 0 ≤ (x27_2 : Int) := of_decide_eq_true (by first | (with_reducible assumption) | assumption)
          have q137 : x27_2 < (l0.length : Int) := of_decide_eq_true (by first | (with_reducible assumption) | assumption)
          obtain ⟨ad137, A137_0, c137_0, e137, hx137_0, hl137_0, hi137_0⟩ := at_L5 (Kd.V_reads' HO_25.out).2.2 x27_2 p137 q137
          cases e137
          obtain ⟨ce137, hce137, hMe137, hcc137⟩ := Kd.V_get HO_25.out [] x27_2 p137 (by first | exact q137 | exact of_decide_eq_true (by first | (with_reducible assumption) | assumption) | (have e_ := (Kd.V_reads' HO_25.out).1; omega))
          obtain ⟨ua137_0, uc137_0, rfl, ul137_0, ge137_0⟩ := Kd.FK_slice_open hMe137
          have hv137_0 := hcc137 0 _ rfl
          rw [Nat.add_zero, show ((Kd.slice 44 k44)).sz = 1 from rfl, Nat.mul_one] at hv137_0
          replace hv137_0 := Option.some.inj (hv137_0.symm.trans hx137_0)
          injection hv137_0 with hva_ hvn_ hvc_
          rw [hva_] at ge137_0
          rw [hvc_] at ul137_0
          have HL137_0 := Aside0.mk (show Kd.V k44 44 _ w.heap.size _ _ (rd_L5 l0 x27_2) from Kd.V_mk ul137_0 ge137_0)
          clear hva_ hvn_ hvc_ ge137_0 ul137_0
          clear hcc137 hce137
          have HR137_0 := Aside0.mk hi137_0
          have HC137_0 := Aside0.mk hl137_0
          clear hi137_0 hl137_0
          replace p137 := eq_true p137
          replace q137 := eq_true q137
          go_wp2_with (first | ((with_reducible refine gate_builtin (b := .append) (xs := #[.tmp 31, .tmp 32]) rfl ?_); at_builtin; refine Kd.N_append_rows k44 (w0 := w) w.heap.size rfl (.tmp 31) (.tmp 32) 31 44 (.agg #[(.slice none 0 0), (.int .i64 0)]) 32 rfl Try.underlying31 info44 rfl (by decide) (by omega) u6 x6_2 (rd_L5 l0 x27_2) _ _ _ (fun k_ => (P0_ k_ ∨ w.heap.size ≤ k_)) (fun k_ => ((fun k_ => (P0_ k_ ∨ w.heap.size ≤ k_))) k_ ∧ some k_ ≠ (u6 : Value).ownBlock) rfl rfl ?aO ?aR (fun _ hk => hk) ?aF ?aB ?aS ?aL ?_; (case aR => exact (by skip; exact Kd.V_F (Kd.V_mono (ok' := (fun k_ => ((fun k_ => (P0_ k_ ∨ w.heap.size ≤ k_))) k_ ∧ some k_ ≠ (u6 : Value).ownBlock)) (HL137_0.out) (fun k_ hk => ⟨hk.1, hk.2⟩)))); (case aB => exact qh_); (case aF => exact (fun k_ hk => (.inr (Nat.le_trans (below_size qh_) hk)))); (case aO => exact (qn_ HO_6.out)); (case aS => exact (below_size qh_)); (case aL => have := LMc11.out; omega); intro v139 w12 ho hb hg hat; rw [← Ny138.out] at ho; have n0_ := Aside0.mk (Kd.V_afterv (ok := (fun k_ => (P0_ k_ ∨ w.heap.size ≤ k_))) (qv_ HO_25.out) hg hat); have n1_ := Aside0.mk (Kd.V_afterv (ok := (fun k_ => (P0_ k_ ∨ w.heap.size ≤ k_))) (qv_ HL137_0.out) hg hat); have n2_ := Aside0.mk (hb); have n3_ := Aside0.mk (ho); clear HO_25; clear HL137_0; clear HB; clear HO_6; have HO_25 := n0_; have HL137_0 := n1_; have HB := n2_; have HO140 := n3_; clear n0_ n1_ n2_ n3_; clear ho hb hg hat))
          go_roundg k2
          case measure => have := HK1.out; have := HK2.out; omega
          case rel => exact ⟨(y138), (wrap64 (x27_2 + 1)), (by first | rfl | (simp; done) | (simp [*]; done)), H', ⟨by have := HK1.out; have := HK2.out; omega⟩, ⟨qn_ HO140.out⟩, ⟨qv_ HO_25.out⟩, ⟨qh_⟩⟩
         ·rw [if_neg c11] at H
          exact absurd H (by simp)
        ·rw [if_neg c10] at H
         exact absurd H (by simp)
       ·rw [if_neg c9] at H
        exact absurd H (by simp)
      ·rw [if_neg c8] at H
       have c8b0 : decide (x27_2 < (l0.length : Int)) = false := decide_eq_false c8
       clear c8
       obtain rfl := Option.some.inj H
       go_wp2
       go_ret
       exact ⟨_, by first | rfl | (simp [errW_none, errW_some] <;> rfl) | (simp [*, errW_none, errW_some] <;> rfl), by (with_reducible repeat (first | apply Kd.N_alloc | apply Kd.N_drewN | apply Kd.N_drew)); exact HO_6.out, qh_⟩
def eval_join.f (a0_0 : Int) (a0_1 : ByteArray) (a0_2 : ByteArray) (l0_3 : List Int) (l0_4 : List Int) (a0_5 : Int) (a0_6 : Int) (a0_7 : Int) (a0_8 : ByteArray) (l0_9 : List (S46)) (l1 : List (S44)) (l2 : List (S44)) : Option ((List (S44))) := none
set_option maxHeartbeats 8000000 in
set_option maxRecDepth 100000 in
theorem eval_join.calls (a0_0 : Int) (a0_1 : ByteArray) (a0_2 : ByteArray) (A0_3 : Option Addr) (c0_3 : Nat) (l0_3 : List Int) (A0_4 : Option Addr) (c0_4 : Nat) (l0_4 : List Int) (a0_5 : Int) (a0_6 : Int) (a0_7 : Int) (a0_8 : ByteArray) (A0_9 : Option Addr) (c0_9 : Nat) (l0_9 : List (S46)) (A1 : Option Addr) (c1 : Nat) (l1 : List (S44)) (A2 : Option Addr) (c2 : Nat) (l2 : List (S44)) (r : List (S44)) (w : World) (hr0_3 : Kd.C (Kd.int .i64) w A0_3 l0_3.length l0_3) (hc0_3 : l0_3.length ≤ c0_3) (hr0_4 : Kd.C (Kd.int .i64) w A0_4 l0_4.length l0_4) (hc0_4 : l0_4.length ≤ c0_4) (hr0_9 : Kd.C k46 w A0_9 l0_9.length l0_9) (hc0_9 : l0_9.length ≤ c0_9) (hr1 : Kd.C k44 w A1 l1.length l1) (hc1 : l1.length ≤ c1) (hr2 : Kd.C k44 w A2 l2.length l2) (hc2 : l2.length ≤ c2) (h : eval_join.f a0_0 a0_1 a0_2 l0_3 l0_4 a0_5 a0_6 a0_7 a0_8 l0_9 l1 l2 = some r) :
  Calls Try.prog 23 #[.agg #[.int .i64 a0_0, .string a0_1, .string a0_2, .slice A0_3 l0_3.length c0_3, .slice A0_4 l0_4.length c0_4, .int .i64 a0_5, .int .i64 a0_6, .int .i64 a0_7, .string a0_8, .slice A0_9 l0_9.length c0_9], .slice A1 l1.length c1, .slice A2 l2.length c2] w fun e w' => ∃ v0_ : Value, e = .returned (v0_) ∧ Kd.S k44 44 w' w.heap.size (fun _ => True) v0_ r ∧ Below w.heap.size w w' := by
 have hu37 := Try.underlying37
 have hu44 := Try.underlying44
 have HR0_3 := Aside0.mk hr0_3
 have HC0_3 := Aside0.mk hc0_3
 clear hr0_3 hc0_3
 have HR0_4 := Aside0.mk hr0_4
 have HC0_4 := Aside0.mk hc0_4
 clear hr0_4 hc0_4
 have HR0_9 := Aside0.mk hr0_9
 have HC0_9 := Aside0.mk hc0_9
 clear hr0_9 hc0_9
 have HR1 := Aside0.mk hr1
 have HC1 := Aside0.mk hc1
 clear hr1 hc1
 have HR2 := Aside0.mk hr2
 have HC2 := Aside0.mk hc2
 clear hr2 hc2
 have HB := Aside0.mk (Below.refl w.heap.size w)
 have H : (none) = some r := h
 clear h
 exact absurd H (by simp)
end Go.Proofs.Ytgapgdnbgimdlaa.PA
end
section
set_option linter.unusedVariables false
set_option linter.unusedSimpArgs false
namespace Go.Proofs.Ytgapgdnbgimdlaa.PA
open Go.RowKit Go.Proofs.YtgapgdnbgimdlaaW.PrintWords Go.Proofs.YtgapgdnbgimdlaaW.PrintLast Go.Proofs.YtgapgdnbgimdlaaW.PrintMore
attribute [local go_sem] max2_int min2_int max_two min_two max_three min_three max_four min_four
section
variable {P : Program} {ops : Array Oper} {Q : Exit → Act → World → Prop}
theorem gateC_ {rest : List Oper} {o : Oper} {a : Act} {W : World} (t : Tmp) {ys : Array Operand} {ts : Array TypeId} (_ho : o.op = .call { callee := .value (.tmp t), args := ys, argTypes := ts }) (h : wpList P ops Q (o :: rest) a W) : wpList P ops Q (o :: rest) a W := h
theorem goesC_ {rest : List Oper} {oi : Oper} {a : Act} {w : World} (N : Option Tmp) (hd : oi.dst = N) (hg : oi.guard = none) {f : FuncId} {lb : Array Value} (he : ∀ args w, (callFunc f args).run P w = .ok (.enter f args) w) {x : Operand} {ys : Array Operand} {ts : Array TypeId} (args : Array Value)
  (hop : oi.op = .call { callee := .value x, args := ys, argTypes := ts }) (hargs : ys.map a.eval = args) (hx : a.eval x = .func (.func f) #[] lb)
  (h : Calls P f (args ++ lb) w fun e w' => ∃ v, e = .returned v ∧ wpList P ops Q rest (a.put N v) w') : wpList P ops Q (oi :: rest) a w := by
 refine wpList_plain hg fun K hK => ?_
 have hrun : (execOp a.eval oi).run P w = .ok (.enter f (args ++ lb)) w := by
  unfold execOp
  simp [hop, hx, resolve, Deferred.ofValue, invoke, hargs, he]
 unfold Oper.wp
 rw [hrun, Oper.upon_enter]
 refine h.mono fun e w'' hh => ?_
 obtain ⟨v, rfl, hk⟩ := hh
 subst hd
 exact hK _ _ hk
end
theorem takes_enter {kind : Int} (hk : kind = 1 ∨ kind = 2) : ∀ args w, (callFunc (takeNo kind) args).run Try.prog w = .ok (.enter (takeNo kind) args) w := by
 rcases hk with rfl | rfl
 ·exact fun args w => enters_ Try.func52 (by kernel_rfl) rfl args w
 ·exact fun args w => enters_ Try.func53 (by kernel_rfl) rfl args w
theorem ends_enter : ∀ args w, (callFunc 51 args).run Try.prog w = .ok (.enter 51 args) w := fun args w => enters_ Try.func51 (by kernel_rfl) rfl args w
def colOf (r : List S23) (c : Int) : S23 := if 0 ≤ c ∧ c < r.length then rd_T23 r c else z23
def tellSum (g : S46) (l : List S44) : Int := l.foldl (fun n x => takeOf g.f0 n (colOf x.f0 g.f1) x.f1) 0
def group_tell (g : S46) (l : List S44) : Option S23 := if g.f0 = 1 ∨ g.f0 = 2 then some ⟨1, tellSum g l, ⟨#[]⟩⟩ else none
theorem group_tell_some {g : S46} {l : List S44} {v : S23} (h : group_tell g l = some v) : (g.f0 = 1 ∨ g.f0 = 2) ∧ v = ⟨1, tellSum g l, ⟨#[]⟩⟩ := by
 unfold group_tell at h
 split at h
 ·exact ⟨by assumption, (Option.some.inj h).symm⟩
 ·cases h
theorem tellSum_snoc (g : S46) (l : List S44) (j : Nat) (hj : j < l.length) : tellSum g (l.take (j + 1)) = takeOf g.f0 (tellSum g (l.take j)) (colOf (rd_T44 l (j : Int)).f0 g.f1) (rd_T44 l (j : Int)).f1 := by
 unfold tellSum
 rw [List.take_succ_eq_append_getElem hj, List.foldl_append]
 simp [rd_T44, hj]
theorem taken_grown (w : World) (s : Nat) (m : Int) (x : S23) : w.grownBy (taken w s m x) (some s) := World.grownBy.trans (b := w.setCell ⟨s, 0, none⟩ (.int .i64 m)) ⟨rfl, rfl, rfl, by show w.heap.size ≤ (w.heap.modify _ _).size; rw [Array.size_modify]; exact Nat.le_refl _, fun k _ hk => Below.heap_setCell _ _ _ k (fun e => hk (by rw [e]))⟩ (World.grownBy_alloc _ _ _)
theorem colOf_in {r : List S23} {c : Int} (h0 : 0 ≤ c) (h1 : c < r.length) : colOf r c = rd_T23 r c := if_pos ⟨h0, h1⟩
theorem colOf_low {r : List S23} {c : Int} (h : ¬ 0 ≤ c) : colOf r c = z23 := if_neg (fun e => h e.1)
theorem colOf_high {r : List S23} {c : Int} (h : ¬ c < r.length) : colOf r c = z23 := if_neg (fun e => h e.2)
mutual
def eval_group.l0 : Nat → List (S44) → Int → List (S44) → Int → Int → Int → ByteArray → ByteArray → List Int → List Int → Int → Int → Int → ByteArray → List (S46) → Option ((List (S44)))
 | 0, _, _, _, _, _, _, _, _, _, _, _, _, _, _, _ => none
 | k + 1, x1, x5, x15, x16, x17, x107000, x107001, x107002, x107003, x107004, x107005, x107006, x107007, x107008, x107009 => if x17 < x16 then (if 0 ≤ x17 then (if x17 < (x15.length : Int) then (eval_group.l0 k x1 (wrap64 (x5 + ((rd_T44 x15 x17).f1))) x15 x16 (wrap64 (x17 + 1)) x107000 x107001 x107002 x107003 x107004 x107005 x107006 x107007 x107008 x107009) else (none)) else (none)) else (if x5 ≤ 0 then (some ([] : List (S44))) else (if 0 < (x1.length : Int) then ((eval_Picked.f k ((rd_T44 x1 0).f0) x107003).bind fun t110 => (eval_group.l1 k x1 t110 x107009 (x107009.length : Int) 0)) else (none)))
def eval_group.l1 : Nat → List (S44) → List (S23) → List (S46) → Int → Int → Option ((List (S44)))
 | 0, _, _, _, _, _ => none
 | k + 1, x1, x8, x36, x37, x38 => if x38 < x37 then (if 0 ≤ x38 then (if x38 < (x36.length : Int) then ((group_tell (rd_T46 x36 x38) x1).bind fun t112 => (if x8.length < 4398046511104 then (eval_group.l1 k x1 (x8 ++ [t112]) x36 x37 (wrap64 (x38 + 1))) else (none))) else (none)) else (none)) else (some (([(⟨x8, 1⟩ : S44)] : List (S44))))
end
def eval_group.f (k : Nat) (a0_0 : Int) (a0_1 : ByteArray) (a0_2 : ByteArray) (l0_3 : List Int) (l0_4 : List Int) (a0_5 : Int) (a0_6 : Int) (a0_7 : Int) (a0_8 : ByteArray) (l0_9 : List (S46)) (l1 : List (S44)) : Option ((List (S44))) := eval_group.l0 k l1 0 l1 (l1.length : Int) 0 a0_0 a0_1 a0_2 l0_3 l0_4 a0_5 a0_6 a0_7 a0_8 l0_9
theorem eval_group.mono_l : ∀ k, (∀ y0 y1 y2 y3 y4 y5 y6 y7 y8 y9 y10 y11 y12 y13 y14, LeO (eval_group.l0 k y0 y1 y2 y3 y4 y5 y6 y7 y8 y9 y10 y11 y12 y13 y14) (eval_group.l0 (k + 1) y0 y1 y2 y3 y4 y5 y6 y7 y8 y9 y10 y11 y12 y13 y14)) ∧ (∀ y0 y1 y2 y3 y4, LeO (eval_group.l1 k y0 y1 y2 y3 y4) (eval_group.l1 (k + 1) y0 y1 y2 y3 y4))
 | 0 => ⟨fun _ _ _ _ _ _ _ _ _ _ _ _ _ _ _ r h => by simp [eval_group.l0] at h, fun _ _ _ _ _ r h => by simp [eval_group.l1] at h⟩
 | k + 1 => by
  obtain ⟨ih0, ih1⟩ := eval_group.mono_l k
  refine ⟨?_, ?_⟩
  ·intro y0 y1 y2 y3 y4 y5 y6 y7 y8 y9 y10 y11 y12 y13 y14
   unfold eval_group.l0
   repeat' first
   | (with_reducible exact ih0 _ _ _ _ _ _ _ _ _ _ _ _ _ _ _)
   | (with_reducible exact ih1 _ _ _ _ _)
   | (with_reducible exact eval_Picked.mono _ _ _)
   | (with_reducible exact LeO.refl _)
   | (with_reducible exact LeO.none _)
   | (with_reducible refine LeO.ite ?_ ?_)
   | (with_reducible refine LeO.bind ?_ (fun _ => ?_))
   | exact ih0 _ _ _ _ _ _ _ _ _ _ _ _ _ _ _
   | exact ih1 _ _ _ _ _
   | exact eval_Picked.mono _ _ _
   | exact LeO.none _
   | refine LeO.ite ?_ ?_
   | refine LeO.bind ?_ (fun _ => ?_)
  ·intro y0 y1 y2 y3 y4
   unfold eval_group.l1
   repeat' first
   | (with_reducible exact ih0 _ _ _ _ _ _ _ _ _ _ _ _ _ _ _)
   | (with_reducible exact ih1 _ _ _ _ _)
   | (with_reducible exact eval_Picked.mono _ _ _)
   | (with_reducible exact LeO.refl _)
   | (with_reducible exact LeO.none _)
   | (with_reducible refine LeO.ite ?_ ?_)
   | (with_reducible refine LeO.bind ?_ (fun _ => ?_))
   | exact ih0 _ _ _ _ _ _ _ _ _ _ _ _ _ _ _
   | exact ih1 _ _ _ _ _
   | exact eval_Picked.mono _ _ _
   | exact LeO.none _
   | refine LeO.ite ?_ ?_
   | refine LeO.bind ?_ (fun _ => ?_)
theorem eval_group.mono : ∀ a0 a1 a2 a3 a4 a5 a6 a7 a8 a9 a10 k, LeO (eval_group.f k a0 a1 a2 a3 a4 a5 a6 a7 a8 a9 a10) (eval_group.f (k + 1) a0 a1 a2 a3 a4 a5 a6 a7 a8 a9 a10) := by
 intro a0 a1 a2 a3 a4 a5 a6 a7 a8 a9 a10 k
 obtain ⟨ih0, ih1⟩ := eval_group.mono_l k
 unfold eval_group.f
 repeat' first
   | (with_reducible exact ih0 _ _ _ _ _ _ _ _ _ _ _ _ _ _ _)
   | (with_reducible exact ih1 _ _ _ _ _)
   | (with_reducible exact eval_Picked.mono _ _ _)
   | (with_reducible exact LeO.refl _)
   | (with_reducible exact LeO.none _)
   | (with_reducible refine LeO.ite ?_ ?_)
   | (with_reducible refine LeO.bind ?_ (fun _ => ?_))
   | exact ih0 _ _ _ _ _ _ _ _ _ _ _ _ _ _ _
   | exact ih1 _ _ _ _ _
   | exact eval_Picked.mono _ _ _
   | exact LeO.none _
   | refine LeO.ite ?_ ?_
   | refine LeO.bind ?_ (fun _ => ?_)
def eval_group.T9 : Bool × List (List Nat × List Nat) := (true, [([], []), ([0], [0]), ([1], [1]), ([2], [2]), ([], []), ([4], [4]), ([3, 5], [3, 5]), ([6, 6, 0, 1, 2, 3, 4, 5, 6], [6])])
def eval_group.B9 : List Nat := [0, 1, 3, 7, 0, 16, 63, 127]
theorem eval_group.tab9 : rtab .any (opsOf Try.f27 9) = eval_group.T9 := by kernel_rfl
theorem eval_group.bits9 : waitsOk eval_group.T9.2 eval_group.B9 = true := by kernel_rfl
set_option maxHeartbeats 8000000 in
set_option maxRecDepth 100000 in
theorem eval_group.calls (k : Nat) (a0_0 : Int) (a0_1 : ByteArray) (a0_2 : ByteArray) (A0_3 : Option Addr) (c0_3 : Nat) (l0_3 : List Int) (A0_4 : Option Addr) (c0_4 : Nat) (l0_4 : List Int) (a0_5 : Int) (a0_6 : Int) (a0_7 : Int) (a0_8 : ByteArray) (A0_9 : Option Addr) (c0_9 : Nat) (l0_9 : List (S46)) (A1 : Option Addr) (c1 : Nat) (l1 : List (S44)) (r : List (S44)) (w : World) (hr0_3 : Kd.C (Kd.int .i64) w A0_3 l0_3.length l0_3) (hc0_3 : l0_3.length ≤ c0_3) (hr0_4 : Kd.C (Kd.int .i64) w A0_4 l0_4.length l0_4) (hc0_4 : l0_4.length ≤ c0_4) (hr0_9 : Kd.C k46 w A0_9 l0_9.length l0_9) (hc0_9 : l0_9.length ≤ c0_9) (hr1 : Kd.C k44 w A1 l1.length l1) (hc1 : l1.length ≤ c1) (h : eval_group.f k a0_0 a0_1 a0_2 l0_3 l0_4 a0_5 a0_6 a0_7 a0_8 l0_9 l1 = some r) :
  Calls Try.prog 27 #[.agg #[.int .i64 a0_0, .string a0_1, .string a0_2, .slice A0_3 l0_3.length c0_3, .slice A0_4 l0_4.length c0_4, .int .i64 a0_5, .int .i64 a0_6, .int .i64 a0_7, .string a0_8, .slice A0_9 l0_9.length c0_9], .slice A1 l1.length c1] w fun e w' => ∃ v0_ : Value, e = .returned (v0_) ∧ Kd.N k44 44 w' w.heap.size (fun k_ => (w.heap.size ≤ k_)) v0_ r ∧ Below w.heap.size w w' := by
 have hu37 := Try.underlying37
 have hu44 := Try.underlying44
 have hu46 := Try.underlying46
 have hu23 := Try.underlying23
 have HR0_3 := Aside0.mk hr0_3
 have HC0_3 := Aside0.mk hc0_3
 clear hr0_3 hc0_3
 have HR0_4 := Aside0.mk hr0_4
 have HC0_4 := Aside0.mk hc0_4
 clear hr0_4 hc0_4
 have HR0_9 := Aside0.mk hr0_9
 have HC0_9 := Aside0.mk hc0_9
 clear hr0_9 hc0_9
 have HR1 := Aside0.mk hr1
 have HC1 := Aside0.mk hc1
 clear hr1 hc1
 have HB := Aside0.mk (Below.refl w.heap.size w)
 have H : (eval_group.l0 k l1 0 l1 (l1.length : Int) 0 a0_0 a0_1 a0_2 l0_3 l0_4 a0_5 a0_6 a0_7 a0_8 l0_9) = some r := h
 clear h
 have H' := Aside0.mk H
 clear H
 go_enter Try.func27, Try.ntmps27
 go_wp2_with (first | ((with_reducible refine gate_dst (N := 2) rfl ?_); (try (refine gate_guard (by rfl) ?_; dsimp only)); refine box_event ?hg (N := 2) ?hd (cs := #[.int .i64 a0_0, .string a0_1, .string a0_2, .slice A0_3 l0_3.length c0_3, .slice A0_4 l0_4.length c0_4, .int .i64 a0_5, .int .i64 a0_6, .int .i64 a0_7, .string a0_8, .slice A0_9 l0_9.length c0_9]) (t := 37) ?hr ?_; (case hd => rfl); (case hg => rfl); (case hr => first | (go_simp; done) | (go_simp; rfl)); intro gb106 hg w3 hbox hb; have n0_ := Aside0.mk (below_step (by repeat (first | (with_reducible first | exact HB.out | apply below_alloc | apply pw_below_drewN | apply below_drew1) | exact HB.out)) hb); have n1_ := Aside0.mk (hbox); have n2_ := Aside0.mk ((by rw [hg]; exact (below_size (by repeat (first | (with_reducible first | exact HB.out | apply below_alloc | apply pw_below_drewN | apply below_drew1) | exact HB.out))) : w.heap.size ≤ gb106)); have n3_ := Aside0.mk ((by rw [hg]; exact (below_size (by repeat (first | (with_reducible first | exact HB.out | apply below_alloc | apply pw_below_drewN | apply below_drew1) | exact HB.out))) : w.heap.size ≤ gb106)); clear HB; have HB := n0_; have BK106 := n1_; have GW106 := n2_; have GE106 := n3_; clear n0_ n1_ n2_ n3_; clear hb hbox hg))
 go_loopg [5, 17] k (fun kq v5 v17 w' => ∃ (x5_1 : Int) (x17_1 : Int), v5 = .int .i64 x5_1 ∧ v17 = .int .i64 x17_1 ∧ Aside0 (eval_group.l0 kq l1 x5_1 l1 (l1.length : Int) x17_1 a0_0 a0_1 a0_2 l0_3 l0_4 a0_5 a0_6 a0_7 a0_8 l0_9 = some r) ∧ Aside0 (kq ≤ k) ∧ Aside0 (w'.heap[gb106]? = some (.cells #[.int .i64 a0_0, .string a0_1, .string a0_2, (.slice A0_3 l0_3.length c0_3), (.slice A0_4 l0_4.length c0_4), .int .i64 a0_5, .int .i64 a0_6, .int .i64 a0_7, .string a0_8, (.slice A0_9 l0_9.length c0_9)] 37 (0, 0))) ∧ Aside0 (Below w.heap.size w w'))
 case atStart => exact ⟨(0), (0), (by first | rfl | (simp; done) | (simp [*]; done)), (by first | rfl | (simp; done) | (simp [*]; done)), H', ⟨Nat.le_refl _⟩, ⟨by (with_reducible repeat (first | refine blk_drewN ?_ _ | refine blk_drew ?_ | refine blk_alloc ?_ _)); exact BK106.out⟩, ⟨by repeat (first | (with_reducible first | exact HB.out | apply below_alloc | apply pw_below_drewN | apply below_drew1 | refine below_set ?_ GE106.out) | exact HB.out)⟩⟩
 case round =>
  clear H'
  try clear c1
  try clear c2
  try clear p2
  obtain ⟨x5_1, x17_1, rfl, rfl, HA, HK1, BK106, HB⟩ := hrel
  cases gk with
  | zero => exact absurd HA.out (by simp [eval_group.l0])
  | succ k1 =>
   have H := HA.out
   clear HA
   simp only [eval_group.l0] at H
   by_cases c4 : x17_1 < (l1.length : Int)
   ·rw [if_pos c4] at H
    have c4b0 : decide (x17_1 < (l1.length : Int)) = true := decide_eq_true c4
    clear c4
    by_cases c5 : 0 ≤ x17_1
    ·rw [if_pos c5] at H
     have c5b0 : decide (0 ≤ x17_1) = true := decide_eq_true c5
     clear c5
     by_cases c6 : x17_1 < (l1.length : Int)
     ·rw [if_pos c6] at H
      have c6b0 : decide (x17_1 < (l1.length : Int)) = true := decide_eq_true c6
      clear c6
      have H' := Aside0.mk H
      clear H
      have p107 : 0 ≤ (x17_1 : Int) := of_decide_eq_true (by first | (with_reducible assumption) | assumption)
      have q107 : x17_1 < (l1.length : Int) := of_decide_eq_true (by first | (with_reducible assumption) | assumption)
      obtain ⟨ad107, A107_0, c107_0, e107, hx107_0, hx107_1, hl107_0, hi107_0⟩ := at_T44 HR1.out x17_1 p107 q107
      cases e107
      replace hx107_0 := (HB.out.cell (World.block_lt_of_cell? w _ hx107_0)).trans hx107_0
      replace hx107_1 := (HB.out.cell (World.block_lt_of_cell? w _ hx107_1)).trans hx107_1
      have HR107_0 := Aside0.mk hi107_0
      have HC107_0 := Aside0.mk hl107_0
      clear hi107_0 hl107_0
      replace p107 := eq_true p107
      replace q107 := eq_true q107
      go_wp2_with (first | ((with_reducible refine gate_dst (N := 7) rfl ?_); (try (refine gate_guard (by rfl) ?_; dsimp only)); refine box_event ?hg (N := 7) ?hd (cs := #[.slice none 0 0, .int .i64 0]) (t := 44) ?hr ?_; (case hd => rfl); (case hg => rfl); (case hr => first | (go_simp; done) | (go_simp; rfl)); intro gb108 hg w7 hbox hb; have n0_ := Aside0.mk (blk_below (g := gb106) (o := .cells #[.int .i64 a0_0, .string a0_1, .string a0_2, .slice A0_3 l0_3.length c0_3, .slice A0_4 l0_4.length c0_4, .int .i64 a0_5, .int .i64 a0_6, .int .i64 a0_7, .string a0_8, .slice A0_9 l0_9.length c0_9] 37 (0, 0)) (by (with_reducible repeat (first | refine blk_drewN ?_ _ | refine blk_drew ?_ | refine blk_alloc ?_ _)); exact BK106.out) hb); have n1_ := Aside0.mk (below_step (by repeat (first | (with_reducible first | exact HB.out | apply below_alloc | apply pw_below_drewN | apply below_drew1 | refine below_set ?_ GE106.out) | exact HB.out)) hb); have n2_ := Aside0.mk (hbox); have n3_ := Aside0.mk ((by rw [hg]; exact (below_size (by repeat (first | (with_reducible first | exact HB.out | apply below_alloc | apply pw_below_drewN | apply below_drew1 | refine below_set ?_ GE106.out) | exact HB.out))) : w.heap.size ≤ gb108)); have n4_ := Aside0.mk ((by rw [hg]; exact (below_size (by repeat (first | (with_reducible first | exact HB.out | apply below_alloc | apply pw_below_drewN | apply below_drew1 | refine below_set ?_ GE106.out) | exact HB.out))) : w.heap.size ≤ gb108)); have n5_ := Aside0.mk ((by rw [hg]; exact Nat.ne_of_lt (blk_lt (g := gb106) (o := .cells #[.int .i64 a0_0, .string a0_1, .string a0_2, .slice A0_3 l0_3.length c0_3, .slice A0_4 l0_4.length c0_4, .int .i64 a0_5, .int .i64 a0_6, .int .i64 a0_7, .string a0_8, .slice A0_9 l0_9.length c0_9] 37 (0, 0)) (by (with_reducible repeat (first | refine blk_drewN ?_ _ | refine blk_drew ?_ | refine blk_alloc ?_ _)); exact BK106.out)) : gb106 ≠ gb108)); have n6_ := Aside0.mk ((by rw [hg]; exact Nat.ne_of_gt (blk_lt (g := gb106) (o := .cells #[.int .i64 a0_0, .string a0_1, .string a0_2, .slice A0_3 l0_3.length c0_3, .slice A0_4 l0_4.length c0_4, .int .i64 a0_5, .int .i64 a0_6, .int .i64 a0_7, .string a0_8, .slice A0_9 l0_9.length c0_9] 37 (0, 0)) (by (with_reducible repeat (first | refine blk_drewN ?_ _ | refine blk_drew ?_ | refine blk_alloc ?_ _)); exact BK106.out)) : gb108 ≠ gb106)); clear BK106; clear HB; have BK106 := n0_; have HB := n1_; have BK108 := n2_; have GW108 := n3_; have GE108 := n4_; have NB106_108 := n5_; have NB108_106 := n6_; clear n0_ n1_ n2_ n3_ n4_ n5_ n6_; clear hb hbox hg; have hnb8 := NB108_106.out; have hnc8 := NB106_108.out; have hcz9_0 : w7.cell? ⟨gb108, 0, none⟩ = some (.slice none 0 0) := (blk_cell BK108.out 0).trans rfl; have hcz9_1 : w7.cell? ⟨gb108, 1, none⟩ = some (.int .i64 0) := (blk_cell BK108.out 1).trans rfl; have hfz9_0 := blk_frozen BK108.out 0; have hfz9_1 := blk_frozen BK108.out 1))
      go_roundg k1
      case measure => have := HK1.out; omega
      case rel => exact ⟨(wrap64 (x5_1 + ((rd_T44 l1 x17_1).f1))), (wrap64 (x17_1 + 1)), (by first | rfl | (simp; done) | (simp [*]; done)), (by first | rfl | (simp; done) | (simp [*]; done)), H', ⟨by have := HK1.out; omega⟩, ⟨by (with_reducible repeat (first | refine blk_drewN ?_ _ | refine blk_drew ?_ | refine blk_alloc ?_ _)); refine blk_far ?_ NB106_108.out _; (with_reducible repeat (first | refine blk_drewN ?_ _ | refine blk_drew ?_ | refine blk_alloc ?_ _)); refine blk_far ?_ NB106_108.out _; (with_reducible repeat (first | refine blk_drewN ?_ _ | refine blk_drew ?_ | refine blk_alloc ?_ _)); exact BK106.out⟩, ⟨by repeat (first | (with_reducible first | exact HB.out | apply below_alloc | apply pw_below_drewN | apply below_drew1 | refine below_set ?_ GE106.out | refine below_set ?_ GE108.out) | exact HB.out)⟩⟩
     ·rw [if_neg c6] at H
      exact absurd H (by simp)
    ·rw [if_neg c5] at H
     exact absurd H (by simp)
   ·rw [if_neg c4] at H
    have c4b0 : decide (x17_1 < (l1.length : Int)) = false := decide_eq_false c4
    clear c4
    by_cases c10 : x5_1 ≤ 0
    ·rw [if_pos c10] at H
     have c10b0 : decide (x5_1 ≤ 0) = true := decide_eq_true c10
     clear c10
     obtain rfl := Option.some.inj H
     go_wp2
     go_ret
     exact ⟨_, by first | rfl | (simp [errW_none, errW_some] <;> rfl) | (simp [*, errW_none, errW_some] <;> rfl), by first | exact Kd.S_nil _ _ _ _ _ | exact Kd.N_nil _ _ _ _ _ | exact Kd.V_nil _ _ _ _ _ | exact Kd.Q_nil _ _ _ _ _ | exact Kd.R_nil _ _ _ _ _, by repeat (first | (with_reducible first | exact HB.out | apply below_alloc | apply pw_below_drewN | apply below_drew1 | refine below_set ?_ GE106.out) | exact HB.out)⟩
    ·rw [if_neg c10] at H
     have c10b0 : decide (x5_1 ≤ 0) = false := decide_eq_false c10
     clear c10
     by_cases c11 : 0 < (l1.length : Int)
     ·rw [if_pos c11] at H
      have c11b0 : decide (0 < (l1.length : Int)) = true := decide_eq_true c11
      have c11b1 : decide (0 < l1.length) = true := decide_eq_true (by omega)
      clear c11
      replace H := Option.bind_eq_some_iff.mp H
      obtain ⟨t110, A120, H⟩ := H
      replace H : (eval_group.l1 k1 l1 t110 l0_9 (l0_9.length : Int) 0) = some r := H
      have A12 := Aside0.mk A120
      clear A120
      have H' := Aside0.mk H
      clear H
      try go_wp2
      have n0_ := Aside0.mk (blk_drew BK106.out)
      have n1_ := Aside0.mk (below_drew1 HB.out)
      clear BK106
      clear HB
      have BK106 := n0_
      have HB := n1_
      clear n0_ n1_
      have p109 : 0 ≤ (0 : Int) := (by omega)
      have q109 : 0 < (l1.length : Int) := of_decide_eq_true (by first | (with_reducible assumption) | assumption)
      obtain ⟨ad109, A109_0, c109_0, e109, hx109_0, hx109_1, hl109_0, hi109_0⟩ := at_T44 HR1.out 0 p109 q109
      have hw109_1 := hx109_1
      (try rw [show ((0 : Int)).toNat = 0 from rfl] at hw109_1)
      (try rw [show 0 * 2 = 0 from rfl] at hw109_1)
      (try rw [Addr.add_zero'] at hw109_1)
      have hw109_0 := hx109_0
      (try rw [show ((0 : Int)).toNat = 0 from rfl] at hw109_0)
      (try rw [show 0 * 2 = 0 from rfl] at hw109_0)
      (try rw [Addr.add_zero'] at hw109_0)
      cases e109
      have qi109 : (0 < l1.length) = True := eq_true (by omega)
      (try rw [show ((0 : Int)).toNat = 0 from rfl] at hx109_0)
      (try rw [show 0 * 2 = 0 from rfl] at hx109_0)
      (try rw [Addr.add_zero'] at hx109_0)
      (try rw [show ((0 : Int)).toNat = 0 from rfl] at hx109_1)
      (try rw [show 0 * 2 = 0 from rfl] at hx109_1)
      (try rw [Addr.add_zero'] at hx109_1)
      replace hx109_0 := (HB.out.cell (World.block_lt_of_cell? w _ hx109_0)).trans hx109_0
      replace hx109_1 := (HB.out.cell (World.block_lt_of_cell? w _ hx109_1)).trans hx109_1
      have HR109_0 := Aside0.mk hi109_0
      have HC109_0 := Aside0.mk hl109_0
      clear hi109_0 hl109_0
      replace p109 := eq_true p109
      replace q109 := eq_true q109
      refine start_ (n := 8) (S := fun w' => w'.cell? ⟨gb106, 0, none⟩ = some (.int .i64 a0_0) ∧ w'.cell? ⟨gb106, 1, none⟩ = some (.string a0_1) ∧ w'.cell? ⟨gb106, 2, none⟩ = some (.string a0_2) ∧ w'.cell? ⟨gb106, 3, none⟩ = some (.slice A0_3 l0_3.length c0_3) ∧ w'.cell? ⟨gb106, 4, none⟩ = some (.slice A0_4 l0_4.length c0_4) ∧ w'.cell? ⟨gb106, 5, none⟩ = some (.int .i64 a0_5) ∧ w'.cell? ⟨gb106, 6, none⟩ = some (.int .i64 a0_6) ∧ w'.cell? ⟨gb106, 7, none⟩ = some (.int .i64 a0_7) ∧ w'.cell? ⟨gb106, 8, none⟩ = some (.string a0_8) ∧ w'.cell? ⟨gb106, 9, none⟩ = some (.slice A0_9 l0_9.length c0_9) ∧ w'.cell? ad109 = some (.slice A109_0 ((rd_T44 l1 0).f0).length c109_0) ∧ w'.cell? ⟨ad109.block, ad109.off + 1, none⟩ = some (.int .i64 ((rd_T44 l1 0).f1))) (ds := []) #[false, false, false, false, false, false, false, false] (by kernel_rfl) rfl rfl ⟨(blk_cell BK106.out 0).trans rfl, (blk_cell BK106.out 1).trans rfl, (blk_cell BK106.out 2).trans rfl, (blk_cell BK106.out 3).trans rfl, (blk_cell BK106.out 4).trans rfl, (blk_cell BK106.out 5).trans rfl, (blk_cell BK106.out 6).trans rfl, (blk_cell BK106.out 7).trans rfl, (blk_cell BK106.out 8).trans rfl, (blk_cell BK106.out 9).trans rfl, ((HB.out.cell (World.block_lt_of_cell? w _ hw109_0)).trans hw109_0), ((HB.out.cell (World.block_lt_of_cell? w _ hw109_1)).trans hw109_1)⟩ (fun hHeld => ?_); refine with_tabW eval_group.tab9 eval_group.bits9 (fun HT_ HW_ => ?_)
      generalize wr.drew = w13 at BK106 HB HR109_0 hx109_0 hx109_1 hHeld ⊢
      refine pure_ (i := 0) (N := some 28) (v := ?_) (a' := ?_) #[true, false, false, false, false, false, false, false] rfl rfl (any_of HT_.out (by kernel_rfl)) (fun _ _ _ h => h) (Or.inl ⟨by rfl, ?_⟩) ?_ ?_
      rotate_left
      ·intro w'
       go_simp
       with_reducible rfl
      rotate_left
      ·simp only [Act.put, List.setIfInBounds_toArray, List.set_cons_zero, List.set_cons_succ, i64_w, i32_w]
       rfl
      refine pure_ (i := 1) (N := some 29) (v := ?_) (a' := ?_) #[true, true, false, false, false, false, false, false] rfl rfl (any_of HT_.out (by kernel_rfl)) (fun _ _ _ h => h) (Or.inl ⟨by rfl, ?_⟩) ?_ ?_
      rotate_left
      ·intro w'
       go_simp
       with_reducible rfl
      rotate_left
      ·simp only [Act.put, List.setIfInBounds_toArray, List.set_cons_zero, List.set_cons_succ, i64_w, i32_w]
       rfl
      refine pure_ (i := 2) (N := some 30) (v := ?_) (a' := ?_) #[true, true, true, false, false, false, false, false] rfl rfl (any_of HT_.out (by kernel_rfl)) (fun _ _ _ h => h) (Or.inl ⟨by rfl, ?_⟩) ?_ ?_
      rotate_left
      ·intro w'
       go_simp
       with_reducible rfl
      rotate_left
      ·simp only [Act.put, List.setIfInBounds_toArray, List.set_cons_zero, List.set_cons_succ, i64_w, i32_w]
       rfl
      refine pure_ (i := 4) (N := some 32) (v := ?_) (a' := ?_) #[true, true, true, false, true, false, false, false] rfl rfl (any_of HT_.out (by kernel_rfl)) (fun _ _ _ h => h) (Or.inl ⟨by rfl, ?_⟩) ?_ ?_
      rotate_left
      ·intro w'
       go_simp
       with_reducible rfl
      rotate_left
      ·simp only [Act.put, List.setIfInBounds_toArray, List.set_cons_zero, List.set_cons_succ, i64_w, i32_w]
       rfl
      refine take_ (i := 3) (N := some 31) (v := ?_) (a' := ?_) #[true, true, true, true, true, false, false, false] rfl rfl (take_ofW HT_.out HW_.out (by kernel_rfl)) (fun _ _ _ h => h) (Or.inl ⟨by rfl, ?_⟩) hHeld ?_ ?_
      rotate_left
      ·rintro w' ⟨s0, s1, s2, s3, s4, s5, s6, s7, s8, s9, s10, s11⟩
       go_simp
       with_reducible rfl
      rotate_left
      ·simp only [Act.put, List.setIfInBounds_toArray, List.set_cons_zero, List.set_cons_succ, i64_w, i32_w]
       rfl
      refine take_ (i := 5) (N := some 33) (v := ?_) (a' := ?_) #[true, true, true, true, true, true, false, false] rfl rfl (take_ofW HT_.out HW_.out (by kernel_rfl)) (fun _ _ _ h => h) (Or.inl ⟨by rfl, ?_⟩) hHeld ?_ ?_
      rotate_left
      ·rintro w' ⟨s0, s1, s2, s3, s4, s5, s6, s7, s8, s9, s10, s11⟩
       go_simp
       with_reducible rfl
      rotate_left
      ·simp only [Act.put, List.setIfInBounds_toArray, List.set_cons_zero, List.set_cons_succ, i64_w, i32_w]
       rfl
      refine one_ (i := 6) (N := some 34) #[true, true, true, true, true, true, true, false] rfl rfl (one_of HT_.out (by kernel_rfl)) (by decide) (fun K hK => ?_)
      refine goes_ Try.func7 (by kernel_rfl) rfl #[.slice A109_0 ((rd_T44 l1 0).f0).length c109_0, .slice A0_3 l0_3.length c0_3] (by rfl) rfl rfl (by (try simp only [List.map_toArray, List.map_cons, List.map_nil]); first | done | rfl | (simp only [List.length_drop, List.length_take]; rfl)) ?_
      with_reducible refine (eval_Picked.calls k1 _ _ ((rd_T44 l1 0).f0) _ _ l0_3 t110 _ ?side1 ?side2 ?side3 ?side4 A12.out).mono ?_
      (case side1 => repeat (first | exact (Kd.C_below HR109_0.out HB.out) | (with_reducible refine Kd.C_alloc ?_ _) | (with_reducible refine Kd.C_drewN ?_ _) | (with_reducible refine Kd.C_drew ?_)))
      (case side2 => exact HC109_0.out)
      (case side3 => repeat (first | exact (Kd.C_below HR0_3.out HB.out) | (with_reducible refine Kd.C_alloc ?_ _) | (with_reducible refine Kd.C_drewN ?_ _) | (with_reducible refine Kd.C_drew ?_)))
      (case side4 => exact HC0_3.out)
      rintro e w14 ⟨v111, rfl, ho0, hb⟩
      refine ⟨_, rfl, ?_⟩
      have n0_ := Aside0.mk (Kd.R_lower (Kd.R_newM (M := fun k_ => (w.heap.size ≤ k_)) ho0 (below_size (by repeat (first | (with_reducible first | exact HB.out | apply below_alloc | apply pw_below_drewN | apply below_drew1 | refine below_set ?_ GE106.out) | exact HB.out))) (fun k_ h_ => h_)) (below_size (by repeat (first | (with_reducible first | exact HB.out | apply below_alloc | apply pw_below_drewN | apply below_drew1 | refine below_set ?_ GE106.out) | exact HB.out))))
      have n1_ := Aside0.mk (blk_below (g := gb106) (o := .cells #[.int .i64 a0_0, .string a0_1, .string a0_2, .slice A0_3 l0_3.length c0_3, .slice A0_4 l0_4.length c0_4, .int .i64 a0_5, .int .i64 a0_6, .int .i64 a0_7, .string a0_8, .slice A0_9 l0_9.length c0_9] 37 (0, 0)) (by (with_reducible repeat (first | refine blk_drewN ?_ _ | refine blk_drew ?_ | refine blk_alloc ?_ _)); exact BK106.out) hb)
      have n2_ := Aside0.mk (below_step (by repeat (first | (with_reducible first | exact HB.out | apply below_alloc | apply pw_below_drewN | apply below_drew1 | refine below_set ?_ GE106.out) | exact HB.out)) hb)
      clear BK106
      clear HB
      have HO112 := n0_
      have BK106 := n1_
      have HB := n2_
      clear n0_ n1_ n2_
      (try clear hb)
      (try clear hb2)
      (try clear hk)
      (try clear hi)
      (try clear ho0)
      refine hK.out _ _ ⟨(blk_cell BK106.out 0).trans rfl, (blk_cell BK106.out 1).trans rfl, (blk_cell BK106.out 2).trans rfl, (blk_cell BK106.out 3).trans rfl, (blk_cell BK106.out 4).trans rfl, (blk_cell BK106.out 5).trans rfl, (blk_cell BK106.out 6).trans rfl, (blk_cell BK106.out 7).trans rfl, (blk_cell BK106.out 8).trans rfl, (blk_cell BK106.out 9).trans rfl, ((HB.out.cell (World.block_lt_of_cell? w _ hw109_0)).trans hw109_0), ((HB.out.cell (World.block_lt_of_cell? w _ hw109_1)).trans hw109_1)⟩ (fun hHeld => ?_)
      clear hK K
      refine norm_ (a' := ?_) ?_ ?_
      rotate_left
      ·show Act.put _ (some 34) _ = _
       simp only [Act.put, List.setIfInBounds_toArray, List.set_cons_zero, List.set_cons_succ, i64_w, i32_w]
       rfl
      refine pure_ (i := 7) (N := some 8) (v := ?_) (a' := ?_) #[true, true, true, true, true, true, true, true] rfl rfl (any_of HT_.out (by kernel_rfl)) (fun _ _ _ h => h) (Or.inl ⟨by rfl, ?_⟩) ?_ ?_
      rotate_left
      ·intro w'
       go_simp
       with_reducible rfl
      rotate_left
      ·simp only [Act.put, List.setIfInBounds_toArray, List.set_cons_zero, List.set_cons_succ, i64_w, i32_w]
       rfl
      refine done_ (done_of HT_.out (by kernel_rfl)) ?_
      have hcz15_0 : w14.cell? ⟨gb106, 0, none⟩ = some (.int .i64 a0_0) := (blk_cell BK106.out 0).trans rfl
      have hcz15_1 : w14.cell? ⟨gb106, 1, none⟩ = some (.string a0_1) := (blk_cell BK106.out 1).trans rfl
      have hcz15_2 : w14.cell? ⟨gb106, 2, none⟩ = some (.string a0_2) := (blk_cell BK106.out 2).trans rfl
      have hcz15_3 : w14.cell? ⟨gb106, 3, none⟩ = some (.slice A0_3 l0_3.length c0_3) := (blk_cell BK106.out 3).trans rfl
      have hcz15_4 : w14.cell? ⟨gb106, 4, none⟩ = some (.slice A0_4 l0_4.length c0_4) := (blk_cell BK106.out 4).trans rfl
      have hcz15_5 : w14.cell? ⟨gb106, 5, none⟩ = some (.int .i64 a0_5) := (blk_cell BK106.out 5).trans rfl
      have hcz15_6 : w14.cell? ⟨gb106, 6, none⟩ = some (.int .i64 a0_6) := (blk_cell BK106.out 6).trans rfl
      have hcz15_7 : w14.cell? ⟨gb106, 7, none⟩ = some (.int .i64 a0_7) := (blk_cell BK106.out 7).trans rfl
      have hcz15_8 : w14.cell? ⟨gb106, 8, none⟩ = some (.string a0_8) := (blk_cell BK106.out 8).trans rfl
      have hcz15_9 : w14.cell? ⟨gb106, 9, none⟩ = some (.slice A0_9 l0_9.length c0_9) := (blk_cell BK106.out 9).trans rfl
      have hfz15_0 := blk_frozen BK106.out 0
      have hfz15_1 := blk_frozen BK106.out 1
      have hfz15_2 := blk_frozen BK106.out 2
      have hfz15_3 := blk_frozen BK106.out 3
      have hfz15_4 := blk_frozen BK106.out 4
      have hfz15_5 := blk_frozen BK106.out 5
      have hfz15_6 := blk_frozen BK106.out 6
      have hfz15_7 := blk_frozen BK106.out 7
      have hfz15_8 := blk_frozen BK106.out 8
      have hfz15_9 := blk_frozen BK106.out 9
      try go_wp2
      go_loopg [8, 38] k1 (fun kq v8 v38 w' => ∃ (x8_2 : List (S23)) (x38_2 : Int), v38 = .int .i64 x38_2 ∧ Aside0 (eval_group.l1 kq l1 x8_2 l0_9 (l0_9.length : Int) x38_2 = some r) ∧ Aside0 (kq ≤ k1) ∧ Aside0 (Kd.R k23 23 w' w.heap.size (fun k_ => (w.heap.size ≤ k_)) v8 x8_2) ∧ Aside0 (w'.heap[gb106]? = some (.cells #[.int .i64 a0_0, .string a0_1, .string a0_2, (.slice A0_3 l0_3.length c0_3), (.slice A0_4 l0_4.length c0_4), .int .i64 a0_5, .int .i64 a0_6, .int .i64 a0_7, .string a0_8, (.slice A0_9 l0_9.length c0_9)] 37 (0, 0))) ∧ Aside0 (Below w.heap.size w w'))
      case atStart => exact ⟨(t110), (0), (by first | rfl | (simp; done) | (simp [*]; done)), H', ⟨Nat.le_refl _⟩, ⟨by (with_reducible repeat (first | apply Kd.R_alloc | apply Kd.R_drewN | apply Kd.R_drew)); exact Kd.R_mono HO112.out (fun _ hk => hk.1)⟩, ⟨by (with_reducible repeat (first | refine blk_drewN ?_ _ | refine blk_drew ?_ | refine blk_alloc ?_ _)); exact BK106.out⟩, ⟨by repeat (first | (with_reducible first | exact HB.out | apply below_alloc | apply pw_below_drewN | apply below_drew1 | refine below_set ?_ GE106.out) | exact HB.out)⟩⟩
      case round =>
       clear H'
       try clear c1
       try clear p1
       try clear q1
       try clear hx1
       try clear qi1
       try clear c2
       try clear p2
       try clear c4
       try clear c4b0
       try clear c5
       try clear c5b0
       try clear c6
       try clear c6b0
       try clear p6
       try clear c7
       try clear c8
       try clear c10
       try clear c10b0
       try clear p10
       try clear q10
       try clear hx10
       try clear qi10
       try clear c11
       try clear c11b0
       try clear c11b1
       try clear hcz15_0
       try clear hcz15_1
       try clear hcz15_2
       try clear hcz15_3
       try clear hcz15_4
       try clear hcz15_5
       try clear hcz15_6
       try clear hcz15_7
       try clear hcz15_8
       try clear hcz15_9
       try clear hcz9_0
       try clear hcz9_1
       try clear hfz15_0
       try clear hfz15_1
       try clear hfz15_2
       try clear hfz15_3
       try clear hfz15_4
       try clear hfz15_5
       try clear hfz15_6
       try clear hfz15_7
       try clear hfz15_8
       try clear hfz15_9
       try clear hfz9_0
       try clear hfz9_1
       try clear hx107_0
       try clear hx107_1
       try clear hx109_0
       try clear hx109_1
       try clear p107
       try clear p109
       try clear p2
       try clear q107
       try clear q109
       obtain ⟨x8_2, x38_2, rfl, HA, HK2, HO_8, BK106, HB⟩ := hrel
       cases gk with
       | zero => exact absurd HA.out (by simp [eval_group.l1])
       | succ k2 =>
        have H := HA.out
        clear HA
        simp only [eval_group.l1] at H
        by_cases c16 : x38_2 < (l0_9.length : Int)
        ·rw [if_pos c16] at H
         have c16b0 : decide (x38_2 < (l0_9.length : Int)) = true := decide_eq_true c16
         clear c16
         by_cases c17 : 0 ≤ x38_2
         ·rw [if_pos c17] at H
          have c17b0 : decide (0 ≤ x38_2) = true := decide_eq_true c17
          clear c17
          by_cases c18 : x38_2 < (l0_9.length : Int)
          ·rw [if_pos c18] at H
           have c18b0 : decide (x38_2 < (l0_9.length : Int)) = true := decide_eq_true c18
           replace H := Option.bind_eq_some_iff.mp H
           obtain ⟨tv, AT0, H⟩ := H
           obtain ⟨hkd, htv⟩ := group_tell_some AT0
           clear AT0
           by_cases c20 : x8_2.length < 4398046511104
           ·rw [if_pos c20] at H
            have H' := Aside0.mk H
            clear H
            have p200 : 0 ≤ (x38_2 : Int) := of_decide_eq_true (by first | (with_reducible assumption) | assumption)
            have q200 : x38_2 < (l0_9.length : Int) := of_decide_eq_true (by first | (with_reducible assumption) | assumption)
            obtain ⟨ad200, e200, hx200_0, hx200_1⟩ := at_T46 HR0_9.out x38_2 p200 q200
            cases e200
            replace hx200_0 := (HB.out.cell (World.block_lt_of_cell? w _ hx200_0)).trans hx200_0
            replace hx200_1 := (HB.out.cell (World.block_lt_of_cell? w _ hx200_1)).trans hx200_1
            replace p200 := eq_true p200
            replace q200 := eq_true q200
            generalize hgg : rd_T46 l0_9 x38_2 = gg at *
            go_wp2_with (first | ((with_reducible refine gate_callee (f := 38) rfl ?_); refine goesL_ (some 44) rfl rfl Try.func38 (by kernel_rfl) rfl #[.int .i64 gg.f0] rfl (by (try simp only [List.map_toArray, List.map_cons, List.map_nil]); first | done | rfl) ?_; (with_reducible refine (tells_num gg.f0 hkd _).mono ?_); rintro e w7 ⟨rfl, hS7, hb7⟩; refine ⟨_, rfl, ?_⟩; generalize hs7 : (wr.alloc _).heap.size + 2 = s7 at hS7 ⊢; simp only [tellsVal]))
            have hsl : s7 < w7.heap.size := blk_lt hS7
            have hsw : wr.heap.size < s7 := by rw [← hs7]; simp; omega
            have hag7 : w7.heap[wr.heap.size]? = some (.cells #[.int .i64 gg.f0, .int .i64 gg.f1] 46 (0, 0)) := blk_below (blk_new _ _) hb7
            have hwb7 : Below wr.heap.size wr w7 := (below_alloc (Below.refl _ _) _).trans (hb7.mono (by simp))
            clear hb7
            obtain ⟨WT, hWT⟩ : ∃ WT, w7.alloc (.cells #[.func (.func (takeNo gg.f0)) #[] (sumRef s7), .func (.func 51) #[] (sumRef s7)] 73) = WT := ⟨_, rfl⟩
            rw [hWT]
            have hagT : WT.heap[wr.heap.size]? = some (.cells #[.int .i64 gg.f0, .int .i64 gg.f1] 46 (0, 0)) := by rw [← hWT]; exact blk_alloc hag7 _
            have htT : WT.heap[w7.heap.size]? = some (.cells #[.func (.func (takeNo gg.f0)) #[] (sumRef s7), .func (.func 51) #[] (sumRef s7)] 73 (0, 0)) := by rw [← hWT]; exact blk_new _ _
            have hST : SumAt WT s7 0 := by rw [← hWT]; exact blk_alloc hS7 _
            have hBT : Below wr.heap.size wr WT := by rw [← hWT]; exact hwb7.alloc hwb7.size _
            have hszT : WT.heap.size = w7.heap.size + 1 := by rw [← hWT]; simp
            clear hWT
            clear hag7 hS7 hwb7
            have HOT := Kd.R_below HO_8.out hBT
            have hvo : ∀ k, (u8 : Value).ownBlock = some k → k < wr.heap.size := fun k hk => ((Kd.R_bound HO_8.out).1 k hk).2.2.1
            have BKT := blk_below BK106.out hBT
            have hg106 : gb106 < wr.heap.size := blk_lt BK106.out
            have HBT := below_step HB.out hBT
            have hwr : w.heap.size ≤ wr.heap.size := HB.out.size
            clear HO_8 BK106 HB hBT
            generalize wr.heap.size = g10 at *
            generalize w7.heap.size = g7 at *
            go_loopg [47] l1.length (fun kq v47 w' => ∃ x47 : Int, v47 = .int .i64 x47 ∧ Aside0 (0 ≤ x47 ∧ x47.toNat + kq = l1.length) ∧ Aside0 (WT.grownBy w' (some s7)) ∧ Aside0 (SumAt w' s7 (tellSum gg (l1.take x47.toNat))))
            case atStart => exact ⟨0, by first | rfl | (simp; done), ⟨by simp⟩, ⟨World.grownBy.refl _ _⟩, ⟨by simpa [tellSum] using hST⟩⟩
            case round =>
             obtain ⟨x47, rfl, hx47, hG, hSj⟩ := hrel
             obtain ⟨h47, hk47⟩ := hx47.out
             have hag := blk_grown hagT hG.out (fun e => by cases e; omega)
             have ht7 := blk_grown htT hG.out (fun e => by cases e; omega)
             have HBj := HBT.grown hG.out HBT.size (fun k e => by cases e; omega)
             have hag0 : wr.cell? ⟨g10, 0, none⟩ = some (.int .i64 gg.f0) := (blk_cell hag 0).trans rfl
             have hag1 : wr.cell? ⟨g10, 1, none⟩ = some (.int .i64 gg.f1) := (blk_cell hag 1).trans rfl
             have ht70 : wr.cell? ⟨g7, 0, none⟩ = some (.func (.func (takeNo gg.f0)) #[] (sumRef s7)) := (blk_cell ht7 0).trans rfl
             have ht71 : wr.cell? ⟨g7, 1, none⟩ = some (.func (.func 51) #[] (sumRef s7)) := (blk_cell ht7 1).trans rfl
             have hn1 := HR1.out.2.1
             have lt10 := blk_lt hag
             have lt7 := blk_lt ht7
             by_cases hj : x47 < (l1.length : Int)
             ·obtain ⟨kq1, rfl⟩ : ∃ m, gk = m + 1 := ⟨gk - 1, by omega⟩
              have hjb : decide (x47 < (l1.length : Int)) = true := decide_eq_true hj
              have hwx : wrap64 (x47 + 1) = x47 + 1 := by unfold wrap64; omega
              have hnx : (x47 + 1).toNat = x47.toNat + 1 := by omega
              have hx47n : ((x47.toNat : Nat) : Int) = x47 := by omega
              obtain ⟨ad201, A201, c201, e201, hx201_0, hx201_1, hl201, hi201⟩ := at_T44 HR1.out x47 h47 hj
              cases e201
              replace hx201_0 := (HBj.cell (World.block_lt_of_cell? w _ hx201_0)).trans hx201_0
              replace hx201_1 := (HBj.cell (World.block_lt_of_cell? w _ hx201_1)).trans hx201_1
              have p201 := eq_true h47
              have q201 := eq_true hj
              by_cases hc : 0 ≤ gg.f1
              ·have hcb : decide (0 ≤ gg.f1) = true := decide_eq_true hc
               by_cases hc2 : gg.f1 < ((rd_T44 l1 x47).f0.length : Int)
               ·have hc2b : decide (gg.f1 < ((rd_T44 l1 x47).f0.length : Int)) = true := decide_eq_true hc2
                obtain ⟨ad202, e202, hx202_0, hx202_1, hx202_2⟩ := at_T23 hi201 gg.f1 hc hc2
                cases e202
                replace hx202_0 := (HBj.cell (World.block_lt_of_cell? w _ hx202_0)).trans hx202_0
                replace hx202_1 := (HBj.cell (World.block_lt_of_cell? w _ hx202_1)).trans hx202_1
                replace hx202_2 := (HBj.cell (World.block_lt_of_cell? w _ hx202_2)).trans hx202_2
                have lt202 : (ad202.add (gg.f1.toNat * 3)).block < wr.heap.size := World.block_lt_of_cell? _ _ hx202_0
                have p202 := eq_true hc
                have q202 := eq_true hc2
                go_wp2_with (first | ((with_reducible refine gateC_ 69 rfl ?_); refine goesC_ (lb := sumRef s7) (some 73) rfl rfl (takes_enter hkd) #[.agg #[.int .i64 (colOf (rd_T44 l1 x47).f0 gg.f1).f0, .int .i64 (colOf (rd_T44 l1 x47).f0 gg.f1).f1, .string (colOf (rd_T44 l1 x47).f0 gg.f1).f2], .int .i64 (rd_T44 l1 x47).f1] rfl (by rw [colOf_in hc hc2]; simp only [List.map_toArray, List.map_cons, List.map_nil]; rfl) rfl ?_; refine (take_num gg.f0 hkd s7 (tellSum gg (l1.take x47.toNat)) (colOf (rd_T44 l1 x47).f0 gg.f1) (rd_T44 l1 x47).f1 _ (show SumAt _ s7 _ from blk_alloc (blk_alloc hSj.out _) _)).mono ?_; rintro e w9 ⟨⟨u, rfl⟩, rfl⟩; refine ⟨_, rfl, ?_⟩))
                go_roundg kq1
                case measure => omega
                case rel => exact ⟨wrap64 (x47 + 1), (by first | rfl | (simp; done) | (simp [*]; done)), ⟨by rw [hwx]; omega⟩, ⟨(World.grownBy.trans (World.grownBy.trans (World.grownBy.trans hG.out (World.grownBy_alloc _ _ _)) (World.grownBy_alloc _ _ _)) (taken_grown _ _ _ _))⟩, ⟨by rw [hwx, hnx, tellSum_snoc gg l1 x47.toNat (by omega), hx47n]; exact SumAt.taken (blk_alloc (blk_alloc hSj.out _) _)⟩⟩
               ·have hc2b : decide (gg.f1 < ((rd_T44 l1 x47).f0.length : Int)) = false := decide_eq_false hc2
                go_wp2_with (first | ((with_reducible refine gateC_ 69 rfl ?_); go_loud (refine goesC_ (lb := sumRef s7) (some 73) rfl rfl (takes_enter hkd) #[.agg #[.int .i64 (colOf (rd_T44 l1 x47).f0 gg.f1).f0, .int .i64 (colOf (rd_T44 l1 x47).f0 gg.f1).f1, .string (colOf (rd_T44 l1 x47).f0 gg.f1).f2], .int .i64 (rd_T44 l1 x47).f1] rfl (by rw [colOf_high hc2]; simp only [List.map_toArray, List.map_cons, List.map_nil]; rfl) rfl ?_; refine (take_num gg.f0 hkd s7 (tellSum gg (l1.take x47.toNat)) (colOf (rd_T44 l1 x47).f0 gg.f1) (rd_T44 l1 x47).f1 _ (show SumAt _ s7 _ from blk_alloc (blk_alloc hSj.out _) _)).mono ?_; rintro e w9 ⟨⟨u, rfl⟩, rfl⟩; refine ⟨_, rfl, ?_⟩)))
                go_roundg kq1
                case measure => omega
                case rel => exact ⟨wrap64 (x47 + 1), (by first | rfl | (simp; done) | (simp [*]; done)), ⟨by rw [hwx]; omega⟩, ⟨(World.grownBy.trans (World.grownBy.trans (World.grownBy.trans hG.out (World.grownBy_alloc _ _ _)) (World.grownBy_alloc _ _ _)) (taken_grown _ _ _ _))⟩, ⟨by rw [hwx, hnx, tellSum_snoc gg l1 x47.toNat (by omega), hx47n]; exact SumAt.taken (blk_alloc (blk_alloc hSj.out _) _)⟩⟩
              ·have hcb : decide (0 ≤ gg.f1) = false := decide_eq_false hc
               go_wp2_with (first | ((with_reducible refine gateC_ 69 rfl ?_); (refine goesC_ (lb := sumRef s7) (some 73) rfl rfl (takes_enter hkd) #[.agg #[.int .i64 (colOf (rd_T44 l1 x47).f0 gg.f1).f0, .int .i64 (colOf (rd_T44 l1 x47).f0 gg.f1).f1, .string (colOf (rd_T44 l1 x47).f0 gg.f1).f2], .int .i64 (rd_T44 l1 x47).f1] rfl (by rw [colOf_low hc]; simp only [List.map_toArray, List.map_cons, List.map_nil]; rfl) rfl ?_; refine (take_num gg.f0 hkd s7 (tellSum gg (l1.take x47.toNat)) (colOf (rd_T44 l1 x47).f0 gg.f1) (rd_T44 l1 x47).f1 _ (show SumAt _ s7 _ from blk_alloc (blk_alloc hSj.out _) _)).mono ?_; rintro e w9 ⟨⟨u, rfl⟩, rfl⟩; refine ⟨_, rfl, ?_⟩)))
               go_roundg kq1
               case measure => omega
               case rel => exact ⟨wrap64 (x47 + 1), (by first | rfl | (simp; done) | (simp [*]; done)), ⟨by rw [hwx]; omega⟩, ⟨(World.grownBy.trans (World.grownBy.trans (World.grownBy.trans hG.out (World.grownBy_alloc _ _ _)) (World.grownBy_alloc _ _ _)) (taken_grown _ _ _ _))⟩, ⟨by rw [hwx, hnx, tellSum_snoc gg l1 x47.toNat (by omega), hx47n]; exact SumAt.taken (blk_alloc (blk_alloc hSj.out _) _)⟩⟩
             ·have hjb : decide (x47 < (l1.length : Int)) = false := decide_eq_false hj
              have hfull : l1.take x47.toNat = l1 := List.take_of_length_le (by omega)
              have hSf := hSj.out
              rw [hfull] at hSf
              have HOj := Kd.R_grown1 HOT rfl hG.out (fun e => by have := hvo s7 e.symm; omega)
              have BKj := blk_grown BKT hG.out (fun e => by cases e; omega)
              subst htv
              go_wp2_with (first | ((with_reducible refine gateC_ 77 rfl ?_); refine goesC_ (lb := sumRef s7) (some 78) rfl rfl ends_enter #[] rfl (by simp) rfl ?_; refine (calls_of_args (by simp) (number_end s7 _ _ hSf)).mono ?_; rintro e w9 ⟨rfl, rfl⟩; refine ⟨_, rfl, ?_⟩) | ((with_reducible refine gate_builtin (b := .append) (xs := #[.tmp 75, .tmp 79]) rfl ?_); (try (refine gate_guard (by rfl) ?_; dsimp only)); at_builtin; refine Kd.R_append k23 (w0 := w) w.heap.size rfl (.tmp 75) (.tmp 79) 24 23 (.agg #[(.int .i64 0), (.int .i64 0), (.string ⟨#[]⟩)]) 32 rfl Try.underlying24 info23 rfl (by decide) (by omega) u8 x8_2 (⟨1, tellSum gg l1, ⟨#[]⟩⟩ : S23) [.int .i64 1, .int .i64 (tellSum gg l1), .string ⟨#[]⟩] (fun k_ => w.heap.size ≤ k_) (fun _ => False) rfl (by simp [Act.eval]) ?aP (fun _ hk => hk.elim) ?aF ?aO ?aB ?aS ?aL ?_; (case aP => exact k23_mkM _ _ _ (⟨1, tellSum gg l1, ⟨#[]⟩⟩ : S23)); (case aB => exact below_alloc HBj _); (case aF => exact fun k hk => Nat.le_trans HBj.size (by simp at hk; omega)); (case aO => exact Kd.R_alloc HOj _); (case aS => have := HBj.size; simp; omega); (case aL => omega); intro v122 w10 ho hb hg hat))
              go_roundg k2
              case measure => have := HK2.out; omega
              case rel => exact ⟨_, wrap64 (x38_2 + 1), (by first | rfl | (simp; done) | (simp [*]; done)), H', ⟨by have := HK2.out; omega⟩, ⟨ho⟩, ⟨blk_grown (blk_alloc BKj _) hg (Kd.R_ne HOj BKj (by decide))⟩, ⟨hb⟩⟩
           ·rw [if_neg c20] at H
            exact absurd H (by simp)
          ·rw [if_neg c18] at H
           exact absurd H (by simp)
         ·rw [if_neg c17] at H
          exact absurd H (by simp)
        ·rw [if_neg c16] at H
         have c16b0 : decide (x38_2 < (l0_9.length : Int)) = false := decide_eq_false c16
         clear c16
         obtain ⟨y113, hy113⟩ : ∃ y_ : List (S44), y_ = (([(⟨x8_2, 1⟩ : S44)] : List (S44))) := ⟨_, rfl⟩
         replace H : (some y113) = some r := by first | (rw [hy113]; with_reducible exact H) | (have H2_ := (Option.bind_some _ _).symm.trans H; rw [hy113]; with_reducible exact H2_) | (have H2_ := (Option.bind_some _ _).symm.trans H; with_reducible exact H2_) | with_reducible exact H | (rw [hy113]; exact H) | exact H
         have Ny113 := Aside0.mk hy113
         clear hy113
         obtain rfl := Option.some.inj H
         obtain ⟨Ao19, co19, eo19⟩ := Kd.R_slice HO_8.out
         subst eo19
         go_wp2_with (first | ((with_reducible refine gate_dst (N := 84) rfl ?_); (try (refine gate_guard (by rfl) ?_; dsimp only)); refine Kd.N_lit k44 _ 44 ?hg (N' := 84) ?hd (xs := ([(⟨x8_2, 1⟩ : S44)] : List (S44))) (inner := [.slice Ao19 x8_2.length co19, .int .i64 1]) (ok := (fun k_ => (w.heap.size ≤ k_) ∧ k_ ≠ gb106)) (okp := (fun k_ => (w.heap.size ≤ k_) ∧ k_ ≠ gb106)) ?hr ?hp (fun _ hk => hk) ((show ∀ k_, wr.heap.size ≤ k_ → (fun k_ => (w.heap.size ≤ k_) ∧ k_ ≠ gb106) k_ from fun k_ hk => ⟨(Nat.le_trans (below_size (by repeat (first | (with_reducible first | exact HB.out | apply below_alloc | apply pw_below_drewN | apply below_drew1 | refine below_set ?_ GE106.out) | exact HB.out))) hk), Kd.freshB (g := gb106) (o := .cells #[.int .i64 a0_0, .string a0_1, .string a0_2, .slice A0_3 l0_3.length c0_3, .slice A0_4 l0_4.length c0_4, .int .i64 a0_5, .int .i64 a0_6, .int .i64 a0_7, .string a0_8, .slice A0_9 l0_9.length c0_9] 37 (0, 0)) (by (with_reducible repeat (first | refine blk_drewN ?_ _ | refine blk_drew ?_ | refine blk_alloc ?_ _)); exact BK106.out) k_ hk⟩) _ (Nat.le_refl _)) (Below.refl _ _) (Nat.le_refl _) (by simp) ?_; (case hd => rfl); (case hg => rfl); (case hr => first | (go_simp; done) | (go_simp; rfl)); (case hp => exact (Reps.c2 (show Kd.FK k44 _ _ (⟨x8_2, 1⟩ : S44) [.slice Ao19 x8_2.length co19, .int .i64 1] from (k44_mkF _ _ (⟨x8_2, 1⟩ : S44) (Kd.R_reads' (Kd.R_mono (ok' := (fun k_ => (w.heap.size ≤ k_) ∧ k_ ≠ gb106)) (Kd.R_types (HO_8.out) BK106.out (by decide)) (fun k_ hk => ⟨hk.1, hk.2⟩))).2.1 (Kd.R_F (Kd.R_mono (ok' := (fun k_ => (w.heap.size ≤ k_) ∧ k_ ≠ gb106)) (Kd.R_types (HO_8.out) BK106.out (by decide)) (fun k_ hk => ⟨hk.1, hk.2⟩))))) (Reps.none _ _))); intro v114 w20 ho21 hb hg_ hnew_; clear hg_ hnew_; (first | rw [← Ny113.out] at ho21 | (simp only [Int.reduceToNat] at ho21; rw [← Ny113.out] at ho21)); have n0_ := Aside0.mk (Kd.N_lower ho21 (below_size (by repeat (first | (with_reducible first | exact HB.out | apply below_alloc | apply pw_below_drewN | apply below_drew1 | refine below_set ?_ GE106.out) | exact HB.out)))); have n1_ := Aside0.mk (blk_below (g := gb106) (o := .cells #[.int .i64 a0_0, .string a0_1, .string a0_2, .slice A0_3 l0_3.length c0_3, .slice A0_4 l0_4.length c0_4, .int .i64 a0_5, .int .i64 a0_6, .int .i64 a0_7, .string a0_8, .slice A0_9 l0_9.length c0_9] 37 (0, 0)) (by (with_reducible repeat (first | refine blk_drewN ?_ _ | refine blk_drew ?_ | refine blk_alloc ?_ _)); exact BK106.out) hb); have n2_ := Aside0.mk (below_step (by repeat (first | (with_reducible first | exact HB.out | apply below_alloc | apply pw_below_drewN | apply below_drew1 | refine below_set ?_ GE106.out) | exact HB.out)) hb); clear BK106; clear HB; clear HO_8; have HO115 := n0_; have BK106 := n1_; have HB := n2_; clear n0_ n1_ n2_; clear hb ho21))
         go_ret
         exact ⟨_, by first | rfl | (simp [errW_none, errW_some] <;> rfl) | (simp [*, errW_none, errW_some] <;> rfl), by (with_reducible repeat (first | apply Kd.N_alloc | apply Kd.N_drewN | apply Kd.N_drew)); exact Kd.N_mono HO115.out (fun _ hk => hk.1), by repeat (first | (with_reducible first | exact HB.out | apply below_alloc | apply pw_below_drewN | apply below_drew1 | refine below_set ?_ GE106.out) | exact HB.out)⟩
     ·rw [if_neg c11] at H
      exact absurd H (by simp)
end Go.Proofs.Ytgapgdnbgimdlaa.PA
end
section
set_option linter.unusedVariables false
set_option linter.unusedSimpArgs false
namespace Go.Proofs.Ytgapgdnbgimdlaa.PA
open Go.RowKit Go.Maps Go.WideElems Go.MapKept Go.Proofs.YtgapgdnbgimdlaaW.PrintWords Go.Proofs.YtgapgdnbgimdlaaW.PrintLast Go.Proofs.YtgapgdnbgimdlaaW.PrintMore
def keyB (k : Nat) (cols : List Int) (x : S44) : Option (List UInt8) := (eval_Picked.f k x.f0 cols).bind fun p => (keys_Row.f k p).bind fun kr => if (strOfNums kr).data.toList.length ≤ maxLen then some (strOfNums kr).data.toList else none
def keyD (k : Nat) (cols : List Int) (x : S44) : List UInt8 := (keyB k cols x).getD []
theorem keyB_some {k : Nat} {cols : List Int} {x : S44} (h : (keyB k cols x).isSome = true) : ∃ p kr, eval_Picked.f k x.f0 cols = some p ∧ keys_Row.f k p = some kr ∧ keyD k cols x = (strOfNums kr).data.toList ∧ (keyD k cols x).length ≤ maxLen := by
 obtain ⟨q, hq⟩ := Option.isSome_iff_exists.1 h
 have hq' := hq
 unfold keyB at hq
 simp only [Option.bind_eq_some_iff] at hq
 obtain ⟨p, hp, kr, hkr, hq⟩ := hq
 split at hq
 ·rename_i hl
  obtain rfl := Option.some.inj hq
  refine ⟨p, kr, hp, hkr, ?_, ?_⟩
  ·unfold keyD; rw [hq']; rfl
  ·unfold keyD; rw [hq']; exact hl
 ·cases hq
def gAll (k : Nat) (a1 a2 : ByteArray) (cols other : List Int) (a5 a6 a7 : Int) (a8 : ByteArray) (aggs : List S46) (na : List S44) : List (List UInt8) → List S44 → Option (List S44)
 | [], acc => some acc
 | q :: qs, acc => (eval_group.f k 7 a1 a2 cols other a5 a6 a7 a8 aggs (na.filter (fun x => decide (keyD k cols x = q)))).bind fun g => if acc.length + g.length < 4398046511104 then gAll k a1 a2 cols other a5 a6 a7 a8 aggs na qs (acc ++ g) else none
def sortedKeys (k : Nat) (cols : List Int) (na : List S44) : List (List UInt8) := (keyList (keyD k cols) na).mergeSort (fun x y => decide (x ≤ y))
def evalG.f (k : Nat) (a1 a2 : ByteArray) (cols other : List Int) (a5 a6 a7 : Int) (a8 : ByteArray) (aggs : List S46) (l1 l2 : List S44) : Option (List S44) :=
 (zset_Norm.f l1).bind fun na => (zset_Norm.f l2).bind fun nb =>
  if na.length < 4398046511104 ∧ ∀ x ∈ na, (keyB k cols x).isSome = true then (gAll k a1 a2 cols other a5 a6 a7 a8 aggs na (sortedKeys k cols na) []).bind fun out => zset_Norm.f out else none
theorem strKeys_len {H : Type} (D : DataW H) : (strKeys D).length ≤ Maps.size D := by cases D <;> simp [strKeys, Maps.size]
theorem add_plain' (g j : Nat) : (Addr.add ⟨g, 0, none⟩ j) = ⟨g, j, none⟩ := by cases j <;> simp [Addr.add]
theorem own_shape {w : World} {base e size n : Nat} {v : Value} {xs : List Value} (h : w.ownsRow base e size v n xs) : ∃ A c, v = .slice A n c := by
 rcases h.2 with ⟨rfl, hz⟩ | ⟨g, cap, cur, rfl, _⟩
 ·exact ⟨none, 0, by rw [hz]⟩
 ·exact ⟨_, _, rfl⟩
set_option maxHeartbeats 8000000 in
set_option maxRecDepth 100000 in
theorem evalG.calls (k : Nat) (a0_1 : ByteArray) (a0_2 : ByteArray) (A0_3 : Option Addr) (c0_3 : Nat) (l0_3 : List Int) (A0_4 : Option Addr) (c0_4 : Nat) (l0_4 : List Int) (a0_5 : Int) (a0_6 : Int) (a0_7 : Int) (a0_8 : ByteArray) (A0_9 : Option Addr) (c0_9 : Nat) (l0_9 : List (S46)) (P1_ : Nat → Prop) (A1 : Option Addr) (c1 : Nat) (l1 : List (S44)) (P2_ : Nat → Prop) (A2 : Option Addr) (c2 : Nat) (l2 : List (S44)) (r : List (S44)) (w : World) (hr0_3 : Kd.C (Kd.int .i64) w A0_3 l0_3.length l0_3) (hc0_3 : l0_3.length ≤ c0_3) (hr0_4 : Kd.C (Kd.int .i64) w A0_4 l0_4.length l0_4) (hc0_4 : l0_4.length ≤ c0_4) (hr0_9 : Kd.C k46 w A0_9 l0_9.length l0_9) (hc0_9 : l0_9.length ≤ c0_9) (hs1 : Kd.V k44 44 w w.heap.size (fun k_ => P1_ k_) (.slice A1 l1.length c1) l1) (hs2 : Kd.V k44 44 w w.heap.size (fun k_ => P2_ k_) (.slice A2 l2.length c2) l2)
  (h : evalG.f k a0_1 a0_2 l0_3 l0_4 a0_5 a0_6 a0_7 a0_8 l0_9 l1 l2 = some r) :
  Calls Try.prog 13 #[.agg #[.int .i64 7, .string a0_1, .string a0_2, .slice A0_3 l0_3.length c0_3, .slice A0_4 l0_4.length c0_4, .int .i64 a0_5, .int .i64 a0_6, .int .i64 a0_7, .string a0_8, .slice A0_9 l0_9.length c0_9], .slice A1 l1.length c1, .slice A2 l2.length c2] w fun e w' => ∃ v0_ : Value, e = .returned (v0_) ∧ Kd.N k44 44 w' w.heap.size (fun k_ => ((P1_ k_ ∨ P2_ k_) ∨ w.heap.size ≤ k_)) v0_ r ∧ Below w.heap.size w w' := by
 have hu37 := Try.underlying37
 have hu44 := Try.underlying44
 have HR0_3 := Aside0.mk hr0_3
 have HR0_4 := Aside0.mk hr0_4
 have HR0_9 := Aside0.mk hr0_9
 have HS1 := Aside0.mk hs1
 have HS2 := Aside0.mk hs2
 clear hr0_3 hr0_4 hr0_9 hs1 hs2
 unfold evalG.f at h
 obtain ⟨na, hna, h⟩ := Option.bind_eq_some_iff.1 h
 obtain ⟨nb, hnb, h⟩ := Option.bind_eq_some_iff.1 h
 split at h
 case isFalse => cases h
 rename_i hcond
 obtain ⟨hnl, hks⟩ := hcond
 obtain ⟨out, hout, hro⟩ := Option.bind_eq_some_iff.1 h
 clear h
 have HK := Aside0.mk (fun x hx => keyB_some (hks x hx))
 have HO := Aside0.mk hout
 clear hks hout
 go_enter Try.func13, Try.ntmps13
 have hB1 : Below w.heap.size w (w.alloc (.cells #[.int .i64 7, .string a0_1, .string a0_2, .slice A0_3 l0_3.length c0_3, .slice A0_4 l0_4.length c0_4, .int .i64 a0_5, .int .i64 a0_6, .int .i64 a0_7, .string a0_8, .slice A0_9 l0_9.length c0_9] 37)) := below_alloc (Below.refl _ _) _
 go_wp2_with (first
  | ((with_reducible refine gate_callee (f := 16) rfl ?_); refine goesL_ (some 19) rfl rfl Try.func16 (by kernel_rfl) rfl #[.slice A1 l1.length c1] rfl (by (try simp only [List.map_toArray, List.map_cons, List.map_nil]); first | done | rfl) ?_; refine (zset_Norm.calls (fun k_ => P1_ k_) _ _ l1 na _ (Kd.V_alloc HS1.out _) hna).mono ?_; rintro e w2 ⟨v19, rfl, ho19, hb19⟩; refine ⟨_, rfl, ?_⟩; obtain ⟨A19, c19, rfl⟩ := Kd.N_slice ho19)
  | ((with_reducible refine gate_callee (f := 16) rfl ?_); refine goesL_ (some 21) rfl rfl Try.func16 (by kernel_rfl) rfl #[.slice A2 l2.length c2] rfl (by (try simp only [List.map_toArray, List.map_cons, List.map_nil]); first | done | rfl) ?_; (refine (zset_Norm.calls (fun k_ => P2_ k_) _ _ l2 nb w2 (show Kd.V k44 44 w2 w2.heap.size (fun k_ => P2_ k_) (.slice A2 l2.length c2) l2 from (Kd.V_below (Kd.V_alloc HS2.out _) hb19)) hnb).mono ?_); rintro e w3 ⟨v21, rfl, ho21, hb21⟩; refine ⟨_, rfl, ?_⟩; (have hbx := blk_below (blk_below (blk_new w (.cells #[.int .i64 7, .string a0_1, .string a0_2, .slice A0_3 l0_3.length c0_3, .slice A0_4 l0_4.length c0_4, .int .i64 a0_5, .int .i64 a0_6, .int .i64 a0_7, .string a0_8, .slice A0_9 l0_9.length c0_9] 37)) hb19) hb21; have hbx0 : w3.cell? ⟨w.heap.size, 0, none⟩ = some (.int .i64 7) := (blk_cell hbx 0).trans rfl; have hbx3 : w3.cell? ⟨w.heap.size, 3, none⟩ = some (.slice A0_3 l0_3.length c0_3) := (blk_cell hbx 3).trans rfl; have hB3 := below_step (below_step hB1 hb19) hb21))
  | ((with_reducible refine gate_callee (f := 24) rfl ?_); refine goesL_ (some 113) rfl rfl Try.func24 (by kernel_rfl) rfl #[.slice A19 na.length c19, .slice A0_3 l0_3.length c0_3] rfl (by (try simp only [List.map_toArray, List.map_cons, List.map_nil]); first | done | rfl) ?_; (refine (split_calls k (keyD k l0_3) (fun k_ => P1_ k_ ∨ w.heap.size ≤ k_) _ _ na _ _ l0_3 w3 (show Kd.V k44 44 w3 w3.heap.size (fun k_ => P1_ k_ ∨ w.heap.size ≤ k_) (.slice A19 na.length c19) na from Kd.N_V (base' := 0) (Kd.N_mono (Kd.N_below ho19 hb21) (fun k_ hk => hk.imp id (fun hk => Nat.le_trans hB1.size hk)))) (Kd.C_below HR0_3.out hB3) hc0_3 HK.out hnl).mono ?_); rintro e w4 ⟨rfl, hG4, hb4⟩; refine ⟨_, rfl, ?_⟩)
  | ((with_reducible refine gate_callee (f := 26) rfl ?_); refine goesL_ (some 115) rfl rfl Try.func26 (by kernel_rfl) rfl #[.map (some w3.heap.size)] rfl (by (try simp only [List.map_toArray, List.map_cons, List.map_nil]); first | done | rfl) ?_; refine (It.keys (some w3.heap.size) _).mono ?_; rintro e w5 ⟨rfl, rfl⟩; refine ⟨_, rfl, ?_⟩; obtain ⟨D, hown, hDs, hDp⟩ := Groups.keys hG4)
  | ((with_reducible refine gate_callee (f := 25) rfl ?_); refine goesL_ (some 116) rfl rfl Try.func25 (by kernel_rfl) rfl #[.func (.func 37) #[] #[.pointer (some ⟨w4.heap.size, 0, none⟩)]] rfl (by (try simp only [List.map_toArray, List.map_cons, List.map_nil]); first | done | rfl) ?_; refine (It.sorted _ _ D R0 w4 hown (by simp only [maxLen]; omega) (by omega)).mono ?_; rintro e w6 ⟨v116, ss, rfl, hssp, hrow, hnil, hb6⟩; refine ⟨_, rfl, ?_⟩; obtain ⟨A6, c6, rfl⟩ := own_shape hrow))
 have hb5 : Below w4.heap.size w4 (w4.alloc (.cells #[.map (some w3.heap.size)] 52)) := below_alloc (Below.refl _ _) _
 have hb6' : Below (w4.alloc (.cells #[.map (some w3.heap.size)] 52)).heap.size (w4.alloc (.cells #[.map (some w3.heap.size)] 52)) w6 := by simpa using hb6
 have hB6 := below_step (below_step (below_step hB3 hb4) hb5) hb6'
 have hG6 := (hG4.below hb5).below hb6'
 have hbx6 := blk_below (blk_below (blk_below hbx hb4) hb5) hb6'
 have hQe : ss.mergeSort (fun x y => decide (x ≤ y)) = sortedKeys k l0_3 na := mergeSort_of_perm (hssp.trans hDp.symm)
 have hQl : (sortedKeys k l0_3 na).length = ss.length := by rw [← hQe]; simp
 have hQm : ∀ q ∈ sortedKeys k l0_3 na, q.length ≤ maxLen := fun q hq => strKeys_le hown Try.underlying9 q (hssp.mem_iff.1 (by rw [← hQe] at hq; simpa using hq))
 have hsl : ss.length ≤ na.length := by rw [hssp.length_eq]; exact Nat.le_trans (strKeys_len D) hDs
 rw [hQe] at hrow
 have hw0 := hbx0
 clear hbx0 hbx3 hbx hssp hDp hnil hown hb6 hQe
 generalize hQ : sortedKeys k l0_3 na = Q at *
 go_loopg [7, 118] Q.length (fun kq v7 v118 w' => ∃ (acc : List S44) (x : Int), v118 = .int .i64 x ∧ Aside0 (0 ≤ x ∧ x.toNat + kq = Q.length) ∧ Aside0 (gAll k a0_1 a0_2 l0_3 l0_4 a0_5 a0_6 a0_7 a0_8 l0_9 na (Q.drop x.toNat) acc = some out) ∧ Aside0 (Kd.N k44 44 w' w6.heap.size (fun k_ => P1_ k_ ∨ w.heap.size ≤ k_) v7 acc) ∧ Aside0 (Below w6.heap.size w6 w'))
 case atStart => exact ⟨[], 0, (by first | rfl | (simp; done)), ⟨by simp⟩, ⟨by simpa using HO.out⟩, ⟨Kd.N_nil _ _ _ _ _⟩, ⟨Below.refl _ _⟩⟩
 case round =>
  obtain ⟨acc, x, rfl, hx, hg, hN, hB⟩ := hrel
  obtain ⟨hx0, hxk⟩ := hx.out
  have hBw := below_step hB6 hB.out
  have hGw := hG6.below hB.out
  have hbxw := blk_below hbx6 hB.out
  have hbw0 : wr.cell? ⟨w.heap.size, 0, none⟩ = some (.int .i64 7) := (blk_cell hbxw 0).trans rfl
  have hbw1 : wr.cell? ⟨w.heap.size, 1, none⟩ = some (.string a0_1) := (blk_cell hbxw 1).trans rfl
  have hbw2 : wr.cell? ⟨w.heap.size, 2, none⟩ = some (.string a0_2) := (blk_cell hbxw 2).trans rfl
  have hbw3 : wr.cell? ⟨w.heap.size, 3, none⟩ = some (.slice A0_3 l0_3.length c0_3) := (blk_cell hbxw 3).trans rfl
  have hbw4 : wr.cell? ⟨w.heap.size, 4, none⟩ = some (.slice A0_4 l0_4.length c0_4) := (blk_cell hbxw 4).trans rfl
  have hbw5 : wr.cell? ⟨w.heap.size, 5, none⟩ = some (.int .i64 a0_5) := (blk_cell hbxw 5).trans rfl
  have hbw6 : wr.cell? ⟨w.heap.size, 6, none⟩ = some (.int .i64 a0_6) := (blk_cell hbxw 6).trans rfl
  have hbw7 : wr.cell? ⟨w.heap.size, 7, none⟩ = some (.int .i64 a0_7) := (blk_cell hbxw 7).trans rfl
  have hbw8 : wr.cell? ⟨w.heap.size, 8, none⟩ = some (.string a0_8) := (blk_cell hbxw 8).trans rfl
  have hbw9 : wr.cell? ⟨w.heap.size, 9, none⟩ = some (.slice A0_9 l0_9.length c0_9) := (blk_cell hbxw 9).trans rfl
  by_cases hj : x < (ss.length : Int)
  ·obtain ⟨kq1, rfl⟩ : ∃ m, gk = m + 1 := ⟨gk - 1, by omega⟩
   have hjb : decide (x < (ss.length : Int)) = true := decide_eq_true hj
   have hjn : x.toNat < Q.length := by omega
   have hnx : (x + 1).toNat = x.toNat + 1 := by omega
   have hwx : wrap64 (x + 1) = x + 1 := by unfold wrap64; omega
   rcases hrow.2 with ⟨_, hz⟩ | ⟨g, cap, cur, e, hgb, _⟩
   ·omega
   injection e with eA en ec
   subst eA
   subst ec
   clear en
   have hc := hrow.cells (g := g) rfl x.toNat (encStr Q[x.toNat]) (by simp [hjn])
   have hcell : wr.cell? ⟨g, x.toNat, none⟩ = some (.string ⟨(Q[x.toNat]).toArray⟩) := by
    rw [add_plain'] at hc
    exact (hB.out.cell (World.block_lt_of_cell? w6 _ hc)).trans hc
   have hql := hQm _ (List.getElem_mem hjn)
   have hg' := hg.out
   rw [List.drop_eq_getElem_cons hjn] at hg'
   unfold gAll at hg'
   generalize hqq : Q[x.toNat] = q at *
   obtain ⟨gr, hgr, hg'⟩ := Option.bind_eq_some_iff.1 hg'
   split at hg'
   case isFalse => cases hg'
   rename_i hal
   obtain ⟨vg, hlk, hNg⟩ := hGw.look (fun k_ hk => hk.2) (Nat.le_refl _) (by simp only [maxLen]; omega) q hql
   obtain ⟨Ag, cg, rfl⟩ := Kd.N_slice hNg
   have p200 := eq_true hx0
   have q200 := eq_true hj
   clear hqq
   go_wp2_with (first
    | ((with_reducible refine gate_look rfl ?_); refine look_event (some 126) rfl rfl rfl (.map (some w3.heap.size)) (encStr q) rfl rfl hlk ?_)
    | ((with_reducible refine gate_callee (f := 27) rfl ?_); refine goesL_ (some 127) rfl rfl Try.func27 (by kernel_rfl) rfl #[.agg #[.int .i64 7, .string a0_1, .string a0_2, .slice A0_3 l0_3.length c0_3, .slice A0_4 l0_4.length c0_4, .int .i64 a0_5, .int .i64 a0_6, .int .i64 a0_7, .string a0_8, .slice A0_9 l0_9.length c0_9], .slice Ag (na.filter (fun x => decide (keyD k l0_3 x = q))).length cg] rfl (by (try simp only [List.map_toArray, List.map_cons, List.map_nil]); first | done | rfl) ?_; refine (eval_group.calls k 7 a0_1 a0_2 A0_3 c0_3 l0_3 A0_4 c0_4 l0_4 a0_5 a0_6 a0_7 a0_8 A0_9 c0_9 l0_9 Ag cg _ gr _ (Kd.C_below HR0_3.out hBw) hc0_3 (Kd.C_below HR0_4.out hBw) hc0_4 (Kd.C_below HR0_9.out hBw) hc0_9 (Kd.N_reads' hNg).2.2 (Kd.N_reads' hNg).2.1 hgr).mono ?_; rintro e w8 ⟨v127, rfl, ho127, hb8⟩; refine ⟨_, rfl, ?_⟩; obtain ⟨Ar, cr, rfl⟩ := Kd.N_slice ho127)
    | ((with_reducible refine gate_builtin (b := .append) (xs := #[.tmp 122, .tmp 127]) rfl ?_); at_builtin; refine Kd.N_append_rows k44 (w0 := w6) w6.heap.size rfl (.tmp 122) (.tmp 127) 31 44 (.agg #[(.slice none 0 0), (.int .i64 0)]) 32 rfl Try.underlying31 info44 rfl (by decide) (by omega) u7 acc gr Ar _ cr (fun k_ => P1_ k_ ∨ w.heap.size ≤ k_) (fun k_ => wr.heap.size ≤ k_) rfl rfl (Kd.N_below hN.out hb8) (Kd.V_F (Kd.N_V (base' := 0) ho127)) (fun k_ hk => ⟨.inr (Nat.le_trans hBw.size hk), fun e' => by have := Kd.N_lt hN.out k_ e'.symm; omega⟩) (fun k_ hk => .inr (Nat.le_trans (below_step hBw hb8).size hk)) (below_step hB.out hb8) (below_step hB.out hb8).size (by omega) ?_; intro v128 w9 hN9 hB9 hg9 hat9))
   go_roundg kq1
   case measure => omega
   case rel => exact ⟨_, x + 1, (by first | rfl | (simp; done) | (simp [*]; done)), ⟨by omega⟩, ⟨by rw [hnx]; exact hg'⟩, ⟨hN9⟩, ⟨hB9⟩⟩
  ·have hjb : decide (x < (ss.length : Int)) = false := decide_eq_false hj
   have hg' := hg.out
   rw [List.drop_of_length_le (by omega)] at hg'
   obtain rfl : acc = out := Option.some.inj hg'
   obtain ⟨Aa, ca, rfl⟩ := Kd.N_slice hN.out
   go_wp2_with (first
    | ((with_reducible refine gate_callee (f := 16) rfl ?_); refine goesL_ (some 131) rfl rfl Try.func16 (by kernel_rfl) rfl #[.slice Aa acc.length ca] rfl (by (try simp only [List.map_toArray, List.map_cons, List.map_nil]); first | done | rfl) ?_; refine (zset_Norm.calls (fun k_ => P1_ k_ ∨ w.heap.size ≤ k_) _ _ acc r wr (Kd.N_V hN.out) hro).mono ?_; rintro e w10 ⟨v131, rfl, ho131, hb131⟩; refine ⟨_, rfl, ?_⟩))
   go_ret
   exact ⟨_, rfl, Kd.N_lower (Kd.N_mono ho131 (fun k_ hk => hk.elim (fun h => h.elim (fun h => .inl (.inl h)) .inr) (fun h => .inr (Nat.le_trans hBw.size h)))) hBw.size, below_step hBw hb131⟩
end Go.Proofs.Ytgapgdnbgimdlaa.PA
end
