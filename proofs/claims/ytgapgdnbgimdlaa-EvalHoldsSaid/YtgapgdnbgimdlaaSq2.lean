import Derived.Test.YtgapgdnbgimdlaaSq1
section
namespace Go.Proofs.Ytgapgdnbgimdlaa.PO
open Go.Proofs.Ytgapgdnbgimdlaa.Ov Go.RowKit Go.Proofs.YtgapgdnbgimdlaaW.PrintWords Go.Proofs.YtgapgdnbgimdlaaW.PrintLast Go.Proofs.YtgapgdnbgimdlaaW.PrintMore
attribute [local go_sem] max2_int min2_int max_two min_two max_three min_three max_four min_four
set_option linter.unusedVariables false
set_option linter.unusedSimpArgs false
mutual
def api_Weighted_69.l0 [Ω : Env] : Nat → List (S44) → Int → Int → Int → Option ((List (S44)))
 | 0, _, _, _, _ => none
 | k + 1, x0, x1, x2, x8 => if x8 < x2 then (api_Weighted_69.l1 k x0 x1 x2 x8 x8) else (some x0)
def api_Weighted_69.l1 [Ω : Env] : Nat → List (S44) → Int → Int → Int → Int → Option ((List (S44)))
 | 0, _, _, _, _, _ => none
 | k + 1, x0, x1, x2, x8, x9 => if x9 > x1 then (if 0 ≤ x9 then (if x9 < (x0.length : Int) then (if 0 ≤ (wrap64 (x9 - 1)) then (if (wrap64 (x9 - 1)) < (x0.length : Int) then ((cmpo.f k ((rd_T44 x0 x9).f0) ((rd_T44 x0 x9).f1) ((rd_T44 x0 (wrap64 (x9 - 1))).f0) ((rd_T44 x0 (wrap64 (x9 - 1))).f1)).bind fun t112 => (if t112 < 0 then (api_Weighted_69.l1 k ((x0.set (x9 : Int).toNat (⟨(rd_T44 x0 (wrap64 (x9 - 1))).f0, (rd_T44 x0 (wrap64 (x9 - 1))).f1⟩ : S44)).set ((wrap64 (x9 - 1)) : Int).toNat (⟨(rd_T44 x0 x9).f0, (rd_T44 x0 x9).f1⟩ : S44)) x1 x2 x8 (wrap64 (x9 - 1))) else (api_Weighted_69.l0 k x0 x1 x2 (wrap64 (x8 + 1))))) else (none)) else (none)) else (none)) else (none)) else (api_Weighted_69.l0 k x0 x1 x2 (wrap64 (x8 + 1)))
end
def api_Weighted_69.f [Ω : Env] (k : Nat) (l0 : List (S44)) (a1 : Int) (a2 : Int)  : Option ((List (S44))) := api_Weighted_69.l0 k l0 a1 a2 (wrap64 (a1 + 1))
theorem api_Weighted_69.mono_l [Ω : Env] : ∀ k, (∀ y0 y1 y2 y3, LeO (api_Weighted_69.l0 k y0 y1 y2 y3) (api_Weighted_69.l0 (k + 1) y0 y1 y2 y3)) ∧ (∀ y0 y1 y2 y3 y4, LeO (api_Weighted_69.l1 k y0 y1 y2 y3 y4) (api_Weighted_69.l1 (k + 1) y0 y1 y2 y3 y4))
 | 0 => ⟨fun _ _ _ _ r h => by simp [api_Weighted_69.l0] at h, fun _ _ _ _ _ r h => by simp [api_Weighted_69.l1] at h⟩
 | k + 1 => by
  obtain ⟨ih0, ih1⟩ := api_Weighted_69.mono_l k
  refine ⟨?_, ?_⟩
  ·intro y0 y1 y2 y3
   unfold api_Weighted_69.l0
   repeat' first
   | (with_reducible exact ih0 _ _ _ _)
   | (with_reducible exact ih1 _ _ _ _ _)
   | (with_reducible exact cmpo.mono _ _ _ _ _)
   | (with_reducible exact LeO.refl _)
   | (with_reducible exact LeO.none _)
   | (with_reducible refine LeO.ite ?_ ?_)
   | (with_reducible refine LeO.bind ?_ (fun _ => ?_))
   | exact ih0 _ _ _ _
   | exact ih1 _ _ _ _ _
   | exact cmpo.mono _ _ _ _ _
   | exact LeO.none _
   | refine LeO.ite ?_ ?_
   | refine LeO.bind ?_ (fun _ => ?_)
  ·intro y0 y1 y2 y3 y4
   unfold api_Weighted_69.l1
   repeat' first
   | (with_reducible exact ih0 _ _ _ _)
   | (with_reducible exact ih1 _ _ _ _ _)
   | (with_reducible exact cmpo.mono _ _ _ _ _)
   | (with_reducible exact LeO.refl _)
   | (with_reducible exact LeO.none _)
   | (with_reducible refine LeO.ite ?_ ?_)
   | (with_reducible refine LeO.bind ?_ (fun _ => ?_))
   | exact ih0 _ _ _ _
   | exact ih1 _ _ _ _ _
   | exact cmpo.mono _ _ _ _ _
   | exact LeO.none _
   | refine LeO.ite ?_ ?_
   | refine LeO.bind ?_ (fun _ => ?_)
theorem api_Weighted_69.mono [Ω : Env] : ∀ a0 a1 a2 k, LeO (api_Weighted_69.f k a0 a1 a2) (api_Weighted_69.f (k + 1) a0 a1 a2) := by
 intro a0 a1 a2 k
 obtain ⟨ih0, ih1⟩ := api_Weighted_69.mono_l k
 unfold api_Weighted_69.f
 repeat' first
   | (with_reducible exact ih0 _ _ _ _)
   | (with_reducible exact ih1 _ _ _ _ _)
   | (with_reducible exact cmpo.mono _ _ _ _ _)
   | (with_reducible exact LeO.refl _)
   | (with_reducible exact LeO.none _)
   | (with_reducible refine LeO.ite ?_ ?_)
   | (with_reducible refine LeO.bind ?_ (fun _ => ?_))
   | exact ih0 _ _ _ _
   | exact ih1 _ _ _ _ _
   | exact cmpo.mono _ _ _ _ _
   | exact LeO.none _
   | refine LeO.ite ?_ ?_
   | refine LeO.bind ?_ (fun _ => ?_)
def api_Weighted_69.T4 : Bool × List (List Nat × List Nat) := (true, [([], []), ([], []), ([0, 1], [0, 1]), ([2], [2]), ([3], [3]), ([3], [3]), ([3], [3]), ([5, 6, 3], [3, 5, 6]), ([7, 3], [3, 7]), ([3], [3]), ([3], [3]), ([10, 3], [3, 10]), ([9, 11, 3], [3, 9, 11]), ([12, 3], [3, 12]), ([4, 8, 13, 3, 3], [3, 4, 8, 13]), ([14, 3], [3, 14]), ([3, 15], [3, 15])])
def api_Weighted_69.B4 : List Nat := [0, 0, 3, 7, 15, 15, 15, 111, 239, 15, 15, 1039, 3599, 7695, 16383, 32767, 65535]
theorem api_Weighted_69.tab4 : rtab .any (opsOf Try.f69 4) = api_Weighted_69.T4 := by kernel_rfl
theorem api_Weighted_69.bits4 : waitsOk api_Weighted_69.T4.2 api_Weighted_69.B4 = true := by kernel_rfl
def api_Weighted_69.T6 : Bool × List (List Nat × List Nat) := (true, [([], []), ([], []), ([], []), ([], []), ([3], [3]), ([], []), ([], []), ([6], [6]), ([5, 7], [5, 7]), ([8], [8]), ([], []), ([], []), ([10, 11], [10, 11]), ([12], [12]), ([0, 1, 0, 1, 5, 6, 7, 8, 9, 13], [0, 1]), ([14, 9, 0, 1, 5, 6, 7, 8, 9, 13], [9, 14]), ([2, 4, 0, 1, 2, 3, 4, 5, 6, 7, 8, 9, 10, 11, 12, 13, 14, 15], [2, 4]), ([16, 13, 15, 0, 1, 2, 3, 4, 5, 6, 7, 8, 9, 10, 11, 12, 13, 14, 15], [13, 16])])
def api_Weighted_69.B6 : List Nat := [0, 0, 0, 0, 8, 0, 0, 64, 224, 480, 0, 0, 3072, 7168, 16355, 32739, 65535, 131071]
theorem api_Weighted_69.tab6 : rtab .any (opsOf Try.f69 6) = api_Weighted_69.T6 := by kernel_rfl
theorem api_Weighted_69.bits6 : waitsOk api_Weighted_69.T6.2 api_Weighted_69.B6 = true := by kernel_rfl
set_option maxHeartbeats 8000000 in
set_option maxRecDepth 100000 in
theorem api_Weighted_69.calls [Ω : Env] (k : Nat) (P0_ : Nat → Prop) (u9000_ : Value) (l0 : List (S44)) (a1 : Int) (a2 : Int)  (r : List (S44)) (w : World) (hB : Below w0.heap.size w0 w) (ho0 : Kd.R k44 44 w w0.heap.size P0_ u9000_ l0) (h : api_Weighted_69.f k l0 a1 a2 = some r) :
  Calls Try.prog 69 #[u9000_, .int .i64 a1, .int .i64 a2, .func (.func 40) #[] #[]] w fun e w' => e = .returned (.tuple #[]) ∧ Kd.R k44 44 w' w0.heap.size (fun k_ => (P0_ k_ ∨ w.heap.size ≤ k_)) u9000_ r ∧ Below w0.heap.size w0 w' ∧ Kept w w' (fun k_ => P0_ k_) := by
 have hu44 := Try.underlying44
 have HO0 := Aside0.mk (show Kd.R k44 44 w w0.heap.size (fun k_ => (P0_ k_ ∨ w.heap.size ≤ k_)) u9000_ l0 from Kd.R_mono ho0 (fun k_ hk => (.inl hk)))
 have HK := Aside0.mk (Kept.refl w (fun k_ => P0_ k_))
 have HW0 := Aside0.mk hB.size
 have HB := Aside0.mk hB
 clear hB
 have H : (api_Weighted_69.l0 k l0 a1 a2 (wrap64 (a1 + 1))) = some r := h
 clear h
 have H' := Aside0.mk H
 clear H
 go_enter Try.func69, Try.ntmps69
 go_wp2
 go_loopg [8] k (fun kq v8 w' => ∃ (x0_1 : List (S44)) (x8_1 : Int), v8 = .int .i64 x8_1 ∧ Aside0 (api_Weighted_69.l0 kq x0_1 a1 a2 x8_1 = some r) ∧ Aside0 (kq ≤ k) ∧ Aside0 (Kd.R k44 44 w' w0.heap.size (fun k_ => (P0_ k_ ∨ w.heap.size ≤ k_)) u9000_ x0_1) ∧ Aside0 (Kept w w' (fun k_ => P0_ k_)) ∧ Aside0 (Below w0.heap.size w0 w'))
 case atStart => exact ⟨(l0), (wrap64 (a1 + 1)), (by first | rfl | (simp; done) | (simp [*]; done)), H', ⟨Nat.le_refl _⟩, ⟨qr_ HO0.out⟩, ⟨qk_⟩, ⟨qh_⟩⟩
 case round =>
  clear H'
  try clear p2
  obtain ⟨x0_1, x8_1, rfl, HA, HK1, HO_0, HK, HB⟩ := hrel
  cases gk with
  | zero => exact absurd HA.out (by simp [api_Weighted_69.l0])
  | succ k1 =>
   have H := HA.out
   clear HA
   simp only [api_Weighted_69.l0] at H
   by_cases c5 : x8_1 < a2
   ·rw [if_pos c5] at H
    have c5b0 : decide (x8_1 < a2) = true := decide_eq_true c5
    clear c5
    have H' := Aside0.mk H
    clear H
    go_wp2
    go_loopg [9] k1 (fun kq v9 w' => ∃ (x0_2 : List (S44)) (x9_2 : Int), v9 = .int .i64 x9_2 ∧ Aside0 (api_Weighted_69.l1 kq x0_2 a1 a2 x8_1 x9_2 = some r) ∧ Aside0 (kq ≤ k1) ∧ Aside0 (Kd.R k44 44 w' w0.heap.size (fun k_ => (P0_ k_ ∨ w.heap.size ≤ k_)) u9000_ x0_2) ∧ Aside0 (Kept w w' (fun k_ => P0_ k_)) ∧ Aside0 (Below w0.heap.size w0 w'))
    case atStart => exact ⟨(x0_1), (x8_1), (by first | rfl | (simp; done) | (simp [*]; done)), H', ⟨Nat.le_refl _⟩, ⟨qr_ HO_0.out⟩, ⟨qk_⟩, ⟨qh_⟩⟩
    case round =>
     clear H'
     try clear p2
     try clear c5
     try clear c5b0
     try clear p2
     obtain ⟨x0_2, x9_2, rfl, HA, HK2, HO_0, HK, HB⟩ := hrel
     cases gk with
     | zero => exact absurd HA.out (by simp [api_Weighted_69.l1])
     | succ k2 =>
      have H := HA.out
      clear HA
      simp only [api_Weighted_69.l1] at H
      by_cases c6 : x9_2 > a1
      ·rw [if_pos c6] at H
       have c6b0 : decide (a1 < x9_2) = true := decide_eq_true c6
       clear c6
       by_cases c7 : 0 ≤ x9_2
       ·rw [if_pos c7] at H
        have c7b0 : decide (0 ≤ x9_2) = true := decide_eq_true c7
        clear c7
        by_cases c8 : x9_2 < (x0_2.length : Int)
        ·rw [if_pos c8] at H
         have c8b0 : decide (x9_2 < (x0_2.length : Int)) = true := decide_eq_true c8
         clear c8
         obtain ⟨ji9, hji9⟩ : ∃ j_ : Int, (wrap64 (x9_2 - 1)) = j_ := ⟨_, rfl⟩
         replace H : (if 0 ≤ (ji9) then (if (ji9) < (x0_2.length : Int) then ((cmpo.f k2 ((rd_T44 x0_2 x9_2).f0) ((rd_T44 x0_2 x9_2).f1) ((rd_T44 x0_2 (ji9)).f0) ((rd_T44 x0_2 (ji9)).f1)).bind fun t112 => (if t112 < 0 then (api_Weighted_69.l1 k2 ((x0_2.set (x9_2 : Int).toNat (⟨(rd_T44 x0_2 (ji9)).f0, (rd_T44 x0_2 (ji9)).f1⟩ : S44)).set ((ji9) : Int).toNat (⟨(rd_T44 x0_2 x9_2).f0, (rd_T44 x0_2 x9_2).f1⟩ : S44)) a1 a2 x8_1 ji9) else (api_Weighted_69.l0 k2 x0_2 a1 a2 (wrap64 (x8_1 + 1))))) else (none)) else (none)) = some r := by first | (rw [hji9] at H; exact H) | (simp only [hji9] at H ⊢; exact H)
         have hji9w : (IntKind.i64.wrap (x9_2 - 1)) = ji9 := (i64_w _).trans hji9
         by_cases c10 : 0 ≤ (ji9)
         ·rw [if_pos c10] at H
          have c10b0 : decide (0 ≤ (ji9)) = true := decide_eq_true c10
          clear c10
          by_cases c11 : (ji9) < (x0_2.length : Int)
          ·rw [if_pos c11] at H
           have c11b0 : decide ((ji9) < (x0_2.length : Int)) = true := decide_eq_true c11
           clear c11
           replace H := Option.bind_eq_some_iff.mp H
           obtain ⟨t112, A120, H⟩ := H
           replace H : (if t112 < 0 then (api_Weighted_69.l1 k2 ((x0_2.set (x9_2 : Int).toNat (⟨(rd_T44 x0_2 (ji9)).f0, (rd_T44 x0_2 (ji9)).f1⟩ : S44)).set ((ji9) : Int).toNat (⟨(rd_T44 x0_2 x9_2).f0, (rd_T44 x0_2 x9_2).f1⟩ : S44)) a1 a2 x8_1 ji9) else (api_Weighted_69.l0 k2 x0_2 a1 a2 (wrap64 (x8_1 + 1)))) = some r := H
           have A12 := Aside0.mk A120
           clear A120
           by_cases c13 : t112 < 0
           ·rw [if_pos c13] at H
            have c13b0 : decide (t112 < 0) = true := decide_eq_true c13
            clear c13
            obtain ⟨y115, hy115⟩ : ∃ y_ : List (S44), y_ = (x0_2.set (x9_2 : Int).toNat (⟨(rd_T44 x0_2 (ji9)).f0, (rd_T44 x0_2 (ji9)).f1⟩ : S44)) := ⟨_, rfl⟩
            replace H : (api_Weighted_69.l1 k2 (y115.set ((ji9) : Int).toNat (⟨(rd_T44 x0_2 x9_2).f0, (rd_T44 x0_2 x9_2).f1⟩ : S44)) a1 a2 x8_1 ji9) = some r := by first | (rw [hy115]; with_reducible exact H) | (have H2_ := (Option.bind_some _ _).symm.trans H; rw [hy115]; with_reducible exact H2_) | (have H2_ := (Option.bind_some _ _).symm.trans H; with_reducible exact H2_) | with_reducible exact H | (rw [hy115]; exact H) | exact H
            have Ny115 := Aside0.mk hy115
            clear hy115
            obtain ⟨y116, hy116⟩ : ∃ y_ : List (S44), y_ = (y115.set ((ji9) : Int).toNat (⟨(rd_T44 x0_2 x9_2).f0, (rd_T44 x0_2 x9_2).f1⟩ : S44)) := ⟨_, rfl⟩
            replace H : (api_Weighted_69.l1 k2 y116 a1 a2 x8_1 ji9) = some r := by first | (rw [hy116]; with_reducible exact H) | (have H2_ := (Option.bind_some _ _).symm.trans H; rw [hy116]; with_reducible exact H2_) | (have H2_ := (Option.bind_some _ _).symm.trans H; with_reducible exact H2_) | with_reducible exact H | (rw [hy116]; exact H) | exact H
            have Ny116 := Aside0.mk hy116
            clear hy116
            have H' := Aside0.mk H
            clear H
            try go_wp2
            have n0_ := Aside0.mk (Kd.R_drew HO_0.out)
            have n1_ := Aside0.mk (Kept.drew HK.out)
            have n2_ := Aside0.mk (below_drew1 HB.out)
            clear HO_0
            clear HK
            clear HB
            have HO_0 := n0_
            have HK := n1_
            have HB := n2_
            clear n0_ n1_ n2_
            obtain ⟨Ao17, co17, eo17⟩ := Kd.R_slice HO_0.out
            (first | subst eo17 | (injection eo17 with f1_ f2_ f3_; have f4_ := f1_.symm; have f5_ := f3_.symm; clear f1_ f2_ f3_; subst f4_; subst f5_))
            have p110 : 0 ≤ (x9_2 : Int) := of_decide_eq_true (by first | (with_reducible assumption) | assumption)
            have q110 : x9_2 < (x0_2.length : Int) := of_decide_eq_true (by first | (with_reducible assumption) | assumption)
            obtain ⟨ad110, e110, hx110_0, hx110_1⟩ := at_T44 (Kd.R_reads' HO_0.out).2.2 x9_2 p110 q110
            cases e110
            replace p110 := eq_true p110
            replace q110 := eq_true q110
            have p111 : 0 ≤ ((ji9) : Int) := of_decide_eq_true (by first | (with_reducible assumption) | assumption)
            have q111 : (ji9) < (x0_2.length : Int) := of_decide_eq_true (by first | (with_reducible assumption) | assumption)
            obtain ⟨ad111, e111, hx111_0, hx111_1⟩ := at_T44 (Kd.R_reads' HO_0.out).2.2 (ji9) p111 q111
            obtain rfl : ad110 = ad111 := (by injection e111)
            replace p111 := eq_true p111
            replace q111 := eq_true q111
            refine start_ (n := 17) (S := fun w' => w'.cell? (ad110.add ((x9_2).toNat * 2)) = some (.slice ((rd_T44 x0_2 x9_2).f0).A ((rd_T44 x0_2 x9_2).f0).n ((rd_T44 x0_2 x9_2).f0).c) ∧ w'.cell? ⟨(ad110.add ((x9_2).toNat * 2)).block, (ad110.add ((x9_2).toNat * 2)).off + 1, none⟩ = some (.int .i64 ((rd_T44 x0_2 x9_2).f1)) ∧ w'.cell? (ad110.add (((ji9)).toNat * 2)) = some (.slice ((rd_T44 x0_2 (ji9)).f0).A ((rd_T44 x0_2 (ji9)).f0).n ((rd_T44 x0_2 (ji9)).f0).c) ∧ w'.cell? ⟨(ad110.add (((ji9)).toNat * 2)).block, (ad110.add (((ji9)).toNat * 2)).off + 1, none⟩ = some (.int .i64 ((rd_T44 x0_2 (ji9)).f1))) (ds := []) #[false, false, false, false, false, false, false, false, false, false, false, false, false, false, false, false, false] (by kernel_rfl) rfl rfl ⟨hx110_0, hx110_1, hx111_0, hx111_1⟩ (fun hHeld => ?_); refine with_tabW api_Weighted_69.tab4 api_Weighted_69.bits4 (fun HT_ HW_ => ?_)
            generalize wr.drew = w16 at HO_0 HK HB hx110_0 hx110_1 hx111_0 hx111_1 hHeld ⊢
            refine pure_ (i := 0) (N := some 18) (v := ?_) (a' := ?_) #[true, false, false, false, false, false, false, false, false, false, false, false, false, false, false, false, false] rfl rfl (any_of HT_.out (by kernel_rfl)) (fun _ _ _ h => h) (Or.inl ⟨by rfl, ?_⟩) ?_ ?_
            rotate_left
            ·intro w'
             go_simp
             with_reducible rfl
            rotate_left
            ·simp only [Act.put, List.setIfInBounds_toArray, List.set_cons_zero, List.set_cons_succ, i64_w, i32_w]
             rfl
            refine pure_ (i := 1) (N := some 19) (v := ?_) (a' := ?_) #[true, true, false, false, false, false, false, false, false, false, false, false, false, false, false, false, false] rfl rfl (any_of HT_.out (by kernel_rfl)) (fun _ _ _ h => h) (Or.inl ⟨by rfl, ?_⟩) ?_ ?_
            rotate_left
            ·intro w'
             go_simp
             with_reducible rfl
            rotate_left
            ·simp only [Act.put, List.setIfInBounds_toArray, List.set_cons_zero, List.set_cons_succ, i64_w, i32_w]
             rfl
            refine pure_ (i := 2) (N := some 20) (v := ?_) (a' := ?_) #[true, true, true, false, false, false, false, false, false, false, false, false, false, false, false, false, false] rfl rfl (any_of HT_.out (by kernel_rfl)) (fun _ _ _ h => h) (Or.inl ⟨by rfl, ?_⟩) ?_ ?_
            rotate_left
            ·intro w'
             go_simp
             with_reducible rfl
            rotate_left
            ·simp only [Act.put, List.setIfInBounds_toArray, List.set_cons_zero, List.set_cons_succ, i64_w, i32_w]
             rfl
            refine pure_ (i := 3) (N := some 21) (v := ?_) (a' := ?_) #[true, true, true, true, false, false, false, false, false, false, false, false, false, false, false, false, false] rfl rfl (any_of HT_.out (by kernel_rfl)) (fun _ _ _ h => h) (Or.inl ⟨by rfl, ?_⟩) ?_ ?_
            rotate_left
            ·intro w'
             go_simp
             with_reducible rfl
            rotate_left
            ·simp only [Act.put, List.setIfInBounds_toArray, List.set_cons_zero, List.set_cons_succ, i64_w, i32_w]
             rfl
            refine pure_ (i := 4) (N := some 22) (v := ?_) (a' := ?_) #[true, true, true, true, true, false, false, false, false, false, false, false, false, false, false, false, false] rfl rfl (any_of HT_.out (by kernel_rfl)) (fun _ _ _ h => h) (Or.inl ⟨by rfl, ?_⟩) ?_ ?_
            rotate_left
            ·intro w'
             go_simp
             with_reducible rfl
            rotate_left
            ·simp only [Act.put, List.setIfInBounds_toArray, List.set_cons_zero, List.set_cons_succ, i64_w, i32_w]
             rfl
            refine pure_ (i := 5) (N := some 23) (v := ?_) (a' := ?_) #[true, true, true, true, true, true, false, false, false, false, false, false, false, false, false, false, false] rfl rfl (any_of HT_.out (by kernel_rfl)) (fun _ _ _ h => h) (Or.inl ⟨by rfl, ?_⟩) ?_ ?_
            rotate_left
            ·intro w'
             go_simp
             with_reducible rfl
            rotate_left
            ·simp only [Act.put, List.setIfInBounds_toArray, List.set_cons_zero, List.set_cons_succ, i64_w, i32_w]
             rfl
            refine pure_ (i := 6) (N := some 24) (v := ?_) (a' := ?_) #[true, true, true, true, true, true, true, false, false, false, false, false, false, false, false, false, false] rfl rfl (any_of HT_.out (by kernel_rfl)) (fun _ _ _ h => h) (Or.inl ⟨by rfl, ?_⟩) ?_ ?_
            rotate_left
            ·intro w'
             go_simp
             with_reducible rfl
            rotate_left
            ·simp only [Act.put, List.setIfInBounds_toArray, List.set_cons_zero, List.set_cons_succ, i64_w, i32_w]
             rfl
            refine pure_ (i := 7) (N := some 25) (v := ?_) (a' := ?_) #[true, true, true, true, true, true, true, true, false, false, false, false, false, false, false, false, false] rfl rfl (any_of HT_.out (by kernel_rfl)) (fun _ _ _ h => h) (Or.inl ⟨by rfl, ?_⟩) ?_ ?_
            rotate_left
            ·intro w'
             go_simp
             with_reducible rfl
            rotate_left
            ·simp only [Act.put, List.setIfInBounds_toArray, List.set_cons_zero, List.set_cons_succ, i64_w, i32_w]
             rfl
            refine pure_ (i := 9) (N := some 27) (v := ?_) (a' := ?_) #[true, true, true, true, true, true, true, true, false, true, false, false, false, false, false, false, false] rfl rfl (any_of HT_.out (by kernel_rfl)) (fun _ _ _ h => h) (Or.inl ⟨by rfl, ?_⟩) ?_ ?_
            rotate_left
            ·intro w'
             go_simp
             with_reducible rfl
            rotate_left
            ·simp only [Act.put, List.setIfInBounds_toArray, List.set_cons_zero, List.set_cons_succ, i64_w, i32_w]
             rfl
            refine pure_ (i := 10) (N := some 28) (v := ?_) (a' := ?_) #[true, true, true, true, true, true, true, true, false, true, true, false, false, false, false, false, false] rfl rfl (any_of HT_.out (by kernel_rfl)) (fun _ _ _ h => h) (Or.inl ⟨by rfl, ?_⟩) ?_ ?_
            rotate_left
            ·intro w'
             go_simp
             with_reducible rfl
            rotate_left
            ·simp only [Act.put, List.setIfInBounds_toArray, List.set_cons_zero, List.set_cons_succ, i64_w, i32_w]
             rfl
            refine pure_ (i := 11) (N := some 29) (v := ?_) (a' := ?_) #[true, true, true, true, true, true, true, true, false, true, true, true, false, false, false, false, false] rfl rfl (any_of HT_.out (by kernel_rfl)) (fun _ _ _ h => h) (Or.inl ⟨by rfl, ?_⟩) ?_ ?_
            rotate_left
            ·intro w'
             go_simp
             with_reducible rfl
            rotate_left
            ·simp only [Act.put, List.setIfInBounds_toArray, List.set_cons_zero, List.set_cons_succ, i64_w, i32_w]
             rfl
            refine pure_ (i := 12) (N := some 30) (v := ?_) (a' := ?_) #[true, true, true, true, true, true, true, true, false, true, true, true, true, false, false, false, false] rfl rfl (any_of HT_.out (by kernel_rfl)) (fun _ _ _ h => h) (Or.inl ⟨by rfl, ?_⟩) ?_ ?_
            rotate_left
            ·intro w'
             go_simp
             with_reducible rfl
            rotate_left
            ·simp only [Act.put, List.setIfInBounds_toArray, List.set_cons_zero, List.set_cons_succ, i64_w, i32_w]
             rfl
            refine take_ (i := 8) (N := some 26) (v := ?_) (a' := ?_) #[true, true, true, true, true, true, true, true, true, true, true, true, true, false, false, false, false] rfl rfl (take_ofW HT_.out HW_.out (by kernel_rfl)) (fun _ _ _ h => h) (Or.inl ⟨by rfl, ?_⟩) hHeld ?_ ?_
            rotate_left
            ·rintro w' ⟨s0, s1, s2, s3⟩
             go_simp
             with_reducible rfl
            rotate_left
            ·simp only [Act.put, List.setIfInBounds_toArray, List.set_cons_zero, List.set_cons_succ, i64_w, i32_w]
             rfl
            refine take_ (i := 13) (N := some 31) (v := ?_) (a' := ?_) #[true, true, true, true, true, true, true, true, true, true, true, true, true, true, false, false, false] rfl rfl (take_ofW HT_.out HW_.out (by kernel_rfl)) (fun _ _ _ h => h) (Or.inl ⟨by rfl, ?_⟩) hHeld ?_ ?_
            rotate_left
            ·rintro w' ⟨s0, s1, s2, s3⟩
             go_simp
             with_reducible rfl
            rotate_left
            ·simp only [Act.put, List.setIfInBounds_toArray, List.set_cons_zero, List.set_cons_succ, i64_w, i32_w]
             rfl
            refine one_ (i := 14) (N := some 32) #[true, true, true, true, true, true, true, true, true, true, true, true, true, true, true, false, false] rfl rfl (one_of HT_.out (by kernel_rfl)) (by decide) (fun K hK => ?_)
            refine goesT_ Try.func40 (by kernel_rfl) rfl #[.agg #[.slice ((rd_T44 x0_2 x9_2).f0).A ((rd_T44 x0_2 x9_2).f0).n ((rd_T44 x0_2 x9_2).f0).c, .int .i64 ((rd_T44 x0_2 x9_2).f1)], .agg #[.slice ((rd_T44 x0_2 (ji9)).f0).A ((rd_T44 x0_2 (ji9)).f0).n ((rd_T44 x0_2 (ji9)).f0).c, .int .i64 ((rd_T44 x0_2 (ji9)).f1)]] (by rfl) rfl rfl (by (try simp only [List.map_toArray, List.map_cons, List.map_nil]); first | done | (simp only [hji9]; rfl) | rfl | (simp only [List.length_drop, List.length_take]; rfl)) ?_
            with_reducible refine (cmpo.calls k2 ((rd_T44 x0_2 x9_2).f0) ((rd_T44 x0_2 x9_2).f1) ((rd_T44 x0_2 (ji9)).f0) ((rd_T44 x0_2 (ji9)).f1) t112 _ ?side1 A12.out).mono ?_
            (case side1 => repeat (first | (with_reducible first | exact HB.out | apply below_alloc | apply pw_below_drewN | apply below_drew1) | exact HB.out))
            rintro e w18 ⟨rfl, hb⟩
            have HS0_ := (hb.cell (World.block_lt_of_cell? _ _ (hHeld.1))).trans (hHeld.1)
            have HS1_ := (hb.cell (World.block_lt_of_cell? _ _ (hHeld.2.1))).trans (hHeld.2.1)
            have HS2_ := (hb.cell (World.block_lt_of_cell? _ _ (hHeld.2.2.1))).trans (hHeld.2.2.1)
            have HS3_ := (hb.cell (World.block_lt_of_cell? _ _ (hHeld.2.2.2))).trans (hHeld.2.2.2)
            refine ⟨_, rfl, ?_⟩
            have n0_ := Aside0.mk (Kd.R_below (qr_ HO_0.out) hb)
            have n1_ := Aside0.mk (Kept.below (S := (fun k_ => P0_ k_)) qk_ hb)
            have n2_ := Aside0.mk (below_step qh_ hb)
            clear HO_0
            clear HK
            clear HB
            have HO_0 := n0_
            have HK := n1_
            have HB := n2_
            clear n0_ n1_ n2_
            (try clear hb)
            (try clear hb2)
            (try clear hk)
            (try clear hi)
            refine hK.out _ _ ⟨HS0_, HS1_, HS2_, HS3_⟩ (fun hHeld => ?_)
            clear hK K
            refine norm_ (a' := ?_) ?_ ?_
            rotate_left
            ·show Act.put _ (some 32) _ = _
             simp only [Act.put, List.setIfInBounds_toArray, List.set_cons_zero, List.set_cons_succ, i64_w, i32_w]
             rfl
            refine pure_ (i := 15) (N := some 33) (v := ?_) (a' := ?_) #[true, true, true, true, true, true, true, true, true, true, true, true, true, true, true, true, false] rfl rfl (any_of HT_.out (by kernel_rfl)) (fun _ _ _ h => h) (Or.inl ⟨by rfl, ?_⟩) ?_ ?_
            rotate_left
            ·intro w'
             go_simp
             with_reducible rfl
            rotate_left
            ·simp only [Act.put, List.setIfInBounds_toArray, List.set_cons_zero, List.set_cons_succ, i64_w, i32_w]
             rfl
            refine pure_ (i := 16) (N := some 34) (v := ?_) (a' := ?_) #[true, true, true, true, true, true, true, true, true, true, true, true, true, true, true, true, true] rfl rfl (any_of HT_.out (by kernel_rfl)) (fun _ _ _ h => h) (Or.inl ⟨by rfl, ?_⟩) ?_ ?_
            rotate_left
            ·intro w'
             go_simp
             with_reducible rfl
            rotate_left
            ·simp only [Act.put, List.setIfInBounds_toArray, List.set_cons_zero, List.set_cons_succ, i64_w, i32_w]
             rfl
            refine done_ (done_of HT_.out (by kernel_rfl)) ?_
            try go_wp2
            have n0_ := Aside0.mk (Kd.R_drew HO_0.out)
            have n1_ := Aside0.mk (Kept.drew HK.out)
            have n2_ := Aside0.mk (below_drew1 HB.out)
            clear HO_0
            clear HK
            clear HB
            have HO_0 := n0_
            have HK := n1_
            have HB := n2_
            clear n0_ n1_ n2_
            have p113 : 0 ≤ ((ji9) : Int) := of_decide_eq_true (by first | (with_reducible assumption) | assumption)
            have q113 : (ji9) < (x0_2.length : Int) := of_decide_eq_true (by first | (with_reducible assumption) | assumption)
            obtain ⟨ad113, e113, hx113_0, hx113_1⟩ := at_T44 (Kd.R_reads' HO_0.out).2.2 (ji9) p113 q113
            obtain rfl : ad110 = ad113 := (by injection e113)
            replace p113 := eq_true p113
            replace q113 := eq_true q113
            have p114 : 0 ≤ (x9_2 : Int) := of_decide_eq_true (by first | (with_reducible assumption) | assumption)
            have q114 : x9_2 < (x0_2.length : Int) := of_decide_eq_true (by first | (with_reducible assumption) | assumption)
            obtain ⟨ad114, e114, hx114_0, hx114_1⟩ := at_T44 (Kd.R_reads' HO_0.out).2.2 x9_2 p114 q114
            obtain rfl : ad110 = ad114 := (by injection e114)
            replace p114 := eq_true p114
            replace q114 := eq_true q114
            have p14 : 0 ≤ (x9_2 : Int) := of_decide_eq_true (by first | (with_reducible assumption) | assumption)
            have q14 : (x9_2 : Int) < ((x0_2.length : Int) : Int) := of_decide_eq_true (by first | (with_reducible assumption) | assumption)
            obtain ⟨go14, co14, eo14, gb14, gl14, cl14, HG14⟩ := Kd.R_form HO_0.out (by omega)
            (first | cases eo14 | (injection eo14 with ea_ en_ ec_; (first | subst ea_ | (injection ea_ with ea_; subst ea_)); subst ec_; clear en_))
            have GB14 := Aside0.mk gb14
            have GG14 := Aside0.mk HG14
            clear gb14 gl14 HG14
            have HMgo14 := Aside0.mk (show (P0_ go14 ∨ w.heap.size ≤ go14) from (HO_0.out.1 _ rfl))
            (first | simp only [add_plain] at hx110_0 | skip)
            (first | simp only [add_plain] at hx110_1 | skip)
            (first | simp only [add_plain] at hx111_0 | skip)
            (first | simp only [add_plain] at hx111_1 | skip)
            (first | simp only [add_plain] at hx113_0 | skip)
            (first | simp only [add_plain] at hx113_1 | skip)
            (first | simp only [add_plain] at hx114_0 | skip)
            (first | simp only [add_plain] at hx114_1 | skip)
            obtain ⟨ce14, hcl14, hM14, hcc14, hfr14⟩ := Kd.R_elem HO_0.out z44 (x9_2 : Int) p14 q14
            obtain rfl := k44_openM hM14
            have hx14_0 : World.cell? _ ⟨go14, (x9_2 : Int).toNat * 2, none⟩ = some (.slice ((rd_T44 x0_2 x9_2).f0).A ((rd_T44 x0_2 x9_2).f0).n ((rd_T44 x0_2 x9_2).f0).c) := hcc14 0 _ rfl
            have hx14_1 : World.cell? _ ⟨go14, (x9_2 : Int).toNat * 2 + 1, none⟩ = some (.int .i64 ((rd_T44 x0_2 x9_2).f1)) := hcc14 1 _ rfl
            have hf14_0 : World.frozen? _ ⟨go14, (x9_2 : Int).toNat * 2, none⟩ = false := hfr14 0
            have hf14_1 : World.frozen? _ ⟨go14, (x9_2 : Int).toNat * 2 + 1, none⟩ = false := hfr14 1
            clear hcl14 hcc14 hfr14 hM14
            replace p14 := eq_true p14
            replace q14 := eq_true q14
            obtain ⟨ce20, hcl20, hM20, hcc20, hfr20⟩ := Kd.R_elem HO_0.out z44 (x9_2 : Int) (of_decide_eq_true (by first | (with_reducible assumption) | assumption)) (by have h_ : (x9_2 : Int) < ((x0_2.length : Int) : Int) := of_decide_eq_true (by first | (with_reducible assumption) | assumption); first | exact h_ | (have e_ := (Kd.R_reads' HO_0.out).1; omega) | simpa using h_)
            obtain rfl := k44_openM hM20
            have HP20 := (Kd.R_seg HO_0.out (x9_2 : Int) (of_decide_eq_true (by first | (with_reducible assumption) | assumption)) (by have h_ : (x9_2 : Int) < ((x0_2.length : Int) : Int) := of_decide_eq_true (by first | (with_reducible assumption) | assumption); first | exact h_ | (have e_ := (Kd.R_reads' HO_0.out).1; omega) | simpa using h_) (seg := [.slice ((rd_T44 x0_2 (ji9)).f0).A ((rd_T44 x0_2 (ji9)).f0).n ((rd_T44 x0_2 (ji9)).f0).c, .int .i64 ((rd_T44 x0_2 (ji9)).f1)]) (j := 0) hcl20 hcc20 (show 2 ≤ 2 from by decide) (x' := (⟨(rd_T44 x0_2 (ji9)).f0, (rd_T44 x0_2 (ji9)).f1⟩ : S44)) (k44_mkM _ _ _ (⟨(rd_T44 x0_2 (ji9)).f0, (rd_T44 x0_2 (ji9)).f1⟩ : S44) ) (fun _ hk => hk)).1
            rw [← Ny115.out] at HP20
            have HQ20 := Aside0.mk HP20
            clear hcl20 hcc20 hfr20 hM20 HP20
            have p15 : 0 ≤ ((ji9) : Int) := of_decide_eq_true (by first | (with_reducible assumption) | assumption)
            have q15 : ((ji9) : Int) < ((x0_2.length : Int) : Int) := of_decide_eq_true (by first | (with_reducible assumption) | assumption)
            obtain ⟨ce15, hcl15, hM15, hcc15, hfr15⟩ := Kd.R_elem HQ20.out z44 ((ji9) : Int) p15 q15
            obtain rfl := k44_openM hM15
            have hx15_0 : World.cell? _ ⟨go14, ((ji9) : Int).toNat * 2, none⟩ = some (.slice ((rd_T44 y115 (ji9)).f0).A ((rd_T44 y115 (ji9)).f0).n ((rd_T44 y115 (ji9)).f0).c) := hcc15 0 _ rfl
            have hx15_1 : World.cell? _ ⟨go14, ((ji9) : Int).toNat * 2 + 1, none⟩ = some (.int .i64 ((rd_T44 y115 (ji9)).f1)) := hcc15 1 _ rfl
            have hf15_0 : World.frozen? _ ⟨go14, ((ji9) : Int).toNat * 2, none⟩ = false := hfr15 0
            have hf15_1 : World.frozen? _ ⟨go14, ((ji9) : Int).toNat * 2 + 1, none⟩ = false := hfr15 1
            clear hcl15 hcc15 hfr15 hM15
            replace p15 := eq_true p15
            replace q15 := eq_true q15
            obtain ⟨ce21, hcl21, hM21, hcc21, hfr21⟩ := Kd.R_elem HQ20.out z44 ((ji9) : Int) (of_decide_eq_true (by first | (with_reducible assumption) | assumption)) (by have h_ : ((ji9) : Int) < ((x0_2.length : Int) : Int) := of_decide_eq_true (by first | (with_reducible assumption) | assumption); first | exact h_ | (have e_ := (Kd.R_reads' HO_0.out).1; omega) | simpa using h_)
            obtain rfl := k44_openM hM21
            have HP21 := (Kd.R_seg HQ20.out ((ji9) : Int) (of_decide_eq_true (by first | (with_reducible assumption) | assumption)) (by have h_ : ((ji9) : Int) < ((x0_2.length : Int) : Int) := of_decide_eq_true (by first | (with_reducible assumption) | assumption); first | exact h_ | (have e_ := (Kd.R_reads' HO_0.out).1; omega) | simpa using h_) (seg := [.slice ((rd_T44 x0_2 x9_2).f0).A ((rd_T44 x0_2 x9_2).f0).n ((rd_T44 x0_2 x9_2).f0).c, .int .i64 ((rd_T44 x0_2 x9_2).f1)]) (j := 0) hcl21 hcc21 (show 2 ≤ 2 from by decide) (x' := (⟨(rd_T44 x0_2 x9_2).f0, (rd_T44 x0_2 x9_2).f1⟩ : S44)) (k44_mkM _ _ _ (⟨(rd_T44 x0_2 x9_2).f0, (rd_T44 x0_2 x9_2).f1⟩ : S44) ) (fun _ hk => hk)).1
            rw [← Ny116.out] at HP21
            have HQ21 := Aside0.mk HP21
            clear hcl21 hcc21 hfr21 hM21 HP21
            (try simp only [World.setCells, show k44.sz = 2 from rfl, Nat.add_zero] at hx14_0 hx14_1 hf14_0 hf14_1 hx15_0 hx15_1 hf15_0 hf15_1)
            refine start_ (n := 18) (S := fun w' => w'.cell? ⟨go14, ((ji9)).toNat * 2, none⟩ = some (.slice ((rd_T44 x0_2 (ji9)).f0).A ((rd_T44 x0_2 (ji9)).f0).n ((rd_T44 x0_2 (ji9)).f0).c) ∧ w'.cell? ⟨go14, ((ji9)).toNat * 2 + 1, none⟩ = some (.int .i64 ((rd_T44 x0_2 (ji9)).f1)) ∧ w'.cell? ⟨go14, ((x9_2).toNat * 2), none⟩ = some (.slice ((rd_T44 x0_2 x9_2).f0).A ((rd_T44 x0_2 x9_2).f0).n ((rd_T44 x0_2 x9_2).f0).c) ∧ w'.cell? ⟨go14, ((x9_2).toNat * 2) + 1, none⟩ = some (.int .i64 ((rd_T44 x0_2 x9_2).f1))) (ds := [15, 17]) #[false, false, false, false, false, false, false, false, false, false, false, false, false, false, false, false, false, false] (by kernel_rfl) rfl rfl ⟨hx113_0, hx113_1, hx114_0, hx114_1⟩ (fun hHeld => ?_); refine with_tabW api_Weighted_69.tab6 api_Weighted_69.bits6 (fun HT_ HW_ => ?_)
            generalize w18.drew = w19 at HO_0 HK HB GG14 HQ20 HQ21 hf14_0 hf14_1 hf15_0 hf15_1 hx110_0 hx110_1 hx111_0 hx111_1 hx113_0 hx113_1 hx114_0 hx114_1 hx14_0 hx14_1 hx15_0 hx15_1 hHeld ⊢
            refine pure_ (i := 0) (N := some 37) (v := ?_) (a' := ?_) #[true, false, false, false, false, false, false, false, false, false, false, false, false, false, false, false, false, false] rfl rfl (any_of HT_.out (by kernel_rfl)) (fun _ _ _ h => h) (Or.inl ⟨by rfl, ?_⟩) ?_ ?_
            rotate_left
            ·intro w'
             go_simp
             with_reducible rfl
            rotate_left
            ·simp only [Act.put, List.setIfInBounds_toArray, List.set_cons_zero, List.set_cons_succ, i64_w, i32_w]
             rfl
            refine pure_ (i := 1) (N := some 38) (v := ?_) (a' := ?_) #[true, true, false, false, false, false, false, false, false, false, false, false, false, false, false, false, false, false] rfl rfl (any_of HT_.out (by kernel_rfl)) (fun _ _ _ h => h) (Or.inl ⟨by rfl, ?_⟩) ?_ ?_
            rotate_left
            ·intro w'
             go_simp
             with_reducible rfl
            rotate_left
            ·simp only [Act.put, List.setIfInBounds_toArray, List.set_cons_zero, List.set_cons_succ, i64_w, i32_w]
             rfl
            refine pure_ (i := 2) (N := some 39) (v := ?_) (a' := ?_) #[true, true, true, false, false, false, false, false, false, false, false, false, false, false, false, false, false, false] rfl rfl (any_of HT_.out (by kernel_rfl)) (fun _ _ _ h => h) (Or.inl ⟨by rfl, ?_⟩) ?_ ?_
            rotate_left
            ·intro w'
             go_simp
             with_reducible rfl
            rotate_left
            ·simp only [Act.put, List.setIfInBounds_toArray, List.set_cons_zero, List.set_cons_succ, i64_w, i32_w]
             rfl
            refine pure_ (i := 3) (N := some 40) (v := ?_) (a' := ?_) #[true, true, true, true, false, false, false, false, false, false, false, false, false, false, false, false, false, false] rfl rfl (any_of HT_.out (by kernel_rfl)) (fun _ _ _ h => h) (Or.inl ⟨by rfl, ?_⟩) ?_ ?_
            rotate_left
            ·intro w'
             go_simp
             with_reducible rfl
            rotate_left
            ·simp only [Act.put, List.setIfInBounds_toArray, List.set_cons_zero, List.set_cons_succ, i64_w, i32_w]
             rfl
            refine pure_ (i := 4) (N := some 41) (v := ?_) (a' := ?_) #[true, true, true, true, true, false, false, false, false, false, false, false, false, false, false, false, false, false] rfl rfl (any_of HT_.out (by kernel_rfl)) (fun _ _ _ h => h) (Or.inl ⟨by rfl, ?_⟩) ?_ ?_
            rotate_left
            ·intro w'
             go_simp
             with_reducible rfl
            rotate_left
            ·simp only [Act.put, List.setIfInBounds_toArray, List.set_cons_zero, List.set_cons_succ, i64_w, i32_w]
             rfl
            refine pure_ (i := 5) (N := some 42) (v := ?_) (a' := ?_) #[true, true, true, true, true, true, false, false, false, false, false, false, false, false, false, false, false, false] rfl rfl (any_of HT_.out (by kernel_rfl)) (fun _ _ _ h => h) (Or.inl ⟨by rfl, ?_⟩) ?_ ?_
            rotate_left
            ·intro w'
             go_simp
             with_reducible rfl
            rotate_left
            ·simp only [Act.put, List.setIfInBounds_toArray, List.set_cons_zero, List.set_cons_succ, i64_w, i32_w]
             rfl
            refine pure_ (i := 6) (N := some 43) (v := ?_) (a' := ?_) #[true, true, true, true, true, true, true, false, false, false, false, false, false, false, false, false, false, false] rfl rfl (any_of HT_.out (by kernel_rfl)) (fun _ _ _ h => h) (Or.inl ⟨by rfl, ?_⟩) ?_ ?_
            rotate_left
            ·intro w'
             go_simp
             with_reducible rfl
            rotate_left
            ·simp only [Act.put, List.setIfInBounds_toArray, List.set_cons_zero, List.set_cons_succ, i64_w, i32_w]
             rfl
            refine pure_ (i := 7) (N := some 44) (v := ?_) (a' := ?_) #[true, true, true, true, true, true, true, true, false, false, false, false, false, false, false, false, false, false] rfl rfl (any_of HT_.out (by kernel_rfl)) (fun _ _ _ h => h) (Or.inl ⟨by rfl, ?_⟩) ?_ ?_
            rotate_left
            ·intro w'
             go_simp
             with_reducible rfl
            rotate_left
            ·simp only [Act.put, List.setIfInBounds_toArray, List.set_cons_zero, List.set_cons_succ, i64_w, i32_w]
             rfl
            refine pure_ (i := 8) (N := some 45) (v := ?_) (a' := ?_) #[true, true, true, true, true, true, true, true, true, false, false, false, false, false, false, false, false, false] rfl rfl (any_of HT_.out (by kernel_rfl)) (fun _ _ _ h => h) (Or.inl ⟨by rfl, ?_⟩) ?_ ?_
            rotate_left
            ·intro w'
             go_simp
             with_reducible rfl
            rotate_left
            ·simp only [Act.put, List.setIfInBounds_toArray, List.set_cons_zero, List.set_cons_succ, i64_w, i32_w]
             rfl
            refine pure_ (i := 10) (N := some 47) (v := ?_) (a' := ?_) #[true, true, true, true, true, true, true, true, true, false, true, false, false, false, false, false, false, false] rfl rfl (any_of HT_.out (by kernel_rfl)) (fun _ _ _ h => h) (Or.inl ⟨by rfl, ?_⟩) ?_ ?_
            rotate_left
            ·intro w'
             go_simp
             with_reducible rfl
            rotate_left
            ·simp only [Act.put, List.setIfInBounds_toArray, List.set_cons_zero, List.set_cons_succ, i64_w, i32_w]
             rfl
            refine pure_ (i := 11) (N := some 48) (v := ?_) (a' := ?_) #[true, true, true, true, true, true, true, true, true, false, true, true, false, false, false, false, false, false] rfl rfl (any_of HT_.out (by kernel_rfl)) (fun _ _ _ h => h) (Or.inl ⟨by rfl, ?_⟩) ?_ ?_
            rotate_left
            ·intro w'
             go_simp
             with_reducible rfl
            rotate_left
            ·simp only [Act.put, List.setIfInBounds_toArray, List.set_cons_zero, List.set_cons_succ, i64_w, i32_w]
             rfl
            refine pure_ (i := 12) (N := some 49) (v := ?_) (a' := ?_) #[true, true, true, true, true, true, true, true, true, false, true, true, true, false, false, false, false, false] rfl rfl (any_of HT_.out (by kernel_rfl)) (fun _ _ _ h => h) (Or.inl ⟨by rfl, ?_⟩) ?_ ?_
            rotate_left
            ·intro w'
             go_simp
             with_reducible rfl
            rotate_left
            ·simp only [Act.put, List.setIfInBounds_toArray, List.set_cons_zero, List.set_cons_succ, i64_w, i32_w]
             rfl
            refine take_ (i := 9) (N := some 46) (v := ?_) (a' := ?_) #[true, true, true, true, true, true, true, true, true, true, true, true, true, false, false, false, false, false] rfl rfl (take_ofW HT_.out HW_.out (by kernel_rfl)) (fun _ _ _ h => h) (Or.inl ⟨by rfl, ?_⟩) hHeld ?_ ?_
            rotate_left
            ·rintro w' ⟨s0, s1, s2, s3⟩
             go_simp
             with_reducible rfl
            rotate_left
            ·simp only [Act.put, List.setIfInBounds_toArray, List.set_cons_zero, List.set_cons_succ, i64_w, i32_w]
             rfl
            refine take_ (i := 13) (N := some 50) (v := ?_) (a' := ?_) #[true, true, true, true, true, true, true, true, true, true, true, true, true, true, false, false, false, false] rfl rfl (take_ofW HT_.out HW_.out (by kernel_rfl)) (fun _ _ _ h => h) (Or.inl ⟨by rfl, ?_⟩) hHeld ?_ ?_
            rotate_left
            ·rintro w' ⟨s0, s1, s2, s3⟩
             go_simp
             with_reducible rfl
            rotate_left
            ·simp only [Act.put, List.setIfInBounds_toArray, List.set_cons_zero, List.set_cons_succ, i64_w, i32_w]
             rfl
            refine pure_ (i := 14) (N := some 51) (v := ?_) (a' := ?_) #[true, true, true, true, true, true, true, true, true, true, true, true, true, true, true, false, false, false] rfl rfl (any_of HT_.out (by kernel_rfl)) (fun _ _ _ h => h) (Or.inl ⟨by rfl, ?_⟩) ?_ ?_
            rotate_left
            ·intro w'
             go_simp
             with_reducible rfl
            rotate_left
            ·simp only [Act.put, List.setIfInBounds_toArray, List.set_cons_zero, List.set_cons_succ, i64_w, i32_w]
             rfl
            refine last_ (i := 15) (N := none) #[true, true, true, true, true, true, true, true, true, true, true, true, true, true, true, true, false, false] rfl rfl (one_of HT_.out (by kernel_rfl)) (by decide) (fun K hK => ?_)
            refine skip_ (w1 := ?_) (by rfl) rfl ?_ ?_
            rotate_left
            ·go_simp
             rfl
            refine hK.out _ _ ?_
            clear hK K
            refine pure_ (i := 16) (N := some 52) (v := ?_) (a' := ?_) #[true, true, true, true, true, true, true, true, true, true, true, true, true, true, true, true, true, false] rfl rfl (any_of HT_.out (by kernel_rfl)) (fun _ _ _ h => h) (Or.inl ⟨by rfl, ?_⟩) ?_ ?_
            rotate_left
            ·intro w'
             go_simp
             with_reducible rfl
            rotate_left
            ·simp only [Act.put, List.setIfInBounds_toArray, List.set_cons_zero, List.set_cons_succ, i64_w, i32_w]
             rfl
            refine last_ (i := 17) (N := none) #[true, true, true, true, true, true, true, true, true, true, true, true, true, true, true, true, true, true] rfl rfl (one_of HT_.out (by kernel_rfl)) (by decide) (fun K hK => ?_)
            refine skip_ (w1 := ?_) (by rfl) rfl ?_ ?_
            rotate_left
            ·go_simp
             rfl
            refine hK.out _ _ ?_
            clear hK K
            refine done_ (done_of HT_.out (by kernel_rfl)) ?_
            try go_wp2
            go_roundg k2
            case measure => have := HK1.out; have := HK2.out; omega
            case rel => exact ⟨(y116), (ji9), (by first | rfl | (simp; done) | (simp only [← hji9] <;> (first | rfl | simp)) | (simp [*]; done)), H', ⟨by have := HK1.out; have := HK2.out; omega⟩, ⟨qr_ HQ21.out⟩, ⟨by repeat (first | (with_reducible first | exact HK.out | apply Kept.alloc | apply Kept.drewN | apply Kept.drew | refine Kept.setCell ?_ HMgo14.out _ | refine Kept.setCell ?_ HMgo14.out _ | refine Kept.setCell ?_ HMgo14.out _ | refine Kept.setCell ?_ HMgo14.out _) | exact HK.out)⟩, ⟨by repeat (first | (with_reducible first | exact HB.out | apply below_alloc | apply pw_below_drewN | apply below_drew1 | refine below_set ?_ GB14.out | refine below_set ?_ GB14.out | refine below_set ?_ GB14.out | refine below_set ?_ GB14.out) | exact HB.out)⟩⟩
           ·rw [if_neg c13] at H
            have c13b0 : decide (t112 < 0) = false := decide_eq_false c13
            clear c13
            have H' := Aside0.mk H
            clear H
            try go_wp2
            have n0_ := Aside0.mk (Kd.R_drew HO_0.out)
            have n1_ := Aside0.mk (Kept.drew HK.out)
            have n2_ := Aside0.mk (below_drew1 HB.out)
            clear HO_0
            clear HK
            clear HB
            have HO_0 := n0_
            have HK := n1_
            have HB := n2_
            clear n0_ n1_ n2_
            obtain ⟨Ao23, co23, eo23⟩ := Kd.R_slice HO_0.out
            (first | subst eo23 | (injection eo23 with f1_ f2_ f3_; have f4_ := f1_.symm; have f5_ := f3_.symm; clear f1_ f2_ f3_; subst f4_; subst f5_))
            have p110 : 0 ≤ (x9_2 : Int) := of_decide_eq_true (by first | (with_reducible assumption) | assumption)
            have q110 : x9_2 < (x0_2.length : Int) := of_decide_eq_true (by first | (with_reducible assumption) | assumption)
            obtain ⟨ad110, e110, hx110_0, hx110_1⟩ := at_T44 (Kd.R_reads' HO_0.out).2.2 x9_2 p110 q110
            cases e110
            replace p110 := eq_true p110
            replace q110 := eq_true q110
            have p111 : 0 ≤ ((ji9) : Int) := of_decide_eq_true (by first | (with_reducible assumption) | assumption)
            have q111 : (ji9) < (x0_2.length : Int) := of_decide_eq_true (by first | (with_reducible assumption) | assumption)
            obtain ⟨ad111, e111, hx111_0, hx111_1⟩ := at_T44 (Kd.R_reads' HO_0.out).2.2 (ji9) p111 q111
            obtain rfl : ad110 = ad111 := (by injection e111)
            replace p111 := eq_true p111
            replace q111 := eq_true q111
            refine start_ (n := 17) (S := fun w' => w'.cell? (ad110.add ((x9_2).toNat * 2)) = some (.slice ((rd_T44 x0_2 x9_2).f0).A ((rd_T44 x0_2 x9_2).f0).n ((rd_T44 x0_2 x9_2).f0).c) ∧ w'.cell? ⟨(ad110.add ((x9_2).toNat * 2)).block, (ad110.add ((x9_2).toNat * 2)).off + 1, none⟩ = some (.int .i64 ((rd_T44 x0_2 x9_2).f1)) ∧ w'.cell? (ad110.add (((ji9)).toNat * 2)) = some (.slice ((rd_T44 x0_2 (ji9)).f0).A ((rd_T44 x0_2 (ji9)).f0).n ((rd_T44 x0_2 (ji9)).f0).c) ∧ w'.cell? ⟨(ad110.add (((ji9)).toNat * 2)).block, (ad110.add (((ji9)).toNat * 2)).off + 1, none⟩ = some (.int .i64 ((rd_T44 x0_2 (ji9)).f1))) (ds := []) #[false, false, false, false, false, false, false, false, false, false, false, false, false, false, false, false, false] (by kernel_rfl) rfl rfl ⟨hx110_0, hx110_1, hx111_0, hx111_1⟩ (fun hHeld => ?_); refine with_tabW api_Weighted_69.tab4 api_Weighted_69.bits4 (fun HT_ HW_ => ?_)
            generalize wr.drew = w22 at HO_0 HK HB hx110_0 hx110_1 hx111_0 hx111_1 hHeld ⊢
            refine pure_ (i := 0) (N := some 18) (v := ?_) (a' := ?_) #[true, false, false, false, false, false, false, false, false, false, false, false, false, false, false, false, false] rfl rfl (any_of HT_.out (by kernel_rfl)) (fun _ _ _ h => h) (Or.inl ⟨by rfl, ?_⟩) ?_ ?_
            rotate_left
            ·intro w'
             go_simp
             with_reducible rfl
            rotate_left
            ·simp only [Act.put, List.setIfInBounds_toArray, List.set_cons_zero, List.set_cons_succ, i64_w, i32_w]
             rfl
            refine pure_ (i := 1) (N := some 19) (v := ?_) (a' := ?_) #[true, true, false, false, false, false, false, false, false, false, false, false, false, false, false, false, false] rfl rfl (any_of HT_.out (by kernel_rfl)) (fun _ _ _ h => h) (Or.inl ⟨by rfl, ?_⟩) ?_ ?_
            rotate_left
            ·intro w'
             go_simp
             with_reducible rfl
            rotate_left
            ·simp only [Act.put, List.setIfInBounds_toArray, List.set_cons_zero, List.set_cons_succ, i64_w, i32_w]
             rfl
            refine pure_ (i := 2) (N := some 20) (v := ?_) (a' := ?_) #[true, true, true, false, false, false, false, false, false, false, false, false, false, false, false, false, false] rfl rfl (any_of HT_.out (by kernel_rfl)) (fun _ _ _ h => h) (Or.inl ⟨by rfl, ?_⟩) ?_ ?_
            rotate_left
            ·intro w'
             go_simp
             with_reducible rfl
            rotate_left
            ·simp only [Act.put, List.setIfInBounds_toArray, List.set_cons_zero, List.set_cons_succ, i64_w, i32_w]
             rfl
            refine pure_ (i := 3) (N := some 21) (v := ?_) (a' := ?_) #[true, true, true, true, false, false, false, false, false, false, false, false, false, false, false, false, false] rfl rfl (any_of HT_.out (by kernel_rfl)) (fun _ _ _ h => h) (Or.inl ⟨by rfl, ?_⟩) ?_ ?_
            rotate_left
            ·intro w'
             go_simp
             with_reducible rfl
            rotate_left
            ·simp only [Act.put, List.setIfInBounds_toArray, List.set_cons_zero, List.set_cons_succ, i64_w, i32_w]
             rfl
            refine pure_ (i := 4) (N := some 22) (v := ?_) (a' := ?_) #[true, true, true, true, true, false, false, false, false, false, false, false, false, false, false, false, false] rfl rfl (any_of HT_.out (by kernel_rfl)) (fun _ _ _ h => h) (Or.inl ⟨by rfl, ?_⟩) ?_ ?_
            rotate_left
            ·intro w'
             go_simp
             with_reducible rfl
            rotate_left
            ·simp only [Act.put, List.setIfInBounds_toArray, List.set_cons_zero, List.set_cons_succ, i64_w, i32_w]
             rfl
            refine pure_ (i := 5) (N := some 23) (v := ?_) (a' := ?_) #[true, true, true, true, true, true, false, false, false, false, false, false, false, false, false, false, false] rfl rfl (any_of HT_.out (by kernel_rfl)) (fun _ _ _ h => h) (Or.inl ⟨by rfl, ?_⟩) ?_ ?_
            rotate_left
            ·intro w'
             go_simp
             with_reducible rfl
            rotate_left
            ·simp only [Act.put, List.setIfInBounds_toArray, List.set_cons_zero, List.set_cons_succ, i64_w, i32_w]
             rfl
            refine pure_ (i := 6) (N := some 24) (v := ?_) (a' := ?_) #[true, true, true, true, true, true, true, false, false, false, false, false, false, false, false, false, false] rfl rfl (any_of HT_.out (by kernel_rfl)) (fun _ _ _ h => h) (Or.inl ⟨by rfl, ?_⟩) ?_ ?_
            rotate_left
            ·intro w'
             go_simp
             with_reducible rfl
            rotate_left
            ·simp only [Act.put, List.setIfInBounds_toArray, List.set_cons_zero, List.set_cons_succ, i64_w, i32_w]
             rfl
            refine pure_ (i := 7) (N := some 25) (v := ?_) (a' := ?_) #[true, true, true, true, true, true, true, true, false, false, false, false, false, false, false, false, false] rfl rfl (any_of HT_.out (by kernel_rfl)) (fun _ _ _ h => h) (Or.inl ⟨by rfl, ?_⟩) ?_ ?_
            rotate_left
            ·intro w'
             go_simp
             with_reducible rfl
            rotate_left
            ·simp only [Act.put, List.setIfInBounds_toArray, List.set_cons_zero, List.set_cons_succ, i64_w, i32_w]
             rfl
            refine pure_ (i := 9) (N := some 27) (v := ?_) (a' := ?_) #[true, true, true, true, true, true, true, true, false, true, false, false, false, false, false, false, false] rfl rfl (any_of HT_.out (by kernel_rfl)) (fun _ _ _ h => h) (Or.inl ⟨by rfl, ?_⟩) ?_ ?_
            rotate_left
            ·intro w'
             go_simp
             with_reducible rfl
            rotate_left
            ·simp only [Act.put, List.setIfInBounds_toArray, List.set_cons_zero, List.set_cons_succ, i64_w, i32_w]
             rfl
            refine pure_ (i := 10) (N := some 28) (v := ?_) (a' := ?_) #[true, true, true, true, true, true, true, true, false, true, true, false, false, false, false, false, false] rfl rfl (any_of HT_.out (by kernel_rfl)) (fun _ _ _ h => h) (Or.inl ⟨by rfl, ?_⟩) ?_ ?_
            rotate_left
            ·intro w'
             go_simp
             with_reducible rfl
            rotate_left
            ·simp only [Act.put, List.setIfInBounds_toArray, List.set_cons_zero, List.set_cons_succ, i64_w, i32_w]
             rfl
            refine pure_ (i := 11) (N := some 29) (v := ?_) (a' := ?_) #[true, true, true, true, true, true, true, true, false, true, true, true, false, false, false, false, false] rfl rfl (any_of HT_.out (by kernel_rfl)) (fun _ _ _ h => h) (Or.inl ⟨by rfl, ?_⟩) ?_ ?_
            rotate_left
            ·intro w'
             go_simp
             with_reducible rfl
            rotate_left
            ·simp only [Act.put, List.setIfInBounds_toArray, List.set_cons_zero, List.set_cons_succ, i64_w, i32_w]
             rfl
            refine pure_ (i := 12) (N := some 30) (v := ?_) (a' := ?_) #[true, true, true, true, true, true, true, true, false, true, true, true, true, false, false, false, false] rfl rfl (any_of HT_.out (by kernel_rfl)) (fun _ _ _ h => h) (Or.inl ⟨by rfl, ?_⟩) ?_ ?_
            rotate_left
            ·intro w'
             go_simp
             with_reducible rfl
            rotate_left
            ·simp only [Act.put, List.setIfInBounds_toArray, List.set_cons_zero, List.set_cons_succ, i64_w, i32_w]
             rfl
            refine take_ (i := 8) (N := some 26) (v := ?_) (a' := ?_) #[true, true, true, true, true, true, true, true, true, true, true, true, true, false, false, false, false] rfl rfl (take_ofW HT_.out HW_.out (by kernel_rfl)) (fun _ _ _ h => h) (Or.inl ⟨by rfl, ?_⟩) hHeld ?_ ?_
            rotate_left
            ·rintro w' ⟨s0, s1, s2, s3⟩
             go_simp
             with_reducible rfl
            rotate_left
            ·simp only [Act.put, List.setIfInBounds_toArray, List.set_cons_zero, List.set_cons_succ, i64_w, i32_w]
             rfl
            refine take_ (i := 13) (N := some 31) (v := ?_) (a' := ?_) #[true, true, true, true, true, true, true, true, true, true, true, true, true, true, false, false, false] rfl rfl (take_ofW HT_.out HW_.out (by kernel_rfl)) (fun _ _ _ h => h) (Or.inl ⟨by rfl, ?_⟩) hHeld ?_ ?_
            rotate_left
            ·rintro w' ⟨s0, s1, s2, s3⟩
             go_simp
             with_reducible rfl
            rotate_left
            ·simp only [Act.put, List.setIfInBounds_toArray, List.set_cons_zero, List.set_cons_succ, i64_w, i32_w]
             rfl
            refine one_ (i := 14) (N := some 32) #[true, true, true, true, true, true, true, true, true, true, true, true, true, true, true, false, false] rfl rfl (one_of HT_.out (by kernel_rfl)) (by decide) (fun K hK => ?_)
            refine goesT_ Try.func40 (by kernel_rfl) rfl #[.agg #[.slice ((rd_T44 x0_2 x9_2).f0).A ((rd_T44 x0_2 x9_2).f0).n ((rd_T44 x0_2 x9_2).f0).c, .int .i64 ((rd_T44 x0_2 x9_2).f1)], .agg #[.slice ((rd_T44 x0_2 (ji9)).f0).A ((rd_T44 x0_2 (ji9)).f0).n ((rd_T44 x0_2 (ji9)).f0).c, .int .i64 ((rd_T44 x0_2 (ji9)).f1)]] (by rfl) rfl rfl (by (try simp only [List.map_toArray, List.map_cons, List.map_nil]); first | done | (simp only [hji9]; rfl) | rfl | (simp only [List.length_drop, List.length_take]; rfl)) ?_
            with_reducible refine (cmpo.calls k2 ((rd_T44 x0_2 x9_2).f0) ((rd_T44 x0_2 x9_2).f1) ((rd_T44 x0_2 (ji9)).f0) ((rd_T44 x0_2 (ji9)).f1) t112 _ ?side1 A12.out).mono ?_
            (case side1 => repeat (first | (with_reducible first | exact HB.out | apply below_alloc | apply pw_below_drewN | apply below_drew1) | exact HB.out))
            rintro e w24 ⟨rfl, hb⟩
            have HS0_ := (hb.cell (World.block_lt_of_cell? _ _ (hHeld.1))).trans (hHeld.1)
            have HS1_ := (hb.cell (World.block_lt_of_cell? _ _ (hHeld.2.1))).trans (hHeld.2.1)
            have HS2_ := (hb.cell (World.block_lt_of_cell? _ _ (hHeld.2.2.1))).trans (hHeld.2.2.1)
            have HS3_ := (hb.cell (World.block_lt_of_cell? _ _ (hHeld.2.2.2))).trans (hHeld.2.2.2)
            refine ⟨_, rfl, ?_⟩
            have n0_ := Aside0.mk (Kd.R_below (qr_ HO_0.out) hb)
            have n1_ := Aside0.mk (Kept.below (S := (fun k_ => P0_ k_)) qk_ hb)
            have n2_ := Aside0.mk (below_step qh_ hb)
            clear HO_0
            clear HK
            clear HB
            have HO_0 := n0_
            have HK := n1_
            have HB := n2_
            clear n0_ n1_ n2_
            (try clear hb)
            (try clear hb2)
            (try clear hk)
            (try clear hi)
            refine hK.out _ _ ⟨HS0_, HS1_, HS2_, HS3_⟩ (fun hHeld => ?_)
            clear hK K
            refine norm_ (a' := ?_) ?_ ?_
            rotate_left
            ·show Act.put _ (some 32) _ = _
             simp only [Act.put, List.setIfInBounds_toArray, List.set_cons_zero, List.set_cons_succ, i64_w, i32_w]
             rfl
            refine pure_ (i := 15) (N := some 33) (v := ?_) (a' := ?_) #[true, true, true, true, true, true, true, true, true, true, true, true, true, true, true, true, false] rfl rfl (any_of HT_.out (by kernel_rfl)) (fun _ _ _ h => h) (Or.inl ⟨by rfl, ?_⟩) ?_ ?_
            rotate_left
            ·intro w'
             go_simp
             with_reducible rfl
            rotate_left
            ·simp only [Act.put, List.setIfInBounds_toArray, List.set_cons_zero, List.set_cons_succ, i64_w, i32_w]
             rfl
            refine pure_ (i := 16) (N := some 34) (v := ?_) (a' := ?_) #[true, true, true, true, true, true, true, true, true, true, true, true, true, true, true, true, true] rfl rfl (any_of HT_.out (by kernel_rfl)) (fun _ _ _ h => h) (Or.inl ⟨by rfl, ?_⟩) ?_ ?_
            rotate_left
            ·intro w'
             go_simp
             with_reducible rfl
            rotate_left
            ·simp only [Act.put, List.setIfInBounds_toArray, List.set_cons_zero, List.set_cons_succ, i64_w, i32_w]
             rfl
            refine done_ (done_of HT_.out (by kernel_rfl)) ?_
            try go_wp2
            go_roundg k2
            case measure => have := HK1.out; have := HK2.out; omega
            case rel => exact ⟨(x0_2), (wrap64 (x8_1 + 1)), (by first | rfl | (simp; done) | (simp [*]; done)), H', ⟨by have := HK1.out; have := HK2.out; omega⟩, ⟨qr_ HO_0.out⟩, ⟨qk_⟩, ⟨qh_⟩⟩
          ·rw [if_neg c11] at H
           exact absurd H (by simp)
         ·rw [if_neg c10] at H
          exact absurd H (by simp)
        ·rw [if_neg c8] at H
         exact absurd H (by simp)
       ·rw [if_neg c7] at H
        exact absurd H (by simp)
      ·rw [if_neg c6] at H
       have c6b0 : decide (a1 < x9_2) = false := decide_eq_false c6
       clear c6
       have H' := Aside0.mk H
       clear H
       try go_wp2
       have n0_ := Aside0.mk (Kd.R_drew HO_0.out)
       have n1_ := Aside0.mk (Kept.drew HK.out)
       have n2_ := Aside0.mk (below_drew1 HB.out)
       clear HO_0
       clear HK
       clear HB
       have HO_0 := n0_
       have HK := n1_
       have HB := n2_
       clear n0_ n1_ n2_
       refine start_ (n := 17) (S := fun w' => True) (ds := []) #[false, false, false, false, false, false, false, false, false, false, false, false, false, false, false, false, false] (by kernel_rfl) rfl rfl trivial (fun hHeld => ?_); refine with_tabW api_Weighted_69.tab4 api_Weighted_69.bits4 (fun HT_ HW_ => ?_)
       generalize wr.drew = w25 at HO_0 HK HB hHeld ⊢
       refine pure_ (i := 0) (N := some 18) (v := ?_) (a' := ?_) #[true, false, false, false, false, false, false, false, false, false, false, false, false, false, false, false, false] rfl rfl (any_of HT_.out (by kernel_rfl)) (fun _ _ _ h => h) (Or.inl ⟨by rfl, ?_⟩) ?_ ?_
       rotate_left
       ·intro w'
        go_simp
        with_reducible rfl
       rotate_left
       ·simp only [Act.put, List.setIfInBounds_toArray, List.set_cons_zero, List.set_cons_succ, i64_w, i32_w]
        rfl
       refine pure_ (i := 1) (N := some 19) (v := ?_) (a' := ?_) #[true, true, false, false, false, false, false, false, false, false, false, false, false, false, false, false, false] rfl rfl (any_of HT_.out (by kernel_rfl)) (fun _ _ _ h => h) (Or.inl ⟨by rfl, ?_⟩) ?_ ?_
       rotate_left
       ·intro w'
        go_simp
        with_reducible rfl
       rotate_left
       ·simp only [Act.put, List.setIfInBounds_toArray, List.set_cons_zero, List.set_cons_succ, i64_w, i32_w]
        rfl
       refine pure_ (i := 2) (N := some 20) (v := ?_) (a' := ?_) #[true, true, true, false, false, false, false, false, false, false, false, false, false, false, false, false, false] rfl rfl (any_of HT_.out (by kernel_rfl)) (fun _ _ _ h => h) (Or.inl ⟨by rfl, ?_⟩) ?_ ?_
       rotate_left
       ·intro w'
        go_simp
        with_reducible rfl
       rotate_left
       ·simp only [Act.put, List.setIfInBounds_toArray, List.set_cons_zero, List.set_cons_succ, i64_w, i32_w]
        rfl
       refine pure_ (i := 3) (N := some 21) (v := ?_) (a' := ?_) #[true, true, true, true, false, false, false, false, false, false, false, false, false, false, false, false, false] rfl rfl (any_of HT_.out (by kernel_rfl)) (fun _ _ _ h => h) (Or.inl ⟨by rfl, ?_⟩) ?_ ?_
       rotate_left
       ·intro w'
        go_simp
        with_reducible rfl
       rotate_left
       ·simp only [Act.put, List.setIfInBounds_toArray, List.set_cons_zero, List.set_cons_succ, i64_w, i32_w]
        rfl
       refine pure_ (i := 4) (N := some 22) (v := undef) (a' := ?_) #[true, true, true, true, true, false, false, false, false, false, false, false, false, false, false, false, false] rfl rfl (any_of HT_.out (by kernel_rfl)) (fun _ _ _ h => h) (Or.inr ⟨by rfl, rfl⟩) ?_ ?_
       rotate_left
       ·simp only [Act.put, List.setIfInBounds_toArray, List.set_cons_zero, List.set_cons_succ, i64_w, i32_w]
        rfl
       refine pure_ (i := 5) (N := some 23) (v := undef) (a' := ?_) #[true, true, true, true, true, true, false, false, false, false, false, false, false, false, false, false, false] rfl rfl (any_of HT_.out (by kernel_rfl)) (fun _ _ _ h => h) (Or.inr ⟨by rfl, rfl⟩) ?_ ?_
       rotate_left
       ·simp only [Act.put, List.setIfInBounds_toArray, List.set_cons_zero, List.set_cons_succ, i64_w, i32_w]
        rfl
       refine pure_ (i := 6) (N := some 24) (v := undef) (a' := ?_) #[true, true, true, true, true, true, true, false, false, false, false, false, false, false, false, false, false] rfl rfl (any_of HT_.out (by kernel_rfl)) (fun _ _ _ h => h) (Or.inr ⟨by rfl, rfl⟩) ?_ ?_
       rotate_left
       ·simp only [Act.put, List.setIfInBounds_toArray, List.set_cons_zero, List.set_cons_succ, i64_w, i32_w]
        rfl
       refine pure_ (i := 7) (N := some 25) (v := undef) (a' := ?_) #[true, true, true, true, true, true, true, true, false, false, false, false, false, false, false, false, false] rfl rfl (any_of HT_.out (by kernel_rfl)) (fun _ _ _ h => h) (Or.inr ⟨by rfl, rfl⟩) ?_ ?_
       rotate_left
       ·simp only [Act.put, List.setIfInBounds_toArray, List.set_cons_zero, List.set_cons_succ, i64_w, i32_w]
        rfl
       refine pure_ (i := 8) (N := some 26) (v := undef) (a' := ?_) #[true, true, true, true, true, true, true, true, true, false, false, false, false, false, false, false, false] rfl rfl (any_of HT_.out (by kernel_rfl)) (fun _ _ _ h => h) (Or.inr ⟨by rfl, rfl⟩) ?_ ?_
       rotate_left
       ·simp only [Act.put, List.setIfInBounds_toArray, List.set_cons_zero, List.set_cons_succ, i64_w, i32_w]
        rfl
       refine pure_ (i := 9) (N := some 27) (v := undef) (a' := ?_) #[true, true, true, true, true, true, true, true, true, true, false, false, false, false, false, false, false] rfl rfl (any_of HT_.out (by kernel_rfl)) (fun _ _ _ h => h) (Or.inr ⟨by rfl, rfl⟩) ?_ ?_
       rotate_left
       ·simp only [Act.put, List.setIfInBounds_toArray, List.set_cons_zero, List.set_cons_succ, i64_w, i32_w]
        rfl
       refine pure_ (i := 10) (N := some 28) (v := undef) (a' := ?_) #[true, true, true, true, true, true, true, true, true, true, true, false, false, false, false, false, false] rfl rfl (any_of HT_.out (by kernel_rfl)) (fun _ _ _ h => h) (Or.inr ⟨by rfl, rfl⟩) ?_ ?_
       rotate_left
       ·simp only [Act.put, List.setIfInBounds_toArray, List.set_cons_zero, List.set_cons_succ, i64_w, i32_w]
        rfl
       refine pure_ (i := 11) (N := some 29) (v := undef) (a' := ?_) #[true, true, true, true, true, true, true, true, true, true, true, true, false, false, false, false, false] rfl rfl (any_of HT_.out (by kernel_rfl)) (fun _ _ _ h => h) (Or.inr ⟨by rfl, rfl⟩) ?_ ?_
       rotate_left
       ·simp only [Act.put, List.setIfInBounds_toArray, List.set_cons_zero, List.set_cons_succ, i64_w, i32_w]
        rfl
       refine pure_ (i := 12) (N := some 30) (v := undef) (a' := ?_) #[true, true, true, true, true, true, true, true, true, true, true, true, true, false, false, false, false] rfl rfl (any_of HT_.out (by kernel_rfl)) (fun _ _ _ h => h) (Or.inr ⟨by rfl, rfl⟩) ?_ ?_
       rotate_left
       ·simp only [Act.put, List.setIfInBounds_toArray, List.set_cons_zero, List.set_cons_succ, i64_w, i32_w]
        rfl
       refine pure_ (i := 13) (N := some 31) (v := undef) (a' := ?_) #[true, true, true, true, true, true, true, true, true, true, true, true, true, true, false, false, false] rfl rfl (any_of HT_.out (by kernel_rfl)) (fun _ _ _ h => h) (Or.inr ⟨by rfl, rfl⟩) ?_ ?_
       rotate_left
       ·simp only [Act.put, List.setIfInBounds_toArray, List.set_cons_zero, List.set_cons_succ, i64_w, i32_w]
        rfl
       refine pure_ (i := 14) (N := some 32) (v := undef) (a' := ?_) #[true, true, true, true, true, true, true, true, true, true, true, true, true, true, true, false, false] rfl rfl (any_of HT_.out (by kernel_rfl)) (fun _ _ _ h => h) (Or.inr ⟨by rfl, rfl⟩) ?_ ?_
       rotate_left
       ·simp only [Act.put, List.setIfInBounds_toArray, List.set_cons_zero, List.set_cons_succ, i64_w, i32_w]
        rfl
       refine pure_ (i := 15) (N := some 33) (v := undef) (a' := ?_) #[true, true, true, true, true, true, true, true, true, true, true, true, true, true, true, true, false] rfl rfl (any_of HT_.out (by kernel_rfl)) (fun _ _ _ h => h) (Or.inr ⟨by rfl, rfl⟩) ?_ ?_
       rotate_left
       ·simp only [Act.put, List.setIfInBounds_toArray, List.set_cons_zero, List.set_cons_succ, i64_w, i32_w]
        rfl
       refine pure_ (i := 16) (N := some 34) (v := ?_) (a' := ?_) #[true, true, true, true, true, true, true, true, true, true, true, true, true, true, true, true, true] rfl rfl (any_of HT_.out (by kernel_rfl)) (fun _ _ _ h => h) (Or.inl ⟨by rfl, ?_⟩) ?_ ?_
       rotate_left
       ·intro w'
        go_simp
        with_reducible rfl
       rotate_left
       ·simp only [Act.put, List.setIfInBounds_toArray, List.set_cons_zero, List.set_cons_succ, i64_w, i32_w]
        rfl
       refine done_ (done_of HT_.out (by kernel_rfl)) ?_
       try go_wp2
       go_roundg k2
       case measure => have := HK1.out; have := HK2.out; omega
       case rel => exact ⟨(x0_2), (wrap64 (x8_1 + 1)), (by first | rfl | (simp; done) | (simp [*]; done)), H', ⟨by have := HK1.out; have := HK2.out; omega⟩, ⟨qr_ HO_0.out⟩, ⟨qk_⟩, ⟨qh_⟩⟩
   ·rw [if_neg c5] at H
    have c5b0 : decide (x8_1 < a2) = false := decide_eq_false c5
    clear c5
    obtain rfl := Option.some.inj H
    go_wp2
    first | go_end0 | ((try simp only [Exit.inBlock, Exit.then]); refine bodyPost_ret (results_none rfl _ _ _) rfl ?_)
    exact ⟨by first | rfl | (simp [errW_none, errW_some] <;> rfl) | (simp [*, errW_none, errW_some] <;> rfl), by (with_reducible repeat (first | apply Kd.R_alloc | apply Kd.R_drewN | apply Kd.R_drew)); exact HO_0.out, by repeat (first | (with_reducible first | exact HB.out | apply below_alloc | apply pw_below_drewN | apply below_drew1) | exact HB.out), qk_⟩
end Go.Proofs.Ytgapgdnbgimdlaa.PO
end
section
set_option linter.unusedVariables false
set_option linter.unusedSimpArgs false
namespace Go.Proofs.Ytgapgdnbgimdlaa.PO
open Go.RowKit Go.Proofs.Ytgapgdnbgimdlaa.Ov Go.Proofs.YtgapgdnbgimdlaaW.PrintWords Go.Proofs.YtgapgdnbgimdlaaW.PrintLast Go.Proofs.YtgapgdnbgimdlaaW.PrintMore
open Go.Proofs.Ytgapgdnbgimdlaa.PA (S23 ordR oi oi_lt oi_eq cmpRow_at)
open Std
theorem rd_at {l : List S44} {j : Nat} (h : j < l.length) : rd_T44 l (j : Int) = l[j] := by simp [rd_T44, h]
theorem get_mid (p q : List S44) (x : S44) : rd_T44 (p ++ x :: q) ((p.length : Nat) : Int) = x := by simp [rd_T44]
theorem wrap_small {z : Int} (h0 : -9223372036854775808 ≤ z) (h1 : z ≤ 9223372036854775807) : wrap64 z = z := by unfold wrap64; omega
theorem set_mid (p q : List S44) (x y : S44) : (p ++ x :: q).set p.length y = p ++ y :: q := by
 rw [List.set_append_right _ _ (Nat.le_refl _), Nat.sub_self]
 rfl
theorem swap_mid (p q : List S44) (x y : S44) : ((p ++ y :: x :: q).set (p.length + 1) y).set p.length x = p ++ x :: y :: q := by
 have h1 := set_mid (p ++ [y]) q x y
 simp only [List.append_assoc, List.singleton_append, List.length_append, List.length_singleton] at h1
 rw [h1, set_mid]
section
variable [Ω : Env]
def key (x : S44) : List S23 := Env.den x.f0
def ordK (x y : S44) : Ordering := ordR (key x) (key y)
instance : TransCmp ordK := { eq_swap := fun {a b} => OrientedCmp.eq_swap (cmp := ordR), isLE_trans := fun {a b c} => TransCmp.isLE_trans (cmp := ordR) }
def Val (x : S44) : Prop := Env.ok x.f0 = true
theorem Val.len {x : S44} (h : Val x) : (key x).length ≤ 9223372036854775807 := by
 obtain ⟨h1, h2, h3⟩ := Env.okay x.f0 h
 have := h3.2.1
 unfold key
 omega
theorem cmpo_ev {x y : S44} (hx : Val x) (hy : Val y) : Ev (fun k => cmpo.f k x.f0 x.f1 y.f0 y.f1) (oi (ordK x y)) := by
 refine ⟨(key x).length + 1, fun k hk => ?_⟩
 unfold cmpo.f PA.zset_sum_1.f
 dsimp only
 rw [if_pos (by simp only [Bool.and_eq_true]; exact ⟨hx, hy⟩), show Env.den x.f0 = key x from rfl, show Env.den y.f0 = key y from rfl, cmpRow_at _ _ hx.len hy.len k (by omega)]
 rfl
theorem cmprowo_ev {x y : S44} (hx : Val x) (hy : Val y) : Ev (fun k => cmprowo.f k x.f0 y.f0) (oi (ordK x y)) := by
 refine ⟨(key x).length + 1, fun k hk => ?_⟩
 unfold cmprowo.f
 dsimp only
 rw [if_pos (by simp only [Bool.and_eq_true]; exact ⟨hx, hy⟩), show Env.den x.f0 = key x from rfl, show Env.den y.f0 = key y from rfl, cmpRow_at _ _ hx.len hy.len k (by omega)]
 rfl
def insRev : List S44 → S44 → List S44 → List S44
 | [], x, acc => x :: acc
 | y :: ys, x, acc => if ordK x y = .lt then insRev ys x (y :: acc) else ys.reverse ++ y :: x :: acc
theorem inner_ev (p rest : List S44) (x : S44) (b i : Int) (hx : Val x) (r : List S44) : ∀ (ys acc : List S44), (∀ y ∈ ys, Val y) → p.length + ys.length + 1 ≤ 4611686018427387904 →
  Ev (fun k => api_Weighted_69.l0 k (p ++ (insRev ys x acc ++ rest)) (p.length : Nat) b (wrap64 (i + 1))) r →
  Ev (fun k => api_Weighted_69.l1 k (p ++ (ys.reverse ++ x :: (acc ++ rest))) (p.length : Nat) b i ((p.length + ys.length : Nat) : Int)) r := by
 intro ys
 induction ys with
 | nil =>
  intro acc _ _ h
  refine Ev.step (fun k => ?_) h
  simp only [api_Weighted_69.l1]
  rw [if_neg (by simp)]
  simp [insRev]
 | cons y ys ih =>
  intro acc hv hl h
  have hvy := hv y (List.mem_cons_self ..)
  have hlen : (p ++ ((y :: ys).reverse ++ x :: (acc ++ rest))).length = p.length + ys.length + 1 + 1 + acc.length + rest.length := by simp; omega
  have e1 : rd_T44 (p ++ ((y :: ys).reverse ++ x :: (acc ++ rest))) ((p.length + (y :: ys).length : Nat) : Int) = x := by
   have := get_mid (p ++ (y :: ys).reverse) (acc ++ rest) x
   simpa using this
  have e2 : rd_T44 (p ++ ((y :: ys).reverse ++ x :: (acc ++ rest))) ((p.length + ys.length : Nat) : Int) = y := by
   have := get_mid (p ++ ys.reverse) (x :: (acc ++ rest)) y
   simpa using this
  have ew : wrap64 (((p.length + (y :: ys).length : Nat) : Int) - 1) = ((p.length + ys.length : Nat) : Int) := by
   rw [wrap_small] <;> simp at hl ⊢ <;> omega
  simp only [insRev] at h
  have hc := cmpo_ev hx hvy
  have hstep : ∀ k, api_Weighted_69.l1 (k + 1) (p ++ ((y :: ys).reverse ++ x :: (acc ++ rest))) (p.length : Nat) b i ((p.length + (y :: ys).length : Nat) : Int) = (cmpo.f k x.f0 x.f1 y.f0 y.f1).bind fun t => if t < 0 then api_Weighted_69.l1 k (p ++ (ys.reverse ++ x :: ((y :: acc) ++ rest))) (p.length : Nat) b i ((p.length + ys.length : Nat) : Int) else api_Weighted_69.l0 k (p ++ ((y :: ys).reverse ++ x :: (acc ++ rest))) (p.length : Nat) b (wrap64 (i + 1)) := by
   intro k
   simp only [api_Weighted_69.l1]
   rw [if_pos (by simp; omega), if_pos (by omega), if_pos (by rw [hlen]; simp; omega), ew, if_pos (by omega), if_pos (by rw [hlen]; omega), e1, e2]
   congr 1
   funext t
   congr 2
   have s1 : ((p.length + (y :: ys).length : Nat) : Int).toNat = (p ++ ys.reverse).length + 1 := by simp; omega
   have s2 : ((p.length + ys.length : Nat) : Int).toNat = (p ++ ys.reverse).length := by simp; omega
   rw [s1, s2]
   have e3 := swap_mid (p ++ ys.reverse) (acc ++ rest) x y
   have e4 : p ++ ((y :: ys).reverse ++ x :: (acc ++ rest)) = (p ++ ys.reverse) ++ y :: x :: (acc ++ rest) := by simp
   rw [e4, e3]
   simp
  by_cases ho : ordK x y = .lt
  ·rw [if_pos ho] at h
   have hrec := ih (y :: acc) (fun z hz => hv z (List.mem_cons_of_mem _ hz)) (by simp at hl; omega) (by simpa using h)
   refine Ev.step hstep (Ev.bind hc (Ev.congr (fun k => ?_) hrec))
   rw [ho, if_pos (by decide)]
  ·rw [if_neg ho] at h
   refine Ev.step hstep (Ev.bind hc (Ev.congr (fun k => ?_) h))
   have : ¬ oi (ordK x y) < 0 := fun e => ho (oi_lt.1 e)
   rw [if_neg this]
   simp
def insAll : List S44 → List S44 → List S44
 | ss, [] => ss
 | ss, x :: xs => insAll (insRev ss.reverse x []) xs
theorem insRev_len : ∀ (ys : List S44) (x : S44) (acc : List S44), (insRev ys x acc).length = ys.length + acc.length + 1
 | [], x, acc => by simp [insRev]
 | y :: ys, x, acc => by
  unfold insRev
  split
  ·rw [insRev_len]; simp; omega
  ·simp; omega
theorem insRev_perm : ∀ (ys : List S44) (x : S44) (acc : List S44), (insRev ys x acc).Perm (ys.reverse ++ x :: acc)
 | [], x, acc => by simp [insRev]
 | y :: ys, x, acc => by
  unfold insRev
  split
  ·refine (insRev_perm ys x (y :: acc)).trans ?_
   simp only [List.reverse_cons, List.append_assoc, List.singleton_append]
   exact List.Perm.append_left _ (List.Perm.swap ..)
  ·simp
theorem outer_ev (p rest : List S44) (r : List S44) : ∀ (xs ss : List S44), (∀ y ∈ ss ++ xs, Val y) → p.length + ss.length + xs.length + 1 ≤ 4611686018427387904 → 1 ≤ ss.length →
  p ++ (insAll ss xs ++ rest) = r →
  Ev (fun k => api_Weighted_69.l0 k (p ++ (ss ++ (xs ++ rest))) (p.length : Nat) ((p.length + ss.length + xs.length : Nat) : Int) ((p.length + ss.length : Nat) : Int)) r := by
 intro xs
 induction xs with
 | nil =>
  intro ss hv hl h1 h
  refine Ev.step (f := fun _ => some r) (fun k => ?_) (Ev.now r)
  simp only [api_Weighted_69.l0]
  rw [if_neg (by simp)]
  simpa [insAll] using h
 | cons x xs ih =>
  intro ss hv hl h1 h
  simp only [insAll] at h
  have hv2 : ∀ y ∈ insRev ss.reverse x [] ++ xs, Val y := by
   intro y hy
   rw [List.mem_append] at hy
   rcases hy with hy | hy
   ·have := (insRev_perm ss.reverse x []).mem_iff.1 hy
    exact hv y (by simp at this ⊢; rcases this with h | h <;> simp [h])
   ·exact hv y (by simp [hy])
  have hrec := ih (insRev ss.reverse x []) hv2 (by rw [insRev_len]; simp at hl ⊢; omega) (by rw [insRev_len]; omega) h
  have hin := inner_ev p (xs ++ rest) x ((p.length + ss.length + (x :: xs).length : Nat) : Int) ((p.length + ss.length : Nat) : Int) (hv x (by simp)) r ss.reverse [] (fun y hy => hv y (by simp at hy; simp [hy])) (by simp at hl ⊢; omega)
  refine Ev.step (f := fun k => api_Weighted_69.l1 k (p ++ (ss.reverse.reverse ++ x :: ([] ++ (xs ++ rest)))) (p.length : Nat) ((p.length + ss.length + (x :: xs).length : Nat) : Int) ((p.length + ss.length : Nat) : Int) ((p.length + ss.reverse.length : Nat) : Int)) (fun k => ?_) (hin ?_)
  ·simp only [api_Weighted_69.l0]
   rw [if_pos (by simp; omega)]
   simp
  ·rw [insRev_len] at hrec
   have hw : wrap64 (((p.length + ss.length : Nat) : Int) + 1) = ((p.length + (ss.reverse.length + ([] : List S44).length + 1) : Nat) : Int) := by
    rw [wrap_small] <;> simp at hl ⊢ <;> omega
   rw [hw]
   have hb : p.length + (ss.reverse.length + ([] : List S44).length + 1) + xs.length = p.length + ss.length + (x :: xs).length := by simp; omega
   rw [hb] at hrec
   exact hrec
theorem insAll_perm : ∀ (xs ss : List S44), (insAll ss xs).Perm (ss ++ xs)
 | [], ss => by simp [insAll]
 | x :: xs, ss => by
  unfold insAll
  refine (insAll_perm xs _).trans ?_
  have := (insRev_perm ss.reverse x []).append_right xs
  simpa using this
def Le (x y : S44) : Prop := ordK x y ≠ .gt
theorem Le.of_not_lt {x y : S44} (h : ¬ ordK x y = .lt) : Le y x := fun e => h (by
 have := OrientedCmp.eq_swap (cmp := ordK) (a := x) (b := y)
 rw [this, e]; rfl)
theorem insRev_sorted : ∀ (ys : List S44) (x : S44) (acc : List S44), (ys.reverse ++ acc).Pairwise Le → (∀ y ∈ acc, Le x y) → (insRev ys x acc).Pairwise Le
 | [], x, acc, h, hx => by
  simp only [insRev, List.pairwise_cons]
  exact ⟨hx, by simpa using h⟩
 | y :: ys, x, acc, h, hx => by
  unfold insRev
  split
  ·rename_i ho
   refine insRev_sorted ys x (y :: acc) (by simpa using h) (fun z hz => ?_)
   rcases List.mem_cons.1 hz with rfl | hz
   ·exact fun e => by rw [ho] at e; cases e
   ·exact hx z hz
  ·rename_i ho
   have hyx : Le y x := Le.of_not_lt ho
   simp only [List.reverse_cons, List.append_assoc, List.singleton_append] at h
   rw [List.pairwise_append] at h ⊢
   obtain ⟨h1, h2, h3⟩ := h
   rw [List.pairwise_cons] at h2
   refine ⟨h1, ?_, fun a ha b hb => ?_⟩
   ·simp only [List.pairwise_cons]
    exact ⟨fun z hz => by rcases List.mem_cons.1 hz with rfl | hz; exact hyx; exact h2.1 z hz, hx, h2.2⟩
   ·have ay : Le a y := h3 a ha y (by simp)
    rcases List.mem_cons.1 hb with rfl | hb
    ·exact ay
    rcases List.mem_cons.1 hb with rfl | hb
    ·intro e
     have h5 : (ordK a y).isLE := by unfold Le at ay; cases hq : ordK a y <;> simp_all
     have h6 : (ordK y b).isLE := by unfold Le at hyx; cases hq : ordK y b <;> simp_all
     have := TransCmp.isLE_trans (cmp := ordK) h5 h6
     rw [e] at this
     cases this
    ·exact h3 a ha b (by simp [hb])
theorem insAll_sorted : ∀ (xs ss : List S44), ss.Pairwise Le → (insAll ss xs).Pairwise Le
 | [], ss, h => by simpa [insAll] using h
 | x :: xs, ss, h => by
  unfold insAll
  exact insAll_sorted xs _ (insRev_sorted _ _ _ (by simpa using h) (fun y hy => by simp at hy))
theorem insertion_ev (p xs rest : List S44) (hv : ∀ y ∈ xs, Val y) (hl : p.length + xs.length + 1 ≤ 4611686018427387904) :
  ∃ s, s.Perm xs ∧ s.Pairwise Le ∧ Ev (fun k => api_Weighted_69.f k (p ++ (xs ++ rest)) (p.length : Nat) ((p.length + xs.length : Nat) : Int)) (p ++ (s ++ rest)) := by
 have hw : wrap64 (((p.length : Nat) : Int) + 1) = ((p.length + 1 : Nat) : Int) := by rw [wrap_small] <;> omega
 cases xs with
 | nil =>
  refine ⟨[], .refl _, .nil, Ev.step (f := fun _ => some (p ++ ([] ++ rest))) (fun k => ?_) (Ev.now _)⟩
  unfold api_Weighted_69.f
  simp only [api_Weighted_69.l0]
  rw [hw, if_neg (by simp; omega)]
 | cons x xs =>
  refine ⟨insAll [x] xs, (insAll_perm xs [x]).trans (by simp), insAll_sorted xs [x] (by simp), ?_⟩
  have := outer_ev p rest _ xs [x] (by simpa using hv) (by simp at hl ⊢; omega) (by simp) rfl
  refine Ev.congr (fun k => ?_) this
  unfold api_Weighted_69.f
  rw [hw]
  have e : p.length + [x].length + xs.length = p.length + (x :: xs).length := by simp; omega
  rw [e]
  rfl
end
end Go.Proofs.Ytgapgdnbgimdlaa.PO
end
section
namespace Go.Proofs.Ytgapgdnbgimdlaa.Ov
open Go.RowKit Go.Proofs.YtgapgdnbgimdlaaW.PrintWords Go.Proofs.YtgapgdnbgimdlaaW.PrintLast Go.Proofs.YtgapgdnbgimdlaaW.PrintMore Go.Proofs.Ytgapgdnbgimdlaa.PO
theorem info44 : (Try.prog.info? 44).map (fun i => (i.zero, i.size, i.bytes)) = some (some (.agg #[(.slice none 0 0), (.int .i64 0)]), 2, 32) := by kernel_rfl
def growo.f (a1 : Int) : Option (List S44) := if 0 ≤ a1 ∧ a1.toNat * 32 ≤ 140737488355328 then some [] else none
set_option maxHeartbeats 2000000 in
theorem growo.calls (a1 : Int) (r : List S44) (w : World) (h : growo.f a1 = some r) :
  Calls Try.prog 32 #[.slice none 0 0, .int .i64 a1] w fun e w' => ∃ v0_ : Value, e = .returned (v0_) ∧ Kd.R k44 44 w' w.heap.size (fun _ => True) v0_ r ∧ Below w.heap.size w w' := by
 unfold growo.f at h
 split at h
 ·rename_i hc
  obtain rfl := Option.some.inj h
  obtain ⟨h0, h1⟩ := hc
  clear h
  have b0 : decide (a1 < 0) = false := by simp; omega
  by_cases hp : 0 < a1
  ·have b1 : decide (0 < a1) = true := by simp; omega
   go_enter Try.func32, Try.ntmps32
   go_wp2_with (at_builtin; refine Kd.R_append_zeros k44 (w0 := w) w.heap.size rfl (.tmp 20) (.tmp 21) 31 3 44 (.agg #[(.slice none 0 0), (.int .i64 0)]) 32 rfl Try.underlying31 Try.underlying3 info44 rfl (by decide) (by omega) (.slice none 0 0) [] z44 (a1 : Int) (fun _ => True) rfl rfl ?aF ?aO (Kd.R_nil _ _ _ _ _) h0 ?aB ?aS ?aL ?_; (case aF => exact k44_mkM _ _ _ z44); (case aO => exact fun _ _ => trivial); (case aB => exact Below.refl _ _); (case aS => exact Nat.le_refl _); (case aL => simp; omega); intro v1 w1 ho hb hg hat; obtain ⟨A1, c1, rfl⟩ := Kd.R_slice ho; have HO := Aside0.mk ho; have HB := Aside0.mk hb; clear ho hb hg hat)
   go_ret
   exact ⟨_, rfl, Kd.R_take HO.out (m := 0) (Nat.zero_le _), HB.out⟩
  ·have b1 : decide (0 < a1) = false := by simp; omega
   go_enter Try.func32, Try.ntmps32
   go_wp2
   go_ret
   exact ⟨_, rfl, Kd.R_nil _ _ _ _ _, Below.refl _ _⟩
 ·cases h
theorem take_cut {α : Type} (l zs : List α) (a b : Nat) (hb : b ≤ l.length) (ha : a ≤ b) : (l.take b ++ zs ++ l.drop (b + zs.length)).take a = l.take a := by
 rw [List.append_assoc, List.take_append_of_le_length (by rw [List.length_take]; omega), List.take_take]
 congr 1
 omega
theorem clear_ov {W : World} {base : Nat} {ok : Nat → Prop} {A : Option Addr} {n i c : Nat} {xs : List S44} (h : k44.R 44 W base ok (.slice A n c) xs) (hi : i ≤ n) :
  ∃ W', (∀ ty, (Builtin.clear_ #[31] ty #[.slice (if c = i then A else A.map (·.add (i * 2))) (n - i) (c - i)]).run Try.prog W = .ok (.tuple #[]) W') ∧ k44.R 44 W' base ok (.slice A i c) (xs.take i) ∧ W.grownBy W' (Value.slice A n c).ownBlock := by
 obtain ⟨i0, hi0, hz0, hs0, hb0⟩ := info_parts info44
 have hr0 := Kd.R_reads' h
 obtain rfl : n = xs.length := hr0.1
 have hic : i ≤ c := by omega
 by_cases hni : xs.length - i = 0
 ·refine ⟨W, fun ty => ?_, Kd.R_take h hi, grown_of_below (Below.refl _ _) _⟩
  rw [hni]
  generalize (if c = i then A else A.map (·.add (i * 2))) = A'
  cases A' <;> simp [Builtin.clear_, Try.underlying31, underlying, go_sem]
 ·obtain ⟨h0', inner', ⟨hlen', ho'⟩, hreps'⟩ := Kd.R_take (m := i) h hi
  obtain ⟨h0, inner, ⟨hlen, ho⟩, hreps⟩ := h
  rcases ho with ⟨hv, hn0⟩ | ⟨g, cap, cur, hv, hbg, hg, hnc, hcm, hcur, htk⟩
  ·omega
  ·injection hv with hA hn hc
   subst hA
   subst hc
   have hci : ¬ (c = i) := by omega
   rw [if_neg hci]
   have hsz : k44.sz = 2 := rfl
   rcases ho' with ⟨hv', _⟩ | ⟨g', cap', cur', hv', hbg', hg', hnc', hcm', hcur', htk'⟩
   ·cases hv'
   ·injection hv' with hA' hn' hc'
    injection hA' with hA'
    injection hA' with hA'
    subst hA'
    subst hc'
    rw [hg] at hg'
    injection hg' with hg'
    injection hg' with hg'
    subst hg'
    rw [hsz] at hlen hlen' hcur htk htk' hreps hreps'
    obtain ⟨zs, hzs⟩ : ∃ zs, zs = (Builtin.zeroCells (Value.agg #[Value.slice none 0 0, Value.int IntKind.i64 0]).cells (xs.length - i)).toList := ⟨_, rfl⟩
    have hzl : zs.length = (xs.length - i) * 2 := by rw [hzs]; simp [Builtin.zeroCells, Value.cells]
    have hz1 : ∀ v ∈ zs, v.oneCell' = true := by
     rw [hzs]
     intro v hv
     simp only [Builtin.zeroCells, Value.cells, Array.toList_map, List.mem_map] at hv
     obtain ⟨q, _, rfl⟩ := hv
     have : q % 2 = 0 ∨ q % 2 = 1 := by omega
     rcases this with h2 | h2 <;> simp [h2] <;> rfl
    have hnv : Value.slice (some ⟨g, 0, none⟩) i c = Value.slice (some ⟨g, 0, none⟩) (xs.take i).length c := by rw [List.length_take, Nat.min_eq_left hi]
    have hrun := run_storeCells_at (P := Try.prog) g (i * 2) 44 zs 0 cur W hg (by rw [hzl, hcur]; omega) hz1
    refine ⟨W.setRow g (cur.toList.take (i * 2 + 0) ++ zs ++ cur.toList.drop (i * 2 + 0 + zs.length)).toArray, fun ty => ?_, ⟨h0', inner', ⟨hlen', .inr ⟨g, c, _, hnv, hbg, setRow_heap W g cur _ 44 (0, 0) hg, by simpa using hnc', hcm, ?_, ?_⟩⟩, ?_⟩, ?_⟩
    ·have ha : (Addr.add ⟨g, 0, none⟩ (i * 2)) = ⟨g, i * 2, none⟩ := add_plain g (i * 2)
     simp only [Option.map_some, ha]
     obtain ⟨m, hm⟩ : ∃ m, xs.length - i = m + 1 := ⟨xs.length - i - 1, by omega⟩
     rw [hm] at hzs ⊢
     simp [Builtin.clear_, Try.underlying31, underlying, zeroValue, typeInfo, hi0, hz0, go_sem]
     rw [show (Builtin.zeroCells #[Value.slice none 0 0, Value.int IntKind.i64 0] (m + 1)).toList = zs from hzs.symm, hrun]
     simp only [Nat.add_zero, List.append_assoc]
     rfl
    ·rw [hsz]
     simp [hzl, hcur]
     omega
    ·rw [hsz]
     rw [← htk', List.length_take, Nat.min_eq_left hi, List.toList_toArray, Nat.add_zero]
     exact take_cut _ _ _ _ (by simp [hcur]; omega) (Nat.le_refl _)
    ·rw [hsz]
     refine hreps'.imp_ fun p cs hM => k44.M_move (fun k hk => ?_) hM
     exact setRow_other W g k _ (fun e => hk.2 (by rw [e]; rfl))
    ·refine ⟨rfl, rfl, rfl, by simp, fun k hk hne => setRow_other W g k _ (fun e => hne (by rw [e]; rfl))⟩
end Go.Proofs.Ytgapgdnbgimdlaa.Ov
end
section
namespace Go.Proofs.Ytgapgdnbgimdlaa.PO
open Go.Proofs.Ytgapgdnbgimdlaa.Ov Go.RowKit Go.Proofs.YtgapgdnbgimdlaaW.PrintWords Go.Proofs.YtgapgdnbgimdlaaW.PrintLast Go.Proofs.YtgapgdnbgimdlaaW.PrintMore
attribute [local go_sem] max2_int min2_int max_two min_two max_three min_three max_four min_four
set_option linter.unusedVariables false
set_option linter.unusedSimpArgs false
def zset_sum_2.f [Ω : Env] (a0_0 : OV) (a0_1 : Int) : Option (Bool) := some (a0_1 == 0)
set_option maxHeartbeats 8000000 in
set_option maxRecDepth 100000 in
theorem zset_sum_2.calls [Ω : Env] (a0_0 : OV) (a0_1 : Int) (r : Bool) (w : World) (h : zset_sum_2.f a0_0 a0_1 = some r) :
  Calls Try.prog 43 #[.agg #[.slice a0_0.A a0_0.n a0_0.c, .int .i64 a0_1]] w fun e w' => e = .returned (.bool r) ∧ Below w.heap.size w w' := by
 have hu44 := Try.underlying44
 have HB := Aside0.mk (Below.refl w.heap.size w)
 have H : (some (a0_1 == 0)) = some r := h
 clear h
 obtain rfl := Option.some.inj H
 go_enter Try.func43, Try.ntmps43
 go_wp2_with (first | ((with_reducible refine gate_dst (N := 1) rfl ?_); refine box_event ?hg (N := 1) ?hd (cs := #[.slice a0_0.A a0_0.n a0_0.c, .int .i64 a0_1]) (t := 44) ?hr ?_; (case hd => rfl); (case hg => rfl); (case hr => first | (go_simp; done) | (go_simp; rfl)); intro gb101 hg w2 hbox hb; have n0_ := Aside0.mk (below_step qh_ hb); have n1_ := Aside0.mk (hbox); have n2_ := Aside0.mk ((by rw [hg]; exact (below_size qh_) : w.heap.size ≤ gb101)); have n3_ := Aside0.mk ((by rw [hg]; exact (below_size qh_) : w.heap.size ≤ gb101)); clear HB; have HB := n0_; have BK101 := n1_; have GW101 := n2_; have GE101 := n3_; clear n0_ n1_ n2_ n3_; clear hb hbox hg; have hcz3_0 : w2.cell? ⟨gb101, 0, none⟩ = some (.slice a0_0.A a0_0.n a0_0.c) := (blk_cell BK101.out 0).trans rfl; have hcz3_1 : w2.cell? ⟨gb101, 1, none⟩ = some (.int .i64 a0_1) := (blk_cell BK101.out 1).trans rfl; have hfz3_0 := blk_frozen BK101.out 0; have hfz3_1 := blk_frozen BK101.out 1))
 go_ret
 exact ⟨by first | rfl | (simp [errW_none, errW_some] <;> rfl) | (simp [*, errW_none, errW_some] <;> rfl), by repeat (first | (with_reducible first | exact HB.out | apply below_alloc | apply pw_below_drewN | apply below_drew1 | refine below_set ?_ GE101.out) | exact HB.out)⟩
mutual
def api_Weighted_22.l0 [Ω : Env] : Nat → List (List (S44)) → Int → List (List (S44)) → Int → Int → Option ((List (S44)))
 | 0, _, _, _, _, _ => none
 | k + 1, x0, x3, x9, x10, x11 => if x11 < x10 then (if 0 ≤ x11 then (if x11 < (x9.length : Int) then (if (wrap64 (x3 + ((rd_L3 x9 x11).length : Int))) < 0 then (none) else (api_Weighted_22.l0 k x0 (wrap64 (x3 + ((rd_L3 x9 x11).length : Int))) x9 x10 (wrap64 (x11 + 1)))) else (none)) else (none)) else ((growo.f x3).bind fun t103 => (api_Weighted_22.l1 k t103 x0 (x0.length : Int) 0))
def api_Weighted_22.l1 [Ω : Env] : Nat → List (S44) → List (List (S44)) → Int → Int → Option ((List (S44)))
 | 0, _, _, _, _ => none
 | k + 1, x6, x25, x26, x27 => if x27 < x26 then (if 0 ≤ x27 then (if x27 < (x25.length : Int) then (if x6.length + (rd_L3 x25 x27).length < 4398046511104 then (api_Weighted_22.l1 k (x6 ++ (rd_L3 x25 x27)) x25 x26 (wrap64 (x27 + 1))) else (none)) else (none)) else (none)) else (some x6)
end
def api_Weighted_22.f [Ω : Env] (k : Nat) (l0 : List (List (S44))) : Option ((List (S44))) := api_Weighted_22.l0 k l0 0 l0 (l0.length : Int) 0
theorem api_Weighted_22.mono_l [Ω : Env] : ∀ k, (∀ y0 y1 y2 y3 y4, LeO (api_Weighted_22.l0 k y0 y1 y2 y3 y4) (api_Weighted_22.l0 (k + 1) y0 y1 y2 y3 y4)) ∧ (∀ y0 y1 y2 y3, LeO (api_Weighted_22.l1 k y0 y1 y2 y3) (api_Weighted_22.l1 (k + 1) y0 y1 y2 y3))
 | 0 => ⟨fun _ _ _ _ _ r h => by simp [api_Weighted_22.l0] at h, fun _ _ _ _ r h => by simp [api_Weighted_22.l1] at h⟩
 | k + 1 => by
  obtain ⟨ih0, ih1⟩ := api_Weighted_22.mono_l k
  refine ⟨?_, ?_⟩
  ·intro y0 y1 y2 y3 y4
   unfold api_Weighted_22.l0
   repeat' first
   | (with_reducible exact ih0 _ _ _ _ _)
   | (with_reducible exact ih1 _ _ _ _)
   | (with_reducible exact LeO.refl _)
   | (with_reducible exact LeO.none _)
   | (with_reducible refine LeO.ite ?_ ?_)
   | (with_reducible refine LeO.bind ?_ (fun _ => ?_))
   | exact ih0 _ _ _ _ _
   | exact ih1 _ _ _ _
   | exact LeO.none _
   | refine LeO.ite ?_ ?_
   | refine LeO.bind ?_ (fun _ => ?_)
  ·intro y0 y1 y2 y3
   unfold api_Weighted_22.l1
   repeat' first
   | (with_reducible exact ih0 _ _ _ _ _)
   | (with_reducible exact ih1 _ _ _ _)
   | (with_reducible exact LeO.refl _)
   | (with_reducible exact LeO.none _)
   | (with_reducible refine LeO.ite ?_ ?_)
   | (with_reducible refine LeO.bind ?_ (fun _ => ?_))
   | exact ih0 _ _ _ _ _
   | exact ih1 _ _ _ _
   | exact LeO.none _
   | refine LeO.ite ?_ ?_
   | refine LeO.bind ?_ (fun _ => ?_)
theorem api_Weighted_22.mono [Ω : Env] : ∀ a0 k, LeO (api_Weighted_22.f k a0) (api_Weighted_22.f (k + 1) a0) := by
 intro a0 k
 obtain ⟨ih0, ih1⟩ := api_Weighted_22.mono_l k
 unfold api_Weighted_22.f
 repeat' first
   | (with_reducible exact ih0 _ _ _ _ _)
   | (with_reducible exact ih1 _ _ _ _)
   | (with_reducible exact LeO.refl _)
   | (with_reducible exact LeO.none _)
   | (with_reducible refine LeO.ite ?_ ?_)
   | (with_reducible refine LeO.bind ?_ (fun _ => ?_))
   | exact ih0 _ _ _ _ _
   | exact ih1 _ _ _ _
   | exact LeO.none _
   | refine LeO.ite ?_ ?_
   | refine LeO.bind ?_ (fun _ => ?_)
set_option maxHeartbeats 8000000 in
set_option maxRecDepth 100000 in
theorem api_Weighted_22.calls [Ω : Env] (k : Nat) (A0 : Option Addr) (c0 : Nat) (l0 : List (List (S44))) (r : List (S44)) (w : World) (hr0 : Kd.C (Kd.slice 44 k44) w A0 l0.length l0) (hc0 : l0.length ≤ c0) (h : api_Weighted_22.f k l0 = some r) :
  Calls Try.prog 22 #[.slice A0 l0.length c0] w fun e w' => ∃ v0_ : Value, e = .returned (v0_) ∧ Kd.R k44 44 w' w.heap.size (fun _ => True) v0_ r ∧ Below w.heap.size w w' := by
 have HR0 := Aside0.mk hr0
 have HC0 := Aside0.mk hc0
 clear hr0 hc0
 have HB := Aside0.mk (Below.refl w.heap.size w)
 have H : (api_Weighted_22.l0 k l0 0 l0 (l0.length : Int) 0) = some r := h
 clear h
 have H' := Aside0.mk H
 clear H
 go_enter Try.func22, Try.ntmps22
 go_wp2
 go_loopg [3, 11] k (fun kq v3 v11 w' => ∃ (x3_1 : Int) (x11_1 : Int), v3 = .int .i64 x3_1 ∧ v11 = .int .i64 x11_1 ∧ Aside0 (api_Weighted_22.l0 kq l0 x3_1 l0 (l0.length : Int) x11_1 = some r) ∧ Aside0 (kq ≤ k) ∧ Aside0 (Below w.heap.size w w'))
 case atStart => exact ⟨(0), (0), (by first | rfl | (simp; done) | (simp [*]; done)), (by first | rfl | (simp; done) | (simp [*]; done)), H', ⟨Nat.le_refl _⟩, ⟨qh_⟩⟩
 case round =>
  clear H'
  obtain ⟨x3_1, x11_1, rfl, rfl, HA, HK1, HB⟩ := hrel
  cases gk with
  | zero => exact absurd HA.out (by simp [api_Weighted_22.l0])
  | succ k1 =>
   have H := HA.out
   clear HA
   simp only [api_Weighted_22.l0] at H
   by_cases c2 : x11_1 < (l0.length : Int)
   ·rw [if_pos c2] at H
    have c2b0 : decide (x11_1 < (l0.length : Int)) = true := decide_eq_true c2
    clear c2
    by_cases c3 : 0 ≤ x11_1
    ·rw [if_pos c3] at H
     have c3b0 : decide (0 ≤ x11_1) = true := decide_eq_true c3
     clear c3
     by_cases c4 : x11_1 < (l0.length : Int)
     ·rw [if_pos c4] at H
      have c4b0 : decide (x11_1 < (l0.length : Int)) = true := decide_eq_true c4
      clear c4
      by_cases c5 : (wrap64 (x3_1 + ((rd_L3 l0 x11_1).length : Int))) < 0
      ·rw [if_pos c5] at H
       exact absurd H (by simp)
      ·rw [if_neg c5] at H
       have c5b0 : decide ((wrap64 (x3_1 + ((rd_L3 l0 x11_1).length : Int))) < 0) = false := decide_eq_false c5
       clear c5
       have H' := Aside0.mk H
       clear H
       have p102 : 0 ≤ (x11_1 : Int) := of_decide_eq_true (by first | (with_reducible assumption) | assumption)
       have q102 : x11_1 < (l0.length : Int) := of_decide_eq_true (by first | (with_reducible assumption) | assumption)
       obtain ⟨ad102, A102_0, c102_0, e102, hx102_0, hl102_0, hi102_0⟩ := at_L3 HR0.out x11_1 p102 q102
       cases e102
       replace hx102_0 := (HB.out.cell (World.block_lt_of_cell? w _ hx102_0)).trans hx102_0
       have HR102_0 := Aside0.mk hi102_0
       have HC102_0 := Aside0.mk hl102_0
       clear hi102_0 hl102_0
       replace p102 := eq_true p102
       replace q102 := eq_true q102
       go_wp2
       go_roundg k1
       case measure => have := HK1.out; omega
       case rel => exact ⟨(wrap64 (x3_1 + ((rd_L3 l0 x11_1).length : Int))), (wrap64 (x11_1 + 1)), (by first | rfl | (simp; done) | (simp [*]; done)), (by first | rfl | (simp; done) | (simp [*]; done)), H', ⟨by have := HK1.out; omega⟩, ⟨qh_⟩⟩
     ·rw [if_neg c4] at H
      exact absurd H (by simp)
    ·rw [if_neg c3] at H
     exact absurd H (by simp)
   ·rw [if_neg c2] at H
    have c2b0 : decide (x11_1 < (l0.length : Int)) = false := decide_eq_false c2
    clear c2
    replace H := Option.bind_eq_some_iff.mp H
    obtain ⟨t103, A60, H⟩ := H
    replace H : (api_Weighted_22.l1 k1 t103 l0 (l0.length : Int) 0) = some r := H
    have A6 := Aside0.mk A60
    clear A60
    have H' := Aside0.mk H
    clear H
    go_wp2_with (first | ((with_reducible refine gate_callee (f := 32) rfl ?_); refine goesL_ (some 24) rfl rfl Try.func32 (by kernel_rfl) rfl #[.slice none 0 0, .int .i64 x3_1] rfl (by (try simp only [List.map_toArray, List.map_cons, List.map_nil]); first | done | rfl | (simp only [List.length_drop, List.length_take]; rfl)) ?_; (with_reducible refine (growo.calls  x3_1 t103 _ A6.out).mono ?_); rintro e w7 ⟨v104, rfl, ho0, hb⟩; refine ⟨_, rfl, ?_⟩; have n0_ := Aside0.mk (Kd.R_lower ho0 (below_size qh_)); have n1_ := Aside0.mk (below_step qh_ hb); clear HB; have HO105 := n0_; have HB := n1_; clear n0_ n1_; (try clear hb); (try clear hb2); (try clear hk); (try clear hi); (try clear ho0)))
    (try simp only [Act.put, List.setIfInBounds_toArray, List.set_cons_zero, List.set_cons_succ])
    go_loopg [6, 27] k1 (fun kq v6 v27 w' => ∃ (x6_2 : List (S44)) (x27_2 : Int), v27 = .int .i64 x27_2 ∧ Aside0 (api_Weighted_22.l1 kq x6_2 l0 (l0.length : Int) x27_2 = some r) ∧ Aside0 (kq ≤ k1) ∧ Aside0 (Kd.R k44 44 w' w.heap.size (fun _ => True) v6 x6_2) ∧ Aside0 (Below w.heap.size w w'))
    case atStart => exact ⟨(t103), (0), (by first | rfl | (simp; done) | (simp [*]; done)), H', ⟨Nat.le_refl _⟩, ⟨qr_ HO105.out⟩, ⟨qh_⟩⟩
    case round =>
     clear H'
     try clear c1
     try clear p1
     try clear q1
     try clear hx1
     try clear c2
     try clear c2b0
     try clear p2
     try clear c3
     try clear c3b0
     try clear c4
     try clear c4b0
     try clear c5
     try clear c5b0
     try clear p6
     try clear hx102_0
     try clear p102
     try clear q102
     obtain ⟨x6_2, x27_2, rfl, HA, HK2, HO_6, HB⟩ := hrel
     cases gk with
     | zero => exact absurd HA.out (by simp [api_Weighted_22.l1])
     | succ k2 =>
      have H := HA.out
      clear HA
      simp only [api_Weighted_22.l1] at H
      by_cases c8 : x27_2 < (l0.length : Int)
      ·rw [if_pos c8] at H
       have c8b0 : decide (x27_2 < (l0.length : Int)) = true := decide_eq_true c8
       clear c8
       by_cases c9 : 0 ≤ x27_2
       ·rw [if_pos c9] at H
        have c9b0 : decide (0 ≤ x27_2) = true := decide_eq_true c9
        clear c9
        by_cases c10 : x27_2 < (l0.length : Int)
        ·rw [if_pos c10] at H
         have c10b0 : decide (x27_2 < (l0.length : Int)) = true := decide_eq_true c10
         clear c10
         by_cases c11 : x6_2.length + (rd_L3 l0 x27_2).length < 4398046511104
         ·rw [if_pos c11] at H
          have LMc11 := Aside0.mk c11
          clear c11
          obtain ⟨y107, hy107⟩ : ∃ y_ : List (S44), y_ = (x6_2 ++ (rd_L3 l0 x27_2)) := ⟨_, rfl⟩
          replace H : (api_Weighted_22.l1 k2 y107 l0 (l0.length : Int) (wrap64 (x27_2 + 1))) = some r := by first | (rw [hy107]; with_reducible exact H) | (have H2_ := (Option.bind_some _ _).symm.trans H; rw [hy107]; with_reducible exact H2_) | (have H2_ := (Option.bind_some _ _).symm.trans H; with_reducible exact H2_) | with_reducible exact H | (rw [hy107]; exact H) | exact H
          have Ny107 := Aside0.mk hy107
          clear hy107
          have H' := Aside0.mk H
          clear H
          have p106 : 0 ≤ (x27_2 : Int) := of_decide_eq_true (by first | (with_reducible assumption) | assumption)
          have q106 : x27_2 < (l0.length : Int) := of_decide_eq_true (by first | (with_reducible assumption) | assumption)
          obtain ⟨ad106, A106_0, c106_0, e106, hx106_0, hl106_0, hi106_0⟩ := at_L3 HR0.out x27_2 p106 q106
          cases e106
          replace hx106_0 := (HB.out.cell (World.block_lt_of_cell? w _ hx106_0)).trans hx106_0
          have HR106_0 := Aside0.mk hi106_0
          have HC106_0 := Aside0.mk hl106_0
          clear hi106_0 hl106_0
          replace p106 := eq_true p106
          replace q106 := eq_true q106
          go_wp2_with (first | ((with_reducible refine gate_builtin (b := .append) (xs := #[.tmp 31, .tmp 32]) rfl ?_); at_builtin; refine Kd.R_append_rows k44 (w0 := w) w.heap.size rfl (.tmp 31) (.tmp 32) 31 44 (.agg #[(.slice none 0 0), (.int .i64 0)]) 32 rfl Try.underlying31 info44 rfl (by decide) (by omega) u6 x6_2 (rd_L3 l0 x27_2) _ _ _ (fun _ => True) (fun _ => False) rfl rfl ?aO ?aR (fun _ _ h => h) (fun _ h => h.elim) ?aF ?aB ?aS ?aL ?_; (case aR => repeat (first | exact (Kd.C_below HR106_0.out HB.out) | (with_reducible refine Kd.C_alloc ?_ _) | (with_reducible refine Kd.C_drewN ?_ _) | (with_reducible refine Kd.C_drew ?_))); (case aB => exact qh_); (case aF => exact (fun _ _ => trivial)); (case aO => exact (qr_ HO_6.out)); (case aS => exact (below_size qh_)); (case aL => have := LMc11.out; omega); intro v108 w12 ho hb hg hat; rw [← Ny107.out] at ho; have n0_ := Aside0.mk (hb); have n1_ := Aside0.mk (ho); clear HB; clear HO_6; have HB := n0_; have HO109 := n1_; clear n0_ n1_; clear ho hb hg hat))
          go_roundg k2
          case measure => have := HK1.out; have := HK2.out; omega
          case rel => exact ⟨(y107), (wrap64 (x27_2 + 1)), (by first | rfl | (simp; done) | (simp [*]; done)), H', ⟨by have := HK1.out; have := HK2.out; omega⟩, ⟨qr_ HO109.out⟩, ⟨qh_⟩⟩
         ·rw [if_neg c11] at H
          exact absurd H (by simp)
        ·rw [if_neg c10] at H
         exact absurd H (by simp)
       ·rw [if_neg c9] at H
        exact absurd H (by simp)
      ·rw [if_neg c8] at H
       have c8b0 : decide (x27_2 < (l0.length : Int)) = false := decide_eq_false c8
       clear c8
       obtain rfl := Option.some.inj H
       go_wp2
       go_ret
       exact ⟨_, by first | rfl | (simp [errW_none, errW_some] <;> rfl) | (simp [*, errW_none, errW_some] <;> rfl), by (with_reducible repeat (first | apply Kd.R_alloc | apply Kd.R_drewN | apply Kd.R_drew)); exact HO_6.out, qh_⟩
end Go.Proofs.Ytgapgdnbgimdlaa.PO
end
section
namespace Go.Proofs.Ytgapgdnbgimdlaa.PO
open Go.Proofs.Ytgapgdnbgimdlaa.Ov Go.RowKit Go.Proofs.YtgapgdnbgimdlaaW.PrintWords Go.Proofs.YtgapgdnbgimdlaaW.PrintLast Go.Proofs.YtgapgdnbgimdlaaW.PrintMore
attribute [local go_sem] max2_int min2_int max_two min_two max_three min_three max_four min_four
set_option linter.unusedVariables false
set_option linter.unusedSimpArgs false
def api_Weighted_70.f [Ω : Env] : Nat → List (S44) → Int → Int → Int → Option ((List (S44))) := fun _ _ _ _ _ => none
theorem api_Weighted_70.mono [Ω : Env] : ∀ a0 a1 a2 a3 k, LeO (api_Weighted_70.f k a0 a1 a2 a3) (api_Weighted_70.f (k + 1) a0 a1 a2 a3) := fun _ _ _ _ _ _ h => by simp [api_Weighted_70.f] at h
theorem api_Weighted_70.calls [Ω : Env] (k : Nat) : ∀ (P0_ : Nat → Prop) (u9000_ : Value) (l0 : List (S44)) (a1 : Int) (a2 : Int) (a3 : Int)  (r : List (S44)) (w : World) (hB : Below w0.heap.size w0 w) (ho0 : Kd.R k44 44 w w0.heap.size P0_ u9000_ l0) (h : api_Weighted_70.f k l0 a1 a2 a3 = some r),
  Calls Try.prog 70 #[u9000_, .int .i64 a1, .int .i64 a2, .int .i64 a3, .func (.func 40) #[] #[]] w fun e w' => e = .returned (.tuple #[]) ∧ Kd.R k44 44 w' w0.heap.size (fun k_ => (P0_ k_ ∨ w.heap.size ≤ k_)) u9000_ r ∧ Below w0.heap.size w0 w' ∧ Kept w w' (fun k_ => P0_ k_) := by
 intro P0_ u9000_ l0 a1 a2 a3 r w hB ho0 h
 simp [api_Weighted_70.f] at h
end Go.Proofs.Ytgapgdnbgimdlaa.PO
end
section
namespace Go.Proofs.Ytgapgdnbgimdlaa.PO
open Go.Proofs.Ytgapgdnbgimdlaa.Ov Go.RowKit Go.Proofs.YtgapgdnbgimdlaaW.PrintWords Go.Proofs.YtgapgdnbgimdlaaW.PrintLast Go.Proofs.YtgapgdnbgimdlaaW.PrintMore
attribute [local go_sem] max2_int min2_int max_two min_two max_three min_three max_four min_four
set_option linter.unusedVariables false
set_option linter.unusedSimpArgs false
mutual
def api_Weighted_56.l0 [Ω : Env] : Nat → List (S44) → Int → Int → Int → Int → Option ((List (S44)))
 | 0, _, _, _, _, _ => none
 | k + 1, x0, x1, x6, x7, x8 => if x8 ≤ x1 then ((api_Weighted_69.f k x0 x7 x8).bind fun t145 => (api_Weighted_56.l0 k t145 x1 x6 x8 (wrap64 (x8 + x6)))) else ((api_Weighted_69.f k x0 x7 x1).bind fun t146 => (api_Weighted_56.l1 k t146 x1 x6))
def api_Weighted_56.l1 [Ω : Env] : Nat → List (S44) → Int → Int → Option ((List (S44)))
 | 0, _, _, _ => none
 | k + 1, x0, x1, x6 => if x6 < x1 then (api_Weighted_56.l2 k x0 x1 x6 0 (wrap64 (2 * x6))) else (some x0)
def api_Weighted_56.l2 [Ω : Env] : Nat → List (S44) → Int → Int → Int → Int → Option ((List (S44)))
 | 0, _, _, _, _, _ => none
 | k + 1, x0, x1, x6, x7, x8 => if x8 ≤ x1 then ((api_Weighted_70.f k x0 x7 (wrap64 (x7 + x6)) x8).bind fun t147 => (api_Weighted_56.l2 k t147 x1 x6 x8 (wrap64 (x8 + (wrap64 (2 * x6)))))) else (if (wrap64 (x7 + x6)) < x1 then ((api_Weighted_70.f k x0 x7 (wrap64 (x7 + x6)) x1).bind fun t148 => (api_Weighted_56.l1 k t148 x1 (wrap64 (x6 * 2)))) else (api_Weighted_56.l1 k x0 x1 (wrap64 (x6 * 2))))
end
def api_Weighted_56.f [Ω : Env] (k : Nat) (l0 : List (S44)) (a1 : Int)  : Option ((List (S44))) := api_Weighted_56.l0 k l0 a1 20 0 20
theorem api_Weighted_56.mono_l [Ω : Env] : ∀ k, (∀ y0 y1 y2 y3 y4, LeO (api_Weighted_56.l0 k y0 y1 y2 y3 y4) (api_Weighted_56.l0 (k + 1) y0 y1 y2 y3 y4)) ∧ (∀ y0 y1 y2, LeO (api_Weighted_56.l1 k y0 y1 y2) (api_Weighted_56.l1 (k + 1) y0 y1 y2)) ∧ (∀ y0 y1 y2 y3 y4, LeO (api_Weighted_56.l2 k y0 y1 y2 y3 y4) (api_Weighted_56.l2 (k + 1) y0 y1 y2 y3 y4))
 | 0 => ⟨fun _ _ _ _ _ r h => by simp [api_Weighted_56.l0] at h, fun _ _ _ r h => by simp [api_Weighted_56.l1] at h, fun _ _ _ _ _ r h => by simp [api_Weighted_56.l2] at h⟩
 | k + 1 => by
  obtain ⟨ih0, ih1, ih2⟩ := api_Weighted_56.mono_l k
  refine ⟨?_, ?_, ?_⟩
  ·intro y0 y1 y2 y3 y4
   unfold api_Weighted_56.l0
   repeat' first
   | (with_reducible exact ih0 _ _ _ _ _)
   | (with_reducible exact ih1 _ _ _)
   | (with_reducible exact ih2 _ _ _ _ _)
   | (with_reducible exact api_Weighted_69.mono _ _ _ _)
   | (with_reducible exact api_Weighted_70.mono _ _ _ _ _)
   | (with_reducible exact LeO.refl _)
   | (with_reducible exact LeO.none _)
   | (with_reducible refine LeO.ite ?_ ?_)
   | (with_reducible refine LeO.bind ?_ (fun _ => ?_))
   | exact ih0 _ _ _ _ _
   | exact ih1 _ _ _
   | exact ih2 _ _ _ _ _
   | exact api_Weighted_69.mono _ _ _ _
   | exact api_Weighted_70.mono _ _ _ _ _
   | exact LeO.none _
   | refine LeO.ite ?_ ?_
   | refine LeO.bind ?_ (fun _ => ?_)
  ·intro y0 y1 y2
   unfold api_Weighted_56.l1
   repeat' first
   | (with_reducible exact ih0 _ _ _ _ _)
   | (with_reducible exact ih1 _ _ _)
   | (with_reducible exact ih2 _ _ _ _ _)
   | (with_reducible exact api_Weighted_69.mono _ _ _ _)
   | (with_reducible exact api_Weighted_70.mono _ _ _ _ _)
   | (with_reducible exact LeO.refl _)
   | (with_reducible exact LeO.none _)
   | (with_reducible refine LeO.ite ?_ ?_)
   | (with_reducible refine LeO.bind ?_ (fun _ => ?_))
   | exact ih0 _ _ _ _ _
   | exact ih1 _ _ _
   | exact ih2 _ _ _ _ _
   | exact api_Weighted_69.mono _ _ _ _
   | exact api_Weighted_70.mono _ _ _ _ _
   | exact LeO.none _
   | refine LeO.ite ?_ ?_
   | refine LeO.bind ?_ (fun _ => ?_)
  ·intro y0 y1 y2 y3 y4
   unfold api_Weighted_56.l2
   repeat' first
   | (with_reducible exact ih0 _ _ _ _ _)
   | (with_reducible exact ih1 _ _ _)
   | (with_reducible exact ih2 _ _ _ _ _)
   | (with_reducible exact api_Weighted_69.mono _ _ _ _)
   | (with_reducible exact api_Weighted_70.mono _ _ _ _ _)
   | (with_reducible exact LeO.refl _)
   | (with_reducible exact LeO.none _)
   | (with_reducible refine LeO.ite ?_ ?_)
   | (with_reducible refine LeO.bind ?_ (fun _ => ?_))
   | exact ih0 _ _ _ _ _
   | exact ih1 _ _ _
   | exact ih2 _ _ _ _ _
   | exact api_Weighted_69.mono _ _ _ _
   | exact api_Weighted_70.mono _ _ _ _ _
   | exact LeO.none _
   | refine LeO.ite ?_ ?_
   | refine LeO.bind ?_ (fun _ => ?_)
theorem api_Weighted_56.mono [Ω : Env] : ∀ a0 a1 k, LeO (api_Weighted_56.f k a0 a1) (api_Weighted_56.f (k + 1) a0 a1) := by
 intro a0 a1 k
 obtain ⟨ih0, ih1, ih2⟩ := api_Weighted_56.mono_l k
 unfold api_Weighted_56.f
 repeat' first
   | (with_reducible exact ih0 _ _ _ _ _)
   | (with_reducible exact ih1 _ _ _)
   | (with_reducible exact ih2 _ _ _ _ _)
   | (with_reducible exact api_Weighted_69.mono _ _ _ _)
   | (with_reducible exact api_Weighted_70.mono _ _ _ _ _)
   | (with_reducible exact LeO.refl _)
   | (with_reducible exact LeO.none _)
   | (with_reducible refine LeO.ite ?_ ?_)
   | (with_reducible refine LeO.bind ?_ (fun _ => ?_))
   | exact ih0 _ _ _ _ _
   | exact ih1 _ _ _
   | exact ih2 _ _ _ _ _
   | exact api_Weighted_69.mono _ _ _ _
   | exact api_Weighted_70.mono _ _ _ _ _
   | exact LeO.none _
   | refine LeO.ite ?_ ?_
   | refine LeO.bind ?_ (fun _ => ?_)
set_option maxHeartbeats 8000000 in
set_option maxRecDepth 100000 in
theorem api_Weighted_56.calls [Ω : Env] (k : Nat) (P0_ : Nat → Prop) (u9000_ : Value) (l0 : List (S44)) (a1 : Int)  (r : List (S44)) (w : World) (hB : Below w0.heap.size w0 w) (ho0 : Kd.R k44 44 w w0.heap.size P0_ u9000_ l0) (h : api_Weighted_56.f k l0 a1 = some r) :
  Calls Try.prog 56 #[u9000_, .int .i64 a1, .func (.func 40) #[] #[]] w fun e w' => e = .returned (.tuple #[]) ∧ Kd.R k44 44 w' w0.heap.size (fun k_ => (P0_ k_ ∨ w.heap.size ≤ k_)) u9000_ r ∧ Below w0.heap.size w0 w' ∧ Kept w w' (fun k_ => P0_ k_) := by
 have HO0 := Aside0.mk (show Kd.R k44 44 w w0.heap.size (fun k_ => (P0_ k_ ∨ w.heap.size ≤ k_)) u9000_ l0 from Kd.R_mono ho0 (fun k_ hk => (.inl hk)))
 have HK := Aside0.mk (Kept.refl w (fun k_ => P0_ k_))
 have HW0 := Aside0.mk hB.size
 have HB := Aside0.mk hB
 clear hB
 have H : (api_Weighted_56.l0 k l0 a1 20 0 20) = some r := h
 clear h
 have H' := Aside0.mk H
 clear H
 go_enter Try.func56, Try.ntmps56
 go_wp2
 go_loopg [7, 8] k (fun kq v7 v8 w' => ∃ (x0_1 : List (S44)) (x7_1 : Int) (x8_1 : Int), v7 = .int .i64 x7_1 ∧ v8 = .int .i64 x8_1 ∧ Aside0 (api_Weighted_56.l0 kq x0_1 a1 20 x7_1 x8_1 = some r) ∧ Aside0 (kq ≤ k) ∧ Aside0 (Kd.R k44 44 w' w0.heap.size (fun k_ => (P0_ k_ ∨ w.heap.size ≤ k_)) u9000_ x0_1) ∧ Aside0 (Kept w w' (fun k_ => P0_ k_)) ∧ Aside0 (Below w0.heap.size w0 w'))
 case atStart => exact ⟨(l0), (0), (20), (by first | rfl | (simp; done) | (simp [*]; done)), (by first | rfl | (simp; done) | (simp [*]; done)), H', ⟨Nat.le_refl _⟩, ⟨qr_ HO0.out⟩, ⟨qk_⟩, ⟨qh_⟩⟩
 case round =>
  clear H'
  try clear p2
  obtain ⟨x0_1, x7_1, x8_1, rfl, rfl, HA, HK1, HO_0, HK, HB⟩ := hrel
  cases gk with
  | zero => exact absurd HA.out (by simp [api_Weighted_56.l0])
  | succ k1 =>
   have H := HA.out
   clear HA
   simp only [api_Weighted_56.l0] at H
   by_cases c4 : x8_1 ≤ a1
   ·rw [if_pos c4] at H
    have c4b0 : decide (x8_1 ≤ a1) = true := decide_eq_true c4
    clear c4
    replace H := Option.bind_eq_some_iff.mp H
    obtain ⟨t145, A50, H⟩ := H
    replace H : (api_Weighted_56.l0 k1 t145 a1 20 x8_1 (wrap64 (x8_1 + 20))) = some r := H
    have A5 := Aside0.mk A50
    clear A50
    have H' := Aside0.mk H
    clear H
    obtain ⟨Ao6, co6, eo6⟩ := Kd.R_slice HO_0.out
    subst eo6
    go_wp2_with (first | ((with_reducible refine gate_callee (f := 69) rfl ?_); refine goesL_ (some 18) rfl rfl Try.func69 (by kernel_rfl) rfl #[.slice Ao6 x0_1.length co6, .int .i64 x7_1, .int .i64 x8_1, .func (.func 40) #[] #[]] rfl (by (try simp only [List.map_toArray, List.map_cons, List.map_nil]); first | done | rfl | (simp only [List.length_drop, List.length_take]; rfl)) ?_; (with_reducible refine (api_Weighted_69.calls k1 (fun k_ => some k_ = (.slice Ao6 x0_1.length co6 : Value).ownBlock) (.slice Ao6 x0_1.length co6) x0_1 x7_1 x8_1  t145 _ ?side1 ?side2 A5.out).mono ?_); (case side1 => repeat (first | (with_reducible first | exact HB.out | apply below_alloc | apply pw_below_drewN | apply below_drew1) | exact HB.out)); (case side2 => exact Kd.R_tight rfl HO_0.out); rintro e w7 ⟨rfl, hy0, hb, hkp⟩; refine ⟨_, rfl, ?_⟩; have n0_ := Aside0.mk (Kd.R_reok rfl hy0 (fun k_ e_ => HO_0.out.1 k_ e_)); have n1_ := Aside0.mk (Kept.then_ (S := (fun k_ => P0_ k_)) qk_ hkp (fun k_ hs_ => (fun e_ => (HO_0.out.1 k_ e_.symm)) hs_)); have n2_ := Aside0.mk (hb); clear HO_0; clear HK; clear HB; have HO_0 := n0_; have HK := n1_; have HB := n2_; clear n0_ n1_ n2_; (try clear hb); (try clear hkp); (try clear hy0)))
    go_roundg k1
    case measure => have := HK1.out; omega
    case rel => exact ⟨(t145), (x8_1), (wrap64 (x8_1 + 20)), (by first | rfl | (simp; done) | (simp [*]; done)), (by first | rfl | (simp; done) | (simp [*]; done)), H', ⟨by have := HK1.out; omega⟩, ⟨qr_ HO_0.out⟩, ⟨qk_⟩, ⟨qh_⟩⟩
   ·rw [if_neg c4] at H
    have c4b0 : decide (x8_1 ≤ a1) = false := decide_eq_false c4
    clear c4
    replace H := Option.bind_eq_some_iff.mp H
    obtain ⟨t146, A80, H⟩ := H
    replace H : (api_Weighted_56.l1 k1 t146 a1 20) = some r := H
    have A8 := Aside0.mk A80
    clear A80
    have H' := Aside0.mk H
    clear H
    obtain ⟨Ao9, co9, eo9⟩ := Kd.R_slice HO_0.out
    subst eo9
    go_wp2_with (first | ((with_reducible refine gate_callee (f := 69) rfl ?_); refine goesL_ (some 27) rfl rfl Try.func69 (by kernel_rfl) rfl #[.slice Ao9 x0_1.length co9, .int .i64 x7_1, .int .i64 a1, .func (.func 40) #[] #[]] rfl (by (try simp only [List.map_toArray, List.map_cons, List.map_nil]); first | done | rfl | (simp only [List.length_drop, List.length_take]; rfl)) ?_; (with_reducible refine (api_Weighted_69.calls k1 (fun k_ => some k_ = (.slice Ao9 x0_1.length co9 : Value).ownBlock) (.slice Ao9 x0_1.length co9) x0_1 x7_1 a1  t146 _ ?side1 ?side2 A8.out).mono ?_); (case side1 => repeat (first | (with_reducible first | exact HB.out | apply below_alloc | apply pw_below_drewN | apply below_drew1) | exact HB.out)); (case side2 => exact Kd.R_tight rfl HO_0.out); rintro e w10 ⟨rfl, hy0, hb, hkp⟩; refine ⟨_, rfl, ?_⟩; have n0_ := Aside0.mk (Kd.R_reok rfl hy0 (fun k_ e_ => HO_0.out.1 k_ e_)); have n1_ := Aside0.mk (Kept.then_ (S := (fun k_ => P0_ k_)) qk_ hkp (fun k_ hs_ => (fun e_ => (HO_0.out.1 k_ e_.symm)) hs_)); have n2_ := Aside0.mk (hb); clear HO_0; clear HK; clear HB; have HO_0 := n0_; have HK := n1_; have HB := n2_; clear n0_ n1_ n2_; (try clear hb); (try clear hkp); (try clear hy0)))
    (try simp only [Act.put, List.setIfInBounds_toArray, List.set_cons_zero, List.set_cons_succ])
    go_loopg [6] k1 (fun kq v6 w' => ∃ (x0_2 : List (S44)) (x6_2 : Int), v6 = .int .i64 x6_2 ∧ Aside0 (api_Weighted_56.l1 kq x0_2 a1 x6_2 = some r) ∧ Aside0 (kq ≤ k1) ∧ Aside0 (Kd.R k44 44 w' w0.heap.size (fun k_ => (P0_ k_ ∨ w.heap.size ≤ k_)) (.slice Ao9 x0_1.length co9) x0_2) ∧ Aside0 (Kept w w' (fun k_ => P0_ k_)) ∧ Aside0 (Below w0.heap.size w0 w'))
    case atStart => exact ⟨(t146), (20), (by first | rfl | (simp; done) | (simp [*]; done)), H', ⟨Nat.le_refl _⟩, ⟨qr_ HO_0.out⟩, ⟨qk_⟩, ⟨qh_⟩⟩
    case round =>
     clear H'
     try clear p2
     try clear c4
     try clear c4b0
     try clear c5
     try clear c6
     try clear p6
     try clear p2
     obtain ⟨x0_2, x6_2, rfl, HA, HK2, HO_0, HK, HB⟩ := hrel
     have hl0_2 := (Kd.R_reads' HO_0.out).1
     rw [hl0_2] at HO_0
     (try simp only [hl0_2])
     cases gk with
     | zero => exact absurd HA.out (by simp [api_Weighted_56.l1])
     | succ k2 =>
      have H := HA.out
      clear HA
      simp only [api_Weighted_56.l1] at H
      by_cases c11 : x6_2 < a1
      ·rw [if_pos c11] at H
       have c11b0 : decide (x6_2 < a1) = true := decide_eq_true c11
       clear c11
       have H' := Aside0.mk H
       clear H
       go_wp2
       go_loopg [7, 8] k2 (fun kq v7 v8 w' => ∃ (x0_3 : List (S44)) (x7_3 : Int) (x8_3 : Int), v7 = .int .i64 x7_3 ∧ v8 = .int .i64 x8_3 ∧ Aside0 (api_Weighted_56.l2 kq x0_3 a1 x6_2 x7_3 x8_3 = some r) ∧ Aside0 (kq ≤ k2) ∧ Aside0 (Kd.R k44 44 w' w0.heap.size (fun k_ => (P0_ k_ ∨ w.heap.size ≤ k_)) (.slice Ao9 x0_2.length co9) x0_3) ∧ Aside0 (Kept w w' (fun k_ => P0_ k_)) ∧ Aside0 (Below w0.heap.size w0 w'))
       case atStart => exact ⟨(x0_2), (0), (wrap64 (2 * x6_2)), (by first | rfl | (simp; done) | (simp [*]; done)), (by first | rfl | (simp; done) | (simp [*]; done)), H', ⟨Nat.le_refl _⟩, ⟨by (try simp only [hl0_2]); (with_reducible repeat (first | apply Kd.R_alloc | apply Kd.R_drewN | apply Kd.R_drew)); exact HO_0.out⟩, ⟨qk_⟩, ⟨qh_⟩⟩
       case round =>
        clear H'
        try clear c1
        try clear p2
        try clear c4
        try clear c4b0
        try clear c5
        try clear c6
        try clear p6
        try clear c11
        try clear c11b0
        try clear p2
        try clear p6
        obtain ⟨x0_3, x7_3, x8_3, rfl, rfl, HA, HK3, HO_0, HK, HB⟩ := hrel
        have hl0_3 := (Kd.R_reads' HO_0.out).1
        rw [hl0_3] at HO_0
        (try simp only [hl0_3])
        cases gk with
        | zero => exact absurd HA.out (by simp [api_Weighted_56.l2])
        | succ k3 =>
         have H := HA.out
         clear HA
         simp only [api_Weighted_56.l2] at H
         by_cases c12 : x8_3 ≤ a1
         ·rw [if_pos c12] at H
          have c12b0 : decide (x8_3 ≤ a1) = true := decide_eq_true c12
          clear c12
          replace H := Option.bind_eq_some_iff.mp H
          obtain ⟨t147, A130, H⟩ := H
          replace H : (api_Weighted_56.l2 k3 t147 a1 x6_2 x8_3 (wrap64 (x8_3 + (wrap64 (2 * x6_2))))) = some r := H
          have A13 := Aside0.mk A130
          clear A130
          have H' := Aside0.mk H
          clear H
          go_wp2_with (first | ((with_reducible refine gate_callee (f := 70) rfl ?_); refine goesL_ (some 43) rfl rfl Try.func70 (by kernel_rfl) rfl #[.slice Ao9 x0_3.length co9, .int .i64 x7_3, .int .i64 (wrap64 (x7_3 + x6_2)), .int .i64 x8_3, .func (.func 40) #[] #[]] rfl (by (try simp only [List.map_toArray, List.map_cons, List.map_nil]); first | done | rfl | (simp only [List.length_drop, List.length_take]; rfl)) ?_; (with_reducible refine (api_Weighted_70.calls k3 (fun k_ => some k_ = (.slice Ao9 x0_3.length co9 : Value).ownBlock) (.slice Ao9 x0_3.length co9) x0_3 x7_3 (wrap64 (x7_3 + x6_2)) x8_3  t147 _ ?side1 ?side2 A13.out).mono ?_); (case side1 => repeat (first | (with_reducible first | exact HB.out | apply below_alloc | apply pw_below_drewN | apply below_drew1) | exact HB.out)); (case side2 => exact Kd.R_tight rfl HO_0.out); rintro e w14 ⟨rfl, hy0, hb, hkp⟩; refine ⟨_, rfl, ?_⟩; have n0_ := Aside0.mk (Kd.R_reok rfl hy0 (fun k_ e_ => HO_0.out.1 k_ e_)); have n1_ := Aside0.mk (Kept.then_ (S := (fun k_ => P0_ k_)) qk_ hkp (fun k_ hs_ => (fun e_ => (HO_0.out.1 k_ e_.symm)) hs_)); have n2_ := Aside0.mk (hb); clear HO_0; clear HK; clear HB; have HO_0 := n0_; have HK := n1_; have HB := n2_; clear n0_ n1_ n2_; (try clear hb); (try clear hkp); (try clear hy0)))
          (try simp only [← hl0_3])
          go_roundg k3
          case measure => have := HK1.out; have := HK2.out; have := HK3.out; omega
          case rel => exact ⟨(t147), (x8_3), (wrap64 (x8_3 + (wrap64 (2 * x6_2)))), (by first | rfl | (simp; done) | (simp [*]; done)), (by first | rfl | (simp; done) | (simp [*]; done)), H', ⟨by have := HK1.out; have := HK2.out; have := HK3.out; omega⟩, ⟨by (try simp only [hl0_2]); (try simp only [hl0_3]); (with_reducible repeat (first | apply Kd.R_alloc | apply Kd.R_drewN | apply Kd.R_drew)); exact HO_0.out⟩, ⟨qk_⟩, ⟨qh_⟩⟩
         ·rw [if_neg c12] at H
          have c12b0 : decide (x8_3 ≤ a1) = false := decide_eq_false c12
          clear c12
          by_cases c15 : (wrap64 (x7_3 + x6_2)) < a1
          ·rw [if_pos c15] at H
           have c15b0 : decide ((wrap64 (x7_3 + x6_2)) < a1) = true := decide_eq_true c15
           clear c15
           replace H := Option.bind_eq_some_iff.mp H
           obtain ⟨t148, A160, H⟩ := H
           replace H : (api_Weighted_56.l1 k3 t148 a1 (wrap64 (x6_2 * 2))) = some r := H
           have A16 := Aside0.mk A160
           clear A160
           have H' := Aside0.mk H
           clear H
           go_wp2_with (first | ((with_reducible refine gate_callee (f := 70) rfl ?_); refine goesL_ (some 60) rfl rfl Try.func70 (by kernel_rfl) rfl #[.slice Ao9 x0_3.length co9, .int .i64 x7_3, .int .i64 (wrap64 (x7_3 + x6_2)), .int .i64 a1, .func (.func 40) #[] #[]] rfl (by (try simp only [List.map_toArray, List.map_cons, List.map_nil]); first | done | rfl | (simp only [List.length_drop, List.length_take]; rfl)) ?_; (with_reducible refine (api_Weighted_70.calls k3 (fun k_ => some k_ = (.slice Ao9 x0_3.length co9 : Value).ownBlock) (.slice Ao9 x0_3.length co9) x0_3 x7_3 (wrap64 (x7_3 + x6_2)) a1  t148 _ ?side1 ?side2 A16.out).mono ?_); (case side1 => repeat (first | (with_reducible first | exact HB.out | apply below_alloc | apply pw_below_drewN | apply below_drew1) | exact HB.out)); (case side2 => exact Kd.R_tight rfl HO_0.out); rintro e w17 ⟨rfl, hy0, hb, hkp⟩; refine ⟨_, rfl, ?_⟩; have n0_ := Aside0.mk (Kd.R_reok rfl hy0 (fun k_ e_ => HO_0.out.1 k_ e_)); have n1_ := Aside0.mk (Kept.then_ (S := (fun k_ => P0_ k_)) qk_ hkp (fun k_ hs_ => (fun e_ => (HO_0.out.1 k_ e_.symm)) hs_)); have n2_ := Aside0.mk (hb); clear HO_0; clear HK; clear HB; have HO_0 := n0_; have HK := n1_; have HB := n2_; clear n0_ n1_ n2_; (try clear hb); (try clear hkp); (try clear hy0)))
           (try simp only [← hl0_2, ← hl0_3])
           go_roundg k3
           case measure => have := HK1.out; have := HK2.out; have := HK3.out; omega
           case rel => exact ⟨(t148), (wrap64 (x6_2 * 2)), (by first | rfl | (simp; done) | (simp [*]; done)), H', ⟨by have := HK1.out; have := HK2.out; have := HK3.out; omega⟩, ⟨by (try simp only [hl0_2]); (try simp only [hl0_3]); (with_reducible repeat (first | apply Kd.R_alloc | apply Kd.R_drewN | apply Kd.R_drew)); exact HO_0.out⟩, ⟨qk_⟩, ⟨qh_⟩⟩
          ·rw [if_neg c15] at H
           have c15b0 : decide ((wrap64 (x7_3 + x6_2)) < a1) = false := decide_eq_false c15
           clear c15
           have H' := Aside0.mk H
           clear H
           go_wp2
           (try simp only [← hl0_2, ← hl0_3])
           go_roundg k3
           case measure => have := HK1.out; have := HK2.out; have := HK3.out; omega
           case rel => exact ⟨(x0_3), (wrap64 (x6_2 * 2)), (by first | rfl | (simp; done) | (simp [*]; done)), H', ⟨by have := HK1.out; have := HK2.out; have := HK3.out; omega⟩, ⟨by (try simp only [hl0_2]); (try simp only [hl0_3]); (with_reducible repeat (first | apply Kd.R_alloc | apply Kd.R_drewN | apply Kd.R_drew)); exact HO_0.out⟩, ⟨qk_⟩, ⟨qh_⟩⟩
      ·rw [if_neg c11] at H
       have c11b0 : decide (x6_2 < a1) = false := decide_eq_false c11
       clear c11
       obtain rfl := Option.some.inj H
       go_wp2
       first | go_end0 | ((try simp only [Exit.inBlock, Exit.then]); refine bodyPost_ret (results_none rfl _ _ _) rfl ?_)
       exact ⟨by first | rfl | (simp [errW_none, errW_some] <;> rfl) | (simp [*, errW_none, errW_some] <;> rfl), (by first | exact (qr_ HO_0.out) | (simp only [hl0_2]; exact (qr_ HO_0.out))), by repeat (first | (with_reducible first | exact HB.out | apply below_alloc | apply pw_below_drewN | apply below_drew1) | exact HB.out), qk_⟩
def api_Weighted_39.f [Ω : Env] (k : Nat) (l0 : List (S44))  : Option ((List (S44))) := (api_Weighted_56.f k l0 (l0.length : Int)).bind fun t149 => (some t149)
theorem api_Weighted_39.mono [Ω : Env] : ∀ a0 k, LeO (api_Weighted_39.f k a0) (api_Weighted_39.f (k + 1) a0) := by
 intro a0 k
 unfold api_Weighted_39.f
 repeat' first
   | (with_reducible exact api_Weighted_56.mono _ _ _)
   | (with_reducible exact LeO.refl _)
   | (with_reducible exact LeO.none _)
   | (with_reducible refine LeO.ite ?_ ?_)
   | (with_reducible refine LeO.bind ?_ (fun _ => ?_))
   | exact api_Weighted_56.mono _ _ _
   | exact LeO.none _
   | refine LeO.ite ?_ ?_
   | refine LeO.bind ?_ (fun _ => ?_)
set_option maxHeartbeats 8000000 in
set_option maxRecDepth 100000 in
theorem api_Weighted_39.calls [Ω : Env] (k : Nat) (P0_ : Nat → Prop) (u9000_ : Value) (l0 : List (S44))  (r : List (S44)) (w : World) (hB : Below w0.heap.size w0 w) (ho0 : Kd.R k44 44 w w0.heap.size P0_ u9000_ l0) (h : api_Weighted_39.f k l0 = some r) :
  Calls Try.prog 39 #[u9000_, .func (.func 40) #[] #[]] w fun e w' => e = .returned (.tuple #[]) ∧ Kd.R k44 44 w' w0.heap.size (fun k_ => (P0_ k_ ∨ w.heap.size ≤ k_)) u9000_ r ∧ Below w0.heap.size w0 w' ∧ Kept w w' (fun k_ => P0_ k_) := by
 have HO0 := Aside0.mk (show Kd.R k44 44 w w0.heap.size (fun k_ => (P0_ k_ ∨ w.heap.size ≤ k_)) u9000_ l0 from Kd.R_mono ho0 (fun k_ hk => (.inl hk)))
 have HK := Aside0.mk (Kept.refl w (fun k_ => P0_ k_))
 have HW0 := Aside0.mk hB.size
 have HB := Aside0.mk hB
 clear hB
 have H : ((api_Weighted_56.f k l0 (l0.length : Int)).bind fun t149 => (some t149)) = some r := h
 clear h
 replace H := Option.bind_eq_some_iff.mp H
 obtain ⟨t149, A30, H⟩ := H
 replace H : (some t149) = some r := H
 have A3 := Aside0.mk A30
 clear A30
 obtain rfl := Option.some.inj H
 obtain ⟨Ao4, co4, eo4⟩ := Kd.R_slice HO0.out
 subst eo4
 go_enter Try.func39, Try.ntmps39
 go_wp2_with (first | ((with_reducible refine gate_callee (f := 56) rfl ?_); refine goesL_ (some 8) rfl rfl Try.func56 (by kernel_rfl) rfl #[.slice Ao4 l0.length co4, .int .i64 (l0.length : Int), .func (.func 40) #[] #[]] rfl (by (try simp only [List.map_toArray, List.map_cons, List.map_nil]); first | done | rfl | (simp only [List.length_drop, List.length_take]; rfl)) ?_; (with_reducible refine (api_Weighted_56.calls k (fun k_ => some k_ = (.slice Ao4 l0.length co4 : Value).ownBlock) (.slice Ao4 l0.length co4) l0 (l0.length : Int)  t149 _ ?side1 ?side2 A3.out).mono ?_); (case side1 => repeat (first | (with_reducible first | exact HB.out | apply below_alloc | apply pw_below_drewN | apply below_drew1) | exact HB.out)); (case side2 => exact Kd.R_tight rfl HO0.out); rintro e w5 ⟨rfl, hy0, hb, hkp⟩; refine ⟨_, rfl, ?_⟩; have n0_ := Aside0.mk (Kd.R_reok rfl hy0 (fun k_ e_ => HO0.out.1 k_ e_)); have n1_ := Aside0.mk (Kept.then_ (S := (fun k_ => P0_ k_)) qk_ hkp (fun k_ hs_ => (fun e_ => (HO0.out.1 k_ e_.symm)) hs_)); have n2_ := Aside0.mk (hb); clear HO0; clear HK; clear HB; have HO0 := n0_; have HK := n1_; have HB := n2_; clear n0_ n1_ n2_; (try clear hb); (try clear hkp); (try clear hy0)))
 first | go_end0 | ((try simp only [Exit.inBlock, Exit.then]); refine bodyPost_ret (results_none rfl _ _ _) rfl ?_)
 exact ⟨by first | rfl | (simp [errW_none, errW_some] <;> rfl) | (simp [*, errW_none, errW_some] <;> rfl), by (with_reducible repeat (first | apply Kd.R_alloc | apply Kd.R_drewN | apply Kd.R_drew)); exact HO0.out, by repeat (first | (with_reducible first | exact HB.out | apply below_alloc | apply pw_below_drewN | apply below_drew1) | exact HB.out), qk_⟩
def api_Weighted_57.l0 [Ω : Env] : Nat → List (S44) → Int → Int → Option (Int)
 | 0, _, _, _ => none
 | k + 1, x0, x7, x8 => if x8 < x7 then (if 0 ≤ x8 then (if x8 < (x0.length : Int) then ((zset_sum_2.f ((rd_T44 x0 x8).f0) ((rd_T44 x0 x8).f1)).bind fun t151 => (if t151 = true then (some x8) else (api_Weighted_57.l0 k x0 x7 (wrap64 (x8 + 1))))) else (none)) else (none)) else (some (-1))
def api_Weighted_57.f [Ω : Env] (k : Nat) (l0 : List (S44))  : Option (Int) := api_Weighted_57.l0 k l0 (l0.length : Int) 0
theorem api_Weighted_57.mono_l [Ω : Env] : ∀ k, (∀ y0 y1 y2, LeO (api_Weighted_57.l0 k y0 y1 y2) (api_Weighted_57.l0 (k + 1) y0 y1 y2))
 | 0 => fun _ _ _ r h => by simp [api_Weighted_57.l0] at h
 | k + 1 => by
  have ih0 := api_Weighted_57.mono_l k
  ·intro y0 y1 y2
   unfold api_Weighted_57.l0
   repeat' first
   | (with_reducible exact ih0 _ _ _)
   | (with_reducible exact LeO.refl _)
   | (with_reducible exact LeO.none _)
   | (with_reducible refine LeO.ite ?_ ?_)
   | (with_reducible refine LeO.bind ?_ (fun _ => ?_))
   | exact ih0 _ _ _
   | exact LeO.none _
   | refine LeO.ite ?_ ?_
   | refine LeO.bind ?_ (fun _ => ?_)
theorem api_Weighted_57.mono [Ω : Env] : ∀ a0 k, LeO (api_Weighted_57.f k a0) (api_Weighted_57.f (k + 1) a0) := by
 intro a0 k
 have ih0 := api_Weighted_57.mono_l k
 unfold api_Weighted_57.f
 repeat' first
   | (with_reducible exact ih0 _ _ _)
   | (with_reducible exact LeO.refl _)
   | (with_reducible exact LeO.none _)
   | (with_reducible refine LeO.ite ?_ ?_)
   | (with_reducible refine LeO.bind ?_ (fun _ => ?_))
   | exact ih0 _ _ _
   | exact LeO.none _
   | refine LeO.ite ?_ ?_
   | refine LeO.bind ?_ (fun _ => ?_)
set_option maxHeartbeats 8000000 in
set_option maxRecDepth 100000 in
theorem api_Weighted_57.calls [Ω : Env] (k : Nat) (A0 : Option Addr) (c0 : Nat) (l0 : List (S44))  (r : Int) (w : World) (hr0 : Kd.C k44 w A0 l0.length l0) (hc0 : l0.length ≤ c0) (h : api_Weighted_57.f k l0 = some r) :
  Calls Try.prog 57 #[.slice A0 l0.length c0, .func (.func 43) #[] #[]] w fun e w' => e = .returned (.int .i64 r) ∧ Below w.heap.size w w' := by
 have hu44 := Try.underlying44
 have HR0 := Aside0.mk hr0
 have HC0 := Aside0.mk hc0
 clear hr0 hc0
 have HB := Aside0.mk (Below.refl w.heap.size w)
 have H : (api_Weighted_57.l0 k l0 (l0.length : Int) 0) = some r := h
 clear h
 have H' := Aside0.mk H
 clear H
 go_enter Try.func57, Try.ntmps57
 go_wp2
 go_loopg [8] k (fun kq v8 w' => ∃ (x8_1 : Int), v8 = .int .i64 x8_1 ∧ Aside0 (api_Weighted_57.l0 kq l0 (l0.length : Int) x8_1 = some r) ∧ Aside0 (kq ≤ k) ∧ Aside0 (Below w.heap.size w w'))
 case atStart => exact ⟨(0), (by first | rfl | (simp; done) | (simp [*]; done)), H', ⟨Nat.le_refl _⟩, ⟨qh_⟩⟩
 case round =>
  clear H'
  try clear p2
  obtain ⟨x8_1, rfl, HA, HK1, HB⟩ := hrel
  cases gk with
  | zero => exact absurd HA.out (by simp [api_Weighted_57.l0])
  | succ k1 =>
   have H := HA.out
   clear HA
   simp only [api_Weighted_57.l0] at H
   by_cases c3 : x8_1 < (l0.length : Int)
   ·rw [if_pos c3] at H
    have c3b0 : decide (x8_1 < (l0.length : Int)) = true := decide_eq_true c3
    clear c3
    by_cases c4 : 0 ≤ x8_1
    ·rw [if_pos c4] at H
     have c4b0 : decide (0 ≤ x8_1) = true := decide_eq_true c4
     clear c4
     by_cases c5 : x8_1 < (l0.length : Int)
     ·rw [if_pos c5] at H
      have c5b0 : decide (x8_1 < (l0.length : Int)) = true := decide_eq_true c5
      clear c5
      replace H := Option.bind_eq_some_iff.mp H
      obtain ⟨t151, A60, H⟩ := H
      replace H : (if t151 = true then (some x8_1) else (api_Weighted_57.l0 k1 l0 (l0.length : Int) (wrap64 (x8_1 + 1)))) = some r := H
      have A6 := Aside0.mk A60
      clear A60
      by_cases c7 : t151 = true
      ·subst c7
       have H1 : (some x8_1) = some r := by rw [if_pos rfl] at H; exact H
       clear H
       have H := H1
       clear H1
       obtain rfl := Option.some.inj H
       have p150 : 0 ≤ (x8_1 : Int) := of_decide_eq_true (by first | (with_reducible assumption) | assumption)
       have q150 : x8_1 < (l0.length : Int) := of_decide_eq_true (by first | (with_reducible assumption) | assumption)
       obtain ⟨ad150, e150, hx150_0, hx150_1⟩ := at_T44 HR0.out x8_1 p150 q150
       cases e150
       replace hx150_0 := (HB.out.cell (World.block_lt_of_cell? w _ hx150_0)).trans hx150_0
       replace hx150_1 := (HB.out.cell (World.block_lt_of_cell? w _ hx150_1)).trans hx150_1
       replace p150 := eq_true p150
       replace q150 := eq_true q150
       go_wp2_with (first | ((refine gateT_ (f := 43) rfl (by first | rfl | (simp [Act.eval]; done)) ?_); refine goesTL_ (some 16) rfl rfl Try.func43 (by kernel_rfl) rfl #[.agg #[.slice ((rd_T44 l0 x8_1).f0).A ((rd_T44 l0 x8_1).f0).n ((rd_T44 l0 x8_1).f0).c, .int .i64 ((rd_T44 l0 x8_1).f1)]] rfl (by (try simp only [List.map_toArray, List.map_cons, List.map_nil]); first | done | rfl | (simp only [List.length_drop, List.length_take]; rfl)) ?_; (with_reducible refine (zset_sum_2.calls ((rd_T44 l0 x8_1).f0) ((rd_T44 l0 x8_1).f1) true _ A6.out).mono ?_); rintro e w8 ⟨rfl, hb⟩; refine ⟨_, rfl, ?_⟩; have n0_ := Aside0.mk (below_step qh_ hb); clear HB; have HB := n0_; clear n0_; (try clear hb); (try clear hb2); (try clear hk); (try clear hi)))
       go_ret
       exact ⟨by first | rfl | (simp [errW_none, errW_some] <;> rfl) | (simp [*, errW_none, errW_some] <;> rfl), qh_⟩
      ·replace c7 := Bool.eq_false_iff.mpr c7
       subst c7
       have H1 : (api_Weighted_57.l0 k1 l0 (l0.length : Int) (wrap64 (x8_1 + 1))) = some r := by rw [if_neg (show ¬ (false = true) by decide)] at H; exact H
       clear H
       have H := H1
       clear H1
       have H' := Aside0.mk H
       clear H
       have p150 : 0 ≤ (x8_1 : Int) := of_decide_eq_true (by first | (with_reducible assumption) | assumption)
       have q150 : x8_1 < (l0.length : Int) := of_decide_eq_true (by first | (with_reducible assumption) | assumption)
       obtain ⟨ad150, e150, hx150_0, hx150_1⟩ := at_T44 HR0.out x8_1 p150 q150
       cases e150
       replace hx150_0 := (HB.out.cell (World.block_lt_of_cell? w _ hx150_0)).trans hx150_0
       replace hx150_1 := (HB.out.cell (World.block_lt_of_cell? w _ hx150_1)).trans hx150_1
       replace p150 := eq_true p150
       replace q150 := eq_true q150
       go_wp2_with (first | ((refine gateT_ (f := 43) rfl (by first | rfl | (simp [Act.eval]; done)) ?_); refine goesTL_ (some 16) rfl rfl Try.func43 (by kernel_rfl) rfl #[.agg #[.slice ((rd_T44 l0 x8_1).f0).A ((rd_T44 l0 x8_1).f0).n ((rd_T44 l0 x8_1).f0).c, .int .i64 ((rd_T44 l0 x8_1).f1)]] rfl (by (try simp only [List.map_toArray, List.map_cons, List.map_nil]); first | done | rfl | (simp only [List.length_drop, List.length_take]; rfl)) ?_; (with_reducible refine (zset_sum_2.calls ((rd_T44 l0 x8_1).f0) ((rd_T44 l0 x8_1).f1) false _ A6.out).mono ?_); rintro e w9 ⟨rfl, hb⟩; refine ⟨_, rfl, ?_⟩; have n0_ := Aside0.mk (below_step qh_ hb); clear HB; have HB := n0_; clear n0_; (try clear hb); (try clear hb2); (try clear hk); (try clear hi)))
       go_roundg k1
       case measure => have := HK1.out; omega
       case rel => exact ⟨(wrap64 (x8_1 + 1)), (by first | rfl | (simp; done) | (simp [*]; done)), H', ⟨by have := HK1.out; omega⟩, ⟨qh_⟩⟩
     ·rw [if_neg c5] at H
      exact absurd H (by simp)
    ·rw [if_neg c4] at H
     exact absurd H (by simp)
   ·rw [if_neg c3] at H
    have c3b0 : decide (x8_1 < (l0.length : Int)) = false := decide_eq_false c3
    clear c3
    obtain rfl := Option.some.inj H
    go_wp2
    go_ret
    exact ⟨by first | rfl | (simp [errW_none, errW_some] <;> rfl) | (simp [*, errW_none, errW_some] <;> rfl), qh_⟩
def api_Weighted_42.l0 [Ω : Env] : Nat → List (S44) → Int → Int → Option ((List (S44)))
 | 0, _, _, _ => none
 | k + 1, x0, x5, x6 => if x6 < (x0.length : Int) then (if 0 ≤ x6 then ((zset_sum_2.f ((rd_T44 x0 x6).f0) ((rd_T44 x0 x6).f1)).bind fun t155 => (if t155 = true then (api_Weighted_42.l0 k x0 x5 (wrap64 (x6 + 1))) else (if 0 ≤ x5 then (if x5 < (x0.length : Int) then (api_Weighted_42.l0 k (x0.set (x5 : Int).toNat (⟨(rd_T44 x0 x6).f0, (rd_T44 x0 x6).f1⟩ : S44)) (wrap64 (x5 + 1)) (wrap64 (x6 + 1))) else (none)) else (none)))) else (none)) else (if 0 ≤ x5 then (if x5 ≤ (x0.length : Int) then (some (x0.take (x5 : Int).toNat)) else (none)) else (none))
def api_Weighted_42.f [Ω : Env] (k : Nat) (l0 : List (S44))  : Option ((List (S44))) := (api_Weighted_57.f k l0).bind fun t152 => (if t152 = (-1) then (some l0) else (api_Weighted_42.l0 k l0 t152 (wrap64 (t152 + 1))))
theorem api_Weighted_42.mono_l [Ω : Env] : ∀ k, (∀ y0 y1 y2, LeO (api_Weighted_42.l0 k y0 y1 y2) (api_Weighted_42.l0 (k + 1) y0 y1 y2))
 | 0 => fun _ _ _ r h => by simp [api_Weighted_42.l0] at h
 | k + 1 => by
  have ih0 := api_Weighted_42.mono_l k
  ·intro y0 y1 y2
   unfold api_Weighted_42.l0
   repeat' first
   | (with_reducible exact ih0 _ _ _)
   | (with_reducible exact api_Weighted_57.mono _ _)
   | (with_reducible exact LeO.refl _)
   | (with_reducible exact LeO.none _)
   | (with_reducible refine LeO.ite ?_ ?_)
   | (with_reducible refine LeO.bind ?_ (fun _ => ?_))
   | exact ih0 _ _ _
   | exact api_Weighted_57.mono _ _
   | exact LeO.none _
   | refine LeO.ite ?_ ?_
   | refine LeO.bind ?_ (fun _ => ?_)
theorem api_Weighted_42.mono [Ω : Env] : ∀ a0 k, LeO (api_Weighted_42.f k a0) (api_Weighted_42.f (k + 1) a0) := by
 intro a0 k
 have ih0 := api_Weighted_42.mono_l k
 unfold api_Weighted_42.f
 repeat' first
   | (with_reducible exact ih0 _ _ _)
   | (with_reducible exact api_Weighted_57.mono _ _)
   | (with_reducible exact LeO.refl _)
   | (with_reducible exact LeO.none _)
   | (with_reducible refine LeO.ite ?_ ?_)
   | (with_reducible refine LeO.bind ?_ (fun _ => ?_))
   | exact ih0 _ _ _
   | exact api_Weighted_57.mono _ _
   | exact LeO.none _
   | refine LeO.ite ?_ ?_
   | refine LeO.bind ?_ (fun _ => ?_)
set_option maxHeartbeats 8000000 in
set_option maxRecDepth 100000 in
theorem api_Weighted_42.calls [Ω : Env] (k : Nat) (P0_ : Nat → Prop) (u9000_ : Value) (l0 : List (S44))  (r : List (S44)) (w : World) (hB : Below w0.heap.size w0 w) (ho0 : Kd.R k44 44 w w0.heap.size P0_ u9000_ l0) (h : api_Weighted_42.f k l0 = some r) :
  Calls Try.prog 42 #[u9000_, .func (.func 43) #[] #[]] w fun e w' => ∃ v0_ : Value, e = .returned (v0_) ∧ Kd.R k44 44 w' w0.heap.size (fun k_ => (P0_ k_ ∨ w.heap.size ≤ k_)) v0_ r ∧ Below w0.heap.size w0 w' ∧ Kept w w' (fun k_ => P0_ k_) := by
 have hu44 := Try.underlying44
 have HO0 := Aside0.mk (show Kd.R k44 44 w w0.heap.size (fun k_ => (P0_ k_ ∨ w.heap.size ≤ k_)) u9000_ l0 from Kd.R_mono ho0 (fun k_ hk => (.inl hk)))
 have HK := Aside0.mk (Kept.refl w (fun k_ => P0_ k_))
 have HW0 := Aside0.mk hB.size
 have HB := Aside0.mk hB
 clear hB
 have H : ((api_Weighted_57.f k l0).bind fun t152 => (if t152 = (-1) then (some l0) else (api_Weighted_42.l0 k l0 t152 (wrap64 (t152 + 1))))) = some r := h
 clear h
 replace H := Option.bind_eq_some_iff.mp H
 obtain ⟨t152, A30, H⟩ := H
 replace H : (if t152 = (-1) then (some l0) else (api_Weighted_42.l0 k l0 t152 (wrap64 (t152 + 1)))) = some r := H
 have A3 := Aside0.mk A30
 clear A30
 by_cases c4 : t152 = (-1)
 ·rw [if_pos c4] at H
  have c4b0 : (t152 == (-1)) = true := beq_iff_eq.mpr c4
  have c4b1 : (t152 != (-1)) = false := bne_eq_false_iff_eq.mpr c4
  clear c4
  obtain rfl := Option.some.inj H
  obtain ⟨Ao5, co5, eo5⟩ := Kd.R_slice HO0.out
  subst eo5
  go_enter Try.func42, Try.ntmps42
  go_wp2_with (first | ((with_reducible refine gate_callee (f := 57) rfl ?_); refine goesL_ (some 10) rfl rfl Try.func57 (by kernel_rfl) rfl #[.slice Ao5 l0.length co5, .func (.func 43) #[] #[]] rfl (by (try simp only [List.map_toArray, List.map_cons, List.map_nil]); first | done | rfl | (simp only [List.length_drop, List.length_take]; rfl)) ?_; (with_reducible refine (api_Weighted_57.calls k _ _ l0  t152 _ ?side1 ?side2 A3.out).mono ?_); (case side1 => repeat (first | exact (Kd.R_reads' HO0.out).2.2 | (with_reducible refine Kd.C_alloc ?_ _) | (with_reducible refine Kd.C_drewN ?_ _) | (with_reducible refine Kd.C_drew ?_))); (case side2 => exact (Kd.R_reads' HO0.out).2.1); rintro e w6 ⟨rfl, hb⟩; refine ⟨_, rfl, ?_⟩; have n0_ := Aside0.mk (Kd.R_below (qr_ HO0.out) hb); have n1_ := Aside0.mk (Kept.below (S := (fun k_ => P0_ k_)) qk_ hb); have n2_ := Aside0.mk (below_step qh_ hb); clear HO0; clear HK; clear HB; have HO0 := n0_; have HK := n1_; have HB := n2_; clear n0_ n1_ n2_; (try clear hb); (try clear hb2); (try clear hk); (try clear hi)))
  go_ret
  exact ⟨_, by first | rfl | (simp [errW_none, errW_some] <;> rfl) | (simp [*, errW_none, errW_some] <;> rfl), by (with_reducible repeat (first | apply Kd.R_alloc | apply Kd.R_drewN | apply Kd.R_drew)); exact HO0.out, by repeat (first | (with_reducible first | exact HB.out | apply below_alloc | apply pw_below_drewN | apply below_drew1) | exact HB.out), qk_⟩
 ·rw [if_neg c4] at H
  have c4b0 : (t152 == (-1)) = false := beq_eq_false_iff_ne.mpr c4
  have c4b1 : (t152 != (-1)) = true := bne_iff_ne.mpr c4
  have H' := Aside0.mk H
  clear H
  obtain ⟨Ao7, co7, eo7⟩ := Kd.R_slice HO0.out
  subst eo7
  go_enter Try.func42, Try.ntmps42
  go_wp2_with (first | ((with_reducible refine gate_callee (f := 57) rfl ?_); refine goesL_ (some 10) rfl rfl Try.func57 (by kernel_rfl) rfl #[.slice Ao7 l0.length co7, .func (.func 43) #[] #[]] rfl (by (try simp only [List.map_toArray, List.map_cons, List.map_nil]); first | done | rfl | (simp only [List.length_drop, List.length_take]; rfl)) ?_; (with_reducible refine (api_Weighted_57.calls k _ _ l0  t152 _ ?side1 ?side2 A3.out).mono ?_); (case side1 => repeat (first | exact (Kd.R_reads' HO0.out).2.2 | (with_reducible refine Kd.C_alloc ?_ _) | (with_reducible refine Kd.C_drewN ?_ _) | (with_reducible refine Kd.C_drew ?_))); (case side2 => exact (Kd.R_reads' HO0.out).2.1); rintro e w8 ⟨rfl, hb⟩; refine ⟨_, rfl, ?_⟩; have n0_ := Aside0.mk (Kd.R_below (qr_ HO0.out) hb); have n1_ := Aside0.mk (Kept.below (S := (fun k_ => P0_ k_)) qk_ hb); have n2_ := Aside0.mk (below_step qh_ hb); clear HO0; clear HK; clear HB; have HO0 := n0_; have HK := n1_; have HB := n2_; clear n0_ n1_ n2_; (try clear hb); (try clear hb2); (try clear hk); (try clear hi)))
  (try simp only [Act.put, List.setIfInBounds_toArray, List.set_cons_zero, List.set_cons_succ])
  go_loopg [5, 6] k (fun kq v5 v6 w' => ∃ (x0_1 : List (S44)) (x5_1 : Int) (x6_1 : Int), v5 = .int .i64 x5_1 ∧ v6 = .int .i64 x6_1 ∧ Aside0 (api_Weighted_42.l0 kq x0_1 x5_1 x6_1 = some r) ∧ Aside0 (kq ≤ k) ∧ Aside0 (Kd.R k44 44 w' w0.heap.size (fun k_ => (P0_ k_ ∨ w.heap.size ≤ k_)) (.slice Ao7 l0.length co7) x0_1) ∧ Aside0 (Kept w w' (fun k_ => P0_ k_)) ∧ Aside0 (Below w0.heap.size w0 w'))
  case atStart => exact ⟨(l0), (t152), (wrap64 (t152 + 1)), (by first | rfl | (simp; done) | (simp [*]; done)), (by first | rfl | (simp; done) | (simp [*]; done)), H', ⟨Nat.le_refl _⟩, ⟨qr_ HO0.out⟩, ⟨qk_⟩, ⟨qh_⟩⟩
  case round =>
   clear H'
   try clear p2
   try clear c4
   try clear c4b0
   try clear c4b1
   try clear c5
   try clear p6
   obtain ⟨x0_1, x5_1, x6_1, rfl, rfl, HA, HK1, HO_0, HK, HB⟩ := hrel
   have hl0_1 := (Kd.R_reads' HO_0.out).1
   rw [hl0_1] at HO_0
   (try simp only [hl0_1])
   cases gk with
   | zero => exact absurd HA.out (by simp [api_Weighted_42.l0])
   | succ k1 =>
    have H := HA.out
    clear HA
    simp only [api_Weighted_42.l0] at H
    by_cases c9 : x6_1 < (x0_1.length : Int)
    ·rw [if_pos c9] at H
     have c9b0 : decide (x6_1 < (x0_1.length : Int)) = true := decide_eq_true c9
     (try simp only [hl0_1] at c9b0)
     clear c9
     by_cases c10 : 0 ≤ x6_1
     ·rw [if_pos c10] at H
      have c10b0 : decide (0 ≤ x6_1) = true := decide_eq_true c10
      clear c10
      replace H := Option.bind_eq_some_iff.mp H
      obtain ⟨t155, A110, H⟩ := H
      replace H : (if t155 = true then (api_Weighted_42.l0 k1 x0_1 x5_1 (wrap64 (x6_1 + 1))) else (if 0 ≤ x5_1 then (if x5_1 < (x0_1.length : Int) then (api_Weighted_42.l0 k1 (x0_1.set (x5_1 : Int).toNat (⟨(rd_T44 x0_1 x6_1).f0, (rd_T44 x0_1 x6_1).f1⟩ : S44)) (wrap64 (x5_1 + 1)) (wrap64 (x6_1 + 1))) else (none)) else (none))) = some r := H
      have A11 := Aside0.mk A110
      clear A110
      by_cases c12 : t155 = true
      ·subst c12
       have H1 : (api_Weighted_42.l0 k1 x0_1 x5_1 (wrap64 (x6_1 + 1))) = some r := by rw [if_pos rfl] at H; exact H
       clear H
       have H := H1
       clear H1
       have H' := Aside0.mk H
       clear H
       have p153 : 0 ≤ (x6_1 : Int) := of_decide_eq_true (by first | (with_reducible assumption) | assumption)
       have q153 : x6_1 < (x0_1.length : Int) := of_decide_eq_true (by first | (with_reducible assumption) | assumption)
       obtain ⟨ad153, e153, hx153_0, hx153_1⟩ := at_T44 (Kd.R_reads' HO_0.out).2.2 x6_1 p153 q153
       cases e153
       replace p153 := eq_true p153
       replace q153 := eq_true q153
       go_wp2_with (first | ((with_reducible refine gate_dst (N := 7) rfl ?_); refine box_event ?hg (N := 7) ?hd (cs := #[.slice none 0 0, .int .i64 0]) (t := 44) ?hr ?_; (case hd => rfl); (case hg => rfl); (case hr => first | (go_simp; done) | (go_simp; rfl)); intro gb154 hg w13 hbox hb; have n0_ := Aside0.mk (Kd.R_below (Kd.R_elderB (qr_ HO_0.out) gb154 (Nat.le_of_eq hg.symm)) hb); have n1_ := Aside0.mk (Kept.below (S := (fun k_ => P0_ k_)) qk_ hb); have n2_ := Aside0.mk (below_step qh_ hb); have n3_ := Aside0.mk (hbox); have n4_ := Aside0.mk ((by rw [hg]; exact (by first | exact HK.out.1 | exact (show Kept w _ (fun k_ => P0_ k_) from by repeat (first | (with_reducible first | exact HK.out | apply Kept.alloc | apply Kept.drewN | apply Kept.drew) | exact HK.out)).1) : w.heap.size ≤ gb154)); have n5_ := Aside0.mk ((by rw [hg]; exact (below_size qh_) : w0.heap.size ≤ gb154)); clear HO_0; clear HK; clear HB; have HO_0 := n0_; have HK := n1_; have HB := n2_; have BK154 := n3_; have GW154 := n4_; have GE154 := n5_; clear n0_ n1_ n2_ n3_ n4_ n5_; clear hb hbox hg; have hcz14_0 : w13.cell? ⟨gb154, 0, none⟩ = some (.slice none 0 0) := (blk_cell BK154.out 0).trans rfl; have hcz14_1 : w13.cell? ⟨gb154, 1, none⟩ = some (.int .i64 0) := (blk_cell BK154.out 1).trans rfl; have hfz14_0 := blk_frozen BK154.out 0; have hfz14_1 := blk_frozen BK154.out 1) | ((refine gateT_ (f := 43) rfl (by first | rfl | (simp [Act.eval]; done)) ?_); refine goesTL_ (some 28) rfl rfl Try.func43 (by kernel_rfl) rfl #[.agg #[.slice ((rd_T44 x0_1 x6_1).f0).A ((rd_T44 x0_1 x6_1).f0).n ((rd_T44 x0_1 x6_1).f0).c, .int .i64 ((rd_T44 x0_1 x6_1).f1)]] rfl (by (try simp only [List.map_toArray, List.map_cons, List.map_nil]); first | done | rfl | (simp only [List.length_drop, List.length_take]; rfl)) ?_; (with_reducible refine (zset_sum_2.calls ((rd_T44 x0_1 x6_1).f0) ((rd_T44 x0_1 x6_1).f1) true _ A11.out).mono ?_); rintro e w15 ⟨rfl, hb⟩; refine ⟨_, rfl, ?_⟩; have n0_ := Aside0.mk (Kd.R_below (by (with_reducible repeat (first | apply Kd.R_alloc | apply Kd.R_drewN | apply Kd.R_drew)); exact (Kd.R_mono (Kd.R_far (p := ⟨gb154, 1, none⟩) (Kd.R_far (p := ⟨gb154, 0, none⟩) (Kd.R_mono HO_0.out (fun k_ hk => (⟨hk, hk.2⟩ : _ ∧ k_ ≠ gb154))) (fun _ hk => hk.2) (.slice ((rd_T44 x0_1 x6_1).f0).A ((rd_T44 x0_1 x6_1).f0).n ((rd_T44 x0_1 x6_1).f0).c)) (fun _ hk => hk.2) (.int .i64 ((rd_T44 x0_1 x6_1).f1))) (fun _ h_ => h_.1))) hb); have n1_ := Aside0.mk (blk_below (g := gb154) (o := .cells #[.slice ((rd_T44 x0_1 x6_1).f0).A ((rd_T44 x0_1 x6_1).f0).n ((rd_T44 x0_1 x6_1).f0).c, .int .i64 ((rd_T44 x0_1 x6_1).f1)] 44 (0, 0)) (by (with_reducible repeat (first | refine blk_drewN ?_ _ | refine blk_drew ?_ | refine blk_alloc ?_ _)); refine blk_put (cs := #[.slice ((rd_T44 x0_1 x6_1).f0).A ((rd_T44 x0_1 x6_1).f0).n ((rd_T44 x0_1 x6_1).f0).c, .int .i64 0]) ?_ 1 _ rfl; (with_reducible repeat (first | refine blk_drewN ?_ _ | refine blk_drew ?_ | refine blk_alloc ?_ _)); refine blk_put (cs := #[.slice none 0 0, .int .i64 0]) ?_ 0 _ rfl; (with_reducible repeat (first | refine blk_drewN ?_ _ | refine blk_drew ?_ | refine blk_alloc ?_ _)); exact BK154.out) hb); have n2_ := Aside0.mk (Kept.below (S := (fun k_ => P0_ k_)) (by repeat (first | (with_reducible first | exact HK.out | apply Kept.alloc | apply Kept.drewN | apply Kept.drew | refine Kept.setCell ?_ (.inr GW154.out) _) | exact HK.out)) hb); have n3_ := Aside0.mk (below_step (by repeat (first | (with_reducible first | exact HB.out | apply below_alloc | apply pw_below_drewN | apply below_drew1 | refine below_set ?_ GE154.out) | exact HB.out)) hb); clear HO_0; clear BK154; clear HK; clear HB; have HO_0 := n0_; have BK154 := n1_; have HK := n2_; have HB := n3_; clear n0_ n1_ n2_ n3_; (try clear hb); (try clear hb2); (try clear hk); (try clear hi)))
       (try simp only [← hl0_1])
       go_roundg k1
       case measure => have := HK1.out; omega
       case rel => exact ⟨(x0_1), (x5_1), (wrap64 (x6_1 + 1)), (by first | rfl | (simp; done) | (simp [*]; done)), (by first | rfl | (simp; done) | (simp [*]; done)), H', ⟨by have := HK1.out; omega⟩, ⟨by (try simp only [hl0_1]); (with_reducible repeat (first | apply Kd.R_alloc | apply Kd.R_drewN | apply Kd.R_drew)); exact Kd.R_mono HO_0.out (fun _ hk => hk.1)⟩, ⟨by repeat (first | (with_reducible first | exact HK.out | apply Kept.alloc | apply Kept.drewN | apply Kept.drew | refine Kept.setCell ?_ (.inr GW154.out) _) | exact HK.out)⟩, ⟨by repeat (first | (with_reducible first | exact HB.out | apply below_alloc | apply pw_below_drewN | apply below_drew1 | refine below_set ?_ GE154.out) | exact HB.out)⟩⟩
      ·replace c12 := Bool.eq_false_iff.mpr c12
       subst c12
       have H1 : (if 0 ≤ x5_1 then (if x5_1 < (x0_1.length : Int) then (api_Weighted_42.l0 k1 (x0_1.set (x5_1 : Int).toNat (⟨(rd_T44 x0_1 x6_1).f0, (rd_T44 x0_1 x6_1).f1⟩ : S44)) (wrap64 (x5_1 + 1)) (wrap64 (x6_1 + 1))) else (none)) else (none)) = some r := by rw [if_neg (show ¬ (false = true) by decide)] at H; exact H
       clear H
       have H := H1
       clear H1
       by_cases c16 : 0 ≤ x5_1
       ·rw [if_pos c16] at H
        have c16b0 : decide (0 ≤ x5_1) = true := decide_eq_true c16
        clear c16
        by_cases c17 : x5_1 < (x0_1.length : Int)
        ·rw [if_pos c17] at H
         have c17b0 : decide (x5_1 < (x0_1.length : Int)) = true := decide_eq_true c17
         (try simp only [hl0_1] at c17b0)
         clear c17
         obtain ⟨y156, hy156⟩ : ∃ y_ : List (S44), y_ = (x0_1.set (x5_1 : Int).toNat (⟨(rd_T44 x0_1 x6_1).f0, (rd_T44 x0_1 x6_1).f1⟩ : S44)) := ⟨_, rfl⟩
         replace H : (api_Weighted_42.l0 k1 y156 (wrap64 (x5_1 + 1)) (wrap64 (x6_1 + 1))) = some r := by first | (rw [hy156]; with_reducible exact H) | (have H2_ := (Option.bind_some _ _).symm.trans H; rw [hy156]; with_reducible exact H2_) | (have H2_ := (Option.bind_some _ _).symm.trans H; with_reducible exact H2_) | with_reducible exact H | (rw [hy156]; exact H) | exact H
         have Ny156 := Aside0.mk hy156
         clear hy156
         have H' := Aside0.mk H
         clear H
         have p153 : 0 ≤ (x6_1 : Int) := of_decide_eq_true (by first | (with_reducible assumption) | assumption)
         have q153 : x6_1 < (x0_1.length : Int) := of_decide_eq_true (by first | (with_reducible assumption) | assumption)
         obtain ⟨ad153, e153, hx153_0, hx153_1⟩ := at_T44 (Kd.R_reads' HO_0.out).2.2 x6_1 p153 q153
         cases e153
         replace p153 := eq_true p153
         replace q153 := eq_true q153
         go_wp2_with (first | ((with_reducible refine gate_dst (N := 7) rfl ?_); refine box_event ?hg (N := 7) ?hd (cs := #[.slice none 0 0, .int .i64 0]) (t := 44) ?hr ?_; (case hd => rfl); (case hg => rfl); (case hr => first | (go_simp; done) | (go_simp; rfl)); intro gb154 hg w19 hbox hb; have n0_ := Aside0.mk (Kd.R_below (Kd.R_elderB (qr_ HO_0.out) gb154 (Nat.le_of_eq hg.symm)) hb); have n1_ := Aside0.mk (Kept.below (S := (fun k_ => P0_ k_)) qk_ hb); have n2_ := Aside0.mk (below_step qh_ hb); have n3_ := Aside0.mk (hbox); have n4_ := Aside0.mk ((by rw [hg]; exact (by first | exact HK.out.1 | exact (show Kept w _ (fun k_ => P0_ k_) from by repeat (first | (with_reducible first | exact HK.out | apply Kept.alloc | apply Kept.drewN | apply Kept.drew) | exact HK.out)).1) : w.heap.size ≤ gb154)); have n5_ := Aside0.mk ((by rw [hg]; exact (below_size qh_) : w0.heap.size ≤ gb154)); clear HO_0; clear HK; clear HB; have HO_0 := n0_; have HK := n1_; have HB := n2_; have BK154 := n3_; have GW154 := n4_; have GE154 := n5_; clear n0_ n1_ n2_ n3_ n4_ n5_; clear hb hbox hg; have hcz20_0 : w19.cell? ⟨gb154, 0, none⟩ = some (.slice none 0 0) := (blk_cell BK154.out 0).trans rfl; have hcz20_1 : w19.cell? ⟨gb154, 1, none⟩ = some (.int .i64 0) := (blk_cell BK154.out 1).trans rfl; have hfz20_0 := blk_frozen BK154.out 0; have hfz20_1 := blk_frozen BK154.out 1) | ((refine gateT_ (f := 43) rfl (by first | rfl | (simp [Act.eval]; done)) ?_); refine goesTL_ (some 28) rfl rfl Try.func43 (by kernel_rfl) rfl #[.agg #[.slice ((rd_T44 x0_1 x6_1).f0).A ((rd_T44 x0_1 x6_1).f0).n ((rd_T44 x0_1 x6_1).f0).c, .int .i64 ((rd_T44 x0_1 x6_1).f1)]] rfl (by (try simp only [List.map_toArray, List.map_cons, List.map_nil]); first | done | rfl | (simp only [List.length_drop, List.length_take]; rfl)) ?_; (with_reducible refine (zset_sum_2.calls ((rd_T44 x0_1 x6_1).f0) ((rd_T44 x0_1 x6_1).f1) false _ A11.out).mono ?_); rintro e w21 ⟨rfl, hb⟩; refine ⟨_, rfl, ?_⟩; have n0_ := Aside0.mk (Kd.R_below (by (with_reducible repeat (first | apply Kd.R_alloc | apply Kd.R_drewN | apply Kd.R_drew)); exact (Kd.R_mono (Kd.R_far (p := ⟨gb154, 1, none⟩) (Kd.R_far (p := ⟨gb154, 0, none⟩) (Kd.R_mono HO_0.out (fun k_ hk => (⟨hk, hk.2⟩ : _ ∧ k_ ≠ gb154))) (fun _ hk => hk.2) (.slice ((rd_T44 x0_1 x6_1).f0).A ((rd_T44 x0_1 x6_1).f0).n ((rd_T44 x0_1 x6_1).f0).c)) (fun _ hk => hk.2) (.int .i64 ((rd_T44 x0_1 x6_1).f1))) (fun _ h_ => h_.1))) hb); have n1_ := Aside0.mk (blk_below (g := gb154) (o := .cells #[.slice ((rd_T44 x0_1 x6_1).f0).A ((rd_T44 x0_1 x6_1).f0).n ((rd_T44 x0_1 x6_1).f0).c, .int .i64 ((rd_T44 x0_1 x6_1).f1)] 44 (0, 0)) (by (with_reducible repeat (first | refine blk_drewN ?_ _ | refine blk_drew ?_ | refine blk_alloc ?_ _)); refine blk_put (cs := #[.slice ((rd_T44 x0_1 x6_1).f0).A ((rd_T44 x0_1 x6_1).f0).n ((rd_T44 x0_1 x6_1).f0).c, .int .i64 0]) ?_ 1 _ rfl; (with_reducible repeat (first | refine blk_drewN ?_ _ | refine blk_drew ?_ | refine blk_alloc ?_ _)); refine blk_put (cs := #[.slice none 0 0, .int .i64 0]) ?_ 0 _ rfl; (with_reducible repeat (first | refine blk_drewN ?_ _ | refine blk_drew ?_ | refine blk_alloc ?_ _)); exact BK154.out) hb); have n2_ := Aside0.mk (Kept.below (S := (fun k_ => P0_ k_)) (by repeat (first | (with_reducible first | exact HK.out | apply Kept.alloc | apply Kept.drewN | apply Kept.drew | refine Kept.setCell ?_ (.inr GW154.out) _) | exact HK.out)) hb); have n3_ := Aside0.mk (below_step (by repeat (first | (with_reducible first | exact HB.out | apply below_alloc | apply pw_below_drewN | apply below_drew1 | refine below_set ?_ GE154.out) | exact HB.out)) hb); clear HO_0; clear BK154; clear HK; clear HB; have HO_0 := n0_; have BK154 := n1_; have HK := n2_; have HB := n3_; clear n0_ n1_ n2_ n3_; (try clear hb); (try clear hb2); (try clear hk); (try clear hi); have hcz22_0 : w21.cell? ⟨gb154, 0, none⟩ = some (.slice ((rd_T44 x0_1 x6_1).f0).A ((rd_T44 x0_1 x6_1).f0).n ((rd_T44 x0_1 x6_1).f0).c) := (blk_cell BK154.out 0).trans rfl; have hcz22_1 : w21.cell? ⟨gb154, 1, none⟩ = some (.int .i64 ((rd_T44 x0_1 x6_1).f1)) := (blk_cell BK154.out 1).trans rfl; have hfz22_0 := blk_frozen BK154.out 0; have hfz22_1 := blk_frozen BK154.out 1; have p18 : 0 ≤ (x5_1 : Int) := of_decide_eq_true (by first | (with_reducible assumption) | assumption); have q18 : (x5_1 : Int) < ((x0_1.length : Int) : Int) := of_decide_eq_true (by first | (with_reducible assumption) | assumption); obtain ⟨go18, co18, eo18, gb18, gl18, cl18, HG18⟩ := Kd.R_form HO_0.out (by omega); (first | cases eo18 | (injection eo18 with ea_ en_ ec_; (first | subst ea_ | (injection ea_ with ea_; subst ea_)); subst ec_; clear en_)); have GB18 := Aside0.mk gb18; have GG18 := Aside0.mk HG18; clear gb18 gl18 HG18; have HMgo18 := Aside0.mk (show (P0_ go18 ∨ w.heap.size ≤ go18) from (HO_0.out.1 _ rfl).1); (first | simp only [add_plain] at hx153_0 | skip); (first | simp only [add_plain] at hx153_1 | skip); obtain ⟨ce18, hcl18, hM18, hcc18, hfr18⟩ := Kd.R_elem HO_0.out z44 (x5_1 : Int) p18 q18; obtain rfl := k44_openM hM18; have hx18_0 : w21.cell? ⟨go18, (x5_1 : Int).toNat * 2, none⟩ = some (.slice ((rd_T44 x0_1 x5_1).f0).A ((rd_T44 x0_1 x5_1).f0).n ((rd_T44 x0_1 x5_1).f0).c) := hcc18 0 _ rfl; have hx18_1 : w21.cell? ⟨go18, (x5_1 : Int).toNat * 2 + 1, none⟩ = some (.int .i64 ((rd_T44 x0_1 x5_1).f1)) := hcc18 1 _ rfl; have hf18_0 : w21.frozen? ⟨go18, (x5_1 : Int).toNat * 2, none⟩ = false := hfr18 0; have hf18_1 : w21.frozen? ⟨go18, (x5_1 : Int).toNat * 2 + 1, none⟩ = false := hfr18 1; clear hcl18 hcc18 hfr18 hM18; replace p18 := eq_true p18; replace q18 := eq_true q18; have HX23 := Aside0.mk (show Kd.R k44 44 w21 w0.heap.size (fun k_ => (P0_ k_ ∨ w.heap.size ≤ k_) ∧ k_ ≠ gb154) (.slice (some ⟨go18, 0, none⟩) x0_1.length co7) x0_1 from (qr_ HO_0.out)); obtain ⟨ce23, hcl23, hM23, hcc23, hfr23⟩ := Kd.R_elem HX23.out z44 (x5_1 : Int) (of_decide_eq_true (by first | (with_reducible assumption) | assumption)) (by have h_ : (x5_1 : Int) < ((x0_1.length : Int) : Int) := of_decide_eq_true (by first | (with_reducible assumption) | assumption); first | exact h_ | (have e_ := (Kd.R_reads' HO_0.out).1; omega) | simpa using h_); obtain rfl := k44_openM hM23; have HP23 := Kd.R_seg HX23.out (x5_1 : Int) (of_decide_eq_true (by first | (with_reducible assumption) | assumption)) (by have h_ : (x5_1 : Int) < ((x0_1.length : Int) : Int) := of_decide_eq_true (by first | (with_reducible assumption) | assumption); first | exact h_ | (have e_ := (Kd.R_reads' HO_0.out).1; omega) | simpa using h_) (seg := [.slice ((rd_T44 x0_1 x6_1).f0).A ((rd_T44 x0_1 x6_1).f0).n ((rd_T44 x0_1 x6_1).f0).c, .int .i64 ((rd_T44 x0_1 x6_1).f1)]) (j := 0) hcl23 hcc23 (show 2 ≤ 2 from by decide) (x' := (⟨(rd_T44 x0_1 x6_1).f0, (rd_T44 x0_1 x6_1).f1⟩ : S44)) (k44_mkM _ _ _ (⟨(rd_T44 x0_1 x6_1).f0, (rd_T44 x0_1 x6_1).f1⟩ : S44) ) (fun _ hk => hk); have hx23_0 := hcc23 0 _ rfl; (try simp only [show (k44).sz = 2 from rfl, Nat.mul_one, Nat.add_zero] at hx23_0); have hf23_0 := hfr23 0; (try simp only [show (k44).sz = 2 from rfl, Nat.mul_one, Nat.add_zero] at hf23_0); have hx23_1 := hcc23 1 _ rfl; (try simp only [show (k44).sz = 2 from rfl, Nat.mul_one, Nat.add_zero] at hx23_1); have hf23_1 := hfr23 1; (try simp only [show (k44).sz = 2 from rfl, Nat.mul_one, Nat.add_zero] at hf23_1); clear hcl23 hcc23 hfr23 hM23) | ((with_reducible refine gate_store (t := 44) (p := 33) rfl ?_); refine store_event (t := 44) (p := 33) (v := ?vo_w24) (w1 := ((w21.setCell ⟨go18, (x5_1 : Int).toNat * 2, none⟩ (.slice ((rd_T44 x0_1 x6_1).f0).A ((rd_T44 x0_1 x6_1).f0).n ((rd_T44 x0_1 x6_1).f0).c)).setCell ⟨go18, (x5_1 : Int).toNat * 2 + 1, none⟩ (.int .i64 ((rd_T44 x0_1 x6_1).f1)))) ?hg ?ho ?hn ?hr ?_; (case ho => rfl); (case hg => rfl); (case hn => rfl); (case hr => first | (go_simp; done) | (go_simp; rfl)); intro w24 hw; have hg : w21.grownBy w24 (some go18) := (by rw [hw]; exact HP23.2); have hp_ : Kd.R k44 44 w24 w0.heap.size (fun k_ => (P0_ k_ ∨ w.heap.size ≤ k_) ∧ k_ ≠ gb154) (.slice (some ⟨go18, 0, none⟩) x0_1.length co7) y156 := (by rw [hw, Ny156.out]; exact HP23.1); clear HP23; have n0_ := Aside0.mk (hp_); have n1_ := Aside0.mk (blk_grown (g := gb154) (o := .cells #[.slice ((rd_T44 x0_1 x6_1).f0).A ((rd_T44 x0_1 x6_1).f0).n ((rd_T44 x0_1 x6_1).f0).c, .int .i64 ((rd_T44 x0_1 x6_1).f1)] 44 (0, 0)) (qb_ BK154.out) hg (Kd.R_away HO_0.out (fun _ hk => hk.2))); have n2_ := Aside0.mk ((by rw [hw]; exact below_set (below_set (HB.out) GB18.out) GB18.out : Below w0.heap.size w0 w24)); have n3_ := Aside0.mk (Kept.of_grown (S := (fun k_ => P0_ k_)) hg (by repeat (first | (with_reducible first | exact HK.out | apply Kept.alloc | apply Kept.drewN | apply Kept.drew | refine Kept.setCell ?_ (.inr GW154.out) _) | exact HK.out)) (fun k_ e_ => (HO_0.out.1 k_ e_).1)); clear HO_0; clear BK154; clear HB; clear HK; have HO_0 := n0_; have BK154 := n1_; have HB := n2_; have HK := n3_; clear n0_ n1_ n2_ n3_; clear hg hw hp_))
         (try simp only [← hl0_1])
         go_roundg k1
         case measure => have := HK1.out; omega
         case rel => exact ⟨(y156), (wrap64 (x5_1 + 1)), (wrap64 (x6_1 + 1)), (by first | rfl | (simp; done) | (simp [*]; done)), (by first | rfl | (simp; done) | (simp [*]; done)), H', ⟨by have := HK1.out; omega⟩, ⟨by (try simp only [hl0_1]); (with_reducible repeat (first | apply Kd.R_alloc | apply Kd.R_drewN | apply Kd.R_drew)); exact Kd.R_mono HO_0.out (fun _ hk => hk.1)⟩, ⟨by repeat (first | (with_reducible first | exact HK.out | apply Kept.alloc | apply Kept.drewN | apply Kept.drew | refine Kept.setCell ?_ (.inr GW154.out) _) | exact HK.out)⟩, ⟨by repeat (first | (with_reducible first | exact HB.out | apply below_alloc | apply pw_below_drewN | apply below_drew1 | refine below_set ?_ GE154.out) | exact HB.out)⟩⟩
        ·rw [if_neg c17] at H
         exact absurd H (by simp)
       ·rw [if_neg c16] at H
        exact absurd H (by simp)
     ·rw [if_neg c10] at H
      exact absurd H (by simp)
    ·rw [if_neg c9] at H
     have c9b0 : decide (x6_1 < (x0_1.length : Int)) = false := decide_eq_false c9
     (try simp only [hl0_1] at c9b0)
     clear c9
     by_cases c25 : 0 ≤ x5_1
     ·rw [if_pos c25] at H
      have c25b0 := eq_true c25
      have c25b1 : decide (0 ≤ x5_1) = true := decide_eq_true c25
      clear c25
      by_cases c26 : x5_1 ≤ (x0_1.length : Int)
      ·rw [if_pos c26] at H
       have c26b0 := eq_true c26
       have c26b1 : decide (x5_1 ≤ (x0_1.length : Int)) = true := decide_eq_true c26
       (try simp only [hl0_1] at c26b1)
       clear c26
       obtain ⟨y157, hy157⟩ : ∃ y_ : List (S44), y_ = (x0_1.drop (x5_1 : Int).toNat) := ⟨_, rfl⟩
       replace H : (some (x0_1.take (x5_1 : Int).toNat)) = some r := by first | (rw [hy157]; with_reducible exact H) | (have H2_ := (Option.bind_some _ _).symm.trans H; rw [hy157]; with_reducible exact H2_) | (have H2_ := (Option.bind_some _ _).symm.trans H; with_reducible exact H2_) | with_reducible exact H | (rw [hy157]; exact H) | exact H
       have Ny157 := Aside0.mk hy157
       clear hy157
       have c27b0 := eq_true (of_decide_eq_true (by first | (with_reducible assumption) | assumption) : x5_1 ≤ (x0_1.length : Int))
       obtain ⟨y161, hy161⟩ : ∃ y_ : List (S44), y_ = (x0_1.take (x5_1 : Int).toNat) := ⟨_, rfl⟩
       replace H : (some y161) = some r := by first | (rw [hy161]; with_reducible exact H) | (have H2_ := (Option.bind_some _ _).symm.trans H; rw [hy161]; with_reducible exact H2_) | (have H2_ := (Option.bind_some _ _).symm.trans H; with_reducible exact H2_) | with_reducible exact H | (rw [hy161]; exact H) | exact H
       have Ny161 := Aside0.mk hy161
       clear hy161
       obtain rfl := Option.some.inj H
       have q28 : (x5_1 : Int) ≤ ((x0_1.length : Int) : Int) := of_decide_eq_true (by first | (with_reducible assumption) | assumption)
       obtain ⟨i028, hi028, _, hsz28, _⟩ := info_parts info44
       have hroom28 : x0_1.length ≤ co7 := (Kd.R_reads' HO_0.out).2.1
       have hC28 : Kd.C k44 _ Ao7 x0_1.length x0_1 := (Kd.R_reads' HO_0.out).2.2
       have q028 : (0 : Int) ≤ (x5_1 : Int) := of_decide_eq_true (by first | (with_reducible assumption) | assumption)
       obtain ⟨Wc, hclr, hRc, hgc⟩ := clear_ov (i := (x5_1 : Int).toNat) HO_0.out (by omega)
       have HBc := Aside0.mk (Below.grown HB.out hgc HB.out.size (fun k e => Kd.R_base HO_0.out k e))
       have HKc := Aside0.mk (Kept.of_grown hgc HK.out (fun k e => HO_0.out.1 k e))
       have hcut28 := cut_from (P := Try.prog) 31 44 .i64 Try.underlying31 hi028 2 hsz28 Ao7 x0_1.length co7 x5_1 q028 q28
       have hr28 := Kd.C_drop (m := (x5_1 : Int).toNat) (c := co7) hC28 (by omega) hroom28
       obtain ⟨A28, hA28⟩ : ∃ A1, A1 = (if co7 = (x5_1 : Int).toNat then Ao7 else (Ao7 : Option Addr).map (·.add ((x5_1 : Int).toNat * 2))) := ⟨_, rfl⟩
       obtain ⟨c28, hc28⟩ : ∃ c1, c1 = co7 - (x5_1 : Int).toNat := ⟨_, rfl⟩
       have hy28 : y157.length = x0_1.length - (x5_1 : Int).toNat := (by rw [Ny157.out, List.length_drop] <;> omega)
       rw [show (x0_1).drop (x5_1 : Int).toNat = y157 from Ny157.out.symm] at hr28
       replace hr28 : Kd.C k44 _ A28 y157.length y157 := (by rw [hA28]; exact hr28)
       rw [← hy28, ← hA28, ← hc28] at hcut28
       rw [← hy28, ← hA28, ← hc28] at hclr
       have HR160 := Aside0.mk hr28
       have HC160 := Aside0.mk (show y157.length ≤ c28 from by rw [hy28, hc28]; exact Nat.sub_le_sub_right hroom28 _)
       clear hr28 hC28 hroom28 hi028 hsz28 hc28
       have KY28 := Aside0.mk hy28
       have KA28 := Aside0.mk hA28
       clear hy28 hA28
       have KL28 := Aside0.mk (show (x5_1 : Int).toNat ≤ x0_1.length from by omega)
       replace q28 := eq_true q28
       have q29 : (x5_1 : Int) ≤ ((x0_1.length : Int) : Int) := of_decide_eq_true (by first | (with_reducible assumption) | assumption)
       obtain ⟨i029, hi029, _, hsz29, _⟩ := info_parts info44
       have hcut29 := cut_to (P := Try.prog) 31 44 .i64 Try.underlying31 hi029 Ao7 x0_1.length co7 x5_1 (of_decide_eq_true (by first | (with_reducible assumption) | assumption)) q29 (Kd.R_reads' HO_0.out).2.1
       have hr29 := hRc
       have hy29 : y161.length = (x5_1 : Int).toNat := (by rw [Ny161.out, List.length_take]; omega)
       rw [← Ny161.out] at hr29
       rw [← hy29] at hr29 hcut29
       clear hy29 hi029 hsz29 HO_0
       have HO163 := Aside0.mk hr29
       clear hr29
       replace q29 := eq_true q29
       clear HB HK hRc hgc
       have HB := HBc
       have HK := HKc
       clear HBc HKc
       go_wp2
       go_ret
       exact ⟨_, by first | rfl | (simp [errW_none, errW_some] <;> rfl) | (simp [*, errW_none, errW_some] <;> rfl), by (with_reducible repeat (first | apply Kd.R_alloc | apply Kd.R_drewN | apply Kd.R_drew)); exact HO163.out, by repeat (first | (with_reducible first | exact HB.out | apply below_alloc | apply pw_below_drewN | apply below_drew1) | exact HB.out), qk_⟩
      ·rw [if_neg c26] at H
       exact absurd H (by simp)
     ·rw [if_neg c25] at H
      exact absurd H (by simp)
end Go.Proofs.Ytgapgdnbgimdlaa.PO
end
section
namespace Go.Proofs.Ytgapgdnbgimdlaa.PO
open Go.Proofs.Ytgapgdnbgimdlaa.Ov Go.RowKit Go.Proofs.YtgapgdnbgimdlaaW.PrintWords Go.Proofs.YtgapgdnbgimdlaaW.PrintLast Go.Proofs.YtgapgdnbgimdlaaW.PrintMore
attribute [local go_sem] max2_int min2_int max_two min_two max_three min_three max_four min_four
set_option linter.unusedVariables false
set_option linter.unusedSimpArgs false
def zset_sum.l0 [Ω : Env] : Nat → List (S44) → List (S44) → Int → Int → Option ((List (S44)))
 | 0, _, _, _, _ => none
 | k + 1, x2, x11, x12, x13 => if x13 < x12 then (if 0 ≤ x13 then (if x13 < (x11.length : Int) then (if x13 > 0 then (if (wrap64 ((x2.length : Int) - 1)) ≥ 0 then (if 0 ≤ (wrap64 ((x2.length : Int) - 1)) then (if (wrap64 ((x2.length : Int) - 1)) < (x2.length : Int) then ((cmprowo.f k ((rd_T44 x2 (wrap64 ((x2.length : Int) - 1))).f0) ((rd_T44 x11 x13).f0)).bind fun t171 => (if t171 = 0 then (zset_sum.l0 k (x2.set ((wrap64 ((x2.length : Int) - 1)) : Int).toNat (⟨(rd_T44 x2 (wrap64 ((x2.length : Int) - 1))).f0, wrap64 (((rd_T44 x2 (wrap64 ((x2.length : Int) - 1))).f1) + ((rd_T44 x11 x13).f1))⟩ : S44)) x11 x12 (wrap64 (x13 + 1))) else (if x2.length < 4398046511104 then (zset_sum.l0 k (x2 ++ [(⟨(rd_T44 x11 x13).f0, (rd_T44 x11 x13).f1⟩ : S44)]) x11 x12 (wrap64 (x13 + 1))) else (none)))) else (none)) else (none)) else (if x2.length < 4398046511104 then (zset_sum.l0 k (x2 ++ [(⟨(rd_T44 x11 x13).f0, (rd_T44 x11 x13).f1⟩ : S44)]) x11 x12 (wrap64 (x13 + 1))) else (none))) else (if x2.length < 4398046511104 then (zset_sum.l0 k (x2 ++ [(⟨(rd_T44 x11 x13).f0, (rd_T44 x11 x13).f1⟩ : S44)]) x11 x12 (wrap64 (x13 + 1))) else (none))) else (none)) else (none)) else ((api_Weighted_42.f k x2).bind fun t183 => (some t183))
def zset_sum.f [Ω : Env] (k : Nat) (l0 : List (List (S44))) : Option ((List (S44))) := (api_Weighted_22.f k l0).bind fun t164 => ((api_Weighted_39.f k t164).bind fun t167 => (zset_sum.l0 k ([] : List (S44)) t167 (t164.length : Int) 0))
theorem zset_sum.mono_l [Ω : Env] : ∀ k, (∀ y0 y1 y2 y3, LeO (zset_sum.l0 k y0 y1 y2 y3) (zset_sum.l0 (k + 1) y0 y1 y2 y3))
 | 0 => fun _ _ _ _ r h => by simp [zset_sum.l0] at h
 | k + 1 => by
  have ih0 := zset_sum.mono_l k
  ·intro y0 y1 y2 y3
   unfold zset_sum.l0
   repeat' first
   | (with_reducible exact ih0 _ _ _ _)
   | (with_reducible exact api_Weighted_22.mono _ _)
   | (with_reducible exact api_Weighted_39.mono _ _)
   | (with_reducible exact api_Weighted_42.mono _ _)
   | (with_reducible exact cmprowo.mono _ _ _)
   | (with_reducible exact LeO.refl _)
   | (with_reducible exact LeO.none _)
   | (with_reducible refine LeO.ite ?_ ?_)
   | (with_reducible refine LeO.bind ?_ (fun _ => ?_))
   | exact ih0 _ _ _ _
   | exact api_Weighted_22.mono _ _
   | exact api_Weighted_39.mono _ _
   | exact api_Weighted_42.mono _ _
   | exact cmprowo.mono _ _ _
   | exact LeO.none _
   | refine LeO.ite ?_ ?_
   | refine LeO.bind ?_ (fun _ => ?_)
theorem zset_sum.mono [Ω : Env] : ∀ a0 k, LeO (zset_sum.f k a0) (zset_sum.f (k + 1) a0) := by
 intro a0 k
 have ih0 := zset_sum.mono_l k
 unfold zset_sum.f
 repeat' first
   | (with_reducible exact ih0 _ _ _ _)
   | (with_reducible exact api_Weighted_22.mono _ _)
   | (with_reducible exact api_Weighted_39.mono _ _)
   | (with_reducible exact api_Weighted_42.mono _ _)
   | (with_reducible exact cmprowo.mono _ _ _)
   | (with_reducible exact LeO.refl _)
   | (with_reducible exact LeO.none _)
   | (with_reducible refine LeO.ite ?_ ?_)
   | (with_reducible refine LeO.bind ?_ (fun _ => ?_))
   | exact ih0 _ _ _ _
   | exact api_Weighted_22.mono _ _
   | exact api_Weighted_39.mono _ _
   | exact api_Weighted_42.mono _ _
   | exact cmprowo.mono _ _ _
   | exact LeO.none _
   | refine LeO.ite ?_ ?_
   | refine LeO.bind ?_ (fun _ => ?_)
def zset_sum.T7 : Bool × List (List Nat × List Nat) := (true, [([], []), ([0], [0]), ([1], [1]), ([2], [2]), ([3, 2], [2, 3]), ([2, 4], [2, 4]), ([5, 2], [5]), ([6], [6]), ([6], [6]), ([7, 8, 6], [6, 7, 8]), ([9, 6], [6, 9]), ([10, 6], [6, 10]), ([6], [6]), ([12, 6], [6, 12]), ([11, 13, 6, 6], [6, 11, 13]), ([14, 6], [6, 14]), ([6, 15], [6, 15])])
def zset_sum.B7 : List Nat := [0, 1, 3, 7, 15, 31, 63, 127, 127, 511, 1023, 2047, 127, 4223, 16383, 32767, 65535]
theorem zset_sum.tab7 : rtab .any (opsOf Try.f28 7) = zset_sum.T7 := by kernel_rfl
theorem zset_sum.bits7 : waitsOk zset_sum.T7.2 zset_sum.B7 = true := by kernel_rfl
def zset_sum.T8 : Bool × List (List Nat × List Nat) := (true, [([], []), ([], []), ([0, 1], [0, 1]), ([2], [2]), ([3], [3]), ([], []), ([5], [5]), ([4, 6], [4, 6]), ([0, 1, 0, 1, 2, 3, 4, 5, 6, 7], [0, 1]), ([8, 0, 1, 2, 3, 4, 5, 6, 7], [8]), ([9, 7, 0, 1, 2, 3, 4, 5, 6, 7], [7, 9])])
def zset_sum.B8 : List Nat := [0, 0, 3, 7, 15, 0, 32, 127, 255, 511, 1023]
theorem zset_sum.tab8 : rtab .any (opsOf Try.f28 8) = zset_sum.T8 := by kernel_rfl
theorem zset_sum.bits8 : waitsOk zset_sum.T8.2 zset_sum.B8 = true := by kernel_rfl
set_option maxHeartbeats 8000000 in
set_option maxRecDepth 100000 in
theorem zset_sum.calls [Ω : Env] (k : Nat) (A0 : Option Addr) (c0 : Nat) (l0 : List (List (S44))) (r : List (S44)) (hr0 : Kd.C (Kd.slice 44 k44) w0 A0 l0.length l0) (hc0 : l0.length ≤ c0) (h : zset_sum.f k l0 = some r) :
  Calls Try.prog 28 #[.slice A0 l0.length c0] w0 fun e w' => ∃ v0_ : Value, e = .returned (v0_) ∧ Kd.R k44 44 w' w0.heap.size (fun _ => True) v0_ r ∧ Below w0.heap.size w0 w' := by
 have hu44 := Try.underlying44
 have HR0 := Aside0.mk hr0
 have HC0 := Aside0.mk hc0
 clear hr0 hc0
 have HB := Aside0.mk (Below.refl w0.heap.size w0)
 have H : ((api_Weighted_22.f k l0).bind fun t164 => ((api_Weighted_39.f k t164).bind fun t167 => (zset_sum.l0 k ([] : List (S44)) t167 (t164.length : Int) 0))) = some r := h
 clear h
 replace H := Option.bind_eq_some_iff.mp H
 obtain ⟨t164, A20, H⟩ := H
 replace H : ((api_Weighted_39.f k t164).bind fun t167 => (zset_sum.l0 k ([] : List (S44)) t167 (t164.length : Int) 0)) = some r := H
 have A2 := Aside0.mk A20
 clear A20
 replace H := Option.bind_eq_some_iff.mp H
 obtain ⟨t167, A30, H⟩ := H
 replace H : (zset_sum.l0 k ([] : List (S44)) t167 (t164.length : Int) 0) = some r := H
 have A3 := Aside0.mk A30
 clear A30
 have H' := Aside0.mk H
 clear H
 go_enter Try.func28, Try.ntmps28
 go_wp2_with (first | ((with_reducible refine gate_callee (f := 22) rfl ?_); refine goesL_ (some 8) rfl rfl Try.func22 (by kernel_rfl) rfl #[.slice A0 l0.length c0] rfl (by (try simp only [List.map_toArray, List.map_cons, List.map_nil]); first | done | rfl | (simp only [List.length_drop, List.length_take]; rfl)) ?_; (with_reducible refine (api_Weighted_22.calls k _ _ l0 t164 _ ?side1 ?side2 A2.out).mono ?_); (case side1 => repeat (first | exact HR0.out | (with_reducible refine Kd.C_alloc ?_ _) | (with_reducible refine Kd.C_drewN ?_ _) | (with_reducible refine Kd.C_drew ?_))); (case side2 => exact HC0.out); rintro e w4 ⟨v165, rfl, ho0, hb⟩; refine ⟨_, rfl, ?_⟩; have n0_ := Aside0.mk (Kd.R_lower ho0 (below_size qh_)); have n1_ := Aside0.mk (below_step qh_ hb); clear HB; have HO166 := n0_; have HB := n1_; clear n0_ n1_; (try clear hb); (try clear hb2); (try clear hk); (try clear hi); (try clear ho0); obtain ⟨Ao5, co5, eo5⟩ := Kd.R_slice HO166.out; subst eo5) | ((with_reducible refine gate_callee (f := 39) rfl ?_); refine goesL_ (some 10) rfl rfl Try.func39 (by kernel_rfl) rfl #[.slice Ao5 t164.length co5, .func (.func 40) #[] #[]] rfl (by (try simp only [List.map_toArray, List.map_cons, List.map_nil]); first | done | rfl | (simp only [List.length_drop, List.length_take]; rfl)) ?_; (with_reducible refine (api_Weighted_39.calls k (fun k_ => some k_ = (.slice Ao5 t164.length co5 : Value).ownBlock) (.slice Ao5 t164.length co5) t164  t167 _ ?side1 ?side2 A3.out).mono ?_); (case side1 => repeat (first | (with_reducible first | exact HB.out | apply below_alloc | apply pw_below_drewN | apply below_drew1) | exact HB.out)); (case side2 => exact Kd.R_tight rfl HO166.out); rintro e w6 ⟨rfl, hy0, hb, hkp⟩; refine ⟨_, rfl, ?_⟩; have n0_ := Aside0.mk (Kd.R_reok rfl hy0 (fun k_ e_ => HO166.out.1 k_ e_)); have n1_ := Aside0.mk (hb); clear HO166; clear HB; have HO166 := n0_; have HB := n1_; clear n0_ n1_; (try clear hb); (try clear hkp); (try clear hy0)))
 (try simp only [Act.put, List.setIfInBounds_toArray, List.set_cons_zero, List.set_cons_succ])
 go_loopg [2, 13] k (fun kq v2 v13 w' => ∃ (x2_1 : List (S44)) (x11_1 : List (S44)) (x13_1 : Int), v13 = .int .i64 x13_1 ∧ Aside0 (zset_sum.l0 kq x2_1 x11_1 (t164.length : Int) x13_1 = some r) ∧ Aside0 (kq ≤ k) ∧ Aside0 (Kd.R k44 44 w' w0.heap.size (fun k_ => some k_ ≠ ((.slice Ao5 t164.length co5) : Value).ownBlock) v2 x2_1) ∧ Aside0 (Kd.R k44 44 w' w0.heap.size (fun k_ => some k_ ≠ (v2 : Value).ownBlock) (.slice Ao5 t164.length co5) x11_1) ∧ Aside0 (Below w0.heap.size w0 w'))
 case atStart => exact ⟨(([] : List (S44))), (t167), (0), (by first | rfl | (simp; done) | (simp [*]; done)), H', ⟨Nat.le_refl _⟩, ⟨by first | exact Kd.R_nil _ _ _ _ _ | exact Kd.N_nil _ _ _ _ _ | exact Kd.V_nil _ _ _ _ _ | exact Kd.Q_nil _ _ _ _ _ | exact Kd.S_nil _ _ _ _ _⟩, ⟨by (with_reducible repeat (first | apply Kd.R_alloc | apply Kd.R_drewN | apply Kd.R_drew)); exact Kd.R_mono HO166.out (fun _ hk => (by simp [Value.ownBlock]))⟩, ⟨qh_⟩⟩
 case round =>
  clear H'
  try clear c2
  try clear p2
  try clear c3
  obtain ⟨x2_1, x11_1, x13_1, rfl, HA, HK1, HO_2, HO_11, HB⟩ := hrel
  have hl11_1 := (Kd.R_reads' HO_11.out).1
  rw [hl11_1] at HO_11
  (try simp only [hl11_1])
  (try simp only [hl11_1] at HO_2)
  cases gk with
  | zero => exact absurd HA.out (by simp [zset_sum.l0])
  | succ k1 =>
   have H := HA.out
   clear HA
   simp only [zset_sum.l0] at H
   by_cases c7 : x13_1 < (t164.length : Int)
   ·rw [if_pos c7] at H
    have c7b0 : decide (x13_1 < (t164.length : Int)) = true := decide_eq_true c7
    (try simp only [hl11_1] at c7b0)
    clear c7
    by_cases c8 : 0 ≤ x13_1
    ·rw [if_pos c8] at H
     have c8b0 : decide (0 ≤ x13_1) = true := decide_eq_true c8
     clear c8
     by_cases c9 : x13_1 < (x11_1.length : Int)
     ·rw [if_pos c9] at H
      have c9b0 : decide (x13_1 < (x11_1.length : Int)) = true := decide_eq_true c9
      (try simp only [hl11_1] at c9b0)
      clear c9
      by_cases c10 : x13_1 > 0
      ·rw [if_pos c10] at H
       have c10b0 : decide (0 < x13_1) = true := decide_eq_true c10
       clear c10
       by_cases c11 : (wrap64 ((x2_1.length : Int) - 1)) ≥ 0
       ·rw [if_pos c11] at H
        have c11b0 : decide (0 ≤ (wrap64 ((x2_1.length : Int) - 1))) = true := decide_eq_true c11
        (try simp only [hl11_1] at c11b0)
        clear c11
        obtain ⟨ji12, hji12⟩ : ∃ j_ : Int, (wrap64 ((x2_1.length : Int) - 1)) = j_ := ⟨_, rfl⟩
        replace H : (if 0 ≤ (ji12) then (if (ji12) < (x2_1.length : Int) then ((cmprowo.f k1 ((rd_T44 x2_1 (ji12)).f0) ((rd_T44 x11_1 x13_1).f0)).bind fun t171 => (if t171 = 0 then (zset_sum.l0 k1 (x2_1.set ((ji12) : Int).toNat (⟨(rd_T44 x2_1 (ji12)).f0, wrap64 (((rd_T44 x2_1 (ji12)).f1) + ((rd_T44 x11_1 x13_1).f1))⟩ : S44)) x11_1 (t164.length : Int) (wrap64 (x13_1 + 1))) else (if x2_1.length < 4398046511104 then (zset_sum.l0 k1 (x2_1 ++ [(⟨(rd_T44 x11_1 x13_1).f0, (rd_T44 x11_1 x13_1).f1⟩ : S44)]) x11_1 (t164.length : Int) (wrap64 (x13_1 + 1))) else (none)))) else (none)) else (none)) = some r := by first | (rw [hji12] at H; exact H) | (simp only [hji12] at H ⊢; exact H)
        (try rw [hji12] at c11b0)
        have hji12w : (IntKind.i64.wrap ((x2_1.length : Int) - 1)) = ji12 := (i64_w _).trans hji12
        by_cases c13 : 0 ≤ (ji12)
        ·rw [if_pos c13] at H
         have c13b0 : decide (0 ≤ (ji12)) = true := decide_eq_true c13
         clear c13
         by_cases c14 : (ji12) < (x2_1.length : Int)
         ·rw [if_pos c14] at H
          have c14b0 : decide ((ji12) < (x2_1.length : Int)) = true := decide_eq_true c14
          (try simp only [hl11_1] at c14b0)
          clear c14
          replace H := Option.bind_eq_some_iff.mp H
          obtain ⟨t171, A150, H⟩ := H
          replace H : (if t171 = 0 then (zset_sum.l0 k1 (x2_1.set ((ji12) : Int).toNat (⟨(rd_T44 x2_1 (ji12)).f0, wrap64 (((rd_T44 x2_1 (ji12)).f1) + ((rd_T44 x11_1 x13_1).f1))⟩ : S44)) x11_1 (t164.length : Int) (wrap64 (x13_1 + 1))) else (if x2_1.length < 4398046511104 then (zset_sum.l0 k1 (x2_1 ++ [(⟨(rd_T44 x11_1 x13_1).f0, (rd_T44 x11_1 x13_1).f1⟩ : S44)]) x11_1 (t164.length : Int) (wrap64 (x13_1 + 1))) else (none))) = some r := H
          have A15 := Aside0.mk A150
          clear A150
          by_cases c16 : t171 = 0
          ·rw [if_pos c16] at H
           have c16b0 : (t171 == 0) = true := beq_iff_eq.mpr c16
           have c16b1 : (t171 != 0) = false := bne_eq_false_iff_eq.mpr c16
           clear c16
           obtain ⟨y173, hy173⟩ : ∃ y_ : List (S44), y_ = (x2_1.set ((ji12) : Int).toNat (⟨(rd_T44 x2_1 (ji12)).f0, wrap64 (((rd_T44 x2_1 (ji12)).f1) + ((rd_T44 x11_1 x13_1).f1))⟩ : S44)) := ⟨_, rfl⟩
           replace H : (zset_sum.l0 k1 y173 x11_1 (t164.length : Int) (wrap64 (x13_1 + 1))) = some r := by first | (rw [hy173]; with_reducible exact H) | (have H2_ := (Option.bind_some _ _).symm.trans H; rw [hy173]; with_reducible exact H2_) | (have H2_ := (Option.bind_some _ _).symm.trans H; with_reducible exact H2_) | with_reducible exact H | (rw [hy173]; exact H) | exact H
           have Ny173 := Aside0.mk hy173
           clear hy173
           have H' := Aside0.mk H
           clear H
           have p168 : 0 ≤ (x13_1 : Int) := of_decide_eq_true (by first | (with_reducible assumption) | assumption)
           have q168 : x13_1 < (x11_1.length : Int) := of_decide_eq_true (by first | (with_reducible assumption) | assumption)
           obtain ⟨ad168, e168, hx168_0, hx168_1⟩ := at_T44 (Kd.R_reads' HO_11.out).2.2 x13_1 p168 q168
           cases e168
           replace p168 := eq_true p168
           replace q168 := eq_true q168
           try go_wp2_with (first | ((with_reducible refine gate_dst (N := 5) rfl ?_); refine box_event ?hg (N := 5) ?hd (cs := #[.slice none 0 0, .int .i64 0]) (t := 44) ?hr ?_; (case hd => rfl); (case hg => rfl); (case hr => first | (go_simp; done) | (go_simp; rfl)); intro gb169 hg w18 hbox hb; have n0_ := Aside0.mk (Kd.R_below (Kd.R_elderB (qr_ HO_2.out) gb169 (Nat.le_of_eq hg.symm)) hb); have n1_ := Aside0.mk (Kd.R_below (Kd.R_elderB (qr_ HO_11.out) gb169 (Nat.le_of_eq hg.symm)) hb); have n2_ := Aside0.mk (below_step qh_ hb); have n3_ := Aside0.mk (hbox); have n4_ := Aside0.mk ((by rw [hg]; exact (below_size qh_) : w0.heap.size ≤ gb169)); have n5_ := Aside0.mk ((by rw [hg]; exact (below_size qh_) : w0.heap.size ≤ gb169)); clear HO_2; clear HO_11; clear HB; have HO_2 := n0_; have HO_11 := n1_; have HB := n2_; have BK169 := n3_; have GW169 := n4_; have GE169 := n5_; clear n0_ n1_ n2_ n3_ n4_ n5_; clear hb hbox hg; have hcz19_0 : w18.cell? ⟨gb169, 0, none⟩ = some (.slice none 0 0) := (blk_cell BK169.out 0).trans rfl; have hcz19_1 : w18.cell? ⟨gb169, 1, none⟩ = some (.int .i64 0) := (blk_cell BK169.out 1).trans rfl; have hfz19_0 := blk_frozen BK169.out 0; have hfz19_1 := blk_frozen BK169.out 1; obtain ⟨Ao20, co20, eo20⟩ := Kd.R_slice HO_2.out; subst eo20))
           have n0_ : Aside0 (Kd.R k44 44 ((w18.setCell ⟨gb169, 0, none⟩ (.slice ((rd_T44 x11_1 x13_1).f0).A ((rd_T44 x11_1 x13_1).f0).n ((rd_T44 x11_1 x13_1).f0).c)).setCell ⟨gb169, 1, none⟩ (.int .i64 ((rd_T44 x11_1 x13_1).f1))) w0.heap.size (fun k_ => some k_ ≠ (.slice (some ad168) x11_1.length co5 : Value).ownBlock ∧ k_ ≠ gb169) (.slice Ao20 x2_1.length co20) x2_1) := ⟨by (with_reducible repeat (first | apply Kd.R_alloc | apply Kd.R_drewN | apply Kd.R_drew)); exact Kd.R_mono (Kd.R_far (p := ⟨gb169, 1, none⟩) (Kd.R_far (p := ⟨gb169, 0, none⟩) (Kd.R_mono HO_2.out (fun k_ hk => (⟨hk, hk.2⟩ : _ ∧ k_ ≠ gb169))) (fun _ hk => hk.2) (.slice ((rd_T44 x11_1 x13_1).f0).A ((rd_T44 x11_1 x13_1).f0).n ((rd_T44 x11_1 x13_1).f0).c)) (fun _ hk => hk.2) (.int .i64 ((rd_T44 x11_1 x13_1).f1))) (fun _ hk => ⟨hk.1.1, hk.1.2⟩)⟩
           have n1_ : Aside0 (Kd.R k44 44 ((w18.setCell ⟨gb169, 0, none⟩ (.slice ((rd_T44 x11_1 x13_1).f0).A ((rd_T44 x11_1 x13_1).f0).n ((rd_T44 x11_1 x13_1).f0).c)).setCell ⟨gb169, 1, none⟩ (.int .i64 ((rd_T44 x11_1 x13_1).f1))) w0.heap.size (fun k_ => some k_ ≠ (.slice Ao20 x2_1.length co20 : Value).ownBlock ∧ k_ ≠ gb169) (.slice (some ad168) x11_1.length co5) x11_1) := ⟨by (with_reducible repeat (first | apply Kd.R_alloc | apply Kd.R_drewN | apply Kd.R_drew)); exact Kd.R_mono (Kd.R_far (p := ⟨gb169, 1, none⟩) (Kd.R_far (p := ⟨gb169, 0, none⟩) (Kd.R_mono HO_11.out (fun k_ hk => (⟨hk, hk.2⟩ : _ ∧ k_ ≠ gb169))) (fun _ hk => hk.2) (.slice ((rd_T44 x11_1 x13_1).f0).A ((rd_T44 x11_1 x13_1).f0).n ((rd_T44 x11_1 x13_1).f0).c)) (fun _ hk => hk.2) (.int .i64 ((rd_T44 x11_1 x13_1).f1))) (fun _ hk => ⟨hk.1.1, hk.1.2⟩)⟩
           have n2_ : Aside0 (((w18.setCell ⟨gb169, 0, none⟩ (.slice ((rd_T44 x11_1 x13_1).f0).A ((rd_T44 x11_1 x13_1).f0).n ((rd_T44 x11_1 x13_1).f0).c)).setCell ⟨gb169, 1, none⟩ (.int .i64 ((rd_T44 x11_1 x13_1).f1))).heap[gb169]? = some (.cells #[.slice ((rd_T44 x11_1 x13_1).f0).A ((rd_T44 x11_1 x13_1).f0).n ((rd_T44 x11_1 x13_1).f0).c, .int .i64 ((rd_T44 x11_1 x13_1).f1)] 44 (0, 0))) := ⟨by (with_reducible repeat (first | refine blk_drewN ?_ _ | refine blk_drew ?_ | refine blk_alloc ?_ _)); refine blk_put (cs := #[.slice ((rd_T44 x11_1 x13_1).f0).A ((rd_T44 x11_1 x13_1).f0).n ((rd_T44 x11_1 x13_1).f0).c, .int .i64 0]) ?_ 1 _ rfl; (with_reducible repeat (first | refine blk_drewN ?_ _ | refine blk_drew ?_ | refine blk_alloc ?_ _)); refine blk_put (cs := #[.slice none 0 0, .int .i64 0]) ?_ 0 _ rfl; (with_reducible repeat (first | refine blk_drewN ?_ _ | refine blk_drew ?_ | refine blk_alloc ?_ _)); exact BK169.out⟩
           have n3_ : Aside0 (Below w0.heap.size w0 ((w18.setCell ⟨gb169, 0, none⟩ (.slice ((rd_T44 x11_1 x13_1).f0).A ((rd_T44 x11_1 x13_1).f0).n ((rd_T44 x11_1 x13_1).f0).c)).setCell ⟨gb169, 1, none⟩ (.int .i64 ((rd_T44 x11_1 x13_1).f1)))) := ⟨by repeat (first | (with_reducible first | exact HB.out | apply below_alloc | apply pw_below_drewN | apply below_drew1 | refine below_set ?_ GE169.out) | exact HB.out)⟩
           (try clear HO_2)
           (try clear HO_11)
           (try clear BK169)
           (try clear HB)
           generalize ((w18.setCell ⟨gb169, 0, none⟩ (.slice ((rd_T44 x11_1 x13_1).f0).A ((rd_T44 x11_1 x13_1).f0).n ((rd_T44 x11_1 x13_1).f0).c)).setCell ⟨gb169, 1, none⟩ (.int .i64 ((rd_T44 x11_1 x13_1).f1))) = w21 at n0_ n1_ n2_ n3_ ⊢
           have HO_2 := n0_
           have HO_11 := n1_
           have BK169 := n2_
           have HB := n3_
           clear n0_ n1_ n2_ n3_
           have n0_ := Aside0.mk (Kd.R_drew HO_2.out)
           have n1_ := Aside0.mk (Kd.R_drew HO_11.out)
           have n2_ := Aside0.mk (blk_drew BK169.out)
           have n3_ := Aside0.mk (below_drew1 HB.out)
           clear HO_2
           clear HO_11
           clear BK169
           clear HB
           have HO_2 := n0_
           have HO_11 := n1_
           have BK169 := n2_
           have HB := n3_
           clear n0_ n1_ n2_ n3_
           have p170 : 0 ≤ ((ji12) : Int) := of_decide_eq_true (by first | (with_reducible assumption) | assumption)
           have q170 : (ji12) < (x2_1.length : Int) := of_decide_eq_true (by first | (with_reducible assumption) | assumption)
           obtain ⟨ad170, e170, hx170_0, hx170_1⟩ := at_T44 (Kd.R_reads' HO_2.out).2.2 (ji12) p170 q170
           cases e170
           replace p170 := eq_true p170
           replace q170 := eq_true q170
           refine start_ (n := 17) (S := fun w' => w'.cell? ⟨gb169, 0, none⟩ = some (.slice ((rd_T44 x11_1 x13_1).f0).A ((rd_T44 x11_1 x13_1).f0).n ((rd_T44 x11_1 x13_1).f0).c) ∧ w'.cell? ⟨gb169, 1, none⟩ = some (.int .i64 ((rd_T44 x11_1 x13_1).f1)) ∧ w'.cell? (ad170.add (((ji12)).toNat * 2)) = some (.slice ((rd_T44 x2_1 (ji12)).f0).A ((rd_T44 x2_1 (ji12)).f0).n ((rd_T44 x2_1 (ji12)).f0).c) ∧ w'.cell? ⟨(ad170.add (((ji12)).toNat * 2)).block, (ad170.add (((ji12)).toNat * 2)).off + 1, none⟩ = some (.int .i64 ((rd_T44 x2_1 (ji12)).f1))) (ds := []) #[false, false, false, false, false, false, false, false, false, false, false, false, false, false, false, false, false] (by kernel_rfl) rfl rfl ⟨(blk_cell BK169.out 0).trans rfl, (blk_cell BK169.out 1).trans rfl, hx170_0, hx170_1⟩ (fun hHeld => ?_); refine with_tabW zset_sum.tab7 zset_sum.bits7 (fun HT_ HW_ => ?_)
           generalize w21.drew = w22 at HO_2 HO_11 BK169 HB hx170_0 hx170_1 hHeld ⊢
           refine pure_ (i := 0) (N := some 21) (v := ?_) (a' := ?_) #[true, false, false, false, false, false, false, false, false, false, false, false, false, false, false, false, false] rfl rfl (any_of HT_.out (by kernel_rfl)) (fun _ _ _ h => h) (Or.inl ⟨by rfl, ?_⟩) ?_ ?_
           rotate_left
           ·intro w'
            go_simp
            with_reducible rfl
           rotate_left
           ·simp only [Act.put, List.setIfInBounds_toArray, List.set_cons_zero, List.set_cons_succ, i64_w, i32_w]
            rfl
           refine pure_ (i := 1) (N := some 22) (v := ?_) (a' := ?_) #[true, true, false, false, false, false, false, false, false, false, false, false, false, false, false, false, false] rfl rfl (any_of HT_.out (by kernel_rfl)) (fun _ _ _ h => h) (Or.inl ⟨by rfl, ?_⟩) ?_ ?_
           rotate_left
           ·intro w'
            go_simp
            with_reducible rfl
           rotate_left
           ·simp only [Act.put, List.setIfInBounds_toArray, List.set_cons_zero, List.set_cons_succ, i64_w, i32_w]
            rfl
           refine pure_ (i := 2) (N := some 23) (v := ?_) (a' := ?_) #[true, true, true, false, false, false, false, false, false, false, false, false, false, false, false, false, false] rfl rfl (any_of HT_.out (by kernel_rfl)) (fun _ _ _ h => h) (Or.inl ⟨by rfl, ?_⟩) ?_ ?_
           rotate_left
           ·intro w'
            go_simp
            with_reducible rfl
           rotate_left
           ·simp only [Act.put, List.setIfInBounds_toArray, List.set_cons_zero, List.set_cons_succ, i64_w, i32_w]
            rfl
           refine pure_ (i := 3) (N := some 24) (v := ?_) (a' := ?_) #[true, true, true, true, false, false, false, false, false, false, false, false, false, false, false, false, false] rfl rfl (any_of HT_.out (by kernel_rfl)) (fun _ _ _ h => h) (Or.inl ⟨by rfl, ?_⟩) ?_ ?_
           rotate_left
           ·intro w'
            go_simp
            with_reducible rfl
           rotate_left
           ·simp only [Act.put, List.setIfInBounds_toArray, List.set_cons_zero, List.set_cons_succ, i64_w, i32_w]
            rfl
           refine pure_ (i := 4) (N := some 25) (v := ?_) (a' := ?_) #[true, true, true, true, true, false, false, false, false, false, false, false, false, false, false, false, false] rfl rfl (any_of HT_.out (by kernel_rfl)) (fun _ _ _ h => h) (Or.inl ⟨by rfl, ?_⟩) ?_ ?_
           rotate_left
           ·intro w'
            go_simp
            with_reducible rfl
           rotate_left
           ·simp only [Act.put, List.setIfInBounds_toArray, List.set_cons_zero, List.set_cons_succ, i64_w, i32_w]
            rfl
           refine pure_ (i := 5) (N := some 26) (v := ?_) (a' := ?_) #[true, true, true, true, true, true, false, false, false, false, false, false, false, false, false, false, false] rfl rfl (any_of HT_.out (by kernel_rfl)) (fun _ _ _ h => h) (Or.inl ⟨by rfl, ?_⟩) ?_ ?_
           rotate_left
           ·intro w'
            go_simp
            with_reducible rfl
           rotate_left
           ·simp only [Act.put, List.setIfInBounds_toArray, List.set_cons_zero, List.set_cons_succ, i64_w, i32_w]
            rfl
           refine pure_ (i := 6) (N := some 27) (v := ?_) (a' := ?_) #[true, true, true, true, true, true, true, false, false, false, false, false, false, false, false, false, false] rfl rfl (any_of HT_.out (by kernel_rfl)) (fun _ _ _ h => h) (Or.inl ⟨by rfl, ?_⟩) ?_ ?_
           rotate_left
           ·intro w'
            go_simp
            with_reducible rfl
           rotate_left
           ·simp only [Act.put, List.setIfInBounds_toArray, List.set_cons_zero, List.set_cons_succ, i64_w, i32_w]
            rfl
           refine pure_ (i := 7) (N := some 28) (v := ?_) (a' := ?_) #[true, true, true, true, true, true, true, true, false, false, false, false, false, false, false, false, false] rfl rfl (any_of HT_.out (by kernel_rfl)) (fun _ _ _ h => h) (Or.inl ⟨by rfl, ?_⟩) ?_ ?_
           rotate_left
           ·intro w'
            go_simp
            with_reducible rfl
           rotate_left
           ·simp only [Act.put, List.setIfInBounds_toArray, List.set_cons_zero, List.set_cons_succ, i64_w, i32_w]
            rfl
           refine pure_ (i := 8) (N := some 29) (v := ?_) (a' := ?_) #[true, true, true, true, true, true, true, true, true, false, false, false, false, false, false, false, false] rfl rfl (any_of HT_.out (by kernel_rfl)) (fun _ _ _ h => h) (Or.inl ⟨by rfl, ?_⟩) ?_ ?_
           rotate_left
           ·intro w'
            go_simp
            with_reducible rfl
           rotate_left
           ·simp only [Act.put, List.setIfInBounds_toArray, List.set_cons_zero, List.set_cons_succ, i64_w, i32_w]
            rfl
           refine pure_ (i := 9) (N := some 30) (v := ?_) (a' := ?_) #[true, true, true, true, true, true, true, true, true, true, false, false, false, false, false, false, false] rfl rfl (any_of HT_.out (by kernel_rfl)) (fun _ _ _ h => h) (Or.inl ⟨by rfl, ?_⟩) ?_ ?_
           rotate_left
           ·intro w'
            go_simp
            with_reducible rfl
           rotate_left
           ·simp only [Act.put, List.setIfInBounds_toArray, List.set_cons_zero, List.set_cons_succ, i64_w, i32_w]
            rfl
           refine pure_ (i := 10) (N := some 31) (v := ?_) (a' := ?_) #[true, true, true, true, true, true, true, true, true, true, true, false, false, false, false, false, false] rfl rfl (any_of HT_.out (by kernel_rfl)) (fun _ _ _ h => h) (Or.inl ⟨by rfl, ?_⟩) ?_ ?_
           rotate_left
           ·intro w'
            go_simp
            with_reducible rfl
           rotate_left
           ·simp only [Act.put, List.setIfInBounds_toArray, List.set_cons_zero, List.set_cons_succ, i64_w, i32_w]
            rfl
           refine pure_ (i := 12) (N := some 33) (v := ?_) (a' := ?_) #[true, true, true, true, true, true, true, true, true, true, true, false, true, false, false, false, false] rfl rfl (any_of HT_.out (by kernel_rfl)) (fun _ _ _ h => h) (Or.inl ⟨by rfl, ?_⟩) ?_ ?_
           rotate_left
           ·intro w'
            go_simp
            with_reducible rfl
           rotate_left
           ·simp only [Act.put, List.setIfInBounds_toArray, List.set_cons_zero, List.set_cons_succ, i64_w, i32_w]
            rfl
           refine take_ (i := 11) (N := some 32) (v := ?_) (a' := ?_) #[true, true, true, true, true, true, true, true, true, true, true, true, true, false, false, false, false] rfl rfl (take_ofW HT_.out HW_.out (by kernel_rfl)) (fun _ _ _ h => h) (Or.inl ⟨by rfl, ?_⟩) hHeld ?_ ?_
           rotate_left
           ·rintro w' ⟨s0, s1, s2, s3⟩
            go_simp
            with_reducible rfl
           rotate_left
           ·simp only [Act.put, List.setIfInBounds_toArray, List.set_cons_zero, List.set_cons_succ, i64_w, i32_w]
            rfl
           refine take_ (i := 13) (N := some 34) (v := ?_) (a' := ?_) #[true, true, true, true, true, true, true, true, true, true, true, true, true, true, false, false, false] rfl rfl (take_ofW HT_.out HW_.out (by kernel_rfl)) (fun _ _ _ h => h) (Or.inl ⟨by rfl, ?_⟩) hHeld ?_ ?_
           rotate_left
           ·rintro w' ⟨s0, s1, s2, s3⟩
            go_simp
            with_reducible rfl
           rotate_left
           ·simp only [Act.put, List.setIfInBounds_toArray, List.set_cons_zero, List.set_cons_succ, i64_w, i32_w]
            rfl
           refine one_ (i := 14) (N := some 35) #[true, true, true, true, true, true, true, true, true, true, true, true, true, true, true, false, false] rfl rfl (one_of HT_.out (by kernel_rfl)) (by decide) (fun K hK => ?_)
           refine goes_ Try.func41 (by kernel_rfl) rfl #[.slice ((rd_T44 x2_1 (ji12)).f0).A ((rd_T44 x2_1 (ji12)).f0).n ((rd_T44 x2_1 (ji12)).f0).c, .slice ((rd_T44 x11_1 x13_1).f0).A ((rd_T44 x11_1 x13_1).f0).n ((rd_T44 x11_1 x13_1).f0).c] (by rfl) rfl rfl (by (try simp only [List.map_toArray, List.map_cons, List.map_nil]); first | done | (simp only [hji12]; rfl) | rfl | (simp only [List.length_drop, List.length_take]; rfl)) ?_
           with_reducible refine (cmprowo.calls k1 ((rd_T44 x2_1 (ji12)).f0) ((rd_T44 x11_1 x13_1).f0) t171 _ ?side1 A15.out).mono ?_
           (case side1 => repeat (first | (with_reducible first | exact HB.out | apply below_alloc | apply pw_below_drewN | apply below_drew1 | refine below_set ?_ GE169.out) | exact HB.out))
           rintro e w23 ⟨rfl, hb⟩
           have HS2_ := (hb.cell (World.block_lt_of_cell? _ _ (hHeld.2.2.1))).trans (hHeld.2.2.1)
           have HS3_ := (hb.cell (World.block_lt_of_cell? _ _ (hHeld.2.2.2))).trans (hHeld.2.2.2)
           refine ⟨_, rfl, ?_⟩
           have n0_ := Aside0.mk (Kd.R_below (qr_ HO_2.out) hb)
           have n1_ := Aside0.mk (Kd.R_below (qr_ HO_11.out) hb)
           have n2_ := Aside0.mk (blk_below (g := gb169) (o := .cells #[.slice ((rd_T44 x11_1 x13_1).f0).A ((rd_T44 x11_1 x13_1).f0).n ((rd_T44 x11_1 x13_1).f0).c, .int .i64 ((rd_T44 x11_1 x13_1).f1)] 44 (0, 0)) (qb_ BK169.out) hb)
           have n3_ := Aside0.mk (below_step (by repeat (first | (with_reducible first | exact HB.out | apply below_alloc | apply pw_below_drewN | apply below_drew1 | refine below_set ?_ GE169.out) | exact HB.out)) hb)
           clear HO_2
           clear HO_11
           clear BK169
           clear HB
           have HO_2 := n0_
           have HO_11 := n1_
           have BK169 := n2_
           have HB := n3_
           clear n0_ n1_ n2_ n3_
           (try clear hb)
           (try clear hb2)
           (try clear hk)
           (try clear hi)
           refine hK.out _ _ ⟨(blk_cell BK169.out 0).trans rfl, (blk_cell BK169.out 1).trans rfl, HS2_, HS3_⟩ (fun hHeld => ?_)
           clear hK K
           refine norm_ (a' := ?_) ?_ ?_
           rotate_left
           ·show Act.put _ (some 35) _ = _
            simp only [Act.put, List.setIfInBounds_toArray, List.set_cons_zero, List.set_cons_succ, i64_w, i32_w]
            rfl
           refine pure_ (i := 15) (N := some 36) (v := ?_) (a' := ?_) #[true, true, true, true, true, true, true, true, true, true, true, true, true, true, true, true, false] rfl rfl (any_of HT_.out (by kernel_rfl)) (fun _ _ _ h => h) (Or.inl ⟨by rfl, ?_⟩) ?_ ?_
           rotate_left
           ·intro w'
            go_simp
            with_reducible rfl
           rotate_left
           ·simp only [Act.put, List.setIfInBounds_toArray, List.set_cons_zero, List.set_cons_succ, i64_w, i32_w]
            rfl
           refine pure_ (i := 16) (N := some 37) (v := ?_) (a' := ?_) #[true, true, true, true, true, true, true, true, true, true, true, true, true, true, true, true, true] rfl rfl (any_of HT_.out (by kernel_rfl)) (fun _ _ _ h => h) (Or.inl ⟨by rfl, ?_⟩) ?_ ?_
           rotate_left
           ·intro w'
            go_simp
            with_reducible rfl
           rotate_left
           ·simp only [Act.put, List.setIfInBounds_toArray, List.set_cons_zero, List.set_cons_succ, i64_w, i32_w]
            rfl
           refine done_ (done_of HT_.out (by kernel_rfl)) ?_
           try go_wp2
           have n0_ := Aside0.mk (Kd.R_drew HO_2.out)
           have n1_ := Aside0.mk (Kd.R_drew HO_11.out)
           have n2_ := Aside0.mk (blk_drew BK169.out)
           have n3_ := Aside0.mk (below_drew1 HB.out)
           clear HO_2
           clear HO_11
           clear BK169
           clear HB
           have HO_2 := n0_
           have HO_11 := n1_
           have BK169 := n2_
           have HB := n3_
           clear n0_ n1_ n2_ n3_
           have p172 : 0 ≤ ((ji12) : Int) := of_decide_eq_true (by first | (with_reducible assumption) | assumption)
           have q172 : (ji12) < (x2_1.length : Int) := of_decide_eq_true (by first | (with_reducible assumption) | assumption)
           obtain ⟨ad172, e172, hx172_0, hx172_1⟩ := at_T44 (Kd.R_reads' HO_2.out).2.2 (ji12) p172 q172
           obtain rfl : ad170 = ad172 := (by injection e172)
           replace p172 := eq_true p172
           replace q172 := eq_true q172
           have p17 : 0 ≤ ((ji12) : Int) := of_decide_eq_true (by first | (with_reducible assumption) | assumption)
           have q17 : ((ji12) : Int) < ((x2_1.length : Int) : Int) := of_decide_eq_true (by first | (with_reducible assumption) | assumption)
           obtain ⟨go17, co17, eo17, gb17, gl17, cl17, HG17⟩ := Kd.R_form HO_2.out (by omega)
           (first | cases eo17 | (injection eo17 with ea_ en_ ec_; (first | subst ea_ | (injection ea_ with ea_; subst ea_)); subst ec_; clear en_))
           have GB17 := Aside0.mk gb17
           have GG17 := Aside0.mk HG17
           clear gb17 gl17 HG17
           (first | simp only [add_plain] at hx170_0 | skip)
           (first | simp only [add_plain] at hx170_1 | skip)
           (first | simp only [add_plain] at hx172_0 | skip)
           (first | simp only [add_plain] at hx172_1 | skip)
           obtain ⟨ce17, hcl17, hM17, hcc17, hfr17⟩ := Kd.R_elem HO_2.out z44 ((ji12) : Int) p17 q17
           obtain rfl := k44_openM hM17
           have hx17_0 : World.cell? _ ⟨go17, ((ji12) : Int).toNat * 2, none⟩ = some (.slice ((rd_T44 x2_1 (ji12)).f0).A ((rd_T44 x2_1 (ji12)).f0).n ((rd_T44 x2_1 (ji12)).f0).c) := hcc17 0 _ rfl
           have hx17_1 : World.cell? _ ⟨go17, ((ji12) : Int).toNat * 2 + 1, none⟩ = some (.int .i64 ((rd_T44 x2_1 (ji12)).f1)) := hcc17 1 _ rfl
           have hf17_0 : World.frozen? _ ⟨go17, ((ji12) : Int).toNat * 2, none⟩ = false := hfr17 0
           have hf17_1 : World.frozen? _ ⟨go17, ((ji12) : Int).toNat * 2 + 1, none⟩ = false := hfr17 1
           clear hcl17 hcc17 hfr17 hM17
           replace p17 := eq_true p17
           replace q17 := eq_true q17
           obtain ⟨ce25, hcl25, hM25, hcc25, hfr25⟩ := Kd.R_elem HO_2.out z44 ((ji12) : Int) (of_decide_eq_true (by first | (with_reducible assumption) | assumption)) (by have h_ : ((ji12) : Int) < ((x2_1.length : Int) : Int) := of_decide_eq_true (by first | (with_reducible assumption) | assumption); first | exact h_ | (have e_ := (Kd.R_reads' HO_2.out).1; omega) | simpa using h_)
           obtain rfl := k44_openM hM25
           have HP25 := (Kd.R_seg HO_2.out ((ji12) : Int) (of_decide_eq_true (by first | (with_reducible assumption) | assumption)) (by have h_ : ((ji12) : Int) < ((x2_1.length : Int) : Int) := of_decide_eq_true (by first | (with_reducible assumption) | assumption); first | exact h_ | (have e_ := (Kd.R_reads' HO_2.out).1; omega) | simpa using h_) (seg := [.int .i64 (wrap64 (((rd_T44 x2_1 (ji12)).f1) + ((rd_T44 x11_1 x13_1).f1)))]) (j := 1) hcl25 hcc25 (show 2 ≤ 2 from by decide) (x' := (⟨(rd_T44 x2_1 (ji12)).f0, wrap64 (((rd_T44 x2_1 (ji12)).f1) + ((rd_T44 x11_1 x13_1).f1))⟩ : S44)) (k44_mkM _ _ _ (⟨(rd_T44 x2_1 (ji12)).f0, wrap64 (((rd_T44 x2_1 (ji12)).f1) + ((rd_T44 x11_1 x13_1).f1))⟩ : S44) ) (fun _ hk => hk)).1
           rw [← Ny173.out] at HP25
           have HQ25 := Aside0.mk HP25
           clear hcl25 hcc25 hfr25 hM25 HP25
           (try simp only [World.setCells, show k44.sz = 2 from rfl, Nat.add_zero] at hx17_0 hx17_1 hf17_0 hf17_1)
           refine start_ (n := 11) (S := fun w' => w'.cell? ⟨gb169, 0, none⟩ = some (.slice ((rd_T44 x11_1 x13_1).f0).A ((rd_T44 x11_1 x13_1).f0).n ((rd_T44 x11_1 x13_1).f0).c) ∧ w'.cell? ⟨gb169, 1, none⟩ = some (.int .i64 ((rd_T44 x11_1 x13_1).f1)) ∧ w'.cell? ⟨go17, ((ji12)).toNat * 2, none⟩ = some (.slice ((rd_T44 x2_1 (ji12)).f0).A ((rd_T44 x2_1 (ji12)).f0).n ((rd_T44 x2_1 (ji12)).f0).c) ∧ w'.cell? ⟨go17, ((ji12)).toNat * 2 + 1, none⟩ = some (.int .i64 ((rd_T44 x2_1 (ji12)).f1))) (ds := [10]) #[false, false, false, false, false, false, false, false, false, false, false] (by kernel_rfl) rfl rfl ⟨(blk_cell BK169.out 0).trans rfl, (blk_cell BK169.out 1).trans rfl, hx172_0, hx172_1⟩ (fun hHeld => ?_); refine with_tabW zset_sum.tab8 zset_sum.bits8 (fun HT_ HW_ => ?_)
           generalize w23.drew = w24 at HO_2 HO_11 BK169 HB GG17 HQ25 hf17_0 hf17_1 hx170_0 hx170_1 hx172_0 hx172_1 hx17_0 hx17_1 hHeld ⊢
           refine pure_ (i := 0) (N := some 38) (v := ?_) (a' := ?_) #[true, false, false, false, false, false, false, false, false, false, false] rfl rfl (any_of HT_.out (by kernel_rfl)) (fun _ _ _ h => h) (Or.inl ⟨by rfl, ?_⟩) ?_ ?_
           rotate_left
           ·intro w'
            go_simp
            with_reducible rfl
           rotate_left
           ·simp only [Act.put, List.setIfInBounds_toArray, List.set_cons_zero, List.set_cons_succ, i64_w, i32_w]
            rfl
           refine pure_ (i := 1) (N := some 39) (v := ?_) (a' := ?_) #[true, true, false, false, false, false, false, false, false, false, false] rfl rfl (any_of HT_.out (by kernel_rfl)) (fun _ _ _ h => h) (Or.inl ⟨by rfl, ?_⟩) ?_ ?_
           rotate_left
           ·intro w'
            go_simp
            with_reducible rfl
           rotate_left
           ·simp only [Act.put, List.setIfInBounds_toArray, List.set_cons_zero, List.set_cons_succ, i64_w, i32_w]
            rfl
           refine pure_ (i := 2) (N := some 40) (v := ?_) (a' := ?_) #[true, true, true, false, false, false, false, false, false, false, false] rfl rfl (any_of HT_.out (by kernel_rfl)) (fun _ _ _ h => h) (Or.inl ⟨by rfl, ?_⟩) ?_ ?_
           rotate_left
           ·intro w'
            go_simp
            with_reducible rfl
           rotate_left
           ·simp only [Act.put, List.setIfInBounds_toArray, List.set_cons_zero, List.set_cons_succ, i64_w, i32_w]
            rfl
           refine pure_ (i := 3) (N := some 41) (v := ?_) (a' := ?_) #[true, true, true, true, false, false, false, false, false, false, false] rfl rfl (any_of HT_.out (by kernel_rfl)) (fun _ _ _ h => h) (Or.inl ⟨by rfl, ?_⟩) ?_ ?_
           rotate_left
           ·intro w'
            go_simp
            with_reducible rfl
           rotate_left
           ·simp only [Act.put, List.setIfInBounds_toArray, List.set_cons_zero, List.set_cons_succ, i64_w, i32_w]
            rfl
           refine pure_ (i := 5) (N := some 43) (v := ?_) (a' := ?_) #[true, true, true, true, false, true, false, false, false, false, false] rfl rfl (any_of HT_.out (by kernel_rfl)) (fun _ _ _ h => h) (Or.inl ⟨by rfl, ?_⟩) ?_ ?_
           rotate_left
           ·intro w'
            go_simp
            with_reducible rfl
           rotate_left
           ·simp only [Act.put, List.setIfInBounds_toArray, List.set_cons_zero, List.set_cons_succ, i64_w, i32_w]
            rfl
           refine take_ (i := 4) (N := some 42) (v := ?_) (a' := ?_) #[true, true, true, true, true, true, false, false, false, false, false] rfl rfl (take_ofW HT_.out HW_.out (by kernel_rfl)) (fun _ _ _ h => h) (Or.inl ⟨by rfl, ?_⟩) hHeld ?_ ?_
           rotate_left
           ·rintro w' ⟨s0, s1, s2, s3⟩
            go_simp
            with_reducible rfl
           rotate_left
           ·simp only [Act.put, List.setIfInBounds_toArray, List.set_cons_zero, List.set_cons_succ, i64_w, i32_w]
            rfl
           refine take_ (i := 6) (N := some 44) (v := ?_) (a' := ?_) #[true, true, true, true, true, true, true, false, false, false, false] rfl rfl (take_ofW HT_.out HW_.out (by kernel_rfl)) (fun _ _ _ h => h) (Or.inl ⟨by rfl, ?_⟩) hHeld ?_ ?_
           rotate_left
           ·rintro w' ⟨s0, s1, s2, s3⟩
            go_simp
            with_reducible rfl
           rotate_left
           ·simp only [Act.put, List.setIfInBounds_toArray, List.set_cons_zero, List.set_cons_succ, i64_w, i32_w]
            rfl
           refine pure_ (i := 7) (N := some 45) (v := ?_) (a' := ?_) #[true, true, true, true, true, true, true, true, false, false, false] rfl rfl (any_of HT_.out (by kernel_rfl)) (fun _ _ _ h => h) (Or.inl ⟨by rfl, ?_⟩) ?_ ?_
           rotate_left
           ·intro w'
            go_simp
            with_reducible rfl
           rotate_left
           ·simp only [Act.put, List.setIfInBounds_toArray, List.set_cons_zero, List.set_cons_succ, i64_w, i32_w]
            rfl
           refine pure_ (i := 8) (N := some 46) (v := ?_) (a' := ?_) #[true, true, true, true, true, true, true, true, true, false, false] rfl rfl (any_of HT_.out (by kernel_rfl)) (fun _ _ _ h => h) (Or.inl ⟨by rfl, ?_⟩) ?_ ?_
           rotate_left
           ·intro w'
            go_simp
            with_reducible rfl
           rotate_left
           ·simp only [Act.put, List.setIfInBounds_toArray, List.set_cons_zero, List.set_cons_succ, i64_w, i32_w]
            rfl
           refine pure_ (i := 9) (N := some 47) (v := ?_) (a' := ?_) #[true, true, true, true, true, true, true, true, true, true, false] rfl rfl (any_of HT_.out (by kernel_rfl)) (fun _ _ _ h => h) (Or.inl ⟨by rfl, ?_⟩) ?_ ?_
           rotate_left
           ·intro w'
            go_simp
            with_reducible rfl
           rotate_left
           ·simp only [Act.put, List.setIfInBounds_toArray, List.set_cons_zero, List.set_cons_succ, i64_w, i32_w]
            rfl
           refine last_ (i := 10) (N := none) #[true, true, true, true, true, true, true, true, true, true, true] rfl rfl (one_of HT_.out (by kernel_rfl)) (by decide) (fun K hK => ?_)
           refine skip_ (w1 := ?_) (by rfl) rfl ?_ ?_
           rotate_left
           ·go_simp
            rfl
           refine hK.out _ _ ?_
           clear hK K
           refine done_ (done_of HT_.out (by kernel_rfl)) ?_
           try go_wp2
           (try simp only [← hl11_1])
           go_roundg k1
           case measure => have := HK1.out; omega
           case rel => exact ⟨(y173), (x11_1), (wrap64 (x13_1 + 1)), (by first | rfl | (simp; done) | (simp [*]; done)), H', ⟨by have := HK1.out; omega⟩, ⟨by (try simp only [hl11_1]); (with_reducible repeat (first | apply Kd.R_alloc | apply Kd.R_drewN | apply Kd.R_drew)); exact Kd.R_mono HQ25.out (fun _ hk => hk.1)⟩, ⟨by (try simp only [hl11_1]); (with_reducible repeat (first | apply Kd.R_alloc | apply Kd.R_drewN | apply Kd.R_drew)); exact Kd.R_mono (Kd.R_far (p := ⟨go17, ((ji12) : Int).toNat * 2 + 1, none⟩) (Kd.R_mono HO_11.out (fun k_ hk => (⟨hk, fun e_ => hk.1 (by rw [e_]; rfl)⟩ : _ ∧ k_ ≠ go17))) (fun _ hk => hk.2) (.int .i64 (wrap64 (((rd_T44 x2_1 (ji12)).f1) + ((rd_T44 x11_1 x13_1).f1))))) (fun _ hk => hk.1.1)⟩, ⟨by repeat (first | (with_reducible first | exact HB.out | apply below_alloc | apply pw_below_drewN | apply below_drew1 | refine below_set ?_ GB17.out | refine below_set ?_ GE169.out) | exact HB.out)⟩⟩
          ·rw [if_neg c16] at H
           have c16b0 : (t171 == 0) = false := beq_eq_false_iff_ne.mpr c16
           have c16b1 : (t171 != 0) = true := bne_iff_ne.mpr c16
           by_cases c26 : x2_1.length < 4398046511104
           ·rw [if_pos c26] at H
            have LMc26 := Aside0.mk c26
            clear c26
            obtain ⟨y174, hy174⟩ : ∃ y_ : List (S44), y_ = (x2_1 ++ [(⟨(rd_T44 x11_1 x13_1).f0, (rd_T44 x11_1 x13_1).f1⟩ : S44)]) := ⟨_, rfl⟩
            replace H : (zset_sum.l0 k1 y174 x11_1 (t164.length : Int) (wrap64 (x13_1 + 1))) = some r := by first | (rw [hy174]; with_reducible exact H) | (have H2_ := (Option.bind_some _ _).symm.trans H; rw [hy174]; with_reducible exact H2_) | (have H2_ := (Option.bind_some _ _).symm.trans H; with_reducible exact H2_) | with_reducible exact H | (rw [hy174]; exact H) | exact H
            have Ny174 := Aside0.mk hy174
            clear hy174
            have H' := Aside0.mk H
            clear H
            have p168 : 0 ≤ (x13_1 : Int) := of_decide_eq_true (by first | (with_reducible assumption) | assumption)
            have q168 : x13_1 < (x11_1.length : Int) := of_decide_eq_true (by first | (with_reducible assumption) | assumption)
            obtain ⟨ad168, e168, hx168_0, hx168_1⟩ := at_T44 (Kd.R_reads' HO_11.out).2.2 x13_1 p168 q168
            cases e168
            replace p168 := eq_true p168
            replace q168 := eq_true q168
            try go_wp2_with (first | ((with_reducible refine gate_dst (N := 5) rfl ?_); refine box_event ?hg (N := 5) ?hd (cs := #[.slice none 0 0, .int .i64 0]) (t := 44) ?hr ?_; (case hd => rfl); (case hg => rfl); (case hr => first | (go_simp; done) | (go_simp; rfl)); intro gb169 hg w27 hbox hb; have n0_ := Aside0.mk (Kd.R_below (Kd.R_elderB (qr_ HO_2.out) gb169 (Nat.le_of_eq hg.symm)) hb); have n1_ := Aside0.mk (Kd.R_below (Kd.R_elderB (qr_ HO_11.out) gb169 (Nat.le_of_eq hg.symm)) hb); have n2_ := Aside0.mk (below_step qh_ hb); have n3_ := Aside0.mk (hbox); have n4_ := Aside0.mk ((by rw [hg]; exact (below_size qh_) : w0.heap.size ≤ gb169)); have n5_ := Aside0.mk ((by rw [hg]; exact (below_size qh_) : w0.heap.size ≤ gb169)); clear HO_2; clear HO_11; clear HB; have HO_2 := n0_; have HO_11 := n1_; have HB := n2_; have BK169 := n3_; have GW169 := n4_; have GE169 := n5_; clear n0_ n1_ n2_ n3_ n4_ n5_; clear hb hbox hg; have hcz28_0 : w27.cell? ⟨gb169, 0, none⟩ = some (.slice none 0 0) := (blk_cell BK169.out 0).trans rfl; have hcz28_1 : w27.cell? ⟨gb169, 1, none⟩ = some (.int .i64 0) := (blk_cell BK169.out 1).trans rfl; have hfz28_0 := blk_frozen BK169.out 0; have hfz28_1 := blk_frozen BK169.out 1; obtain ⟨Ao29, co29, eo29⟩ := Kd.R_slice HO_2.out; subst eo29))
            have n0_ : Aside0 (Kd.R k44 44 ((w27.setCell ⟨gb169, 0, none⟩ (.slice ((rd_T44 x11_1 x13_1).f0).A ((rd_T44 x11_1 x13_1).f0).n ((rd_T44 x11_1 x13_1).f0).c)).setCell ⟨gb169, 1, none⟩ (.int .i64 ((rd_T44 x11_1 x13_1).f1))) w0.heap.size (fun k_ => some k_ ≠ (.slice (some ad168) x11_1.length co5 : Value).ownBlock ∧ k_ ≠ gb169) (.slice Ao29 x2_1.length co29) x2_1) := ⟨by (with_reducible repeat (first | apply Kd.R_alloc | apply Kd.R_drewN | apply Kd.R_drew)); exact Kd.R_mono (Kd.R_far (p := ⟨gb169, 1, none⟩) (Kd.R_far (p := ⟨gb169, 0, none⟩) (Kd.R_mono HO_2.out (fun k_ hk => (⟨hk, hk.2⟩ : _ ∧ k_ ≠ gb169))) (fun _ hk => hk.2) (.slice ((rd_T44 x11_1 x13_1).f0).A ((rd_T44 x11_1 x13_1).f0).n ((rd_T44 x11_1 x13_1).f0).c)) (fun _ hk => hk.2) (.int .i64 ((rd_T44 x11_1 x13_1).f1))) (fun _ hk => ⟨hk.1.1, hk.1.2⟩)⟩
            have n1_ : Aside0 (Kd.R k44 44 ((w27.setCell ⟨gb169, 0, none⟩ (.slice ((rd_T44 x11_1 x13_1).f0).A ((rd_T44 x11_1 x13_1).f0).n ((rd_T44 x11_1 x13_1).f0).c)).setCell ⟨gb169, 1, none⟩ (.int .i64 ((rd_T44 x11_1 x13_1).f1))) w0.heap.size (fun k_ => some k_ ≠ (.slice Ao29 x2_1.length co29 : Value).ownBlock ∧ k_ ≠ gb169) (.slice (some ad168) x11_1.length co5) x11_1) := ⟨by (with_reducible repeat (first | apply Kd.R_alloc | apply Kd.R_drewN | apply Kd.R_drew)); exact Kd.R_mono (Kd.R_far (p := ⟨gb169, 1, none⟩) (Kd.R_far (p := ⟨gb169, 0, none⟩) (Kd.R_mono HO_11.out (fun k_ hk => (⟨hk, hk.2⟩ : _ ∧ k_ ≠ gb169))) (fun _ hk => hk.2) (.slice ((rd_T44 x11_1 x13_1).f0).A ((rd_T44 x11_1 x13_1).f0).n ((rd_T44 x11_1 x13_1).f0).c)) (fun _ hk => hk.2) (.int .i64 ((rd_T44 x11_1 x13_1).f1))) (fun _ hk => ⟨hk.1.1, hk.1.2⟩)⟩
            have n2_ : Aside0 (((w27.setCell ⟨gb169, 0, none⟩ (.slice ((rd_T44 x11_1 x13_1).f0).A ((rd_T44 x11_1 x13_1).f0).n ((rd_T44 x11_1 x13_1).f0).c)).setCell ⟨gb169, 1, none⟩ (.int .i64 ((rd_T44 x11_1 x13_1).f1))).heap[gb169]? = some (.cells #[.slice ((rd_T44 x11_1 x13_1).f0).A ((rd_T44 x11_1 x13_1).f0).n ((rd_T44 x11_1 x13_1).f0).c, .int .i64 ((rd_T44 x11_1 x13_1).f1)] 44 (0, 0))) := ⟨by (with_reducible repeat (first | refine blk_drewN ?_ _ | refine blk_drew ?_ | refine blk_alloc ?_ _)); refine blk_put (cs := #[.slice ((rd_T44 x11_1 x13_1).f0).A ((rd_T44 x11_1 x13_1).f0).n ((rd_T44 x11_1 x13_1).f0).c, .int .i64 0]) ?_ 1 _ rfl; (with_reducible repeat (first | refine blk_drewN ?_ _ | refine blk_drew ?_ | refine blk_alloc ?_ _)); refine blk_put (cs := #[.slice none 0 0, .int .i64 0]) ?_ 0 _ rfl; (with_reducible repeat (first | refine blk_drewN ?_ _ | refine blk_drew ?_ | refine blk_alloc ?_ _)); exact BK169.out⟩
            have n3_ : Aside0 (Below w0.heap.size w0 ((w27.setCell ⟨gb169, 0, none⟩ (.slice ((rd_T44 x11_1 x13_1).f0).A ((rd_T44 x11_1 x13_1).f0).n ((rd_T44 x11_1 x13_1).f0).c)).setCell ⟨gb169, 1, none⟩ (.int .i64 ((rd_T44 x11_1 x13_1).f1)))) := ⟨by repeat (first | (with_reducible first | exact HB.out | apply below_alloc | apply pw_below_drewN | apply below_drew1 | refine below_set ?_ GE169.out) | exact HB.out)⟩
            (try clear HO_2)
            (try clear HO_11)
            (try clear BK169)
            (try clear HB)
            generalize ((w27.setCell ⟨gb169, 0, none⟩ (.slice ((rd_T44 x11_1 x13_1).f0).A ((rd_T44 x11_1 x13_1).f0).n ((rd_T44 x11_1 x13_1).f0).c)).setCell ⟨gb169, 1, none⟩ (.int .i64 ((rd_T44 x11_1 x13_1).f1))) = w30 at n0_ n1_ n2_ n3_ ⊢
            have HO_2 := n0_
            have HO_11 := n1_
            have BK169 := n2_
            have HB := n3_
            clear n0_ n1_ n2_ n3_
            have n0_ := Aside0.mk (Kd.R_drew HO_2.out)
            have n1_ := Aside0.mk (Kd.R_drew HO_11.out)
            have n2_ := Aside0.mk (blk_drew BK169.out)
            have n3_ := Aside0.mk (below_drew1 HB.out)
            clear HO_2
            clear HO_11
            clear BK169
            clear HB
            have HO_2 := n0_
            have HO_11 := n1_
            have BK169 := n2_
            have HB := n3_
            clear n0_ n1_ n2_ n3_
            have p170 : 0 ≤ ((ji12) : Int) := of_decide_eq_true (by first | (with_reducible assumption) | assumption)
            have q170 : (ji12) < (x2_1.length : Int) := of_decide_eq_true (by first | (with_reducible assumption) | assumption)
            obtain ⟨ad170, e170, hx170_0, hx170_1⟩ := at_T44 (Kd.R_reads' HO_2.out).2.2 (ji12) p170 q170
            cases e170
            replace p170 := eq_true p170
            replace q170 := eq_true q170
            refine start_ (n := 17) (S := fun w' => w'.cell? ⟨gb169, 0, none⟩ = some (.slice ((rd_T44 x11_1 x13_1).f0).A ((rd_T44 x11_1 x13_1).f0).n ((rd_T44 x11_1 x13_1).f0).c) ∧ w'.cell? ⟨gb169, 1, none⟩ = some (.int .i64 ((rd_T44 x11_1 x13_1).f1)) ∧ w'.cell? (ad170.add (((ji12)).toNat * 2)) = some (.slice ((rd_T44 x2_1 (ji12)).f0).A ((rd_T44 x2_1 (ji12)).f0).n ((rd_T44 x2_1 (ji12)).f0).c) ∧ w'.cell? ⟨(ad170.add (((ji12)).toNat * 2)).block, (ad170.add (((ji12)).toNat * 2)).off + 1, none⟩ = some (.int .i64 ((rd_T44 x2_1 (ji12)).f1))) (ds := []) #[false, false, false, false, false, false, false, false, false, false, false, false, false, false, false, false, false] (by kernel_rfl) rfl rfl ⟨(blk_cell BK169.out 0).trans rfl, (blk_cell BK169.out 1).trans rfl, hx170_0, hx170_1⟩ (fun hHeld => ?_); refine with_tabW zset_sum.tab7 zset_sum.bits7 (fun HT_ HW_ => ?_)
            generalize w30.drew = w31 at HO_2 HO_11 BK169 HB hx170_0 hx170_1 hHeld ⊢
            refine pure_ (i := 0) (N := some 21) (v := ?_) (a' := ?_) #[true, false, false, false, false, false, false, false, false, false, false, false, false, false, false, false, false] rfl rfl (any_of HT_.out (by kernel_rfl)) (fun _ _ _ h => h) (Or.inl ⟨by rfl, ?_⟩) ?_ ?_
            rotate_left
            ·intro w'
             go_simp
             with_reducible rfl
            rotate_left
            ·simp only [Act.put, List.setIfInBounds_toArray, List.set_cons_zero, List.set_cons_succ, i64_w, i32_w]
             rfl
            refine pure_ (i := 1) (N := some 22) (v := ?_) (a' := ?_) #[true, true, false, false, false, false, false, false, false, false, false, false, false, false, false, false, false] rfl rfl (any_of HT_.out (by kernel_rfl)) (fun _ _ _ h => h) (Or.inl ⟨by rfl, ?_⟩) ?_ ?_
            rotate_left
            ·intro w'
             go_simp
             with_reducible rfl
            rotate_left
            ·simp only [Act.put, List.setIfInBounds_toArray, List.set_cons_zero, List.set_cons_succ, i64_w, i32_w]
             rfl
            refine pure_ (i := 2) (N := some 23) (v := ?_) (a' := ?_) #[true, true, true, false, false, false, false, false, false, false, false, false, false, false, false, false, false] rfl rfl (any_of HT_.out (by kernel_rfl)) (fun _ _ _ h => h) (Or.inl ⟨by rfl, ?_⟩) ?_ ?_
            rotate_left
            ·intro w'
             go_simp
             with_reducible rfl
            rotate_left
            ·simp only [Act.put, List.setIfInBounds_toArray, List.set_cons_zero, List.set_cons_succ, i64_w, i32_w]
             rfl
            refine pure_ (i := 3) (N := some 24) (v := ?_) (a' := ?_) #[true, true, true, true, false, false, false, false, false, false, false, false, false, false, false, false, false] rfl rfl (any_of HT_.out (by kernel_rfl)) (fun _ _ _ h => h) (Or.inl ⟨by rfl, ?_⟩) ?_ ?_
            rotate_left
            ·intro w'
             go_simp
             with_reducible rfl
            rotate_left
            ·simp only [Act.put, List.setIfInBounds_toArray, List.set_cons_zero, List.set_cons_succ, i64_w, i32_w]
             rfl
            refine pure_ (i := 4) (N := some 25) (v := ?_) (a' := ?_) #[true, true, true, true, true, false, false, false, false, false, false, false, false, false, false, false, false] rfl rfl (any_of HT_.out (by kernel_rfl)) (fun _ _ _ h => h) (Or.inl ⟨by rfl, ?_⟩) ?_ ?_
            rotate_left
            ·intro w'
             go_simp
             with_reducible rfl
            rotate_left
            ·simp only [Act.put, List.setIfInBounds_toArray, List.set_cons_zero, List.set_cons_succ, i64_w, i32_w]
             rfl
            refine pure_ (i := 5) (N := some 26) (v := ?_) (a' := ?_) #[true, true, true, true, true, true, false, false, false, false, false, false, false, false, false, false, false] rfl rfl (any_of HT_.out (by kernel_rfl)) (fun _ _ _ h => h) (Or.inl ⟨by rfl, ?_⟩) ?_ ?_
            rotate_left
            ·intro w'
             go_simp
             with_reducible rfl
            rotate_left
            ·simp only [Act.put, List.setIfInBounds_toArray, List.set_cons_zero, List.set_cons_succ, i64_w, i32_w]
             rfl
            refine pure_ (i := 6) (N := some 27) (v := ?_) (a' := ?_) #[true, true, true, true, true, true, true, false, false, false, false, false, false, false, false, false, false] rfl rfl (any_of HT_.out (by kernel_rfl)) (fun _ _ _ h => h) (Or.inl ⟨by rfl, ?_⟩) ?_ ?_
            rotate_left
            ·intro w'
             go_simp
             with_reducible rfl
            rotate_left
            ·simp only [Act.put, List.setIfInBounds_toArray, List.set_cons_zero, List.set_cons_succ, i64_w, i32_w]
             rfl
            refine pure_ (i := 7) (N := some 28) (v := ?_) (a' := ?_) #[true, true, true, true, true, true, true, true, false, false, false, false, false, false, false, false, false] rfl rfl (any_of HT_.out (by kernel_rfl)) (fun _ _ _ h => h) (Or.inl ⟨by rfl, ?_⟩) ?_ ?_
            rotate_left
            ·intro w'
             go_simp
             with_reducible rfl
            rotate_left
            ·simp only [Act.put, List.setIfInBounds_toArray, List.set_cons_zero, List.set_cons_succ, i64_w, i32_w]
             rfl
            refine pure_ (i := 8) (N := some 29) (v := ?_) (a' := ?_) #[true, true, true, true, true, true, true, true, true, false, false, false, false, false, false, false, false] rfl rfl (any_of HT_.out (by kernel_rfl)) (fun _ _ _ h => h) (Or.inl ⟨by rfl, ?_⟩) ?_ ?_
            rotate_left
            ·intro w'
             go_simp
             with_reducible rfl
            rotate_left
            ·simp only [Act.put, List.setIfInBounds_toArray, List.set_cons_zero, List.set_cons_succ, i64_w, i32_w]
             rfl
            refine pure_ (i := 9) (N := some 30) (v := ?_) (a' := ?_) #[true, true, true, true, true, true, true, true, true, true, false, false, false, false, false, false, false] rfl rfl (any_of HT_.out (by kernel_rfl)) (fun _ _ _ h => h) (Or.inl ⟨by rfl, ?_⟩) ?_ ?_
            rotate_left
            ·intro w'
             go_simp
             with_reducible rfl
            rotate_left
            ·simp only [Act.put, List.setIfInBounds_toArray, List.set_cons_zero, List.set_cons_succ, i64_w, i32_w]
             rfl
            refine pure_ (i := 10) (N := some 31) (v := ?_) (a' := ?_) #[true, true, true, true, true, true, true, true, true, true, true, false, false, false, false, false, false] rfl rfl (any_of HT_.out (by kernel_rfl)) (fun _ _ _ h => h) (Or.inl ⟨by rfl, ?_⟩) ?_ ?_
            rotate_left
            ·intro w'
             go_simp
             with_reducible rfl
            rotate_left
            ·simp only [Act.put, List.setIfInBounds_toArray, List.set_cons_zero, List.set_cons_succ, i64_w, i32_w]
             rfl
            refine pure_ (i := 12) (N := some 33) (v := ?_) (a' := ?_) #[true, true, true, true, true, true, true, true, true, true, true, false, true, false, false, false, false] rfl rfl (any_of HT_.out (by kernel_rfl)) (fun _ _ _ h => h) (Or.inl ⟨by rfl, ?_⟩) ?_ ?_
            rotate_left
            ·intro w'
             go_simp
             with_reducible rfl
            rotate_left
            ·simp only [Act.put, List.setIfInBounds_toArray, List.set_cons_zero, List.set_cons_succ, i64_w, i32_w]
             rfl
            refine take_ (i := 11) (N := some 32) (v := ?_) (a' := ?_) #[true, true, true, true, true, true, true, true, true, true, true, true, true, false, false, false, false] rfl rfl (take_ofW HT_.out HW_.out (by kernel_rfl)) (fun _ _ _ h => h) (Or.inl ⟨by rfl, ?_⟩) hHeld ?_ ?_
            rotate_left
            ·rintro w' ⟨s0, s1, s2, s3⟩
             go_simp
             with_reducible rfl
            rotate_left
            ·simp only [Act.put, List.setIfInBounds_toArray, List.set_cons_zero, List.set_cons_succ, i64_w, i32_w]
             rfl
            refine take_ (i := 13) (N := some 34) (v := ?_) (a' := ?_) #[true, true, true, true, true, true, true, true, true, true, true, true, true, true, false, false, false] rfl rfl (take_ofW HT_.out HW_.out (by kernel_rfl)) (fun _ _ _ h => h) (Or.inl ⟨by rfl, ?_⟩) hHeld ?_ ?_
            rotate_left
            ·rintro w' ⟨s0, s1, s2, s3⟩
             go_simp
             with_reducible rfl
            rotate_left
            ·simp only [Act.put, List.setIfInBounds_toArray, List.set_cons_zero, List.set_cons_succ, i64_w, i32_w]
             rfl
            refine one_ (i := 14) (N := some 35) #[true, true, true, true, true, true, true, true, true, true, true, true, true, true, true, false, false] rfl rfl (one_of HT_.out (by kernel_rfl)) (by decide) (fun K hK => ?_)
            refine goes_ Try.func41 (by kernel_rfl) rfl #[.slice ((rd_T44 x2_1 (ji12)).f0).A ((rd_T44 x2_1 (ji12)).f0).n ((rd_T44 x2_1 (ji12)).f0).c, .slice ((rd_T44 x11_1 x13_1).f0).A ((rd_T44 x11_1 x13_1).f0).n ((rd_T44 x11_1 x13_1).f0).c] (by rfl) rfl rfl (by (try simp only [List.map_toArray, List.map_cons, List.map_nil]); first | done | (simp only [hji12]; rfl) | rfl | (simp only [List.length_drop, List.length_take]; rfl)) ?_
            with_reducible refine (cmprowo.calls k1 ((rd_T44 x2_1 (ji12)).f0) ((rd_T44 x11_1 x13_1).f0) t171 _ ?side1 A15.out).mono ?_
            (case side1 => repeat (first | (with_reducible first | exact HB.out | apply below_alloc | apply pw_below_drewN | apply below_drew1 | refine below_set ?_ GE169.out) | exact HB.out))
            rintro e w32 ⟨rfl, hb⟩
            have HS2_ := (hb.cell (World.block_lt_of_cell? _ _ (hHeld.2.2.1))).trans (hHeld.2.2.1)
            have HS3_ := (hb.cell (World.block_lt_of_cell? _ _ (hHeld.2.2.2))).trans (hHeld.2.2.2)
            refine ⟨_, rfl, ?_⟩
            have n0_ := Aside0.mk (Kd.R_below (qr_ HO_2.out) hb)
            have n1_ := Aside0.mk (Kd.R_below (qr_ HO_11.out) hb)
            have n2_ := Aside0.mk (blk_below (g := gb169) (o := .cells #[.slice ((rd_T44 x11_1 x13_1).f0).A ((rd_T44 x11_1 x13_1).f0).n ((rd_T44 x11_1 x13_1).f0).c, .int .i64 ((rd_T44 x11_1 x13_1).f1)] 44 (0, 0)) (qb_ BK169.out) hb)
            have n3_ := Aside0.mk (below_step (by repeat (first | (with_reducible first | exact HB.out | apply below_alloc | apply pw_below_drewN | apply below_drew1 | refine below_set ?_ GE169.out) | exact HB.out)) hb)
            clear HO_2
            clear HO_11
            clear BK169
            clear HB
            have HO_2 := n0_
            have HO_11 := n1_
            have BK169 := n2_
            have HB := n3_
            clear n0_ n1_ n2_ n3_
            (try clear hb)
            (try clear hb2)
            (try clear hk)
            (try clear hi)
            refine hK.out _ _ ⟨(blk_cell BK169.out 0).trans rfl, (blk_cell BK169.out 1).trans rfl, HS2_, HS3_⟩ (fun hHeld => ?_)
            clear hK K
            refine norm_ (a' := ?_) ?_ ?_
            rotate_left
            ·show Act.put _ (some 35) _ = _
             simp only [Act.put, List.setIfInBounds_toArray, List.set_cons_zero, List.set_cons_succ, i64_w, i32_w]
             rfl
            refine pure_ (i := 15) (N := some 36) (v := ?_) (a' := ?_) #[true, true, true, true, true, true, true, true, true, true, true, true, true, true, true, true, false] rfl rfl (any_of HT_.out (by kernel_rfl)) (fun _ _ _ h => h) (Or.inl ⟨by rfl, ?_⟩) ?_ ?_
            rotate_left
            ·intro w'
             go_simp
             with_reducible rfl
            rotate_left
            ·simp only [Act.put, List.setIfInBounds_toArray, List.set_cons_zero, List.set_cons_succ, i64_w, i32_w]
             rfl
            refine pure_ (i := 16) (N := some 37) (v := ?_) (a' := ?_) #[true, true, true, true, true, true, true, true, true, true, true, true, true, true, true, true, true] rfl rfl (any_of HT_.out (by kernel_rfl)) (fun _ _ _ h => h) (Or.inl ⟨by rfl, ?_⟩) ?_ ?_
            rotate_left
            ·intro w'
             go_simp
             with_reducible rfl
            rotate_left
            ·simp only [Act.put, List.setIfInBounds_toArray, List.set_cons_zero, List.set_cons_succ, i64_w, i32_w]
             rfl
            refine done_ (done_of HT_.out (by kernel_rfl)) ?_
            have hcz33_0 : w32.cell? ⟨gb169, 0, none⟩ = some (.slice ((rd_T44 x11_1 x13_1).f0).A ((rd_T44 x11_1 x13_1).f0).n ((rd_T44 x11_1 x13_1).f0).c) := (blk_cell BK169.out 0).trans rfl
            have hcz33_1 : w32.cell? ⟨gb169, 1, none⟩ = some (.int .i64 ((rd_T44 x11_1 x13_1).f1)) := (blk_cell BK169.out 1).trans rfl
            have hfz33_0 := blk_frozen BK169.out 0
            have hfz33_1 := blk_frozen BK169.out 1
            try go_wp2_with (first | ((with_reducible refine gate_builtin (b := .append) (xs := #[.tmp 48, .tmp 50]) rfl ?_); at_builtin; refine Kd.R_append k44 (w0 := w0) w0.heap.size rfl (.tmp 48) (.tmp 50) 31 44 (.agg #[(.slice none 0 0), (.int .i64 0)]) 32 rfl Try.underlying31 info44 rfl (by decide) (by omega) (.slice (some ad170) x2_1.length co29) x2_1 (⟨(rd_T44 x11_1 x13_1).f0, (rd_T44 x11_1 x13_1).f1⟩ : S44) [.slice ((rd_T44 x11_1 x13_1).f0).A ((rd_T44 x11_1 x13_1).f0).n ((rd_T44 x11_1 x13_1).f0).c, .int .i64 ((rd_T44 x11_1 x13_1).f1)] (fun k_ => some k_ ≠ (.slice (some ad168) x11_1.length co5 : Value).ownBlock ∧ k_ ≠ gb169) (fun _ => False) rfl rfl ?aP (fun _ hk => hk.elim) ?aF ?aO ?aB ?aS ?aL ?_; (case aP => exact k44_mkM _ _ _ (⟨(rd_T44 x11_1 x13_1).f0, (rd_T44 x11_1 x13_1).f1⟩ : S44)); (case aB => exact (by repeat (first | (with_reducible first | exact HB.out | apply below_alloc | apply pw_below_drewN | apply below_drew1 | refine below_set ?_ GE169.out) | exact HB.out))); (case aF => exact (fun k_ hk => ⟨Kd.fresh' (Kd.R_lt (qr_ HO_11.out)) k_ hk, Kd.freshB (g := gb169) (o := .cells #[.slice ((rd_T44 x11_1 x13_1).f0).A ((rd_T44 x11_1 x13_1).f0).n ((rd_T44 x11_1 x13_1).f0).c, .int .i64 ((rd_T44 x11_1 x13_1).f1)] 44 (0, 0)) (qb_ BK169.out) k_ hk⟩)); (case aO => exact (qr_ HO_2.out)); (case aS => exact (below_size (by repeat (first | (with_reducible first | exact HB.out | apply below_alloc | apply pw_below_drewN | apply below_drew1 | refine below_set ?_ GE169.out) | exact HB.out)))); (case aL => have := LMc26.out; omega); intro v175 w34 ho hb hg hat; rw [← Ny174.out] at ho; have n0_ := Aside0.mk (Kd.R_after (ok := (fun k_ => k_ ≠ gb169)) (by (with_reducible repeat (first | apply Kd.R_alloc | apply Kd.R_drewN | apply Kd.R_drew)); exact Kd.R_mono HO_11.out (fun _ hk => ⟨hk.2, hk.1⟩)) hg hat); have n1_ := Aside0.mk (blk_grown (g := gb169) (o := .cells #[.slice ((rd_T44 x11_1 x13_1).f0).A ((rd_T44 x11_1 x13_1).f0).n ((rd_T44 x11_1 x13_1).f0).c, .int .i64 ((rd_T44 x11_1 x13_1).f1)] 44 (0, 0)) (qb_ BK169.out) hg (Kd.R_away HO_2.out (fun _ hk => hk.2))); have n2_ := Aside0.mk (hb); have n3_ := Aside0.mk (ho); clear HO_11; clear BK169; clear HB; clear HO_2; have HO_11 := n0_; have BK169 := n1_; have HB := n2_; have HO176 := n3_; clear n0_ n1_ n2_ n3_; clear ho hb hg hat))
            (try simp only [← hl11_1])
            go_roundg k1
            case measure => have := HK1.out; omega
            case rel => exact ⟨(y174), (x11_1), (wrap64 (x13_1 + 1)), (by first | rfl | (simp; done) | (simp [*]; done)), H', ⟨by have := HK1.out; omega⟩, ⟨by (try simp only [hl11_1]); (with_reducible repeat (first | apply Kd.R_alloc | apply Kd.R_drewN | apply Kd.R_drew)); exact Kd.R_mono HO176.out (fun _ hk => hk.1)⟩, ⟨by (try simp only [hl11_1]); (with_reducible repeat (first | apply Kd.R_alloc | apply Kd.R_drewN | apply Kd.R_drew)); exact Kd.R_mono HO_11.out (fun _ hk => hk.2)⟩, ⟨by repeat (first | (with_reducible first | exact HB.out | apply below_alloc | apply pw_below_drewN | apply below_drew1 | refine below_set ?_ GE169.out) | exact HB.out)⟩⟩
           ·rw [if_neg c26] at H
            exact absurd H (by simp)
         ·rw [if_neg c14] at H
          exact absurd H (by simp)
        ·rw [if_neg c13] at H
         exact absurd H (by simp)
       ·rw [if_neg c11] at H
        have c11b0 : decide (0 ≤ (wrap64 ((x2_1.length : Int) - 1))) = false := decide_eq_false c11
        (try simp only [hl11_1] at c11b0)
        clear c11
        by_cases c35 : x2_1.length < 4398046511104
        ·rw [if_pos c35] at H
         have LMc35 := Aside0.mk c35
         clear c35
         obtain ⟨y177, hy177⟩ : ∃ y_ : List (S44), y_ = (x2_1 ++ [(⟨(rd_T44 x11_1 x13_1).f0, (rd_T44 x11_1 x13_1).f1⟩ : S44)]) := ⟨_, rfl⟩
         replace H : (zset_sum.l0 k1 y177 x11_1 (t164.length : Int) (wrap64 (x13_1 + 1))) = some r := by first | (rw [hy177]; with_reducible exact H) | (have H2_ := (Option.bind_some _ _).symm.trans H; rw [hy177]; with_reducible exact H2_) | (have H2_ := (Option.bind_some _ _).symm.trans H; with_reducible exact H2_) | with_reducible exact H | (rw [hy177]; exact H) | exact H
         have Ny177 := Aside0.mk hy177
         clear hy177
         have H' := Aside0.mk H
         clear H
         have p168 : 0 ≤ (x13_1 : Int) := of_decide_eq_true (by first | (with_reducible assumption) | assumption)
         have q168 : x13_1 < (x11_1.length : Int) := of_decide_eq_true (by first | (with_reducible assumption) | assumption)
         obtain ⟨ad168, e168, hx168_0, hx168_1⟩ := at_T44 (Kd.R_reads' HO_11.out).2.2 x13_1 p168 q168
         cases e168
         replace p168 := eq_true p168
         replace q168 := eq_true q168
         try go_wp2_with (first | ((with_reducible refine gate_dst (N := 5) rfl ?_); refine box_event ?hg (N := 5) ?hd (cs := #[.slice none 0 0, .int .i64 0]) (t := 44) ?hr ?_; (case hd => rfl); (case hg => rfl); (case hr => first | (go_simp; done) | (go_simp; rfl)); intro gb169 hg w36 hbox hb; have n0_ := Aside0.mk (Kd.R_below (Kd.R_elderB (qr_ HO_2.out) gb169 (Nat.le_of_eq hg.symm)) hb); have n1_ := Aside0.mk (Kd.R_below (Kd.R_elderB (qr_ HO_11.out) gb169 (Nat.le_of_eq hg.symm)) hb); have n2_ := Aside0.mk (below_step qh_ hb); have n3_ := Aside0.mk (hbox); have n4_ := Aside0.mk ((by rw [hg]; exact (below_size qh_) : w0.heap.size ≤ gb169)); have n5_ := Aside0.mk ((by rw [hg]; exact (below_size qh_) : w0.heap.size ≤ gb169)); clear HO_2; clear HO_11; clear HB; have HO_2 := n0_; have HO_11 := n1_; have HB := n2_; have BK169 := n3_; have GW169 := n4_; have GE169 := n5_; clear n0_ n1_ n2_ n3_ n4_ n5_; clear hb hbox hg; have hcz37_0 : w36.cell? ⟨gb169, 0, none⟩ = some (.slice none 0 0) := (blk_cell BK169.out 0).trans rfl; have hcz37_1 : w36.cell? ⟨gb169, 1, none⟩ = some (.int .i64 0) := (blk_cell BK169.out 1).trans rfl; have hfz37_0 := blk_frozen BK169.out 0; have hfz37_1 := blk_frozen BK169.out 1; obtain ⟨Ao38, co38, eo38⟩ := Kd.R_slice HO_2.out; subst eo38))
         have n0_ : Aside0 (Kd.R k44 44 ((w36.setCell ⟨gb169, 0, none⟩ (.slice ((rd_T44 x11_1 x13_1).f0).A ((rd_T44 x11_1 x13_1).f0).n ((rd_T44 x11_1 x13_1).f0).c)).setCell ⟨gb169, 1, none⟩ (.int .i64 ((rd_T44 x11_1 x13_1).f1))) w0.heap.size (fun k_ => some k_ ≠ (.slice (some ad168) x11_1.length co5 : Value).ownBlock ∧ k_ ≠ gb169) (.slice Ao38 x2_1.length co38) x2_1) := ⟨by (with_reducible repeat (first | apply Kd.R_alloc | apply Kd.R_drewN | apply Kd.R_drew)); exact Kd.R_mono (Kd.R_far (p := ⟨gb169, 1, none⟩) (Kd.R_far (p := ⟨gb169, 0, none⟩) (Kd.R_mono HO_2.out (fun k_ hk => (⟨hk, hk.2⟩ : _ ∧ k_ ≠ gb169))) (fun _ hk => hk.2) (.slice ((rd_T44 x11_1 x13_1).f0).A ((rd_T44 x11_1 x13_1).f0).n ((rd_T44 x11_1 x13_1).f0).c)) (fun _ hk => hk.2) (.int .i64 ((rd_T44 x11_1 x13_1).f1))) (fun _ hk => ⟨hk.1.1, hk.1.2⟩)⟩
         have n1_ : Aside0 (Kd.R k44 44 ((w36.setCell ⟨gb169, 0, none⟩ (.slice ((rd_T44 x11_1 x13_1).f0).A ((rd_T44 x11_1 x13_1).f0).n ((rd_T44 x11_1 x13_1).f0).c)).setCell ⟨gb169, 1, none⟩ (.int .i64 ((rd_T44 x11_1 x13_1).f1))) w0.heap.size (fun k_ => some k_ ≠ (.slice Ao38 x2_1.length co38 : Value).ownBlock ∧ k_ ≠ gb169) (.slice (some ad168) x11_1.length co5) x11_1) := ⟨by (with_reducible repeat (first | apply Kd.R_alloc | apply Kd.R_drewN | apply Kd.R_drew)); exact Kd.R_mono (Kd.R_far (p := ⟨gb169, 1, none⟩) (Kd.R_far (p := ⟨gb169, 0, none⟩) (Kd.R_mono HO_11.out (fun k_ hk => (⟨hk, hk.2⟩ : _ ∧ k_ ≠ gb169))) (fun _ hk => hk.2) (.slice ((rd_T44 x11_1 x13_1).f0).A ((rd_T44 x11_1 x13_1).f0).n ((rd_T44 x11_1 x13_1).f0).c)) (fun _ hk => hk.2) (.int .i64 ((rd_T44 x11_1 x13_1).f1))) (fun _ hk => ⟨hk.1.1, hk.1.2⟩)⟩
         have n2_ : Aside0 (((w36.setCell ⟨gb169, 0, none⟩ (.slice ((rd_T44 x11_1 x13_1).f0).A ((rd_T44 x11_1 x13_1).f0).n ((rd_T44 x11_1 x13_1).f0).c)).setCell ⟨gb169, 1, none⟩ (.int .i64 ((rd_T44 x11_1 x13_1).f1))).heap[gb169]? = some (.cells #[.slice ((rd_T44 x11_1 x13_1).f0).A ((rd_T44 x11_1 x13_1).f0).n ((rd_T44 x11_1 x13_1).f0).c, .int .i64 ((rd_T44 x11_1 x13_1).f1)] 44 (0, 0))) := ⟨by (with_reducible repeat (first | refine blk_drewN ?_ _ | refine blk_drew ?_ | refine blk_alloc ?_ _)); refine blk_put (cs := #[.slice ((rd_T44 x11_1 x13_1).f0).A ((rd_T44 x11_1 x13_1).f0).n ((rd_T44 x11_1 x13_1).f0).c, .int .i64 0]) ?_ 1 _ rfl; (with_reducible repeat (first | refine blk_drewN ?_ _ | refine blk_drew ?_ | refine blk_alloc ?_ _)); refine blk_put (cs := #[.slice none 0 0, .int .i64 0]) ?_ 0 _ rfl; (with_reducible repeat (first | refine blk_drewN ?_ _ | refine blk_drew ?_ | refine blk_alloc ?_ _)); exact BK169.out⟩
         have n3_ : Aside0 (Below w0.heap.size w0 ((w36.setCell ⟨gb169, 0, none⟩ (.slice ((rd_T44 x11_1 x13_1).f0).A ((rd_T44 x11_1 x13_1).f0).n ((rd_T44 x11_1 x13_1).f0).c)).setCell ⟨gb169, 1, none⟩ (.int .i64 ((rd_T44 x11_1 x13_1).f1)))) := ⟨by repeat (first | (with_reducible first | exact HB.out | apply below_alloc | apply pw_below_drewN | apply below_drew1 | refine below_set ?_ GE169.out) | exact HB.out)⟩
         (try clear HO_2)
         (try clear HO_11)
         (try clear BK169)
         (try clear HB)
         generalize ((w36.setCell ⟨gb169, 0, none⟩ (.slice ((rd_T44 x11_1 x13_1).f0).A ((rd_T44 x11_1 x13_1).f0).n ((rd_T44 x11_1 x13_1).f0).c)).setCell ⟨gb169, 1, none⟩ (.int .i64 ((rd_T44 x11_1 x13_1).f1))) = w39 at n0_ n1_ n2_ n3_ ⊢
         have HO_2 := n0_
         have HO_11 := n1_
         have BK169 := n2_
         have HB := n3_
         clear n0_ n1_ n2_ n3_
         have n0_ := Aside0.mk (Kd.R_drew HO_2.out)
         have n1_ := Aside0.mk (Kd.R_drew HO_11.out)
         have n2_ := Aside0.mk (blk_drew BK169.out)
         have n3_ := Aside0.mk (below_drew1 HB.out)
         clear HO_2
         clear HO_11
         clear BK169
         clear HB
         have HO_2 := n0_
         have HO_11 := n1_
         have BK169 := n2_
         have HB := n3_
         clear n0_ n1_ n2_ n3_
         refine start_ (n := 17) (S := fun w' => True) (ds := []) #[false, false, false, false, false, false, false, false, false, false, false, false, false, false, false, false, false] (by kernel_rfl) rfl rfl trivial (fun hHeld => ?_); refine with_tabW zset_sum.tab7 zset_sum.bits7 (fun HT_ HW_ => ?_)
         generalize w39.drew = w40 at HO_2 HO_11 BK169 HB hHeld ⊢
         refine pure_ (i := 0) (N := some 21) (v := ?_) (a' := ?_) #[true, false, false, false, false, false, false, false, false, false, false, false, false, false, false, false, false] rfl rfl (any_of HT_.out (by kernel_rfl)) (fun _ _ _ h => h) (Or.inl ⟨by rfl, ?_⟩) ?_ ?_
         rotate_left
         ·intro w'
          go_simp
          with_reducible rfl
         rotate_left
         ·simp only [Act.put, List.setIfInBounds_toArray, List.set_cons_zero, List.set_cons_succ, i64_w, i32_w]
          rfl
         refine pure_ (i := 1) (N := some 22) (v := ?_) (a' := ?_) #[true, true, false, false, false, false, false, false, false, false, false, false, false, false, false, false, false] rfl rfl (any_of HT_.out (by kernel_rfl)) (fun _ _ _ h => h) (Or.inl ⟨by rfl, ?_⟩) ?_ ?_
         rotate_left
         ·intro w'
          go_simp
          with_reducible rfl
         rotate_left
         ·simp only [Act.put, List.setIfInBounds_toArray, List.set_cons_zero, List.set_cons_succ, i64_w, i32_w]
          rfl
         refine pure_ (i := 2) (N := some 23) (v := ?_) (a' := ?_) #[true, true, true, false, false, false, false, false, false, false, false, false, false, false, false, false, false] rfl rfl (any_of HT_.out (by kernel_rfl)) (fun _ _ _ h => h) (Or.inl ⟨by rfl, ?_⟩) ?_ ?_
         rotate_left
         ·intro w'
          go_simp
          with_reducible rfl
         rotate_left
         ·simp only [Act.put, List.setIfInBounds_toArray, List.set_cons_zero, List.set_cons_succ, i64_w, i32_w]
          rfl
         refine pure_ (i := 3) (N := some 24) (v := ?_) (a' := ?_) #[true, true, true, true, false, false, false, false, false, false, false, false, false, false, false, false, false] rfl rfl (any_of HT_.out (by kernel_rfl)) (fun _ _ _ h => h) (Or.inl ⟨by rfl, ?_⟩) ?_ ?_
         rotate_left
         ·intro w'
          go_simp
          with_reducible rfl
         rotate_left
         ·simp only [Act.put, List.setIfInBounds_toArray, List.set_cons_zero, List.set_cons_succ, i64_w, i32_w]
          rfl
         refine pure_ (i := 4) (N := some 25) (v := ?_) (a' := ?_) #[true, true, true, true, true, false, false, false, false, false, false, false, false, false, false, false, false] rfl rfl (any_of HT_.out (by kernel_rfl)) (fun _ _ _ h => h) (Or.inl ⟨by rfl, ?_⟩) ?_ ?_
         rotate_left
         ·intro w'
          go_simp
          with_reducible rfl
         rotate_left
         ·simp only [Act.put, List.setIfInBounds_toArray, List.set_cons_zero, List.set_cons_succ, i64_w, i32_w]
          rfl
         refine pure_ (i := 5) (N := some 26) (v := ?_) (a' := ?_) #[true, true, true, true, true, true, false, false, false, false, false, false, false, false, false, false, false] rfl rfl (any_of HT_.out (by kernel_rfl)) (fun _ _ _ h => h) (Or.inl ⟨by rfl, ?_⟩) ?_ ?_
         rotate_left
         ·intro w'
          go_simp
          with_reducible rfl
         rotate_left
         ·simp only [Act.put, List.setIfInBounds_toArray, List.set_cons_zero, List.set_cons_succ, i64_w, i32_w]
          rfl
         refine pure_ (i := 6) (N := some 27) (v := ?_) (a' := ?_) #[true, true, true, true, true, true, true, false, false, false, false, false, false, false, false, false, false] rfl rfl (any_of HT_.out (by kernel_rfl)) (fun _ _ _ h => h) (Or.inl ⟨by rfl, ?_⟩) ?_ ?_
         rotate_left
         ·intro w'
          go_simp
          with_reducible rfl
         rotate_left
         ·simp only [Act.put, List.setIfInBounds_toArray, List.set_cons_zero, List.set_cons_succ, i64_w, i32_w]
          rfl
         refine pure_ (i := 7) (N := some 28) (v := undef) (a' := ?_) #[true, true, true, true, true, true, true, true, false, false, false, false, false, false, false, false, false] rfl rfl (any_of HT_.out (by kernel_rfl)) (fun _ _ _ h => h) (Or.inr ⟨by rfl, rfl⟩) ?_ ?_
         rotate_left
         ·simp only [Act.put, List.setIfInBounds_toArray, List.set_cons_zero, List.set_cons_succ, i64_w, i32_w]
          rfl
         refine pure_ (i := 8) (N := some 29) (v := undef) (a' := ?_) #[true, true, true, true, true, true, true, true, true, false, false, false, false, false, false, false, false] rfl rfl (any_of HT_.out (by kernel_rfl)) (fun _ _ _ h => h) (Or.inr ⟨by rfl, rfl⟩) ?_ ?_
         rotate_left
         ·simp only [Act.put, List.setIfInBounds_toArray, List.set_cons_zero, List.set_cons_succ, i64_w, i32_w]
          rfl
         refine pure_ (i := 9) (N := some 30) (v := undef) (a' := ?_) #[true, true, true, true, true, true, true, true, true, true, false, false, false, false, false, false, false] rfl rfl (any_of HT_.out (by kernel_rfl)) (fun _ _ _ h => h) (Or.inr ⟨by rfl, rfl⟩) ?_ ?_
         rotate_left
         ·simp only [Act.put, List.setIfInBounds_toArray, List.set_cons_zero, List.set_cons_succ, i64_w, i32_w]
          rfl
         refine pure_ (i := 10) (N := some 31) (v := undef) (a' := ?_) #[true, true, true, true, true, true, true, true, true, true, true, false, false, false, false, false, false] rfl rfl (any_of HT_.out (by kernel_rfl)) (fun _ _ _ h => h) (Or.inr ⟨by rfl, rfl⟩) ?_ ?_
         rotate_left
         ·simp only [Act.put, List.setIfInBounds_toArray, List.set_cons_zero, List.set_cons_succ, i64_w, i32_w]
          rfl
         refine pure_ (i := 11) (N := some 32) (v := undef) (a' := ?_) #[true, true, true, true, true, true, true, true, true, true, true, true, false, false, false, false, false] rfl rfl (any_of HT_.out (by kernel_rfl)) (fun _ _ _ h => h) (Or.inr ⟨by rfl, rfl⟩) ?_ ?_
         rotate_left
         ·simp only [Act.put, List.setIfInBounds_toArray, List.set_cons_zero, List.set_cons_succ, i64_w, i32_w]
          rfl
         refine pure_ (i := 12) (N := some 33) (v := undef) (a' := ?_) #[true, true, true, true, true, true, true, true, true, true, true, true, true, false, false, false, false] rfl rfl (any_of HT_.out (by kernel_rfl)) (fun _ _ _ h => h) (Or.inr ⟨by rfl, rfl⟩) ?_ ?_
         rotate_left
         ·simp only [Act.put, List.setIfInBounds_toArray, List.set_cons_zero, List.set_cons_succ, i64_w, i32_w]
          rfl
         refine pure_ (i := 13) (N := some 34) (v := undef) (a' := ?_) #[true, true, true, true, true, true, true, true, true, true, true, true, true, true, false, false, false] rfl rfl (any_of HT_.out (by kernel_rfl)) (fun _ _ _ h => h) (Or.inr ⟨by rfl, rfl⟩) ?_ ?_
         rotate_left
         ·simp only [Act.put, List.setIfInBounds_toArray, List.set_cons_zero, List.set_cons_succ, i64_w, i32_w]
          rfl
         refine pure_ (i := 14) (N := some 35) (v := undef) (a' := ?_) #[true, true, true, true, true, true, true, true, true, true, true, true, true, true, true, false, false] rfl rfl (any_of HT_.out (by kernel_rfl)) (fun _ _ _ h => h) (Or.inr ⟨by rfl, rfl⟩) ?_ ?_
         rotate_left
         ·simp only [Act.put, List.setIfInBounds_toArray, List.set_cons_zero, List.set_cons_succ, i64_w, i32_w]
          rfl
         refine pure_ (i := 15) (N := some 36) (v := undef) (a' := ?_) #[true, true, true, true, true, true, true, true, true, true, true, true, true, true, true, true, false] rfl rfl (any_of HT_.out (by kernel_rfl)) (fun _ _ _ h => h) (Or.inr ⟨by rfl, rfl⟩) ?_ ?_
         rotate_left
         ·simp only [Act.put, List.setIfInBounds_toArray, List.set_cons_zero, List.set_cons_succ, i64_w, i32_w]
          rfl
         refine pure_ (i := 16) (N := some 37) (v := ?_) (a' := ?_) #[true, true, true, true, true, true, true, true, true, true, true, true, true, true, true, true, true] rfl rfl (any_of HT_.out (by kernel_rfl)) (fun _ _ _ h => h) (Or.inl ⟨by rfl, ?_⟩) ?_ ?_
         rotate_left
         ·intro w'
          go_simp
          with_reducible rfl
         rotate_left
         ·simp only [Act.put, List.setIfInBounds_toArray, List.set_cons_zero, List.set_cons_succ, i64_w, i32_w]
          rfl
         refine done_ (done_of HT_.out (by kernel_rfl)) ?_
         have hcz41_0 : w40.cell? ⟨gb169, 0, none⟩ = some (.slice ((rd_T44 x11_1 x13_1).f0).A ((rd_T44 x11_1 x13_1).f0).n ((rd_T44 x11_1 x13_1).f0).c) := (blk_cell BK169.out 0).trans rfl
         have hcz41_1 : w40.cell? ⟨gb169, 1, none⟩ = some (.int .i64 ((rd_T44 x11_1 x13_1).f1)) := (blk_cell BK169.out 1).trans rfl
         have hfz41_0 := blk_frozen BK169.out 0
         have hfz41_1 := blk_frozen BK169.out 1
         try go_wp2_with (first | ((with_reducible refine gate_builtin (b := .append) (xs := #[.tmp 48, .tmp 50]) rfl ?_); at_builtin; refine Kd.R_append k44 (w0 := w0) w0.heap.size rfl (.tmp 48) (.tmp 50) 31 44 (.agg #[(.slice none 0 0), (.int .i64 0)]) 32 rfl Try.underlying31 info44 rfl (by decide) (by omega) (.slice Ao38 x2_1.length co38) x2_1 (⟨(rd_T44 x11_1 x13_1).f0, (rd_T44 x11_1 x13_1).f1⟩ : S44) [.slice ((rd_T44 x11_1 x13_1).f0).A ((rd_T44 x11_1 x13_1).f0).n ((rd_T44 x11_1 x13_1).f0).c, .int .i64 ((rd_T44 x11_1 x13_1).f1)] (fun k_ => some k_ ≠ (.slice (some ad168) x11_1.length co5 : Value).ownBlock ∧ k_ ≠ gb169) (fun _ => False) rfl rfl ?aP (fun _ hk => hk.elim) ?aF ?aO ?aB ?aS ?aL ?_; (case aP => exact k44_mkM _ _ _ (⟨(rd_T44 x11_1 x13_1).f0, (rd_T44 x11_1 x13_1).f1⟩ : S44)); (case aB => exact (by repeat (first | (with_reducible first | exact HB.out | apply below_alloc | apply pw_below_drewN | apply below_drew1 | refine below_set ?_ GE169.out) | exact HB.out))); (case aF => exact (fun k_ hk => ⟨Kd.fresh' (Kd.R_lt (qr_ HO_11.out)) k_ hk, Kd.freshB (g := gb169) (o := .cells #[.slice ((rd_T44 x11_1 x13_1).f0).A ((rd_T44 x11_1 x13_1).f0).n ((rd_T44 x11_1 x13_1).f0).c, .int .i64 ((rd_T44 x11_1 x13_1).f1)] 44 (0, 0)) (qb_ BK169.out) k_ hk⟩)); (case aO => exact (qr_ HO_2.out)); (case aS => exact (below_size (by repeat (first | (with_reducible first | exact HB.out | apply below_alloc | apply pw_below_drewN | apply below_drew1 | refine below_set ?_ GE169.out) | exact HB.out)))); (case aL => have := LMc35.out; omega); intro v178 w42 ho hb hg hat; rw [← Ny177.out] at ho; have n0_ := Aside0.mk (Kd.R_after (ok := (fun k_ => k_ ≠ gb169)) (by (with_reducible repeat (first | apply Kd.R_alloc | apply Kd.R_drewN | apply Kd.R_drew)); exact Kd.R_mono HO_11.out (fun _ hk => ⟨hk.2, hk.1⟩)) hg hat); have n1_ := Aside0.mk (blk_grown (g := gb169) (o := .cells #[.slice ((rd_T44 x11_1 x13_1).f0).A ((rd_T44 x11_1 x13_1).f0).n ((rd_T44 x11_1 x13_1).f0).c, .int .i64 ((rd_T44 x11_1 x13_1).f1)] 44 (0, 0)) (qb_ BK169.out) hg (Kd.R_away HO_2.out (fun _ hk => hk.2))); have n2_ := Aside0.mk (hb); have n3_ := Aside0.mk (ho); clear HO_11; clear BK169; clear HB; clear HO_2; have HO_11 := n0_; have BK169 := n1_; have HB := n2_; have HO179 := n3_; clear n0_ n1_ n2_ n3_; clear ho hb hg hat))
         (try simp only [← hl11_1])
         go_roundg k1
         case measure => have := HK1.out; omega
         case rel => exact ⟨(y177), (x11_1), (wrap64 (x13_1 + 1)), (by first | rfl | (simp; done) | (simp [*]; done)), H', ⟨by have := HK1.out; omega⟩, ⟨by (try simp only [hl11_1]); (with_reducible repeat (first | apply Kd.R_alloc | apply Kd.R_drewN | apply Kd.R_drew)); exact Kd.R_mono HO179.out (fun _ hk => hk.1)⟩, ⟨by (try simp only [hl11_1]); (with_reducible repeat (first | apply Kd.R_alloc | apply Kd.R_drewN | apply Kd.R_drew)); exact Kd.R_mono HO_11.out (fun _ hk => hk.2)⟩, ⟨by repeat (first | (with_reducible first | exact HB.out | apply below_alloc | apply pw_below_drewN | apply below_drew1 | refine below_set ?_ GE169.out) | exact HB.out)⟩⟩
        ·rw [if_neg c35] at H
         exact absurd H (by simp)
      ·rw [if_neg c10] at H
       have c10b0 : decide (0 < x13_1) = false := decide_eq_false c10
       clear c10
       by_cases c43 : x2_1.length < 4398046511104
       ·rw [if_pos c43] at H
        have LMc43 := Aside0.mk c43
        clear c43
        obtain ⟨y180, hy180⟩ : ∃ y_ : List (S44), y_ = (x2_1 ++ [(⟨(rd_T44 x11_1 x13_1).f0, (rd_T44 x11_1 x13_1).f1⟩ : S44)]) := ⟨_, rfl⟩
        replace H : (zset_sum.l0 k1 y180 x11_1 (t164.length : Int) (wrap64 (x13_1 + 1))) = some r := by first | (rw [hy180]; with_reducible exact H) | (have H2_ := (Option.bind_some _ _).symm.trans H; rw [hy180]; with_reducible exact H2_) | (have H2_ := (Option.bind_some _ _).symm.trans H; with_reducible exact H2_) | with_reducible exact H | (rw [hy180]; exact H) | exact H
        have Ny180 := Aside0.mk hy180
        clear hy180
        have H' := Aside0.mk H
        clear H
        have p168 : 0 ≤ (x13_1 : Int) := of_decide_eq_true (by first | (with_reducible assumption) | assumption)
        have q168 : x13_1 < (x11_1.length : Int) := of_decide_eq_true (by first | (with_reducible assumption) | assumption)
        obtain ⟨ad168, e168, hx168_0, hx168_1⟩ := at_T44 (Kd.R_reads' HO_11.out).2.2 x13_1 p168 q168
        cases e168
        replace p168 := eq_true p168
        replace q168 := eq_true q168
        try go_wp2_with (first | ((with_reducible refine gate_dst (N := 5) rfl ?_); refine box_event ?hg (N := 5) ?hd (cs := #[.slice none 0 0, .int .i64 0]) (t := 44) ?hr ?_; (case hd => rfl); (case hg => rfl); (case hr => first | (go_simp; done) | (go_simp; rfl)); intro gb169 hg w44 hbox hb; have n0_ := Aside0.mk (Kd.R_below (Kd.R_elderB (qr_ HO_2.out) gb169 (Nat.le_of_eq hg.symm)) hb); have n1_ := Aside0.mk (Kd.R_below (Kd.R_elderB (qr_ HO_11.out) gb169 (Nat.le_of_eq hg.symm)) hb); have n2_ := Aside0.mk (below_step qh_ hb); have n3_ := Aside0.mk (hbox); have n4_ := Aside0.mk ((by rw [hg]; exact (below_size qh_) : w0.heap.size ≤ gb169)); have n5_ := Aside0.mk ((by rw [hg]; exact (below_size qh_) : w0.heap.size ≤ gb169)); clear HO_2; clear HO_11; clear HB; have HO_2 := n0_; have HO_11 := n1_; have HB := n2_; have BK169 := n3_; have GW169 := n4_; have GE169 := n5_; clear n0_ n1_ n2_ n3_ n4_ n5_; clear hb hbox hg; have hcz45_0 : w44.cell? ⟨gb169, 0, none⟩ = some (.slice none 0 0) := (blk_cell BK169.out 0).trans rfl; have hcz45_1 : w44.cell? ⟨gb169, 1, none⟩ = some (.int .i64 0) := (blk_cell BK169.out 1).trans rfl; have hfz45_0 := blk_frozen BK169.out 0; have hfz45_1 := blk_frozen BK169.out 1; obtain ⟨Ao46, co46, eo46⟩ := Kd.R_slice HO_2.out; subst eo46))
        have n0_ : Aside0 (Kd.R k44 44 ((w44.setCell ⟨gb169, 0, none⟩ (.slice ((rd_T44 x11_1 x13_1).f0).A ((rd_T44 x11_1 x13_1).f0).n ((rd_T44 x11_1 x13_1).f0).c)).setCell ⟨gb169, 1, none⟩ (.int .i64 ((rd_T44 x11_1 x13_1).f1))) w0.heap.size (fun k_ => some k_ ≠ (.slice (some ad168) x11_1.length co5 : Value).ownBlock ∧ k_ ≠ gb169) (.slice Ao46 x2_1.length co46) x2_1) := ⟨by (with_reducible repeat (first | apply Kd.R_alloc | apply Kd.R_drewN | apply Kd.R_drew)); exact Kd.R_mono (Kd.R_far (p := ⟨gb169, 1, none⟩) (Kd.R_far (p := ⟨gb169, 0, none⟩) (Kd.R_mono HO_2.out (fun k_ hk => (⟨hk, hk.2⟩ : _ ∧ k_ ≠ gb169))) (fun _ hk => hk.2) (.slice ((rd_T44 x11_1 x13_1).f0).A ((rd_T44 x11_1 x13_1).f0).n ((rd_T44 x11_1 x13_1).f0).c)) (fun _ hk => hk.2) (.int .i64 ((rd_T44 x11_1 x13_1).f1))) (fun _ hk => ⟨hk.1.1, hk.1.2⟩)⟩
        have n1_ : Aside0 (Kd.R k44 44 ((w44.setCell ⟨gb169, 0, none⟩ (.slice ((rd_T44 x11_1 x13_1).f0).A ((rd_T44 x11_1 x13_1).f0).n ((rd_T44 x11_1 x13_1).f0).c)).setCell ⟨gb169, 1, none⟩ (.int .i64 ((rd_T44 x11_1 x13_1).f1))) w0.heap.size (fun k_ => some k_ ≠ (.slice Ao46 x2_1.length co46 : Value).ownBlock ∧ k_ ≠ gb169) (.slice (some ad168) x11_1.length co5) x11_1) := ⟨by (with_reducible repeat (first | apply Kd.R_alloc | apply Kd.R_drewN | apply Kd.R_drew)); exact Kd.R_mono (Kd.R_far (p := ⟨gb169, 1, none⟩) (Kd.R_far (p := ⟨gb169, 0, none⟩) (Kd.R_mono HO_11.out (fun k_ hk => (⟨hk, hk.2⟩ : _ ∧ k_ ≠ gb169))) (fun _ hk => hk.2) (.slice ((rd_T44 x11_1 x13_1).f0).A ((rd_T44 x11_1 x13_1).f0).n ((rd_T44 x11_1 x13_1).f0).c)) (fun _ hk => hk.2) (.int .i64 ((rd_T44 x11_1 x13_1).f1))) (fun _ hk => ⟨hk.1.1, hk.1.2⟩)⟩
        have n2_ : Aside0 (((w44.setCell ⟨gb169, 0, none⟩ (.slice ((rd_T44 x11_1 x13_1).f0).A ((rd_T44 x11_1 x13_1).f0).n ((rd_T44 x11_1 x13_1).f0).c)).setCell ⟨gb169, 1, none⟩ (.int .i64 ((rd_T44 x11_1 x13_1).f1))).heap[gb169]? = some (.cells #[.slice ((rd_T44 x11_1 x13_1).f0).A ((rd_T44 x11_1 x13_1).f0).n ((rd_T44 x11_1 x13_1).f0).c, .int .i64 ((rd_T44 x11_1 x13_1).f1)] 44 (0, 0))) := ⟨by (with_reducible repeat (first | refine blk_drewN ?_ _ | refine blk_drew ?_ | refine blk_alloc ?_ _)); refine blk_put (cs := #[.slice ((rd_T44 x11_1 x13_1).f0).A ((rd_T44 x11_1 x13_1).f0).n ((rd_T44 x11_1 x13_1).f0).c, .int .i64 0]) ?_ 1 _ rfl; (with_reducible repeat (first | refine blk_drewN ?_ _ | refine blk_drew ?_ | refine blk_alloc ?_ _)); refine blk_put (cs := #[.slice none 0 0, .int .i64 0]) ?_ 0 _ rfl; (with_reducible repeat (first | refine blk_drewN ?_ _ | refine blk_drew ?_ | refine blk_alloc ?_ _)); exact BK169.out⟩
        have n3_ : Aside0 (Below w0.heap.size w0 ((w44.setCell ⟨gb169, 0, none⟩ (.slice ((rd_T44 x11_1 x13_1).f0).A ((rd_T44 x11_1 x13_1).f0).n ((rd_T44 x11_1 x13_1).f0).c)).setCell ⟨gb169, 1, none⟩ (.int .i64 ((rd_T44 x11_1 x13_1).f1)))) := ⟨by repeat (first | (with_reducible first | exact HB.out | apply below_alloc | apply pw_below_drewN | apply below_drew1 | refine below_set ?_ GE169.out) | exact HB.out)⟩
        (try clear HO_2)
        (try clear HO_11)
        (try clear BK169)
        (try clear HB)
        generalize ((w44.setCell ⟨gb169, 0, none⟩ (.slice ((rd_T44 x11_1 x13_1).f0).A ((rd_T44 x11_1 x13_1).f0).n ((rd_T44 x11_1 x13_1).f0).c)).setCell ⟨gb169, 1, none⟩ (.int .i64 ((rd_T44 x11_1 x13_1).f1))) = w47 at n0_ n1_ n2_ n3_ ⊢
        have HO_2 := n0_
        have HO_11 := n1_
        have BK169 := n2_
        have HB := n3_
        clear n0_ n1_ n2_ n3_
        have n0_ := Aside0.mk (Kd.R_drew HO_2.out)
        have n1_ := Aside0.mk (Kd.R_drew HO_11.out)
        have n2_ := Aside0.mk (blk_drew BK169.out)
        have n3_ := Aside0.mk (below_drew1 HB.out)
        clear HO_2
        clear HO_11
        clear BK169
        clear HB
        have HO_2 := n0_
        have HO_11 := n1_
        have BK169 := n2_
        have HB := n3_
        clear n0_ n1_ n2_ n3_
        refine start_ (n := 17) (S := fun w' => True) (ds := []) #[false, false, false, false, false, false, false, false, false, false, false, false, false, false, false, false, false] (by kernel_rfl) rfl rfl trivial (fun hHeld => ?_); refine with_tabW zset_sum.tab7 zset_sum.bits7 (fun HT_ HW_ => ?_)
        generalize w47.drew = w48 at HO_2 HO_11 BK169 HB hHeld ⊢
        refine pure_ (i := 0) (N := some 21) (v := ?_) (a' := ?_) #[true, false, false, false, false, false, false, false, false, false, false, false, false, false, false, false, false] rfl rfl (any_of HT_.out (by kernel_rfl)) (fun _ _ _ h => h) (Or.inl ⟨by rfl, ?_⟩) ?_ ?_
        rotate_left
        ·intro w'
         go_simp
         with_reducible rfl
        rotate_left
        ·simp only [Act.put, List.setIfInBounds_toArray, List.set_cons_zero, List.set_cons_succ, i64_w, i32_w]
         rfl
        refine pure_ (i := 1) (N := some 22) (v := ?_) (a' := ?_) #[true, true, false, false, false, false, false, false, false, false, false, false, false, false, false, false, false] rfl rfl (any_of HT_.out (by kernel_rfl)) (fun _ _ _ h => h) (Or.inl ⟨by rfl, ?_⟩) ?_ ?_
        rotate_left
        ·intro w'
         go_simp
         with_reducible rfl
        rotate_left
        ·simp only [Act.put, List.setIfInBounds_toArray, List.set_cons_zero, List.set_cons_succ, i64_w, i32_w]
         rfl
        refine pure_ (i := 2) (N := some 23) (v := ?_) (a' := ?_) #[true, true, true, false, false, false, false, false, false, false, false, false, false, false, false, false, false] rfl rfl (any_of HT_.out (by kernel_rfl)) (fun _ _ _ h => h) (Or.inl ⟨by rfl, ?_⟩) ?_ ?_
        rotate_left
        ·intro w'
         go_simp
         with_reducible rfl
        rotate_left
        ·simp only [Act.put, List.setIfInBounds_toArray, List.set_cons_zero, List.set_cons_succ, i64_w, i32_w]
         rfl
        refine pure_ (i := 3) (N := some 24) (v := undef) (a' := ?_) #[true, true, true, true, false, false, false, false, false, false, false, false, false, false, false, false, false] rfl rfl (any_of HT_.out (by kernel_rfl)) (fun _ _ _ h => h) (Or.inr ⟨by rfl, rfl⟩) ?_ ?_
        rotate_left
        ·simp only [Act.put, List.setIfInBounds_toArray, List.set_cons_zero, List.set_cons_succ, i64_w, i32_w]
         rfl
        refine pure_ (i := 4) (N := some 25) (v := undef) (a' := ?_) #[true, true, true, true, true, false, false, false, false, false, false, false, false, false, false, false, false] rfl rfl (any_of HT_.out (by kernel_rfl)) (fun _ _ _ h => h) (Or.inr ⟨by rfl, rfl⟩) ?_ ?_
        rotate_left
        ·simp only [Act.put, List.setIfInBounds_toArray, List.set_cons_zero, List.set_cons_succ, i64_w, i32_w]
         rfl
        refine pure_ (i := 5) (N := some 26) (v := ?_) (a' := ?_) #[true, true, true, true, true, true, false, false, false, false, false, false, false, false, false, false, false] rfl rfl (any_of HT_.out (by kernel_rfl)) (fun _ _ _ h => h) (Or.inl ⟨by rfl, ?_⟩) ?_ ?_
        rotate_left
        ·intro w'
         go_simp
         with_reducible rfl
        rotate_left
        ·simp only [Act.put, List.setIfInBounds_toArray, List.set_cons_zero, List.set_cons_succ, i64_w, i32_w]
         rfl
        refine pure_ (i := 6) (N := some 27) (v := ?_) (a' := ?_) #[true, true, true, true, true, true, true, false, false, false, false, false, false, false, false, false, false] rfl rfl (any_of HT_.out (by kernel_rfl)) (fun _ _ _ h => h) (Or.inl ⟨by rfl, ?_⟩) ?_ ?_
        rotate_left
        ·intro w'
         go_simp
         with_reducible rfl
        rotate_left
        ·simp only [Act.put, List.setIfInBounds_toArray, List.set_cons_zero, List.set_cons_succ, i64_w, i32_w]
         rfl
        refine pure_ (i := 7) (N := some 28) (v := undef) (a' := ?_) #[true, true, true, true, true, true, true, true, false, false, false, false, false, false, false, false, false] rfl rfl (any_of HT_.out (by kernel_rfl)) (fun _ _ _ h => h) (Or.inr ⟨by rfl, rfl⟩) ?_ ?_
        rotate_left
        ·simp only [Act.put, List.setIfInBounds_toArray, List.set_cons_zero, List.set_cons_succ, i64_w, i32_w]
         rfl
        refine pure_ (i := 8) (N := some 29) (v := undef) (a' := ?_) #[true, true, true, true, true, true, true, true, true, false, false, false, false, false, false, false, false] rfl rfl (any_of HT_.out (by kernel_rfl)) (fun _ _ _ h => h) (Or.inr ⟨by rfl, rfl⟩) ?_ ?_
        rotate_left
        ·simp only [Act.put, List.setIfInBounds_toArray, List.set_cons_zero, List.set_cons_succ, i64_w, i32_w]
         rfl
        refine pure_ (i := 9) (N := some 30) (v := undef) (a' := ?_) #[true, true, true, true, true, true, true, true, true, true, false, false, false, false, false, false, false] rfl rfl (any_of HT_.out (by kernel_rfl)) (fun _ _ _ h => h) (Or.inr ⟨by rfl, rfl⟩) ?_ ?_
        rotate_left
        ·simp only [Act.put, List.setIfInBounds_toArray, List.set_cons_zero, List.set_cons_succ, i64_w, i32_w]
         rfl
        refine pure_ (i := 10) (N := some 31) (v := undef) (a' := ?_) #[true, true, true, true, true, true, true, true, true, true, true, false, false, false, false, false, false] rfl rfl (any_of HT_.out (by kernel_rfl)) (fun _ _ _ h => h) (Or.inr ⟨by rfl, rfl⟩) ?_ ?_
        rotate_left
        ·simp only [Act.put, List.setIfInBounds_toArray, List.set_cons_zero, List.set_cons_succ, i64_w, i32_w]
         rfl
        refine pure_ (i := 11) (N := some 32) (v := undef) (a' := ?_) #[true, true, true, true, true, true, true, true, true, true, true, true, false, false, false, false, false] rfl rfl (any_of HT_.out (by kernel_rfl)) (fun _ _ _ h => h) (Or.inr ⟨by rfl, rfl⟩) ?_ ?_
        rotate_left
        ·simp only [Act.put, List.setIfInBounds_toArray, List.set_cons_zero, List.set_cons_succ, i64_w, i32_w]
         rfl
        refine pure_ (i := 12) (N := some 33) (v := undef) (a' := ?_) #[true, true, true, true, true, true, true, true, true, true, true, true, true, false, false, false, false] rfl rfl (any_of HT_.out (by kernel_rfl)) (fun _ _ _ h => h) (Or.inr ⟨by rfl, rfl⟩) ?_ ?_
        rotate_left
        ·simp only [Act.put, List.setIfInBounds_toArray, List.set_cons_zero, List.set_cons_succ, i64_w, i32_w]
         rfl
        refine pure_ (i := 13) (N := some 34) (v := undef) (a' := ?_) #[true, true, true, true, true, true, true, true, true, true, true, true, true, true, false, false, false] rfl rfl (any_of HT_.out (by kernel_rfl)) (fun _ _ _ h => h) (Or.inr ⟨by rfl, rfl⟩) ?_ ?_
        rotate_left
        ·simp only [Act.put, List.setIfInBounds_toArray, List.set_cons_zero, List.set_cons_succ, i64_w, i32_w]
         rfl
        refine pure_ (i := 14) (N := some 35) (v := undef) (a' := ?_) #[true, true, true, true, true, true, true, true, true, true, true, true, true, true, true, false, false] rfl rfl (any_of HT_.out (by kernel_rfl)) (fun _ _ _ h => h) (Or.inr ⟨by rfl, rfl⟩) ?_ ?_
        rotate_left
        ·simp only [Act.put, List.setIfInBounds_toArray, List.set_cons_zero, List.set_cons_succ, i64_w, i32_w]
         rfl
        refine pure_ (i := 15) (N := some 36) (v := undef) (a' := ?_) #[true, true, true, true, true, true, true, true, true, true, true, true, true, true, true, true, false] rfl rfl (any_of HT_.out (by kernel_rfl)) (fun _ _ _ h => h) (Or.inr ⟨by rfl, rfl⟩) ?_ ?_
        rotate_left
        ·simp only [Act.put, List.setIfInBounds_toArray, List.set_cons_zero, List.set_cons_succ, i64_w, i32_w]
         rfl
        refine pure_ (i := 16) (N := some 37) (v := ?_) (a' := ?_) #[true, true, true, true, true, true, true, true, true, true, true, true, true, true, true, true, true] rfl rfl (any_of HT_.out (by kernel_rfl)) (fun _ _ _ h => h) (Or.inl ⟨by rfl, ?_⟩) ?_ ?_
        rotate_left
        ·intro w'
         go_simp
         with_reducible rfl
        rotate_left
        ·simp only [Act.put, List.setIfInBounds_toArray, List.set_cons_zero, List.set_cons_succ, i64_w, i32_w]
         rfl
        refine done_ (done_of HT_.out (by kernel_rfl)) ?_
        have hcz49_0 : w48.cell? ⟨gb169, 0, none⟩ = some (.slice ((rd_T44 x11_1 x13_1).f0).A ((rd_T44 x11_1 x13_1).f0).n ((rd_T44 x11_1 x13_1).f0).c) := (blk_cell BK169.out 0).trans rfl
        have hcz49_1 : w48.cell? ⟨gb169, 1, none⟩ = some (.int .i64 ((rd_T44 x11_1 x13_1).f1)) := (blk_cell BK169.out 1).trans rfl
        have hfz49_0 := blk_frozen BK169.out 0
        have hfz49_1 := blk_frozen BK169.out 1
        try go_wp2_with (first | ((with_reducible refine gate_builtin (b := .append) (xs := #[.tmp 48, .tmp 50]) rfl ?_); at_builtin; refine Kd.R_append k44 (w0 := w0) w0.heap.size rfl (.tmp 48) (.tmp 50) 31 44 (.agg #[(.slice none 0 0), (.int .i64 0)]) 32 rfl Try.underlying31 info44 rfl (by decide) (by omega) (.slice Ao46 x2_1.length co46) x2_1 (⟨(rd_T44 x11_1 x13_1).f0, (rd_T44 x11_1 x13_1).f1⟩ : S44) [.slice ((rd_T44 x11_1 x13_1).f0).A ((rd_T44 x11_1 x13_1).f0).n ((rd_T44 x11_1 x13_1).f0).c, .int .i64 ((rd_T44 x11_1 x13_1).f1)] (fun k_ => some k_ ≠ (.slice (some ad168) x11_1.length co5 : Value).ownBlock ∧ k_ ≠ gb169) (fun _ => False) rfl rfl ?aP (fun _ hk => hk.elim) ?aF ?aO ?aB ?aS ?aL ?_; (case aP => exact k44_mkM _ _ _ (⟨(rd_T44 x11_1 x13_1).f0, (rd_T44 x11_1 x13_1).f1⟩ : S44)); (case aB => exact (by repeat (first | (with_reducible first | exact HB.out | apply below_alloc | apply pw_below_drewN | apply below_drew1 | refine below_set ?_ GE169.out) | exact HB.out))); (case aF => exact (fun k_ hk => ⟨Kd.fresh' (Kd.R_lt (qr_ HO_11.out)) k_ hk, Kd.freshB (g := gb169) (o := .cells #[.slice ((rd_T44 x11_1 x13_1).f0).A ((rd_T44 x11_1 x13_1).f0).n ((rd_T44 x11_1 x13_1).f0).c, .int .i64 ((rd_T44 x11_1 x13_1).f1)] 44 (0, 0)) (qb_ BK169.out) k_ hk⟩)); (case aO => exact (qr_ HO_2.out)); (case aS => exact (below_size (by repeat (first | (with_reducible first | exact HB.out | apply below_alloc | apply pw_below_drewN | apply below_drew1 | refine below_set ?_ GE169.out) | exact HB.out)))); (case aL => have := LMc43.out; omega); intro v181 w50 ho hb hg hat; rw [← Ny180.out] at ho; have n0_ := Aside0.mk (Kd.R_after (ok := (fun k_ => k_ ≠ gb169)) (by (with_reducible repeat (first | apply Kd.R_alloc | apply Kd.R_drewN | apply Kd.R_drew)); exact Kd.R_mono HO_11.out (fun _ hk => ⟨hk.2, hk.1⟩)) hg hat); have n1_ := Aside0.mk (blk_grown (g := gb169) (o := .cells #[.slice ((rd_T44 x11_1 x13_1).f0).A ((rd_T44 x11_1 x13_1).f0).n ((rd_T44 x11_1 x13_1).f0).c, .int .i64 ((rd_T44 x11_1 x13_1).f1)] 44 (0, 0)) (qb_ BK169.out) hg (Kd.R_away HO_2.out (fun _ hk => hk.2))); have n2_ := Aside0.mk (hb); have n3_ := Aside0.mk (ho); clear HO_11; clear BK169; clear HB; clear HO_2; have HO_11 := n0_; have BK169 := n1_; have HB := n2_; have HO182 := n3_; clear n0_ n1_ n2_ n3_; clear ho hb hg hat))
        (try simp only [← hl11_1])
        go_roundg k1
        case measure => have := HK1.out; omega
        case rel => exact ⟨(y180), (x11_1), (wrap64 (x13_1 + 1)), (by first | rfl | (simp; done) | (simp [*]; done)), H', ⟨by have := HK1.out; omega⟩, ⟨by (try simp only [hl11_1]); (with_reducible repeat (first | apply Kd.R_alloc | apply Kd.R_drewN | apply Kd.R_drew)); exact Kd.R_mono HO182.out (fun _ hk => hk.1)⟩, ⟨by (try simp only [hl11_1]); (with_reducible repeat (first | apply Kd.R_alloc | apply Kd.R_drewN | apply Kd.R_drew)); exact Kd.R_mono HO_11.out (fun _ hk => hk.2)⟩, ⟨by repeat (first | (with_reducible first | exact HB.out | apply below_alloc | apply pw_below_drewN | apply below_drew1 | refine below_set ?_ GE169.out) | exact HB.out)⟩⟩
       ·rw [if_neg c43] at H
        exact absurd H (by simp)
     ·rw [if_neg c9] at H
      exact absurd H (by simp)
    ·rw [if_neg c8] at H
     exact absurd H (by simp)
   ·rw [if_neg c7] at H
    have c7b0 : decide (x13_1 < (t164.length : Int)) = false := decide_eq_false c7
    (try simp only [hl11_1] at c7b0)
    clear c7
    replace H := Option.bind_eq_some_iff.mp H
    obtain ⟨t183, A510, H⟩ := H
    replace H : (some t183) = some r := H
    have A51 := Aside0.mk A510
    clear A510
    obtain rfl := Option.some.inj H
    obtain ⟨Ao52, co52, eo52⟩ := Kd.R_slice HO_2.out
    subst eo52
    go_wp2_with (first | ((with_reducible refine gate_callee (f := 42) rfl ?_); refine goesL_ (some 54) rfl rfl Try.func42 (by kernel_rfl) rfl #[.slice Ao52 x2_1.length co52, .func (.func 43) #[] #[]] rfl (by (try simp only [List.map_toArray, List.map_cons, List.map_nil]); first | done | rfl | (simp only [List.length_drop, List.length_take]; rfl)) ?_; (with_reducible refine (api_Weighted_42.calls k1 (fun k_ => some k_ = (.slice Ao52 x2_1.length co52 : Value).ownBlock) (.slice Ao52 x2_1.length co52) x2_1  t183 _ ?side1 ?side2 A51.out).mono ?_); (case side1 => repeat (first | (with_reducible first | exact HB.out | apply below_alloc | apply pw_below_drewN | apply below_drew1) | exact HB.out)); (case side2 => exact Kd.R_tight rfl HO_2.out); rintro e w53 ⟨v184, rfl, ho0, hb, hkp⟩; refine ⟨_, rfl, ?_⟩; have n0_ := Aside0.mk (Kd.R_mono (ok' := fun k_ => some k_ ≠ (v184 : Value).ownBlock) (Kd.R_keptB (HO_11.out) hkp (fun k_ hk_ hs_ => (hk_) hs_)) (fun k_ hk_ => fun e_ => Or.elim (ho0.1 k_ e_.symm) (fun hs_ => hk_.2.1 hs_) (fun hn_ => Nat.not_le.2 hk_.2.2 hn_))); have n1_ := Aside0.mk (Kd.R_mono (ok' := fun k_ => some k_ ≠ (.slice Ao5 x11_1.length co5 : Value).ownBlock) ho0 (fun k_ hk_ => Or.elim hk_ (fun hs_ => fun e_ => (((HO_11.out).1 k_ e_.symm)) hs_) (fun hn_ => (Kd.fresh' (Kd.R_lt (qr_ HO_11.out)) k_ hn_)))); have n2_ := Aside0.mk (hb); clear HO_11; clear HB; clear HO_2; have HO_11 := n0_; have HO185 := n1_; have HB := n2_; clear n0_ n1_ n2_; (try clear hb); (try clear hkp); (try clear ho0)))
    go_ret
    exact ⟨_, by first | rfl | (simp [errW_none, errW_some] <;> rfl) | (simp [*, errW_none, errW_some] <;> rfl), by (with_reducible repeat (first | apply Kd.R_alloc | apply Kd.R_drewN | apply Kd.R_drew)); exact Kd.R_mono HO185.out (fun _ hk => trivial), qh_⟩
end Go.Proofs.Ytgapgdnbgimdlaa.PO
end
