import Derived.Test.YtgapgdnbgimdlaaSq3
section
namespace Go.Proofs.Ytgapgdnbgimdlaa.PA
open Go.RowKit Go.Proofs.YtgapgdnbgimdlaaW.PrintWords Go.Proofs.YtgapgdnbgimdlaaW.PrintLast Go.Proofs.YtgapgdnbgimdlaaW.PrintMore
attribute [local go_sem] max2_int min2_int max_two min_two max_three min_three max_four min_four
set_option linter.unusedVariables false
set_option linter.unusedSimpArgs false
mutual
def eval_Eval.l0 : Nat → List (S44) → List (S44) → Int → Int → Int → ByteArray → ByteArray → List Int → List Int → Int → Int → Int → ByteArray → List (S46) → Option ((List (S44)))
 | 0, _, _, _, _, _, _, _, _, _, _, _, _, _, _ => none
 | k + 1, x7, x35, x36, x37, x155000, x155001, x155002, x155003, x155004, x155005, x155006, x155007, x155008, x155009 => if x37 < x36 then (if 0 ≤ x37 then (if x37 < (x35.length : Int) then ((eval_Picked.f k ((rd_T44 x35 x37).f0) x155003).bind fun t178 => (if (t178.length : Int) > 0 then (if 0 < (t178.length : Int) then ((eval_Holds.f x155005 ((rd_T23 t178 0).f0) ((rd_T23 t178 0).f1) ((rd_T23 t178 0).f2) x155006 x155007 x155008).bind fun t182 => (if t182 = true then (if x7.length < 4398046511104 then (eval_Eval.l0 k (x7 ++ [(⟨(rd_T44 x35 x37).f0, (rd_T44 x35 x37).f1⟩ : S44)]) x35 x36 (wrap64 (x37 + 1)) x155000 x155001 x155002 x155003 x155004 x155005 x155006 x155007 x155008 x155009) else (none)) else (eval_Eval.l0 k x7 x35 x36 (wrap64 (x37 + 1)) x155000 x155001 x155002 x155003 x155004 x155005 x155006 x155007 x155008 x155009))) else (none)) else (eval_Eval.l0 k x7 x35 x36 (wrap64 (x37 + 1)) x155000 x155001 x155002 x155003 x155004 x155005 x155006 x155007 x155008 x155009))) else (none)) else (none)) else ((zset_Norm.f x7).bind fun t173 => (some t173))
def eval_Eval.l1 : Nat → List (S44) → List (S44) → Int → Int → Int → ByteArray → ByteArray → List Int → List Int → Int → Int → Int → ByteArray → List (S46) → Option ((List (S44)))
 | 0, _, _, _, _, _, _, _, _, _, _, _, _, _, _ => none
 | k + 1, x7, x66, x67, x68, x155000, x155001, x155002, x155003, x155004, x155005, x155006, x155007, x155008, x155009 => if x68 < x67 then (if 0 ≤ x68 then (if x68 < (x66.length : Int) then ((eval_Picked.f k ((rd_T44 x66 x68).f0) x155003).bind fun t188 => (if x7.length < 4398046511104 then (eval_Eval.l1 k (x7 ++ [(⟨t188, (rd_T44 x66 x68).f1⟩ : S44)]) x66 x67 (wrap64 (x68 + 1)) x155000 x155001 x155002 x155003 x155004 x155005 x155006 x155007 x155008 x155009) else (none))) else (none)) else (none)) else ((zset_Norm.f x7).bind fun t194 => (some t194))
def eval_Eval.l2 : Nat → List (S44) → List (S44) → Int → Int → Option ((List (S44)))
 | 0, _, _, _, _ => none
 | k + 1, x7, x92, x93, x94 => if x94 < x93 then (if 0 ≤ x94 then (if x94 < (x92.length : Int) then (if ((rd_T44 x92 x94).f1) > 0 then (if x7.length < 4398046511104 then (eval_Eval.l2 k (x7 ++ [(⟨(rd_T44 x92 x94).f0, 1⟩ : S44)]) x92 x93 (wrap64 (x94 + 1))) else (none)) else (eval_Eval.l2 k x7 x92 x93 (wrap64 (x94 + 1)))) else (none)) else (none)) else ((zset_Norm.f x7).bind fun t202 => (some t202))
end
def eval_Eval.f (k : Nat) (a0_0 : Int) (a0_1 : ByteArray) (a0_2 : ByteArray) (l0_3 : List Int) (l0_4 : List Int) (a0_5 : Int) (a0_6 : Int) (a0_7 : Int) (a0_8 : ByteArray) (l0_9 : List (S46)) (l1 : List (S44)) (l2 : List (S44)) : Option ((List (S44))) := (zset_Norm.f l1).bind fun t155 => ((zset_Norm.f l2).bind fun t158 => (if a0_0 = 1 then ((zset_Norm.f t155).bind fun t161 => (some t161)) else (if a0_0 = 5 then ((api_Weighted_22.f k (([t155, t158] : List (List (S44))))).bind fun t167 => ((zset_Norm.f t167).bind fun t170 => (some t170))) else (if a0_0 = 2 then (eval_Eval.l0 k ([] : List (S44)) t155 (t155.length : Int) 0 a0_0 a0_1 a0_2 l0_3 l0_4 a0_5 a0_6 a0_7 a0_8 l0_9) else (if a0_0 = 3 then (eval_Eval.l1 k ([] : List (S44)) t155 (t155.length : Int) 0 a0_0 a0_1 a0_2 l0_3 l0_4 a0_5 a0_6 a0_7 a0_8 l0_9) else (if a0_0 = 4 then (none) else (if a0_0 = 6 then (eval_Eval.l2 k ([] : List (S44)) t155 (t155.length : Int) 0) else (if a0_0 = 7 then (none) else ((zset_Norm.f ([] : List (S44))).bind fun t205 => (some t205))))))))))
theorem eval_Eval.mono_l : ∀ k, (∀ y0 y1 y2 y3 y4 y5 y6 y7 y8 y9 y10 y11 y12 y13, LeO (eval_Eval.l0 k y0 y1 y2 y3 y4 y5 y6 y7 y8 y9 y10 y11 y12 y13) (eval_Eval.l0 (k + 1) y0 y1 y2 y3 y4 y5 y6 y7 y8 y9 y10 y11 y12 y13)) ∧ (∀ y0 y1 y2 y3 y4 y5 y6 y7 y8 y9 y10 y11 y12 y13, LeO (eval_Eval.l1 k y0 y1 y2 y3 y4 y5 y6 y7 y8 y9 y10 y11 y12 y13) (eval_Eval.l1 (k + 1) y0 y1 y2 y3 y4 y5 y6 y7 y8 y9 y10 y11 y12 y13)) ∧ (∀ y0 y1 y2 y3, LeO (eval_Eval.l2 k y0 y1 y2 y3) (eval_Eval.l2 (k + 1) y0 y1 y2 y3))
 | 0 => ⟨fun _ _ _ _ _ _ _ _ _ _ _ _ _ _ r h => by simp [eval_Eval.l0] at h, fun _ _ _ _ _ _ _ _ _ _ _ _ _ _ r h => by simp [eval_Eval.l1] at h, fun _ _ _ _ r h => by simp [eval_Eval.l2] at h⟩
 | k + 1 => by
  obtain ⟨ih0, ih1, ih2⟩ := eval_Eval.mono_l k
  refine ⟨?_, ?_, ?_⟩
  ·intro y0 y1 y2 y3 y4 y5 y6 y7 y8 y9 y10 y11 y12 y13
   unfold eval_Eval.l0
   repeat' first
   | (with_reducible exact ih0 _ _ _ _ _ _ _ _ _ _ _ _ _ _)
   | (with_reducible exact ih1 _ _ _ _ _ _ _ _ _ _ _ _ _ _)
   | (with_reducible exact ih2 _ _ _ _)
   | (with_reducible exact api_Weighted_22.mono _ _)
   | (with_reducible exact eval_Picked.mono _ _ _)
   | (with_reducible exact LeO.refl _)
   | (with_reducible exact LeO.none _)
   | (with_reducible refine LeO.ite ?_ ?_)
   | (with_reducible refine LeO.bind ?_ (fun _ => ?_))
   | exact ih0 _ _ _ _ _ _ _ _ _ _ _ _ _ _
   | exact ih1 _ _ _ _ _ _ _ _ _ _ _ _ _ _
   | exact ih2 _ _ _ _
   | exact api_Weighted_22.mono _ _
   | exact eval_Picked.mono _ _ _
   | exact LeO.none _
   | refine LeO.ite ?_ ?_
   | refine LeO.bind ?_ (fun _ => ?_)
  ·intro y0 y1 y2 y3 y4 y5 y6 y7 y8 y9 y10 y11 y12 y13
   unfold eval_Eval.l1
   repeat' first
   | (with_reducible exact ih0 _ _ _ _ _ _ _ _ _ _ _ _ _ _)
   | (with_reducible exact ih1 _ _ _ _ _ _ _ _ _ _ _ _ _ _)
   | (with_reducible exact ih2 _ _ _ _)
   | (with_reducible exact api_Weighted_22.mono _ _)
   | (with_reducible exact eval_Picked.mono _ _ _)
   | (with_reducible exact LeO.refl _)
   | (with_reducible exact LeO.none _)
   | (with_reducible refine LeO.ite ?_ ?_)
   | (with_reducible refine LeO.bind ?_ (fun _ => ?_))
   | exact ih0 _ _ _ _ _ _ _ _ _ _ _ _ _ _
   | exact ih1 _ _ _ _ _ _ _ _ _ _ _ _ _ _
   | exact ih2 _ _ _ _
   | exact api_Weighted_22.mono _ _
   | exact eval_Picked.mono _ _ _
   | exact LeO.none _
   | refine LeO.ite ?_ ?_
   | refine LeO.bind ?_ (fun _ => ?_)
  ·intro y0 y1 y2 y3
   unfold eval_Eval.l2
   repeat' first
   | (with_reducible exact ih0 _ _ _ _ _ _ _ _ _ _ _ _ _ _)
   | (with_reducible exact ih1 _ _ _ _ _ _ _ _ _ _ _ _ _ _)
   | (with_reducible exact ih2 _ _ _ _)
   | (with_reducible exact api_Weighted_22.mono _ _)
   | (with_reducible exact eval_Picked.mono _ _ _)
   | (with_reducible exact LeO.refl _)
   | (with_reducible exact LeO.none _)
   | (with_reducible refine LeO.ite ?_ ?_)
   | (with_reducible refine LeO.bind ?_ (fun _ => ?_))
   | exact ih0 _ _ _ _ _ _ _ _ _ _ _ _ _ _
   | exact ih1 _ _ _ _ _ _ _ _ _ _ _ _ _ _
   | exact ih2 _ _ _ _
   | exact api_Weighted_22.mono _ _
   | exact eval_Picked.mono _ _ _
   | exact LeO.none _
   | refine LeO.ite ?_ ?_
   | refine LeO.bind ?_ (fun _ => ?_)
theorem eval_Eval.mono : ∀ a0 a1 a2 a3 a4 a5 a6 a7 a8 a9 a10 a11 k, LeO (eval_Eval.f k a0 a1 a2 a3 a4 a5 a6 a7 a8 a9 a10 a11) (eval_Eval.f (k + 1) a0 a1 a2 a3 a4 a5 a6 a7 a8 a9 a10 a11) := by
 intro a0 a1 a2 a3 a4 a5 a6 a7 a8 a9 a10 a11 k
 obtain ⟨ih0, ih1, ih2⟩ := eval_Eval.mono_l k
 unfold eval_Eval.f
 repeat' first
   | (with_reducible exact ih0 _ _ _ _ _ _ _ _ _ _ _ _ _ _)
   | (with_reducible exact ih1 _ _ _ _ _ _ _ _ _ _ _ _ _ _)
   | (with_reducible exact ih2 _ _ _ _)
   | (with_reducible exact api_Weighted_22.mono _ _)
   | (with_reducible exact eval_Picked.mono _ _ _)
   | (with_reducible exact LeO.refl _)
   | (with_reducible exact LeO.none _)
   | (with_reducible refine LeO.ite ?_ ?_)
   | (with_reducible refine LeO.bind ?_ (fun _ => ?_))
   | exact ih0 _ _ _ _ _ _ _ _ _ _ _ _ _ _
   | exact ih1 _ _ _ _ _ _ _ _ _ _ _ _ _ _
   | exact ih2 _ _ _ _
   | exact api_Weighted_22.mono _ _
   | exact eval_Picked.mono _ _ _
   | exact LeO.none _
   | refine LeO.ite ?_ ?_
   | refine LeO.bind ?_ (fun _ => ?_)
def eval_Eval.T13 : Bool × List (List Nat × List Nat) := (true, [([], []), ([0], [0]), ([1], [1]), ([2], [2]), ([3], [3]), ([4, 3], [3, 4]), ([3], [3]), ([6, 3], [3, 6]), ([7, 3], [3, 7]), ([3], [3]), ([9, 3], [3, 9]), ([5, 8, 10, 3, 3], [3, 5, 8, 10]), ([3, 11], [3, 11])])
def eval_Eval.B13 : List Nat := [0, 1, 3, 7, 15, 31, 15, 79, 207, 15, 527, 2047, 4095]
theorem eval_Eval.tab13 : rtab .any (opsOf Try.f13 13) = eval_Eval.T13 := by kernel_rfl
theorem eval_Eval.bits13 : waitsOk eval_Eval.T13.2 eval_Eval.B13 = true := by kernel_rfl
def eval_Eval.T20 : Bool × List (List Nat × List Nat) := (true, [([], []), ([], []), ([1], [1]), ([], []), ([3], [3]), ([2, 4], [2, 4]), ([], []), ([6], [6]), ([5, 7], [5, 7]), ([8], [8]), ([0, 9, 5], [0, 9]), ([10, 10, 0, 1, 2, 3, 4, 5, 6, 7, 8, 9, 10], [0, 10])])
def eval_Eval.B20 : List Nat := [0, 0, 2, 0, 8, 30, 0, 64, 254, 510, 1023, 2047]
theorem eval_Eval.tab20 : rtab .any (opsOf Try.f13 20) = eval_Eval.T20 := by kernel_rfl
theorem eval_Eval.bits20 : waitsOk eval_Eval.T20.2 eval_Eval.B20 = true := by kernel_rfl
set_option maxHeartbeats 8000000 in
set_option maxRecDepth 100000 in
theorem eval_Eval.calls (k : Nat) (a0_0 : Int) (a0_1 : ByteArray) (a0_2 : ByteArray) (A0_3 : Option Addr) (c0_3 : Nat) (l0_3 : List Int) (A0_4 : Option Addr) (c0_4 : Nat) (l0_4 : List Int) (a0_5 : Int) (a0_6 : Int) (a0_7 : Int) (a0_8 : ByteArray) (A0_9 : Option Addr) (c0_9 : Nat) (l0_9 : List (S46)) (P1_ : Nat → Prop) (A1 : Option Addr) (c1 : Nat) (l1 : List (S44)) (P2_ : Nat → Prop) (A2 : Option Addr) (c2 : Nat) (l2 : List (S44)) (r : List (S44)) (w : World) (hr0_3 : Kd.C (Kd.int .i64) w A0_3 l0_3.length l0_3) (hc0_3 : l0_3.length ≤ c0_3) (hr0_4 : Kd.C (Kd.int .i64) w A0_4 l0_4.length l0_4) (hc0_4 : l0_4.length ≤ c0_4) (hr0_9 : Kd.C k46 w A0_9 l0_9.length l0_9) (hc0_9 : l0_9.length ≤ c0_9) (hs1 : Kd.V k44 44 w w.heap.size (fun k_ => P1_ k_) (.slice A1 l1.length c1) l1) (hs2 : Kd.V k44 44 w w.heap.size (fun k_ => P2_ k_) (.slice A2 l2.length c2) l2) (h : eval_Eval.f k a0_0 a0_1 a0_2 l0_3 l0_4 a0_5 a0_6 a0_7 a0_8 l0_9 l1 l2 = some r) :
  Calls Try.prog 13 #[.agg #[.int .i64 a0_0, .string a0_1, .string a0_2, .slice A0_3 l0_3.length c0_3, .slice A0_4 l0_4.length c0_4, .int .i64 a0_5, .int .i64 a0_6, .int .i64 a0_7, .string a0_8, .slice A0_9 l0_9.length c0_9], .slice A1 l1.length c1, .slice A2 l2.length c2] w fun e w' => ∃ v0_ : Value, e = .returned (v0_) ∧ Kd.N k44 44 w' w.heap.size (fun k_ => ((P1_ k_ ∨ P2_ k_) ∨ w.heap.size ≤ k_)) v0_ r ∧ Below w.heap.size w w' := by
 have hu37 := Try.underlying37
 have hu44 := Try.underlying44
 have hu23 := Try.underlying23
 have HR0_3 := Aside0.mk hr0_3
 have HC0_3 := Aside0.mk hc0_3
 clear hr0_3 hc0_3
 have HR0_4 := Aside0.mk hr0_4
 have HC0_4 := Aside0.mk hc0_4
 clear hr0_4 hc0_4
 have HR0_9 := Aside0.mk hr0_9
 have HC0_9 := Aside0.mk hc0_9
 clear hr0_9 hc0_9
 have HO1 := Aside0.mk (show Kd.V k44 44 w w.heap.size (fun k_ => ((P1_ k_ ∨ P2_ k_) ∨ w.heap.size ≤ k_)) (.slice A1 l1.length c1) l1 from Kd.V_mono hs1 (fun k_ hk => .inl (.inl hk)))
 have HO2 := Aside0.mk (show Kd.V k44 44 w w.heap.size (fun k_ => ((P1_ k_ ∨ P2_ k_) ∨ w.heap.size ≤ k_)) (.slice A2 l2.length c2) l2 from Kd.V_mono hs2 (fun k_ hk => .inl (.inr hk)))
 have HB := Aside0.mk (Below.refl w.heap.size w)
 have H : ((zset_Norm.f l1).bind fun t155 => ((zset_Norm.f l2).bind fun t158 => (if a0_0 = 1 then ((zset_Norm.f t155).bind fun t161 => (some t161)) else (if a0_0 = 5 then ((api_Weighted_22.f k (([t155, t158] : List (List (S44))))).bind fun t167 => ((zset_Norm.f t167).bind fun t170 => (some t170))) else (if a0_0 = 2 then (eval_Eval.l0 k ([] : List (S44)) t155 (t155.length : Int) 0 a0_0 a0_1 a0_2 l0_3 l0_4 a0_5 a0_6 a0_7 a0_8 l0_9) else (if a0_0 = 3 then (eval_Eval.l1 k ([] : List (S44)) t155 (t155.length : Int) 0 a0_0 a0_1 a0_2 l0_3 l0_4 a0_5 a0_6 a0_7 a0_8 l0_9) else (if a0_0 = 4 then (none) else (if a0_0 = 6 then (eval_Eval.l2 k ([] : List (S44)) t155 (t155.length : Int) 0) else (if a0_0 = 7 then (none) else ((zset_Norm.f ([] : List (S44))).bind fun t205 => (some t205))))))))))) = some r := h
 clear h
 replace H := Option.bind_eq_some_iff.mp H
 obtain ⟨t155, A40, H⟩ := H
 replace H : ((zset_Norm.f l2).bind fun t158 => (if a0_0 = 1 then ((zset_Norm.f t155).bind fun t161 => (some t161)) else (if a0_0 = 5 then ((api_Weighted_22.f k (([t155, t158] : List (List (S44))))).bind fun t167 => ((zset_Norm.f t167).bind fun t170 => (some t170))) else (if a0_0 = 2 then (eval_Eval.l0 k ([] : List (S44)) t155 (t155.length : Int) 0 a0_0 a0_1 a0_2 l0_3 l0_4 a0_5 a0_6 a0_7 a0_8 l0_9) else (if a0_0 = 3 then (eval_Eval.l1 k ([] : List (S44)) t155 (t155.length : Int) 0 a0_0 a0_1 a0_2 l0_3 l0_4 a0_5 a0_6 a0_7 a0_8 l0_9) else (if a0_0 = 4 then (none) else (if a0_0 = 6 then (eval_Eval.l2 k ([] : List (S44)) t155 (t155.length : Int) 0) else (if a0_0 = 7 then (none) else ((zset_Norm.f ([] : List (S44))).bind fun t205 => (some t205)))))))))) = some r := H
 have A4 := Aside0.mk A40
 clear A40
 replace H := Option.bind_eq_some_iff.mp H
 obtain ⟨t158, A50, H⟩ := H
 replace H : (if a0_0 = 1 then ((zset_Norm.f t155).bind fun t161 => (some t161)) else (if a0_0 = 5 then ((api_Weighted_22.f k (([t155, t158] : List (List (S44))))).bind fun t167 => ((zset_Norm.f t167).bind fun t170 => (some t170))) else (if a0_0 = 2 then (eval_Eval.l0 k ([] : List (S44)) t155 (t155.length : Int) 0 a0_0 a0_1 a0_2 l0_3 l0_4 a0_5 a0_6 a0_7 a0_8 l0_9) else (if a0_0 = 3 then (eval_Eval.l1 k ([] : List (S44)) t155 (t155.length : Int) 0 a0_0 a0_1 a0_2 l0_3 l0_4 a0_5 a0_6 a0_7 a0_8 l0_9) else (if a0_0 = 4 then (none) else (if a0_0 = 6 then (eval_Eval.l2 k ([] : List (S44)) t155 (t155.length : Int) 0) else (if a0_0 = 7 then (none) else ((zset_Norm.f ([] : List (S44))).bind fun t205 => (some t205))))))))) = some r := H
 have A5 := Aside0.mk A50
 clear A50
 by_cases c6 : a0_0 = 1
 ·rw [if_pos c6] at H
  have c6b0 : (a0_0 == 1) = true := beq_iff_eq.mpr c6
  have c6b1 : (a0_0 != 1) = false := bne_eq_false_iff_eq.mpr c6
  clear c6
  replace H := Option.bind_eq_some_iff.mp H
  obtain ⟨t161, A70, H⟩ := H
  replace H : (some t161) = some r := H
  have A7 := Aside0.mk A70
  clear A70
  obtain rfl := Option.some.inj H
  go_enter Try.func13, Try.ntmps13
  go_wp2_with (first | ((with_reducible refine gate_dst (N := 3) rfl ?_); refine box_event ?hg (N := 3) ?hd (cs := #[.int .i64 a0_0, .string a0_1, .string a0_2, .slice A0_3 l0_3.length c0_3, .slice A0_4 l0_4.length c0_4, .int .i64 a0_5, .int .i64 a0_6, .int .i64 a0_7, .string a0_8, .slice A0_9 l0_9.length c0_9]) (t := 37) ?hr ?_; (case hd => rfl); (case hg => rfl); (case hr => first | (go_simp; done) | (go_simp; rfl)); intro gb154 hg w8 hbox hb; have n0_ := Aside0.mk (Kd.V_below (Kd.V_elderB (qv_ HO1.out) gb154 (Nat.le_of_eq hg.symm)) hb); have n1_ := Aside0.mk (Kd.V_below (Kd.V_elderB (qv_ HO2.out) gb154 (Nat.le_of_eq hg.symm)) hb); have n2_ := Aside0.mk (below_step qh_ hb); have n3_ := Aside0.mk (hbox); have n4_ := Aside0.mk ((by rw [hg]; exact (below_size qh_) : w.heap.size ≤ gb154)); have n5_ := Aside0.mk ((by rw [hg]; exact (below_size qh_) : w.heap.size ≤ gb154)); clear HO1; clear HO2; clear HB; have HO1 := n0_; have HO2 := n1_; have HB := n2_; have BK154 := n3_; have GW154 := n4_; have GE154 := n5_; clear n0_ n1_ n2_ n3_ n4_ n5_; clear hb hbox hg) | ((with_reducible refine gate_callee (f := 16) rfl ?_); refine goesL_ (some 19) rfl rfl Try.func16 (by kernel_rfl) rfl #[.slice A1 l1.length c1] rfl (by (try simp only [List.map_toArray, List.map_cons, List.map_nil]); first | done | rfl | (simp only [List.length_drop, List.length_take]; rfl)) ?_; (with_reducible refine (zset_Norm.calls (fun k_ => (((P1_ k_ ∨ P2_ k_) ∨ w.heap.size ≤ k_) ∧ k_ ≠ gb154)) _ _ l1 t155 _ ?side1 A4.out).mono ?_); (case side1 => exact HO1.out); rintro e w9 ⟨v156, rfl, ho0, hb⟩; refine ⟨_, rfl, ?_⟩; have n0_ := Aside0.mk (Kd.V_elder' (qv_ HO1.out) (Kd.N_base ho0) hb); have n1_ := Aside0.mk (Kd.V_elder' (qv_ HO2.out) (Kd.N_base ho0) hb); have n2_ := Aside0.mk (Kd.N_lower (Kd.N_mono (ok' := fun k_ => ((P1_ k_ ∨ P2_ k_) ∨ w.heap.size ≤ k_) ∧ k_ ≠ gb154) ho0 (fun k_ hk_ => ⟨Or.elim hk_ (fun hs_ => hs_.1) (fun hn_ => (.inr (Nat.le_trans (below_size (by repeat (first | (with_reducible first | exact HB.out | apply below_alloc | apply pw_below_drewN | apply below_drew1 | refine below_set ?_ GE154.out) | exact HB.out))) hn_))), Or.elim hk_ (fun hs_ => hs_.2) (fun hn_ => (Kd.freshB (g := gb154) (o := .cells #[.int .i64 a0_0, .string a0_1, .string a0_2, .slice A0_3 l0_3.length c0_3, .slice A0_4 l0_4.length c0_4, .int .i64 a0_5, .int .i64 a0_6, .int .i64 a0_7, .string a0_8, .slice A0_9 l0_9.length c0_9] 37 (0, 0)) (qb_ BK154.out) k_ hn_))⟩)) (below_size (by repeat (first | (with_reducible first | exact HB.out | apply below_alloc | apply pw_below_drewN | apply below_drew1 | refine below_set ?_ GE154.out) | exact HB.out)))); have n3_ := Aside0.mk (blk_below (g := gb154) (o := .cells #[.int .i64 a0_0, .string a0_1, .string a0_2, .slice A0_3 l0_3.length c0_3, .slice A0_4 l0_4.length c0_4, .int .i64 a0_5, .int .i64 a0_6, .int .i64 a0_7, .string a0_8, .slice A0_9 l0_9.length c0_9] 37 (0, 0)) (qb_ BK154.out) hb); have n4_ := Aside0.mk (below_step (by repeat (first | (with_reducible first | exact HB.out | apply below_alloc | apply pw_below_drewN | apply below_drew1 | refine below_set ?_ GE154.out) | exact HB.out)) hb); clear HO1; clear HO2; clear BK154; clear HB; have HO1 := n0_; have HO2 := n1_; have HO157 := n2_; have BK154 := n3_; have HB := n4_; clear n0_ n1_ n2_ n3_ n4_; (try clear hb); (try clear hb2); (try clear hk); (try clear hi); (try clear ho0)) | ((with_reducible refine gate_callee (f := 16) rfl ?_); refine goesL_ (some 21) rfl rfl Try.func16 (by kernel_rfl) rfl #[.slice A2 l2.length c2] rfl (by (try simp only [List.map_toArray, List.map_cons, List.map_nil]); first | done | rfl | (simp only [List.length_drop, List.length_take]; rfl)) ?_; (with_reducible refine (zset_Norm.calls (fun k_ => ((((P1_ k_ ∨ P2_ k_) ∨ w.heap.size ≤ k_) ∧ k_ ≠ gb154) ∧ some k_ ≠ (v156 : Value).ownBlock)) _ _ l2 t158 _ ?side1 A5.out).mono ?_); (case side1 => exact HO2.out); rintro e w10 ⟨v159, rfl, ho0, hb⟩; refine ⟨_, rfl, ?_⟩; have n0_ := Aside0.mk (Kd.V_elder' (qv_ HO1.out) (Kd.N_base ho0) hb); have n1_ := Aside0.mk (Kd.V_elder' (qv_ HO2.out) (Kd.N_base ho0) hb); have n2_ := Aside0.mk (Kd.N_elder' (qn_ HO157.out) (Kd.N_base ho0) hb); have n3_ := Aside0.mk (Kd.N_lower (Kd.N_mono (ok' := fun k_ => ((P1_ k_ ∨ P2_ k_) ∨ w.heap.size ≤ k_) ∧ some k_ ≠ (v156 : Value).ownBlock ∧ k_ ≠ gb154) ho0 (fun k_ hk_ => ⟨Or.elim hk_ (fun hs_ => hs_.1.1) (fun hn_ => (.inr (Nat.le_trans (below_size (by repeat (first | (with_reducible first | exact HB.out | apply below_alloc | apply pw_below_drewN | apply below_drew1 | refine below_set ?_ GE154.out) | exact HB.out))) hn_))), Or.elim hk_ (fun hs_ => hs_.2) (fun hn_ => (Kd.fresh' (Kd.N_lt (qn_ HO157.out)) k_ hn_)), Or.elim hk_ (fun hs_ => hs_.1.2) (fun hn_ => (Kd.freshB (g := gb154) (o := .cells #[.int .i64 a0_0, .string a0_1, .string a0_2, .slice A0_3 l0_3.length c0_3, .slice A0_4 l0_4.length c0_4, .int .i64 a0_5, .int .i64 a0_6, .int .i64 a0_7, .string a0_8, .slice A0_9 l0_9.length c0_9] 37 (0, 0)) (qb_ BK154.out) k_ hn_))⟩)) (below_size (by repeat (first | (with_reducible first | exact HB.out | apply below_alloc | apply pw_below_drewN | apply below_drew1 | refine below_set ?_ GE154.out) | exact HB.out)))); have n4_ := Aside0.mk (blk_below (g := gb154) (o := .cells #[.int .i64 a0_0, .string a0_1, .string a0_2, .slice A0_3 l0_3.length c0_3, .slice A0_4 l0_4.length c0_4, .int .i64 a0_5, .int .i64 a0_6, .int .i64 a0_7, .string a0_8, .slice A0_9 l0_9.length c0_9] 37 (0, 0)) (qb_ BK154.out) hb); have n5_ := Aside0.mk (below_step (by repeat (first | (with_reducible first | exact HB.out | apply below_alloc | apply pw_below_drewN | apply below_drew1 | refine below_set ?_ GE154.out) | exact HB.out)) hb); clear HO1; clear HO2; clear HO157; clear BK154; clear HB; have HO1 := n0_; have HO2 := n1_; have HO157 := n2_; have HO160 := n3_; have BK154 := n4_; have HB := n5_; clear n0_ n1_ n2_ n3_ n4_ n5_; (try clear hb); (try clear hb2); (try clear hk); (try clear hi); (try clear ho0); have hcz11_0 : w10.cell? ⟨gb154, 0, none⟩ = some (.int .i64 a0_0) := (blk_cell BK154.out 0).trans rfl; have hcz11_1 : w10.cell? ⟨gb154, 1, none⟩ = some (.string a0_1) := (blk_cell BK154.out 1).trans rfl; have hcz11_2 : w10.cell? ⟨gb154, 2, none⟩ = some (.string a0_2) := (blk_cell BK154.out 2).trans rfl; have hcz11_3 : w10.cell? ⟨gb154, 3, none⟩ = some (.slice A0_3 l0_3.length c0_3) := (blk_cell BK154.out 3).trans rfl; have hcz11_4 : w10.cell? ⟨gb154, 4, none⟩ = some (.slice A0_4 l0_4.length c0_4) := (blk_cell BK154.out 4).trans rfl; have hcz11_5 : w10.cell? ⟨gb154, 5, none⟩ = some (.int .i64 a0_5) := (blk_cell BK154.out 5).trans rfl; have hcz11_6 : w10.cell? ⟨gb154, 6, none⟩ = some (.int .i64 a0_6) := (blk_cell BK154.out 6).trans rfl; have hcz11_7 : w10.cell? ⟨gb154, 7, none⟩ = some (.int .i64 a0_7) := (blk_cell BK154.out 7).trans rfl; have hcz11_8 : w10.cell? ⟨gb154, 8, none⟩ = some (.string a0_8) := (blk_cell BK154.out 8).trans rfl; have hcz11_9 : w10.cell? ⟨gb154, 9, none⟩ = some (.slice A0_9 l0_9.length c0_9) := (blk_cell BK154.out 9).trans rfl; have hfz11_0 := blk_frozen BK154.out 0; have hfz11_1 := blk_frozen BK154.out 1; have hfz11_2 := blk_frozen BK154.out 2; have hfz11_3 := blk_frozen BK154.out 3; have hfz11_4 := blk_frozen BK154.out 4; have hfz11_5 := blk_frozen BK154.out 5; have hfz11_6 := blk_frozen BK154.out 6; have hfz11_7 := blk_frozen BK154.out 7; have hfz11_8 := blk_frozen BK154.out 8; have hfz11_9 := blk_frozen BK154.out 9; obtain ⟨Ao12, co12, eo12⟩ := Kd.N_slice HO157.out; subst eo12) | ((with_reducible refine gate_callee (f := 16) rfl ?_); refine goesL_ (some 131) rfl rfl Try.func16 (by kernel_rfl) rfl #[.slice Ao12 t155.length co12] rfl (by (try simp only [List.map_toArray, List.map_cons, List.map_nil]); first | done | rfl | (simp only [List.length_drop, List.length_take]; rfl)) ?_; (with_reducible refine (zset_Norm.calls (fun k_ => ((((P1_ k_ ∨ P2_ k_) ∨ w.heap.size ≤ k_) ∧ k_ ≠ gb154) ∧ some k_ ≠ (v159 : Value).ownBlock)) _ _ t155 t161 _ ?side1 A7.out).mono ?_); (case side1 => exact Kd.N_V (HO157.out)); rintro e w13 ⟨v162, rfl, ho0, hb⟩; refine ⟨_, rfl, ?_⟩; have n0_ := Aside0.mk (Kd.V_elder' (qv_ HO1.out) (Kd.N_base ho0) hb); have n1_ := Aside0.mk (Kd.V_elder' (qv_ HO2.out) (Kd.N_base ho0) hb); have n2_ := Aside0.mk (Kd.N_elder' (qn_ HO157.out) (Kd.N_base ho0) hb); have n3_ := Aside0.mk (Kd.N_elder' (qn_ HO160.out) (Kd.N_base ho0) hb); have n4_ := Aside0.mk (Kd.N_lower (Kd.N_mono (ok' := fun k_ => ((P1_ k_ ∨ P2_ k_) ∨ w.heap.size ≤ k_) ∧ some k_ ≠ (v159 : Value).ownBlock ∧ k_ ≠ gb154) ho0 (fun k_ hk_ => ⟨Or.elim hk_ (fun hs_ => hs_.1.1) (fun hn_ => (.inr (Nat.le_trans (below_size (by repeat (first | (with_reducible first | exact HB.out | apply below_alloc | apply pw_below_drewN | apply below_drew1 | refine below_set ?_ GE154.out) | exact HB.out))) hn_))), Or.elim hk_ (fun hs_ => hs_.2) (fun hn_ => (Kd.fresh' (Kd.N_lt (qn_ HO160.out)) k_ hn_)), Or.elim hk_ (fun hs_ => hs_.1.2) (fun hn_ => (Kd.freshB (g := gb154) (o := .cells #[.int .i64 a0_0, .string a0_1, .string a0_2, .slice A0_3 l0_3.length c0_3, .slice A0_4 l0_4.length c0_4, .int .i64 a0_5, .int .i64 a0_6, .int .i64 a0_7, .string a0_8, .slice A0_9 l0_9.length c0_9] 37 (0, 0)) (qb_ BK154.out) k_ hn_))⟩)) (below_size (by repeat (first | (with_reducible first | exact HB.out | apply below_alloc | apply pw_below_drewN | apply below_drew1 | refine below_set ?_ GE154.out) | exact HB.out)))); have n5_ := Aside0.mk (blk_below (g := gb154) (o := .cells #[.int .i64 a0_0, .string a0_1, .string a0_2, .slice A0_3 l0_3.length c0_3, .slice A0_4 l0_4.length c0_4, .int .i64 a0_5, .int .i64 a0_6, .int .i64 a0_7, .string a0_8, .slice A0_9 l0_9.length c0_9] 37 (0, 0)) (qb_ BK154.out) hb); have n6_ := Aside0.mk (below_step (by repeat (first | (with_reducible first | exact HB.out | apply below_alloc | apply pw_below_drewN | apply below_drew1 | refine below_set ?_ GE154.out) | exact HB.out)) hb); clear HO1; clear HO2; clear HO157; clear HO160; clear BK154; clear HB; have HO1 := n0_; have HO2 := n1_; have HO157 := n2_; have HO160 := n3_; have HO163 := n4_; have BK154 := n5_; have HB := n6_; clear n0_ n1_ n2_ n3_ n4_ n5_ n6_; (try clear hb); (try clear hb2); (try clear hk); (try clear hi); (try clear ho0)))
  go_ret
  exact ⟨_, by first | rfl | (simp [errW_none, errW_some] <;> rfl) | (simp [*, errW_none, errW_some] <;> rfl), by (with_reducible repeat (first | apply Kd.N_alloc | apply Kd.N_drewN | apply Kd.N_drew)); exact Kd.N_mono HO163.out (fun _ hk => hk.1), by repeat (first | (with_reducible first | exact HB.out | apply below_alloc | apply pw_below_drewN | apply below_drew1 | refine below_set ?_ GE154.out) | exact HB.out)⟩
 ·rw [if_neg c6] at H
  have c6b0 : (a0_0 == 1) = false := beq_eq_false_iff_ne.mpr c6
  have c6b1 : (a0_0 != 1) = true := bne_iff_ne.mpr c6
  by_cases c14 : a0_0 = 5
  ·rw [if_pos c14] at H
   have c14b0 : (a0_0 == 5) = true := beq_iff_eq.mpr c14
   have c14b1 : (a0_0 != 5) = false := bne_eq_false_iff_eq.mpr c14
   clear c14
   obtain ⟨y164, hy164⟩ : ∃ y_ : List (List (S44)), y_ = (([t155, t158] : List (List (S44)))) := ⟨_, rfl⟩
   replace H : ((api_Weighted_22.f k y164).bind fun t167 => ((zset_Norm.f t167).bind fun t170 => (some t170))) = some r := by first | (rw [hy164]; with_reducible exact H) | (have H2_ := (Option.bind_some _ _).symm.trans H; rw [hy164]; with_reducible exact H2_) | (have H2_ := (Option.bind_some _ _).symm.trans H; with_reducible exact H2_) | with_reducible exact H | (rw [hy164]; exact H) | exact H
   have Ny164 := Aside0.mk hy164
   clear hy164
   replace H := Option.bind_eq_some_iff.mp H
   obtain ⟨t167, A150, H⟩ := H
   replace H : ((zset_Norm.f t167).bind fun t170 => (some t170)) = some r := H
   have A15 := Aside0.mk A150
   clear A150
   replace H := Option.bind_eq_some_iff.mp H
   obtain ⟨t170, A160, H⟩ := H
   replace H : (some t170) = some r := H
   have A16 := Aside0.mk A160
   clear A160
   obtain rfl := Option.some.inj H
   go_enter Try.func13, Try.ntmps13
   go_wp2_with (first | ((with_reducible refine gate_dst (N := 3) rfl ?_); refine box_event ?hg (N := 3) ?hd (cs := #[.int .i64 a0_0, .string a0_1, .string a0_2, .slice A0_3 l0_3.length c0_3, .slice A0_4 l0_4.length c0_4, .int .i64 a0_5, .int .i64 a0_6, .int .i64 a0_7, .string a0_8, .slice A0_9 l0_9.length c0_9]) (t := 37) ?hr ?_; (case hd => rfl); (case hg => rfl); (case hr => first | (go_simp; done) | (go_simp; rfl)); intro gb154 hg w17 hbox hb; have n0_ := Aside0.mk (Kd.V_below (Kd.V_elderB (qv_ HO1.out) gb154 (Nat.le_of_eq hg.symm)) hb); have n1_ := Aside0.mk (Kd.V_below (Kd.V_elderB (qv_ HO2.out) gb154 (Nat.le_of_eq hg.symm)) hb); have n2_ := Aside0.mk (below_step qh_ hb); have n3_ := Aside0.mk (hbox); have n4_ := Aside0.mk ((by rw [hg]; exact (below_size qh_) : w.heap.size ≤ gb154)); have n5_ := Aside0.mk ((by rw [hg]; exact (below_size qh_) : w.heap.size ≤ gb154)); clear HO1; clear HO2; clear HB; have HO1 := n0_; have HO2 := n1_; have HB := n2_; have BK154 := n3_; have GW154 := n4_; have GE154 := n5_; clear n0_ n1_ n2_ n3_ n4_ n5_; clear hb hbox hg) | ((with_reducible refine gate_callee (f := 16) rfl ?_); refine goesL_ (some 19) rfl rfl Try.func16 (by kernel_rfl) rfl #[.slice A1 l1.length c1] rfl (by (try simp only [List.map_toArray, List.map_cons, List.map_nil]); first | done | rfl | (simp only [List.length_drop, List.length_take]; rfl)) ?_; (with_reducible refine (zset_Norm.calls (fun k_ => (((P1_ k_ ∨ P2_ k_) ∨ w.heap.size ≤ k_) ∧ k_ ≠ gb154)) _ _ l1 t155 _ ?side1 A4.out).mono ?_); (case side1 => exact HO1.out); rintro e w18 ⟨v156, rfl, ho0, hb⟩; refine ⟨_, rfl, ?_⟩; have n0_ := Aside0.mk (Kd.V_elder' (qv_ HO1.out) (Kd.N_base ho0) hb); have n1_ := Aside0.mk (Kd.V_elder' (qv_ HO2.out) (Kd.N_base ho0) hb); have n2_ := Aside0.mk (Kd.N_lower (Kd.N_mono (ok' := fun k_ => ((P1_ k_ ∨ P2_ k_) ∨ w.heap.size ≤ k_) ∧ k_ ≠ gb154) ho0 (fun k_ hk_ => ⟨Or.elim hk_ (fun hs_ => hs_.1) (fun hn_ => (.inr (Nat.le_trans (below_size (by repeat (first | (with_reducible first | exact HB.out | apply below_alloc | apply pw_below_drewN | apply below_drew1 | refine below_set ?_ GE154.out) | exact HB.out))) hn_))), Or.elim hk_ (fun hs_ => hs_.2) (fun hn_ => (Kd.freshB (g := gb154) (o := .cells #[.int .i64 a0_0, .string a0_1, .string a0_2, .slice A0_3 l0_3.length c0_3, .slice A0_4 l0_4.length c0_4, .int .i64 a0_5, .int .i64 a0_6, .int .i64 a0_7, .string a0_8, .slice A0_9 l0_9.length c0_9] 37 (0, 0)) (qb_ BK154.out) k_ hn_))⟩)) (below_size (by repeat (first | (with_reducible first | exact HB.out | apply below_alloc | apply pw_below_drewN | apply below_drew1 | refine below_set ?_ GE154.out) | exact HB.out)))); have n3_ := Aside0.mk (blk_below (g := gb154) (o := .cells #[.int .i64 a0_0, .string a0_1, .string a0_2, .slice A0_3 l0_3.length c0_3, .slice A0_4 l0_4.length c0_4, .int .i64 a0_5, .int .i64 a0_6, .int .i64 a0_7, .string a0_8, .slice A0_9 l0_9.length c0_9] 37 (0, 0)) (qb_ BK154.out) hb); have n4_ := Aside0.mk (below_step (by repeat (first | (with_reducible first | exact HB.out | apply below_alloc | apply pw_below_drewN | apply below_drew1 | refine below_set ?_ GE154.out) | exact HB.out)) hb); clear HO1; clear HO2; clear BK154; clear HB; have HO1 := n0_; have HO2 := n1_; have HO157 := n2_; have BK154 := n3_; have HB := n4_; clear n0_ n1_ n2_ n3_ n4_; (try clear hb); (try clear hb2); (try clear hk); (try clear hi); (try clear ho0)) | ((with_reducible refine gate_callee (f := 16) rfl ?_); refine goesL_ (some 21) rfl rfl Try.func16 (by kernel_rfl) rfl #[.slice A2 l2.length c2] rfl (by (try simp only [List.map_toArray, List.map_cons, List.map_nil]); first | done | rfl | (simp only [List.length_drop, List.length_take]; rfl)) ?_; (with_reducible refine (zset_Norm.calls (fun k_ => ((((P1_ k_ ∨ P2_ k_) ∨ w.heap.size ≤ k_) ∧ k_ ≠ gb154) ∧ some k_ ≠ (v156 : Value).ownBlock)) _ _ l2 t158 _ ?side1 A5.out).mono ?_); (case side1 => exact HO2.out); rintro e w19 ⟨v159, rfl, ho0, hb⟩; refine ⟨_, rfl, ?_⟩; have n0_ := Aside0.mk (Kd.V_elder' (qv_ HO1.out) (Kd.N_base ho0) hb); have n1_ := Aside0.mk (Kd.V_elder' (qv_ HO2.out) (Kd.N_base ho0) hb); have n2_ := Aside0.mk (Kd.N_elder' (qn_ HO157.out) (Kd.N_base ho0) hb); have n3_ := Aside0.mk (Kd.N_lower (Kd.N_mono (ok' := fun k_ => ((P1_ k_ ∨ P2_ k_) ∨ w.heap.size ≤ k_) ∧ some k_ ≠ (v156 : Value).ownBlock ∧ k_ ≠ gb154) ho0 (fun k_ hk_ => ⟨Or.elim hk_ (fun hs_ => hs_.1.1) (fun hn_ => (.inr (Nat.le_trans (below_size (by repeat (first | (with_reducible first | exact HB.out | apply below_alloc | apply pw_below_drewN | apply below_drew1 | refine below_set ?_ GE154.out) | exact HB.out))) hn_))), Or.elim hk_ (fun hs_ => hs_.2) (fun hn_ => (Kd.fresh' (Kd.N_lt (qn_ HO157.out)) k_ hn_)), Or.elim hk_ (fun hs_ => hs_.1.2) (fun hn_ => (Kd.freshB (g := gb154) (o := .cells #[.int .i64 a0_0, .string a0_1, .string a0_2, .slice A0_3 l0_3.length c0_3, .slice A0_4 l0_4.length c0_4, .int .i64 a0_5, .int .i64 a0_6, .int .i64 a0_7, .string a0_8, .slice A0_9 l0_9.length c0_9] 37 (0, 0)) (qb_ BK154.out) k_ hn_))⟩)) (below_size (by repeat (first | (with_reducible first | exact HB.out | apply below_alloc | apply pw_below_drewN | apply below_drew1 | refine below_set ?_ GE154.out) | exact HB.out)))); have n4_ := Aside0.mk (blk_below (g := gb154) (o := .cells #[.int .i64 a0_0, .string a0_1, .string a0_2, .slice A0_3 l0_3.length c0_3, .slice A0_4 l0_4.length c0_4, .int .i64 a0_5, .int .i64 a0_6, .int .i64 a0_7, .string a0_8, .slice A0_9 l0_9.length c0_9] 37 (0, 0)) (qb_ BK154.out) hb); have n5_ := Aside0.mk (below_step (by repeat (first | (with_reducible first | exact HB.out | apply below_alloc | apply pw_below_drewN | apply below_drew1 | refine below_set ?_ GE154.out) | exact HB.out)) hb); clear HO1; clear HO2; clear HO157; clear BK154; clear HB; have HO1 := n0_; have HO2 := n1_; have HO157 := n2_; have HO160 := n3_; have BK154 := n4_; have HB := n5_; clear n0_ n1_ n2_ n3_ n4_ n5_; (try clear hb); (try clear hb2); (try clear hk); (try clear hi); (try clear ho0); have hcz20_0 : w19.cell? ⟨gb154, 0, none⟩ = some (.int .i64 a0_0) := (blk_cell BK154.out 0).trans rfl; have hcz20_1 : w19.cell? ⟨gb154, 1, none⟩ = some (.string a0_1) := (blk_cell BK154.out 1).trans rfl; have hcz20_2 : w19.cell? ⟨gb154, 2, none⟩ = some (.string a0_2) := (blk_cell BK154.out 2).trans rfl; have hcz20_3 : w19.cell? ⟨gb154, 3, none⟩ = some (.slice A0_3 l0_3.length c0_3) := (blk_cell BK154.out 3).trans rfl; have hcz20_4 : w19.cell? ⟨gb154, 4, none⟩ = some (.slice A0_4 l0_4.length c0_4) := (blk_cell BK154.out 4).trans rfl; have hcz20_5 : w19.cell? ⟨gb154, 5, none⟩ = some (.int .i64 a0_5) := (blk_cell BK154.out 5).trans rfl; have hcz20_6 : w19.cell? ⟨gb154, 6, none⟩ = some (.int .i64 a0_6) := (blk_cell BK154.out 6).trans rfl; have hcz20_7 : w19.cell? ⟨gb154, 7, none⟩ = some (.int .i64 a0_7) := (blk_cell BK154.out 7).trans rfl; have hcz20_8 : w19.cell? ⟨gb154, 8, none⟩ = some (.string a0_8) := (blk_cell BK154.out 8).trans rfl; have hcz20_9 : w19.cell? ⟨gb154, 9, none⟩ = some (.slice A0_9 l0_9.length c0_9) := (blk_cell BK154.out 9).trans rfl; have hfz20_0 := blk_frozen BK154.out 0; have hfz20_1 := blk_frozen BK154.out 1; have hfz20_2 := blk_frozen BK154.out 2; have hfz20_3 := blk_frozen BK154.out 3; have hfz20_4 := blk_frozen BK154.out 4; have hfz20_5 := blk_frozen BK154.out 5; have hfz20_6 := blk_frozen BK154.out 6; have hfz20_7 := blk_frozen BK154.out 7; have hfz20_8 := blk_frozen BK154.out 8; have hfz20_9 := blk_frozen BK154.out 9; obtain ⟨Ao21, co21, eo21⟩ := Kd.N_slice HO157.out; subst eo21; obtain ⟨Ao22, co22, eo22⟩ := Kd.N_slice HO160.out; subst eo22) | ((with_reducible refine gate_dst (N := 31) rfl ?_); refine Kd.N_lit (Kd.slice 44 k44) _ 31 ?hg (N' := 31) ?hd (xs := ([t155, t158] : List (List (S44)))) (inner := [.slice Ao21 t155.length co21, .slice Ao22 t158.length co22]) (ok := (fun k_ => ((P1_ k_ ∨ P2_ k_) ∨ w.heap.size ≤ k_) ∧ k_ ≠ gb154)) (okp := (fun k_ => ((P1_ k_ ∨ P2_ k_) ∨ w.heap.size ≤ k_) ∧ k_ ≠ gb154)) ?hr ?hp (fun _ hk => hk) ((show ∀ k_, w19.heap.size ≤ k_ → (fun k_ => ((P1_ k_ ∨ P2_ k_) ∨ w.heap.size ≤ k_) ∧ k_ ≠ gb154) k_ from fun k_ hk => ⟨(.inr (Nat.le_trans (below_size (by repeat (first | (with_reducible first | exact HB.out | apply below_alloc | apply pw_below_drewN | apply below_drew1 | refine below_set ?_ GE154.out) | exact HB.out))) hk)), Kd.freshB (g := gb154) (o := .cells #[.int .i64 a0_0, .string a0_1, .string a0_2, .slice A0_3 l0_3.length c0_3, .slice A0_4 l0_4.length c0_4, .int .i64 a0_5, .int .i64 a0_6, .int .i64 a0_7, .string a0_8, .slice A0_9 l0_9.length c0_9] 37 (0, 0)) (qb_ BK154.out) k_ hk⟩) _ (Nat.le_refl _)) (Below.refl _ _) (Nat.le_refl _) (by simp) ?_; (case hd => rfl); (case hg => rfl); (case hr => first | (go_simp; done) | (go_simp; rfl)); (case hp => exact (Reps.one (show Kd.FK (Kd.slice 44 k44) _ _ t155 [.slice Ao21 t155.length co21] from (Kd.FK_slice_mk (Kd.N_reads' (Kd.N_mono (ok' := (fun k_ => ((P1_ k_ ∨ P2_ k_) ∨ w.heap.size ≤ k_) ∧ k_ ≠ gb154)) (HO157.out) (fun k_ hk => ⟨hk.1.1, hk.1.2⟩))).2.1 (Kd.N_F (Kd.N_mono (ok' := (fun k_ => ((P1_ k_ ∨ P2_ k_) ∨ w.heap.size ≤ k_) ∧ k_ ≠ gb154)) (HO157.out) (fun k_ hk => ⟨hk.1.1, hk.1.2⟩))))) (Reps.one (show Kd.FK (Kd.slice 44 k44) _ _ t158 [.slice Ao22 t158.length co22] from (Kd.FK_slice_mk (Kd.N_reads' (Kd.N_mono (ok' := (fun k_ => ((P1_ k_ ∨ P2_ k_) ∨ w.heap.size ≤ k_) ∧ k_ ≠ gb154)) (HO160.out) (fun k_ hk => ⟨hk.1, hk.2.2⟩))).2.1 (Kd.N_F (Kd.N_mono (ok' := (fun k_ => ((P1_ k_ ∨ P2_ k_) ∨ w.heap.size ≤ k_) ∧ k_ ≠ gb154)) (HO160.out) (fun k_ hk => ⟨hk.1, hk.2.2⟩))))) (Reps.none _ _)))); intro v165 w23 ho24 hb hg_ hnew_; clear hg_ hnew_; (first | rw [← Ny164.out] at ho24 | (simp only [Int.reduceToNat] at ho24; rw [← Ny164.out] at ho24)); have n0_ := Aside0.mk (Kd.V_elder' (qv_ HO1.out) (Kd.N_base ho24) hb); have n1_ := Aside0.mk (Kd.V_elder' (qv_ HO2.out) (Kd.N_base ho24) hb); have n2_ := Aside0.mk (Kd.N_lower ho24 (below_size (by repeat (first | (with_reducible first | exact HB.out | apply below_alloc | apply pw_below_drewN | apply below_drew1 | refine below_set ?_ GE154.out) | exact HB.out)))); have n3_ := Aside0.mk (blk_below (g := gb154) (o := .cells #[.int .i64 a0_0, .string a0_1, .string a0_2, .slice A0_3 l0_3.length c0_3, .slice A0_4 l0_4.length c0_4, .int .i64 a0_5, .int .i64 a0_6, .int .i64 a0_7, .string a0_8, .slice A0_9 l0_9.length c0_9] 37 (0, 0)) (qb_ BK154.out) hb); have n4_ := Aside0.mk (below_step (by repeat (first | (with_reducible first | exact HB.out | apply below_alloc | apply pw_below_drewN | apply below_drew1 | refine below_set ?_ GE154.out) | exact HB.out)) hb); clear HO1; clear HO2; clear BK154; clear HB; clear HO157; clear HO160; have HO1 := n0_; have HO2 := n1_; have HO166 := n2_; have BK154 := n3_; have HB := n4_; clear n0_ n1_ n2_ n3_ n4_; clear hb ho24; obtain ⟨Ao25, co25, eo25⟩ := Kd.N_slice HO166.out; subst eo25) | ((with_reducible refine gate_callee (f := 22) rfl ?_); refine goesL_ (some 32) rfl rfl Try.func22 (by kernel_rfl) rfl #[.slice Ao25 y164.length co25] rfl (by (try simp only [List.map_toArray, List.map_cons, List.map_nil]); first | done | rfl | (simp only [List.length_drop, List.length_take]; rfl)) ?_; (with_reducible refine (api_Weighted_22.calls k (fun k_ => (((P1_ k_ ∨ P2_ k_) ∨ w.heap.size ≤ k_) ∧ k_ ≠ gb154)) _ _ y164 t167 _ ?side1 A15.out).mono ?_); (case side1 => exact Kd.N_V (HO166.out)); rintro e w26 ⟨v168, rfl, ho0, hb⟩; refine ⟨_, rfl, ?_⟩; have n0_ := Aside0.mk (Kd.V_elder' (qv_ HO1.out) (Kd.N_base ho0) hb); have n1_ := Aside0.mk (Kd.V_elder' (qv_ HO2.out) (Kd.N_base ho0) hb); have n2_ := Aside0.mk (Kd.N_elder' (qn_ HO166.out) (Kd.N_base ho0) hb); have n3_ := Aside0.mk (Kd.N_lower (Kd.N_mono (ok' := fun k_ => ((P1_ k_ ∨ P2_ k_) ∨ w.heap.size ≤ k_) ∧ k_ ≠ gb154) ho0 (fun k_ hk_ => ⟨Or.elim hk_ (fun hs_ => hs_.1) (fun hn_ => (.inr (Nat.le_trans (below_size (by repeat (first | (with_reducible first | exact HB.out | apply below_alloc | apply pw_below_drewN | apply below_drew1 | refine below_set ?_ GE154.out) | exact HB.out))) hn_))), Or.elim hk_ (fun hs_ => hs_.2) (fun hn_ => (Kd.freshB (g := gb154) (o := .cells #[.int .i64 a0_0, .string a0_1, .string a0_2, .slice A0_3 l0_3.length c0_3, .slice A0_4 l0_4.length c0_4, .int .i64 a0_5, .int .i64 a0_6, .int .i64 a0_7, .string a0_8, .slice A0_9 l0_9.length c0_9] 37 (0, 0)) (qb_ BK154.out) k_ hn_))⟩)) (below_size (by repeat (first | (with_reducible first | exact HB.out | apply below_alloc | apply pw_below_drewN | apply below_drew1 | refine below_set ?_ GE154.out) | exact HB.out)))); have n4_ := Aside0.mk (blk_below (g := gb154) (o := .cells #[.int .i64 a0_0, .string a0_1, .string a0_2, .slice A0_3 l0_3.length c0_3, .slice A0_4 l0_4.length c0_4, .int .i64 a0_5, .int .i64 a0_6, .int .i64 a0_7, .string a0_8, .slice A0_9 l0_9.length c0_9] 37 (0, 0)) (qb_ BK154.out) hb); have n5_ := Aside0.mk (below_step (by repeat (first | (with_reducible first | exact HB.out | apply below_alloc | apply pw_below_drewN | apply below_drew1 | refine below_set ?_ GE154.out) | exact HB.out)) hb); clear HO1; clear HO2; clear HO166; clear BK154; clear HB; have HO1 := n0_; have HO2 := n1_; have HO166 := n2_; have HO169 := n3_; have BK154 := n4_; have HB := n5_; clear n0_ n1_ n2_ n3_ n4_ n5_; (try clear hb); (try clear hb2); (try clear hk); (try clear hi); (try clear ho0); obtain ⟨Ao27, co27, eo27⟩ := Kd.N_slice HO169.out; subst eo27) | ((with_reducible refine gate_callee (f := 16) rfl ?_); refine goesL_ (some 131) rfl rfl Try.func16 (by kernel_rfl) rfl #[.slice Ao27 t167.length co27] rfl (by (try simp only [List.map_toArray, List.map_cons, List.map_nil]); first | done | rfl | (simp only [List.length_drop, List.length_take]; rfl)) ?_; (with_reducible refine (zset_Norm.calls (fun k_ => (((P1_ k_ ∨ P2_ k_) ∨ w.heap.size ≤ k_) ∧ k_ ≠ gb154)) _ _ t167 t170 _ ?side1 A16.out).mono ?_); (case side1 => exact Kd.N_V (HO169.out)); rintro e w28 ⟨v171, rfl, ho0, hb⟩; refine ⟨_, rfl, ?_⟩; have n0_ := Aside0.mk (Kd.V_elder' (qv_ HO1.out) (Kd.N_base ho0) hb); have n1_ := Aside0.mk (Kd.V_elder' (qv_ HO2.out) (Kd.N_base ho0) hb); have n2_ := Aside0.mk (Kd.N_elder' (qn_ HO166.out) (Kd.N_base ho0) hb); have n3_ := Aside0.mk (Kd.N_elder' (qn_ HO169.out) (Kd.N_base ho0) hb); have n4_ := Aside0.mk (Kd.N_lower (Kd.N_mono (ok' := fun k_ => ((P1_ k_ ∨ P2_ k_) ∨ w.heap.size ≤ k_) ∧ k_ ≠ gb154) ho0 (fun k_ hk_ => ⟨Or.elim hk_ (fun hs_ => hs_.1) (fun hn_ => (.inr (Nat.le_trans (below_size (by repeat (first | (with_reducible first | exact HB.out | apply below_alloc | apply pw_below_drewN | apply below_drew1 | refine below_set ?_ GE154.out) | exact HB.out))) hn_))), Or.elim hk_ (fun hs_ => hs_.2) (fun hn_ => (Kd.freshB (g := gb154) (o := .cells #[.int .i64 a0_0, .string a0_1, .string a0_2, .slice A0_3 l0_3.length c0_3, .slice A0_4 l0_4.length c0_4, .int .i64 a0_5, .int .i64 a0_6, .int .i64 a0_7, .string a0_8, .slice A0_9 l0_9.length c0_9] 37 (0, 0)) (qb_ BK154.out) k_ hn_))⟩)) (below_size (by repeat (first | (with_reducible first | exact HB.out | apply below_alloc | apply pw_below_drewN | apply below_drew1 | refine below_set ?_ GE154.out) | exact HB.out)))); have n5_ := Aside0.mk (blk_below (g := gb154) (o := .cells #[.int .i64 a0_0, .string a0_1, .string a0_2, .slice A0_3 l0_3.length c0_3, .slice A0_4 l0_4.length c0_4, .int .i64 a0_5, .int .i64 a0_6, .int .i64 a0_7, .string a0_8, .slice A0_9 l0_9.length c0_9] 37 (0, 0)) (qb_ BK154.out) hb); have n6_ := Aside0.mk (below_step (by repeat (first | (with_reducible first | exact HB.out | apply below_alloc | apply pw_below_drewN | apply below_drew1 | refine below_set ?_ GE154.out) | exact HB.out)) hb); clear HO1; clear HO2; clear HO166; clear HO169; clear BK154; clear HB; have HO1 := n0_; have HO2 := n1_; have HO166 := n2_; have HO169 := n3_; have HO172 := n4_; have BK154 := n5_; have HB := n6_; clear n0_ n1_ n2_ n3_ n4_ n5_ n6_; (try clear hb); (try clear hb2); (try clear hk); (try clear hi); (try clear ho0)))
   go_ret
   exact ⟨_, by first | rfl | (simp [errW_none, errW_some] <;> rfl) | (simp [*, errW_none, errW_some] <;> rfl), by (with_reducible repeat (first | apply Kd.N_alloc | apply Kd.N_drewN | apply Kd.N_drew)); exact Kd.N_mono HO172.out (fun _ hk => hk.1), by repeat (first | (with_reducible first | exact HB.out | apply below_alloc | apply pw_below_drewN | apply below_drew1 | refine below_set ?_ GE154.out) | exact HB.out)⟩
  ·rw [if_neg c14] at H
   have c14b0 : (a0_0 == 5) = false := beq_eq_false_iff_ne.mpr c14
   have c14b1 : (a0_0 != 5) = true := bne_iff_ne.mpr c14
   by_cases c29 : a0_0 = 2
   ·rw [if_pos c29] at H
    have c29b0 : (a0_0 == 2) = true := beq_iff_eq.mpr c29
    have c29b1 : (a0_0 != 2) = false := bne_eq_false_iff_eq.mpr c29
    clear c29
    have H' := Aside0.mk H
    clear H
    go_enter Try.func13, Try.ntmps13
    go_wp2_with (first | ((with_reducible refine gate_dst (N := 3) rfl ?_); refine box_event ?hg (N := 3) ?hd (cs := #[.int .i64 a0_0, .string a0_1, .string a0_2, .slice A0_3 l0_3.length c0_3, .slice A0_4 l0_4.length c0_4, .int .i64 a0_5, .int .i64 a0_6, .int .i64 a0_7, .string a0_8, .slice A0_9 l0_9.length c0_9]) (t := 37) ?hr ?_; (case hd => rfl); (case hg => rfl); (case hr => first | (go_simp; done) | (go_simp; rfl)); intro gb154 hg w30 hbox hb; have n0_ := Aside0.mk (Kd.V_below (Kd.V_elderB (qv_ HO1.out) gb154 (Nat.le_of_eq hg.symm)) hb); have n1_ := Aside0.mk (Kd.V_below (Kd.V_elderB (qv_ HO2.out) gb154 (Nat.le_of_eq hg.symm)) hb); have n2_ := Aside0.mk (below_step qh_ hb); have n3_ := Aside0.mk (hbox); have n4_ := Aside0.mk ((by rw [hg]; exact (below_size qh_) : w.heap.size ≤ gb154)); have n5_ := Aside0.mk ((by rw [hg]; exact (below_size qh_) : w.heap.size ≤ gb154)); clear HO1; clear HO2; clear HB; have HO1 := n0_; have HO2 := n1_; have HB := n2_; have BK154 := n3_; have GW154 := n4_; have GE154 := n5_; clear n0_ n1_ n2_ n3_ n4_ n5_; clear hb hbox hg) | ((with_reducible refine gate_callee (f := 16) rfl ?_); refine goesL_ (some 19) rfl rfl Try.func16 (by kernel_rfl) rfl #[.slice A1 l1.length c1] rfl (by (try simp only [List.map_toArray, List.map_cons, List.map_nil]); first | done | rfl | (simp only [List.length_drop, List.length_take]; rfl)) ?_; (with_reducible refine (zset_Norm.calls (fun k_ => (((P1_ k_ ∨ P2_ k_) ∨ w.heap.size ≤ k_) ∧ k_ ≠ gb154)) _ _ l1 t155 _ ?side1 A4.out).mono ?_); (case side1 => exact HO1.out); rintro e w31 ⟨v156, rfl, ho0, hb⟩; refine ⟨_, rfl, ?_⟩; have n0_ := Aside0.mk (Kd.V_elder' (qv_ HO1.out) (Kd.N_base ho0) hb); have n1_ := Aside0.mk (Kd.V_elder' (qv_ HO2.out) (Kd.N_base ho0) hb); have n2_ := Aside0.mk (Kd.N_lower (Kd.N_mono (ok' := fun k_ => ((P1_ k_ ∨ P2_ k_) ∨ w.heap.size ≤ k_) ∧ k_ ≠ gb154) ho0 (fun k_ hk_ => ⟨Or.elim hk_ (fun hs_ => hs_.1) (fun hn_ => (.inr (Nat.le_trans (below_size (by repeat (first | (with_reducible first | exact HB.out | apply below_alloc | apply pw_below_drewN | apply below_drew1 | refine below_set ?_ GE154.out) | exact HB.out))) hn_))), Or.elim hk_ (fun hs_ => hs_.2) (fun hn_ => (Kd.freshB (g := gb154) (o := .cells #[.int .i64 a0_0, .string a0_1, .string a0_2, .slice A0_3 l0_3.length c0_3, .slice A0_4 l0_4.length c0_4, .int .i64 a0_5, .int .i64 a0_6, .int .i64 a0_7, .string a0_8, .slice A0_9 l0_9.length c0_9] 37 (0, 0)) (qb_ BK154.out) k_ hn_))⟩)) (below_size (by repeat (first | (with_reducible first | exact HB.out | apply below_alloc | apply pw_below_drewN | apply below_drew1 | refine below_set ?_ GE154.out) | exact HB.out)))); have n3_ := Aside0.mk (blk_below (g := gb154) (o := .cells #[.int .i64 a0_0, .string a0_1, .string a0_2, .slice A0_3 l0_3.length c0_3, .slice A0_4 l0_4.length c0_4, .int .i64 a0_5, .int .i64 a0_6, .int .i64 a0_7, .string a0_8, .slice A0_9 l0_9.length c0_9] 37 (0, 0)) (qb_ BK154.out) hb); have n4_ := Aside0.mk (below_step (by repeat (first | (with_reducible first | exact HB.out | apply below_alloc | apply pw_below_drewN | apply below_drew1 | refine below_set ?_ GE154.out) | exact HB.out)) hb); clear HO1; clear HO2; clear BK154; clear HB; have HO1 := n0_; have HO2 := n1_; have HO157 := n2_; have BK154 := n3_; have HB := n4_; clear n0_ n1_ n2_ n3_ n4_; (try clear hb); (try clear hb2); (try clear hk); (try clear hi); (try clear ho0)) | ((with_reducible refine gate_callee (f := 16) rfl ?_); refine goesL_ (some 21) rfl rfl Try.func16 (by kernel_rfl) rfl #[.slice A2 l2.length c2] rfl (by (try simp only [List.map_toArray, List.map_cons, List.map_nil]); first | done | rfl | (simp only [List.length_drop, List.length_take]; rfl)) ?_; (with_reducible refine (zset_Norm.calls (fun k_ => ((((P1_ k_ ∨ P2_ k_) ∨ w.heap.size ≤ k_) ∧ k_ ≠ gb154) ∧ some k_ ≠ (v156 : Value).ownBlock)) _ _ l2 t158 _ ?side1 A5.out).mono ?_); (case side1 => exact HO2.out); rintro e w32 ⟨v159, rfl, ho0, hb⟩; refine ⟨_, rfl, ?_⟩; have n0_ := Aside0.mk (Kd.V_elder' (qv_ HO1.out) (Kd.N_base ho0) hb); have n1_ := Aside0.mk (Kd.V_elder' (qv_ HO2.out) (Kd.N_base ho0) hb); have n2_ := Aside0.mk (Kd.N_elder' (qn_ HO157.out) (Kd.N_base ho0) hb); have n3_ := Aside0.mk (Kd.N_lower (Kd.N_mono (ok' := fun k_ => ((P1_ k_ ∨ P2_ k_) ∨ w.heap.size ≤ k_) ∧ some k_ ≠ (v156 : Value).ownBlock ∧ k_ ≠ gb154) ho0 (fun k_ hk_ => ⟨Or.elim hk_ (fun hs_ => hs_.1.1) (fun hn_ => (.inr (Nat.le_trans (below_size (by repeat (first | (with_reducible first | exact HB.out | apply below_alloc | apply pw_below_drewN | apply below_drew1 | refine below_set ?_ GE154.out) | exact HB.out))) hn_))), Or.elim hk_ (fun hs_ => hs_.2) (fun hn_ => (Kd.fresh' (Kd.N_lt (qn_ HO157.out)) k_ hn_)), Or.elim hk_ (fun hs_ => hs_.1.2) (fun hn_ => (Kd.freshB (g := gb154) (o := .cells #[.int .i64 a0_0, .string a0_1, .string a0_2, .slice A0_3 l0_3.length c0_3, .slice A0_4 l0_4.length c0_4, .int .i64 a0_5, .int .i64 a0_6, .int .i64 a0_7, .string a0_8, .slice A0_9 l0_9.length c0_9] 37 (0, 0)) (qb_ BK154.out) k_ hn_))⟩)) (below_size (by repeat (first | (with_reducible first | exact HB.out | apply below_alloc | apply pw_below_drewN | apply below_drew1 | refine below_set ?_ GE154.out) | exact HB.out)))); have n4_ := Aside0.mk (blk_below (g := gb154) (o := .cells #[.int .i64 a0_0, .string a0_1, .string a0_2, .slice A0_3 l0_3.length c0_3, .slice A0_4 l0_4.length c0_4, .int .i64 a0_5, .int .i64 a0_6, .int .i64 a0_7, .string a0_8, .slice A0_9 l0_9.length c0_9] 37 (0, 0)) (qb_ BK154.out) hb); have n5_ := Aside0.mk (below_step (by repeat (first | (with_reducible first | exact HB.out | apply below_alloc | apply pw_below_drewN | apply below_drew1 | refine below_set ?_ GE154.out) | exact HB.out)) hb); clear HO1; clear HO2; clear HO157; clear BK154; clear HB; have HO1 := n0_; have HO2 := n1_; have HO157 := n2_; have HO160 := n3_; have BK154 := n4_; have HB := n5_; clear n0_ n1_ n2_ n3_ n4_ n5_; (try clear hb); (try clear hb2); (try clear hk); (try clear hi); (try clear ho0); have hcz33_0 : w32.cell? ⟨gb154, 0, none⟩ = some (.int .i64 a0_0) := (blk_cell BK154.out 0).trans rfl; have hcz33_1 : w32.cell? ⟨gb154, 1, none⟩ = some (.string a0_1) := (blk_cell BK154.out 1).trans rfl; have hcz33_2 : w32.cell? ⟨gb154, 2, none⟩ = some (.string a0_2) := (blk_cell BK154.out 2).trans rfl; have hcz33_3 : w32.cell? ⟨gb154, 3, none⟩ = some (.slice A0_3 l0_3.length c0_3) := (blk_cell BK154.out 3).trans rfl; have hcz33_4 : w32.cell? ⟨gb154, 4, none⟩ = some (.slice A0_4 l0_4.length c0_4) := (blk_cell BK154.out 4).trans rfl; have hcz33_5 : w32.cell? ⟨gb154, 5, none⟩ = some (.int .i64 a0_5) := (blk_cell BK154.out 5).trans rfl; have hcz33_6 : w32.cell? ⟨gb154, 6, none⟩ = some (.int .i64 a0_6) := (blk_cell BK154.out 6).trans rfl; have hcz33_7 : w32.cell? ⟨gb154, 7, none⟩ = some (.int .i64 a0_7) := (blk_cell BK154.out 7).trans rfl; have hcz33_8 : w32.cell? ⟨gb154, 8, none⟩ = some (.string a0_8) := (blk_cell BK154.out 8).trans rfl; have hcz33_9 : w32.cell? ⟨gb154, 9, none⟩ = some (.slice A0_9 l0_9.length c0_9) := (blk_cell BK154.out 9).trans rfl; have hfz33_0 := blk_frozen BK154.out 0; have hfz33_1 := blk_frozen BK154.out 1; have hfz33_2 := blk_frozen BK154.out 2; have hfz33_3 := blk_frozen BK154.out 3; have hfz33_4 := blk_frozen BK154.out 4; have hfz33_5 := blk_frozen BK154.out 5; have hfz33_6 := blk_frozen BK154.out 6; have hfz33_7 := blk_frozen BK154.out 7; have hfz33_8 := blk_frozen BK154.out 8; have hfz33_9 := blk_frozen BK154.out 9; obtain ⟨Ao34, co34, eo34⟩ := Kd.N_slice HO157.out; subst eo34))
    (try simp only [Act.put, List.setIfInBounds_toArray, List.set_cons_zero, List.set_cons_succ])
    go_loopg [7, 37] k (fun kq v7 v37 w' => ∃ (x7_1 : List (S44)) (x37_1 : Int), v37 = .int .i64 x37_1 ∧ Aside0 (eval_Eval.l0 kq x7_1 t155 (t155.length : Int) x37_1 a0_0 a0_1 a0_2 l0_3 l0_4 a0_5 a0_6 a0_7 a0_8 l0_9 = some r) ∧ Aside0 (kq ≤ k) ∧ Aside0 (Kd.N k44 44 w' w.heap.size (fun k_ => ((P1_ k_ ∨ P2_ k_) ∨ w.heap.size ≤ k_) ∧ some k_ ≠ ((.slice Ao34 t155.length co34) : Value).ownBlock ∧ k_ ≠ gb154) v7 x7_1) ∧ Aside0 (Kd.N k44 44 w' w.heap.size (fun k_ => ((P1_ k_ ∨ P2_ k_) ∨ w.heap.size ≤ k_) ∧ some k_ ≠ (v7 : Value).ownBlock ∧ k_ ≠ gb154) (.slice Ao34 t155.length co34) t155) ∧ Aside0 (w'.heap[gb154]? = some (.cells #[.int .i64 a0_0, .string a0_1, .string a0_2, (.slice A0_3 l0_3.length c0_3), (.slice A0_4 l0_4.length c0_4), .int .i64 a0_5, .int .i64 a0_6, .int .i64 a0_7, .string a0_8, (.slice A0_9 l0_9.length c0_9)] 37 (0, 0))) ∧ Aside0 (Below w.heap.size w w'))
    case atStart => exact ⟨(([] : List (S44))), (0), (by first | rfl | (simp; done) | (simp [*]; done)), H', ⟨Nat.le_refl _⟩, ⟨by first | exact Kd.S_nil _ _ _ _ _ | exact Kd.N_nil _ _ _ _ _ | exact Kd.V_nil _ _ _ _ _ | exact Kd.Q_nil _ _ _ _ _ | exact Kd.R_nil _ _ _ _ _⟩, ⟨by (with_reducible repeat (first | apply Kd.N_alloc | apply Kd.N_drewN | apply Kd.N_drew)); exact Kd.N_mono HO157.out (fun _ hk => ⟨hk.1.1, ⟨(by simp [Value.ownBlock]), hk.1.2⟩⟩)⟩, ⟨qb_ BK154.out⟩, ⟨by repeat (first | (with_reducible first | exact HB.out | apply below_alloc | apply pw_below_drewN | apply below_drew1 | refine below_set ?_ GE154.out) | exact HB.out)⟩⟩
    case round =>
     clear H'
     try clear c1
     try clear c2
     try clear p2
     try clear c6
     try clear c6b0
     try clear c6b1
     try clear c13
     try clear c14
     try clear c14b0
     try clear c14b1
     try clear c16
     try clear c22
     try clear c29
     try clear c29b0
     try clear c29b1
     try clear hcz11_0
     try clear hcz11_1
     try clear hcz11_2
     try clear hcz11_3
     try clear hcz11_4
     try clear hcz11_5
     try clear hcz11_6
     try clear hcz11_7
     try clear hcz11_8
     try clear hcz11_9
     try clear hcz20_0
     try clear hcz20_1
     try clear hcz20_2
     try clear hcz20_3
     try clear hcz20_4
     try clear hcz20_5
     try clear hcz20_6
     try clear hcz20_7
     try clear hcz20_8
     try clear hcz20_9
     try clear hcz33_0
     try clear hcz33_1
     try clear hcz33_2
     try clear hcz33_3
     try clear hcz33_4
     try clear hcz33_5
     try clear hcz33_6
     try clear hcz33_7
     try clear hcz33_8
     try clear hcz33_9
     try clear hfz11_0
     try clear hfz11_1
     try clear hfz11_2
     try clear hfz11_3
     try clear hfz11_4
     try clear hfz11_5
     try clear hfz11_6
     try clear hfz11_7
     try clear hfz11_8
     try clear hfz11_9
     try clear hfz20_0
     try clear hfz20_1
     try clear hfz20_2
     try clear hfz20_3
     try clear hfz20_4
     try clear hfz20_5
     try clear hfz20_6
     try clear hfz20_7
     try clear hfz20_8
     try clear hfz20_9
     try clear hfz33_0
     try clear hfz33_1
     try clear hfz33_2
     try clear hfz33_3
     try clear hfz33_4
     try clear hfz33_5
     try clear hfz33_6
     try clear hfz33_7
     try clear hfz33_8
     try clear hfz33_9
     obtain ⟨x7_1, x37_1, rfl, HA, HK1, HO_7, HO_35, BK154, HB⟩ := hrel
     cases gk with
     | zero => exact absurd HA.out (by simp [eval_Eval.l0])
     | succ k1 =>
      have H := HA.out
      clear HA
      simp only [eval_Eval.l0] at H
      by_cases c35 : x37_1 < (t155.length : Int)
      ·rw [if_pos c35] at H
       have c35b0 : decide (x37_1 < (t155.length : Int)) = true := decide_eq_true c35
       clear c35
       by_cases c36 : 0 ≤ x37_1
       ·rw [if_pos c36] at H
        have c36b0 : decide (0 ≤ x37_1) = true := decide_eq_true c36
        clear c36
        by_cases c37 : x37_1 < (t155.length : Int)
        ·rw [if_pos c37] at H
         have c37b0 : decide (x37_1 < (t155.length : Int)) = true := decide_eq_true c37
         clear c37
         replace H := Option.bind_eq_some_iff.mp H
         obtain ⟨t178, A380, H⟩ := H
         replace H : (if (t178.length : Int) > 0 then (if 0 < (t178.length : Int) then ((eval_Holds.f a0_5 ((rd_T23 t178 0).f0) ((rd_T23 t178 0).f1) ((rd_T23 t178 0).f2) a0_6 a0_7 a0_8).bind fun t182 => (if t182 = true then (if x7_1.length < 4398046511104 then (eval_Eval.l0 k1 (x7_1 ++ [(⟨(rd_T44 t155 x37_1).f0, (rd_T44 t155 x37_1).f1⟩ : S44)]) t155 (t155.length : Int) (wrap64 (x37_1 + 1)) a0_0 a0_1 a0_2 l0_3 l0_4 a0_5 a0_6 a0_7 a0_8 l0_9) else (none)) else (eval_Eval.l0 k1 x7_1 t155 (t155.length : Int) (wrap64 (x37_1 + 1)) a0_0 a0_1 a0_2 l0_3 l0_4 a0_5 a0_6 a0_7 a0_8 l0_9))) else (none)) else (eval_Eval.l0 k1 x7_1 t155 (t155.length : Int) (wrap64 (x37_1 + 1)) a0_0 a0_1 a0_2 l0_3 l0_4 a0_5 a0_6 a0_7 a0_8 l0_9)) = some r := H
         have A38 := Aside0.mk A380
         clear A380
         by_cases c39 : (t178.length : Int) > 0
         ·rw [if_pos c39] at H
          have c39b0 : decide (0 < (t178.length : Int)) = true := decide_eq_true c39
          have c39b1 : decide (0 < t178.length) = true := decide_eq_true (by omega)
          clear c39
          by_cases c40 : 0 < (t178.length : Int)
          ·rw [if_pos c40] at H
           have c40b0 : decide (0 < (t178.length : Int)) = true := decide_eq_true c40
           have c40b1 : decide (0 < t178.length) = true := decide_eq_true (by omega)
           clear c40
           replace H := Option.bind_eq_some_iff.mp H
           obtain ⟨t182, A410, H⟩ := H
           replace H : (if t182 = true then (if x7_1.length < 4398046511104 then (eval_Eval.l0 k1 (x7_1 ++ [(⟨(rd_T44 t155 x37_1).f0, (rd_T44 t155 x37_1).f1⟩ : S44)]) t155 (t155.length : Int) (wrap64 (x37_1 + 1)) a0_0 a0_1 a0_2 l0_3 l0_4 a0_5 a0_6 a0_7 a0_8 l0_9) else (none)) else (eval_Eval.l0 k1 x7_1 t155 (t155.length : Int) (wrap64 (x37_1 + 1)) a0_0 a0_1 a0_2 l0_3 l0_4 a0_5 a0_6 a0_7 a0_8 l0_9)) = some r := H
           have A41 := Aside0.mk A410
           clear A410
           by_cases c42 : t182 = true
           ·subst c42
            have H1 : (if x7_1.length < 4398046511104 then (eval_Eval.l0 k1 (x7_1 ++ [(⟨(rd_T44 t155 x37_1).f0, (rd_T44 t155 x37_1).f1⟩ : S44)]) t155 (t155.length : Int) (wrap64 (x37_1 + 1)) a0_0 a0_1 a0_2 l0_3 l0_4 a0_5 a0_6 a0_7 a0_8 l0_9) else (none)) = some r := by rw [if_pos rfl] at H; exact H
            clear H
            have H := H1
            clear H1
            by_cases c43 : x7_1.length < 4398046511104
            ·rw [if_pos c43] at H
             have LMc43 := Aside0.mk c43
             clear c43
             obtain ⟨y183, hy183⟩ : ∃ y_ : List (S44), y_ = (x7_1 ++ [(⟨(rd_T44 t155 x37_1).f0, (rd_T44 t155 x37_1).f1⟩ : S44)]) := ⟨_, rfl⟩
             replace H : (eval_Eval.l0 k1 y183 t155 (t155.length : Int) (wrap64 (x37_1 + 1)) a0_0 a0_1 a0_2 l0_3 l0_4 a0_5 a0_6 a0_7 a0_8 l0_9) = some r := by first | (rw [hy183]; with_reducible exact H) | (have H2_ := (Option.bind_some _ _).symm.trans H; rw [hy183]; with_reducible exact H2_) | (have H2_ := (Option.bind_some _ _).symm.trans H; with_reducible exact H2_) | with_reducible exact H | (rw [hy183]; exact H) | exact H
             have Ny183 := Aside0.mk hy183
             clear hy183
             have H' := Aside0.mk H
             clear H
             have p176 : 0 ≤ (x37_1 : Int) := of_decide_eq_true (by first | (with_reducible assumption) | assumption)
             have q176 : x37_1 < (t155.length : Int) := of_decide_eq_true (by first | (with_reducible assumption) | assumption)
             obtain ⟨ad176, A176_0, c176_0, e176, hx176_0, hx176_1, hl176_0, hi176_0⟩ := at_T44 (Kd.N_reads' HO_35.out).2.2 x37_1 p176 q176
             cases e176
             obtain ⟨ce176, hce176, hMe176, hcc176⟩ := Kd.N_get HO_35.out z44 x37_1 p176 (by first | exact q176 | exact of_decide_eq_true (by first | (with_reducible assumption) | assumption) | (have e_ := (Kd.N_reads' HO_35.out).1; omega))
             obtain ⟨ua176_0, uc176_0, rfl, ul176_0, ge176_0⟩ := k44_openF hMe176
             have hv176_0 := hcc176 0 _ rfl
             rw [Nat.add_zero] at hv176_0
             replace hv176_0 := Option.some.inj (hv176_0.symm.trans hx176_0)
             injection hv176_0 with hva_ hvn_ hvc_
             rw [hva_] at ge176_0
             rw [hvc_] at ul176_0
             have HL176_0 := Aside0.mk (show Kd.V k23 23 _ w.heap.size _ _ ((rd_T44 t155 x37_1).f0) from Kd.V_mk ul176_0 ge176_0)
             clear hva_ hvn_ hvc_ ge176_0 ul176_0
             clear hcc176 hce176
             have HR176_0 := Aside0.mk hi176_0
             have HC176_0 := Aside0.mk hl176_0
             clear hi176_0 hl176_0
             replace p176 := eq_true p176
             replace q176 := eq_true q176
             try go_wp2_with (first | ((with_reducible refine gate_dst (N := 9) rfl ?_); refine box_event ?hg (N := 9) ?hd (cs := #[.slice none 0 0, .int .i64 0]) (t := 44) ?hr ?_; (case hd => rfl); (case hg => rfl); (case hr => first | (go_simp; done) | (go_simp; rfl)); intro gb177 hg w44 hbox hb; have n0_ := Aside0.mk (Kd.N_below (Kd.N_elderB (qn_ HO_7.out) gb177 (Nat.le_of_eq hg.symm)) hb); have n1_ := Aside0.mk (Kd.N_below (Kd.N_elderB (qn_ HO_35.out) gb177 (Nat.le_of_eq hg.symm)) hb); have n2_ := Aside0.mk (Kd.V_below (Kd.V_elderB (qv_ HL176_0.out) gb177 (Nat.le_of_eq hg.symm)) hb); have n3_ := Aside0.mk (blk_below (g := gb154) (o := .cells #[.int .i64 a0_0, .string a0_1, .string a0_2, .slice A0_3 l0_3.length c0_3, .slice A0_4 l0_4.length c0_4, .int .i64 a0_5, .int .i64 a0_6, .int .i64 a0_7, .string a0_8, .slice A0_9 l0_9.length c0_9] 37 (0, 0)) (qb_ BK154.out) hb); have n4_ := Aside0.mk (Kd.C_below (by repeat (first | (with_reducible exact HR176_0.out) | (with_reducible refine Kd.C_alloc ?_ _) | (with_reducible refine Kd.C_drewN ?_ _) | (with_reducible refine Kd.C_drew ?_) | exact HR176_0.out)) hb); have n5_ := Aside0.mk (below_step (by repeat (first | (with_reducible first | exact HB.out | apply below_alloc | apply pw_below_drewN | apply below_drew1 | refine below_set ?_ GE154.out) | exact HB.out)) hb); have n6_ := Aside0.mk (hbox); have n7_ := Aside0.mk ((by rw [hg]; exact (below_size (by repeat (first | (with_reducible first | exact HB.out | apply below_alloc | apply pw_below_drewN | apply below_drew1 | refine below_set ?_ GE154.out) | exact HB.out))) : w.heap.size ≤ gb177)); have n8_ := Aside0.mk ((by rw [hg]; exact (below_size (by repeat (first | (with_reducible first | exact HB.out | apply below_alloc | apply pw_below_drewN | apply below_drew1 | refine below_set ?_ GE154.out) | exact HB.out))) : w.heap.size ≤ gb177)); have n9_ := Aside0.mk ((by rw [hg]; exact Nat.ne_of_lt (blk_lt (g := gb154) (o := .cells #[.int .i64 a0_0, .string a0_1, .string a0_2, .slice A0_3 l0_3.length c0_3, .slice A0_4 l0_4.length c0_4, .int .i64 a0_5, .int .i64 a0_6, .int .i64 a0_7, .string a0_8, .slice A0_9 l0_9.length c0_9] 37 (0, 0)) (qb_ BK154.out)) : gb154 ≠ gb177)); have n10_ := Aside0.mk ((by rw [hg]; exact Nat.ne_of_gt (blk_lt (g := gb154) (o := .cells #[.int .i64 a0_0, .string a0_1, .string a0_2, .slice A0_3 l0_3.length c0_3, .slice A0_4 l0_4.length c0_4, .int .i64 a0_5, .int .i64 a0_6, .int .i64 a0_7, .string a0_8, .slice A0_9 l0_9.length c0_9] 37 (0, 0)) (qb_ BK154.out)) : gb177 ≠ gb154)); clear HO_7; clear HO_35; clear HL176_0; clear BK154; clear HR176_0; clear HB; have HO_7 := n0_; have HO_35 := n1_; have HL176_0 := n2_; have BK154 := n3_; have HR176_0 := n4_; have HB := n5_; have BK177 := n6_; have GW177 := n7_; have GE177 := n8_; have NB154_177 := n9_; have NB177_154 := n10_; clear n0_ n1_ n2_ n3_ n4_ n5_ n6_ n7_ n8_ n9_ n10_; clear hb hbox hg; have hnb45 := NB177_154.out; have hnc45 := NB154_177.out; have hcz46_0 : w44.cell? ⟨gb177, 0, none⟩ = some (.slice none 0 0) := (blk_cell BK177.out 0).trans rfl; have hcz46_1 : w44.cell? ⟨gb177, 1, none⟩ = some (.int .i64 0) := (blk_cell BK177.out 1).trans rfl; have hfz46_0 := blk_frozen BK177.out 0; have hfz46_1 := blk_frozen BK177.out 1; have hcz47_0 : w44.cell? ⟨gb154, 0, none⟩ = some (.int .i64 a0_0) := (blk_cell BK154.out 0).trans rfl; have hcz47_1 : w44.cell? ⟨gb154, 1, none⟩ = some (.string a0_1) := (blk_cell BK154.out 1).trans rfl; have hcz47_2 : w44.cell? ⟨gb154, 2, none⟩ = some (.string a0_2) := (blk_cell BK154.out 2).trans rfl; have hcz47_3 : w44.cell? ⟨gb154, 3, none⟩ = some (.slice A0_3 l0_3.length c0_3) := (blk_cell BK154.out 3).trans rfl; have hcz47_4 : w44.cell? ⟨gb154, 4, none⟩ = some (.slice A0_4 l0_4.length c0_4) := (blk_cell BK154.out 4).trans rfl; have hcz47_5 : w44.cell? ⟨gb154, 5, none⟩ = some (.int .i64 a0_5) := (blk_cell BK154.out 5).trans rfl; have hcz47_6 : w44.cell? ⟨gb154, 6, none⟩ = some (.int .i64 a0_6) := (blk_cell BK154.out 6).trans rfl; have hcz47_7 : w44.cell? ⟨gb154, 7, none⟩ = some (.int .i64 a0_7) := (blk_cell BK154.out 7).trans rfl; have hcz47_8 : w44.cell? ⟨gb154, 8, none⟩ = some (.string a0_8) := (blk_cell BK154.out 8).trans rfl; have hcz47_9 : w44.cell? ⟨gb154, 9, none⟩ = some (.slice A0_9 l0_9.length c0_9) := (blk_cell BK154.out 9).trans rfl; have hfz47_0 := blk_frozen BK154.out 0; have hfz47_1 := blk_frozen BK154.out 1; have hfz47_2 := blk_frozen BK154.out 2; have hfz47_3 := blk_frozen BK154.out 3; have hfz47_4 := blk_frozen BK154.out 4; have hfz47_5 := blk_frozen BK154.out 5; have hfz47_6 := blk_frozen BK154.out 6; have hfz47_7 := blk_frozen BK154.out 7; have hfz47_8 := blk_frozen BK154.out 8; have hfz47_9 := blk_frozen BK154.out 9) | ((with_reducible refine gate_callee (f := 7) rfl ?_); refine goesL_ (some 45) rfl rfl Try.func7 (by kernel_rfl) rfl #[.slice A176_0 ((rd_T44 t155 x37_1).f0).length c176_0, .slice A0_3 l0_3.length c0_3] rfl (by (try simp only [List.map_toArray, List.map_cons, List.map_nil]); first | done | rfl | (simp only [List.length_drop, List.length_take]; rfl)) ?_; (with_reducible refine (eval_Picked.calls k1 _ _ ((rd_T44 t155 x37_1).f0) _ _ l0_3 t178 _ ?side1 ?side2 ?side3 ?side4 A38.out).mono ?_); (case side1 => repeat (first | exact ((Kd.V_reads' (by (with_reducible repeat (first | apply Kd.V_alloc | apply Kd.V_drewN | apply Kd.V_drew)); exact (Kd.V_mono (Kd.V_far (p := ⟨gb177, 1, none⟩) (Kd.V_far (p := ⟨gb177, 0, none⟩) (Kd.V_mono HL176_0.out (fun k_ hk => (⟨hk, hk.2⟩ : _ ∧ k_ ≠ gb177))) (fun _ hk => hk.2) (.slice A176_0 ((rd_T44 t155 x37_1).f0).length c176_0)) (fun _ hk => hk.2) (.int .i64 ((rd_T44 t155 x37_1).f1))) (fun _ h_ => h_.1)))).2.2) | (with_reducible refine Kd.C_alloc ?_ _) | (with_reducible refine Kd.C_drewN ?_ _) | (with_reducible refine Kd.C_drew ?_))); (case side2 => exact HC176_0.out); (case side3 => exact Kd.C_below HR0_3.out (by repeat (first | (with_reducible first | exact HB.out | apply below_alloc | apply pw_below_drewN | apply below_drew1 | refine below_set ?_ GE154.out | refine below_set ?_ GE177.out) | exact HB.out))); (case side4 => exact HC0_3.out); rintro e w48 ⟨v179, rfl, ho0, hb⟩; refine ⟨_, rfl, ?_⟩; have n0_ := Aside0.mk (Kd.N_elder' (by (with_reducible repeat (first | apply Kd.N_alloc | apply Kd.N_drewN | apply Kd.N_drew)); exact (Kd.N_mono (Kd.N_far (p := ⟨gb177, 1, none⟩) (Kd.N_far (p := ⟨gb177, 0, none⟩) (Kd.N_mono HO_7.out (fun k_ hk => (⟨hk, hk.2⟩ : _ ∧ k_ ≠ gb177))) (fun _ hk => hk.2) (.slice A176_0 ((rd_T44 t155 x37_1).f0).length c176_0)) (fun _ hk => hk.2) (.int .i64 ((rd_T44 t155 x37_1).f1))) (fun _ h_ => h_.1))) (Kd.R_base ho0) hb); have n1_ := Aside0.mk (Kd.N_elder' (by (with_reducible repeat (first | apply Kd.N_alloc | apply Kd.N_drewN | apply Kd.N_drew)); exact (Kd.N_mono (Kd.N_far (p := ⟨gb177, 1, none⟩) (Kd.N_far (p := ⟨gb177, 0, none⟩) (Kd.N_mono HO_35.out (fun k_ hk => (⟨hk, hk.2⟩ : _ ∧ k_ ≠ gb177))) (fun _ hk => hk.2) (.slice A176_0 ((rd_T44 t155 x37_1).f0).length c176_0)) (fun _ hk => hk.2) (.int .i64 ((rd_T44 t155 x37_1).f1))) (fun _ h_ => h_.1))) (Kd.R_base ho0) hb); have n2_ := Aside0.mk (Kd.V_elder' (by (with_reducible repeat (first | apply Kd.V_alloc | apply Kd.V_drewN | apply Kd.V_drew)); exact (Kd.V_mono (Kd.V_far (p := ⟨gb177, 1, none⟩) (Kd.V_far (p := ⟨gb177, 0, none⟩) (Kd.V_mono HL176_0.out (fun k_ hk => (⟨hk, hk.2⟩ : _ ∧ k_ ≠ gb177))) (fun _ hk => hk.2) (.slice A176_0 ((rd_T44 t155 x37_1).f0).length c176_0)) (fun _ hk => hk.2) (.int .i64 ((rd_T44 t155 x37_1).f1))) (fun _ h_ => h_.1))) (Kd.R_base ho0) hb); have n3_ := Aside0.mk (Kd.R_lower (Kd.R_newM (M := fun k_ => (w.heap.size ≤ k_)) ho0 (below_size (by repeat (first | (with_reducible first | exact HB.out | apply below_alloc | apply pw_below_drewN | apply below_drew1 | refine below_set ?_ GE154.out | refine below_set ?_ GE177.out) | exact HB.out))) (fun k_ h_ => h_)) (below_size (by repeat (first | (with_reducible first | exact HB.out | apply below_alloc | apply pw_below_drewN | apply below_drew1 | refine below_set ?_ GE154.out | refine below_set ?_ GE177.out) | exact HB.out)))); have n4_ := Aside0.mk (blk_below (g := gb154) (o := .cells #[.int .i64 a0_0, .string a0_1, .string a0_2, .slice A0_3 l0_3.length c0_3, .slice A0_4 l0_4.length c0_4, .int .i64 a0_5, .int .i64 a0_6, .int .i64 a0_7, .string a0_8, .slice A0_9 l0_9.length c0_9] 37 (0, 0)) (by (with_reducible repeat (first | refine blk_drewN ?_ _ | refine blk_drew ?_ | refine blk_alloc ?_ _)); refine blk_far ?_ NB154_177.out _; (with_reducible repeat (first | refine blk_drewN ?_ _ | refine blk_drew ?_ | refine blk_alloc ?_ _)); refine blk_far ?_ NB154_177.out _; (with_reducible repeat (first | refine blk_drewN ?_ _ | refine blk_drew ?_ | refine blk_alloc ?_ _)); exact BK154.out) hb); have n5_ := Aside0.mk (Kd.C_below ((Kd.V_reads' (by (with_reducible repeat (first | apply Kd.V_alloc | apply Kd.V_drewN | apply Kd.V_drew)); exact (Kd.V_mono (Kd.V_far (p := ⟨gb177, 1, none⟩) (Kd.V_far (p := ⟨gb177, 0, none⟩) (Kd.V_mono HL176_0.out (fun k_ hk => (⟨hk, hk.2⟩ : _ ∧ k_ ≠ gb177))) (fun _ hk => hk.2) (.slice A176_0 ((rd_T44 t155 x37_1).f0).length c176_0)) (fun _ hk => hk.2) (.int .i64 ((rd_T44 t155 x37_1).f1))) (fun _ h_ => h_.1)))).2.2) hb); have n6_ := Aside0.mk (blk_below (g := gb177) (o := .cells #[.slice A176_0 ((rd_T44 t155 x37_1).f0).length c176_0, .int .i64 ((rd_T44 t155 x37_1).f1)] 44 (0, 0)) (by (with_reducible repeat (first | refine blk_drewN ?_ _ | refine blk_drew ?_ | refine blk_alloc ?_ _)); refine blk_put (cs := #[.slice A176_0 ((rd_T44 t155 x37_1).f0).length c176_0, .int .i64 0]) ?_ 1 _ rfl; (with_reducible repeat (first | refine blk_drewN ?_ _ | refine blk_drew ?_ | refine blk_alloc ?_ _)); refine blk_put (cs := #[.slice none 0 0, .int .i64 0]) ?_ 0 _ rfl; (with_reducible repeat (first | refine blk_drewN ?_ _ | refine blk_drew ?_ | refine blk_alloc ?_ _)); exact BK177.out) hb); have n7_ := Aside0.mk (below_step (by repeat (first | (with_reducible first | exact HB.out | apply below_alloc | apply pw_below_drewN | apply below_drew1 | refine below_set ?_ GE154.out | refine below_set ?_ GE177.out) | exact HB.out)) hb); clear HO_7; clear HO_35; clear HL176_0; clear BK154; clear HR176_0; clear BK177; clear HB; have HO_7 := n0_; have HO_35 := n1_; have HL176_0 := n2_; have HO180 := n3_; have BK154 := n4_; have HR176_0 := n5_; have BK177 := n6_; have HB := n7_; clear n0_ n1_ n2_ n3_ n4_ n5_ n6_ n7_; (try clear hb); (try clear hb2); (try clear hk); (try clear hi); (try clear ho0)))
             have n0_ := Aside0.mk (Kd.N_drew HO_7.out)
             have n1_ := Aside0.mk (Kd.N_drew HO_35.out)
             have n2_ := Aside0.mk (Kd.V_drew HL176_0.out)
             have n3_ := Aside0.mk (Kd.R_drew HO180.out)
             have n4_ := Aside0.mk (blk_drew BK154.out)
             have n5_ := Aside0.mk (blk_drew BK177.out)
             have n6_ := Aside0.mk (Kd.C_drew HR176_0.out)
             have n7_ := Aside0.mk (below_drew1 HB.out)
             clear HO_7
             clear HO_35
             clear HL176_0
             clear HO180
             clear BK154
             clear BK177
             clear HR176_0
             clear HB
             have HO_7 := n0_
             have HO_35 := n1_
             have HL176_0 := n2_
             have HO180 := n3_
             have BK154 := n4_
             have BK177 := n5_
             have HR176_0 := n6_
             have HB := n7_
             clear n0_ n1_ n2_ n3_ n4_ n5_ n6_ n7_
             obtain ⟨Ao50, co50, eo50⟩ := Kd.R_slice HO180.out
             (first | subst eo50 | (injection eo50 with f1_ f2_ f3_; have f4_ := f1_.symm; have f5_ := f3_.symm; clear f1_ f2_ f3_; subst f4_; subst f5_))
             have p181 : 0 ≤ (0 : Int) := (by omega)
             have q181 : 0 < (t178.length : Int) := of_decide_eq_true (by first | (with_reducible assumption) | assumption)
             obtain ⟨ad181, e181, hx181_0, hx181_1, hx181_2⟩ := at_T23 (Kd.R_reads' HO180.out).2.2 0 p181 q181
             cases e181
             have qi181 : (0 < t178.length) = True := eq_true (by omega)
             (try rw [show ((0 : Int)).toNat = 0 from rfl] at hx181_0)
             (try rw [show 0 * 3 = 0 from rfl] at hx181_0)
             (try rw [Addr.add_zero'] at hx181_0)
             (try rw [show ((0 : Int)).toNat = 0 from rfl] at hx181_1)
             (try rw [show 0 * 3 = 0 from rfl] at hx181_1)
             (try rw [Addr.add_zero'] at hx181_1)
             (try rw [show ((0 : Int)).toNat = 0 from rfl] at hx181_2)
             (try rw [show 0 * 3 = 0 from rfl] at hx181_2)
             (try rw [Addr.add_zero'] at hx181_2)
             replace p181 := eq_true p181
             replace q181 := eq_true q181
             refine start_ (n := 13) (S := fun w' => w'.cell? ⟨gb154, 0, none⟩ = some (.int .i64 a0_0) ∧ w'.cell? ⟨gb154, 1, none⟩ = some (.string a0_1) ∧ w'.cell? ⟨gb154, 2, none⟩ = some (.string a0_2) ∧ w'.cell? ⟨gb154, 3, none⟩ = some (.slice A0_3 l0_3.length c0_3) ∧ w'.cell? ⟨gb154, 4, none⟩ = some (.slice A0_4 l0_4.length c0_4) ∧ w'.cell? ⟨gb154, 5, none⟩ = some (.int .i64 a0_5) ∧ w'.cell? ⟨gb154, 6, none⟩ = some (.int .i64 a0_6) ∧ w'.cell? ⟨gb154, 7, none⟩ = some (.int .i64 a0_7) ∧ w'.cell? ⟨gb154, 8, none⟩ = some (.string a0_8) ∧ w'.cell? ⟨gb154, 9, none⟩ = some (.slice A0_9 l0_9.length c0_9) ∧ w'.cell? ad181 = some (.int .i64 ((rd_T23 t178 0).f0)) ∧ w'.cell? ⟨ad181.block, ad181.off + 1, none⟩ = some (.int .i64 ((rd_T23 t178 0).f1)) ∧ w'.cell? ⟨ad181.block, ad181.off + 2, none⟩ = some (.string ((rd_T23 t178 0).f2))) (ds := []) #[false, false, false, false, false, false, false, false, false, false, false, false, false] (by kernel_rfl) rfl rfl ⟨(blk_cell BK154.out 0).trans rfl, (blk_cell BK154.out 1).trans rfl, (blk_cell BK154.out 2).trans rfl, (blk_cell BK154.out 3).trans rfl, (blk_cell BK154.out 4).trans rfl, (blk_cell BK154.out 5).trans rfl, (blk_cell BK154.out 6).trans rfl, (blk_cell BK154.out 7).trans rfl, (blk_cell BK154.out 8).trans rfl, (blk_cell BK154.out 9).trans rfl, hx181_0, hx181_1, hx181_2⟩ (fun hHeld => ?_); refine with_tabW eval_Eval.tab13 eval_Eval.bits13 (fun HT_ HW_ => ?_)
             generalize w48.drew = w49 at HO_7 HO_35 HL176_0 HO180 BK154 BK177 HR176_0 HB hx181_0 hx181_1 hx181_2 hHeld ⊢
             refine pure_ (i := 0) (N := some 46) (v := ?_) (a' := ?_) #[true, false, false, false, false, false, false, false, false, false, false, false, false] rfl rfl (any_of HT_.out (by kernel_rfl)) (fun _ _ _ h => h) (Or.inl ⟨by rfl, ?_⟩) ?_ ?_
             rotate_left
             ·intro w'
              go_simp
              with_reducible rfl
             rotate_left
             ·simp only [Act.put, List.setIfInBounds_toArray, List.set_cons_zero, List.set_cons_succ, i64_w, i32_w]
              rfl
             refine pure_ (i := 1) (N := some 47) (v := ?_) (a' := ?_) #[true, true, false, false, false, false, false, false, false, false, false, false, false] rfl rfl (any_of HT_.out (by kernel_rfl)) (fun _ _ _ h => h) (Or.inl ⟨by rfl, ?_⟩) ?_ ?_
             rotate_left
             ·intro w'
              go_simp
              with_reducible rfl
             rotate_left
             ·simp only [Act.put, List.setIfInBounds_toArray, List.set_cons_zero, List.set_cons_succ, i64_w, i32_w]
              rfl
             refine pure_ (i := 2) (N := some 48) (v := ?_) (a' := ?_) #[true, true, true, false, false, false, false, false, false, false, false, false, false] rfl rfl (any_of HT_.out (by kernel_rfl)) (fun _ _ _ h => h) (Or.inl ⟨by rfl, ?_⟩) ?_ ?_
             rotate_left
             ·intro w'
              go_simp
              with_reducible rfl
             rotate_left
             ·simp only [Act.put, List.setIfInBounds_toArray, List.set_cons_zero, List.set_cons_succ, i64_w, i32_w]
              rfl
             refine pure_ (i := 3) (N := some 49) (v := ?_) (a' := ?_) #[true, true, true, true, false, false, false, false, false, false, false, false, false] rfl rfl (any_of HT_.out (by kernel_rfl)) (fun _ _ _ h => h) (Or.inl ⟨by rfl, ?_⟩) ?_ ?_
             rotate_left
             ·intro w'
              go_simp
              with_reducible rfl
             rotate_left
             ·simp only [Act.put, List.setIfInBounds_toArray, List.set_cons_zero, List.set_cons_succ, i64_w, i32_w]
              rfl
             refine pure_ (i := 4) (N := some 50) (v := ?_) (a' := ?_) #[true, true, true, true, true, false, false, false, false, false, false, false, false] rfl rfl (any_of HT_.out (by kernel_rfl)) (fun _ _ _ h => h) (Or.inl ⟨by rfl, ?_⟩) ?_ ?_
             rotate_left
             ·intro w'
              go_simp
              with_reducible rfl
             rotate_left
             ·simp only [Act.put, List.setIfInBounds_toArray, List.set_cons_zero, List.set_cons_succ, i64_w, i32_w]
              rfl
             refine pure_ (i := 6) (N := some 52) (v := ?_) (a' := ?_) #[true, true, true, true, true, false, true, false, false, false, false, false, false] rfl rfl (any_of HT_.out (by kernel_rfl)) (fun _ _ _ h => h) (Or.inl ⟨by rfl, ?_⟩) ?_ ?_
             rotate_left
             ·intro w'
              go_simp
              with_reducible rfl
             rotate_left
             ·simp only [Act.put, List.setIfInBounds_toArray, List.set_cons_zero, List.set_cons_succ, i64_w, i32_w]
              rfl
             refine pure_ (i := 7) (N := some 53) (v := ?_) (a' := ?_) #[true, true, true, true, true, false, true, true, false, false, false, false, false] rfl rfl (any_of HT_.out (by kernel_rfl)) (fun _ _ _ h => h) (Or.inl ⟨by rfl, ?_⟩) ?_ ?_
             rotate_left
             ·intro w'
              go_simp
              with_reducible rfl
             rotate_left
             ·simp only [Act.put, List.setIfInBounds_toArray, List.set_cons_zero, List.set_cons_succ, i64_w, i32_w]
              rfl
             refine pure_ (i := 9) (N := some 55) (v := ?_) (a' := ?_) #[true, true, true, true, true, false, true, true, false, true, false, false, false] rfl rfl (any_of HT_.out (by kernel_rfl)) (fun _ _ _ h => h) (Or.inl ⟨by rfl, ?_⟩) ?_ ?_
             rotate_left
             ·intro w'
              go_simp
              with_reducible rfl
             rotate_left
             ·simp only [Act.put, List.setIfInBounds_toArray, List.set_cons_zero, List.set_cons_succ, i64_w, i32_w]
              rfl
             refine take_ (i := 5) (N := some 51) (v := ?_) (a' := ?_) #[true, true, true, true, true, true, true, true, false, true, false, false, false] rfl rfl (take_ofW HT_.out HW_.out (by kernel_rfl)) (fun _ _ _ h => h) (Or.inl ⟨by rfl, ?_⟩) hHeld ?_ ?_
             rotate_left
             ·rintro w' ⟨s0, s1, s2, s3, s4, s5, s6, s7, s8, s9, s10, s11, s12⟩
              go_simp
              with_reducible rfl
             rotate_left
             ·simp only [Act.put, List.setIfInBounds_toArray, List.set_cons_zero, List.set_cons_succ, i64_w, i32_w]
              rfl
             refine take_ (i := 8) (N := some 54) (v := ?_) (a' := ?_) #[true, true, true, true, true, true, true, true, true, true, false, false, false] rfl rfl (take_ofW HT_.out HW_.out (by kernel_rfl)) (fun _ _ _ h => h) (Or.inl ⟨by rfl, ?_⟩) hHeld ?_ ?_
             rotate_left
             ·rintro w' ⟨s0, s1, s2, s3, s4, s5, s6, s7, s8, s9, s10, s11, s12⟩
              go_simp
              with_reducible rfl
             rotate_left
             ·simp only [Act.put, List.setIfInBounds_toArray, List.set_cons_zero, List.set_cons_succ, i64_w, i32_w]
              rfl
             refine take_ (i := 10) (N := some 56) (v := ?_) (a' := ?_) #[true, true, true, true, true, true, true, true, true, true, true, false, false] rfl rfl (take_ofW HT_.out HW_.out (by kernel_rfl)) (fun _ _ _ h => h) (Or.inl ⟨by rfl, ?_⟩) hHeld ?_ ?_
             rotate_left
             ·rintro w' ⟨s0, s1, s2, s3, s4, s5, s6, s7, s8, s9, s10, s11, s12⟩
              go_simp
              with_reducible rfl
             rotate_left
             ·simp only [Act.put, List.setIfInBounds_toArray, List.set_cons_zero, List.set_cons_succ, i64_w, i32_w]
              rfl
             refine one_ (i := 11) (N := some 57) #[true, true, true, true, true, true, true, true, true, true, true, true, false] rfl rfl (one_of HT_.out (by kernel_rfl)) (by decide) (fun K hK => ?_)
             refine goes_ Try.func9 (by kernel_rfl) rfl #[.int .i64 a0_5, .agg #[.int .i64 ((rd_T23 t178 0).f0), .int .i64 ((rd_T23 t178 0).f1), .string ((rd_T23 t178 0).f2)], .agg #[.int .i64 a0_6, .int .i64 a0_7, .string a0_8]] (by rfl) rfl rfl (by (try simp only [List.map_toArray, List.map_cons, List.map_nil]); first | done | rfl | (simp only [List.length_drop, List.length_take]; rfl)) ?_
             with_reducible refine (eval_Holds.calls a0_5 ((rd_T23 t178 0).f0) ((rd_T23 t178 0).f1) ((rd_T23 t178 0).f2) a0_6 a0_7 a0_8 true _ A41.out).mono ?_
             rintro e w51 ⟨rfl, hb⟩
             have HS10_ := (hb.cell (World.block_lt_of_cell? _ _ (hHeld.2.2.2.2.2.2.2.2.2.2.1))).trans (hHeld.2.2.2.2.2.2.2.2.2.2.1)
             have HS11_ := (hb.cell (World.block_lt_of_cell? _ _ (hHeld.2.2.2.2.2.2.2.2.2.2.2.1))).trans (hHeld.2.2.2.2.2.2.2.2.2.2.2.1)
             have HS12_ := (hb.cell (World.block_lt_of_cell? _ _ (hHeld.2.2.2.2.2.2.2.2.2.2.2.2))).trans (hHeld.2.2.2.2.2.2.2.2.2.2.2.2)
             refine ⟨_, rfl, ?_⟩
             have n0_ := Aside0.mk (Kd.N_below (qn_ HO_7.out) hb)
             have n1_ := Aside0.mk (Kd.N_below (qn_ HO_35.out) hb)
             have n2_ := Aside0.mk (Kd.V_below (qv_ HL176_0.out) hb)
             have n3_ := Aside0.mk (Kd.R_below (qr_ HO180.out) hb)
             have n4_ := Aside0.mk (blk_below (g := gb154) (o := .cells #[.int .i64 a0_0, .string a0_1, .string a0_2, .slice A0_3 l0_3.length c0_3, .slice A0_4 l0_4.length c0_4, .int .i64 a0_5, .int .i64 a0_6, .int .i64 a0_7, .string a0_8, .slice A0_9 l0_9.length c0_9] 37 (0, 0)) (qb_ BK154.out) hb)
             have n5_ := Aside0.mk (Kd.C_below (by repeat (first | (with_reducible exact HR176_0.out) | (with_reducible refine Kd.C_alloc ?_ _) | (with_reducible refine Kd.C_drewN ?_ _) | (with_reducible refine Kd.C_drew ?_) | exact HR176_0.out)) hb)
             have n6_ := Aside0.mk (blk_below (g := gb177) (o := .cells #[.slice A176_0 ((rd_T44 t155 x37_1).f0).length c176_0, .int .i64 ((rd_T44 t155 x37_1).f1)] 44 (0, 0)) (qb_ BK177.out) hb)
             have n7_ := Aside0.mk (below_step (by repeat (first | (with_reducible first | exact HB.out | apply below_alloc | apply pw_below_drewN | apply below_drew1 | refine below_set ?_ GE154.out | refine below_set ?_ GE177.out) | exact HB.out)) hb)
             clear HO_7
             clear HO_35
             clear HL176_0
             clear HO180
             clear BK154
             clear HR176_0
             clear BK177
             clear HB
             have HO_7 := n0_
             have HO_35 := n1_
             have HL176_0 := n2_
             have HO180 := n3_
             have BK154 := n4_
             have HR176_0 := n5_
             have BK177 := n6_
             have HB := n7_
             clear n0_ n1_ n2_ n3_ n4_ n5_ n6_ n7_
             (try clear hb)
             (try clear hb2)
             (try clear hk)
             (try clear hi)
             refine hK.out _ _ ⟨(blk_cell BK154.out 0).trans rfl, (blk_cell BK154.out 1).trans rfl, (blk_cell BK154.out 2).trans rfl, (blk_cell BK154.out 3).trans rfl, (blk_cell BK154.out 4).trans rfl, (blk_cell BK154.out 5).trans rfl, (blk_cell BK154.out 6).trans rfl, (blk_cell BK154.out 7).trans rfl, (blk_cell BK154.out 8).trans rfl, (blk_cell BK154.out 9).trans rfl, HS10_, HS11_, HS12_⟩ (fun hHeld => ?_)
             clear hK K
             refine norm_ (a' := ?_) ?_ ?_
             rotate_left
             ·show Act.put _ (some 57) _ = _
              simp only [Act.put, List.setIfInBounds_toArray, List.set_cons_zero, List.set_cons_succ, i64_w, i32_w]
              rfl
             refine pure_ (i := 12) (N := some 58) (v := ?_) (a' := ?_) #[true, true, true, true, true, true, true, true, true, true, true, true, true] rfl rfl (any_of HT_.out (by kernel_rfl)) (fun _ _ _ h => h) (Or.inl ⟨by rfl, ?_⟩) ?_ ?_
             rotate_left
             ·intro w'
              go_simp
              with_reducible rfl
             rotate_left
             ·simp only [Act.put, List.setIfInBounds_toArray, List.set_cons_zero, List.set_cons_succ, i64_w, i32_w]
              rfl
             refine done_ (done_of HT_.out (by kernel_rfl)) ?_
             have hcz52_0 : w51.cell? ⟨gb177, 0, none⟩ = some (.slice A176_0 ((rd_T44 t155 x37_1).f0).length c176_0) := (blk_cell BK177.out 0).trans rfl
             have hcz52_1 : w51.cell? ⟨gb177, 1, none⟩ = some (.int .i64 ((rd_T44 t155 x37_1).f1)) := (blk_cell BK177.out 1).trans rfl
             have hfz52_0 := blk_frozen BK177.out 0
             have hfz52_1 := blk_frozen BK177.out 1
             try go_wp2_with (first | ((with_reducible refine gate_builtin (b := .append) (xs := #[.tmp 59, .tmp 61]) rfl ?_); at_builtin; refine Kd.N_append k44 (w0 := w) w.heap.size rfl (.tmp 59) (.tmp 61) 31 44 (.agg #[(.slice none 0 0), (.int .i64 0)]) 32 rfl Try.underlying31 info44 rfl (by decide) (by omega) u7 x7_1 (⟨(rd_T44 t155 x37_1).f0, (rd_T44 t155 x37_1).f1⟩ : S44) [.slice A176_0 ((rd_T44 t155 x37_1).f0).length c176_0, .int .i64 ((rd_T44 t155 x37_1).f1)] (fun k_ => ((P1_ k_ ∨ P2_ k_) ∨ w.heap.size ≤ k_) ∧ some k_ ≠ (.slice (some ad176) t155.length co34 : Value).ownBlock ∧ some k_ ≠ (.slice (some ad181) t178.length co50 : Value).ownBlock ∧ k_ ≠ gb154 ∧ k_ ≠ gb177) (fun k_ => ((fun k_ => ((P1_ k_ ∨ P2_ k_) ∨ w.heap.size ≤ k_) ∧ some k_ ≠ (.slice (some ad176) t155.length co34 : Value).ownBlock ∧ some k_ ≠ (.slice (some ad181) t178.length co50 : Value).ownBlock ∧ k_ ≠ gb154 ∧ k_ ≠ gb177)) k_ ∧ some k_ ≠ (u7 : Value).ownBlock) rfl rfl ?aP (fun _ hk => hk) ?aF ?aO ?aB ?aS ?aL ?_; (case aP => exact (k44_mkF _ _ (⟨(rd_T44 t155 x37_1).f0, (rd_T44 t155 x37_1).f1⟩ : S44) (Kd.V_reads' (Kd.V_mono (ok' := (fun k_ => ((fun k_ => ((P1_ k_ ∨ P2_ k_) ∨ w.heap.size ≤ k_) ∧ some k_ ≠ (.slice (some ad176) t155.length co34 : Value).ownBlock ∧ some k_ ≠ (.slice (some ad181) t178.length co50 : Value).ownBlock ∧ k_ ≠ gb154 ∧ k_ ≠ gb177)) k_ ∧ some k_ ≠ (u7 : Value).ownBlock)) (HL176_0.out) (fun k_ hk => ⟨⟨hk.1.1.1.1, ⟨hk.1.1.2, ⟨hk.2, ⟨hk.1.1.1.2.2, hk.1.2⟩⟩⟩⟩, hk.1.1.1.2.1⟩))).2.1 (Kd.V_F (Kd.V_mono (ok' := (fun k_ => ((fun k_ => ((P1_ k_ ∨ P2_ k_) ∨ w.heap.size ≤ k_) ∧ some k_ ≠ (.slice (some ad176) t155.length co34 : Value).ownBlock ∧ some k_ ≠ (.slice (some ad181) t178.length co50 : Value).ownBlock ∧ k_ ≠ gb154 ∧ k_ ≠ gb177)) k_ ∧ some k_ ≠ (u7 : Value).ownBlock)) (HL176_0.out) (fun k_ hk => ⟨⟨hk.1.1.1.1, ⟨hk.1.1.2, ⟨hk.2, ⟨hk.1.1.1.2.2, hk.1.2⟩⟩⟩⟩, hk.1.1.1.2.1⟩))))); (case aB => exact (by repeat (first | (with_reducible first | exact HB.out | apply below_alloc | apply pw_below_drewN | apply below_drew1 | refine below_set ?_ GE154.out | refine below_set ?_ GE177.out) | exact HB.out))); (case aF => exact (fun k_ hk => ⟨(.inr (Nat.le_trans (below_size (by repeat (first | (with_reducible first | exact HB.out | apply below_alloc | apply pw_below_drewN | apply below_drew1 | refine below_set ?_ GE154.out | refine below_set ?_ GE177.out) | exact HB.out))) hk)), Kd.fresh' (Kd.N_lt (qn_ HO_35.out)) k_ hk, Kd.fresh' (Kd.R_lt (qr_ HO180.out)) k_ hk, Kd.freshB (g := gb154) (o := .cells #[.int .i64 a0_0, .string a0_1, .string a0_2, .slice A0_3 l0_3.length c0_3, .slice A0_4 l0_4.length c0_4, .int .i64 a0_5, .int .i64 a0_6, .int .i64 a0_7, .string a0_8, .slice A0_9 l0_9.length c0_9] 37 (0, 0)) (qb_ BK154.out) k_ hk, Kd.freshB (g := gb177) (o := .cells #[.slice A176_0 ((rd_T44 t155 x37_1).f0).length c176_0, .int .i64 ((rd_T44 t155 x37_1).f1)] 44 (0, 0)) (qb_ BK177.out) k_ hk⟩)); (case aO => exact (by (with_reducible repeat (first | apply Kd.N_alloc | apply Kd.N_drewN | apply Kd.N_drew)); exact Kd.N_mono HO_7.out (fun _ hk => ⟨hk.1.1.1, ⟨hk.1.1.2.1, ⟨hk.2, ⟨hk.1.1.2.2, hk.1.2⟩⟩⟩⟩))); (case aS => exact (below_size (by repeat (first | (with_reducible first | exact HB.out | apply below_alloc | apply pw_below_drewN | apply below_drew1 | refine below_set ?_ GE154.out | refine below_set ?_ GE177.out) | exact HB.out)))); (case aL => have := LMc43.out; omega); intro v184 w53 ho hb hg hat; rw [← Ny183.out] at ho; have n0_ := Aside0.mk (Kd.N_afterv (ok := (fun k_ => ((P1_ k_ ∨ P2_ k_) ∨ w.heap.size ≤ k_) ∧ some k_ ≠ (.slice (some ad181) t178.length co50 : Value).ownBlock ∧ k_ ≠ gb154 ∧ k_ ≠ gb177)) (by (with_reducible repeat (first | apply Kd.N_alloc | apply Kd.N_drewN | apply Kd.N_drew)); exact Kd.N_mono HO_35.out (fun _ hk => ⟨⟨hk.1.1.1, ⟨hk.2, ⟨hk.1.1.2.2, hk.1.2⟩⟩⟩, hk.1.1.2.1⟩)) hg hat); have n1_ := Aside0.mk (blk_grown (g := gb154) (o := .cells #[.int .i64 a0_0, .string a0_1, .string a0_2, .slice A0_3 l0_3.length c0_3, .slice A0_4 l0_4.length c0_4, .int .i64 a0_5, .int .i64 a0_6, .int .i64 a0_7, .string a0_8, .slice A0_9 l0_9.length c0_9] 37 (0, 0)) (qb_ BK154.out) hg (Kd.N_ne HO_7.out BK154.out (by decide))); have n2_ := Aside0.mk (Kd.V_afterv (ok := (fun k_ => ((P1_ k_ ∨ P2_ k_) ∨ w.heap.size ≤ k_) ∧ some k_ ≠ (.slice (some ad176) t155.length co34 : Value).ownBlock ∧ some k_ ≠ (.slice (some ad181) t178.length co50 : Value).ownBlock ∧ k_ ≠ gb154 ∧ k_ ≠ gb177)) (by (with_reducible repeat (first | apply Kd.V_alloc | apply Kd.V_drewN | apply Kd.V_drew)); exact Kd.V_mono HL176_0.out (fun _ hk => ⟨⟨hk.1.1.1.1, ⟨hk.1.1.2, ⟨hk.2, ⟨hk.1.1.1.2.2, hk.1.2⟩⟩⟩⟩, hk.1.1.1.2.1⟩)) hg hat); have n3_ := Aside0.mk (blk_grown (g := gb177) (o := .cells #[.slice A176_0 ((rd_T44 t155 x37_1).f0).length c176_0, .int .i64 ((rd_T44 t155 x37_1).f1)] 44 (0, 0)) (qb_ BK177.out) hg (Kd.N_away HO_7.out (fun _ hk => hk.1.2))); have n4_ := Aside0.mk (Kd.R_over' (qr_ HO180.out) (Kd.N_typed (qn_ HO_7.out)) (by decide) hg); have n5_ := Aside0.mk (hb); have n6_ := Aside0.mk (ho); clear HO_35; clear BK154; clear HL176_0; clear BK177; clear HO180; clear HB; clear HO_7; have HO_35 := n0_; have BK154 := n1_; have HL176_0 := n2_; have BK177 := n3_; have HO180 := n4_; have HB := n5_; have HO185 := n6_; clear n0_ n1_ n2_ n3_ n4_ n5_ n6_; clear ho hb hg hat))
             go_roundg k1
             case measure => have := HK1.out; omega
             case rel => exact ⟨(y183), (wrap64 (x37_1 + 1)), (by first | rfl | (simp; done) | (simp [*]; done)), H', ⟨by have := HK1.out; omega⟩, ⟨by (with_reducible repeat (first | apply Kd.N_alloc | apply Kd.N_drewN | apply Kd.N_drew)); exact Kd.N_mono HO185.out (fun _ hk => ⟨hk.1, ⟨hk.2.1, hk.2.2.2.1⟩⟩)⟩, ⟨by (with_reducible repeat (first | apply Kd.N_alloc | apply Kd.N_drewN | apply Kd.N_drew)); exact Kd.N_mono HO_35.out (fun _ hk => ⟨hk.1.1, ⟨hk.2, hk.1.2.2.1⟩⟩)⟩, ⟨qb_ BK154.out⟩, ⟨by repeat (first | (with_reducible first | exact HB.out | apply below_alloc | apply pw_below_drewN | apply below_drew1 | refine below_set ?_ GE154.out | refine below_set ?_ GE177.out) | exact HB.out)⟩⟩
            ·rw [if_neg c43] at H
             exact absurd H (by simp)
           ·replace c42 := Bool.eq_false_iff.mpr c42
            subst c42
            have H1 : (eval_Eval.l0 k1 x7_1 t155 (t155.length : Int) (wrap64 (x37_1 + 1)) a0_0 a0_1 a0_2 l0_3 l0_4 a0_5 a0_6 a0_7 a0_8 l0_9) = some r := by rw [if_neg (show ¬ (false = true) by decide)] at H; exact H
            clear H
            have H := H1
            clear H1
            have H' := Aside0.mk H
            clear H
            have p176 : 0 ≤ (x37_1 : Int) := of_decide_eq_true (by first | (with_reducible assumption) | assumption)
            have q176 : x37_1 < (t155.length : Int) := of_decide_eq_true (by first | (with_reducible assumption) | assumption)
            obtain ⟨ad176, A176_0, c176_0, e176, hx176_0, hx176_1, hl176_0, hi176_0⟩ := at_T44 (Kd.N_reads' HO_35.out).2.2 x37_1 p176 q176
            cases e176
            obtain ⟨ce176, hce176, hMe176, hcc176⟩ := Kd.N_get HO_35.out z44 x37_1 p176 (by first | exact q176 | exact of_decide_eq_true (by first | (with_reducible assumption) | assumption) | (have e_ := (Kd.N_reads' HO_35.out).1; omega))
            obtain ⟨ua176_0, uc176_0, rfl, ul176_0, ge176_0⟩ := k44_openF hMe176
            have hv176_0 := hcc176 0 _ rfl
            rw [Nat.add_zero] at hv176_0
            replace hv176_0 := Option.some.inj (hv176_0.symm.trans hx176_0)
            injection hv176_0 with hva_ hvn_ hvc_
            rw [hva_] at ge176_0
            rw [hvc_] at ul176_0
            have HL176_0 := Aside0.mk (show Kd.V k23 23 _ w.heap.size _ _ ((rd_T44 t155 x37_1).f0) from Kd.V_mk ul176_0 ge176_0)
            clear hva_ hvn_ hvc_ ge176_0 ul176_0
            clear hcc176 hce176
            have HR176_0 := Aside0.mk hi176_0
            have HC176_0 := Aside0.mk hl176_0
            clear hi176_0 hl176_0
            replace p176 := eq_true p176
            replace q176 := eq_true q176
            try go_wp2_with (first | ((with_reducible refine gate_dst (N := 9) rfl ?_); refine box_event ?hg (N := 9) ?hd (cs := #[.slice none 0 0, .int .i64 0]) (t := 44) ?hr ?_; (case hd => rfl); (case hg => rfl); (case hr => first | (go_simp; done) | (go_simp; rfl)); intro gb177 hg w54 hbox hb; have n0_ := Aside0.mk (Kd.N_below (Kd.N_elderB (qn_ HO_7.out) gb177 (Nat.le_of_eq hg.symm)) hb); have n1_ := Aside0.mk (Kd.N_below (Kd.N_elderB (qn_ HO_35.out) gb177 (Nat.le_of_eq hg.symm)) hb); have n2_ := Aside0.mk (Kd.V_below (Kd.V_elderB (qv_ HL176_0.out) gb177 (Nat.le_of_eq hg.symm)) hb); have n3_ := Aside0.mk (blk_below (g := gb154) (o := .cells #[.int .i64 a0_0, .string a0_1, .string a0_2, .slice A0_3 l0_3.length c0_3, .slice A0_4 l0_4.length c0_4, .int .i64 a0_5, .int .i64 a0_6, .int .i64 a0_7, .string a0_8, .slice A0_9 l0_9.length c0_9] 37 (0, 0)) (qb_ BK154.out) hb); have n4_ := Aside0.mk (Kd.C_below (by repeat (first | (with_reducible exact HR176_0.out) | (with_reducible refine Kd.C_alloc ?_ _) | (with_reducible refine Kd.C_drewN ?_ _) | (with_reducible refine Kd.C_drew ?_) | exact HR176_0.out)) hb); have n5_ := Aside0.mk (below_step (by repeat (first | (with_reducible first | exact HB.out | apply below_alloc | apply pw_below_drewN | apply below_drew1 | refine below_set ?_ GE154.out) | exact HB.out)) hb); have n6_ := Aside0.mk (hbox); have n7_ := Aside0.mk ((by rw [hg]; exact (below_size (by repeat (first | (with_reducible first | exact HB.out | apply below_alloc | apply pw_below_drewN | apply below_drew1 | refine below_set ?_ GE154.out) | exact HB.out))) : w.heap.size ≤ gb177)); have n8_ := Aside0.mk ((by rw [hg]; exact (below_size (by repeat (first | (with_reducible first | exact HB.out | apply below_alloc | apply pw_below_drewN | apply below_drew1 | refine below_set ?_ GE154.out) | exact HB.out))) : w.heap.size ≤ gb177)); have n9_ := Aside0.mk ((by rw [hg]; exact Nat.ne_of_lt (blk_lt (g := gb154) (o := .cells #[.int .i64 a0_0, .string a0_1, .string a0_2, .slice A0_3 l0_3.length c0_3, .slice A0_4 l0_4.length c0_4, .int .i64 a0_5, .int .i64 a0_6, .int .i64 a0_7, .string a0_8, .slice A0_9 l0_9.length c0_9] 37 (0, 0)) (qb_ BK154.out)) : gb154 ≠ gb177)); have n10_ := Aside0.mk ((by rw [hg]; exact Nat.ne_of_gt (blk_lt (g := gb154) (o := .cells #[.int .i64 a0_0, .string a0_1, .string a0_2, .slice A0_3 l0_3.length c0_3, .slice A0_4 l0_4.length c0_4, .int .i64 a0_5, .int .i64 a0_6, .int .i64 a0_7, .string a0_8, .slice A0_9 l0_9.length c0_9] 37 (0, 0)) (qb_ BK154.out)) : gb177 ≠ gb154)); clear HO_7; clear HO_35; clear HL176_0; clear BK154; clear HR176_0; clear HB; have HO_7 := n0_; have HO_35 := n1_; have HL176_0 := n2_; have BK154 := n3_; have HR176_0 := n4_; have HB := n5_; have BK177 := n6_; have GW177 := n7_; have GE177 := n8_; have NB154_177 := n9_; have NB177_154 := n10_; clear n0_ n1_ n2_ n3_ n4_ n5_ n6_ n7_ n8_ n9_ n10_; clear hb hbox hg; have hnb55 := NB177_154.out; have hnc55 := NB154_177.out; have hcz56_0 : w54.cell? ⟨gb177, 0, none⟩ = some (.slice none 0 0) := (blk_cell BK177.out 0).trans rfl; have hcz56_1 : w54.cell? ⟨gb177, 1, none⟩ = some (.int .i64 0) := (blk_cell BK177.out 1).trans rfl; have hfz56_0 := blk_frozen BK177.out 0; have hfz56_1 := blk_frozen BK177.out 1; have hcz57_0 : w54.cell? ⟨gb154, 0, none⟩ = some (.int .i64 a0_0) := (blk_cell BK154.out 0).trans rfl; have hcz57_1 : w54.cell? ⟨gb154, 1, none⟩ = some (.string a0_1) := (blk_cell BK154.out 1).trans rfl; have hcz57_2 : w54.cell? ⟨gb154, 2, none⟩ = some (.string a0_2) := (blk_cell BK154.out 2).trans rfl; have hcz57_3 : w54.cell? ⟨gb154, 3, none⟩ = some (.slice A0_3 l0_3.length c0_3) := (blk_cell BK154.out 3).trans rfl; have hcz57_4 : w54.cell? ⟨gb154, 4, none⟩ = some (.slice A0_4 l0_4.length c0_4) := (blk_cell BK154.out 4).trans rfl; have hcz57_5 : w54.cell? ⟨gb154, 5, none⟩ = some (.int .i64 a0_5) := (blk_cell BK154.out 5).trans rfl; have hcz57_6 : w54.cell? ⟨gb154, 6, none⟩ = some (.int .i64 a0_6) := (blk_cell BK154.out 6).trans rfl; have hcz57_7 : w54.cell? ⟨gb154, 7, none⟩ = some (.int .i64 a0_7) := (blk_cell BK154.out 7).trans rfl; have hcz57_8 : w54.cell? ⟨gb154, 8, none⟩ = some (.string a0_8) := (blk_cell BK154.out 8).trans rfl; have hcz57_9 : w54.cell? ⟨gb154, 9, none⟩ = some (.slice A0_9 l0_9.length c0_9) := (blk_cell BK154.out 9).trans rfl; have hfz57_0 := blk_frozen BK154.out 0; have hfz57_1 := blk_frozen BK154.out 1; have hfz57_2 := blk_frozen BK154.out 2; have hfz57_3 := blk_frozen BK154.out 3; have hfz57_4 := blk_frozen BK154.out 4; have hfz57_5 := blk_frozen BK154.out 5; have hfz57_6 := blk_frozen BK154.out 6; have hfz57_7 := blk_frozen BK154.out 7; have hfz57_8 := blk_frozen BK154.out 8; have hfz57_9 := blk_frozen BK154.out 9) | ((with_reducible refine gate_callee (f := 7) rfl ?_); refine goesL_ (some 45) rfl rfl Try.func7 (by kernel_rfl) rfl #[.slice A176_0 ((rd_T44 t155 x37_1).f0).length c176_0, .slice A0_3 l0_3.length c0_3] rfl (by (try simp only [List.map_toArray, List.map_cons, List.map_nil]); first | done | rfl | (simp only [List.length_drop, List.length_take]; rfl)) ?_; (with_reducible refine (eval_Picked.calls k1 _ _ ((rd_T44 t155 x37_1).f0) _ _ l0_3 t178 _ ?side1 ?side2 ?side3 ?side4 A38.out).mono ?_); (case side1 => repeat (first | exact ((Kd.V_reads' (by (with_reducible repeat (first | apply Kd.V_alloc | apply Kd.V_drewN | apply Kd.V_drew)); exact (Kd.V_mono (Kd.V_far (p := ⟨gb177, 1, none⟩) (Kd.V_far (p := ⟨gb177, 0, none⟩) (Kd.V_mono HL176_0.out (fun k_ hk => (⟨hk, hk.2⟩ : _ ∧ k_ ≠ gb177))) (fun _ hk => hk.2) (.slice A176_0 ((rd_T44 t155 x37_1).f0).length c176_0)) (fun _ hk => hk.2) (.int .i64 ((rd_T44 t155 x37_1).f1))) (fun _ h_ => h_.1)))).2.2) | (with_reducible refine Kd.C_alloc ?_ _) | (with_reducible refine Kd.C_drewN ?_ _) | (with_reducible refine Kd.C_drew ?_))); (case side2 => exact HC176_0.out); (case side3 => exact Kd.C_below HR0_3.out (by repeat (first | (with_reducible first | exact HB.out | apply below_alloc | apply pw_below_drewN | apply below_drew1 | refine below_set ?_ GE154.out | refine below_set ?_ GE177.out) | exact HB.out))); (case side4 => exact HC0_3.out); rintro e w58 ⟨v179, rfl, ho0, hb⟩; refine ⟨_, rfl, ?_⟩; have n0_ := Aside0.mk (Kd.N_elder' (by (with_reducible repeat (first | apply Kd.N_alloc | apply Kd.N_drewN | apply Kd.N_drew)); exact (Kd.N_mono (Kd.N_far (p := ⟨gb177, 1, none⟩) (Kd.N_far (p := ⟨gb177, 0, none⟩) (Kd.N_mono HO_7.out (fun k_ hk => (⟨hk, hk.2⟩ : _ ∧ k_ ≠ gb177))) (fun _ hk => hk.2) (.slice A176_0 ((rd_T44 t155 x37_1).f0).length c176_0)) (fun _ hk => hk.2) (.int .i64 ((rd_T44 t155 x37_1).f1))) (fun _ h_ => h_.1))) (Kd.R_base ho0) hb); have n1_ := Aside0.mk (Kd.N_elder' (by (with_reducible repeat (first | apply Kd.N_alloc | apply Kd.N_drewN | apply Kd.N_drew)); exact (Kd.N_mono (Kd.N_far (p := ⟨gb177, 1, none⟩) (Kd.N_far (p := ⟨gb177, 0, none⟩) (Kd.N_mono HO_35.out (fun k_ hk => (⟨hk, hk.2⟩ : _ ∧ k_ ≠ gb177))) (fun _ hk => hk.2) (.slice A176_0 ((rd_T44 t155 x37_1).f0).length c176_0)) (fun _ hk => hk.2) (.int .i64 ((rd_T44 t155 x37_1).f1))) (fun _ h_ => h_.1))) (Kd.R_base ho0) hb); have n2_ := Aside0.mk (Kd.V_elder' (by (with_reducible repeat (first | apply Kd.V_alloc | apply Kd.V_drewN | apply Kd.V_drew)); exact (Kd.V_mono (Kd.V_far (p := ⟨gb177, 1, none⟩) (Kd.V_far (p := ⟨gb177, 0, none⟩) (Kd.V_mono HL176_0.out (fun k_ hk => (⟨hk, hk.2⟩ : _ ∧ k_ ≠ gb177))) (fun _ hk => hk.2) (.slice A176_0 ((rd_T44 t155 x37_1).f0).length c176_0)) (fun _ hk => hk.2) (.int .i64 ((rd_T44 t155 x37_1).f1))) (fun _ h_ => h_.1))) (Kd.R_base ho0) hb); have n3_ := Aside0.mk (Kd.R_lower (Kd.R_newM (M := fun k_ => (w.heap.size ≤ k_)) ho0 (below_size (by repeat (first | (with_reducible first | exact HB.out | apply below_alloc | apply pw_below_drewN | apply below_drew1 | refine below_set ?_ GE154.out | refine below_set ?_ GE177.out) | exact HB.out))) (fun k_ h_ => h_)) (below_size (by repeat (first | (with_reducible first | exact HB.out | apply below_alloc | apply pw_below_drewN | apply below_drew1 | refine below_set ?_ GE154.out | refine below_set ?_ GE177.out) | exact HB.out)))); have n4_ := Aside0.mk (blk_below (g := gb154) (o := .cells #[.int .i64 a0_0, .string a0_1, .string a0_2, .slice A0_3 l0_3.length c0_3, .slice A0_4 l0_4.length c0_4, .int .i64 a0_5, .int .i64 a0_6, .int .i64 a0_7, .string a0_8, .slice A0_9 l0_9.length c0_9] 37 (0, 0)) (by (with_reducible repeat (first | refine blk_drewN ?_ _ | refine blk_drew ?_ | refine blk_alloc ?_ _)); refine blk_far ?_ NB154_177.out _; (with_reducible repeat (first | refine blk_drewN ?_ _ | refine blk_drew ?_ | refine blk_alloc ?_ _)); refine blk_far ?_ NB154_177.out _; (with_reducible repeat (first | refine blk_drewN ?_ _ | refine blk_drew ?_ | refine blk_alloc ?_ _)); exact BK154.out) hb); have n5_ := Aside0.mk (Kd.C_below ((Kd.V_reads' (by (with_reducible repeat (first | apply Kd.V_alloc | apply Kd.V_drewN | apply Kd.V_drew)); exact (Kd.V_mono (Kd.V_far (p := ⟨gb177, 1, none⟩) (Kd.V_far (p := ⟨gb177, 0, none⟩) (Kd.V_mono HL176_0.out (fun k_ hk => (⟨hk, hk.2⟩ : _ ∧ k_ ≠ gb177))) (fun _ hk => hk.2) (.slice A176_0 ((rd_T44 t155 x37_1).f0).length c176_0)) (fun _ hk => hk.2) (.int .i64 ((rd_T44 t155 x37_1).f1))) (fun _ h_ => h_.1)))).2.2) hb); have n6_ := Aside0.mk (blk_below (g := gb177) (o := .cells #[.slice A176_0 ((rd_T44 t155 x37_1).f0).length c176_0, .int .i64 ((rd_T44 t155 x37_1).f1)] 44 (0, 0)) (by (with_reducible repeat (first | refine blk_drewN ?_ _ | refine blk_drew ?_ | refine blk_alloc ?_ _)); refine blk_put (cs := #[.slice A176_0 ((rd_T44 t155 x37_1).f0).length c176_0, .int .i64 0]) ?_ 1 _ rfl; (with_reducible repeat (first | refine blk_drewN ?_ _ | refine blk_drew ?_ | refine blk_alloc ?_ _)); refine blk_put (cs := #[.slice none 0 0, .int .i64 0]) ?_ 0 _ rfl; (with_reducible repeat (first | refine blk_drewN ?_ _ | refine blk_drew ?_ | refine blk_alloc ?_ _)); exact BK177.out) hb); have n7_ := Aside0.mk (below_step (by repeat (first | (with_reducible first | exact HB.out | apply below_alloc | apply pw_below_drewN | apply below_drew1 | refine below_set ?_ GE154.out | refine below_set ?_ GE177.out) | exact HB.out)) hb); clear HO_7; clear HO_35; clear HL176_0; clear BK154; clear HR176_0; clear BK177; clear HB; have HO_7 := n0_; have HO_35 := n1_; have HL176_0 := n2_; have HO180 := n3_; have BK154 := n4_; have HR176_0 := n5_; have BK177 := n6_; have HB := n7_; clear n0_ n1_ n2_ n3_ n4_ n5_ n6_ n7_; (try clear hb); (try clear hb2); (try clear hk); (try clear hi); (try clear ho0)))
            have n0_ := Aside0.mk (Kd.N_drew HO_7.out)
            have n1_ := Aside0.mk (Kd.N_drew HO_35.out)
            have n2_ := Aside0.mk (Kd.V_drew HL176_0.out)
            have n3_ := Aside0.mk (Kd.R_drew HO180.out)
            have n4_ := Aside0.mk (blk_drew BK154.out)
            have n5_ := Aside0.mk (blk_drew BK177.out)
            have n6_ := Aside0.mk (Kd.C_drew HR176_0.out)
            have n7_ := Aside0.mk (below_drew1 HB.out)
            clear HO_7
            clear HO_35
            clear HL176_0
            clear HO180
            clear BK154
            clear BK177
            clear HR176_0
            clear HB
            have HO_7 := n0_
            have HO_35 := n1_
            have HL176_0 := n2_
            have HO180 := n3_
            have BK154 := n4_
            have BK177 := n5_
            have HR176_0 := n6_
            have HB := n7_
            clear n0_ n1_ n2_ n3_ n4_ n5_ n6_ n7_
            obtain ⟨Ao60, co60, eo60⟩ := Kd.R_slice HO180.out
            (first | subst eo60 | (injection eo60 with f1_ f2_ f3_; have f4_ := f1_.symm; have f5_ := f3_.symm; clear f1_ f2_ f3_; subst f4_; subst f5_))
            have p181 : 0 ≤ (0 : Int) := (by omega)
            have q181 : 0 < (t178.length : Int) := of_decide_eq_true (by first | (with_reducible assumption) | assumption)
            obtain ⟨ad181, e181, hx181_0, hx181_1, hx181_2⟩ := at_T23 (Kd.R_reads' HO180.out).2.2 0 p181 q181
            cases e181
            have qi181 : (0 < t178.length) = True := eq_true (by omega)
            (try rw [show ((0 : Int)).toNat = 0 from rfl] at hx181_0)
            (try rw [show 0 * 3 = 0 from rfl] at hx181_0)
            (try rw [Addr.add_zero'] at hx181_0)
            (try rw [show ((0 : Int)).toNat = 0 from rfl] at hx181_1)
            (try rw [show 0 * 3 = 0 from rfl] at hx181_1)
            (try rw [Addr.add_zero'] at hx181_1)
            (try rw [show ((0 : Int)).toNat = 0 from rfl] at hx181_2)
            (try rw [show 0 * 3 = 0 from rfl] at hx181_2)
            (try rw [Addr.add_zero'] at hx181_2)
            replace p181 := eq_true p181
            replace q181 := eq_true q181
            refine start_ (n := 13) (S := fun w' => w'.cell? ⟨gb154, 0, none⟩ = some (.int .i64 a0_0) ∧ w'.cell? ⟨gb154, 1, none⟩ = some (.string a0_1) ∧ w'.cell? ⟨gb154, 2, none⟩ = some (.string a0_2) ∧ w'.cell? ⟨gb154, 3, none⟩ = some (.slice A0_3 l0_3.length c0_3) ∧ w'.cell? ⟨gb154, 4, none⟩ = some (.slice A0_4 l0_4.length c0_4) ∧ w'.cell? ⟨gb154, 5, none⟩ = some (.int .i64 a0_5) ∧ w'.cell? ⟨gb154, 6, none⟩ = some (.int .i64 a0_6) ∧ w'.cell? ⟨gb154, 7, none⟩ = some (.int .i64 a0_7) ∧ w'.cell? ⟨gb154, 8, none⟩ = some (.string a0_8) ∧ w'.cell? ⟨gb154, 9, none⟩ = some (.slice A0_9 l0_9.length c0_9) ∧ w'.cell? ad181 = some (.int .i64 ((rd_T23 t178 0).f0)) ∧ w'.cell? ⟨ad181.block, ad181.off + 1, none⟩ = some (.int .i64 ((rd_T23 t178 0).f1)) ∧ w'.cell? ⟨ad181.block, ad181.off + 2, none⟩ = some (.string ((rd_T23 t178 0).f2))) (ds := []) #[false, false, false, false, false, false, false, false, false, false, false, false, false] (by kernel_rfl) rfl rfl ⟨(blk_cell BK154.out 0).trans rfl, (blk_cell BK154.out 1).trans rfl, (blk_cell BK154.out 2).trans rfl, (blk_cell BK154.out 3).trans rfl, (blk_cell BK154.out 4).trans rfl, (blk_cell BK154.out 5).trans rfl, (blk_cell BK154.out 6).trans rfl, (blk_cell BK154.out 7).trans rfl, (blk_cell BK154.out 8).trans rfl, (blk_cell BK154.out 9).trans rfl, hx181_0, hx181_1, hx181_2⟩ (fun hHeld => ?_); refine with_tabW eval_Eval.tab13 eval_Eval.bits13 (fun HT_ HW_ => ?_)
            generalize w58.drew = w59 at HO_7 HO_35 HL176_0 HO180 BK154 BK177 HR176_0 HB hx181_0 hx181_1 hx181_2 hHeld ⊢
            refine pure_ (i := 0) (N := some 46) (v := ?_) (a' := ?_) #[true, false, false, false, false, false, false, false, false, false, false, false, false] rfl rfl (any_of HT_.out (by kernel_rfl)) (fun _ _ _ h => h) (Or.inl ⟨by rfl, ?_⟩) ?_ ?_
            rotate_left
            ·intro w'
             go_simp
             with_reducible rfl
            rotate_left
            ·simp only [Act.put, List.setIfInBounds_toArray, List.set_cons_zero, List.set_cons_succ, i64_w, i32_w]
             rfl
            refine pure_ (i := 1) (N := some 47) (v := ?_) (a' := ?_) #[true, true, false, false, false, false, false, false, false, false, false, false, false] rfl rfl (any_of HT_.out (by kernel_rfl)) (fun _ _ _ h => h) (Or.inl ⟨by rfl, ?_⟩) ?_ ?_
            rotate_left
            ·intro w'
             go_simp
             with_reducible rfl
            rotate_left
            ·simp only [Act.put, List.setIfInBounds_toArray, List.set_cons_zero, List.set_cons_succ, i64_w, i32_w]
             rfl
            refine pure_ (i := 2) (N := some 48) (v := ?_) (a' := ?_) #[true, true, true, false, false, false, false, false, false, false, false, false, false] rfl rfl (any_of HT_.out (by kernel_rfl)) (fun _ _ _ h => h) (Or.inl ⟨by rfl, ?_⟩) ?_ ?_
            rotate_left
            ·intro w'
             go_simp
             with_reducible rfl
            rotate_left
            ·simp only [Act.put, List.setIfInBounds_toArray, List.set_cons_zero, List.set_cons_succ, i64_w, i32_w]
             rfl
            refine pure_ (i := 3) (N := some 49) (v := ?_) (a' := ?_) #[true, true, true, true, false, false, false, false, false, false, false, false, false] rfl rfl (any_of HT_.out (by kernel_rfl)) (fun _ _ _ h => h) (Or.inl ⟨by rfl, ?_⟩) ?_ ?_
            rotate_left
            ·intro w'
             go_simp
             with_reducible rfl
            rotate_left
            ·simp only [Act.put, List.setIfInBounds_toArray, List.set_cons_zero, List.set_cons_succ, i64_w, i32_w]
             rfl
            refine pure_ (i := 4) (N := some 50) (v := ?_) (a' := ?_) #[true, true, true, true, true, false, false, false, false, false, false, false, false] rfl rfl (any_of HT_.out (by kernel_rfl)) (fun _ _ _ h => h) (Or.inl ⟨by rfl, ?_⟩) ?_ ?_
            rotate_left
            ·intro w'
             go_simp
             with_reducible rfl
            rotate_left
            ·simp only [Act.put, List.setIfInBounds_toArray, List.set_cons_zero, List.set_cons_succ, i64_w, i32_w]
             rfl
            refine pure_ (i := 6) (N := some 52) (v := ?_) (a' := ?_) #[true, true, true, true, true, false, true, false, false, false, false, false, false] rfl rfl (any_of HT_.out (by kernel_rfl)) (fun _ _ _ h => h) (Or.inl ⟨by rfl, ?_⟩) ?_ ?_
            rotate_left
            ·intro w'
             go_simp
             with_reducible rfl
            rotate_left
            ·simp only [Act.put, List.setIfInBounds_toArray, List.set_cons_zero, List.set_cons_succ, i64_w, i32_w]
             rfl
            refine pure_ (i := 7) (N := some 53) (v := ?_) (a' := ?_) #[true, true, true, true, true, false, true, true, false, false, false, false, false] rfl rfl (any_of HT_.out (by kernel_rfl)) (fun _ _ _ h => h) (Or.inl ⟨by rfl, ?_⟩) ?_ ?_
            rotate_left
            ·intro w'
             go_simp
             with_reducible rfl
            rotate_left
            ·simp only [Act.put, List.setIfInBounds_toArray, List.set_cons_zero, List.set_cons_succ, i64_w, i32_w]
             rfl
            refine pure_ (i := 9) (N := some 55) (v := ?_) (a' := ?_) #[true, true, true, true, true, false, true, true, false, true, false, false, false] rfl rfl (any_of HT_.out (by kernel_rfl)) (fun _ _ _ h => h) (Or.inl ⟨by rfl, ?_⟩) ?_ ?_
            rotate_left
            ·intro w'
             go_simp
             with_reducible rfl
            rotate_left
            ·simp only [Act.put, List.setIfInBounds_toArray, List.set_cons_zero, List.set_cons_succ, i64_w, i32_w]
             rfl
            refine take_ (i := 5) (N := some 51) (v := ?_) (a' := ?_) #[true, true, true, true, true, true, true, true, false, true, false, false, false] rfl rfl (take_ofW HT_.out HW_.out (by kernel_rfl)) (fun _ _ _ h => h) (Or.inl ⟨by rfl, ?_⟩) hHeld ?_ ?_
            rotate_left
            ·rintro w' ⟨s0, s1, s2, s3, s4, s5, s6, s7, s8, s9, s10, s11, s12⟩
             go_simp
             with_reducible rfl
            rotate_left
            ·simp only [Act.put, List.setIfInBounds_toArray, List.set_cons_zero, List.set_cons_succ, i64_w, i32_w]
             rfl
            refine take_ (i := 8) (N := some 54) (v := ?_) (a' := ?_) #[true, true, true, true, true, true, true, true, true, true, false, false, false] rfl rfl (take_ofW HT_.out HW_.out (by kernel_rfl)) (fun _ _ _ h => h) (Or.inl ⟨by rfl, ?_⟩) hHeld ?_ ?_
            rotate_left
            ·rintro w' ⟨s0, s1, s2, s3, s4, s5, s6, s7, s8, s9, s10, s11, s12⟩
             go_simp
             with_reducible rfl
            rotate_left
            ·simp only [Act.put, List.setIfInBounds_toArray, List.set_cons_zero, List.set_cons_succ, i64_w, i32_w]
             rfl
            refine take_ (i := 10) (N := some 56) (v := ?_) (a' := ?_) #[true, true, true, true, true, true, true, true, true, true, true, false, false] rfl rfl (take_ofW HT_.out HW_.out (by kernel_rfl)) (fun _ _ _ h => h) (Or.inl ⟨by rfl, ?_⟩) hHeld ?_ ?_
            rotate_left
            ·rintro w' ⟨s0, s1, s2, s3, s4, s5, s6, s7, s8, s9, s10, s11, s12⟩
             go_simp
             with_reducible rfl
            rotate_left
            ·simp only [Act.put, List.setIfInBounds_toArray, List.set_cons_zero, List.set_cons_succ, i64_w, i32_w]
             rfl
            refine one_ (i := 11) (N := some 57) #[true, true, true, true, true, true, true, true, true, true, true, true, false] rfl rfl (one_of HT_.out (by kernel_rfl)) (by decide) (fun K hK => ?_)
            refine goes_ Try.func9 (by kernel_rfl) rfl #[.int .i64 a0_5, .agg #[.int .i64 ((rd_T23 t178 0).f0), .int .i64 ((rd_T23 t178 0).f1), .string ((rd_T23 t178 0).f2)], .agg #[.int .i64 a0_6, .int .i64 a0_7, .string a0_8]] (by rfl) rfl rfl (by (try simp only [List.map_toArray, List.map_cons, List.map_nil]); first | done | rfl | (simp only [List.length_drop, List.length_take]; rfl)) ?_
            with_reducible refine (eval_Holds.calls a0_5 ((rd_T23 t178 0).f0) ((rd_T23 t178 0).f1) ((rd_T23 t178 0).f2) a0_6 a0_7 a0_8 false _ A41.out).mono ?_
            rintro e w61 ⟨rfl, hb⟩
            have HS10_ := (hb.cell (World.block_lt_of_cell? _ _ (hHeld.2.2.2.2.2.2.2.2.2.2.1))).trans (hHeld.2.2.2.2.2.2.2.2.2.2.1)
            have HS11_ := (hb.cell (World.block_lt_of_cell? _ _ (hHeld.2.2.2.2.2.2.2.2.2.2.2.1))).trans (hHeld.2.2.2.2.2.2.2.2.2.2.2.1)
            have HS12_ := (hb.cell (World.block_lt_of_cell? _ _ (hHeld.2.2.2.2.2.2.2.2.2.2.2.2))).trans (hHeld.2.2.2.2.2.2.2.2.2.2.2.2)
            refine ⟨_, rfl, ?_⟩
            have n0_ := Aside0.mk (Kd.N_below (qn_ HO_7.out) hb)
            have n1_ := Aside0.mk (Kd.N_below (qn_ HO_35.out) hb)
            have n2_ := Aside0.mk (Kd.V_below (qv_ HL176_0.out) hb)
            have n3_ := Aside0.mk (Kd.R_below (qr_ HO180.out) hb)
            have n4_ := Aside0.mk (blk_below (g := gb154) (o := .cells #[.int .i64 a0_0, .string a0_1, .string a0_2, .slice A0_3 l0_3.length c0_3, .slice A0_4 l0_4.length c0_4, .int .i64 a0_5, .int .i64 a0_6, .int .i64 a0_7, .string a0_8, .slice A0_9 l0_9.length c0_9] 37 (0, 0)) (qb_ BK154.out) hb)
            have n5_ := Aside0.mk (Kd.C_below (by repeat (first | (with_reducible exact HR176_0.out) | (with_reducible refine Kd.C_alloc ?_ _) | (with_reducible refine Kd.C_drewN ?_ _) | (with_reducible refine Kd.C_drew ?_) | exact HR176_0.out)) hb)
            have n6_ := Aside0.mk (blk_below (g := gb177) (o := .cells #[.slice A176_0 ((rd_T44 t155 x37_1).f0).length c176_0, .int .i64 ((rd_T44 t155 x37_1).f1)] 44 (0, 0)) (qb_ BK177.out) hb)
            have n7_ := Aside0.mk (below_step (by repeat (first | (with_reducible first | exact HB.out | apply below_alloc | apply pw_below_drewN | apply below_drew1 | refine below_set ?_ GE154.out | refine below_set ?_ GE177.out) | exact HB.out)) hb)
            clear HO_7
            clear HO_35
            clear HL176_0
            clear HO180
            clear BK154
            clear HR176_0
            clear BK177
            clear HB
            have HO_7 := n0_
            have HO_35 := n1_
            have HL176_0 := n2_
            have HO180 := n3_
            have BK154 := n4_
            have HR176_0 := n5_
            have BK177 := n6_
            have HB := n7_
            clear n0_ n1_ n2_ n3_ n4_ n5_ n6_ n7_
            (try clear hb)
            (try clear hb2)
            (try clear hk)
            (try clear hi)
            refine hK.out _ _ ⟨(blk_cell BK154.out 0).trans rfl, (blk_cell BK154.out 1).trans rfl, (blk_cell BK154.out 2).trans rfl, (blk_cell BK154.out 3).trans rfl, (blk_cell BK154.out 4).trans rfl, (blk_cell BK154.out 5).trans rfl, (blk_cell BK154.out 6).trans rfl, (blk_cell BK154.out 7).trans rfl, (blk_cell BK154.out 8).trans rfl, (blk_cell BK154.out 9).trans rfl, HS10_, HS11_, HS12_⟩ (fun hHeld => ?_)
            clear hK K
            refine norm_ (a' := ?_) ?_ ?_
            rotate_left
            ·show Act.put _ (some 57) _ = _
             simp only [Act.put, List.setIfInBounds_toArray, List.set_cons_zero, List.set_cons_succ, i64_w, i32_w]
             rfl
            refine pure_ (i := 12) (N := some 58) (v := ?_) (a' := ?_) #[true, true, true, true, true, true, true, true, true, true, true, true, true] rfl rfl (any_of HT_.out (by kernel_rfl)) (fun _ _ _ h => h) (Or.inl ⟨by rfl, ?_⟩) ?_ ?_
            rotate_left
            ·intro w'
             go_simp
             with_reducible rfl
            rotate_left
            ·simp only [Act.put, List.setIfInBounds_toArray, List.set_cons_zero, List.set_cons_succ, i64_w, i32_w]
             rfl
            refine done_ (done_of HT_.out (by kernel_rfl)) ?_
            try go_wp2
            go_roundg k1
            case measure => have := HK1.out; omega
            case rel => exact ⟨(x7_1), (wrap64 (x37_1 + 1)), (by first | rfl | (simp; done) | (simp [*]; done)), H', ⟨by have := HK1.out; omega⟩, ⟨by (with_reducible repeat (first | apply Kd.N_alloc | apply Kd.N_drewN | apply Kd.N_drew)); exact Kd.N_mono HO_7.out (fun _ hk => ⟨hk.1.1.1, ⟨hk.1.1.2.1, hk.1.1.2.2⟩⟩)⟩, ⟨by (with_reducible repeat (first | apply Kd.N_alloc | apply Kd.N_drewN | apply Kd.N_drew)); exact Kd.N_mono HO_35.out (fun _ hk => ⟨hk.1.1.1, ⟨hk.1.1.2.1, hk.1.1.2.2⟩⟩)⟩, ⟨qb_ BK154.out⟩, ⟨by repeat (first | (with_reducible first | exact HB.out | apply below_alloc | apply pw_below_drewN | apply below_drew1 | refine below_set ?_ GE154.out | refine below_set ?_ GE177.out) | exact HB.out)⟩⟩
          ·rw [if_neg c40] at H
           exact absurd H (by simp)
         ·rw [if_neg c39] at H
          have c39b0 : decide (0 < (t178.length : Int)) = false := decide_eq_false c39
          have c39b1 : decide (0 < t178.length) = false := decide_eq_false (by omega)
          clear c39
          have H' := Aside0.mk H
          clear H
          have p176 : 0 ≤ (x37_1 : Int) := of_decide_eq_true (by first | (with_reducible assumption) | assumption)
          have q176 : x37_1 < (t155.length : Int) := of_decide_eq_true (by first | (with_reducible assumption) | assumption)
          obtain ⟨ad176, A176_0, c176_0, e176, hx176_0, hx176_1, hl176_0, hi176_0⟩ := at_T44 (Kd.N_reads' HO_35.out).2.2 x37_1 p176 q176
          cases e176
          obtain ⟨ce176, hce176, hMe176, hcc176⟩ := Kd.N_get HO_35.out z44 x37_1 p176 (by first | exact q176 | exact of_decide_eq_true (by first | (with_reducible assumption) | assumption) | (have e_ := (Kd.N_reads' HO_35.out).1; omega))
          obtain ⟨ua176_0, uc176_0, rfl, ul176_0, ge176_0⟩ := k44_openF hMe176
          have hv176_0 := hcc176 0 _ rfl
          rw [Nat.add_zero] at hv176_0
          replace hv176_0 := Option.some.inj (hv176_0.symm.trans hx176_0)
          injection hv176_0 with hva_ hvn_ hvc_
          rw [hva_] at ge176_0
          rw [hvc_] at ul176_0
          have HL176_0 := Aside0.mk (show Kd.V k23 23 _ w.heap.size _ _ ((rd_T44 t155 x37_1).f0) from Kd.V_mk ul176_0 ge176_0)
          clear hva_ hvn_ hvc_ ge176_0 ul176_0
          clear hcc176 hce176
          have HR176_0 := Aside0.mk hi176_0
          have HC176_0 := Aside0.mk hl176_0
          clear hi176_0 hl176_0
          replace p176 := eq_true p176
          replace q176 := eq_true q176
          try go_wp2_with (first | ((with_reducible refine gate_dst (N := 9) rfl ?_); refine box_event ?hg (N := 9) ?hd (cs := #[.slice none 0 0, .int .i64 0]) (t := 44) ?hr ?_; (case hd => rfl); (case hg => rfl); (case hr => first | (go_simp; done) | (go_simp; rfl)); intro gb177 hg w62 hbox hb; have n0_ := Aside0.mk (Kd.N_below (Kd.N_elderB (qn_ HO_7.out) gb177 (Nat.le_of_eq hg.symm)) hb); have n1_ := Aside0.mk (Kd.N_below (Kd.N_elderB (qn_ HO_35.out) gb177 (Nat.le_of_eq hg.symm)) hb); have n2_ := Aside0.mk (Kd.V_below (Kd.V_elderB (qv_ HL176_0.out) gb177 (Nat.le_of_eq hg.symm)) hb); have n3_ := Aside0.mk (blk_below (g := gb154) (o := .cells #[.int .i64 a0_0, .string a0_1, .string a0_2, .slice A0_3 l0_3.length c0_3, .slice A0_4 l0_4.length c0_4, .int .i64 a0_5, .int .i64 a0_6, .int .i64 a0_7, .string a0_8, .slice A0_9 l0_9.length c0_9] 37 (0, 0)) (qb_ BK154.out) hb); have n4_ := Aside0.mk (Kd.C_below (by repeat (first | (with_reducible exact HR176_0.out) | (with_reducible refine Kd.C_alloc ?_ _) | (with_reducible refine Kd.C_drewN ?_ _) | (with_reducible refine Kd.C_drew ?_) | exact HR176_0.out)) hb); have n5_ := Aside0.mk (below_step (by repeat (first | (with_reducible first | exact HB.out | apply below_alloc | apply pw_below_drewN | apply below_drew1 | refine below_set ?_ GE154.out) | exact HB.out)) hb); have n6_ := Aside0.mk (hbox); have n7_ := Aside0.mk ((by rw [hg]; exact (below_size (by repeat (first | (with_reducible first | exact HB.out | apply below_alloc | apply pw_below_drewN | apply below_drew1 | refine below_set ?_ GE154.out) | exact HB.out))) : w.heap.size ≤ gb177)); have n8_ := Aside0.mk ((by rw [hg]; exact (below_size (by repeat (first | (with_reducible first | exact HB.out | apply below_alloc | apply pw_below_drewN | apply below_drew1 | refine below_set ?_ GE154.out) | exact HB.out))) : w.heap.size ≤ gb177)); have n9_ := Aside0.mk ((by rw [hg]; exact Nat.ne_of_lt (blk_lt (g := gb154) (o := .cells #[.int .i64 a0_0, .string a0_1, .string a0_2, .slice A0_3 l0_3.length c0_3, .slice A0_4 l0_4.length c0_4, .int .i64 a0_5, .int .i64 a0_6, .int .i64 a0_7, .string a0_8, .slice A0_9 l0_9.length c0_9] 37 (0, 0)) (qb_ BK154.out)) : gb154 ≠ gb177)); have n10_ := Aside0.mk ((by rw [hg]; exact Nat.ne_of_gt (blk_lt (g := gb154) (o := .cells #[.int .i64 a0_0, .string a0_1, .string a0_2, .slice A0_3 l0_3.length c0_3, .slice A0_4 l0_4.length c0_4, .int .i64 a0_5, .int .i64 a0_6, .int .i64 a0_7, .string a0_8, .slice A0_9 l0_9.length c0_9] 37 (0, 0)) (qb_ BK154.out)) : gb177 ≠ gb154)); clear HO_7; clear HO_35; clear HL176_0; clear BK154; clear HR176_0; clear HB; have HO_7 := n0_; have HO_35 := n1_; have HL176_0 := n2_; have BK154 := n3_; have HR176_0 := n4_; have HB := n5_; have BK177 := n6_; have GW177 := n7_; have GE177 := n8_; have NB154_177 := n9_; have NB177_154 := n10_; clear n0_ n1_ n2_ n3_ n4_ n5_ n6_ n7_ n8_ n9_ n10_; clear hb hbox hg; have hnb63 := NB177_154.out; have hnc63 := NB154_177.out; have hcz64_0 : w62.cell? ⟨gb177, 0, none⟩ = some (.slice none 0 0) := (blk_cell BK177.out 0).trans rfl; have hcz64_1 : w62.cell? ⟨gb177, 1, none⟩ = some (.int .i64 0) := (blk_cell BK177.out 1).trans rfl; have hfz64_0 := blk_frozen BK177.out 0; have hfz64_1 := blk_frozen BK177.out 1; have hcz65_0 : w62.cell? ⟨gb154, 0, none⟩ = some (.int .i64 a0_0) := (blk_cell BK154.out 0).trans rfl; have hcz65_1 : w62.cell? ⟨gb154, 1, none⟩ = some (.string a0_1) := (blk_cell BK154.out 1).trans rfl; have hcz65_2 : w62.cell? ⟨gb154, 2, none⟩ = some (.string a0_2) := (blk_cell BK154.out 2).trans rfl; have hcz65_3 : w62.cell? ⟨gb154, 3, none⟩ = some (.slice A0_3 l0_3.length c0_3) := (blk_cell BK154.out 3).trans rfl; have hcz65_4 : w62.cell? ⟨gb154, 4, none⟩ = some (.slice A0_4 l0_4.length c0_4) := (blk_cell BK154.out 4).trans rfl; have hcz65_5 : w62.cell? ⟨gb154, 5, none⟩ = some (.int .i64 a0_5) := (blk_cell BK154.out 5).trans rfl; have hcz65_6 : w62.cell? ⟨gb154, 6, none⟩ = some (.int .i64 a0_6) := (blk_cell BK154.out 6).trans rfl; have hcz65_7 : w62.cell? ⟨gb154, 7, none⟩ = some (.int .i64 a0_7) := (blk_cell BK154.out 7).trans rfl; have hcz65_8 : w62.cell? ⟨gb154, 8, none⟩ = some (.string a0_8) := (blk_cell BK154.out 8).trans rfl; have hcz65_9 : w62.cell? ⟨gb154, 9, none⟩ = some (.slice A0_9 l0_9.length c0_9) := (blk_cell BK154.out 9).trans rfl; have hfz65_0 := blk_frozen BK154.out 0; have hfz65_1 := blk_frozen BK154.out 1; have hfz65_2 := blk_frozen BK154.out 2; have hfz65_3 := blk_frozen BK154.out 3; have hfz65_4 := blk_frozen BK154.out 4; have hfz65_5 := blk_frozen BK154.out 5; have hfz65_6 := blk_frozen BK154.out 6; have hfz65_7 := blk_frozen BK154.out 7; have hfz65_8 := blk_frozen BK154.out 8; have hfz65_9 := blk_frozen BK154.out 9) | ((with_reducible refine gate_callee (f := 7) rfl ?_); refine goesL_ (some 45) rfl rfl Try.func7 (by kernel_rfl) rfl #[.slice A176_0 ((rd_T44 t155 x37_1).f0).length c176_0, .slice A0_3 l0_3.length c0_3] rfl (by (try simp only [List.map_toArray, List.map_cons, List.map_nil]); first | done | rfl | (simp only [List.length_drop, List.length_take]; rfl)) ?_; (with_reducible refine (eval_Picked.calls k1 _ _ ((rd_T44 t155 x37_1).f0) _ _ l0_3 t178 _ ?side1 ?side2 ?side3 ?side4 A38.out).mono ?_); (case side1 => repeat (first | exact ((Kd.V_reads' (by (with_reducible repeat (first | apply Kd.V_alloc | apply Kd.V_drewN | apply Kd.V_drew)); exact (Kd.V_mono (Kd.V_far (p := ⟨gb177, 1, none⟩) (Kd.V_far (p := ⟨gb177, 0, none⟩) (Kd.V_mono HL176_0.out (fun k_ hk => (⟨hk, hk.2⟩ : _ ∧ k_ ≠ gb177))) (fun _ hk => hk.2) (.slice A176_0 ((rd_T44 t155 x37_1).f0).length c176_0)) (fun _ hk => hk.2) (.int .i64 ((rd_T44 t155 x37_1).f1))) (fun _ h_ => h_.1)))).2.2) | (with_reducible refine Kd.C_alloc ?_ _) | (with_reducible refine Kd.C_drewN ?_ _) | (with_reducible refine Kd.C_drew ?_))); (case side2 => exact HC176_0.out); (case side3 => exact Kd.C_below HR0_3.out (by repeat (first | (with_reducible first | exact HB.out | apply below_alloc | apply pw_below_drewN | apply below_drew1 | refine below_set ?_ GE154.out | refine below_set ?_ GE177.out) | exact HB.out))); (case side4 => exact HC0_3.out); rintro e w66 ⟨v179, rfl, ho0, hb⟩; refine ⟨_, rfl, ?_⟩; have n0_ := Aside0.mk (Kd.N_elder' (by (with_reducible repeat (first | apply Kd.N_alloc | apply Kd.N_drewN | apply Kd.N_drew)); exact (Kd.N_mono (Kd.N_far (p := ⟨gb177, 1, none⟩) (Kd.N_far (p := ⟨gb177, 0, none⟩) (Kd.N_mono HO_7.out (fun k_ hk => (⟨hk, hk.2⟩ : _ ∧ k_ ≠ gb177))) (fun _ hk => hk.2) (.slice A176_0 ((rd_T44 t155 x37_1).f0).length c176_0)) (fun _ hk => hk.2) (.int .i64 ((rd_T44 t155 x37_1).f1))) (fun _ h_ => h_.1))) (Kd.R_base ho0) hb); have n1_ := Aside0.mk (Kd.N_elder' (by (with_reducible repeat (first | apply Kd.N_alloc | apply Kd.N_drewN | apply Kd.N_drew)); exact (Kd.N_mono (Kd.N_far (p := ⟨gb177, 1, none⟩) (Kd.N_far (p := ⟨gb177, 0, none⟩) (Kd.N_mono HO_35.out (fun k_ hk => (⟨hk, hk.2⟩ : _ ∧ k_ ≠ gb177))) (fun _ hk => hk.2) (.slice A176_0 ((rd_T44 t155 x37_1).f0).length c176_0)) (fun _ hk => hk.2) (.int .i64 ((rd_T44 t155 x37_1).f1))) (fun _ h_ => h_.1))) (Kd.R_base ho0) hb); have n2_ := Aside0.mk (Kd.V_elder' (by (with_reducible repeat (first | apply Kd.V_alloc | apply Kd.V_drewN | apply Kd.V_drew)); exact (Kd.V_mono (Kd.V_far (p := ⟨gb177, 1, none⟩) (Kd.V_far (p := ⟨gb177, 0, none⟩) (Kd.V_mono HL176_0.out (fun k_ hk => (⟨hk, hk.2⟩ : _ ∧ k_ ≠ gb177))) (fun _ hk => hk.2) (.slice A176_0 ((rd_T44 t155 x37_1).f0).length c176_0)) (fun _ hk => hk.2) (.int .i64 ((rd_T44 t155 x37_1).f1))) (fun _ h_ => h_.1))) (Kd.R_base ho0) hb); have n3_ := Aside0.mk (Kd.R_lower (Kd.R_newM (M := fun k_ => (w.heap.size ≤ k_)) ho0 (below_size (by repeat (first | (with_reducible first | exact HB.out | apply below_alloc | apply pw_below_drewN | apply below_drew1 | refine below_set ?_ GE154.out | refine below_set ?_ GE177.out) | exact HB.out))) (fun k_ h_ => h_)) (below_size (by repeat (first | (with_reducible first | exact HB.out | apply below_alloc | apply pw_below_drewN | apply below_drew1 | refine below_set ?_ GE154.out | refine below_set ?_ GE177.out) | exact HB.out)))); have n4_ := Aside0.mk (blk_below (g := gb154) (o := .cells #[.int .i64 a0_0, .string a0_1, .string a0_2, .slice A0_3 l0_3.length c0_3, .slice A0_4 l0_4.length c0_4, .int .i64 a0_5, .int .i64 a0_6, .int .i64 a0_7, .string a0_8, .slice A0_9 l0_9.length c0_9] 37 (0, 0)) (by (with_reducible repeat (first | refine blk_drewN ?_ _ | refine blk_drew ?_ | refine blk_alloc ?_ _)); refine blk_far ?_ NB154_177.out _; (with_reducible repeat (first | refine blk_drewN ?_ _ | refine blk_drew ?_ | refine blk_alloc ?_ _)); refine blk_far ?_ NB154_177.out _; (with_reducible repeat (first | refine blk_drewN ?_ _ | refine blk_drew ?_ | refine blk_alloc ?_ _)); exact BK154.out) hb); have n5_ := Aside0.mk (Kd.C_below ((Kd.V_reads' (by (with_reducible repeat (first | apply Kd.V_alloc | apply Kd.V_drewN | apply Kd.V_drew)); exact (Kd.V_mono (Kd.V_far (p := ⟨gb177, 1, none⟩) (Kd.V_far (p := ⟨gb177, 0, none⟩) (Kd.V_mono HL176_0.out (fun k_ hk => (⟨hk, hk.2⟩ : _ ∧ k_ ≠ gb177))) (fun _ hk => hk.2) (.slice A176_0 ((rd_T44 t155 x37_1).f0).length c176_0)) (fun _ hk => hk.2) (.int .i64 ((rd_T44 t155 x37_1).f1))) (fun _ h_ => h_.1)))).2.2) hb); have n6_ := Aside0.mk (blk_below (g := gb177) (o := .cells #[.slice A176_0 ((rd_T44 t155 x37_1).f0).length c176_0, .int .i64 ((rd_T44 t155 x37_1).f1)] 44 (0, 0)) (by (with_reducible repeat (first | refine blk_drewN ?_ _ | refine blk_drew ?_ | refine blk_alloc ?_ _)); refine blk_put (cs := #[.slice A176_0 ((rd_T44 t155 x37_1).f0).length c176_0, .int .i64 0]) ?_ 1 _ rfl; (with_reducible repeat (first | refine blk_drewN ?_ _ | refine blk_drew ?_ | refine blk_alloc ?_ _)); refine blk_put (cs := #[.slice none 0 0, .int .i64 0]) ?_ 0 _ rfl; (with_reducible repeat (first | refine blk_drewN ?_ _ | refine blk_drew ?_ | refine blk_alloc ?_ _)); exact BK177.out) hb); have n7_ := Aside0.mk (below_step (by repeat (first | (with_reducible first | exact HB.out | apply below_alloc | apply pw_below_drewN | apply below_drew1 | refine below_set ?_ GE154.out | refine below_set ?_ GE177.out) | exact HB.out)) hb); clear HO_7; clear HO_35; clear HL176_0; clear BK154; clear HR176_0; clear BK177; clear HB; have HO_7 := n0_; have HO_35 := n1_; have HL176_0 := n2_; have HO180 := n3_; have BK154 := n4_; have HR176_0 := n5_; have BK177 := n6_; have HB := n7_; clear n0_ n1_ n2_ n3_ n4_ n5_ n6_ n7_; (try clear hb); (try clear hb2); (try clear hk); (try clear hi); (try clear ho0)))
          have n0_ := Aside0.mk (Kd.N_drew HO_7.out)
          have n1_ := Aside0.mk (Kd.N_drew HO_35.out)
          have n2_ := Aside0.mk (Kd.V_drew HL176_0.out)
          have n3_ := Aside0.mk (Kd.R_drew HO180.out)
          have n4_ := Aside0.mk (blk_drew BK154.out)
          have n5_ := Aside0.mk (blk_drew BK177.out)
          have n6_ := Aside0.mk (Kd.C_drew HR176_0.out)
          have n7_ := Aside0.mk (below_drew1 HB.out)
          clear HO_7
          clear HO_35
          clear HL176_0
          clear HO180
          clear BK154
          clear BK177
          clear HR176_0
          clear HB
          have HO_7 := n0_
          have HO_35 := n1_
          have HL176_0 := n2_
          have HO180 := n3_
          have BK154 := n4_
          have BK177 := n5_
          have HR176_0 := n6_
          have HB := n7_
          clear n0_ n1_ n2_ n3_ n4_ n5_ n6_ n7_
          obtain ⟨Ao68, co68, eo68⟩ := Kd.R_slice HO180.out
          (first | subst eo68 | (injection eo68 with f1_ f2_ f3_; have f4_ := f1_.symm; have f5_ := f3_.symm; clear f1_ f2_ f3_; subst f4_; subst f5_))
          refine start_ (n := 13) (S := fun w' => True) (ds := []) #[false, false, false, false, false, false, false, false, false, false, false, false, false] (by kernel_rfl) rfl rfl trivial (fun hHeld => ?_); refine with_tabW eval_Eval.tab13 eval_Eval.bits13 (fun HT_ HW_ => ?_)
          generalize w66.drew = w67 at HO_7 HO_35 HL176_0 HO180 BK154 BK177 HR176_0 HB hHeld ⊢
          refine pure_ (i := 0) (N := some 46) (v := ?_) (a' := ?_) #[true, false, false, false, false, false, false, false, false, false, false, false, false] rfl rfl (any_of HT_.out (by kernel_rfl)) (fun _ _ _ h => h) (Or.inl ⟨by rfl, ?_⟩) ?_ ?_
          rotate_left
          ·intro w'
           go_simp
           with_reducible rfl
          rotate_left
          ·simp only [Act.put, List.setIfInBounds_toArray, List.set_cons_zero, List.set_cons_succ, i64_w, i32_w]
           rfl
          refine pure_ (i := 1) (N := some 47) (v := ?_) (a' := ?_) #[true, true, false, false, false, false, false, false, false, false, false, false, false] rfl rfl (any_of HT_.out (by kernel_rfl)) (fun _ _ _ h => h) (Or.inl ⟨by rfl, ?_⟩) ?_ ?_
          rotate_left
          ·intro w'
           go_simp
           with_reducible rfl
          rotate_left
          ·simp only [Act.put, List.setIfInBounds_toArray, List.set_cons_zero, List.set_cons_succ, i64_w, i32_w]
           rfl
          refine pure_ (i := 2) (N := some 48) (v := ?_) (a' := ?_) #[true, true, true, false, false, false, false, false, false, false, false, false, false] rfl rfl (any_of HT_.out (by kernel_rfl)) (fun _ _ _ h => h) (Or.inl ⟨by rfl, ?_⟩) ?_ ?_
          rotate_left
          ·intro w'
           go_simp
           with_reducible rfl
          rotate_left
          ·simp only [Act.put, List.setIfInBounds_toArray, List.set_cons_zero, List.set_cons_succ, i64_w, i32_w]
           rfl
          refine pure_ (i := 3) (N := some 49) (v := ?_) (a' := ?_) #[true, true, true, true, false, false, false, false, false, false, false, false, false] rfl rfl (any_of HT_.out (by kernel_rfl)) (fun _ _ _ h => h) (Or.inl ⟨by rfl, ?_⟩) ?_ ?_
          rotate_left
          ·intro w'
           go_simp
           with_reducible rfl
          rotate_left
          ·simp only [Act.put, List.setIfInBounds_toArray, List.set_cons_zero, List.set_cons_succ, i64_w, i32_w]
           rfl
          refine pure_ (i := 4) (N := some 50) (v := undef) (a' := ?_) #[true, true, true, true, true, false, false, false, false, false, false, false, false] rfl rfl (any_of HT_.out (by kernel_rfl)) (fun _ _ _ h => h) (Or.inr ⟨by rfl, rfl⟩) ?_ ?_
          rotate_left
          ·simp only [Act.put, List.setIfInBounds_toArray, List.set_cons_zero, List.set_cons_succ, i64_w, i32_w]
           rfl
          refine pure_ (i := 5) (N := some 51) (v := undef) (a' := ?_) #[true, true, true, true, true, true, false, false, false, false, false, false, false] rfl rfl (any_of HT_.out (by kernel_rfl)) (fun _ _ _ h => h) (Or.inr ⟨by rfl, rfl⟩) ?_ ?_
          rotate_left
          ·simp only [Act.put, List.setIfInBounds_toArray, List.set_cons_zero, List.set_cons_succ, i64_w, i32_w]
           rfl
          refine pure_ (i := 6) (N := some 52) (v := undef) (a' := ?_) #[true, true, true, true, true, true, true, false, false, false, false, false, false] rfl rfl (any_of HT_.out (by kernel_rfl)) (fun _ _ _ h => h) (Or.inr ⟨by rfl, rfl⟩) ?_ ?_
          rotate_left
          ·simp only [Act.put, List.setIfInBounds_toArray, List.set_cons_zero, List.set_cons_succ, i64_w, i32_w]
           rfl
          refine pure_ (i := 7) (N := some 53) (v := undef) (a' := ?_) #[true, true, true, true, true, true, true, true, false, false, false, false, false] rfl rfl (any_of HT_.out (by kernel_rfl)) (fun _ _ _ h => h) (Or.inr ⟨by rfl, rfl⟩) ?_ ?_
          rotate_left
          ·simp only [Act.put, List.setIfInBounds_toArray, List.set_cons_zero, List.set_cons_succ, i64_w, i32_w]
           rfl
          refine pure_ (i := 8) (N := some 54) (v := undef) (a' := ?_) #[true, true, true, true, true, true, true, true, true, false, false, false, false] rfl rfl (any_of HT_.out (by kernel_rfl)) (fun _ _ _ h => h) (Or.inr ⟨by rfl, rfl⟩) ?_ ?_
          rotate_left
          ·simp only [Act.put, List.setIfInBounds_toArray, List.set_cons_zero, List.set_cons_succ, i64_w, i32_w]
           rfl
          refine pure_ (i := 9) (N := some 55) (v := undef) (a' := ?_) #[true, true, true, true, true, true, true, true, true, true, false, false, false] rfl rfl (any_of HT_.out (by kernel_rfl)) (fun _ _ _ h => h) (Or.inr ⟨by rfl, rfl⟩) ?_ ?_
          rotate_left
          ·simp only [Act.put, List.setIfInBounds_toArray, List.set_cons_zero, List.set_cons_succ, i64_w, i32_w]
           rfl
          refine pure_ (i := 10) (N := some 56) (v := undef) (a' := ?_) #[true, true, true, true, true, true, true, true, true, true, true, false, false] rfl rfl (any_of HT_.out (by kernel_rfl)) (fun _ _ _ h => h) (Or.inr ⟨by rfl, rfl⟩) ?_ ?_
          rotate_left
          ·simp only [Act.put, List.setIfInBounds_toArray, List.set_cons_zero, List.set_cons_succ, i64_w, i32_w]
           rfl
          refine pure_ (i := 11) (N := some 57) (v := undef) (a' := ?_) #[true, true, true, true, true, true, true, true, true, true, true, true, false] rfl rfl (any_of HT_.out (by kernel_rfl)) (fun _ _ _ h => h) (Or.inr ⟨by rfl, rfl⟩) ?_ ?_
          rotate_left
          ·simp only [Act.put, List.setIfInBounds_toArray, List.set_cons_zero, List.set_cons_succ, i64_w, i32_w]
           rfl
          refine pure_ (i := 12) (N := some 58) (v := ?_) (a' := ?_) #[true, true, true, true, true, true, true, true, true, true, true, true, true] rfl rfl (any_of HT_.out (by kernel_rfl)) (fun _ _ _ h => h) (Or.inl ⟨by rfl, ?_⟩) ?_ ?_
          rotate_left
          ·intro w'
           go_simp
           with_reducible rfl
          rotate_left
          ·simp only [Act.put, List.setIfInBounds_toArray, List.set_cons_zero, List.set_cons_succ, i64_w, i32_w]
           rfl
          refine done_ (done_of HT_.out (by kernel_rfl)) ?_
          try go_wp2
          go_roundg k1
          case measure => have := HK1.out; omega
          case rel => exact ⟨(x7_1), (wrap64 (x37_1 + 1)), (by first | rfl | (simp; done) | (simp [*]; done)), H', ⟨by have := HK1.out; omega⟩, ⟨by (with_reducible repeat (first | apply Kd.N_alloc | apply Kd.N_drewN | apply Kd.N_drew)); exact Kd.N_mono HO_7.out (fun _ hk => ⟨hk.1.1.1, ⟨hk.1.1.2.1, hk.1.1.2.2⟩⟩)⟩, ⟨by (with_reducible repeat (first | apply Kd.N_alloc | apply Kd.N_drewN | apply Kd.N_drew)); exact Kd.N_mono HO_35.out (fun _ hk => ⟨hk.1.1.1, ⟨hk.1.1.2.1, hk.1.1.2.2⟩⟩)⟩, ⟨qb_ BK154.out⟩, ⟨by repeat (first | (with_reducible first | exact HB.out | apply below_alloc | apply pw_below_drewN | apply below_drew1 | refine below_set ?_ GE154.out | refine below_set ?_ GE177.out) | exact HB.out)⟩⟩
        ·rw [if_neg c37] at H
         exact absurd H (by simp)
       ·rw [if_neg c36] at H
        exact absurd H (by simp)
      ·rw [if_neg c35] at H
       have c35b0 : decide (x37_1 < (t155.length : Int)) = false := decide_eq_false c35
       clear c35
       replace H := Option.bind_eq_some_iff.mp H
       obtain ⟨t173, A690, H⟩ := H
       replace H : (some t173) = some r := H
       have A69 := Aside0.mk A690
       clear A690
       obtain rfl := Option.some.inj H
       obtain ⟨Ao70, co70, eo70⟩ := Kd.N_slice HO_7.out
       subst eo70
       go_wp2_with (first | ((with_reducible refine gate_callee (f := 16) rfl ?_); refine goesL_ (some 131) rfl rfl Try.func16 (by kernel_rfl) rfl #[.slice Ao70 x7_1.length co70] rfl (by (try simp only [List.map_toArray, List.map_cons, List.map_nil]); first | done | rfl | (simp only [List.length_drop, List.length_take]; rfl)) ?_; (with_reducible refine (zset_Norm.calls (fun k_ => (((P1_ k_ ∨ P2_ k_) ∨ w.heap.size ≤ k_) ∧ (some k_ ≠ (.slice Ao34 t155.length co34 : Value).ownBlock ∧ k_ ≠ gb154))) _ _ x7_1 t173 _ ?side1 A69.out).mono ?_); (case side1 => exact Kd.N_V (HO_7.out)); rintro e w71 ⟨v174, rfl, ho0, hb⟩; refine ⟨_, rfl, ?_⟩; have n0_ := Aside0.mk (Kd.N_elder' (qn_ HO_7.out) (Kd.N_base ho0) hb); have n1_ := Aside0.mk (Kd.N_elder' (qn_ HO_35.out) (Kd.N_base ho0) hb); have n2_ := Aside0.mk (Kd.N_lower (Kd.N_mono (ok' := fun k_ => ((P1_ k_ ∨ P2_ k_) ∨ w.heap.size ≤ k_) ∧ some k_ ≠ (.slice Ao34 t155.length co34 : Value).ownBlock ∧ k_ ≠ gb154) ho0 (fun k_ hk_ => ⟨Or.elim hk_ (fun hs_ => hs_.1) (fun hn_ => (.inr (Nat.le_trans (below_size (by repeat (first | (with_reducible first | exact HB.out | apply below_alloc | apply pw_below_drewN | apply below_drew1 | refine below_set ?_ GE154.out) | exact HB.out))) hn_))), Or.elim hk_ (fun hs_ => hs_.2.1) (fun hn_ => (Kd.fresh' (Kd.N_lt (qn_ HO_35.out)) k_ hn_)), Or.elim hk_ (fun hs_ => hs_.2.2) (fun hn_ => (Kd.freshB (g := gb154) (o := .cells #[.int .i64 a0_0, .string a0_1, .string a0_2, .slice A0_3 l0_3.length c0_3, .slice A0_4 l0_4.length c0_4, .int .i64 a0_5, .int .i64 a0_6, .int .i64 a0_7, .string a0_8, .slice A0_9 l0_9.length c0_9] 37 (0, 0)) (qb_ BK154.out) k_ hn_))⟩)) (below_size (by repeat (first | (with_reducible first | exact HB.out | apply below_alloc | apply pw_below_drewN | apply below_drew1 | refine below_set ?_ GE154.out) | exact HB.out)))); have n3_ := Aside0.mk (blk_below (g := gb154) (o := .cells #[.int .i64 a0_0, .string a0_1, .string a0_2, .slice A0_3 l0_3.length c0_3, .slice A0_4 l0_4.length c0_4, .int .i64 a0_5, .int .i64 a0_6, .int .i64 a0_7, .string a0_8, .slice A0_9 l0_9.length c0_9] 37 (0, 0)) (qb_ BK154.out) hb); have n4_ := Aside0.mk (below_step (by repeat (first | (with_reducible first | exact HB.out | apply below_alloc | apply pw_below_drewN | apply below_drew1 | refine below_set ?_ GE154.out) | exact HB.out)) hb); clear HO_7; clear HO_35; clear BK154; clear HB; have HO_7 := n0_; have HO_35 := n1_; have HO175 := n2_; have BK154 := n3_; have HB := n4_; clear n0_ n1_ n2_ n3_ n4_; (try clear hb); (try clear hb2); (try clear hk); (try clear hi); (try clear ho0)))
       go_ret
       exact ⟨_, by first | rfl | (simp [errW_none, errW_some] <;> rfl) | (simp [*, errW_none, errW_some] <;> rfl), by (with_reducible repeat (first | apply Kd.N_alloc | apply Kd.N_drewN | apply Kd.N_drew)); exact Kd.N_mono HO175.out (fun _ hk => hk.1), by repeat (first | (with_reducible first | exact HB.out | apply below_alloc | apply pw_below_drewN | apply below_drew1 | refine below_set ?_ GE154.out) | exact HB.out)⟩
   ·rw [if_neg c29] at H
    have c29b0 : (a0_0 == 2) = false := beq_eq_false_iff_ne.mpr c29
    have c29b1 : (a0_0 != 2) = true := bne_iff_ne.mpr c29
    by_cases c72 : a0_0 = 3
    ·rw [if_pos c72] at H
     have c72b0 : (a0_0 == 3) = true := beq_iff_eq.mpr c72
     have c72b1 : (a0_0 != 3) = false := bne_eq_false_iff_eq.mpr c72
     clear c72
     have H' := Aside0.mk H
     clear H
     go_enter Try.func13, Try.ntmps13
     go_wp2_with (first | ((with_reducible refine gate_dst (N := 3) rfl ?_); refine box_event ?hg (N := 3) ?hd (cs := #[.int .i64 a0_0, .string a0_1, .string a0_2, .slice A0_3 l0_3.length c0_3, .slice A0_4 l0_4.length c0_4, .int .i64 a0_5, .int .i64 a0_6, .int .i64 a0_7, .string a0_8, .slice A0_9 l0_9.length c0_9]) (t := 37) ?hr ?_; (case hd => rfl); (case hg => rfl); (case hr => first | (go_simp; done) | (go_simp; rfl)); intro gb154 hg w73 hbox hb; have n0_ := Aside0.mk (Kd.V_below (Kd.V_elderB (qv_ HO1.out) gb154 (Nat.le_of_eq hg.symm)) hb); have n1_ := Aside0.mk (Kd.V_below (Kd.V_elderB (qv_ HO2.out) gb154 (Nat.le_of_eq hg.symm)) hb); have n2_ := Aside0.mk (below_step qh_ hb); have n3_ := Aside0.mk (hbox); have n4_ := Aside0.mk ((by rw [hg]; exact (below_size qh_) : w.heap.size ≤ gb154)); have n5_ := Aside0.mk ((by rw [hg]; exact (below_size qh_) : w.heap.size ≤ gb154)); clear HO1; clear HO2; clear HB; have HO1 := n0_; have HO2 := n1_; have HB := n2_; have BK154 := n3_; have GW154 := n4_; have GE154 := n5_; clear n0_ n1_ n2_ n3_ n4_ n5_; clear hb hbox hg) | ((with_reducible refine gate_callee (f := 16) rfl ?_); refine goesL_ (some 19) rfl rfl Try.func16 (by kernel_rfl) rfl #[.slice A1 l1.length c1] rfl (by (try simp only [List.map_toArray, List.map_cons, List.map_nil]); first | done | rfl | (simp only [List.length_drop, List.length_take]; rfl)) ?_; (with_reducible refine (zset_Norm.calls (fun k_ => (((P1_ k_ ∨ P2_ k_) ∨ w.heap.size ≤ k_) ∧ k_ ≠ gb154)) _ _ l1 t155 _ ?side1 A4.out).mono ?_); (case side1 => exact HO1.out); rintro e w74 ⟨v156, rfl, ho0, hb⟩; refine ⟨_, rfl, ?_⟩; have n0_ := Aside0.mk (Kd.V_elder' (qv_ HO1.out) (Kd.N_base ho0) hb); have n1_ := Aside0.mk (Kd.V_elder' (qv_ HO2.out) (Kd.N_base ho0) hb); have n2_ := Aside0.mk (Kd.N_lower (Kd.N_mono (ok' := fun k_ => ((P1_ k_ ∨ P2_ k_) ∨ w.heap.size ≤ k_) ∧ k_ ≠ gb154) ho0 (fun k_ hk_ => ⟨Or.elim hk_ (fun hs_ => hs_.1) (fun hn_ => (.inr (Nat.le_trans (below_size (by repeat (first | (with_reducible first | exact HB.out | apply below_alloc | apply pw_below_drewN | apply below_drew1 | refine below_set ?_ GE154.out) | exact HB.out))) hn_))), Or.elim hk_ (fun hs_ => hs_.2) (fun hn_ => (Kd.freshB (g := gb154) (o := .cells #[.int .i64 a0_0, .string a0_1, .string a0_2, .slice A0_3 l0_3.length c0_3, .slice A0_4 l0_4.length c0_4, .int .i64 a0_5, .int .i64 a0_6, .int .i64 a0_7, .string a0_8, .slice A0_9 l0_9.length c0_9] 37 (0, 0)) (qb_ BK154.out) k_ hn_))⟩)) (below_size (by repeat (first | (with_reducible first | exact HB.out | apply below_alloc | apply pw_below_drewN | apply below_drew1 | refine below_set ?_ GE154.out) | exact HB.out)))); have n3_ := Aside0.mk (blk_below (g := gb154) (o := .cells #[.int .i64 a0_0, .string a0_1, .string a0_2, .slice A0_3 l0_3.length c0_3, .slice A0_4 l0_4.length c0_4, .int .i64 a0_5, .int .i64 a0_6, .int .i64 a0_7, .string a0_8, .slice A0_9 l0_9.length c0_9] 37 (0, 0)) (qb_ BK154.out) hb); have n4_ := Aside0.mk (below_step (by repeat (first | (with_reducible first | exact HB.out | apply below_alloc | apply pw_below_drewN | apply below_drew1 | refine below_set ?_ GE154.out) | exact HB.out)) hb); clear HO1; clear HO2; clear BK154; clear HB; have HO1 := n0_; have HO2 := n1_; have HO157 := n2_; have BK154 := n3_; have HB := n4_; clear n0_ n1_ n2_ n3_ n4_; (try clear hb); (try clear hb2); (try clear hk); (try clear hi); (try clear ho0)) | ((with_reducible refine gate_callee (f := 16) rfl ?_); refine goesL_ (some 21) rfl rfl Try.func16 (by kernel_rfl) rfl #[.slice A2 l2.length c2] rfl (by (try simp only [List.map_toArray, List.map_cons, List.map_nil]); first | done | rfl | (simp only [List.length_drop, List.length_take]; rfl)) ?_; (with_reducible refine (zset_Norm.calls (fun k_ => ((((P1_ k_ ∨ P2_ k_) ∨ w.heap.size ≤ k_) ∧ k_ ≠ gb154) ∧ some k_ ≠ (v156 : Value).ownBlock)) _ _ l2 t158 _ ?side1 A5.out).mono ?_); (case side1 => exact HO2.out); rintro e w75 ⟨v159, rfl, ho0, hb⟩; refine ⟨_, rfl, ?_⟩; have n0_ := Aside0.mk (Kd.V_elder' (qv_ HO1.out) (Kd.N_base ho0) hb); have n1_ := Aside0.mk (Kd.V_elder' (qv_ HO2.out) (Kd.N_base ho0) hb); have n2_ := Aside0.mk (Kd.N_elder' (qn_ HO157.out) (Kd.N_base ho0) hb); have n3_ := Aside0.mk (Kd.N_lower (Kd.N_mono (ok' := fun k_ => ((P1_ k_ ∨ P2_ k_) ∨ w.heap.size ≤ k_) ∧ some k_ ≠ (v156 : Value).ownBlock ∧ k_ ≠ gb154) ho0 (fun k_ hk_ => ⟨Or.elim hk_ (fun hs_ => hs_.1.1) (fun hn_ => (.inr (Nat.le_trans (below_size (by repeat (first | (with_reducible first | exact HB.out | apply below_alloc | apply pw_below_drewN | apply below_drew1 | refine below_set ?_ GE154.out) | exact HB.out))) hn_))), Or.elim hk_ (fun hs_ => hs_.2) (fun hn_ => (Kd.fresh' (Kd.N_lt (qn_ HO157.out)) k_ hn_)), Or.elim hk_ (fun hs_ => hs_.1.2) (fun hn_ => (Kd.freshB (g := gb154) (o := .cells #[.int .i64 a0_0, .string a0_1, .string a0_2, .slice A0_3 l0_3.length c0_3, .slice A0_4 l0_4.length c0_4, .int .i64 a0_5, .int .i64 a0_6, .int .i64 a0_7, .string a0_8, .slice A0_9 l0_9.length c0_9] 37 (0, 0)) (qb_ BK154.out) k_ hn_))⟩)) (below_size (by repeat (first | (with_reducible first | exact HB.out | apply below_alloc | apply pw_below_drewN | apply below_drew1 | refine below_set ?_ GE154.out) | exact HB.out)))); have n4_ := Aside0.mk (blk_below (g := gb154) (o := .cells #[.int .i64 a0_0, .string a0_1, .string a0_2, .slice A0_3 l0_3.length c0_3, .slice A0_4 l0_4.length c0_4, .int .i64 a0_5, .int .i64 a0_6, .int .i64 a0_7, .string a0_8, .slice A0_9 l0_9.length c0_9] 37 (0, 0)) (qb_ BK154.out) hb); have n5_ := Aside0.mk (below_step (by repeat (first | (with_reducible first | exact HB.out | apply below_alloc | apply pw_below_drewN | apply below_drew1 | refine below_set ?_ GE154.out) | exact HB.out)) hb); clear HO1; clear HO2; clear HO157; clear BK154; clear HB; have HO1 := n0_; have HO2 := n1_; have HO157 := n2_; have HO160 := n3_; have BK154 := n4_; have HB := n5_; clear n0_ n1_ n2_ n3_ n4_ n5_; (try clear hb); (try clear hb2); (try clear hk); (try clear hi); (try clear ho0); have hcz76_0 : w75.cell? ⟨gb154, 0, none⟩ = some (.int .i64 a0_0) := (blk_cell BK154.out 0).trans rfl; have hcz76_1 : w75.cell? ⟨gb154, 1, none⟩ = some (.string a0_1) := (blk_cell BK154.out 1).trans rfl; have hcz76_2 : w75.cell? ⟨gb154, 2, none⟩ = some (.string a0_2) := (blk_cell BK154.out 2).trans rfl; have hcz76_3 : w75.cell? ⟨gb154, 3, none⟩ = some (.slice A0_3 l0_3.length c0_3) := (blk_cell BK154.out 3).trans rfl; have hcz76_4 : w75.cell? ⟨gb154, 4, none⟩ = some (.slice A0_4 l0_4.length c0_4) := (blk_cell BK154.out 4).trans rfl; have hcz76_5 : w75.cell? ⟨gb154, 5, none⟩ = some (.int .i64 a0_5) := (blk_cell BK154.out 5).trans rfl; have hcz76_6 : w75.cell? ⟨gb154, 6, none⟩ = some (.int .i64 a0_6) := (blk_cell BK154.out 6).trans rfl; have hcz76_7 : w75.cell? ⟨gb154, 7, none⟩ = some (.int .i64 a0_7) := (blk_cell BK154.out 7).trans rfl; have hcz76_8 : w75.cell? ⟨gb154, 8, none⟩ = some (.string a0_8) := (blk_cell BK154.out 8).trans rfl; have hcz76_9 : w75.cell? ⟨gb154, 9, none⟩ = some (.slice A0_9 l0_9.length c0_9) := (blk_cell BK154.out 9).trans rfl; have hfz76_0 := blk_frozen BK154.out 0; have hfz76_1 := blk_frozen BK154.out 1; have hfz76_2 := blk_frozen BK154.out 2; have hfz76_3 := blk_frozen BK154.out 3; have hfz76_4 := blk_frozen BK154.out 4; have hfz76_5 := blk_frozen BK154.out 5; have hfz76_6 := blk_frozen BK154.out 6; have hfz76_7 := blk_frozen BK154.out 7; have hfz76_8 := blk_frozen BK154.out 8; have hfz76_9 := blk_frozen BK154.out 9; obtain ⟨Ao77, co77, eo77⟩ := Kd.N_slice HO157.out; subst eo77))
     (try simp only [Act.put, List.setIfInBounds_toArray, List.set_cons_zero, List.set_cons_succ])
     go_loopg [7, 68] k (fun kq v7 v68 w' => ∃ (x7_1 : List (S44)) (x68_1 : Int), v68 = .int .i64 x68_1 ∧ Aside0 (eval_Eval.l1 kq x7_1 t155 (t155.length : Int) x68_1 a0_0 a0_1 a0_2 l0_3 l0_4 a0_5 a0_6 a0_7 a0_8 l0_9 = some r) ∧ Aside0 (kq ≤ k) ∧ Aside0 (Kd.N k44 44 w' w.heap.size (fun k_ => ((P1_ k_ ∨ P2_ k_) ∨ w.heap.size ≤ k_) ∧ some k_ ≠ ((.slice Ao77 t155.length co77) : Value).ownBlock ∧ k_ ≠ gb154) v7 x7_1) ∧ Aside0 (Kd.N k44 44 w' w.heap.size (fun k_ => ((P1_ k_ ∨ P2_ k_) ∨ w.heap.size ≤ k_) ∧ some k_ ≠ (v7 : Value).ownBlock ∧ k_ ≠ gb154) (.slice Ao77 t155.length co77) t155) ∧ Aside0 (w'.heap[gb154]? = some (.cells #[.int .i64 a0_0, .string a0_1, .string a0_2, (.slice A0_3 l0_3.length c0_3), (.slice A0_4 l0_4.length c0_4), .int .i64 a0_5, .int .i64 a0_6, .int .i64 a0_7, .string a0_8, (.slice A0_9 l0_9.length c0_9)] 37 (0, 0))) ∧ Aside0 (Below w.heap.size w w'))
     case atStart => exact ⟨(([] : List (S44))), (0), (by first | rfl | (simp; done) | (simp [*]; done)), H', ⟨Nat.le_refl _⟩, ⟨by first | exact Kd.S_nil _ _ _ _ _ | exact Kd.N_nil _ _ _ _ _ | exact Kd.V_nil _ _ _ _ _ | exact Kd.Q_nil _ _ _ _ _ | exact Kd.R_nil _ _ _ _ _⟩, ⟨by (with_reducible repeat (first | apply Kd.N_alloc | apply Kd.N_drewN | apply Kd.N_drew)); exact Kd.N_mono HO157.out (fun _ hk => ⟨hk.1.1, ⟨(by simp [Value.ownBlock]), hk.1.2⟩⟩)⟩, ⟨qb_ BK154.out⟩, ⟨by repeat (first | (with_reducible first | exact HB.out | apply below_alloc | apply pw_below_drewN | apply below_drew1 | refine below_set ?_ GE154.out) | exact HB.out)⟩⟩
     case round =>
      clear H'
      try clear c1
      try clear p1
      try clear q1
      try clear hx1
      try clear qi1
      try clear c2
      try clear p2
      try clear c3
      try clear c4
      try clear c5
      try clear c6
      try clear p6
      try clear c7
      try clear c9
      try clear c13
      try clear c16
      try clear c17
      try clear p17
      try clear q17
      try clear hx17
      try clear p18
      try clear q18
      try clear hx18
      try clear qi18
      try clear c29
      try clear c29b0
      try clear c29b1
      try clear c35
      try clear c35b0
      try clear c36
      try clear c37
      try clear c39
      try clear c39b0
      try clear c39b1
      try clear c40
      try clear c42
      try clear c43
      try clear c45
      try clear c55
      try clear c63
      try clear p64
      try clear c72
      try clear c72b0
      try clear c72b1
      try clear hcz46_0
      try clear hcz46_1
      try clear hcz47_0
      try clear hcz47_1
      try clear hcz47_2
      try clear hcz47_3
      try clear hcz47_4
      try clear hcz47_5
      try clear hcz47_6
      try clear hcz47_7
      try clear hcz47_8
      try clear hcz47_9
      try clear hcz52_0
      try clear hcz52_1
      try clear hcz56_0
      try clear hcz56_1
      try clear hcz57_0
      try clear hcz57_1
      try clear hcz57_2
      try clear hcz57_3
      try clear hcz57_4
      try clear hcz57_5
      try clear hcz57_6
      try clear hcz57_7
      try clear hcz57_8
      try clear hcz57_9
      try clear hcz64_0
      try clear hcz64_1
      try clear hcz65_0
      try clear hcz65_1
      try clear hcz65_2
      try clear hcz65_3
      try clear hcz65_4
      try clear hcz65_5
      try clear hcz65_6
      try clear hcz65_7
      try clear hcz65_8
      try clear hcz65_9
      try clear hcz76_0
      try clear hcz76_1
      try clear hcz76_2
      try clear hcz76_3
      try clear hcz76_4
      try clear hcz76_5
      try clear hcz76_6
      try clear hcz76_7
      try clear hcz76_8
      try clear hcz76_9
      try clear hfz46_0
      try clear hfz46_1
      try clear hfz47_0
      try clear hfz47_1
      try clear hfz47_2
      try clear hfz47_3
      try clear hfz47_4
      try clear hfz47_5
      try clear hfz47_6
      try clear hfz47_7
      try clear hfz47_8
      try clear hfz47_9
      try clear hfz52_0
      try clear hfz52_1
      try clear hfz56_0
      try clear hfz56_1
      try clear hfz57_0
      try clear hfz57_1
      try clear hfz57_2
      try clear hfz57_3
      try clear hfz57_4
      try clear hfz57_5
      try clear hfz57_6
      try clear hfz57_7
      try clear hfz57_8
      try clear hfz57_9
      try clear hfz64_0
      try clear hfz64_1
      try clear hfz65_0
      try clear hfz65_1
      try clear hfz65_2
      try clear hfz65_3
      try clear hfz65_4
      try clear hfz65_5
      try clear hfz65_6
      try clear hfz65_7
      try clear hfz65_8
      try clear hfz65_9
      try clear hfz76_0
      try clear hfz76_1
      try clear hfz76_2
      try clear hfz76_3
      try clear hfz76_4
      try clear hfz76_5
      try clear hfz76_6
      try clear hfz76_7
      try clear hfz76_8
      try clear hfz76_9
      try clear hx176_0
      try clear hx176_1
      try clear hx181_0
      try clear hx181_1
      try clear hx181_2
      try clear p176
      try clear p181
      try clear q176
      try clear q181
      obtain ⟨x7_1, x68_1, rfl, HA, HK1, HO_7, HO_66, BK154, HB⟩ := hrel
      cases gk with
      | zero => exact absurd HA.out (by simp [eval_Eval.l1])
      | succ k1 =>
       have H := HA.out
       clear HA
       simp only [eval_Eval.l1] at H
       by_cases c78 : x68_1 < (t155.length : Int)
       ·rw [if_pos c78] at H
        have c78b0 : decide (x68_1 < (t155.length : Int)) = true := decide_eq_true c78
        clear c78
        by_cases c79 : 0 ≤ x68_1
        ·rw [if_pos c79] at H
         have c79b0 : decide (0 ≤ x68_1) = true := decide_eq_true c79
         clear c79
         by_cases c80 : x68_1 < (t155.length : Int)
         ·rw [if_pos c80] at H
          have c80b0 : decide (x68_1 < (t155.length : Int)) = true := decide_eq_true c80
          clear c80
          replace H := Option.bind_eq_some_iff.mp H
          obtain ⟨t188, A810, H⟩ := H
          replace H : (if x7_1.length < 4398046511104 then (eval_Eval.l1 k1 (x7_1 ++ [(⟨t188, (rd_T44 t155 x68_1).f1⟩ : S44)]) t155 (t155.length : Int) (wrap64 (x68_1 + 1)) a0_0 a0_1 a0_2 l0_3 l0_4 a0_5 a0_6 a0_7 a0_8 l0_9) else (none)) = some r := H
          have A81 := Aside0.mk A810
          clear A810
          by_cases c82 : x7_1.length < 4398046511104
          ·rw [if_pos c82] at H
           have LMc82 := Aside0.mk c82
           clear c82
           obtain ⟨y191, hy191⟩ : ∃ y_ : List (S44), y_ = (x7_1 ++ [(⟨t188, (rd_T44 t155 x68_1).f1⟩ : S44)]) := ⟨_, rfl⟩
           replace H : (eval_Eval.l1 k1 y191 t155 (t155.length : Int) (wrap64 (x68_1 + 1)) a0_0 a0_1 a0_2 l0_3 l0_4 a0_5 a0_6 a0_7 a0_8 l0_9) = some r := by first | (rw [hy191]; with_reducible exact H) | (have H2_ := (Option.bind_some _ _).symm.trans H; rw [hy191]; with_reducible exact H2_) | (have H2_ := (Option.bind_some _ _).symm.trans H; with_reducible exact H2_) | with_reducible exact H | (rw [hy191]; exact H) | exact H
           have Ny191 := Aside0.mk hy191
           clear hy191
           have H' := Aside0.mk H
           clear H
           have p186 : 0 ≤ (x68_1 : Int) := of_decide_eq_true (by first | (with_reducible assumption) | assumption)
           have q186 : x68_1 < (t155.length : Int) := of_decide_eq_true (by first | (with_reducible assumption) | assumption)
           obtain ⟨ad186, A186_0, c186_0, e186, hx186_0, hx186_1, hl186_0, hi186_0⟩ := at_T44 (Kd.N_reads' HO_66.out).2.2 x68_1 p186 q186
           cases e186
           obtain ⟨ce186, hce186, hMe186, hcc186⟩ := Kd.N_get HO_66.out z44 x68_1 p186 (by first | exact q186 | exact of_decide_eq_true (by first | (with_reducible assumption) | assumption) | (have e_ := (Kd.N_reads' HO_66.out).1; omega))
           obtain ⟨ua186_0, uc186_0, rfl, ul186_0, ge186_0⟩ := k44_openF hMe186
           have hv186_0 := hcc186 0 _ rfl
           rw [Nat.add_zero] at hv186_0
           replace hv186_0 := Option.some.inj (hv186_0.symm.trans hx186_0)
           injection hv186_0 with hva_ hvn_ hvc_
           rw [hva_] at ge186_0
           rw [hvc_] at ul186_0
           have HL186_0 := Aside0.mk (show Kd.V k23 23 _ w.heap.size _ _ ((rd_T44 t155 x68_1).f0) from Kd.V_mk ul186_0 ge186_0)
           clear hva_ hvn_ hvc_ ge186_0 ul186_0
           clear hcc186 hce186
           have HR186_0 := Aside0.mk hi186_0
           have HC186_0 := Aside0.mk hl186_0
           clear hi186_0 hl186_0
           replace p186 := eq_true p186
           replace q186 := eq_true q186
           try go_wp2_with (first | ((with_reducible refine gate_dst (N := 12) rfl ?_); refine box_event ?hg (N := 12) ?hd (cs := #[.slice none 0 0, .int .i64 0]) (t := 44) ?hr ?_; (case hd => rfl); (case hg => rfl); (case hr => first | (go_simp; done) | (go_simp; rfl)); intro gb187 hg w83 hbox hb; have n0_ := Aside0.mk (Kd.N_below (Kd.N_elderB (qn_ HO_7.out) gb187 (Nat.le_of_eq hg.symm)) hb); have n1_ := Aside0.mk (Kd.N_below (Kd.N_elderB (qn_ HO_66.out) gb187 (Nat.le_of_eq hg.symm)) hb); have n2_ := Aside0.mk (Kd.V_below (Kd.V_elderB (qv_ HL186_0.out) gb187 (Nat.le_of_eq hg.symm)) hb); have n3_ := Aside0.mk (blk_below (g := gb154) (o := .cells #[.int .i64 a0_0, .string a0_1, .string a0_2, .slice A0_3 l0_3.length c0_3, .slice A0_4 l0_4.length c0_4, .int .i64 a0_5, .int .i64 a0_6, .int .i64 a0_7, .string a0_8, .slice A0_9 l0_9.length c0_9] 37 (0, 0)) (qb_ BK154.out) hb); have n4_ := Aside0.mk (Kd.C_below (by repeat (first | (with_reducible exact HR186_0.out) | (with_reducible refine Kd.C_alloc ?_ _) | (with_reducible refine Kd.C_drewN ?_ _) | (with_reducible refine Kd.C_drew ?_) | exact HR186_0.out)) hb); have n5_ := Aside0.mk (below_step (by repeat (first | (with_reducible first | exact HB.out | apply below_alloc | apply pw_below_drewN | apply below_drew1 | refine below_set ?_ GE154.out) | exact HB.out)) hb); have n6_ := Aside0.mk (hbox); have n7_ := Aside0.mk ((by rw [hg]; exact (below_size (by repeat (first | (with_reducible first | exact HB.out | apply below_alloc | apply pw_below_drewN | apply below_drew1 | refine below_set ?_ GE154.out) | exact HB.out))) : w.heap.size ≤ gb187)); have n8_ := Aside0.mk ((by rw [hg]; exact (below_size (by repeat (first | (with_reducible first | exact HB.out | apply below_alloc | apply pw_below_drewN | apply below_drew1 | refine below_set ?_ GE154.out) | exact HB.out))) : w.heap.size ≤ gb187)); have n9_ := Aside0.mk ((by rw [hg]; exact Nat.ne_of_lt (blk_lt (g := gb154) (o := .cells #[.int .i64 a0_0, .string a0_1, .string a0_2, .slice A0_3 l0_3.length c0_3, .slice A0_4 l0_4.length c0_4, .int .i64 a0_5, .int .i64 a0_6, .int .i64 a0_7, .string a0_8, .slice A0_9 l0_9.length c0_9] 37 (0, 0)) (qb_ BK154.out)) : gb154 ≠ gb187)); have n10_ := Aside0.mk ((by rw [hg]; exact Nat.ne_of_gt (blk_lt (g := gb154) (o := .cells #[.int .i64 a0_0, .string a0_1, .string a0_2, .slice A0_3 l0_3.length c0_3, .slice A0_4 l0_4.length c0_4, .int .i64 a0_5, .int .i64 a0_6, .int .i64 a0_7, .string a0_8, .slice A0_9 l0_9.length c0_9] 37 (0, 0)) (qb_ BK154.out)) : gb187 ≠ gb154)); clear HO_7; clear HO_66; clear HL186_0; clear BK154; clear HR186_0; clear HB; have HO_7 := n0_; have HO_66 := n1_; have HL186_0 := n2_; have BK154 := n3_; have HR186_0 := n4_; have HB := n5_; have BK187 := n6_; have GW187 := n7_; have GE187 := n8_; have NB154_187 := n9_; have NB187_154 := n10_; clear n0_ n1_ n2_ n3_ n4_ n5_ n6_ n7_ n8_ n9_ n10_; clear hb hbox hg; have hnb84 := NB187_154.out; have hnc84 := NB154_187.out; have hcz85_0 : w83.cell? ⟨gb187, 0, none⟩ = some (.slice none 0 0) := (blk_cell BK187.out 0).trans rfl; have hcz85_1 : w83.cell? ⟨gb187, 1, none⟩ = some (.int .i64 0) := (blk_cell BK187.out 1).trans rfl; have hfz85_0 := blk_frozen BK187.out 0; have hfz85_1 := blk_frozen BK187.out 1))
           have n0_ : Aside0 (Kd.N k44 44 ((w83.setCell ⟨gb187, 0, none⟩ (.slice A186_0 ((rd_T44 t155 x68_1).f0).length c186_0)).setCell ⟨gb187, 1, none⟩ (.int .i64 ((rd_T44 t155 x68_1).f1))) w.heap.size (fun k_ => ((P1_ k_ ∨ P2_ k_) ∨ w.heap.size ≤ k_) ∧ some k_ ≠ (.slice (some ad186) t155.length co77 : Value).ownBlock ∧ k_ ≠ gb154 ∧ k_ ≠ gb187) u7 x7_1) := ⟨by (with_reducible repeat (first | apply Kd.N_alloc | apply Kd.N_drewN | apply Kd.N_drew)); exact Kd.N_mono (Kd.N_far (p := ⟨gb187, 1, none⟩) (Kd.N_far (p := ⟨gb187, 0, none⟩) (Kd.N_mono HO_7.out (fun k_ hk => (⟨hk, hk.2⟩ : _ ∧ k_ ≠ gb187))) (fun _ hk => hk.2) (.slice A186_0 ((rd_T44 t155 x68_1).f0).length c186_0)) (fun _ hk => hk.2) (.int .i64 ((rd_T44 t155 x68_1).f1))) (fun _ hk => ⟨hk.1.1.1, ⟨hk.1.1.2.1, ⟨hk.1.1.2.2, hk.1.2⟩⟩⟩)⟩
           have n1_ : Aside0 (Kd.N k44 44 ((w83.setCell ⟨gb187, 0, none⟩ (.slice A186_0 ((rd_T44 t155 x68_1).f0).length c186_0)).setCell ⟨gb187, 1, none⟩ (.int .i64 ((rd_T44 t155 x68_1).f1))) w.heap.size (fun k_ => ((P1_ k_ ∨ P2_ k_) ∨ w.heap.size ≤ k_) ∧ some k_ ≠ (u7 : Value).ownBlock ∧ k_ ≠ gb154 ∧ k_ ≠ gb187) (.slice (some ad186) t155.length co77) t155) := ⟨by (with_reducible repeat (first | apply Kd.N_alloc | apply Kd.N_drewN | apply Kd.N_drew)); exact Kd.N_mono (Kd.N_far (p := ⟨gb187, 1, none⟩) (Kd.N_far (p := ⟨gb187, 0, none⟩) (Kd.N_mono HO_66.out (fun k_ hk => (⟨hk, hk.2⟩ : _ ∧ k_ ≠ gb187))) (fun _ hk => hk.2) (.slice A186_0 ((rd_T44 t155 x68_1).f0).length c186_0)) (fun _ hk => hk.2) (.int .i64 ((rd_T44 t155 x68_1).f1))) (fun _ hk => ⟨hk.1.1.1, ⟨hk.1.1.2.1, ⟨hk.1.1.2.2, hk.1.2⟩⟩⟩)⟩
           have n2_ : Aside0 (Kd.V k23 23 ((w83.setCell ⟨gb187, 0, none⟩ (.slice A186_0 ((rd_T44 t155 x68_1).f0).length c186_0)).setCell ⟨gb187, 1, none⟩ (.int .i64 ((rd_T44 t155 x68_1).f1))) w.heap.size (fun k_ => ((P1_ k_ ∨ P2_ k_) ∨ w.heap.size ≤ k_) ∧ some k_ ≠ (u7 : Value).ownBlock ∧ some k_ ≠ (.slice (some ad186) t155.length co77 : Value).ownBlock ∧ k_ ≠ gb154 ∧ k_ ≠ gb187) (.slice A186_0 ((rd_T44 t155 x68_1).f0).length c186_0) ((rd_T44 t155 x68_1).f0)) := ⟨by (with_reducible repeat (first | apply Kd.V_alloc | apply Kd.V_drewN | apply Kd.V_drew)); exact Kd.V_mono (Kd.V_far (p := ⟨gb187, 1, none⟩) (Kd.V_far (p := ⟨gb187, 0, none⟩) (Kd.V_mono HL186_0.out (fun k_ hk => (⟨hk, hk.2⟩ : _ ∧ k_ ≠ gb187))) (fun _ hk => hk.2) (.slice A186_0 ((rd_T44 t155 x68_1).f0).length c186_0)) (fun _ hk => hk.2) (.int .i64 ((rd_T44 t155 x68_1).f1))) (fun _ hk => ⟨hk.1.1.1.1, ⟨hk.1.1.1.2.1, ⟨hk.1.1.2, ⟨hk.1.1.1.2.2, hk.1.2⟩⟩⟩⟩)⟩
           have n3_ : Aside0 (((w83.setCell ⟨gb187, 0, none⟩ (.slice A186_0 ((rd_T44 t155 x68_1).f0).length c186_0)).setCell ⟨gb187, 1, none⟩ (.int .i64 ((rd_T44 t155 x68_1).f1))).heap[gb154]? = some (.cells #[.int .i64 a0_0, .string a0_1, .string a0_2, .slice A0_3 l0_3.length c0_3, .slice A0_4 l0_4.length c0_4, .int .i64 a0_5, .int .i64 a0_6, .int .i64 a0_7, .string a0_8, .slice A0_9 l0_9.length c0_9] 37 (0, 0))) := ⟨by (with_reducible repeat (first | refine blk_drewN ?_ _ | refine blk_drew ?_ | refine blk_alloc ?_ _)); refine blk_far ?_ NB154_187.out _; (with_reducible repeat (first | refine blk_drewN ?_ _ | refine blk_drew ?_ | refine blk_alloc ?_ _)); refine blk_far ?_ NB154_187.out _; (with_reducible repeat (first | refine blk_drewN ?_ _ | refine blk_drew ?_ | refine blk_alloc ?_ _)); exact BK154.out⟩
           have n4_ : Aside0 (((w83.setCell ⟨gb187, 0, none⟩ (.slice A186_0 ((rd_T44 t155 x68_1).f0).length c186_0)).setCell ⟨gb187, 1, none⟩ (.int .i64 ((rd_T44 t155 x68_1).f1))).heap[gb187]? = some (.cells #[.slice A186_0 ((rd_T44 t155 x68_1).f0).length c186_0, .int .i64 ((rd_T44 t155 x68_1).f1)] 44 (0, 0))) := ⟨by (with_reducible repeat (first | refine blk_drewN ?_ _ | refine blk_drew ?_ | refine blk_alloc ?_ _)); refine blk_put (cs := #[.slice A186_0 ((rd_T44 t155 x68_1).f0).length c186_0, .int .i64 0]) ?_ 1 _ rfl; (with_reducible repeat (first | refine blk_drewN ?_ _ | refine blk_drew ?_ | refine blk_alloc ?_ _)); refine blk_put (cs := #[.slice none 0 0, .int .i64 0]) ?_ 0 _ rfl; (with_reducible repeat (first | refine blk_drewN ?_ _ | refine blk_drew ?_ | refine blk_alloc ?_ _)); exact BK187.out⟩
           have n5_ : Aside0 (Below w.heap.size w ((w83.setCell ⟨gb187, 0, none⟩ (.slice A186_0 ((rd_T44 t155 x68_1).f0).length c186_0)).setCell ⟨gb187, 1, none⟩ (.int .i64 ((rd_T44 t155 x68_1).f1)))) := ⟨by repeat (first | (with_reducible first | exact HB.out | apply below_alloc | apply pw_below_drewN | apply below_drew1 | refine below_set ?_ GE154.out | refine below_set ?_ GE187.out) | exact HB.out)⟩
           (try clear HO_7)
           (try clear HO_66)
           (try clear HL186_0)
           (try clear BK154)
           (try clear BK187)
           (try clear HB)
           generalize ((w83.setCell ⟨gb187, 0, none⟩ (.slice A186_0 ((rd_T44 t155 x68_1).f0).length c186_0)).setCell ⟨gb187, 1, none⟩ (.int .i64 ((rd_T44 t155 x68_1).f1))) = w86 at n0_ n1_ n2_ n3_ n4_ n5_ ⊢
           have HO_7 := n0_
           have HO_66 := n1_
           have HL186_0 := n2_
           have BK154 := n3_
           have BK187 := n4_
           have HB := n5_
           clear n0_ n1_ n2_ n3_ n4_ n5_
           have n0_ := Aside0.mk (Kd.N_drew HO_7.out)
           have n1_ := Aside0.mk (Kd.N_drew HO_66.out)
           have n2_ := Aside0.mk (Kd.V_drew HL186_0.out)
           have n3_ := Aside0.mk (blk_drew BK154.out)
           have n4_ := Aside0.mk (blk_drew BK187.out)
           have n5_ := Aside0.mk (below_drew1 HB.out)
           clear HO_7
           clear HO_66
           clear HL186_0
           clear BK154
           clear BK187
           clear HB
           have HO_7 := n0_
           have HO_66 := n1_
           have HL186_0 := n2_
           have BK154 := n3_
           have BK187 := n4_
           have HB := n5_
           clear n0_ n1_ n2_ n3_ n4_ n5_
           refine start_ (n := 12) (S := fun w' => w'.cell? ⟨gb187, 0, none⟩ = some (.slice A186_0 ((rd_T44 t155 x68_1).f0).length c186_0) ∧ w'.cell? ⟨gb187, 1, none⟩ = some (.int .i64 ((rd_T44 t155 x68_1).f1)) ∧ w'.cell? ⟨gb154, 0, none⟩ = some (.int .i64 a0_0) ∧ w'.cell? ⟨gb154, 1, none⟩ = some (.string a0_1) ∧ w'.cell? ⟨gb154, 2, none⟩ = some (.string a0_2) ∧ w'.cell? ⟨gb154, 3, none⟩ = some (.slice A0_3 l0_3.length c0_3) ∧ w'.cell? ⟨gb154, 4, none⟩ = some (.slice A0_4 l0_4.length c0_4) ∧ w'.cell? ⟨gb154, 5, none⟩ = some (.int .i64 a0_5) ∧ w'.cell? ⟨gb154, 6, none⟩ = some (.int .i64 a0_6) ∧ w'.cell? ⟨gb154, 7, none⟩ = some (.int .i64 a0_7) ∧ w'.cell? ⟨gb154, 8, none⟩ = some (.string a0_8) ∧ w'.cell? ⟨gb154, 9, none⟩ = some (.slice A0_9 l0_9.length c0_9)) (ds := []) #[false, false, false, false, false, false, false, false, false, false, false, false] (by kernel_rfl) rfl rfl ⟨(blk_cell BK187.out 0).trans rfl, (blk_cell BK187.out 1).trans rfl, (blk_cell BK154.out 0).trans rfl, (blk_cell BK154.out 1).trans rfl, (blk_cell BK154.out 2).trans rfl, (blk_cell BK154.out 3).trans rfl, (blk_cell BK154.out 4).trans rfl, (blk_cell BK154.out 5).trans rfl, (blk_cell BK154.out 6).trans rfl, (blk_cell BK154.out 7).trans rfl, (blk_cell BK154.out 8).trans rfl, (blk_cell BK154.out 9).trans rfl⟩ (fun hHeld => ?_); refine with_tabW eval_Eval.tab20 eval_Eval.bits20 (fun HT_ HW_ => ?_)
           generalize w86.drew = w87 at HO_7 HO_66 HL186_0 BK154 BK187 HB hHeld ⊢
           refine pure_ (i := 0) (N := some 72) (v := ?_) (a' := ?_) #[true, false, false, false, false, false, false, false, false, false, false, false] rfl rfl (any_of HT_.out (by kernel_rfl)) (fun _ _ _ h => h) (Or.inl ⟨by rfl, ?_⟩) ?_ ?_
           rotate_left
           ·intro w'
            go_simp
            with_reducible rfl
           rotate_left
           ·simp only [Act.put, List.setIfInBounds_toArray, List.set_cons_zero, List.set_cons_succ, i64_w, i32_w]
            rfl
           refine pure_ (i := 1) (N := some 73) (v := ?_) (a' := ?_) #[true, true, false, false, false, false, false, false, false, false, false, false] rfl rfl (any_of HT_.out (by kernel_rfl)) (fun _ _ _ h => h) (Or.inl ⟨by rfl, ?_⟩) ?_ ?_
           rotate_left
           ·intro w'
            go_simp
            with_reducible rfl
           rotate_left
           ·simp only [Act.put, List.setIfInBounds_toArray, List.set_cons_zero, List.set_cons_succ, i64_w, i32_w]
            rfl
           refine pure_ (i := 3) (N := some 75) (v := ?_) (a' := ?_) #[true, true, false, true, false, false, false, false, false, false, false, false] rfl rfl (any_of HT_.out (by kernel_rfl)) (fun _ _ _ h => h) (Or.inl ⟨by rfl, ?_⟩) ?_ ?_
           rotate_left
           ·intro w'
            go_simp
            with_reducible rfl
           rotate_left
           ·simp only [Act.put, List.setIfInBounds_toArray, List.set_cons_zero, List.set_cons_succ, i64_w, i32_w]
            rfl
           refine pure_ (i := 6) (N := some 78) (v := ?_) (a' := ?_) #[true, true, false, true, false, false, true, false, false, false, false, false] rfl rfl (any_of HT_.out (by kernel_rfl)) (fun _ _ _ h => h) (Or.inl ⟨by rfl, ?_⟩) ?_ ?_
           rotate_left
           ·intro w'
            go_simp
            with_reducible rfl
           rotate_left
           ·simp only [Act.put, List.setIfInBounds_toArray, List.set_cons_zero, List.set_cons_succ, i64_w, i32_w]
            rfl
           refine take_ (i := 2) (N := some 74) (v := ?_) (a' := ?_) #[true, true, true, true, false, false, true, false, false, false, false, false] rfl rfl (take_ofW HT_.out HW_.out (by kernel_rfl)) (fun _ _ _ h => h) (Or.inl ⟨by rfl, ?_⟩) hHeld ?_ ?_
           rotate_left
           ·rintro w' ⟨s0, s1, s2, s3, s4, s5, s6, s7, s8, s9, s10, s11⟩
            go_simp
            with_reducible rfl
           rotate_left
           ·simp only [Act.put, List.setIfInBounds_toArray, List.set_cons_zero, List.set_cons_succ, i64_w, i32_w]
            rfl
           refine take_ (i := 4) (N := some 76) (v := ?_) (a' := ?_) #[true, true, true, true, true, false, true, false, false, false, false, false] rfl rfl (take_ofW HT_.out HW_.out (by kernel_rfl)) (fun _ _ _ h => h) (Or.inl ⟨by rfl, ?_⟩) hHeld ?_ ?_
           rotate_left
           ·rintro w' ⟨s0, s1, s2, s3, s4, s5, s6, s7, s8, s9, s10, s11⟩
            go_simp
            with_reducible rfl
           rotate_left
           ·simp only [Act.put, List.setIfInBounds_toArray, List.set_cons_zero, List.set_cons_succ, i64_w, i32_w]
            rfl
           refine take_ (i := 7) (N := some 79) (v := ?_) (a' := ?_) #[true, true, true, true, true, false, true, true, false, false, false, false] rfl rfl (take_ofW HT_.out HW_.out (by kernel_rfl)) (fun _ _ _ h => h) (Or.inl ⟨by rfl, ?_⟩) hHeld ?_ ?_
           rotate_left
           ·rintro w' ⟨s0, s1, s2, s3, s4, s5, s6, s7, s8, s9, s10, s11⟩
            go_simp
            with_reducible rfl
           rotate_left
           ·simp only [Act.put, List.setIfInBounds_toArray, List.set_cons_zero, List.set_cons_succ, i64_w, i32_w]
            rfl
           refine one_ (i := 5) (N := some 77) #[true, true, true, true, true, true, true, true, false, false, false, false] rfl rfl (one_of HT_.out (by kernel_rfl)) (by decide) (fun K hK => ?_)
           refine goes_ Try.func7 (by kernel_rfl) rfl #[.slice A186_0 ((rd_T44 t155 x68_1).f0).length c186_0, .slice A0_3 l0_3.length c0_3] (by rfl) rfl rfl (by (try simp only [List.map_toArray, List.map_cons, List.map_nil]); first | done | rfl | (simp only [List.length_drop, List.length_take]; rfl)) ?_
           with_reducible refine (eval_Picked.calls k1 _ _ ((rd_T44 t155 x68_1).f0) _ _ l0_3 t188 _ ?side1 ?side2 ?side3 ?side4 A81.out).mono ?_
           (case side1 => repeat (first | exact ((Kd.V_reads' (qv_ HL186_0.out)).2.2) | (with_reducible refine Kd.C_alloc ?_ _) | (with_reducible refine Kd.C_drewN ?_ _) | (with_reducible refine Kd.C_drew ?_)))
           (case side2 => exact HC186_0.out)
           (case side3 => repeat (first | exact (Kd.C_below HR0_3.out HB.out) | (with_reducible refine Kd.C_alloc ?_ _) | (with_reducible refine Kd.C_drewN ?_ _) | (with_reducible refine Kd.C_drew ?_)))
           (case side4 => exact HC0_3.out)
           rintro e w88 ⟨v189, rfl, ho0, hb⟩
           refine ⟨_, rfl, ?_⟩
           have n0_ := Aside0.mk (Kd.N_elder' (qn_ HO_7.out) (Kd.R_base ho0) hb)
           have n1_ := Aside0.mk (Kd.N_elder' (qn_ HO_66.out) (Kd.R_base ho0) hb)
           have n2_ := Aside0.mk (Kd.V_elder' (qv_ HL186_0.out) (Kd.R_base ho0) hb)
           have n3_ := Aside0.mk (Kd.R_lower (Kd.R_newM (M := fun k_ => (w.heap.size ≤ k_)) ho0 (below_size (by repeat (first | (with_reducible first | exact HB.out | apply below_alloc | apply pw_below_drewN | apply below_drew1 | refine below_set ?_ GE154.out | refine below_set ?_ GE187.out) | exact HB.out))) (fun k_ h_ => h_)) (below_size (by repeat (first | (with_reducible first | exact HB.out | apply below_alloc | apply pw_below_drewN | apply below_drew1 | refine below_set ?_ GE154.out | refine below_set ?_ GE187.out) | exact HB.out))))
           have n4_ := Aside0.mk (blk_below (g := gb154) (o := .cells #[.int .i64 a0_0, .string a0_1, .string a0_2, .slice A0_3 l0_3.length c0_3, .slice A0_4 l0_4.length c0_4, .int .i64 a0_5, .int .i64 a0_6, .int .i64 a0_7, .string a0_8, .slice A0_9 l0_9.length c0_9] 37 (0, 0)) (qb_ BK154.out) hb)
           have n5_ := Aside0.mk (blk_below (g := gb187) (o := .cells #[.slice A186_0 ((rd_T44 t155 x68_1).f0).length c186_0, .int .i64 ((rd_T44 t155 x68_1).f1)] 44 (0, 0)) (qb_ BK187.out) hb)
           have n6_ := Aside0.mk (below_step (by repeat (first | (with_reducible first | exact HB.out | apply below_alloc | apply pw_below_drewN | apply below_drew1 | refine below_set ?_ GE154.out | refine below_set ?_ GE187.out) | exact HB.out)) hb)
           clear HO_7
           clear HO_66
           clear HL186_0
           clear BK154
           clear BK187
           clear HB
           have HO_7 := n0_
           have HO_66 := n1_
           have HL186_0 := n2_
           have HO190 := n3_
           have BK154 := n4_
           have BK187 := n5_
           have HB := n6_
           clear n0_ n1_ n2_ n3_ n4_ n5_ n6_
           (try clear hb)
           (try clear hb2)
           (try clear hk)
           (try clear hi)
           (try clear ho0)
           obtain ⟨Ao89, co89, eo89⟩ := Kd.R_slice HO190.out
           (first | subst eo89 | (injection eo89 with f1_ f2_ f3_; have f4_ := f1_.symm; have f5_ := f3_.symm; clear f1_ f2_ f3_; subst f4_; subst f5_))
           refine hK.out _ _ ⟨(blk_cell BK187.out 0).trans rfl, (blk_cell BK187.out 1).trans rfl, (blk_cell BK154.out 0).trans rfl, (blk_cell BK154.out 1).trans rfl, (blk_cell BK154.out 2).trans rfl, (blk_cell BK154.out 3).trans rfl, (blk_cell BK154.out 4).trans rfl, (blk_cell BK154.out 5).trans rfl, (blk_cell BK154.out 6).trans rfl, (blk_cell BK154.out 7).trans rfl, (blk_cell BK154.out 8).trans rfl, (blk_cell BK154.out 9).trans rfl⟩ (fun hHeld => ?_)
           clear hK K
           refine norm_ (a' := ?_) ?_ ?_
           rotate_left
           ·show Act.put _ (some 77) _ = _
            simp only [Act.put, List.setIfInBounds_toArray, List.set_cons_zero, List.set_cons_succ, i64_w, i32_w]
            rfl
           refine pure_ (i := 8) (N := some 80) (v := ?_) (a' := ?_) #[true, true, true, true, true, true, true, true, true, false, false, false] rfl rfl (any_of HT_.out (by kernel_rfl)) (fun _ _ _ h => h) (Or.inl ⟨by rfl, ?_⟩) ?_ ?_
           rotate_left
           ·intro w'
            go_simp
            with_reducible rfl
           rotate_left
           ·simp only [Act.put, List.setIfInBounds_toArray, List.set_cons_zero, List.set_cons_succ, i64_w, i32_w]
            rfl
           refine one_ (i := 9) (N := some 81) #[true, true, true, true, true, true, true, true, true, true, false, false] rfl rfl (one_of HT_.out (by kernel_rfl)) (by decide) (fun K hK => ?_)
           refine value_ (w1 := ?_) (v := ?_) (by rfl) rfl ?_ ?_
           rotate_left 2
           ·go_simp
            constructor
            ·rfl
            ·rfl
           refine hK.out _ _ ⟨(blk_cell (blk_alloc BK187.out _) 0).trans rfl, (blk_cell (blk_alloc BK187.out _) 1).trans rfl, (blk_cell (blk_alloc BK154.out _) 0).trans rfl, (blk_cell (blk_alloc BK154.out _) 1).trans rfl, (blk_cell (blk_alloc BK154.out _) 2).trans rfl, (blk_cell (blk_alloc BK154.out _) 3).trans rfl, (blk_cell (blk_alloc BK154.out _) 4).trans rfl, (blk_cell (blk_alloc BK154.out _) 5).trans rfl, (blk_cell (blk_alloc BK154.out _) 6).trans rfl, (blk_cell (blk_alloc BK154.out _) 7).trans rfl, (blk_cell (blk_alloc BK154.out _) 8).trans rfl, (blk_cell (blk_alloc BK154.out _) 9).trans rfl⟩ (fun hHeld => ?_)
           clear hK K
           refine norm_ (a' := ?_) ?_ ?_
           rotate_left
           ·show Act.put _ (some 81) _ = _
            simp only [Act.put, List.setIfInBounds_toArray, List.set_cons_zero, List.set_cons_succ, i64_w, i32_w]
            rfl
           refine one_ (i := 10) (N := some 82) #[true, true, true, true, true, true, true, true, true, true, true, false] rfl rfl (one_of HT_.out (by kernel_rfl)) (by decide) (fun K hK => ?_)
           refine Kd.N_append_step k44 (w0 := w) w.heap.size (by rfl) (.tmp 72) (.tmp 81) 31 44 (.agg #[(.slice none 0 0), (.int .i64 0)]) 32 rfl Try.underlying31 info44 rfl (by decide) (by omega) u7 x7_1 (⟨t188, (rd_T44 t155 x68_1).f1⟩ : S44) [.slice Ao89 t188.length co89, .int .i64 ((rd_T44 t155 x68_1).f1)] (fun k_ => ((P1_ k_ ∨ P2_ k_) ∨ w.heap.size ≤ k_) ∧ some k_ ≠ (.slice (some ad186) t155.length co77 : Value).ownBlock ∧ k_ ≠ gb154 ∧ k_ ≠ gb187) (fun k_ => ((fun k_ => ((P1_ k_ ∨ P2_ k_) ∨ w.heap.size ≤ k_) ∧ some k_ ≠ (.slice (some ad186) t155.length co77 : Value).ownBlock ∧ k_ ≠ gb154 ∧ k_ ≠ gb187)) k_ ∧ some k_ ≠ (u7 : Value).ownBlock) rfl rfl ?aP (fun _ hk => hk) ?aF ?aO ?aB ?aS ?aL ?_
           (case aP => exact (k44_mkF _ _ (⟨t188, (rd_T44 t155 x68_1).f1⟩ : S44) (Kd.R_reads' (Kd.R_mono (ok' := (fun k_ => ((fun k_ => ((P1_ k_ ∨ P2_ k_) ∨ w.heap.size ≤ k_) ∧ some k_ ≠ (.slice (some ad186) t155.length co77 : Value).ownBlock ∧ k_ ≠ gb154 ∧ k_ ≠ gb187)) k_ ∧ some k_ ≠ (u7 : Value).ownBlock)) (Kd.R_types (Kd.R_types (Kd.R_apart' (Kd.R_apart' (HO190.out) (Kd.N_typed HO_66.out) (by decide)) (Kd.N_typed HO_7.out) (by decide)) BK154.out (by decide)) BK187.out (by decide)) (fun k_ hk => ⟨⟨(.inr (hk.1.1.1.1.1)), ⟨hk.1.1.1.2, ⟨hk.1.2, hk.2⟩⟩⟩, hk.1.1.2⟩))).2.1 (Kd.R_F (Kd.R_mono (ok' := (fun k_ => ((fun k_ => ((P1_ k_ ∨ P2_ k_) ∨ w.heap.size ≤ k_) ∧ some k_ ≠ (.slice (some ad186) t155.length co77 : Value).ownBlock ∧ k_ ≠ gb154 ∧ k_ ≠ gb187)) k_ ∧ some k_ ≠ (u7 : Value).ownBlock)) (Kd.R_types (Kd.R_types (Kd.R_apart' (Kd.R_apart' (HO190.out) (Kd.N_typed HO_66.out) (by decide)) (Kd.N_typed HO_7.out) (by decide)) BK154.out (by decide)) BK187.out (by decide)) (fun k_ hk => ⟨⟨(.inr (hk.1.1.1.1.1)), ⟨hk.1.1.1.2, ⟨hk.1.2, hk.2⟩⟩⟩, hk.1.1.2⟩)))))
           (case aB => exact (by repeat (first | (with_reducible first | exact HB.out | apply below_alloc | apply pw_below_drewN | apply below_drew1 | refine below_set ?_ GE154.out | refine below_set ?_ GE187.out) | exact HB.out)))
           (case aF => exact (fun k_ hk => ⟨(.inr (Nat.le_trans (below_size (by repeat (first | (with_reducible first | exact HB.out | apply below_alloc | apply pw_below_drewN | apply below_drew1 | refine below_set ?_ GE154.out | refine below_set ?_ GE187.out) | exact HB.out))) hk)), Kd.fresh' (Kd.N_lt (qn_ HO_66.out)) k_ hk, Kd.freshB (g := gb154) (o := .cells #[.int .i64 a0_0, .string a0_1, .string a0_2, .slice A0_3 l0_3.length c0_3, .slice A0_4 l0_4.length c0_4, .int .i64 a0_5, .int .i64 a0_6, .int .i64 a0_7, .string a0_8, .slice A0_9 l0_9.length c0_9] 37 (0, 0)) (qb_ BK154.out) k_ hk, Kd.freshB (g := gb187) (o := .cells #[.slice A186_0 ((rd_T44 t155 x68_1).f0).length c186_0, .int .i64 ((rd_T44 t155 x68_1).f1)] 44 (0, 0)) (qb_ BK187.out) k_ hk⟩))
           (case aO => exact (by (with_reducible repeat (first | apply Kd.N_alloc | apply Kd.N_drewN | apply Kd.N_drew)); exact Kd.N_mono HO_7.out (fun _ hk => ⟨hk.1.1, ⟨hk.1.2.1, ⟨hk.1.2.2.1, hk.1.2.2.2⟩⟩⟩)))
           (case aS => exact (below_size (by repeat (first | (with_reducible first | exact HB.out | apply below_alloc | apply pw_below_drewN | apply below_drew1 | refine below_set ?_ GE154.out | refine below_set ?_ GE187.out) | exact HB.out))))
           (case aL => have := LMc82.out; omega)
           intro v192 w90 ho hb hg hat
           rw [← Ny191.out] at ho
           have n0_ := Aside0.mk (Kd.N_afterv (ok := (fun k_ => ((P1_ k_ ∨ P2_ k_) ∨ w.heap.size ≤ k_) ∧ some k_ ≠ (.slice Ao89 t188.length co89 : Value).ownBlock ∧ k_ ≠ gb154 ∧ k_ ≠ gb187)) (by (with_reducible repeat (first | apply Kd.N_alloc | apply Kd.N_drewN | apply Kd.N_drew)); exact Kd.N_mono HO_66.out (fun _ hk => ⟨⟨hk.1.1, ⟨hk.2, ⟨hk.1.2.2.1, hk.1.2.2.2⟩⟩⟩, hk.1.2.1⟩)) hg hat)
           have n1_ := Aside0.mk (blk_grown (g := gb154) (o := .cells #[.int .i64 a0_0, .string a0_1, .string a0_2, .slice A0_3 l0_3.length c0_3, .slice A0_4 l0_4.length c0_4, .int .i64 a0_5, .int .i64 a0_6, .int .i64 a0_7, .string a0_8, .slice A0_9 l0_9.length c0_9] 37 (0, 0)) (qb_ BK154.out) hg (Kd.N_ne HO_7.out BK154.out (by decide)))
           have n2_ := Aside0.mk (Kd.V_afterv (ok := (fun k_ => ((P1_ k_ ∨ P2_ k_) ∨ w.heap.size ≤ k_) ∧ some k_ ≠ (.slice (some ad186) t155.length co77 : Value).ownBlock ∧ some k_ ≠ (.slice Ao89 t188.length co89 : Value).ownBlock ∧ k_ ≠ gb154 ∧ k_ ≠ gb187)) (by (with_reducible repeat (first | apply Kd.V_alloc | apply Kd.V_drewN | apply Kd.V_drew)); exact Kd.V_mono HL186_0.out (fun _ hk => ⟨⟨hk.1.1, ⟨hk.1.2.2.1, ⟨hk.2, ⟨hk.1.2.2.2.1, hk.1.2.2.2.2⟩⟩⟩⟩, hk.1.2.1⟩)) hg hat)
           have n3_ := Aside0.mk (blk_grown (g := gb187) (o := .cells #[.slice A186_0 ((rd_T44 t155 x68_1).f0).length c186_0, .int .i64 ((rd_T44 t155 x68_1).f1)] 44 (0, 0)) (qb_ BK187.out) hg (Kd.N_away HO_7.out (fun _ hk => hk.1.2.2.2)))
           have n4_ := Aside0.mk (hb)
           have n5_ := Aside0.mk (ho)
           clear HO_66
           clear BK154
           clear HL186_0
           clear BK187
           clear HB
           clear HO_7
           clear HO190
           have HO_66 := n0_
           have BK154 := n1_
           have HL186_0 := n2_
           have BK187 := n3_
           have HB := n4_
           have HO193 := n5_
           clear n0_ n1_ n2_ n3_ n4_ n5_
           clear ho hb hg hat
           refine hK.out _ _ ⟨(blk_cell BK187.out 0).trans rfl, (blk_cell BK187.out 1).trans rfl, (blk_cell BK154.out 0).trans rfl, (blk_cell BK154.out 1).trans rfl, (blk_cell BK154.out 2).trans rfl, (blk_cell BK154.out 3).trans rfl, (blk_cell BK154.out 4).trans rfl, (blk_cell BK154.out 5).trans rfl, (blk_cell BK154.out 6).trans rfl, (blk_cell BK154.out 7).trans rfl, (blk_cell BK154.out 8).trans rfl, (blk_cell BK154.out 9).trans rfl⟩ (fun hHeld => ?_)
           clear hK K
           refine norm_ (a' := ?_) ?_ ?_
           rotate_left
           ·show Act.put _ (some 82) _ = _
            simp only [Act.put, List.setIfInBounds_toArray, List.set_cons_zero, List.set_cons_succ, i64_w, i32_w]
            rfl
           refine pure_ (i := 11) (N := some 7) (v := ?_) (a' := ?_) #[true, true, true, true, true, true, true, true, true, true, true, true] rfl rfl (any_of HT_.out (by kernel_rfl)) (fun _ _ _ h => h) (Or.inl ⟨by rfl, ?_⟩) ?_ ?_
           rotate_left
           ·intro w'
            go_simp
            with_reducible rfl
           rotate_left
           ·simp only [Act.put, List.setIfInBounds_toArray, List.set_cons_zero, List.set_cons_succ, i64_w, i32_w]
            rfl
           refine done_ (done_of HT_.out (by kernel_rfl)) ?_
           try go_wp2
           go_roundg k1
           case measure => have := HK1.out; omega
           case rel => exact ⟨(y191), (wrap64 (x68_1 + 1)), (by first | rfl | (simp; done) | (simp [*]; done)), H', ⟨by have := HK1.out; omega⟩, ⟨by (with_reducible repeat (first | apply Kd.N_alloc | apply Kd.N_drewN | apply Kd.N_drew)); exact Kd.N_mono HO193.out (fun _ hk => ⟨hk.1, ⟨hk.2.1, hk.2.2.1⟩⟩)⟩, ⟨by (with_reducible repeat (first | apply Kd.N_alloc | apply Kd.N_drewN | apply Kd.N_drew)); exact Kd.N_mono HO_66.out (fun _ hk => ⟨hk.1.1, ⟨hk.2, hk.1.2.2.1⟩⟩)⟩, ⟨qb_ BK154.out⟩, ⟨by repeat (first | (with_reducible first | exact HB.out | apply below_alloc | apply pw_below_drewN | apply below_drew1 | refine below_set ?_ GE154.out | refine below_set ?_ GE187.out) | exact HB.out)⟩⟩
          ·rw [if_neg c82] at H
           exact absurd H (by simp)
         ·rw [if_neg c80] at H
          exact absurd H (by simp)
        ·rw [if_neg c79] at H
         exact absurd H (by simp)
       ·rw [if_neg c78] at H
        have c78b0 : decide (x68_1 < (t155.length : Int)) = false := decide_eq_false c78
        clear c78
        replace H := Option.bind_eq_some_iff.mp H
        obtain ⟨t194, A910, H⟩ := H
        replace H : (some t194) = some r := H
        have A91 := Aside0.mk A910
        clear A910
        obtain rfl := Option.some.inj H
        obtain ⟨Ao92, co92, eo92⟩ := Kd.N_slice HO_7.out
        subst eo92
        go_wp2_with (first | ((with_reducible refine gate_callee (f := 16) rfl ?_); refine goesL_ (some 131) rfl rfl Try.func16 (by kernel_rfl) rfl #[.slice Ao92 x7_1.length co92] rfl (by (try simp only [List.map_toArray, List.map_cons, List.map_nil]); first | done | rfl | (simp only [List.length_drop, List.length_take]; rfl)) ?_; (with_reducible refine (zset_Norm.calls (fun k_ => (((P1_ k_ ∨ P2_ k_) ∨ w.heap.size ≤ k_) ∧ (some k_ ≠ (.slice Ao77 t155.length co77 : Value).ownBlock ∧ k_ ≠ gb154))) _ _ x7_1 t194 _ ?side1 A91.out).mono ?_); (case side1 => exact Kd.N_V (HO_7.out)); rintro e w93 ⟨v195, rfl, ho0, hb⟩; refine ⟨_, rfl, ?_⟩; have n0_ := Aside0.mk (Kd.N_elder' (qn_ HO_7.out) (Kd.N_base ho0) hb); have n1_ := Aside0.mk (Kd.N_elder' (qn_ HO_66.out) (Kd.N_base ho0) hb); have n2_ := Aside0.mk (Kd.N_lower (Kd.N_mono (ok' := fun k_ => ((P1_ k_ ∨ P2_ k_) ∨ w.heap.size ≤ k_) ∧ some k_ ≠ (.slice Ao77 t155.length co77 : Value).ownBlock ∧ k_ ≠ gb154) ho0 (fun k_ hk_ => ⟨Or.elim hk_ (fun hs_ => hs_.1) (fun hn_ => (.inr (Nat.le_trans (below_size (by repeat (first | (with_reducible first | exact HB.out | apply below_alloc | apply pw_below_drewN | apply below_drew1 | refine below_set ?_ GE154.out) | exact HB.out))) hn_))), Or.elim hk_ (fun hs_ => hs_.2.1) (fun hn_ => (Kd.fresh' (Kd.N_lt (qn_ HO_66.out)) k_ hn_)), Or.elim hk_ (fun hs_ => hs_.2.2) (fun hn_ => (Kd.freshB (g := gb154) (o := .cells #[.int .i64 a0_0, .string a0_1, .string a0_2, .slice A0_3 l0_3.length c0_3, .slice A0_4 l0_4.length c0_4, .int .i64 a0_5, .int .i64 a0_6, .int .i64 a0_7, .string a0_8, .slice A0_9 l0_9.length c0_9] 37 (0, 0)) (qb_ BK154.out) k_ hn_))⟩)) (below_size (by repeat (first | (with_reducible first | exact HB.out | apply below_alloc | apply pw_below_drewN | apply below_drew1 | refine below_set ?_ GE154.out) | exact HB.out)))); have n3_ := Aside0.mk (blk_below (g := gb154) (o := .cells #[.int .i64 a0_0, .string a0_1, .string a0_2, .slice A0_3 l0_3.length c0_3, .slice A0_4 l0_4.length c0_4, .int .i64 a0_5, .int .i64 a0_6, .int .i64 a0_7, .string a0_8, .slice A0_9 l0_9.length c0_9] 37 (0, 0)) (qb_ BK154.out) hb); have n4_ := Aside0.mk (below_step (by repeat (first | (with_reducible first | exact HB.out | apply below_alloc | apply pw_below_drewN | apply below_drew1 | refine below_set ?_ GE154.out) | exact HB.out)) hb); clear HO_7; clear HO_66; clear BK154; clear HB; have HO_7 := n0_; have HO_66 := n1_; have HO196 := n2_; have BK154 := n3_; have HB := n4_; clear n0_ n1_ n2_ n3_ n4_; (try clear hb); (try clear hb2); (try clear hk); (try clear hi); (try clear ho0)))
        go_ret
        exact ⟨_, by first | rfl | (simp [errW_none, errW_some] <;> rfl) | (simp [*, errW_none, errW_some] <;> rfl), by (with_reducible repeat (first | apply Kd.N_alloc | apply Kd.N_drewN | apply Kd.N_drew)); exact Kd.N_mono HO196.out (fun _ hk => hk.1), by repeat (first | (with_reducible first | exact HB.out | apply below_alloc | apply pw_below_drewN | apply below_drew1 | refine below_set ?_ GE154.out) | exact HB.out)⟩
    ·rw [if_neg c72] at H
     have c72b0 : (a0_0 == 3) = false := beq_eq_false_iff_ne.mpr c72
     have c72b1 : (a0_0 != 3) = true := bne_iff_ne.mpr c72
     by_cases c94 : a0_0 = 4
     ·rw [if_pos c94] at H
      have c94b0 : (a0_0 == 4) = true := beq_iff_eq.mpr c94
      have c94b1 : (a0_0 != 4) = false := bne_eq_false_iff_eq.mpr c94
      clear c94
      exact absurd H (by simp)
     ·rw [if_neg c94] at H
      have c94b0 : (a0_0 == 4) = false := beq_eq_false_iff_ne.mpr c94
      have c94b1 : (a0_0 != 4) = true := bne_iff_ne.mpr c94
      by_cases c95 : a0_0 = 6
      ·rw [if_pos c95] at H
       have c95b0 : (a0_0 == 6) = true := beq_iff_eq.mpr c95
       have c95b1 : (a0_0 != 6) = false := bne_eq_false_iff_eq.mpr c95
       clear c95
       have H' := Aside0.mk H
       clear H
       go_enter Try.func13, Try.ntmps13
       go_wp2_with (first | ((with_reducible refine gate_dst (N := 3) rfl ?_); refine box_event ?hg (N := 3) ?hd (cs := #[.int .i64 a0_0, .string a0_1, .string a0_2, .slice A0_3 l0_3.length c0_3, .slice A0_4 l0_4.length c0_4, .int .i64 a0_5, .int .i64 a0_6, .int .i64 a0_7, .string a0_8, .slice A0_9 l0_9.length c0_9]) (t := 37) ?hr ?_; (case hd => rfl); (case hg => rfl); (case hr => first | (go_simp; done) | (go_simp; rfl)); intro gb154 hg w96 hbox hb; have n0_ := Aside0.mk (Kd.V_below (Kd.V_elderB (qv_ HO1.out) gb154 (Nat.le_of_eq hg.symm)) hb); have n1_ := Aside0.mk (Kd.V_below (Kd.V_elderB (qv_ HO2.out) gb154 (Nat.le_of_eq hg.symm)) hb); have n2_ := Aside0.mk (below_step qh_ hb); have n3_ := Aside0.mk (hbox); have n4_ := Aside0.mk ((by rw [hg]; exact (below_size qh_) : w.heap.size ≤ gb154)); have n5_ := Aside0.mk ((by rw [hg]; exact (below_size qh_) : w.heap.size ≤ gb154)); clear HO1; clear HO2; clear HB; have HO1 := n0_; have HO2 := n1_; have HB := n2_; have BK154 := n3_; have GW154 := n4_; have GE154 := n5_; clear n0_ n1_ n2_ n3_ n4_ n5_; clear hb hbox hg) | ((with_reducible refine gate_callee (f := 16) rfl ?_); refine goesL_ (some 19) rfl rfl Try.func16 (by kernel_rfl) rfl #[.slice A1 l1.length c1] rfl (by (try simp only [List.map_toArray, List.map_cons, List.map_nil]); first | done | rfl | (simp only [List.length_drop, List.length_take]; rfl)) ?_; (with_reducible refine (zset_Norm.calls (fun k_ => (((P1_ k_ ∨ P2_ k_) ∨ w.heap.size ≤ k_) ∧ k_ ≠ gb154)) _ _ l1 t155 _ ?side1 A4.out).mono ?_); (case side1 => exact HO1.out); rintro e w97 ⟨v156, rfl, ho0, hb⟩; refine ⟨_, rfl, ?_⟩; have n0_ := Aside0.mk (Kd.V_elder' (qv_ HO1.out) (Kd.N_base ho0) hb); have n1_ := Aside0.mk (Kd.V_elder' (qv_ HO2.out) (Kd.N_base ho0) hb); have n2_ := Aside0.mk (Kd.N_lower (Kd.N_mono (ok' := fun k_ => ((P1_ k_ ∨ P2_ k_) ∨ w.heap.size ≤ k_) ∧ k_ ≠ gb154) ho0 (fun k_ hk_ => ⟨Or.elim hk_ (fun hs_ => hs_.1) (fun hn_ => (.inr (Nat.le_trans (below_size (by repeat (first | (with_reducible first | exact HB.out | apply below_alloc | apply pw_below_drewN | apply below_drew1 | refine below_set ?_ GE154.out) | exact HB.out))) hn_))), Or.elim hk_ (fun hs_ => hs_.2) (fun hn_ => (Kd.freshB (g := gb154) (o := .cells #[.int .i64 a0_0, .string a0_1, .string a0_2, .slice A0_3 l0_3.length c0_3, .slice A0_4 l0_4.length c0_4, .int .i64 a0_5, .int .i64 a0_6, .int .i64 a0_7, .string a0_8, .slice A0_9 l0_9.length c0_9] 37 (0, 0)) (qb_ BK154.out) k_ hn_))⟩)) (below_size (by repeat (first | (with_reducible first | exact HB.out | apply below_alloc | apply pw_below_drewN | apply below_drew1 | refine below_set ?_ GE154.out) | exact HB.out)))); have n3_ := Aside0.mk (blk_below (g := gb154) (o := .cells #[.int .i64 a0_0, .string a0_1, .string a0_2, .slice A0_3 l0_3.length c0_3, .slice A0_4 l0_4.length c0_4, .int .i64 a0_5, .int .i64 a0_6, .int .i64 a0_7, .string a0_8, .slice A0_9 l0_9.length c0_9] 37 (0, 0)) (qb_ BK154.out) hb); have n4_ := Aside0.mk (below_step (by repeat (first | (with_reducible first | exact HB.out | apply below_alloc | apply pw_below_drewN | apply below_drew1 | refine below_set ?_ GE154.out) | exact HB.out)) hb); clear HO1; clear HO2; clear BK154; clear HB; have HO1 := n0_; have HO2 := n1_; have HO157 := n2_; have BK154 := n3_; have HB := n4_; clear n0_ n1_ n2_ n3_ n4_; (try clear hb); (try clear hb2); (try clear hk); (try clear hi); (try clear ho0)) | ((with_reducible refine gate_callee (f := 16) rfl ?_); refine goesL_ (some 21) rfl rfl Try.func16 (by kernel_rfl) rfl #[.slice A2 l2.length c2] rfl (by (try simp only [List.map_toArray, List.map_cons, List.map_nil]); first | done | rfl | (simp only [List.length_drop, List.length_take]; rfl)) ?_; (with_reducible refine (zset_Norm.calls (fun k_ => ((((P1_ k_ ∨ P2_ k_) ∨ w.heap.size ≤ k_) ∧ k_ ≠ gb154) ∧ some k_ ≠ (v156 : Value).ownBlock)) _ _ l2 t158 _ ?side1 A5.out).mono ?_); (case side1 => exact HO2.out); rintro e w98 ⟨v159, rfl, ho0, hb⟩; refine ⟨_, rfl, ?_⟩; have n0_ := Aside0.mk (Kd.V_elder' (qv_ HO1.out) (Kd.N_base ho0) hb); have n1_ := Aside0.mk (Kd.V_elder' (qv_ HO2.out) (Kd.N_base ho0) hb); have n2_ := Aside0.mk (Kd.N_elder' (qn_ HO157.out) (Kd.N_base ho0) hb); have n3_ := Aside0.mk (Kd.N_lower (Kd.N_mono (ok' := fun k_ => ((P1_ k_ ∨ P2_ k_) ∨ w.heap.size ≤ k_) ∧ some k_ ≠ (v156 : Value).ownBlock ∧ k_ ≠ gb154) ho0 (fun k_ hk_ => ⟨Or.elim hk_ (fun hs_ => hs_.1.1) (fun hn_ => (.inr (Nat.le_trans (below_size (by repeat (first | (with_reducible first | exact HB.out | apply below_alloc | apply pw_below_drewN | apply below_drew1 | refine below_set ?_ GE154.out) | exact HB.out))) hn_))), Or.elim hk_ (fun hs_ => hs_.2) (fun hn_ => (Kd.fresh' (Kd.N_lt (qn_ HO157.out)) k_ hn_)), Or.elim hk_ (fun hs_ => hs_.1.2) (fun hn_ => (Kd.freshB (g := gb154) (o := .cells #[.int .i64 a0_0, .string a0_1, .string a0_2, .slice A0_3 l0_3.length c0_3, .slice A0_4 l0_4.length c0_4, .int .i64 a0_5, .int .i64 a0_6, .int .i64 a0_7, .string a0_8, .slice A0_9 l0_9.length c0_9] 37 (0, 0)) (qb_ BK154.out) k_ hn_))⟩)) (below_size (by repeat (first | (with_reducible first | exact HB.out | apply below_alloc | apply pw_below_drewN | apply below_drew1 | refine below_set ?_ GE154.out) | exact HB.out)))); have n4_ := Aside0.mk (blk_below (g := gb154) (o := .cells #[.int .i64 a0_0, .string a0_1, .string a0_2, .slice A0_3 l0_3.length c0_3, .slice A0_4 l0_4.length c0_4, .int .i64 a0_5, .int .i64 a0_6, .int .i64 a0_7, .string a0_8, .slice A0_9 l0_9.length c0_9] 37 (0, 0)) (qb_ BK154.out) hb); have n5_ := Aside0.mk (below_step (by repeat (first | (with_reducible first | exact HB.out | apply below_alloc | apply pw_below_drewN | apply below_drew1 | refine below_set ?_ GE154.out) | exact HB.out)) hb); clear HO1; clear HO2; clear HO157; clear BK154; clear HB; have HO1 := n0_; have HO2 := n1_; have HO157 := n2_; have HO160 := n3_; have BK154 := n4_; have HB := n5_; clear n0_ n1_ n2_ n3_ n4_ n5_; (try clear hb); (try clear hb2); (try clear hk); (try clear hi); (try clear ho0); have hcz99_0 : w98.cell? ⟨gb154, 0, none⟩ = some (.int .i64 a0_0) := (blk_cell BK154.out 0).trans rfl; have hcz99_1 : w98.cell? ⟨gb154, 1, none⟩ = some (.string a0_1) := (blk_cell BK154.out 1).trans rfl; have hcz99_2 : w98.cell? ⟨gb154, 2, none⟩ = some (.string a0_2) := (blk_cell BK154.out 2).trans rfl; have hcz99_3 : w98.cell? ⟨gb154, 3, none⟩ = some (.slice A0_3 l0_3.length c0_3) := (blk_cell BK154.out 3).trans rfl; have hcz99_4 : w98.cell? ⟨gb154, 4, none⟩ = some (.slice A0_4 l0_4.length c0_4) := (blk_cell BK154.out 4).trans rfl; have hcz99_5 : w98.cell? ⟨gb154, 5, none⟩ = some (.int .i64 a0_5) := (blk_cell BK154.out 5).trans rfl; have hcz99_6 : w98.cell? ⟨gb154, 6, none⟩ = some (.int .i64 a0_6) := (blk_cell BK154.out 6).trans rfl; have hcz99_7 : w98.cell? ⟨gb154, 7, none⟩ = some (.int .i64 a0_7) := (blk_cell BK154.out 7).trans rfl; have hcz99_8 : w98.cell? ⟨gb154, 8, none⟩ = some (.string a0_8) := (blk_cell BK154.out 8).trans rfl; have hcz99_9 : w98.cell? ⟨gb154, 9, none⟩ = some (.slice A0_9 l0_9.length c0_9) := (blk_cell BK154.out 9).trans rfl; have hfz99_0 := blk_frozen BK154.out 0; have hfz99_1 := blk_frozen BK154.out 1; have hfz99_2 := blk_frozen BK154.out 2; have hfz99_3 := blk_frozen BK154.out 3; have hfz99_4 := blk_frozen BK154.out 4; have hfz99_5 := blk_frozen BK154.out 5; have hfz99_6 := blk_frozen BK154.out 6; have hfz99_7 := blk_frozen BK154.out 7; have hfz99_8 := blk_frozen BK154.out 8; have hfz99_9 := blk_frozen BK154.out 9; obtain ⟨Ao100, co100, eo100⟩ := Kd.N_slice HO157.out; subst eo100))
       (try simp only [Act.put, List.setIfInBounds_toArray, List.set_cons_zero, List.set_cons_succ])
       go_loopg [7, 94] k (fun kq v7 v94 w' => ∃ (x7_1 : List (S44)) (x94_1 : Int), v94 = .int .i64 x94_1 ∧ Aside0 (eval_Eval.l2 kq x7_1 t155 (t155.length : Int) x94_1 = some r) ∧ Aside0 (kq ≤ k) ∧ Aside0 (Kd.N k44 44 w' w.heap.size (fun k_ => ((P1_ k_ ∨ P2_ k_) ∨ w.heap.size ≤ k_) ∧ some k_ ≠ ((.slice Ao100 t155.length co100) : Value).ownBlock ∧ k_ ≠ gb154) v7 x7_1) ∧ Aside0 (Kd.N k44 44 w' w.heap.size (fun k_ => ((P1_ k_ ∨ P2_ k_) ∨ w.heap.size ≤ k_) ∧ some k_ ≠ (v7 : Value).ownBlock ∧ k_ ≠ gb154) (.slice Ao100 t155.length co100) t155) ∧ Aside0 (w'.heap[gb154]? = some (.cells #[.int .i64 a0_0, .string a0_1, .string a0_2, (.slice A0_3 l0_3.length c0_3), (.slice A0_4 l0_4.length c0_4), .int .i64 a0_5, .int .i64 a0_6, .int .i64 a0_7, .string a0_8, (.slice A0_9 l0_9.length c0_9)] 37 (0, 0))) ∧ Aside0 (Below w.heap.size w w'))
       case atStart => exact ⟨(([] : List (S44))), (0), (by first | rfl | (simp; done) | (simp [*]; done)), H', ⟨Nat.le_refl _⟩, ⟨by first | exact Kd.S_nil _ _ _ _ _ | exact Kd.N_nil _ _ _ _ _ | exact Kd.V_nil _ _ _ _ _ | exact Kd.Q_nil _ _ _ _ _ | exact Kd.R_nil _ _ _ _ _⟩, ⟨by (with_reducible repeat (first | apply Kd.N_alloc | apply Kd.N_drewN | apply Kd.N_drew)); exact Kd.N_mono HO157.out (fun _ hk => ⟨hk.1.1, ⟨(by simp [Value.ownBlock]), hk.1.2⟩⟩)⟩, ⟨qb_ BK154.out⟩, ⟨by repeat (first | (with_reducible first | exact HB.out | apply below_alloc | apply pw_below_drewN | apply below_drew1 | refine below_set ?_ GE154.out) | exact HB.out)⟩⟩
       case round =>
        clear H'
        try clear c1
        try clear p1
        try clear q1
        try clear hx1
        try clear qi1
        try clear c2
        try clear p2
        try clear c3
        try clear c4
        try clear c5
        try clear c6
        try clear p6
        try clear c7
        try clear c8
        try clear c9
        try clear c13
        try clear c16
        try clear c17
        try clear p17
        try clear q17
        try clear hx17
        try clear c18
        try clear p18
        try clear q18
        try clear hx18
        try clear qi18
        try clear c29
        try clear c29b0
        try clear c29b1
        try clear c35
        try clear c35b0
        try clear c36
        try clear c37
        try clear c39
        try clear c39b0
        try clear c39b1
        try clear c40
        try clear c42
        try clear c43
        try clear c45
        try clear c55
        try clear c63
        try clear p64
        try clear c72
        try clear c72b0
        try clear c72b1
        try clear c78
        try clear c78b0
        try clear c79
        try clear c79b0
        try clear c80
        try clear c80b0
        try clear c82
        try clear c84
        try clear c94
        try clear c94b0
        try clear c94b1
        try clear c95
        try clear c95b0
        try clear c95b1
        try clear hcz46_0
        try clear hcz46_1
        try clear hcz47_0
        try clear hcz47_1
        try clear hcz47_2
        try clear hcz47_3
        try clear hcz47_4
        try clear hcz47_5
        try clear hcz47_6
        try clear hcz47_7
        try clear hcz47_8
        try clear hcz47_9
        try clear hcz52_0
        try clear hcz52_1
        try clear hcz56_0
        try clear hcz56_1
        try clear hcz57_0
        try clear hcz57_1
        try clear hcz57_2
        try clear hcz57_3
        try clear hcz57_4
        try clear hcz57_5
        try clear hcz57_6
        try clear hcz57_7
        try clear hcz57_8
        try clear hcz57_9
        try clear hcz64_0
        try clear hcz64_1
        try clear hcz65_0
        try clear hcz65_1
        try clear hcz65_2
        try clear hcz65_3
        try clear hcz65_4
        try clear hcz65_5
        try clear hcz65_6
        try clear hcz65_7
        try clear hcz65_8
        try clear hcz65_9
        try clear hcz76_0
        try clear hcz76_1
        try clear hcz76_2
        try clear hcz76_3
        try clear hcz76_4
        try clear hcz76_5
        try clear hcz76_6
        try clear hcz76_7
        try clear hcz76_8
        try clear hcz76_9
        try clear hcz85_0
        try clear hcz85_1
        try clear hcz99_0
        try clear hcz99_1
        try clear hcz99_2
        try clear hcz99_3
        try clear hcz99_4
        try clear hcz99_5
        try clear hcz99_6
        try clear hcz99_7
        try clear hcz99_8
        try clear hcz99_9
        try clear hfz46_0
        try clear hfz46_1
        try clear hfz47_0
        try clear hfz47_1
        try clear hfz47_2
        try clear hfz47_3
        try clear hfz47_4
        try clear hfz47_5
        try clear hfz47_6
        try clear hfz47_7
        try clear hfz47_8
        try clear hfz47_9
        try clear hfz52_0
        try clear hfz52_1
        try clear hfz56_0
        try clear hfz56_1
        try clear hfz57_0
        try clear hfz57_1
        try clear hfz57_2
        try clear hfz57_3
        try clear hfz57_4
        try clear hfz57_5
        try clear hfz57_6
        try clear hfz57_7
        try clear hfz57_8
        try clear hfz57_9
        try clear hfz64_0
        try clear hfz64_1
        try clear hfz65_0
        try clear hfz65_1
        try clear hfz65_2
        try clear hfz65_3
        try clear hfz65_4
        try clear hfz65_5
        try clear hfz65_6
        try clear hfz65_7
        try clear hfz65_8
        try clear hfz65_9
        try clear hfz76_0
        try clear hfz76_1
        try clear hfz76_2
        try clear hfz76_3
        try clear hfz76_4
        try clear hfz76_5
        try clear hfz76_6
        try clear hfz76_7
        try clear hfz76_8
        try clear hfz76_9
        try clear hfz85_0
        try clear hfz85_1
        try clear hfz99_0
        try clear hfz99_1
        try clear hfz99_2
        try clear hfz99_3
        try clear hfz99_4
        try clear hfz99_5
        try clear hfz99_6
        try clear hfz99_7
        try clear hfz99_8
        try clear hfz99_9
        try clear hx176_0
        try clear hx176_1
        try clear hx181_0
        try clear hx181_1
        try clear hx181_2
        try clear hx186_0
        try clear hx186_1
        try clear p1
        try clear p17
        try clear p176
        try clear p18
        try clear p181
        try clear p186
        try clear p2
        try clear p6
        try clear p64
        try clear q1
        try clear q17
        try clear q176
        try clear q18
        try clear q181
        try clear q186
        obtain ⟨x7_1, x94_1, rfl, HA, HK1, HO_7, HO_92, BK154, HB⟩ := hrel
        cases gk with
        | zero => exact absurd HA.out (by simp [eval_Eval.l2])
        | succ k1 =>
         have H := HA.out
         clear HA
         simp only [eval_Eval.l2] at H
         by_cases c101 : x94_1 < (t155.length : Int)
         ·rw [if_pos c101] at H
          have c101b0 : decide (x94_1 < (t155.length : Int)) = true := decide_eq_true c101
          clear c101
          by_cases c102 : 0 ≤ x94_1
          ·rw [if_pos c102] at H
           have c102b0 : decide (0 ≤ x94_1) = true := decide_eq_true c102
           clear c102
           by_cases c103 : x94_1 < (t155.length : Int)
           ·rw [if_pos c103] at H
            have c103b0 : decide (x94_1 < (t155.length : Int)) = true := decide_eq_true c103
            clear c103
            by_cases c104 : ((rd_T44 t155 x94_1).f1) > 0
            ·rw [if_pos c104] at H
             have c104b0 : decide (0 < ((rd_T44 t155 x94_1).f1)) = true := decide_eq_true c104
             clear c104
             by_cases c105 : x7_1.length < 4398046511104
             ·rw [if_pos c105] at H
              have LMc105 := Aside0.mk c105
              clear c105
              obtain ⟨y199, hy199⟩ : ∃ y_ : List (S44), y_ = (x7_1 ++ [(⟨(rd_T44 t155 x94_1).f0, 1⟩ : S44)]) := ⟨_, rfl⟩
              replace H : (eval_Eval.l2 k1 y199 t155 (t155.length : Int) (wrap64 (x94_1 + 1))) = some r := by first | (rw [hy199]; with_reducible exact H) | (have H2_ := (Option.bind_some _ _).symm.trans H; rw [hy199]; with_reducible exact H2_) | (have H2_ := (Option.bind_some _ _).symm.trans H; with_reducible exact H2_) | with_reducible exact H | (rw [hy199]; exact H) | exact H
              have Ny199 := Aside0.mk hy199
              clear hy199
              have H' := Aside0.mk H
              clear H
              have p197 : 0 ≤ (x94_1 : Int) := of_decide_eq_true (by first | (with_reducible assumption) | assumption)
              have q197 : x94_1 < (t155.length : Int) := of_decide_eq_true (by first | (with_reducible assumption) | assumption)
              obtain ⟨ad197, A197_0, c197_0, e197, hx197_0, hx197_1, hl197_0, hi197_0⟩ := at_T44 (Kd.N_reads' HO_92.out).2.2 x94_1 p197 q197
              cases e197
              obtain ⟨ce197, hce197, hMe197, hcc197⟩ := Kd.N_get HO_92.out z44 x94_1 p197 (by first | exact q197 | exact of_decide_eq_true (by first | (with_reducible assumption) | assumption) | (have e_ := (Kd.N_reads' HO_92.out).1; omega))
              obtain ⟨ua197_0, uc197_0, rfl, ul197_0, ge197_0⟩ := k44_openF hMe197
              have hv197_0 := hcc197 0 _ rfl
              rw [Nat.add_zero] at hv197_0
              replace hv197_0 := Option.some.inj (hv197_0.symm.trans hx197_0)
              injection hv197_0 with hva_ hvn_ hvc_
              rw [hva_] at ge197_0
              rw [hvc_] at ul197_0
              have HL197_0 := Aside0.mk (show Kd.V k23 23 _ w.heap.size _ _ ((rd_T44 t155 x94_1).f0) from Kd.V_mk ul197_0 ge197_0)
              clear hva_ hvn_ hvc_ ge197_0 ul197_0
              clear hcc197 hce197
              have HR197_0 := Aside0.mk hi197_0
              have HC197_0 := Aside0.mk hl197_0
              clear hi197_0 hl197_0
              replace p197 := eq_true p197
              replace q197 := eq_true q197
              go_wp2_with (first | ((with_reducible refine gate_dst (N := 14) rfl ?_); refine box_event ?hg (N := 14) ?hd (cs := #[.slice none 0 0, .int .i64 0]) (t := 44) ?hr ?_; (case hd => rfl); (case hg => rfl); (case hr => first | (go_simp; done) | (go_simp; rfl)); intro gb198 hg w106 hbox hb; have n0_ := Aside0.mk (Kd.N_below (Kd.N_elderB (qn_ HO_7.out) gb198 (Nat.le_of_eq hg.symm)) hb); have n1_ := Aside0.mk (Kd.N_below (Kd.N_elderB (qn_ HO_92.out) gb198 (Nat.le_of_eq hg.symm)) hb); have n2_ := Aside0.mk (Kd.V_below (Kd.V_elderB (qv_ HL197_0.out) gb198 (Nat.le_of_eq hg.symm)) hb); have n3_ := Aside0.mk (blk_below (g := gb154) (o := .cells #[.int .i64 a0_0, .string a0_1, .string a0_2, .slice A0_3 l0_3.length c0_3, .slice A0_4 l0_4.length c0_4, .int .i64 a0_5, .int .i64 a0_6, .int .i64 a0_7, .string a0_8, .slice A0_9 l0_9.length c0_9] 37 (0, 0)) (qb_ BK154.out) hb); have n4_ := Aside0.mk (Kd.C_below (by repeat (first | (with_reducible exact HR197_0.out) | (with_reducible refine Kd.C_alloc ?_ _) | (with_reducible refine Kd.C_drewN ?_ _) | (with_reducible refine Kd.C_drew ?_) | exact HR197_0.out)) hb); have n5_ := Aside0.mk (below_step (by repeat (first | (with_reducible first | exact HB.out | apply below_alloc | apply pw_below_drewN | apply below_drew1 | refine below_set ?_ GE154.out) | exact HB.out)) hb); have n6_ := Aside0.mk (hbox); have n7_ := Aside0.mk ((by rw [hg]; exact (below_size (by repeat (first | (with_reducible first | exact HB.out | apply below_alloc | apply pw_below_drewN | apply below_drew1 | refine below_set ?_ GE154.out) | exact HB.out))) : w.heap.size ≤ gb198)); have n8_ := Aside0.mk ((by rw [hg]; exact (below_size (by repeat (first | (with_reducible first | exact HB.out | apply below_alloc | apply pw_below_drewN | apply below_drew1 | refine below_set ?_ GE154.out) | exact HB.out))) : w.heap.size ≤ gb198)); have n9_ := Aside0.mk ((by rw [hg]; exact Nat.ne_of_lt (blk_lt (g := gb154) (o := .cells #[.int .i64 a0_0, .string a0_1, .string a0_2, .slice A0_3 l0_3.length c0_3, .slice A0_4 l0_4.length c0_4, .int .i64 a0_5, .int .i64 a0_6, .int .i64 a0_7, .string a0_8, .slice A0_9 l0_9.length c0_9] 37 (0, 0)) (qb_ BK154.out)) : gb154 ≠ gb198)); have n10_ := Aside0.mk ((by rw [hg]; exact Nat.ne_of_gt (blk_lt (g := gb154) (o := .cells #[.int .i64 a0_0, .string a0_1, .string a0_2, .slice A0_3 l0_3.length c0_3, .slice A0_4 l0_4.length c0_4, .int .i64 a0_5, .int .i64 a0_6, .int .i64 a0_7, .string a0_8, .slice A0_9 l0_9.length c0_9] 37 (0, 0)) (qb_ BK154.out)) : gb198 ≠ gb154)); clear HO_7; clear HO_92; clear HL197_0; clear BK154; clear HR197_0; clear HB; have HO_7 := n0_; have HO_92 := n1_; have HL197_0 := n2_; have BK154 := n3_; have HR197_0 := n4_; have HB := n5_; have BK198 := n6_; have GW198 := n7_; have GE198 := n8_; have NB154_198 := n9_; have NB198_154 := n10_; clear n0_ n1_ n2_ n3_ n4_ n5_ n6_ n7_ n8_ n9_ n10_; clear hb hbox hg; have hnb107 := NB198_154.out; have hnc107 := NB154_198.out; have hcz108_0 : w106.cell? ⟨gb198, 0, none⟩ = some (.slice none 0 0) := (blk_cell BK198.out 0).trans rfl; have hcz108_1 : w106.cell? ⟨gb198, 1, none⟩ = some (.int .i64 0) := (blk_cell BK198.out 1).trans rfl; have hfz108_0 := blk_frozen BK198.out 0; have hfz108_1 := blk_frozen BK198.out 1) | ((with_reducible refine gate_store (t := 44) (p := 14) rfl ?_); refine store_event (t := 44) (p := 14) (v := ?vo_w109) (w1 := ((w106.setCell ⟨gb198, 0, none⟩ (.slice A197_0 ((rd_T44 t155 x94_1).f0).length c197_0)).setCell ⟨gb198, 1, none⟩ (.int .i64 ((rd_T44 t155 x94_1).f1)))) ?hg ?ho ?hn ?hr ?_; (case ho => rfl); (case hg => rfl); (case hn => rfl); (case hr => first | (go_simp; done) | (go_simp; rfl)); intro w109 hw; have n0_ : Aside0 (Kd.N k44 44 w109 w.heap.size (fun k_ => ((P1_ k_ ∨ P2_ k_) ∨ w.heap.size ≤ k_) ∧ some k_ ≠ (.slice (some ad197) t155.length co100 : Value).ownBlock ∧ k_ ≠ gb154 ∧ k_ ≠ gb198) u7 x7_1) := ⟨(by rw [hw]; exact (by (with_reducible repeat (first | apply Kd.N_alloc | apply Kd.N_drewN | apply Kd.N_drew)); exact Kd.N_mono (Kd.N_far (p := ⟨gb198, 1, none⟩) (Kd.N_far (p := ⟨gb198, 0, none⟩) (Kd.N_mono HO_7.out (fun k_ hk => (⟨hk, hk.2⟩ : _ ∧ k_ ≠ gb198))) (fun _ hk => hk.2) (.slice A197_0 ((rd_T44 t155 x94_1).f0).length c197_0)) (fun _ hk => hk.2) (.int .i64 ((rd_T44 t155 x94_1).f1))) (fun _ hk => ⟨hk.1.1.1, ⟨hk.1.1.2.1, ⟨hk.1.1.2.2, hk.1.2⟩⟩⟩)))⟩; have n1_ : Aside0 (Kd.N k44 44 w109 w.heap.size (fun k_ => ((P1_ k_ ∨ P2_ k_) ∨ w.heap.size ≤ k_) ∧ some k_ ≠ (u7 : Value).ownBlock ∧ k_ ≠ gb154 ∧ k_ ≠ gb198) (.slice (some ad197) t155.length co100) t155) := ⟨(by rw [hw]; exact (by (with_reducible repeat (first | apply Kd.N_alloc | apply Kd.N_drewN | apply Kd.N_drew)); exact Kd.N_mono (Kd.N_far (p := ⟨gb198, 1, none⟩) (Kd.N_far (p := ⟨gb198, 0, none⟩) (Kd.N_mono HO_92.out (fun k_ hk => (⟨hk, hk.2⟩ : _ ∧ k_ ≠ gb198))) (fun _ hk => hk.2) (.slice A197_0 ((rd_T44 t155 x94_1).f0).length c197_0)) (fun _ hk => hk.2) (.int .i64 ((rd_T44 t155 x94_1).f1))) (fun _ hk => ⟨hk.1.1.1, ⟨hk.1.1.2.1, ⟨hk.1.1.2.2, hk.1.2⟩⟩⟩)))⟩; have n2_ : Aside0 (Kd.V k23 23 w109 w.heap.size (fun k_ => ((P1_ k_ ∨ P2_ k_) ∨ w.heap.size ≤ k_) ∧ some k_ ≠ (u7 : Value).ownBlock ∧ some k_ ≠ (.slice (some ad197) t155.length co100 : Value).ownBlock ∧ k_ ≠ gb154 ∧ k_ ≠ gb198) (.slice A197_0 ((rd_T44 t155 x94_1).f0).length c197_0) ((rd_T44 t155 x94_1).f0)) := ⟨(by rw [hw]; exact (by (with_reducible repeat (first | apply Kd.V_alloc | apply Kd.V_drewN | apply Kd.V_drew)); exact Kd.V_mono (Kd.V_far (p := ⟨gb198, 1, none⟩) (Kd.V_far (p := ⟨gb198, 0, none⟩) (Kd.V_mono HL197_0.out (fun k_ hk => (⟨hk, hk.2⟩ : _ ∧ k_ ≠ gb198))) (fun _ hk => hk.2) (.slice A197_0 ((rd_T44 t155 x94_1).f0).length c197_0)) (fun _ hk => hk.2) (.int .i64 ((rd_T44 t155 x94_1).f1))) (fun _ hk => ⟨hk.1.1.1.1, ⟨hk.1.1.1.2.1, ⟨hk.1.1.2, ⟨hk.1.1.1.2.2, hk.1.2⟩⟩⟩⟩)))⟩; have n3_ : Aside0 (w109.heap[gb154]? = some (.cells #[.int .i64 a0_0, .string a0_1, .string a0_2, .slice A0_3 l0_3.length c0_3, .slice A0_4 l0_4.length c0_4, .int .i64 a0_5, .int .i64 a0_6, .int .i64 a0_7, .string a0_8, .slice A0_9 l0_9.length c0_9] 37 (0, 0))) := ⟨(by rw [hw]; exact (by (with_reducible repeat (first | refine blk_drewN ?_ _ | refine blk_drew ?_ | refine blk_alloc ?_ _)); refine blk_far ?_ NB154_198.out _; (with_reducible repeat (first | refine blk_drewN ?_ _ | refine blk_drew ?_ | refine blk_alloc ?_ _)); refine blk_far ?_ NB154_198.out _; (with_reducible repeat (first | refine blk_drewN ?_ _ | refine blk_drew ?_ | refine blk_alloc ?_ _)); exact BK154.out))⟩; have n4_ : Aside0 (w109.heap[gb198]? = some (.cells #[.slice A197_0 ((rd_T44 t155 x94_1).f0).length c197_0, .int .i64 ((rd_T44 t155 x94_1).f1)] 44 (0, 0))) := ⟨(by rw [hw]; exact (by (with_reducible repeat (first | refine blk_drewN ?_ _ | refine blk_drew ?_ | refine blk_alloc ?_ _)); refine blk_put (cs := #[.slice A197_0 ((rd_T44 t155 x94_1).f0).length c197_0, .int .i64 0]) ?_ 1 _ rfl; (with_reducible repeat (first | refine blk_drewN ?_ _ | refine blk_drew ?_ | refine blk_alloc ?_ _)); refine blk_put (cs := #[.slice none 0 0, .int .i64 0]) ?_ 0 _ rfl; (with_reducible repeat (first | refine blk_drewN ?_ _ | refine blk_drew ?_ | refine blk_alloc ?_ _)); exact BK198.out))⟩; have n5_ : Aside0 (Below w.heap.size w w109) := ⟨(by rw [hw]; exact (by repeat (first | (with_reducible first | exact HB.out | apply below_alloc | apply pw_below_drewN | apply below_drew1 | refine below_set ?_ GE154.out | refine below_set ?_ GE198.out) | exact HB.out)))⟩; clear hw; clear HO_7; clear HO_92; clear HL197_0; clear BK154; clear BK198; clear HB; have HO_7 := n0_; have HO_92 := n1_; have HL197_0 := n2_; have BK154 := n3_; have BK198 := n4_; have HB := n5_; clear n0_ n1_ n2_ n3_ n4_ n5_; have hcz110_0 : w109.cell? ⟨gb198, 0, none⟩ = some (.slice A197_0 ((rd_T44 t155 x94_1).f0).length c197_0) := (blk_cell BK198.out 0).trans rfl; have hcz110_1 : w109.cell? ⟨gb198, 1, none⟩ = some (.int .i64 ((rd_T44 t155 x94_1).f1)) := (blk_cell BK198.out 1).trans rfl; have hfz110_0 := blk_frozen BK198.out 0; have hfz110_1 := blk_frozen BK198.out 1) | ((with_reducible refine gate_builtin (b := .append) (xs := #[.tmp 101, .tmp 105]) rfl ?_); at_builtin; refine Kd.N_append k44 (w0 := w) w.heap.size rfl (.tmp 101) (.tmp 105) 31 44 (.agg #[(.slice none 0 0), (.int .i64 0)]) 32 rfl Try.underlying31 info44 rfl (by decide) (by omega) u7 x7_1 (⟨(rd_T44 t155 x94_1).f0, 1⟩ : S44) [.slice A197_0 ((rd_T44 t155 x94_1).f0).length c197_0, .int .i64 1] (fun k_ => ((P1_ k_ ∨ P2_ k_) ∨ w.heap.size ≤ k_) ∧ some k_ ≠ (.slice (some ad197) t155.length co100 : Value).ownBlock ∧ k_ ≠ gb154 ∧ k_ ≠ gb198) (fun k_ => ((fun k_ => ((P1_ k_ ∨ P2_ k_) ∨ w.heap.size ≤ k_) ∧ some k_ ≠ (.slice (some ad197) t155.length co100 : Value).ownBlock ∧ k_ ≠ gb154 ∧ k_ ≠ gb198)) k_ ∧ some k_ ≠ (u7 : Value).ownBlock) rfl rfl ?aP (fun _ hk => hk) ?aF ?aO ?aB ?aS ?aL ?_; (case aP => exact (k44_mkF _ _ (⟨(rd_T44 t155 x94_1).f0, 1⟩ : S44) (Kd.V_reads' (Kd.V_mono (ok' := (fun k_ => ((fun k_ => ((P1_ k_ ∨ P2_ k_) ∨ w.heap.size ≤ k_) ∧ some k_ ≠ (.slice (some ad197) t155.length co100 : Value).ownBlock ∧ k_ ≠ gb154 ∧ k_ ≠ gb198)) k_ ∧ some k_ ≠ (u7 : Value).ownBlock)) (HL197_0.out) (fun k_ hk => ⟨⟨hk.1, ⟨hk.2.2.1, ⟨hk.2.2.2.1, hk.2.2.2.2⟩⟩⟩, hk.2.1⟩))).2.1 (Kd.V_F (Kd.V_mono (ok' := (fun k_ => ((fun k_ => ((P1_ k_ ∨ P2_ k_) ∨ w.heap.size ≤ k_) ∧ some k_ ≠ (.slice (some ad197) t155.length co100 : Value).ownBlock ∧ k_ ≠ gb154 ∧ k_ ≠ gb198)) k_ ∧ some k_ ≠ (u7 : Value).ownBlock)) (HL197_0.out) (fun k_ hk => ⟨⟨hk.1, ⟨hk.2.2.1, ⟨hk.2.2.2.1, hk.2.2.2.2⟩⟩⟩, hk.2.1⟩))))); (case aB => exact (by repeat (first | (with_reducible first | exact HB.out | apply below_alloc | apply pw_below_drewN | apply below_drew1 | refine below_set ?_ GE154.out | refine below_set ?_ GE198.out) | exact HB.out))); (case aF => exact (fun k_ hk => ⟨(.inr (Nat.le_trans (below_size (by repeat (first | (with_reducible first | exact HB.out | apply below_alloc | apply pw_below_drewN | apply below_drew1 | refine below_set ?_ GE154.out | refine below_set ?_ GE198.out) | exact HB.out))) hk)), Kd.fresh' (Kd.N_lt (qn_ HO_92.out)) k_ hk, Kd.freshB (g := gb154) (o := .cells #[.int .i64 a0_0, .string a0_1, .string a0_2, .slice A0_3 l0_3.length c0_3, .slice A0_4 l0_4.length c0_4, .int .i64 a0_5, .int .i64 a0_6, .int .i64 a0_7, .string a0_8, .slice A0_9 l0_9.length c0_9] 37 (0, 0)) (qb_ BK154.out) k_ hk, Kd.freshB (g := gb198) (o := .cells #[.slice A197_0 ((rd_T44 t155 x94_1).f0).length c197_0, .int .i64 ((rd_T44 t155 x94_1).f1)] 44 (0, 0)) (qb_ BK198.out) k_ hk⟩)); (case aO => exact (qn_ HO_7.out)); (case aS => exact (below_size (by repeat (first | (with_reducible first | exact HB.out | apply below_alloc | apply pw_below_drewN | apply below_drew1 | refine below_set ?_ GE154.out | refine below_set ?_ GE198.out) | exact HB.out)))); (case aL => have := LMc105.out; omega); intro v200 w111 ho hb hg hat; rw [← Ny199.out] at ho; have n0_ := Aside0.mk (Kd.N_afterv (ok := (fun k_ => ((P1_ k_ ∨ P2_ k_) ∨ w.heap.size ≤ k_) ∧ k_ ≠ gb154 ∧ k_ ≠ gb198)) (by (with_reducible repeat (first | apply Kd.N_alloc | apply Kd.N_drewN | apply Kd.N_drew)); exact Kd.N_mono HO_92.out (fun _ hk => ⟨⟨hk.1, ⟨hk.2.2.1, hk.2.2.2⟩⟩, hk.2.1⟩)) hg hat); have n1_ := Aside0.mk (blk_grown (g := gb154) (o := .cells #[.int .i64 a0_0, .string a0_1, .string a0_2, .slice A0_3 l0_3.length c0_3, .slice A0_4 l0_4.length c0_4, .int .i64 a0_5, .int .i64 a0_6, .int .i64 a0_7, .string a0_8, .slice A0_9 l0_9.length c0_9] 37 (0, 0)) (qb_ BK154.out) hg (Kd.N_ne HO_7.out BK154.out (by decide))); have n2_ := Aside0.mk (Kd.V_afterv (ok := (fun k_ => ((P1_ k_ ∨ P2_ k_) ∨ w.heap.size ≤ k_) ∧ some k_ ≠ (.slice (some ad197) t155.length co100 : Value).ownBlock ∧ k_ ≠ gb154 ∧ k_ ≠ gb198)) (by (with_reducible repeat (first | apply Kd.V_alloc | apply Kd.V_drewN | apply Kd.V_drew)); exact Kd.V_mono HL197_0.out (fun _ hk => ⟨⟨hk.1, ⟨hk.2.2.1, ⟨hk.2.2.2.1, hk.2.2.2.2⟩⟩⟩, hk.2.1⟩)) hg hat); have n3_ := Aside0.mk (blk_grown (g := gb198) (o := .cells #[.slice A197_0 ((rd_T44 t155 x94_1).f0).length c197_0, .int .i64 ((rd_T44 t155 x94_1).f1)] 44 (0, 0)) (qb_ BK198.out) hg (Kd.N_away HO_7.out (fun _ hk => hk.2.2.2))); have n4_ := Aside0.mk (hb); have n5_ := Aside0.mk (ho); clear HO_92; clear BK154; clear HL197_0; clear BK198; clear HB; clear HO_7; have HO_92 := n0_; have BK154 := n1_; have HL197_0 := n2_; have BK198 := n3_; have HB := n4_; have HO201 := n5_; clear n0_ n1_ n2_ n3_ n4_ n5_; clear ho hb hg hat))
              go_roundg k1
              case measure => have := HK1.out; omega
              case rel => exact ⟨(y199), (wrap64 (x94_1 + 1)), (by first | rfl | (simp; done) | (simp [*]; done)), H', ⟨by have := HK1.out; omega⟩, ⟨by (with_reducible repeat (first | apply Kd.N_alloc | apply Kd.N_drewN | apply Kd.N_drew)); exact Kd.N_mono HO201.out (fun _ hk => ⟨hk.1, ⟨hk.2.1, hk.2.2.1⟩⟩)⟩, ⟨by (with_reducible repeat (first | apply Kd.N_alloc | apply Kd.N_drewN | apply Kd.N_drew)); exact Kd.N_mono HO_92.out (fun _ hk => ⟨hk.1.1, ⟨hk.2, hk.1.2.1⟩⟩)⟩, ⟨qb_ BK154.out⟩, ⟨by repeat (first | (with_reducible first | exact HB.out | apply below_alloc | apply pw_below_drewN | apply below_drew1 | refine below_set ?_ GE154.out | refine below_set ?_ GE198.out) | exact HB.out)⟩⟩
             ·rw [if_neg c105] at H
              exact absurd H (by simp)
            ·rw [if_neg c104] at H
             have c104b0 : decide (0 < ((rd_T44 t155 x94_1).f1)) = false := decide_eq_false c104
             clear c104
             have H' := Aside0.mk H
             clear H
             have p197 : 0 ≤ (x94_1 : Int) := of_decide_eq_true (by first | (with_reducible assumption) | assumption)
             have q197 : x94_1 < (t155.length : Int) := of_decide_eq_true (by first | (with_reducible assumption) | assumption)
             obtain ⟨ad197, A197_0, c197_0, e197, hx197_0, hx197_1, hl197_0, hi197_0⟩ := at_T44 (Kd.N_reads' HO_92.out).2.2 x94_1 p197 q197
             cases e197
             obtain ⟨ce197, hce197, hMe197, hcc197⟩ := Kd.N_get HO_92.out z44 x94_1 p197 (by first | exact q197 | exact of_decide_eq_true (by first | (with_reducible assumption) | assumption) | (have e_ := (Kd.N_reads' HO_92.out).1; omega))
             obtain ⟨ua197_0, uc197_0, rfl, ul197_0, ge197_0⟩ := k44_openF hMe197
             have hv197_0 := hcc197 0 _ rfl
             rw [Nat.add_zero] at hv197_0
             replace hv197_0 := Option.some.inj (hv197_0.symm.trans hx197_0)
             injection hv197_0 with hva_ hvn_ hvc_
             rw [hva_] at ge197_0
             rw [hvc_] at ul197_0
             have HL197_0 := Aside0.mk (show Kd.V k23 23 _ w.heap.size _ _ ((rd_T44 t155 x94_1).f0) from Kd.V_mk ul197_0 ge197_0)
             clear hva_ hvn_ hvc_ ge197_0 ul197_0
             clear hcc197 hce197
             have HR197_0 := Aside0.mk hi197_0
             have HC197_0 := Aside0.mk hl197_0
             clear hi197_0 hl197_0
             replace p197 := eq_true p197
             replace q197 := eq_true q197
             go_wp2_with (first | ((with_reducible refine gate_dst (N := 14) rfl ?_); refine box_event ?hg (N := 14) ?hd (cs := #[.slice none 0 0, .int .i64 0]) (t := 44) ?hr ?_; (case hd => rfl); (case hg => rfl); (case hr => first | (go_simp; done) | (go_simp; rfl)); intro gb198 hg w112 hbox hb; have n0_ := Aside0.mk (Kd.N_below (Kd.N_elderB (qn_ HO_7.out) gb198 (Nat.le_of_eq hg.symm)) hb); have n1_ := Aside0.mk (Kd.N_below (Kd.N_elderB (qn_ HO_92.out) gb198 (Nat.le_of_eq hg.symm)) hb); have n2_ := Aside0.mk (Kd.V_below (Kd.V_elderB (qv_ HL197_0.out) gb198 (Nat.le_of_eq hg.symm)) hb); have n3_ := Aside0.mk (blk_below (g := gb154) (o := .cells #[.int .i64 a0_0, .string a0_1, .string a0_2, .slice A0_3 l0_3.length c0_3, .slice A0_4 l0_4.length c0_4, .int .i64 a0_5, .int .i64 a0_6, .int .i64 a0_7, .string a0_8, .slice A0_9 l0_9.length c0_9] 37 (0, 0)) (qb_ BK154.out) hb); have n4_ := Aside0.mk (Kd.C_below (by repeat (first | (with_reducible exact HR197_0.out) | (with_reducible refine Kd.C_alloc ?_ _) | (with_reducible refine Kd.C_drewN ?_ _) | (with_reducible refine Kd.C_drew ?_) | exact HR197_0.out)) hb); have n5_ := Aside0.mk (below_step (by repeat (first | (with_reducible first | exact HB.out | apply below_alloc | apply pw_below_drewN | apply below_drew1 | refine below_set ?_ GE154.out) | exact HB.out)) hb); have n6_ := Aside0.mk (hbox); have n7_ := Aside0.mk ((by rw [hg]; exact (below_size (by repeat (first | (with_reducible first | exact HB.out | apply below_alloc | apply pw_below_drewN | apply below_drew1 | refine below_set ?_ GE154.out) | exact HB.out))) : w.heap.size ≤ gb198)); have n8_ := Aside0.mk ((by rw [hg]; exact (below_size (by repeat (first | (with_reducible first | exact HB.out | apply below_alloc | apply pw_below_drewN | apply below_drew1 | refine below_set ?_ GE154.out) | exact HB.out))) : w.heap.size ≤ gb198)); have n9_ := Aside0.mk ((by rw [hg]; exact Nat.ne_of_lt (blk_lt (g := gb154) (o := .cells #[.int .i64 a0_0, .string a0_1, .string a0_2, .slice A0_3 l0_3.length c0_3, .slice A0_4 l0_4.length c0_4, .int .i64 a0_5, .int .i64 a0_6, .int .i64 a0_7, .string a0_8, .slice A0_9 l0_9.length c0_9] 37 (0, 0)) (qb_ BK154.out)) : gb154 ≠ gb198)); have n10_ := Aside0.mk ((by rw [hg]; exact Nat.ne_of_gt (blk_lt (g := gb154) (o := .cells #[.int .i64 a0_0, .string a0_1, .string a0_2, .slice A0_3 l0_3.length c0_3, .slice A0_4 l0_4.length c0_4, .int .i64 a0_5, .int .i64 a0_6, .int .i64 a0_7, .string a0_8, .slice A0_9 l0_9.length c0_9] 37 (0, 0)) (qb_ BK154.out)) : gb198 ≠ gb154)); clear HO_7; clear HO_92; clear HL197_0; clear BK154; clear HR197_0; clear HB; have HO_7 := n0_; have HO_92 := n1_; have HL197_0 := n2_; have BK154 := n3_; have HR197_0 := n4_; have HB := n5_; have BK198 := n6_; have GW198 := n7_; have GE198 := n8_; have NB154_198 := n9_; have NB198_154 := n10_; clear n0_ n1_ n2_ n3_ n4_ n5_ n6_ n7_ n8_ n9_ n10_; clear hb hbox hg; have hnb113 := NB198_154.out; have hnc113 := NB154_198.out; have hcz114_0 : w112.cell? ⟨gb198, 0, none⟩ = some (.slice none 0 0) := (blk_cell BK198.out 0).trans rfl; have hcz114_1 : w112.cell? ⟨gb198, 1, none⟩ = some (.int .i64 0) := (blk_cell BK198.out 1).trans rfl; have hfz114_0 := blk_frozen BK198.out 0; have hfz114_1 := blk_frozen BK198.out 1))
             go_roundg k1
             case measure => have := HK1.out; omega
             case rel => exact ⟨(x7_1), (wrap64 (x94_1 + 1)), (by first | rfl | (simp; done) | (simp [*]; done)), H', ⟨by have := HK1.out; omega⟩, ⟨by (with_reducible repeat (first | apply Kd.N_alloc | apply Kd.N_drewN | apply Kd.N_drew)); exact Kd.N_mono (Kd.N_far (p := ⟨gb198, 1, none⟩) (Kd.N_far (p := ⟨gb198, 0, none⟩) (Kd.N_mono HO_7.out (fun k_ hk => (⟨hk, hk.2⟩ : _ ∧ k_ ≠ gb198))) (fun _ hk => hk.2) (.slice A197_0 ((rd_T44 t155 x94_1).f0).length c197_0)) (fun _ hk => hk.2) (.int .i64 ((rd_T44 t155 x94_1).f1))) (fun _ hk => ⟨hk.1.1.1, ⟨hk.1.1.2.1, hk.1.1.2.2⟩⟩)⟩, ⟨by (with_reducible repeat (first | apply Kd.N_alloc | apply Kd.N_drewN | apply Kd.N_drew)); exact Kd.N_mono (Kd.N_far (p := ⟨gb198, 1, none⟩) (Kd.N_far (p := ⟨gb198, 0, none⟩) (Kd.N_mono HO_92.out (fun k_ hk => (⟨hk, hk.2⟩ : _ ∧ k_ ≠ gb198))) (fun _ hk => hk.2) (.slice A197_0 ((rd_T44 t155 x94_1).f0).length c197_0)) (fun _ hk => hk.2) (.int .i64 ((rd_T44 t155 x94_1).f1))) (fun _ hk => ⟨hk.1.1.1, ⟨hk.1.1.2.1, hk.1.1.2.2⟩⟩)⟩, ⟨by (with_reducible repeat (first | refine blk_drewN ?_ _ | refine blk_drew ?_ | refine blk_alloc ?_ _)); refine blk_far ?_ NB154_198.out _; (with_reducible repeat (first | refine blk_drewN ?_ _ | refine blk_drew ?_ | refine blk_alloc ?_ _)); refine blk_far ?_ NB154_198.out _; (with_reducible repeat (first | refine blk_drewN ?_ _ | refine blk_drew ?_ | refine blk_alloc ?_ _)); exact BK154.out⟩, ⟨by repeat (first | (with_reducible first | exact HB.out | apply below_alloc | apply pw_below_drewN | apply below_drew1 | refine below_set ?_ GE154.out | refine below_set ?_ GE198.out) | exact HB.out)⟩⟩
           ·rw [if_neg c103] at H
            exact absurd H (by simp)
          ·rw [if_neg c102] at H
           exact absurd H (by simp)
         ·rw [if_neg c101] at H
          have c101b0 : decide (x94_1 < (t155.length : Int)) = false := decide_eq_false c101
          clear c101
          replace H := Option.bind_eq_some_iff.mp H
          obtain ⟨t202, A1150, H⟩ := H
          replace H : (some t202) = some r := H
          have A115 := Aside0.mk A1150
          clear A1150
          obtain rfl := Option.some.inj H
          obtain ⟨Ao116, co116, eo116⟩ := Kd.N_slice HO_7.out
          subst eo116
          go_wp2_with (first | ((with_reducible refine gate_callee (f := 16) rfl ?_); refine goesL_ (some 131) rfl rfl Try.func16 (by kernel_rfl) rfl #[.slice Ao116 x7_1.length co116] rfl (by (try simp only [List.map_toArray, List.map_cons, List.map_nil]); first | done | rfl | (simp only [List.length_drop, List.length_take]; rfl)) ?_; (with_reducible refine (zset_Norm.calls (fun k_ => (((P1_ k_ ∨ P2_ k_) ∨ w.heap.size ≤ k_) ∧ (some k_ ≠ (.slice Ao100 t155.length co100 : Value).ownBlock ∧ k_ ≠ gb154))) _ _ x7_1 t202 _ ?side1 A115.out).mono ?_); (case side1 => exact Kd.N_V (HO_7.out)); rintro e w117 ⟨v203, rfl, ho0, hb⟩; refine ⟨_, rfl, ?_⟩; have n0_ := Aside0.mk (Kd.N_elder' (qn_ HO_7.out) (Kd.N_base ho0) hb); have n1_ := Aside0.mk (Kd.N_elder' (qn_ HO_92.out) (Kd.N_base ho0) hb); have n2_ := Aside0.mk (Kd.N_lower (Kd.N_mono (ok' := fun k_ => ((P1_ k_ ∨ P2_ k_) ∨ w.heap.size ≤ k_) ∧ some k_ ≠ (.slice Ao100 t155.length co100 : Value).ownBlock ∧ k_ ≠ gb154) ho0 (fun k_ hk_ => ⟨Or.elim hk_ (fun hs_ => hs_.1) (fun hn_ => (.inr (Nat.le_trans (below_size (by repeat (first | (with_reducible first | exact HB.out | apply below_alloc | apply pw_below_drewN | apply below_drew1 | refine below_set ?_ GE154.out) | exact HB.out))) hn_))), Or.elim hk_ (fun hs_ => hs_.2.1) (fun hn_ => (Kd.fresh' (Kd.N_lt (qn_ HO_92.out)) k_ hn_)), Or.elim hk_ (fun hs_ => hs_.2.2) (fun hn_ => (Kd.freshB (g := gb154) (o := .cells #[.int .i64 a0_0, .string a0_1, .string a0_2, .slice A0_3 l0_3.length c0_3, .slice A0_4 l0_4.length c0_4, .int .i64 a0_5, .int .i64 a0_6, .int .i64 a0_7, .string a0_8, .slice A0_9 l0_9.length c0_9] 37 (0, 0)) (qb_ BK154.out) k_ hn_))⟩)) (below_size (by repeat (first | (with_reducible first | exact HB.out | apply below_alloc | apply pw_below_drewN | apply below_drew1 | refine below_set ?_ GE154.out) | exact HB.out)))); have n3_ := Aside0.mk (blk_below (g := gb154) (o := .cells #[.int .i64 a0_0, .string a0_1, .string a0_2, .slice A0_3 l0_3.length c0_3, .slice A0_4 l0_4.length c0_4, .int .i64 a0_5, .int .i64 a0_6, .int .i64 a0_7, .string a0_8, .slice A0_9 l0_9.length c0_9] 37 (0, 0)) (qb_ BK154.out) hb); have n4_ := Aside0.mk (below_step (by repeat (first | (with_reducible first | exact HB.out | apply below_alloc | apply pw_below_drewN | apply below_drew1 | refine below_set ?_ GE154.out) | exact HB.out)) hb); clear HO_7; clear HO_92; clear BK154; clear HB; have HO_7 := n0_; have HO_92 := n1_; have HO204 := n2_; have BK154 := n3_; have HB := n4_; clear n0_ n1_ n2_ n3_ n4_; (try clear hb); (try clear hb2); (try clear hk); (try clear hi); (try clear ho0)))
          go_ret
          exact ⟨_, by first | rfl | (simp [errW_none, errW_some] <;> rfl) | (simp [*, errW_none, errW_some] <;> rfl), by (with_reducible repeat (first | apply Kd.N_alloc | apply Kd.N_drewN | apply Kd.N_drew)); exact Kd.N_mono HO204.out (fun _ hk => hk.1), by repeat (first | (with_reducible first | exact HB.out | apply below_alloc | apply pw_below_drewN | apply below_drew1 | refine below_set ?_ GE154.out) | exact HB.out)⟩
      ·rw [if_neg c95] at H
       have c95b0 : (a0_0 == 6) = false := beq_eq_false_iff_ne.mpr c95
       have c95b1 : (a0_0 != 6) = true := bne_iff_ne.mpr c95
       by_cases c118 : a0_0 = 7
       ·rw [if_pos c118] at H
        have c118b0 : (a0_0 == 7) = true := beq_iff_eq.mpr c118
        have c118b1 : (a0_0 != 7) = false := bne_eq_false_iff_eq.mpr c118
        clear c118
        exact absurd H (by simp)
       ·rw [if_neg c118] at H
        have c118b0 : (a0_0 == 7) = false := beq_eq_false_iff_ne.mpr c118
        have c118b1 : (a0_0 != 7) = true := bne_iff_ne.mpr c118
        replace H := Option.bind_eq_some_iff.mp H
        obtain ⟨t205, A1190, H⟩ := H
        replace H : (some t205) = some r := H
        have A119 := Aside0.mk A1190
        clear A1190
        obtain rfl := Option.some.inj H
        go_enter Try.func13, Try.ntmps13
        go_wp2_with (first | ((with_reducible refine gate_dst (N := 3) rfl ?_); refine box_event ?hg (N := 3) ?hd (cs := #[.int .i64 a0_0, .string a0_1, .string a0_2, .slice A0_3 l0_3.length c0_3, .slice A0_4 l0_4.length c0_4, .int .i64 a0_5, .int .i64 a0_6, .int .i64 a0_7, .string a0_8, .slice A0_9 l0_9.length c0_9]) (t := 37) ?hr ?_; (case hd => rfl); (case hg => rfl); (case hr => first | (go_simp; done) | (go_simp; rfl)); intro gb154 hg w120 hbox hb; have n0_ := Aside0.mk (Kd.V_below (Kd.V_elderB (qv_ HO1.out) gb154 (Nat.le_of_eq hg.symm)) hb); have n1_ := Aside0.mk (Kd.V_below (Kd.V_elderB (qv_ HO2.out) gb154 (Nat.le_of_eq hg.symm)) hb); have n2_ := Aside0.mk (below_step qh_ hb); have n3_ := Aside0.mk (hbox); have n4_ := Aside0.mk ((by rw [hg]; exact (below_size qh_) : w.heap.size ≤ gb154)); have n5_ := Aside0.mk ((by rw [hg]; exact (below_size qh_) : w.heap.size ≤ gb154)); clear HO1; clear HO2; clear HB; have HO1 := n0_; have HO2 := n1_; have HB := n2_; have BK154 := n3_; have GW154 := n4_; have GE154 := n5_; clear n0_ n1_ n2_ n3_ n4_ n5_; clear hb hbox hg) | ((with_reducible refine gate_callee (f := 16) rfl ?_); refine goesL_ (some 19) rfl rfl Try.func16 (by kernel_rfl) rfl #[.slice A1 l1.length c1] rfl (by (try simp only [List.map_toArray, List.map_cons, List.map_nil]); first | done | rfl | (simp only [List.length_drop, List.length_take]; rfl)) ?_; (with_reducible refine (zset_Norm.calls (fun k_ => (((P1_ k_ ∨ P2_ k_) ∨ w.heap.size ≤ k_) ∧ k_ ≠ gb154)) _ _ l1 t155 _ ?side1 A4.out).mono ?_); (case side1 => exact HO1.out); rintro e w121 ⟨v156, rfl, ho0, hb⟩; refine ⟨_, rfl, ?_⟩; have n0_ := Aside0.mk (Kd.V_elder' (qv_ HO1.out) (Kd.N_base ho0) hb); have n1_ := Aside0.mk (Kd.V_elder' (qv_ HO2.out) (Kd.N_base ho0) hb); have n2_ := Aside0.mk (Kd.N_lower (Kd.N_mono (ok' := fun k_ => ((P1_ k_ ∨ P2_ k_) ∨ w.heap.size ≤ k_) ∧ k_ ≠ gb154) ho0 (fun k_ hk_ => ⟨Or.elim hk_ (fun hs_ => hs_.1) (fun hn_ => (.inr (Nat.le_trans (below_size (by repeat (first | (with_reducible first | exact HB.out | apply below_alloc | apply pw_below_drewN | apply below_drew1 | refine below_set ?_ GE154.out) | exact HB.out))) hn_))), Or.elim hk_ (fun hs_ => hs_.2) (fun hn_ => (Kd.freshB (g := gb154) (o := .cells #[.int .i64 a0_0, .string a0_1, .string a0_2, .slice A0_3 l0_3.length c0_3, .slice A0_4 l0_4.length c0_4, .int .i64 a0_5, .int .i64 a0_6, .int .i64 a0_7, .string a0_8, .slice A0_9 l0_9.length c0_9] 37 (0, 0)) (qb_ BK154.out) k_ hn_))⟩)) (below_size (by repeat (first | (with_reducible first | exact HB.out | apply below_alloc | apply pw_below_drewN | apply below_drew1 | refine below_set ?_ GE154.out) | exact HB.out)))); have n3_ := Aside0.mk (blk_below (g := gb154) (o := .cells #[.int .i64 a0_0, .string a0_1, .string a0_2, .slice A0_3 l0_3.length c0_3, .slice A0_4 l0_4.length c0_4, .int .i64 a0_5, .int .i64 a0_6, .int .i64 a0_7, .string a0_8, .slice A0_9 l0_9.length c0_9] 37 (0, 0)) (qb_ BK154.out) hb); have n4_ := Aside0.mk (below_step (by repeat (first | (with_reducible first | exact HB.out | apply below_alloc | apply pw_below_drewN | apply below_drew1 | refine below_set ?_ GE154.out) | exact HB.out)) hb); clear HO1; clear HO2; clear BK154; clear HB; have HO1 := n0_; have HO2 := n1_; have HO157 := n2_; have BK154 := n3_; have HB := n4_; clear n0_ n1_ n2_ n3_ n4_; (try clear hb); (try clear hb2); (try clear hk); (try clear hi); (try clear ho0)) | ((with_reducible refine gate_callee (f := 16) rfl ?_); refine goesL_ (some 21) rfl rfl Try.func16 (by kernel_rfl) rfl #[.slice A2 l2.length c2] rfl (by (try simp only [List.map_toArray, List.map_cons, List.map_nil]); first | done | rfl | (simp only [List.length_drop, List.length_take]; rfl)) ?_; (with_reducible refine (zset_Norm.calls (fun k_ => ((((P1_ k_ ∨ P2_ k_) ∨ w.heap.size ≤ k_) ∧ k_ ≠ gb154) ∧ some k_ ≠ (v156 : Value).ownBlock)) _ _ l2 t158 _ ?side1 A5.out).mono ?_); (case side1 => exact HO2.out); rintro e w122 ⟨v159, rfl, ho0, hb⟩; refine ⟨_, rfl, ?_⟩; have n0_ := Aside0.mk (Kd.V_elder' (qv_ HO1.out) (Kd.N_base ho0) hb); have n1_ := Aside0.mk (Kd.V_elder' (qv_ HO2.out) (Kd.N_base ho0) hb); have n2_ := Aside0.mk (Kd.N_elder' (qn_ HO157.out) (Kd.N_base ho0) hb); have n3_ := Aside0.mk (Kd.N_lower (Kd.N_mono (ok' := fun k_ => ((P1_ k_ ∨ P2_ k_) ∨ w.heap.size ≤ k_) ∧ some k_ ≠ (v156 : Value).ownBlock ∧ k_ ≠ gb154) ho0 (fun k_ hk_ => ⟨Or.elim hk_ (fun hs_ => hs_.1.1) (fun hn_ => (.inr (Nat.le_trans (below_size (by repeat (first | (with_reducible first | exact HB.out | apply below_alloc | apply pw_below_drewN | apply below_drew1 | refine below_set ?_ GE154.out) | exact HB.out))) hn_))), Or.elim hk_ (fun hs_ => hs_.2) (fun hn_ => (Kd.fresh' (Kd.N_lt (qn_ HO157.out)) k_ hn_)), Or.elim hk_ (fun hs_ => hs_.1.2) (fun hn_ => (Kd.freshB (g := gb154) (o := .cells #[.int .i64 a0_0, .string a0_1, .string a0_2, .slice A0_3 l0_3.length c0_3, .slice A0_4 l0_4.length c0_4, .int .i64 a0_5, .int .i64 a0_6, .int .i64 a0_7, .string a0_8, .slice A0_9 l0_9.length c0_9] 37 (0, 0)) (qb_ BK154.out) k_ hn_))⟩)) (below_size (by repeat (first | (with_reducible first | exact HB.out | apply below_alloc | apply pw_below_drewN | apply below_drew1 | refine below_set ?_ GE154.out) | exact HB.out)))); have n4_ := Aside0.mk (blk_below (g := gb154) (o := .cells #[.int .i64 a0_0, .string a0_1, .string a0_2, .slice A0_3 l0_3.length c0_3, .slice A0_4 l0_4.length c0_4, .int .i64 a0_5, .int .i64 a0_6, .int .i64 a0_7, .string a0_8, .slice A0_9 l0_9.length c0_9] 37 (0, 0)) (qb_ BK154.out) hb); have n5_ := Aside0.mk (below_step (by repeat (first | (with_reducible first | exact HB.out | apply below_alloc | apply pw_below_drewN | apply below_drew1 | refine below_set ?_ GE154.out) | exact HB.out)) hb); clear HO1; clear HO2; clear HO157; clear BK154; clear HB; have HO1 := n0_; have HO2 := n1_; have HO157 := n2_; have HO160 := n3_; have BK154 := n4_; have HB := n5_; clear n0_ n1_ n2_ n3_ n4_ n5_; (try clear hb); (try clear hb2); (try clear hk); (try clear hi); (try clear ho0); have hcz123_0 : w122.cell? ⟨gb154, 0, none⟩ = some (.int .i64 a0_0) := (blk_cell BK154.out 0).trans rfl; have hcz123_1 : w122.cell? ⟨gb154, 1, none⟩ = some (.string a0_1) := (blk_cell BK154.out 1).trans rfl; have hcz123_2 : w122.cell? ⟨gb154, 2, none⟩ = some (.string a0_2) := (blk_cell BK154.out 2).trans rfl; have hcz123_3 : w122.cell? ⟨gb154, 3, none⟩ = some (.slice A0_3 l0_3.length c0_3) := (blk_cell BK154.out 3).trans rfl; have hcz123_4 : w122.cell? ⟨gb154, 4, none⟩ = some (.slice A0_4 l0_4.length c0_4) := (blk_cell BK154.out 4).trans rfl; have hcz123_5 : w122.cell? ⟨gb154, 5, none⟩ = some (.int .i64 a0_5) := (blk_cell BK154.out 5).trans rfl; have hcz123_6 : w122.cell? ⟨gb154, 6, none⟩ = some (.int .i64 a0_6) := (blk_cell BK154.out 6).trans rfl; have hcz123_7 : w122.cell? ⟨gb154, 7, none⟩ = some (.int .i64 a0_7) := (blk_cell BK154.out 7).trans rfl; have hcz123_8 : w122.cell? ⟨gb154, 8, none⟩ = some (.string a0_8) := (blk_cell BK154.out 8).trans rfl; have hcz123_9 : w122.cell? ⟨gb154, 9, none⟩ = some (.slice A0_9 l0_9.length c0_9) := (blk_cell BK154.out 9).trans rfl; have hfz123_0 := blk_frozen BK154.out 0; have hfz123_1 := blk_frozen BK154.out 1; have hfz123_2 := blk_frozen BK154.out 2; have hfz123_3 := blk_frozen BK154.out 3; have hfz123_4 := blk_frozen BK154.out 4; have hfz123_5 := blk_frozen BK154.out 5; have hfz123_6 := blk_frozen BK154.out 6; have hfz123_7 := blk_frozen BK154.out 7; have hfz123_8 := blk_frozen BK154.out 8; have hfz123_9 := blk_frozen BK154.out 9) | ((with_reducible refine gate_callee (f := 16) rfl ?_); refine goesL_ (some 131) rfl rfl Try.func16 (by kernel_rfl) rfl #[.slice none 0 0] rfl (by (try simp only [List.map_toArray, List.map_cons, List.map_nil]); first | done | rfl | (simp only [List.length_drop, List.length_take]; rfl)) ?_; (refine (zset_Norm.calls (fun k_ => False) _ _ ([] : List (S44)) t205 _ ?side1 A119.out).mono ?_); (case side1 => exact Kd.V_nil _ _ _ _ _); rintro e w124 ⟨v206, rfl, ho0, hb⟩; refine ⟨_, rfl, ?_⟩; have n0_ := Aside0.mk (Kd.V_elder' (qv_ HO1.out) (Kd.N_base ho0) hb); have n1_ := Aside0.mk (Kd.V_elder' (qv_ HO2.out) (Kd.N_base ho0) hb); have n2_ := Aside0.mk (Kd.N_elder' (qn_ HO157.out) (Kd.N_base ho0) hb); have n3_ := Aside0.mk (Kd.N_elder' (qn_ HO160.out) (Kd.N_base ho0) hb); have n4_ := Aside0.mk (Kd.N_lower (Kd.N_mono (ok' := fun k_ => ((P1_ k_ ∨ P2_ k_) ∨ w.heap.size ≤ k_) ∧ some k_ ≠ (v156 : Value).ownBlock ∧ some k_ ≠ (v159 : Value).ownBlock ∧ k_ ≠ gb154) ho0 (fun k_ hk_ => ⟨Or.elim hk_ (fun hs_ => (hs_).elim) (fun hn_ => (.inr (Nat.le_trans (below_size (by repeat (first | (with_reducible first | exact HB.out | apply below_alloc | apply pw_below_drewN | apply below_drew1 | refine below_set ?_ GE154.out) | exact HB.out))) hn_))), Or.elim hk_ (fun hs_ => (hs_).elim) (fun hn_ => (Kd.fresh' (Kd.N_lt (qn_ HO157.out)) k_ hn_)), Or.elim hk_ (fun hs_ => (hs_).elim) (fun hn_ => (Kd.fresh' (Kd.N_lt (qn_ HO160.out)) k_ hn_)), Or.elim hk_ (fun hs_ => (hs_).elim) (fun hn_ => (Kd.freshB (g := gb154) (o := .cells #[.int .i64 a0_0, .string a0_1, .string a0_2, .slice A0_3 l0_3.length c0_3, .slice A0_4 l0_4.length c0_4, .int .i64 a0_5, .int .i64 a0_6, .int .i64 a0_7, .string a0_8, .slice A0_9 l0_9.length c0_9] 37 (0, 0)) (qb_ BK154.out) k_ hn_))⟩)) (below_size (by repeat (first | (with_reducible first | exact HB.out | apply below_alloc | apply pw_below_drewN | apply below_drew1 | refine below_set ?_ GE154.out) | exact HB.out)))); have n5_ := Aside0.mk (blk_below (g := gb154) (o := .cells #[.int .i64 a0_0, .string a0_1, .string a0_2, .slice A0_3 l0_3.length c0_3, .slice A0_4 l0_4.length c0_4, .int .i64 a0_5, .int .i64 a0_6, .int .i64 a0_7, .string a0_8, .slice A0_9 l0_9.length c0_9] 37 (0, 0)) (qb_ BK154.out) hb); have n6_ := Aside0.mk (below_step (by repeat (first | (with_reducible first | exact HB.out | apply below_alloc | apply pw_below_drewN | apply below_drew1 | refine below_set ?_ GE154.out) | exact HB.out)) hb); clear HO1; clear HO2; clear HO157; clear HO160; clear BK154; clear HB; have HO1 := n0_; have HO2 := n1_; have HO157 := n2_; have HO160 := n3_; have HO207 := n4_; have BK154 := n5_; have HB := n6_; clear n0_ n1_ n2_ n3_ n4_ n5_ n6_; (try clear hb); (try clear hb2); (try clear hk); (try clear hi); (try clear ho0)))
        go_ret
        exact ⟨_, by first | rfl | (simp [errW_none, errW_some] <;> rfl) | (simp [*, errW_none, errW_some] <;> rfl), by (with_reducible repeat (first | apply Kd.N_alloc | apply Kd.N_drewN | apply Kd.N_drew)); exact Kd.N_mono HO207.out (fun _ hk => hk.1), by repeat (first | (with_reducible first | exact HB.out | apply below_alloc | apply pw_below_drewN | apply below_drew1 | refine below_set ?_ GE154.out) | exact HB.out)⟩
end Go.Proofs.Ytgapgdnbgimdlaa.PA
end
section
set_option linter.unusedVariables false
set_option linter.unusedSimpArgs false
namespace Go.Proofs.Ytgapgdnbgimdlaa.PA
open Go.RowKit Go.Maps Go.Proofs.YtgapgdnbgimdlaaW.PrintWords Go.Proofs.YtgapgdnbgimdlaaW.PrintLast Go.Proofs.YtgapgdnbgimdlaaW.PrintMore
def evalA.f (k : Nat) (a0 : Int) (a1 a2 : ByteArray) (cols other : List Int) (a5 a6 a7 : Int) (a8 : ByteArray) (aggs : List S46) (l1 l2 : List S44) : Option (List S44) :=
 if a0 = 7 then evalG.f k a1 a2 cols other a5 a6 a7 a8 aggs l1 l2 else eval_Eval.f k a0 a1 a2 cols other a5 a6 a7 a8 aggs l1 l2
theorem keyB_mono {k : Nat} {cols : List Int} {x : S44} {q : List UInt8} (h : keyB k cols x = some q) : keyB (k + 1) cols x = some q := by
 unfold keyB at h ⊢
 simp only [Option.bind_eq_some_iff] at h ⊢
 obtain ⟨p, hp, kr, hkr, hq⟩ := h
 exact ⟨p, eval_Picked.mono _ _ _ _ hp, kr, keys_Row.mono _ _ _ hkr, hq⟩
theorem keyD_mono {k : Nat} {cols : List Int} {x : S44} (h : (keyB k cols x).isSome = true) : keyD (k + 1) cols x = keyD k cols x := by
 obtain ⟨q, hq⟩ := Option.isSome_iff_exists.1 h
 unfold keyD
 rw [hq, keyB_mono hq]
theorem gAll_mono {k : Nat} {a1 a2 : ByteArray} {cols other : List Int} {a5 a6 a7 : Int} {a8 : ByteArray} {aggs : List S46} {na : List S44} (hk : ∀ x ∈ na, (keyB k cols x).isSome = true) : ∀ (qs : List (List UInt8)) (acc out : List S44), gAll k a1 a2 cols other a5 a6 a7 a8 aggs na qs acc = some out → gAll (k + 1) a1 a2 cols other a5 a6 a7 a8 aggs na qs acc = some out
 | [], acc, out, h => h
 | q :: qs, acc, out, h => by
  unfold gAll at h ⊢
  obtain ⟨g, hg, h⟩ := Option.bind_eq_some_iff.1 h
  have hf : na.filter (fun x => decide (keyD (k + 1) cols x = q)) = na.filter (fun x => decide (keyD k cols x = q)) := List.filter_congr fun x hx => by rw [keyD_mono (hk x hx)]
  rw [hf]
  refine Option.bind_eq_some_iff.2 ⟨g, eval_group.mono _ _ _ _ _ _ _ _ _ _ _ _ _ hg, ?_⟩
  split at h
  ·rename_i hc
   rw [if_pos hc]
   exact gAll_mono hk qs _ _ h
  ·cases h
theorem evalG.mono : ∀ a1 a2 cols other a5 a6 a7 a8 aggs l1 l2 k, LeO (evalG.f k a1 a2 cols other a5 a6 a7 a8 aggs l1 l2) (evalG.f (k + 1) a1 a2 cols other a5 a6 a7 a8 aggs l1 l2) := by
 intro a1 a2 cols other a5 a6 a7 a8 aggs l1 l2 k r h
 unfold evalG.f at h ⊢
 obtain ⟨na, hna, h⟩ := Option.bind_eq_some_iff.1 h
 obtain ⟨nb, hnb, h⟩ := Option.bind_eq_some_iff.1 h
 split at h
 ·rename_i hc
  obtain ⟨out, ho, hr⟩ := Option.bind_eq_some_iff.1 h
  refine Option.bind_eq_some_iff.2 ⟨na, hna, Option.bind_eq_some_iff.2 ⟨nb, hnb, ?_⟩⟩
  rw [if_pos ⟨hc.1, fun x hx => by obtain ⟨q, hq⟩ := Option.isSome_iff_exists.1 (hc.2 x hx); rw [keyB_mono hq]; rfl⟩]
  refine Option.bind_eq_some_iff.2 ⟨out, ?_, hr⟩
  have hs : sortedKeys (k + 1) cols na = sortedKeys k cols na := by
   unfold sortedKeys keyList
   rw [List.map_congr_left fun x hx => keyD_mono (hc.2 x hx)]
  rw [hs]
  exact gAll_mono hc.2 _ _ _ ho
 ·cases h
theorem evalA.mono : ∀ a0 a1 a2 a3 a4 a5 a6 a7 a8 a9 a10 a11 k, LeO (evalA.f k a0 a1 a2 a3 a4 a5 a6 a7 a8 a9 a10 a11) (evalA.f (k + 1) a0 a1 a2 a3 a4 a5 a6 a7 a8 a9 a10 a11) := by
 intro a0 a1 a2 a3 a4 a5 a6 a7 a8 a9 a10 a11 k
 unfold evalA.f
 exact LeO.ite (evalG.mono _ _ _ _ _ _ _ _ _ _ _ _) (eval_Eval.mono _ _ _ _ _ _ _ _ _ _ _ _ _)
theorem evalA.calls (k : Nat) (a0_0 : Int) (a0_1 : ByteArray) (a0_2 : ByteArray) (A0_3 : Option Addr) (c0_3 : Nat) (l0_3 : List Int) (A0_4 : Option Addr) (c0_4 : Nat) (l0_4 : List Int) (a0_5 : Int) (a0_6 : Int) (a0_7 : Int) (a0_8 : ByteArray) (A0_9 : Option Addr) (c0_9 : Nat) (l0_9 : List (S46)) (P1_ : Nat → Prop) (A1 : Option Addr) (c1 : Nat) (l1 : List (S44)) (P2_ : Nat → Prop) (A2 : Option Addr) (c2 : Nat) (l2 : List (S44)) (r : List (S44)) (w : World) (hr0_3 : Kd.C (Kd.int .i64) w A0_3 l0_3.length l0_3) (hc0_3 : l0_3.length ≤ c0_3) (hr0_4 : Kd.C (Kd.int .i64) w A0_4 l0_4.length l0_4) (hc0_4 : l0_4.length ≤ c0_4) (hr0_9 : Kd.C k46 w A0_9 l0_9.length l0_9) (hc0_9 : l0_9.length ≤ c0_9) (hs1 : Kd.V k44 44 w w.heap.size (fun k_ => P1_ k_) (.slice A1 l1.length c1) l1) (hs2 : Kd.V k44 44 w w.heap.size (fun k_ => P2_ k_) (.slice A2 l2.length c2) l2)
  (h : evalA.f k a0_0 a0_1 a0_2 l0_3 l0_4 a0_5 a0_6 a0_7 a0_8 l0_9 l1 l2 = some r) :
  Calls Try.prog 13 #[.agg #[.int .i64 a0_0, .string a0_1, .string a0_2, .slice A0_3 l0_3.length c0_3, .slice A0_4 l0_4.length c0_4, .int .i64 a0_5, .int .i64 a0_6, .int .i64 a0_7, .string a0_8, .slice A0_9 l0_9.length c0_9], .slice A1 l1.length c1, .slice A2 l2.length c2] w fun e w' => ∃ v0_ : Value, e = .returned (v0_) ∧ Kd.N k44 44 w' w.heap.size (fun k_ => ((P1_ k_ ∨ P2_ k_) ∨ w.heap.size ≤ k_)) v0_ r ∧ Below w.heap.size w w' := by
 unfold evalA.f at h
 split at h
 ·rename_i hc
  subst hc
  exact evalG.calls k a0_1 a0_2 A0_3 c0_3 l0_3 A0_4 c0_4 l0_4 a0_5 a0_6 a0_7 a0_8 A0_9 c0_9 l0_9 P1_ A1 c1 l1 P2_ A2 c2 l2 r w hr0_3 hc0_3 hr0_4 hc0_4 hr0_9 hc0_9 hs1 hs2 h
 ·exact eval_Eval.calls k a0_0 a0_1 a0_2 A0_3 c0_3 l0_3 A0_4 c0_4 l0_4 a0_5 a0_6 a0_7 a0_8 A0_9 c0_9 l0_9 P1_ A1 c1 l1 P2_ A2 c2 l2 r w hr0_3 hc0_3 hr0_4 hc0_4 hr0_9 hc0_9 hs1 hs2 h
end Go.Proofs.Ytgapgdnbgimdlaa.PA
end
