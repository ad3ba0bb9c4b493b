import Derived.Test.YtgapgdnbgimdlaaSq0
import Derived.Test.YtgapgdnbgimdlaaProg
import Derived.Below
import Derived.Deep.Draws
import Derived.Deep.AppendLies
import Derived.Maps.AppendAt
import Derived.OwnWalk
import Derived.Laws.BytesArg
import Derived.Laws.MakeOwn
import Derived.Laws.OwnMore
import Derived.Deep.OwnRows
import Derived.Tactics
import Derived.Lib.ConvBytes
import Derived.Laws.Slices
import Derived.WalkKit
import Derived.KernelRfl
import Derived.RowKit3
import Derived.Deep.LoopGhost
import Derived.Deep.QuietTactic
import Derived.BigQuiet
import Derived.WideLaws
import Derived.Deep.DeepCutAuto
import Derived.Deep.CutBlock
import Derived.Deep.RegionHeld3
import Derived.Laws.Rows
import Derived.Lib.AppendStr
import Derived.ArgAppend
import Derived.Laws.IdiomCopy
import Derived.OrdersHeld
import Derived.Laws.BitsLemmas
import Derived.RowKit
import Derived.WalkMore
import Derived.ScopeJumps
import Derived.RangeFuncSeq
import Derived.RangeFuncGives
import Derived.RangeFuncBound
import Derived.Sort.MapsRangeIn
import Derived.Sort.KeysCollected
import Derived.Sort.OwnSorted
import Derived.OwnWalkIn
import Derived.TacticsInMore
import Derived.RegionIn
import Derived.LoopNIn
import Derived.LoopIn
import Derived.Shelf.Abstract
import Derived.WalkLawsBesides
import Derived.Maps.OwnSet
import Derived.Maps.OwnOps
import Derived.Maps.Views
import Derived.Maps.OwnRows
import Derived.Carry
import Derived.Shelf.Sort.Plain
import Derived.Shelf.Slices.In.SortNone
import Derived.Ground.NamesProg
import Derived.Shelf.Lay
import Derived.Sort.Grow
import Derived.Shelf.AbstractIn
import Derived.Laws.EntriesVeiled
import Derived.Laws.Strings
section
namespace Go.Proofs.Ytgapgdnbgimdlaa
theorem qb_ {a b : Prop} (hb : b) (h : b → a := by intro h; (with_reducible repeat (first | refine blk_drewN ?_ _ | refine blk_drew ?_ | refine blk_alloc ?_ _)); exact h) : a := h hb
theorem qr_ {a b : Prop} (hb : b) (h : b → a := by intro h; (with_reducible repeat (first | apply Kd.R_alloc | apply Kd.R_drewN | apply Kd.R_drew)); exact h) : a := h hb
theorem qn_ {a b : Prop} (hb : b) (h : b → a := by intro h; (with_reducible repeat (first | apply Kd.N_alloc | apply Kd.N_drewN | apply Kd.N_drew)); exact h) : a := h hb
theorem qv_ {a b : Prop} (hb : b) (h : b → a := by intro h; (with_reducible repeat (first | apply Kd.V_alloc | apply Kd.V_drewN | apply Kd.V_drew)); exact h) : a := h hb
theorem qc_ {a b : Prop} (hb : b) (h : b → a := by intro h; (with_reducible repeat (first | apply Kd.C_alloc | apply Kd.C_drewN | apply Kd.C_drew)); exact h) : a := h hb
theorem qh_ {a : Prop} (h : a := by repeat (first | (with_reducible first | exact HB.out | apply below_alloc | apply pw_below_drewN | apply below_drew1) | exact HB.out)) : a := h
theorem qk_ {a : Prop} (h : a := by repeat (first | (with_reducible first | exact HK.out | apply Kept.alloc | apply Kept.drewN | apply Kept.drew) | exact HK.out)) : a := h
end Go.Proofs.Ytgapgdnbgimdlaa
end
section
namespace Go.Proofs.Ytgapgdnbgimdlaa.PL
open Go.RowKit Go.Proofs.YtgapgdnbgimdlaaW.PrintWords Go.Proofs.YtgapgdnbgimdlaaW.PrintLast Go.Proofs.YtgapgdnbgimdlaaW.PrintMore
attribute [local go_sem] max2_int min2_int max_two min_two max_three min_three max_four min_four
set_option linter.unusedVariables false
set_option linter.unusedSimpArgs false
def errW : Option Int → Value
 | none => .nilIface
 | some c => .iface 0 (.int .i64 c)
theorem errW_none : errW none = .nilIface := rfl
theorem errW_some (c : Int) : errW (some c) = .iface 0 (.int .i64 c) := rfl
theorem info23 : (Try.prog.info? 23).map (fun i => (i.zero, i.size, i.bytes)) = some (some (.agg #[(.int .i64 0), (.int .i64 0), (.string ⟨#[]⟩)]), 3, 32) := by kernel_rfl
theorem info44 : (Try.prog.info? 44).map (fun i => (i.zero, i.size, i.bytes)) = some (some (.agg #[(.slice none 0 0), (.int .i64 0)]), 2, 32) := by kernel_rfl
end Go.Proofs.Ytgapgdnbgimdlaa.PL
end
section
namespace Go.Proofs.Ytgapgdnbgimdlaa.It
open Go.RowKit Go.Maps Go.Sort Go.Shelf
theorem keyed : Keyed Try.prog 9 := string_keyed Try.underlying9
set_option maxRecDepth 100000 in
set_option maxHeartbeats 1000000 in
theorem keys1N_in {H : Type} (F : Fence) (n : Nat) (h10 : F.fn 37) (hro : F.round = none) (hn : 1 ≤ n) (l Bm b nn : Nat) (D0 : DataW H) (R : Value → Option (DataW H × List MemPlace)) (J : List (List UInt8) → World → Prop)
    (hY : ∀ pre x W, J pre W → pre.length < Maps.size D0 → YieldAt F (n - 1) Try.prog l #[encStr x] W fun e W' => e = .returned (.bool true) ∧ J (pre ++ [x]) W' ∧ KeepsWalks W W')
    (W : World) (hJ : AbidesFrom W.heap.size J) (hm : W.cell? ⟨Bm, 0, none⟩ = some (.map (some b))) (hown : W.ownsMap Try.prog 9 R b nn D0) (h0 : J [] W) :
    CallsIn F n Try.prog 37 #[.func (.yield l) #[] #[], .pointer (some ⟨Bm, 0, none⟩)] W fun e W' => (∃ v, e = .returned v) ∧ ∃ ss : List (List UInt8), ss.Perm (strKeys D0) ∧ J ss W' := by
  refine callsIn_of_wp Try.func37 rfl h10 ?_ hro
  simp only [Try.ntmps37, List.size_toArray, List.length_cons, List.length_nil, Nat.reduceAdd, Nat.reduceSub, Array.replicate_succ, Array.replicate_zero, List.push_toArray, List.append_toArray, List.nil_append, List.cons_append]
  gi_wp2_with (first
    | (gi_at_range; refine wpListIn_range_own _ rfl _ 52 rfl 9 31 keyed Try.underlying52 _ b nn _ rfl hown ?_; intro w0 hrg0 hg0 hs0)
    | gi_in)
  go_frame
  gi_loopw [3] (fun _ wr => ∃ (left : Lit → Bool) (cnt : Nat) (ss : List (List UInt8)), wr.ranges Try.prog 9 R b W.heap.size nn D0 left cnt ∧ ss.length + cnt ≤ Maps.size D0 ∧ Collected D0 left ss ∧ J ss wr)
    (fun _ wr => wr.rangeLeft b W.heap.size)
  case atStart =>
    exact ⟨_, _, [], hrg0, by simp, Collected.start D0, hJ [] W w0 none h0 hg0 (fun r e => by cases e)⟩
  case round =>
    obtain ⟨left, cnt, ss, hrg, hcs, hC, hJs⟩ := hrel
    gi_wp2_with (first
      | (gi_at_next; refine wpListIn_next_ranges _ rfl _ rfl 9 keyed R encStr id (fun key kl hk => by obtain ⟨x, hx, _⟩ := Maps.keyOf_str Try.underlying9 hk; exact ⟨x, hx⟩) (fun v _ _ => ⟨v, rfl⟩) b W.heap.size nn _ _ _ rfl hrg ?_ ?_)
      | gi_in)
    ·
      intro hc0 hl0
      gi_wp2
      go_end0
      exact ⟨⟨_, rfl⟩, ss, hC.perm hown keyed Try.underlying9 hl0, hJs⟩
    ·
      intro x c kl yd yp w2 cnt2 hkey hlk hv hat hrg2 hlt hg2 hs2 hen
      obtain ⟨x', ex, rfl, _⟩ := Maps.keyOf_str Try.underlying9 hkey
      obtain rfl : x = x' := encStr_inj ex
      have hJ2 : J ss w2 := hJ ss wr w2 (some W.heap.size) hJs hg2 (fun r e => by cases e; exact ⟨Nat.le_refl _, hrg.iter_walk⟩)
      obtain ⟨fn, tmps, assign, body, hy, hR⟩ := hY ss x w2 hJ2 (by omega)
      clear hs2
      gi_wp2
      refine hR.mono ?_
      rintro e W3 ⟨rfl, hJ3, hk3⟩
      gi_wp2
      have hrg3 := hrg2.of_walks hk3
      go_roundw
      case rel => exact ⟨_, cnt2, ss ++ [x], hrg3, by simp; omega, hC.step hlk hat, hJ3⟩
      case measure => rw [hrg3.left_eq, hrg.left_eq]; exact hlt
theorem keys_gives {H : Type} (F : Fence) (n : Nat) (h10 : F.fn 37) (hro : F.round = none) (hn : 1 ≤ n) (Bm b nn : Nat) (D0 : DataW H) (R : Value → Option (DataW H × List MemPlace)) (w : World) (hBm : Bm < w.heap.size)
    (hm : w.cell? ⟨Bm, 0, none⟩ = some (.map (some b))) (hown : w.ownsMap Try.prog 9 R b nn D0) :
    SeqGives F n Try.prog 37 #[.pointer (some ⟨Bm, 0, none⟩)] encStr (fun ss => ss.Perm (strKeys D0)) (Maps.size D0) w := fun l J W hW hJ hY h0 => by
  have hown' : W.ownsMap Try.prog 9 R b nn D0 := by
    have hbl := hown.lt
    obtain ⟨es, clock, hb, Ft, hs, hD⟩ := hown
    exact ⟨es, clock, (hW.block b hbl).trans hb, Ft, hs, hD⟩
  exact keys1N_in F n h10 hro hn l Bm b nn D0 R J hY W hJ ((hW.cell (p := ⟨Bm, 0, none⟩) hBm).trans hm) hown' h0
def apAssign : Code := (Code.region 2 #[{ dst := some 5, op := Op.assign (Operand.tmp 7), type := 9, pos := "iter.go:51", after := #[], guard := none }] false)
def apBody : Code := (Code.block 1 (Code.region 3 #[{ dst := some 8, op := Op.load 54 (Operand.tmp 2), type := 54, pos := "iter.go:52", after := #[], guard := none }, { dst := some 9, op := Op.move (Operand.tmp 5), type := 9, pos := "iter.go:52", after := #[], guard := none }, { dst := some 10, op := Op.buildSlice 54 1 #[(0, Operand.tmp 9)], type := 54, pos := "iter.go:52", after := #[{ on := 1, ground := Ground.data }], guard := none }, { dst := some 11, op := Op.call { callee := Callee.builtin Builtin.append, args := #[Operand.tmp 8, Operand.tmp 10], argTypes := #[54, 54] }, type := 54, pos := "iter.go:52", after := #[{ on := 0, ground := Ground.data }, { on := 2, ground := Ground.data }], guard := none }, { dst := none, op := Op.store 54 (Operand.tmp 2) (Operand.tmp 11), type := 0, pos := "iter.go:52", after := #[{ on := 3, ground := Ground.data }, { on := 3, ground := Ground.chain }, { on := 0, ground := Ground.phase }, { on := 1, ground := Ground.phase }, { on := 2, ground := Ground.phase }, { on := 3, ground := Ground.phase }], guard := none }] false))
def apRec (fn : FuncId) (sv : Value) (Bs D : Nat) (st : LoopState) (pend : Option Code) : Loop :=
  { state := st, pending := pend, fn, tmps := #[.slice none 0 0, sv, .pointer (some ⟨Bs, 0, none⟩), undef, .slice none 0 0, undef, sv, undef, undef, undef, undef, undef, undef], params := #[7], assign := apAssign, body := apBody, defers := D }
structure ApAt (w0 : World) (fn : FuncId) (sv : Value) (Bs l D : Nat) (ss : List (List UInt8)) (W : World) : Prop where
  box : ∃ v, W.heap[Bs]? = some (.cells #[v] 54 (0, 0)) ∧ W.ownsRow w0.heap.size 9 1 v ss.length (ss.map encStr) ∧ (v = .slice none 0 0 ↔ ss = [])
  L : W.heap[l]? = some (.loop (apRec fn sv Bs D .ready none))
  K : W.heap[D]? = some (.deferred (some []))
  below : Below w0.heap.size w0 W
theorem ownsRow_abides {W W' : World} {row : Option Nat} {base : Nat} {e : TypeId} {size : Nat} {v : Value} {k : Nat} {xs : List Value} (h : W.ownsRow base e size v k xs) (hg : W.grownBy W' row)
    (hrow : ∀ r, row = some r → ∃ o : Obj, W.heap[r]? = some o ∧ o.isWalk = true) : W'.ownsRow base e size v k xs := by
  refine h.kept hg ?_
  rcases h.2 with ⟨rfl, _⟩ | ⟨g, cap, cur, rfl, _, hgb, _⟩
  · exact .inl rfl
  · refine .inr fun e' => ?_
    obtain ⟨o, ho, hw⟩ := hrow g (by simpa [Value.ownBlock] using e'.symm)
    rw [hgb] at ho; cases ho; cases hw
theorem ap_abides (w0 : World) (fn : FuncId) (sv : Value) (Bs l D B : Nat) (hB : w0.heap.size ≤ B) : AbidesFrom B (ApAt w0 fn sv Bs l D) := fun s W W' row h hg hrow => by
  have hrow' : ∀ r, row = some r → ∃ o : Obj, W.heap[r]? = some o ∧ o.isWalk = true := fun r e => (hrow r e).2
  obtain ⟨v, hv, hr, hn⟩ := h.box
  exact ⟨⟨v, (grownBy_keeps hg hrow' hv rfl).trans hv, ownsRow_abides hr hg hrow', hn⟩, (grownBy_keeps hg hrow' h.L rfl).trans h.L, (grownBy_keeps hg hrow' h.K rfl).trans h.K,
    h.below.grown hg h.below.size (fun k e => Nat.le_trans hB (hrow k e).1)⟩
theorem grownBy_putObj (W : World) (l : Nat) (o : Obj) : W.grownBy (W.putObj l o) (some l) :=
  ⟨rfl, rfl, rfl, by simp, fun k _ hk => World.putObj_heap_other (fun e => hk (by rw [e]))⟩
theorem grownBy_setCell0 (W : World) (b : Nat) (v : Value) : W.grownBy (W.setCell ⟨b, 0, none⟩ v) (some b) :=
  ⟨rfl, rfl, rfl, (KeepsWalks.setCell W _ v).size, fun k _ hk => Below.heap_setCell _ _ _ k (fun e => hk (by rw [e]))⟩
theorem ownsRow_ne {W : World} {base : Nat} {e : TypeId} {size : Nat} {v : Value} {k : Nat} {xs : List Value} (h : W.ownsRow base e size v k xs) {j : Nat} {o : Obj} (hj : W.heap[j]? = some o) (hno : ∀ cur, o ≠ .cells cur e (0, 0)) :
    v.ownBlock = none ∨ v.ownBlock ≠ some j := by
  rcases h.2 with ⟨rfl, _⟩ | ⟨g, cap, cur, rfl, _, hgb, _⟩
  · exact .inl rfl
  · refine .inr fun e' => ?_
    have : g = j := by simpa [Value.ownBlock] using e'
    subst this; rw [hgb] at hj; cases hj; exact hno cur rfl
theorem cell_of_box {W : World} {B : Nat} {v : Value} {t : TypeId} (h : W.heap[B]? = some (.cells #[v] t (0, 0))) : W.cell? ⟨B, 0, none⟩ = some v ∧ W.frozen? ⟨B, 0, none⟩ = false := by
  constructor <;> simp [World.cell?, World.frozen?, h]
theorem heap_setCell_box {W : World} {B : Nat} {v : Value} {t : TypeId} (v' : Value) (h : W.heap[B]? = some (.cells #[v] t (0, 0))) : (W.setCell ⟨B, 0, none⟩ v').heap[B]? = some (.cells #[v'] t (0, 0)) := by
  obtain ⟨hlt, hk⟩ := Array.getElem?_eq_some_iff.1 h
  show (W.heap.modify B _)[B]? = _
  rw [Array.getElem?_eq_getElem (by rw [Array.size_modify]; exact hlt), Array.getElem_modify_self, hk]
  rfl
theorem ownsRow_not_walk {W : World} {base : Nat} {e : TypeId} {size : Nat} {v : Value} {k : Nat} {xs : List Value} (h : W.ownsRow base e size v k xs) : ∀ (j : Nat) (o : Obj), v.ownBlock = some j → W.heap[j]? = some o → o.isWalk = false := by
  intro j o hj ho
  rcases h.2 with ⟨rfl, _⟩ | ⟨g, cap, cur, rfl, _, hgb, _⟩
  · simp [Value.ownBlock] at hj
  · have : g = j := by simpa [Value.ownBlock] using hj
    subst this; rw [hgb] at ho; cases ho; rfl
theorem info9 : (Try.prog.info? 9).map (fun i => (i.zero, i.size, i.bytes)) = some (some (.string ⟨#[]⟩), 1, 16) := by kernel_rfl
set_option maxRecDepth 100000 in
set_option maxHeartbeats 2000000 in
theorem apYield (F : Fence) (m : Nat) (w0 : World) (fn : FuncId) (hfn : F.fn fn) (sv : Value) (Bs l D : Nat) (hBl : Bs ≠ l) (hDl : D ≠ l) (hDB : D ≠ Bs) (h0B : w0.heap.size ≤ Bs) (h0l : w0.heap.size ≤ l)
    (N : Nat) (hN : N ≤ maxLen) (hNb : N * 16 ≤ 140737488355328) (ss : List (List UInt8)) (x : List UInt8) (W : World) (h : ApAt w0 fn sv Bs l D ss W) (hlen : ss.length < N) :
    YieldAt F m Try.prog l #[encStr x] W fun e W' => e = .returned (.bool true) ∧ ApAt w0 fn sv Bs l D (ss ++ [x]) W' ∧ KeepsWalks W W' := by
  obtain ⟨i0, hi, hz0, hz1, hz2⟩ := info_parts info9
  obtain ⟨v, hv, hrow, _⟩ := h.box
  refine ⟨fn, #[.slice none 0 0, sv, .pointer (some ⟨Bs, 0, none⟩), undef, .slice none 0 0, undef, sv, encStr x, undef, undef, undef, undef, undef], apAssign, apBody, by simpa [apRec] using run_yield (P := Try.prog) (args := #[encStr x]) h.L rfl, roundIn_of_wpIn hfn ?_⟩
  have hl : l < W.heap.size := (Array.getElem?_eq_some_iff.1 h.L).1
  have hbr := run_beginRound (P := Try.prog) h.L rfl
  obtain ⟨W2, hW2⟩ : ∃ W2, W.putObj l (.loop { apRec fn sv Bs D .ready none with state := .busy }) = W2 := ⟨_, rfl⟩
  rw [hW2] at hbr
  have hg2 : W.grownBy W2 (some l) := by rw [← hW2]; exact grownBy_putObj _ _ _
  have hk2 : KeepsWalks W W2 := by rw [← hW2]; exact KeepsWalks.putObj _ h.L rfl
  have hv2 : W2.heap[Bs]? = some (.cells #[v] 54 (0, 0)) := by rw [← hW2]; exact (World.putObj_heap_other hBl).trans hv
  have hK2 : W2.heap[D]? = some (.deferred (some [])) := by rw [← hW2]; exact (World.putObj_heap_other hDl).trans h.K
  have hL2 : W2.heap[l]? = some (.loop { apRec fn sv Bs D .ready none with state := .busy }) := by rw [← hW2]; exact World.putObj_heap_same hl
  have hrow2 : W2.ownsRow w0.heap.size 9 1 v ss.length (ss.map encStr) := hrow.kept hg2 (ownsRow_ne hrow h.L (fun cur e => by cases e))
  have hb2 : Below w0.heap.size w0 W2 := h.below.grown hg2 h.below.size (fun k e => by cases e; exact h0l)
  obtain ⟨hc2, hf2⟩ := cell_of_box hv2
  have hBlt : Bs < W2.heap.size := (Array.getElem?_eq_some_iff.1 hv2).1
  have hl2 : l < W2.heap.size := (Array.getElem?_eq_some_iff.1 hL2).1
  have hDlt : D < W2.heap.size := (Array.getElem?_eq_some_iff.1 hK2).1
  have ne_of : ∀ {j : Nat} {o : Obj}, W2.heap[j]? = some o → (∀ cur, o ≠ .cells cur 9 (0, 0)) → some j ≠ v.ownBlock := fun hj hno => by
    rcases ownsRow_ne hrow2 hj hno with e | e
    · rw [e]; simp
    · exact fun e' => e e'.symm
  clear hW2
  unfold apAssign
  gi_wp2_with (rw [Oper.semAt_eq _ _ _ (fun c h => by cases h)]; go_simp; try go_bits)
  unfold apBody
  gi_wp2_with (first
    | (gi_at_builtin; refine wpListIn_append_own _ rfl _ _ 54 rfl w0.heap.size 9 i0 (.string ⟨#[]⟩) 1 16 Try.underlying54 hi hz0 hz1 hz2 rfl (by decide) _ _ _ rfl (hrow2.alloc _) ⟨W2.heap.size, 0, none⟩ 1 1 [encStr x] rfl rfl (cell_one_new _ _ _) (by simp [Value.oneCell', encStr]) (by omega) (by omega) (by have := hb2.size; simp; omega) ?_; intro v' w3 hown' hg3 hnil3
       have hv3 : w3.heap[Bs]? = some (.cells #[v] 54 (0, 0)) := (hg3.block Bs (by simp; omega) (ne_of hv2 (fun cur e => by cases e))).trans ((Below.heap_alloc _ _ Bs hBlt).trans hv2)
       obtain ⟨hc3, hf3⟩ := cell_of_box hv3
       obtain ⟨g', cap', cur', rfl, hbase', hgb', hr1, hr2, hr3, hr4⟩ : ∃ g' cap' cur', v' = .slice (some ⟨g', 0, none⟩) (ss.length + 1) cap' ∧ w0.heap.size ≤ g' ∧ w3.heap[g']? = some (.cells cur' 9 (0, 0)) ∧ ss.length + 1 ≤ cap' ∧ cap' ≤ maxLen ∧ cur'.size = cap' * 1 ∧ cur'.toList.take ((ss.length + 1) * 1) = ss.map encStr ++ [encStr x] := by
         rcases hown'.2 with ⟨_, h0⟩ | h'
         · exact absurd h0 (by omega)
         · exact h'
       go_frame)
    | (rw [Oper.semAt_eq _ _ _ (fun c h => by cases h)]; go_simp; try go_bits))
  have hg3' : (W2.alloc (.cells #[encStr x] 9)).grownBy w3 v.ownBlock := hg3
  have hL3 : w3.heap[l]? = some (.loop { apRec fn sv Bs D .ready none with state := .busy }) := (hg3'.block l (by simp; omega) (ne_of hL2 (fun cur e => by cases e))).trans ((Below.heap_alloc _ _ l hl2).trans hL2)
  have hK3 : w3.heap[D]? = some (.deferred (some [])) := (hg3'.block D (by simp; omega) (ne_of hK2 (fun cur e => by cases e))).trans ((Below.heap_alloc _ _ D hDlt).trans hK2)
  obtain ⟨w4, hw4⟩ : ∃ w4, w3.setCell ⟨Bs, 0, none⟩ (.slice (some ⟨g', 0, none⟩) (ss.length + 1) cap') = w4 := ⟨_, rfl⟩
  rw [hw4]
  have hg4 : w3.grownBy w4 (some Bs) := by rw [← hw4]; exact grownBy_setCell0 _ _ _
  have hv4 : w4.heap[Bs]? = some (.cells #[.slice (some ⟨g', 0, none⟩) (ss.length + 1) cap'] 54 (0, 0)) := by rw [← hw4]; exact heap_setCell_box _ hv3
  have hL4 : w4.heap[l]? = some (.loop { apRec fn sv Bs D .ready none with state := .busy }) := (hg4.block l (Array.getElem?_eq_some_iff.1 hL3).1 (fun e => hBl (by cases e; rfl))).trans hL3
  have hK4 : w4.heap[D]? = some (.deferred (some [])) := (hg4.block D (Array.getElem?_eq_some_iff.1 hK3).1 (fun e => hDB (by cases e; rfl))).trans hK3
  have hrow4 := hown'.kept hg4 (ownsRow_ne hown' hv3 (fun cur e => by cases e))
  have hl4 : l < w4.heap.size := (Array.getElem?_eq_some_iff.1 hL4).1
  have hb3 : Below w0.heap.size w0 w3 := (hb2.alloc hb2.size _).grown hg3' (by have := hb2.size; simp; omega) (fun k e => (hrow2.lt k e).1)
  have hb4 : Below w0.heap.size w0 w4 := hb3.grown hg4 hb3.size (fun k e => by cases e; exact h0B)
  have hk4 : KeepsWalks W w4 := ((hk2.trans (KeepsWalks.alloc _ _)).trans (KeepsWalks.of_grownBy hg3' (ownsRow_not_walk (hrow2.alloc _)))).trans (by rw [← hw4]; exact KeepsWalks.setCell _ _ _)
  clear hw4
  refine ⟨_, _, run_endRound none hL4, rfl, ⟨⟨_, (World.putObj_heap_other hBl).trans hv4, ?_, by simp⟩, World.putObj_heap_same hl4, (World.putObj_heap_other hDl).trans hK4, hb4.grown (grownBy_putObj _ _ _) hb4.size (fun k e => by cases e; exact h0l)⟩, hk4.trans (KeepsWalks.putObj _ hL4 rfl)⟩
  have := hrow4.kept (grownBy_putObj w4 l (.loop { { apRec fn sv Bs D .ready none with state := .busy } with state := if (none : Option Code).isNone then .ready else .done, pending := none })) (ownsRow_ne hrow4 hL4 (fun cur e => by cases e))
  simpa using this
set_option maxRecDepth 100000 in
set_option maxHeartbeats 2000000 in
theorem appendSeq_in (F : Fence) (n : Nat) (h11 : F.fn 48) (hro : F.round = none) (hn : 2 ≤ n) (g : Nat) (lb : Array Value) (hFg : F.fn g) (eg : ∀ args w, (callFunc g args).run Try.prog w = .ok (.enter g args) w)
    (S : List (List UInt8) → Prop) (N : Nat) (hN : N ≤ maxLen) (hNb : N * 16 ≤ 140737488355328) (w : World) (hseq : SeqGives F (n - 1) Try.prog g lb encStr S N w) :
    CallsIn F n Try.prog 48 #[.slice none 0 0, .func (.func g) #[] lb] w fun e w' => ∃ (v : Value) (ss : List (List UInt8)), e = .returned v ∧ S ss ∧ w'.ownsRow w.heap.size 9 1 v ss.length (ss.map encStr) ∧ (v = .slice none 0 0 ↔ ss = []) ∧ Below w.heap.size w w' := by
  have h1 : 1 ≤ n := by omega
  refine callsIn_of_wp_marks Try.func48 rfl h11 ?_ hro
  simp only [Try.ntmps48, List.size_toArray, List.length_cons, List.length_nil, Nat.reduceAdd, Nat.reduceSub, Array.replicate_succ, Array.replicate_zero, List.push_toArray, List.append_toArray, List.nil_append, List.cons_append]
  gi_wp2
  refine wpIn_rangeFunc ?_
  intro fn hfn
  rw [hro]
  obtain ⟨W0, hW0⟩ : ∃ W0, w.alloc (.cells #[.slice none 0 0] 54) = W0 := ⟨_, rfl⟩
  have hs0 : W0.heap.size = w.heap.size + 1 := by rw [← hW0]; simp
  have hv0 : W0.heap[w.heap.size]? = some (.cells #[.slice none 0 0] 54 (0, 0)) := by rw [← hW0]; exact World.alloc_heap_new w _
  have hb0 : Below w.heap.size w W0 := by rw [← hW0]; exact (Below.refl _ w).alloc (Nat.le_refl _) _
  rw [hW0]
  obtain ⟨W1, hW1⟩ : ∃ W1, (W0.alloc (.deferred (some []))).alloc (.loop (apRec fn (.func (.func g) #[] lb) w.heap.size W0.heap.size .ready none)) = W1 := ⟨_, rfl⟩
  have hold : ∀ k, k < W0.heap.size → W1.heap[k]? = W0.heap[k]? := fun k hk => by
    rw [← hW1]; exact (Below.heap_alloc _ _ k (by simp; omega)).trans (Below.heap_alloc _ _ k hk)
  have hb1 : Below w.heap.size w W1 := by rw [← hW1]; exact (hb0.alloc hb0.size _).alloc (by have := hb0.size; simp; omega) _
  have hs1 : W1.heap.size = W0.heap.size + 2 := by rw [← hW1]; simp
  have hM : ApAt w fn (.func (.func g) #[] lb) w.heap.size (W0.heap.size + 1) W0.heap.size [] W1 :=
    ⟨⟨_, (hold w.heap.size (by omega)).trans hv0, ⟨rfl, .inl ⟨rfl, rfl⟩⟩, by simp⟩,
     by rw [← hW1]; have := World.alloc_heap_new (W0.alloc (.deferred (some []))) (.loop (apRec fn (.func (.func g) #[] lb) w.heap.size W0.heap.size .ready none)); rwa [World.size_alloc] at this,
     by rw [← hW1]; exact (Below.heap_alloc _ _ _ (by simp)).trans (World.alloc_heap_new W0 _), hb1⟩
  refine ⟨W0.heap.size + 1, [{ target := .collected W0.heap.size, args := #[] }], W1, { target := .fn (.func g) lb, args := #[.func (.yield (W0.heap.size + 1)) #[] #[]] }, W1, g,
    #[.func (.yield (W0.heap.size + 1)) #[] #[]] ++ lb, W1, ?_, ?_, ?_, ?_, fun _ => h1, ?_⟩
  · rw [← hW1]; exact run_enterLoop_outer _ _ _ _ _
  · simp [resolve, go_sem]
  · intro f' hf'; simp [Target.leads] at hf'; subst hf'; exact hFg
  · simp [invoke, go_sem, eg]
  · refine (hseq (W0.heap.size + 1) (ApAt w fn (.func (.func g) #[] lb) w.heap.size (W0.heap.size + 1) W0.heap.size) W1 hb1 (ap_abides _ _ _ _ _ _ _ hb1.size)
      (fun pre x W hJ hl => apYield F (n - 1 - 1) w fn hfn _ w.heap.size (W0.heap.size + 1) W0.heap.size (by omega) (by omega) (by omega) (Nat.le_refl _) (by omega) N hN hNb pre x W hJ hl) hM).mono ?_
    rintro e W2 ⟨⟨v0, rfl⟩, ss, hS, h2⟩
    obtain ⟨v, hv, hrow, hnil⟩ := h2.box
    have hend := run_endLoop (P := Try.prog) h2.L (by simp [apRec])
    obtain ⟨W3, hW3⟩ : ∃ W3, W2.putObj (W0.heap.size + 1) (.loop { apRec fn (.func (.func g) #[] lb) w.heap.size W0.heap.size .ready none with state := .exhausted }) = W3 := ⟨_, rfl⟩
    rw [hW3] at hend
    have hg3 : W2.grownBy W3 (some (W0.heap.size + 1)) := by rw [← hW3]; exact grownBy_putObj _ _ _
    have hv3 : W3.heap[w.heap.size]? = some (.cells #[v] 54 (0, 0)) := by rw [← hW3]; exact (World.putObj_heap_other (by omega)).trans hv
    have hK3 : W3.heap[W0.heap.size]? = some (.deferred (some [])) := by rw [← hW3]; exact (World.putObj_heap_other (by omega)).trans h2.K
    have hrow3 := hrow.kept hg3 (ownsRow_ne hrow h2.L (fun cur e => by cases e))
    have hb3 : Below w.heap.size w W3 := h2.below.grown hg3 h2.below.size (fun k e => by cases e; omega)
    obtain ⟨hc3, hf3⟩ := cell_of_box hv3
    clear hW3
    refine ⟨none, W3, hend, ?_⟩
    gi_wp2
    rw [← hs0]
    refine ⟨by simp, .inl ⟨_, _, rfl, run_takeDeferred hK3, ?_⟩⟩
    exact ⟨_, results_tmp rfl _ _ _, v, ss, rfl, hS, hrow3.kept (grownBy_putObj _ _ _) (ownsRow_ne hrow3 hK3 (fun cur e => by cases e)), hnil, hb3.grown (grownBy_putObj _ _ _) hb3.size (fun k e => by cases e; omega)⟩
set_option maxHeartbeats 1000000 in
theorem collect_in (F : Fence) (n : Nat) (h8 : F.fn 35) (h11 : F.fn 48) (hro : F.round = none) (hn : 3 ≤ n) (g : Nat) (lb : Array Value) (hFg : F.fn g) (eg : ∀ args w, (callFunc g args).run Try.prog w = .ok (.enter g args) w)
    (S : List (List UInt8) → Prop) (N : Nat) (hN : N ≤ maxLen) (hNb : N * 16 ≤ 140737488355328) (w : World) (hseq : SeqGives F (n - 1 - 1) Try.prog g lb encStr S N w) :
    CallsIn F n Try.prog 35 #[.func (.func g) #[] lb] w fun e w' => ∃ (v : Value) (ss : List (List UInt8)), e = .returned v ∧ S ss ∧ w'.ownsRow w.heap.size 9 1 v ss.length (ss.map encStr) ∧ (v = .slice none 0 0 ↔ ss = []) ∧ Below w.heap.size w w' := by
  have h1 : 1 ≤ n := by omega
  refine callsIn_of_wp Try.func35 rfl h8 ?_ hro
  simp only [Try.ntmps35, List.size_toArray, List.length_cons, List.length_nil, Nat.reduceAdd, Nat.reduceSub, Array.replicate_succ, Array.replicate_zero, List.push_toArray, List.append_toArray, List.nil_append, List.cons_append]
  gi_wp2_with (gi_at_call 48; refine (appendSeq_in F (n - 1) h11 hro (by omega) g lb hFg eg S N hN hNb _ hseq).mono ?_; rintro e w' ⟨v, ss, rfl, hS, hrow, hnil, hb⟩)
  go_ret
  exact ⟨v, ss, rfl, hS, hrow, hnil, hb⟩
set_option maxHeartbeats 1000000 in
theorem keys_in (F : Fence) (n : Nat) (h7 : F.fn 26) (hro : F.round = none) (mb : Option Nat) (w : World) :
    CallsIn F n Try.prog 26 #[.map mb] w fun e w' => e = .returned (.func (.func 37) #[] #[.pointer (some ⟨w.heap.size, 0, none⟩)]) ∧ w' = w.alloc (.cells #[.map mb] 52) := by
  refine callsIn_of_wp Try.func26 rfl h7 ?_ hro
  simp only [Try.ntmps26, List.size_toArray, List.length_cons, List.length_nil, Nat.reduceAdd, Nat.reduceSub, Array.replicate_succ, Array.replicate_zero, List.push_toArray, List.append_toArray, List.nil_append, List.cons_append]
  gi_wp2
  go_ret
  exact ⟨rfl, rfl⟩
def SortsIn (F : Fence) (m : Nat) : Prop :=
  (∀ (blk off cap : Nat) (ss : List (List UInt8)) (W : World), Holds encStr W blk off ss.toArray → blk < W.heap.size → ss.length < 4611686018427387904 →
    CallsIn F m Try.prog 36 #[.slice (some ⟨blk, off, none⟩) ss.length cap] W fun e w' => e = .returned (.tuple #[]) ∧ ∃ k os, w' = grow (putRow encStr (Sort.ahead W k) blk off (ss.mergeSort fun x y => decide (x ≤ y)).toArray) os) ∧
  (∀ (p : Option Addr) (cap : Nat) (W : World), CallsIn F m Try.prog 36 #[.slice p 0 cap] W fun e w' => e = .returned (.tuple #[]) ∧ w' = W)
set_option maxRecDepth 100000 in
set_option maxHeartbeats 2000000 in
theorem sorted_in (F : Fence) (n : Nat) (h6 : F.fn 25) (h8 : F.fn 35) (h9 : F.fn 36) (h11 : F.fn 48) (hro : F.round = none) (hn : 4 ≤ n) (hsort : SortsIn F (n - 1)) (g : Nat) (lb : Array Value) (hFg : F.fn g) (eg : ∀ args w, (callFunc g args).run Try.prog w = .ok (.enter g args) w)
    (S : List (List UInt8) → Prop) (N : Nat) (hN : N ≤ maxLen) (hNb : N * 16 ≤ 140737488355328) (w : World) (hseq : SeqGives F (n - 1 - 1 - 1) Try.prog g lb encStr S N w) :
    CallsIn F n Try.prog 25 #[.func (.func g) #[] lb] w fun e w' => ∃ (v : Value) (ss : List (List UInt8)), e = .returned v ∧ S ss ∧
      w'.ownsRow w.heap.size 9 1 v ss.length ((ss.mergeSort (fun x y => decide (x ≤ y))).map encStr) ∧ (v = .slice none 0 0 ↔ ss = []) ∧ Below w.heap.size w w' := by
  have h1 : 1 ≤ n := by omega
  refine callsIn_of_wp Try.func25 rfl h6 ?_ hro
  simp only [Try.ntmps25, List.size_toArray, List.length_cons, List.length_nil, Nat.reduceAdd, Nat.reduceSub, Array.replicate_succ, Array.replicate_zero, List.push_toArray, List.append_toArray, List.nil_append, List.cons_append]
  gi_wp2_with (gi_at_call 35; refine (collect_in F (n - 1) h8 h11 hro (by omega) g lb hFg eg _ N hN hNb _ hseq.bounded).mono ?_; rintro e W ⟨v, ss, rfl, ⟨hS, hlen⟩, hrow, hnil, hb⟩)
  rcases hrow.2 with ⟨rfl, hz⟩ | ⟨gb, cap, cur, rfl, hbase, hgb, r1, r2, r3, r4⟩
  ·
    have hss : ss = [] := List.eq_nil_of_length_eq_zero hz
    subst hss
    gi_wp2_with (gi_at_call 36; refine (hsort.2 none 0 W).mono ?_; rintro e w' ⟨rfl, rfl⟩)
    go_ret
    exact ⟨.slice none 0 0, [], rfl, hS, by simpa using hrow, by simp, hb⟩
  · have hH : Holds encStr W gb 0 ss.toArray := holds_of_block hgb (by simpa using r4)
    have hgl : gb < W.heap.size := (Array.getElem?_eq_some_iff.1 hgb).1
    have hsz : ss.length < 4611686018427387904 := by omega
    have cS := hsort.1 gb 0 cap ss W hH hgl hsz
    gi_wp2_with (gi_at_call 36; refine cS.mono ?_; rintro e w' ⟨rfl, nn, os, rfl⟩)
    go_ret
    exact ⟨_, ss, rfl, hS, ownsRow_sorted (by simp) hbase hgb r1 r2 r3, hnil, hb.grown (grownBy_sorted _) hb.size (fun j hj => by cases hj; exact hbase)⟩
end Go.Proofs.Ytgapgdnbgimdlaa.It
end
section
namespace Go.Proofs.Ytgapgdnbgimdlaa.PA
open Go.RowKit Go.Proofs.YtgapgdnbgimdlaaW.PrintWords Go.Proofs.YtgapgdnbgimdlaaW.PrintLast Go.Proofs.YtgapgdnbgimdlaaW.PrintMore
attribute [local go_sem] max2_int min2_int max_two min_two max_three min_three max_four min_four
set_option linter.unusedVariables false
set_option linter.unusedSimpArgs false
def errW : Option Int → Value
 | none => .nilIface
 | some c => .iface 0 (.int .i64 c)
theorem errW_none : errW none = .nilIface := rfl
theorem errW_some (c : Int) : errW (some c) = .iface 0 (.int .i64 c) := rfl
theorem info23 : (Try.prog.info? 23).map (fun i => (i.zero, i.size, i.bytes)) = some (some (.agg #[(.int .i64 0), (.int .i64 0), (.string ⟨#[]⟩)]), 3, 32) := by kernel_rfl
theorem info44 : (Try.prog.info? 44).map (fun i => (i.zero, i.size, i.bytes)) = some (some (.agg #[(.slice none 0 0), (.int .i64 0)]), 2, 32) := by kernel_rfl
structure S23 where
 f0 : Int
 f1 : Int
 f2 : ByteArray
def z23 : S23 := ⟨(0 : Int), (0 : Int), (⟨#[]⟩ : ByteArray)⟩
def k23 : Kd S23 := Kd.iso (Kd.pair (Kd.int .i64) (Kd.pair (Kd.int .i64) Kd.string)) (fun x : S23 => (x.f0, x.f1, x.f2))
theorem k23_open {w : World} {x : S23} {cs : List Value} (h : k23.K w x cs) : cs = [.int .i64 x.f0, .int .i64 x.f1, .string x.f2] := by
 obtain ⟨_, _, rfl, rfl, ⟨_, _, rfl, rfl, rfl⟩⟩ := h
 exact rfl
theorem k23_mk (w : World) (x : S23)  : k23.K w x [.int .i64 x.f0, .int .i64 x.f1, .string x.f2] := ⟨[.int .i64 x.f0], [.int .i64 x.f1, .string x.f2], rfl, rfl, ⟨[.int .i64 x.f1], [.string x.f2], rfl, rfl, rfl⟩⟩
theorem k23_mkM (w : World) (base : Nat) (ok : Nat → Prop) (x : S23)  : k23.M w base ok x [.int .i64 x.f0, .int .i64 x.f1, .string x.f2] := ⟨[.int .i64 x.f0], [.int .i64 x.f1, .string x.f2], rfl, rfl, ⟨[.int .i64 x.f1], [.string x.f2], rfl, rfl, rfl⟩⟩
def rd_T23 (xs : List S23) (i : Int) : S23 := xs.getD i.toNat z23
theorem at_T23 {w : World} {A : Option Addr} {n : Nat} {xs : List S23} (h : Kd.C k23 w A n xs) (i : Int) (h0 : 0 ≤ i) (h1 : i < n) : ∃ ad , A = some ad ∧ w.cell? (ad.add (i.toNat * 3)) = some (.int .i64 (rd_T23 xs i).f0) ∧ w.cell? ⟨(ad.add (i.toNat * 3)).block, (ad.add (i.toNat * 3)).off + 1, none⟩ = some (.int .i64 (rd_T23 xs i).f1) ∧ w.cell? ⟨(ad.add (i.toNat * 3)).block, (ad.add (i.toNat * 3)).off + 2, none⟩ = some (.string (rd_T23 xs i).f2) := by
 obtain ⟨ad, c, e, _, hK, hc0⟩ := Kd.C_get h z23 i h0 h1
 have hc : ∀ j u, c[j]? = some u → w.cell? (ad.add (i.toNat * 3 + j)) = some u := hc0
 obtain rfl := k23_open hK
 exact ⟨ad, e, hc 0 _ rfl, by rw [← add_field _ _ 1 (by omega)]; exact hc 1 _ rfl, by rw [← add_field _ _ 2 (by omega)]; exact hc 2 _ rfl⟩
def rd_L3 (xs : List (List S23)) (i : Int) : (List S23) := xs.getD i.toNat ([] : List S23)
theorem at_L3 {w : World} {A : Option Addr} {n : Nat} {xs : List (List S23)} (h : Kd.C (Kd.slice 23 k23) w A n xs) (i : Int) (h0 : 0 ≤ i) (h1 : i < n) : ∃ ad A0 c0, A = some ad ∧ w.cell? (ad.add i.toNat) = some (.slice A0 (rd_L3 xs i).length c0) ∧ (rd_L3 xs i).length ≤ c0 ∧ k23.C w A0 (rd_L3 xs i).length (rd_L3 xs i) := by
 obtain ⟨ad, c, e, _, hK, hc0⟩ := Kd.C_get h ([] : List S23) i h0 h1
 have hc : ∀ j u, c[j]? = some u → w.cell? (ad.add (i.toNat * 1 + j)) = some u := hc0
 obtain ⟨A0, c0, rfl, l0, g0⟩ := hK
 exact ⟨ad, A0, c0, e, by have hq := hc 0 _ rfl; rwa [Nat.mul_one, Nat.add_zero] at hq, l0, g0⟩
structure S44 where
 f0 : (List S23)
 f1 : Int
def z44 : S44 := ⟨([] : List S23), (0 : Int)⟩
def k44 : Kd S44 := Kd.iso (Kd.pair (Kd.slice 23 k23) (Kd.int .i64)) (fun x : S44 => (x.f0, x.f1))
theorem k44_open {w : World} {x : S44} {cs : List Value} (h : k44.K w x cs) : ∃ A0 c0, cs = [.slice A0 x.f0.length c0, .int .i64 x.f1] ∧ x.f0.length ≤ c0 ∧ k23.C w A0 x.f0.length x.f0 := by
 obtain ⟨_, _, rfl, ⟨A0, c0, rfl, l0, g0⟩, rfl⟩ := h
 exact ⟨A0, c0, rfl, l0, g0⟩
theorem k44_openM {w : World} {base : Nat} {ok : Nat → Prop} {x : S44} {cs : List Value} (h : k44.M w base ok x cs) : ∃ v0, cs = [v0, .int .i64 x.f1] ∧ k23.R 23 w base ok v0 x.f0 := by
 obtain ⟨_, _, rfl, ⟨v0, rfl, g0⟩, rfl⟩ := h
 exact ⟨v0, rfl, g0⟩
theorem k44_mk (w : World) (x : S44) {A0 : Option Addr} {c0 : Nat} (l0 : x.f0.length ≤ c0) (g0 : k23.C w A0 x.f0.length x.f0) : k44.K w x [.slice A0 x.f0.length c0, .int .i64 x.f1] := ⟨[.slice A0 x.f0.length c0], [.int .i64 x.f1], rfl, ⟨A0, c0, rfl, l0, g0⟩, rfl⟩
theorem k44_mkM (w : World) (base : Nat) (ok : Nat → Prop) (x : S44) {v0 : Value} (g0 : k23.R 23 w base ok v0 x.f0) : k44.M w base ok x [v0, .int .i64 x.f1] := ⟨[v0], [.int .i64 x.f1], rfl, ⟨v0, rfl, g0⟩, rfl⟩
theorem k44_openF {W : World} {ok : Nat → Prop} {x : S44} {cs : List Value} (h : Kd.FK k44 W ok x cs) : ∃ A0 c0, cs = [.slice A0 x.f0.length c0, .int .i64 x.f1] ∧ x.f0.length ≤ c0 ∧ Kd.F k23 W ok A0 x.f0.length x.f0 := by
 obtain ⟨A0, c0, rfl, l0, _⟩ := k44_open (Kd.FK_now h)
 exact ⟨A0, c0, rfl, l0, (fun W' hW => by obtain ⟨A0_, c0_, he, l0_, g0_⟩ := k44_open (h W' hW); injection (Option.some.inj (show some (Value.slice A0 x.f0.length c0) = some (Value.slice A0_ x.f0.length c0_) from congrArg (fun l => l[0]?) he)) with ha_ _ _; rw [ha_]; exact g0_)⟩
theorem k44_mkF (W : World) (ok : Nat → Prop) (x : S44) {A0 : Option Addr} {c0 : Nat} (l0 : x.f0.length ≤ c0) (g0 : Kd.F k23 W ok A0 x.f0.length x.f0) : Kd.FK k44 W ok x [.slice A0 x.f0.length c0, .int .i64 x.f1] := fun W2 hW => k44_mk W2 x l0 (g0 W2 hW)
def rd_T44 (xs : List S44) (i : Int) : S44 := xs.getD i.toNat z44
theorem at_T44 {w : World} {A : Option Addr} {n : Nat} {xs : List S44} (h : Kd.C k44 w A n xs) (i : Int) (h0 : 0 ≤ i) (h1 : i < n) : ∃ ad A0 c0, A = some ad ∧ w.cell? (ad.add (i.toNat * 2)) = some (.slice A0 (rd_T44 xs i).f0.length c0) ∧ w.cell? ⟨(ad.add (i.toNat * 2)).block, (ad.add (i.toNat * 2)).off + 1, none⟩ = some (.int .i64 (rd_T44 xs i).f1) ∧ (rd_T44 xs i).f0.length ≤ c0 ∧ k23.C w A0 (rd_T44 xs i).f0.length (rd_T44 xs i).f0 := by
 obtain ⟨ad, c, e, _, hK, hc0⟩ := Kd.C_get h z44 i h0 h1
 have hc : ∀ j u, c[j]? = some u → w.cell? (ad.add (i.toNat * 2 + j)) = some u := hc0
 obtain ⟨A0, c0, rfl, l0, g0⟩ := k44_open hK
 exact ⟨ad, A0, c0, e, hc 0 _ rfl, by rw [← add_field _ _ 1 (by omega)]; exact hc 1 _ rfl, l0, g0⟩
def rd_L5 (xs : List (List S44)) (i : Int) : (List S44) := xs.getD i.toNat ([] : List S44)
theorem at_L5 {w : World} {A : Option Addr} {n : Nat} {xs : List (List S44)} (h : Kd.C (Kd.slice 44 k44) w A n xs) (i : Int) (h0 : 0 ≤ i) (h1 : i < n) : ∃ ad A0 c0, A = some ad ∧ w.cell? (ad.add i.toNat) = some (.slice A0 (rd_L5 xs i).length c0) ∧ (rd_L5 xs i).length ≤ c0 ∧ k44.C w A0 (rd_L5 xs i).length (rd_L5 xs i) := by
 obtain ⟨ad, c, e, _, hK, hc0⟩ := Kd.C_get h ([] : List S44) i h0 h1
 have hc : ∀ j u, c[j]? = some u → w.cell? (ad.add (i.toNat * 1 + j)) = some u := hc0
 obtain ⟨A0, c0, rfl, l0, g0⟩ := hK
 exact ⟨ad, A0, c0, e, by have hq := hc 0 _ rfl; rwa [Nat.mul_one, Nat.add_zero] at hq, l0, g0⟩
structure S46 where
 f0 : Int
 f1 : Int
def z46 : S46 := ⟨(0 : Int), (0 : Int)⟩
def k46 : Kd S46 := Kd.iso (Kd.pair (Kd.int .i64) (Kd.int .i64)) (fun x : S46 => (x.f0, x.f1))
theorem k46_open {w : World} {x : S46} {cs : List Value} (h : k46.K w x cs) : cs = [.int .i64 x.f0, .int .i64 x.f1] := by
 obtain ⟨_, _, rfl, rfl, rfl⟩ := h
 exact rfl
theorem k46_mkM (w : World) (base : Nat) (ok : Nat → Prop) (x : S46)  : k46.M w base ok x [.int .i64 x.f0, .int .i64 x.f1] := ⟨[.int .i64 x.f0], [.int .i64 x.f1], rfl, rfl, rfl⟩
def rd_T46 (xs : List S46) (i : Int) : S46 := xs.getD i.toNat z46
theorem at_T46 {w : World} {A : Option Addr} {n : Nat} {xs : List S46} (h : Kd.C k46 w A n xs) (i : Int) (h0 : 0 ≤ i) (h1 : i < n) : ∃ ad , A = some ad ∧ w.cell? (ad.add (i.toNat * 2)) = some (.int .i64 (rd_T46 xs i).f0) ∧ w.cell? ⟨(ad.add (i.toNat * 2)).block, (ad.add (i.toNat * 2)).off + 1, none⟩ = some (.int .i64 (rd_T46 xs i).f1) := by
 obtain ⟨ad, c, e, _, hK, hc0⟩ := Kd.C_get h z46 i h0 h1
 have hc : ∀ j u, c[j]? = some u → w.cell? (ad.add (i.toNat * 2 + j)) = some u := hc0
 obtain rfl := k46_open hK
 exact ⟨ad, e, hc 0 _ rfl, by rw [← add_field _ _ 1 (by omega)]; exact hc 1 _ rfl⟩
end Go.Proofs.Ytgapgdnbgimdlaa.PA
end
section
namespace Go.Proofs.Ytgapgdnbgimdlaa.PA
open Go.RowKit Go.Proofs.YtgapgdnbgimdlaaW.PrintWords Go.Proofs.YtgapgdnbgimdlaaW.PrintLast Go.Proofs.YtgapgdnbgimdlaaW.PrintMore
theorem isNaNs_calls (a0 : ByteArray) (w : World) : Calls Try.prog 46 #[.string a0] w fun e w' => e = .returned (.bool false) ∧ ∃ n, w' = w.drewN n := by
 have c0 : (a0.toList != a0.toList) = false := by simp
 have c1 : (!a0.toList == a0.toList) = false := by simp
 go_enter Try.func46, Try.ntmps46
 go_wp2
 go_ret
 exact ⟨by simp, 0, rfl⟩
def cmp_Compare_string.f (a0 : ByteArray) (a1 : ByteArray) : Option Int := some (if Op.bytesLess a0.toList a1.toList = true then -1 else if a0.toList = a1.toList then 0 else 1)
theorem cmp_Compare_string.calls (a0 : ByteArray) (a1 : ByteArray) (r : Int) (w : World) (h : cmp_Compare_string.f a0 a1 = some r) :
  Calls Try.prog 31 #[.string a0, .string a1] w fun e w' => e = .returned (.int .i64 r) ∧ Drawn0 w w' := by
 unfold cmp_Compare_string.f at h
 obtain rfl := Option.some.inj h
 clear h
 by_cases hl : Op.bytesLess a0.toList a1.toList = true
 ·rw [if_pos hl]
  go_enter Try.func31, Try.ntmps31
  go_wp2_with (go_at_call 46; (with_reducible refine (isNaNs_calls _ _).mono ?_); rintro e w' ⟨rfl, n1, rfl⟩)
  go_ret
  exact ⟨rfl, ⟨⟨_, rfl⟩⟩⟩
 ·have hl0 : Op.bytesLess a0.toList a1.toList = false := by simpa using hl
  rw [if_neg hl]
  clear hl
  by_cases he : a0.toList = a1.toList
  ·rw [if_pos he]
   have he0 : (!a0.toList == a1.toList) = false := by simp [he]
   have HE := Aside0.mk he
   clear he
   go_enter Try.func31, Try.ntmps31
   go_wp2_with (go_at_call 46; (with_reducible refine (isNaNs_calls _ _).mono ?_); rintro e w' ⟨rfl, n1, rfl⟩)
   go_ret
   exact ⟨rfl, ⟨⟨_, rfl⟩⟩⟩
  ·rw [if_neg he]
   have he0 : (!a0.toList == a1.toList) = true := by simp [he]
   have HE := Aside0.mk he
   clear he
   go_enter Try.func31, Try.ntmps31
   go_wp2_with (go_at_call 46; (with_reducible refine (isNaNs_calls _ _).mono ?_); rintro e w' ⟨rfl, n1, rfl⟩)
   go_ret
   exact ⟨rfl, ⟨⟨_, rfl⟩⟩⟩
end Go.Proofs.Ytgapgdnbgimdlaa.PA
end
section
namespace Go.Proofs.Ytgapgdnbgimdlaa.PA
open Go.RowKit Go.Proofs.YtgapgdnbgimdlaaW.PrintWords Go.Proofs.YtgapgdnbgimdlaaW.PrintLast Go.Proofs.YtgapgdnbgimdlaaW.PrintMore
attribute [local go_sem] max2_int min2_int max_two min_two max_three min_three max_four min_four
set_option linter.unusedVariables false
set_option linter.unusedSimpArgs false
def cmp_isNaN_int.f (a0 : Int) : Option (Bool) := some (a0 != a0)
set_option maxHeartbeats 8000000 in
set_option maxRecDepth 100000 in
theorem cmp_isNaN_int.calls (a0 : Int) (r : Bool) (w : World) (h : cmp_isNaN_int.f a0 = some r) :
  Calls Try.prog 44 #[.int .i64 a0] w fun e w' => e = .returned (.bool r) ∧ Drawn0 w w' := by
 have H : (some (a0 != a0)) = some r := h
 clear h
 obtain rfl := Option.some.inj H
 go_enter Try.func44, Try.ntmps44
 go_wp2
 go_ret
 exact ⟨by first | rfl | (simp; done) | (simp [*]; done), by repeat (first | exact Drawn0.refl _ | apply Drawn0.step)⟩
def cmp_Compare_int.f (a0 : Int) (a1 : Int) : Option (Int) := (cmp_isNaN_int.f a0).bind fun t101 => ((cmp_isNaN_int.f a1).bind fun t102 => (if t101 = true then (if t102 = true then (some 0) else (some (-1))) else (if t102 = true then (some 1) else (if a0 < a1 then (some (-1)) else (if a0 > a1 then (some 1) else (some 0))))))
set_option maxHeartbeats 8000000 in
set_option maxRecDepth 100000 in
theorem cmp_Compare_int.calls (a0 : Int) (a1 : Int) (r : Int) (w : World) (h : cmp_Compare_int.f a0 a1 = some r) :
  Calls Try.prog 29 #[.int .i64 a0, .int .i64 a1] w fun e w' => e = .returned (.int .i64 r) ∧ Drawn0 w w' := by
 have H : ((cmp_isNaN_int.f a0).bind fun t101 => ((cmp_isNaN_int.f a1).bind fun t102 => (if t101 = true then (if t102 = true then (some 0) else (some (-1))) else (if t102 = true then (some 1) else (if a0 < a1 then (some (-1)) else (if a0 > a1 then (some 1) else (some 0))))))) = some r := h
 clear h
 replace H := Option.bind_eq_some_iff.mp H
 obtain ⟨t101, A30, H⟩ := H
 replace H : ((cmp_isNaN_int.f a1).bind fun t102 => (if t101 = true then (if t102 = true then (some 0) else (some (-1))) else (if t102 = true then (some 1) else (if a0 < a1 then (some (-1)) else (if a0 > a1 then (some 1) else (some 0)))))) = some r := H
 have A3 := Aside0.mk A30
 clear A30
 replace H := Option.bind_eq_some_iff.mp H
 obtain ⟨t102, A40, H⟩ := H
 replace H : (if t101 = true then (if t102 = true then (some 0) else (some (-1))) else (if t102 = true then (some 1) else (if a0 < a1 then (some (-1)) else (if a0 > a1 then (some 1) else (some 0))))) = some r := H
 have A4 := Aside0.mk A40
 clear A40
 by_cases c5 : t101 = true
 ·subst c5
  have H1 : (if t102 = true then (some 0) else (some (-1))) = some r := by rw [if_pos rfl] at H; exact H
  clear H
  have H := H1
  clear H1
  by_cases c6 : t102 = true
  ·subst c6
   have H1 : (some 0) = some r := by rw [if_pos rfl] at H; exact H
   clear H
   have H := H1
   clear H1
   obtain rfl := Option.some.inj H
   go_enter Try.func29, Try.ntmps29
   go_wp2_with (first | ((with_reducible refine gate_callee (f := 44) rfl ?_); refine goesL_ (some 8) rfl rfl Try.func44 (by kernel_rfl) rfl #[.int .i64 a0] rfl (by (try simp only [List.map_toArray, List.map_cons, List.map_nil]); first | done | rfl | (simp only [List.length_drop, List.length_take]; rfl)) ?_; (with_reducible refine (cmp_isNaN_int.calls a0 true _ A3.out).mono ?_); rintro e w' ⟨rfl, ⟨nd, rfl⟩⟩; refine ⟨_, rfl, ?_⟩) | ((with_reducible refine gate_callee (f := 44) rfl ?_); refine goesL_ (some 10) rfl rfl Try.func44 (by kernel_rfl) rfl #[.int .i64 a1] rfl (by (try simp only [List.map_toArray, List.map_cons, List.map_nil]); first | done | rfl | (simp only [List.length_drop, List.length_take]; rfl)) ?_; (with_reducible refine (cmp_isNaN_int.calls a1 true _ A4.out).mono ?_); rintro e w' ⟨rfl, ⟨nd, rfl⟩⟩; refine ⟨_, rfl, ?_⟩))
   go_ret
   exact ⟨by first | rfl | (simp; done) | (simp [*]; done), by repeat (first | exact Drawn0.refl _ | apply Drawn0.step)⟩
  ·replace c6 := Bool.eq_false_iff.mpr c6
   subst c6
   have H1 : (some (-1)) = some r := by rw [if_neg (show ¬ (false = true) by decide)] at H; exact H
   clear H
   have H := H1
   clear H1
   obtain rfl := Option.some.inj H
   go_enter Try.func29, Try.ntmps29
   go_wp2_with (first | ((with_reducible refine gate_callee (f := 44) rfl ?_); refine goesL_ (some 8) rfl rfl Try.func44 (by kernel_rfl) rfl #[.int .i64 a0] rfl (by (try simp only [List.map_toArray, List.map_cons, List.map_nil]); first | done | rfl | (simp only [List.length_drop, List.length_take]; rfl)) ?_; (with_reducible refine (cmp_isNaN_int.calls a0 true _ A3.out).mono ?_); rintro e w' ⟨rfl, ⟨nd, rfl⟩⟩; refine ⟨_, rfl, ?_⟩) | ((with_reducible refine gate_callee (f := 44) rfl ?_); refine goesL_ (some 10) rfl rfl Try.func44 (by kernel_rfl) rfl #[.int .i64 a1] rfl (by (try simp only [List.map_toArray, List.map_cons, List.map_nil]); first | done | rfl | (simp only [List.length_drop, List.length_take]; rfl)) ?_; (with_reducible refine (cmp_isNaN_int.calls a1 false _ A4.out).mono ?_); rintro e w' ⟨rfl, ⟨nd, rfl⟩⟩; refine ⟨_, rfl, ?_⟩))
   go_ret
   exact ⟨by first | rfl | (simp; done) | (simp [*]; done), by repeat (first | exact Drawn0.refl _ | apply Drawn0.step)⟩
 ·replace c5 := Bool.eq_false_iff.mpr c5
  subst c5
  have H1 : (if t102 = true then (some 1) else (if a0 < a1 then (some (-1)) else (if a0 > a1 then (some 1) else (some 0)))) = some r := by rw [if_neg (show ¬ (false = true) by decide)] at H; exact H
  clear H
  have H := H1
  clear H1
  by_cases c7 : t102 = true
  ·subst c7
   have H1 : (some 1) = some r := by rw [if_pos rfl] at H; exact H
   clear H
   have H := H1
   clear H1
   obtain rfl := Option.some.inj H
   go_enter Try.func29, Try.ntmps29
   go_wp2_with (first | ((with_reducible refine gate_callee (f := 44) rfl ?_); refine goesL_ (some 8) rfl rfl Try.func44 (by kernel_rfl) rfl #[.int .i64 a0] rfl (by (try simp only [List.map_toArray, List.map_cons, List.map_nil]); first | done | rfl | (simp only [List.length_drop, List.length_take]; rfl)) ?_; (with_reducible refine (cmp_isNaN_int.calls a0 false _ A3.out).mono ?_); rintro e w' ⟨rfl, ⟨nd, rfl⟩⟩; refine ⟨_, rfl, ?_⟩) | ((with_reducible refine gate_callee (f := 44) rfl ?_); refine goesL_ (some 10) rfl rfl Try.func44 (by kernel_rfl) rfl #[.int .i64 a1] rfl (by (try simp only [List.map_toArray, List.map_cons, List.map_nil]); first | done | rfl | (simp only [List.length_drop, List.length_take]; rfl)) ?_; (with_reducible refine (cmp_isNaN_int.calls a1 true _ A4.out).mono ?_); rintro e w' ⟨rfl, ⟨nd, rfl⟩⟩; refine ⟨_, rfl, ?_⟩))
   go_ret
   exact ⟨by first | rfl | (simp; done) | (simp [*]; done), by repeat (first | exact Drawn0.refl _ | apply Drawn0.step)⟩
  ·replace c7 := Bool.eq_false_iff.mpr c7
   subst c7
   have H1 : (if a0 < a1 then (some (-1)) else (if a0 > a1 then (some 1) else (some 0))) = some r := by rw [if_neg (show ¬ (false = true) by decide)] at H; exact H
   clear H
   have H := H1
   clear H1
   by_cases c8 : a0 < a1
   ·rw [if_pos c8] at H
    have c8b0 : decide (a0 < a1) = true := decide_eq_true c8
    clear c8
    obtain rfl := Option.some.inj H
    go_enter Try.func29, Try.ntmps29
    go_wp2_with (first | ((with_reducible refine gate_callee (f := 44) rfl ?_); refine goesL_ (some 8) rfl rfl Try.func44 (by kernel_rfl) rfl #[.int .i64 a0] rfl (by (try simp only [List.map_toArray, List.map_cons, List.map_nil]); first | done | rfl | (simp only [List.length_drop, List.length_take]; rfl)) ?_; (with_reducible refine (cmp_isNaN_int.calls a0 false _ A3.out).mono ?_); rintro e w' ⟨rfl, ⟨nd, rfl⟩⟩; refine ⟨_, rfl, ?_⟩) | ((with_reducible refine gate_callee (f := 44) rfl ?_); refine goesL_ (some 10) rfl rfl Try.func44 (by kernel_rfl) rfl #[.int .i64 a1] rfl (by (try simp only [List.map_toArray, List.map_cons, List.map_nil]); first | done | rfl | (simp only [List.length_drop, List.length_take]; rfl)) ?_; (with_reducible refine (cmp_isNaN_int.calls a1 false _ A4.out).mono ?_); rintro e w' ⟨rfl, ⟨nd, rfl⟩⟩; refine ⟨_, rfl, ?_⟩))
    go_ret
    exact ⟨by first | rfl | (simp; done) | (simp [*]; done), by repeat (first | exact Drawn0.refl _ | apply Drawn0.step)⟩
   ·rw [if_neg c8] at H
    have c8b0 : decide (a0 < a1) = false := decide_eq_false c8
    clear c8
    by_cases c9 : a0 > a1
    ·rw [if_pos c9] at H
     have c9b0 : decide (a1 < a0) = true := decide_eq_true c9
     clear c9
     obtain rfl := Option.some.inj H
     go_enter Try.func29, Try.ntmps29
     go_wp2_with (first | ((with_reducible refine gate_callee (f := 44) rfl ?_); refine goesL_ (some 8) rfl rfl Try.func44 (by kernel_rfl) rfl #[.int .i64 a0] rfl (by (try simp only [List.map_toArray, List.map_cons, List.map_nil]); first | done | rfl | (simp only [List.length_drop, List.length_take]; rfl)) ?_; (with_reducible refine (cmp_isNaN_int.calls a0 false _ A3.out).mono ?_); rintro e w' ⟨rfl, ⟨nd, rfl⟩⟩; refine ⟨_, rfl, ?_⟩) | ((with_reducible refine gate_callee (f := 44) rfl ?_); refine goesL_ (some 10) rfl rfl Try.func44 (by kernel_rfl) rfl #[.int .i64 a1] rfl (by (try simp only [List.map_toArray, List.map_cons, List.map_nil]); first | done | rfl | (simp only [List.length_drop, List.length_take]; rfl)) ?_; (with_reducible refine (cmp_isNaN_int.calls a1 false _ A4.out).mono ?_); rintro e w' ⟨rfl, ⟨nd, rfl⟩⟩; refine ⟨_, rfl, ?_⟩))
     go_ret
     exact ⟨by first | rfl | (simp; done) | (simp [*]; done), by repeat (first | exact Drawn0.refl _ | apply Drawn0.step)⟩
    ·rw [if_neg c9] at H
     have c9b0 : decide (a1 < a0) = false := decide_eq_false c9
     clear c9
     obtain rfl := Option.some.inj H
     go_enter Try.func29, Try.ntmps29
     go_wp2_with (first | ((with_reducible refine gate_callee (f := 44) rfl ?_); refine goesL_ (some 8) rfl rfl Try.func44 (by kernel_rfl) rfl #[.int .i64 a0] rfl (by (try simp only [List.map_toArray, List.map_cons, List.map_nil]); first | done | rfl | (simp only [List.length_drop, List.length_take]; rfl)) ?_; (with_reducible refine (cmp_isNaN_int.calls a0 false _ A3.out).mono ?_); rintro e w' ⟨rfl, ⟨nd, rfl⟩⟩; refine ⟨_, rfl, ?_⟩) | ((with_reducible refine gate_callee (f := 44) rfl ?_); refine goesL_ (some 10) rfl rfl Try.func44 (by kernel_rfl) rfl #[.int .i64 a1] rfl (by (try simp only [List.map_toArray, List.map_cons, List.map_nil]); first | done | rfl | (simp only [List.length_drop, List.length_take]; rfl)) ?_; (with_reducible refine (cmp_isNaN_int.calls a1 false _ A4.out).mono ?_); rintro e w' ⟨rfl, ⟨nd, rfl⟩⟩; refine ⟨_, rfl, ?_⟩))
     go_ret
     exact ⟨by first | rfl | (simp; done) | (simp [*]; done), by repeat (first | exact Drawn0.refl _ | apply Drawn0.step)⟩
def cmp_isNaN_int64.f (a0 : Int) : Option (Bool) := some (a0 != a0)
set_option maxHeartbeats 8000000 in
set_option maxRecDepth 100000 in
theorem cmp_isNaN_int64.calls (a0 : Int) (r : Bool) (w : World) (h : cmp_isNaN_int64.f a0 = some r) :
  Calls Try.prog 45 #[.int .i64 a0] w fun e w' => e = .returned (.bool r) ∧ Drawn0 w w' := by
 have H : (some (a0 != a0)) = some r := h
 clear h
 obtain rfl := Option.some.inj H
 go_enter Try.func45, Try.ntmps45
 go_wp2
 go_ret
 exact ⟨by first | rfl | (simp; done) | (simp [*]; done), by repeat (first | exact Drawn0.refl _ | apply Drawn0.step)⟩
def cmp_Compare_int64.f (a0 : Int) (a1 : Int) : Option (Int) := (cmp_isNaN_int64.f a0).bind fun t103 => ((cmp_isNaN_int64.f a1).bind fun t104 => (if t103 = true then (if t104 = true then (some 0) else (some (-1))) else (if t104 = true then (some 1) else (if a0 < a1 then (some (-1)) else (if a0 > a1 then (some 1) else (some 0))))))
set_option maxHeartbeats 8000000 in
set_option maxRecDepth 100000 in
theorem cmp_Compare_int64.calls (a0 : Int) (a1 : Int) (r : Int) (w : World) (h : cmp_Compare_int64.f a0 a1 = some r) :
  Calls Try.prog 30 #[.int .i64 a0, .int .i64 a1] w fun e w' => e = .returned (.int .i64 r) ∧ Drawn0 w w' := by
 have H : ((cmp_isNaN_int64.f a0).bind fun t103 => ((cmp_isNaN_int64.f a1).bind fun t104 => (if t103 = true then (if t104 = true then (some 0) else (some (-1))) else (if t104 = true then (some 1) else (if a0 < a1 then (some (-1)) else (if a0 > a1 then (some 1) else (some 0))))))) = some r := h
 clear h
 replace H := Option.bind_eq_some_iff.mp H
 obtain ⟨t103, A30, H⟩ := H
 replace H : ((cmp_isNaN_int64.f a1).bind fun t104 => (if t103 = true then (if t104 = true then (some 0) else (some (-1))) else (if t104 = true then (some 1) else (if a0 < a1 then (some (-1)) else (if a0 > a1 then (some 1) else (some 0)))))) = some r := H
 have A3 := Aside0.mk A30
 clear A30
 replace H := Option.bind_eq_some_iff.mp H
 obtain ⟨t104, A40, H⟩ := H
 replace H : (if t103 = true then (if t104 = true then (some 0) else (some (-1))) else (if t104 = true then (some 1) else (if a0 < a1 then (some (-1)) else (if a0 > a1 then (some 1) else (some 0))))) = some r := H
 have A4 := Aside0.mk A40
 clear A40
 by_cases c5 : t103 = true
 ·subst c5
  have H1 : (if t104 = true then (some 0) else (some (-1))) = some r := by rw [if_pos rfl] at H; exact H
  clear H
  have H := H1
  clear H1
  by_cases c6 : t104 = true
  ·subst c6
   have H1 : (some 0) = some r := by rw [if_pos rfl] at H; exact H
   clear H
   have H := H1
   clear H1
   obtain rfl := Option.some.inj H
   go_enter Try.func30, Try.ntmps30
   go_wp2_with (first | ((with_reducible refine gate_callee (f := 45) rfl ?_); refine goesL_ (some 8) rfl rfl Try.func45 (by kernel_rfl) rfl #[.int .i64 a0] rfl (by (try simp only [List.map_toArray, List.map_cons, List.map_nil]); first | done | rfl | (simp only [List.length_drop, List.length_take]; rfl)) ?_; (with_reducible refine (cmp_isNaN_int64.calls a0 true _ A3.out).mono ?_); rintro e w' ⟨rfl, ⟨nd, rfl⟩⟩; refine ⟨_, rfl, ?_⟩) | ((with_reducible refine gate_callee (f := 45) rfl ?_); refine goesL_ (some 10) rfl rfl Try.func45 (by kernel_rfl) rfl #[.int .i64 a1] rfl (by (try simp only [List.map_toArray, List.map_cons, List.map_nil]); first | done | rfl | (simp only [List.length_drop, List.length_take]; rfl)) ?_; (with_reducible refine (cmp_isNaN_int64.calls a1 true _ A4.out).mono ?_); rintro e w' ⟨rfl, ⟨nd, rfl⟩⟩; refine ⟨_, rfl, ?_⟩))
   go_ret
   exact ⟨by first | rfl | (simp; done) | (simp [*]; done), by repeat (first | exact Drawn0.refl _ | apply Drawn0.step)⟩
  ·replace c6 := Bool.eq_false_iff.mpr c6
   subst c6
   have H1 : (some (-1)) = some r := by rw [if_neg (show ¬ (false = true) by decide)] at H; exact H
   clear H
   have H := H1
   clear H1
   obtain rfl := Option.some.inj H
   go_enter Try.func30, Try.ntmps30
   go_wp2_with (first | ((with_reducible refine gate_callee (f := 45) rfl ?_); refine goesL_ (some 8) rfl rfl Try.func45 (by kernel_rfl) rfl #[.int .i64 a0] rfl (by (try simp only [List.map_toArray, List.map_cons, List.map_nil]); first | done | rfl | (simp only [List.length_drop, List.length_take]; rfl)) ?_; (with_reducible refine (cmp_isNaN_int64.calls a0 true _ A3.out).mono ?_); rintro e w' ⟨rfl, ⟨nd, rfl⟩⟩; refine ⟨_, rfl, ?_⟩) | ((with_reducible refine gate_callee (f := 45) rfl ?_); refine goesL_ (some 10) rfl rfl Try.func45 (by kernel_rfl) rfl #[.int .i64 a1] rfl (by (try simp only [List.map_toArray, List.map_cons, List.map_nil]); first | done | rfl | (simp only [List.length_drop, List.length_take]; rfl)) ?_; (with_reducible refine (cmp_isNaN_int64.calls a1 false _ A4.out).mono ?_); rintro e w' ⟨rfl, ⟨nd, rfl⟩⟩; refine ⟨_, rfl, ?_⟩))
   go_ret
   exact ⟨by first | rfl | (simp; done) | (simp [*]; done), by repeat (first | exact Drawn0.refl _ | apply Drawn0.step)⟩
 ·replace c5 := Bool.eq_false_iff.mpr c5
  subst c5
  have H1 : (if t104 = true then (some 1) else (if a0 < a1 then (some (-1)) else (if a0 > a1 then (some 1) else (some 0)))) = some r := by rw [if_neg (show ¬ (false = true) by decide)] at H; exact H
  clear H
  have H := H1
  clear H1
  by_cases c7 : t104 = true
  ·subst c7
   have H1 : (some 1) = some r := by rw [if_pos rfl] at H; exact H
   clear H
   have H := H1
   clear H1
   obtain rfl := Option.some.inj H
   go_enter Try.func30, Try.ntmps30
   go_wp2_with (first | ((with_reducible refine gate_callee (f := 45) rfl ?_); refine goesL_ (some 8) rfl rfl Try.func45 (by kernel_rfl) rfl #[.int .i64 a0] rfl (by (try simp only [List.map_toArray, List.map_cons, List.map_nil]); first | done | rfl | (simp only [List.length_drop, List.length_take]; rfl)) ?_; (with_reducible refine (cmp_isNaN_int64.calls a0 false _ A3.out).mono ?_); rintro e w' ⟨rfl, ⟨nd, rfl⟩⟩; refine ⟨_, rfl, ?_⟩) | ((with_reducible refine gate_callee (f := 45) rfl ?_); refine goesL_ (some 10) rfl rfl Try.func45 (by kernel_rfl) rfl #[.int .i64 a1] rfl (by (try simp only [List.map_toArray, List.map_cons, List.map_nil]); first | done | rfl | (simp only [List.length_drop, List.length_take]; rfl)) ?_; (with_reducible refine (cmp_isNaN_int64.calls a1 true _ A4.out).mono ?_); rintro e w' ⟨rfl, ⟨nd, rfl⟩⟩; refine ⟨_, rfl, ?_⟩))
   go_ret
   exact ⟨by first | rfl | (simp; done) | (simp [*]; done), by repeat (first | exact Drawn0.refl _ | apply Drawn0.step)⟩
  ·replace c7 := Bool.eq_false_iff.mpr c7
   subst c7
   have H1 : (if a0 < a1 then (some (-1)) else (if a0 > a1 then (some 1) else (some 0))) = some r := by rw [if_neg (show ¬ (false = true) by decide)] at H; exact H
   clear H
   have H := H1
   clear H1
   by_cases c8 : a0 < a1
   ·rw [if_pos c8] at H
    have c8b0 : decide (a0 < a1) = true := decide_eq_true c8
    clear c8
    obtain rfl := Option.some.inj H
    go_enter Try.func30, Try.ntmps30
    go_wp2_with (first | ((with_reducible refine gate_callee (f := 45) rfl ?_); refine goesL_ (some 8) rfl rfl Try.func45 (by kernel_rfl) rfl #[.int .i64 a0] rfl (by (try simp only [List.map_toArray, List.map_cons, List.map_nil]); first | done | rfl | (simp only [List.length_drop, List.length_take]; rfl)) ?_; (with_reducible refine (cmp_isNaN_int64.calls a0 false _ A3.out).mono ?_); rintro e w' ⟨rfl, ⟨nd, rfl⟩⟩; refine ⟨_, rfl, ?_⟩) | ((with_reducible refine gate_callee (f := 45) rfl ?_); refine goesL_ (some 10) rfl rfl Try.func45 (by kernel_rfl) rfl #[.int .i64 a1] rfl (by (try simp only [List.map_toArray, List.map_cons, List.map_nil]); first | done | rfl | (simp only [List.length_drop, List.length_take]; rfl)) ?_; (with_reducible refine (cmp_isNaN_int64.calls a1 false _ A4.out).mono ?_); rintro e w' ⟨rfl, ⟨nd, rfl⟩⟩; refine ⟨_, rfl, ?_⟩))
    go_ret
    exact ⟨by first | rfl | (simp; done) | (simp [*]; done), by repeat (first | exact Drawn0.refl _ | apply Drawn0.step)⟩
   ·rw [if_neg c8] at H
    have c8b0 : decide (a0 < a1) = false := decide_eq_false c8
    clear c8
    by_cases c9 : a0 > a1
    ·rw [if_pos c9] at H
     have c9b0 : decide (a1 < a0) = true := decide_eq_true c9
     clear c9
     obtain rfl := Option.some.inj H
     go_enter Try.func30, Try.ntmps30
     go_wp2_with (first | ((with_reducible refine gate_callee (f := 45) rfl ?_); refine goesL_ (some 8) rfl rfl Try.func45 (by kernel_rfl) rfl #[.int .i64 a0] rfl (by (try simp only [List.map_toArray, List.map_cons, List.map_nil]); first | done | rfl | (simp only [List.length_drop, List.length_take]; rfl)) ?_; (with_reducible refine (cmp_isNaN_int64.calls a0 false _ A3.out).mono ?_); rintro e w' ⟨rfl, ⟨nd, rfl⟩⟩; refine ⟨_, rfl, ?_⟩) | ((with_reducible refine gate_callee (f := 45) rfl ?_); refine goesL_ (some 10) rfl rfl Try.func45 (by kernel_rfl) rfl #[.int .i64 a1] rfl (by (try simp only [List.map_toArray, List.map_cons, List.map_nil]); first | done | rfl | (simp only [List.length_drop, List.length_take]; rfl)) ?_; (with_reducible refine (cmp_isNaN_int64.calls a1 false _ A4.out).mono ?_); rintro e w' ⟨rfl, ⟨nd, rfl⟩⟩; refine ⟨_, rfl, ?_⟩))
     go_ret
     exact ⟨by first | rfl | (simp; done) | (simp [*]; done), by repeat (first | exact Drawn0.refl _ | apply Drawn0.step)⟩
    ·rw [if_neg c9] at H
     have c9b0 : decide (a1 < a0) = false := decide_eq_false c9
     clear c9
     obtain rfl := Option.some.inj H
     go_enter Try.func30, Try.ntmps30
     go_wp2_with (first | ((with_reducible refine gate_callee (f := 45) rfl ?_); refine goesL_ (some 8) rfl rfl Try.func45 (by kernel_rfl) rfl #[.int .i64 a0] rfl (by (try simp only [List.map_toArray, List.map_cons, List.map_nil]); first | done | rfl | (simp only [List.length_drop, List.length_take]; rfl)) ?_; (with_reducible refine (cmp_isNaN_int64.calls a0 false _ A3.out).mono ?_); rintro e w' ⟨rfl, ⟨nd, rfl⟩⟩; refine ⟨_, rfl, ?_⟩) | ((with_reducible refine gate_callee (f := 45) rfl ?_); refine goesL_ (some 10) rfl rfl Try.func45 (by kernel_rfl) rfl #[.int .i64 a1] rfl (by (try simp only [List.map_toArray, List.map_cons, List.map_nil]); first | done | rfl | (simp only [List.length_drop, List.length_take]; rfl)) ?_; (with_reducible refine (cmp_isNaN_int64.calls a1 false _ A4.out).mono ?_); rintro e w' ⟨rfl, ⟨nd, rfl⟩⟩; refine ⟨_, rfl, ?_⟩))
     go_ret
     exact ⟨by first | rfl | (simp; done) | (simp [*]; done), by repeat (first | exact Drawn0.refl _ | apply Drawn0.step)⟩
def value_Cmp.f (a0_0 : Int) (a0_1 : Int) (a0_2 : ByteArray) (a1_0 : Int) (a1_1 : Int) (a1_2 : ByteArray) : Option (Int) := (cmp_Compare_int.f a0_0 a1_0).bind fun t107 => (if t107 = 0 then ((cmp_Compare_int64.f a0_1 a1_1).bind fun t108 => (if t108 = 0 then ((cmp_Compare_string.f a0_2 a1_2).bind fun t109 => (some t109)) else (some t108))) else (some t107))
set_option maxHeartbeats 8000000 in
set_option maxRecDepth 100000 in
theorem value_Cmp.calls (a0_0 : Int) (a0_1 : Int) (a0_2 : ByteArray) (a1_0 : Int) (a1_1 : Int) (a1_2 : ByteArray) (r : Int) (w : World) (h : value_Cmp.f a0_0 a0_1 a0_2 a1_0 a1_1 a1_2 = some r) :
  Calls Try.prog 18 #[.agg #[.int .i64 a0_0, .int .i64 a0_1, .string a0_2], .agg #[.int .i64 a1_0, .int .i64 a1_1, .string a1_2]] w fun e w' => e = .returned (.int .i64 r) ∧ Below w.heap.size w w' := by
 have hu23 := Try.underlying23
 have HB := Aside0.mk (Below.refl w.heap.size w)
 have H : ((cmp_Compare_int.f a0_0 a1_0).bind fun t107 => (if t107 = 0 then ((cmp_Compare_int64.f a0_1 a1_1).bind fun t108 => (if t108 = 0 then ((cmp_Compare_string.f a0_2 a1_2).bind fun t109 => (some t109)) else (some t108))) else (some t107))) = some r := h
 clear h
 replace H := Option.bind_eq_some_iff.mp H
 obtain ⟨t107, A30, H⟩ := H
 replace H : (if t107 = 0 then ((cmp_Compare_int64.f a0_1 a1_1).bind fun t108 => (if t108 = 0 then ((cmp_Compare_string.f a0_2 a1_2).bind fun t109 => (some t109)) else (some t108))) else (some t107)) = some r := H
 have A3 := Aside0.mk A30
 clear A30
 by_cases c4 : t107 = 0
 ·rw [if_pos c4] at H
  have c4b0 : (t107 == 0) = true := beq_iff_eq.mpr c4
  have c4b1 : (t107 != 0) = false := bne_eq_false_iff_eq.mpr c4
  clear c4
  replace H := Option.bind_eq_some_iff.mp H
  obtain ⟨t108, A50, H⟩ := H
  replace H : (if t108 = 0 then ((cmp_Compare_string.f a0_2 a1_2).bind fun t109 => (some t109)) else (some t108)) = some r := H
  have A5 := Aside0.mk A50
  clear A50
  by_cases c6 : t108 = 0
  ·rw [if_pos c6] at H
   have c6b0 : (t108 == 0) = true := beq_iff_eq.mpr c6
   have c6b1 : (t108 != 0) = false := bne_eq_false_iff_eq.mpr c6
   clear c6
   replace H := Option.bind_eq_some_iff.mp H
   obtain ⟨t109, A70, H⟩ := H
   replace H : (some t109) = some r := H
   have A7 := Aside0.mk A70
   clear A70
   obtain rfl := Option.some.inj H
   go_enter Try.func18, Try.ntmps18
   go_wp2_with (first | ((with_reducible refine gate_dst (N := 2) rfl ?_); refine box_event ?hg (N := 2) ?hd (cs := #[.int .i64 a0_0, .int .i64 a0_1, .string a0_2]) (t := 23) ?hr ?_; (case hd => rfl); (case hg => rfl); (case hr => first | (go_simp; done) | (go_simp; rfl)); intro gb105 hg w8 hbox hb; have n0_ := Aside0.mk (below_step qh_ hb); have n1_ := Aside0.mk (hbox); have n2_ := Aside0.mk ((by rw [hg]; exact (below_size qh_) : w.heap.size ≤ gb105)); have n3_ := Aside0.mk ((by rw [hg]; exact (below_size qh_) : w.heap.size ≤ gb105)); clear HB; have HB := n0_; have BK105 := n1_; have GW105 := n2_; have GE105 := n3_; clear n0_ n1_ n2_ n3_; clear hb hbox hg) | ((with_reducible refine gate_dst (N := 3) rfl ?_); refine box_event ?hg (N := 3) ?hd (cs := #[.int .i64 a1_0, .int .i64 a1_1, .string a1_2]) (t := 23) ?hr ?_; (case hd => rfl); (case hg => rfl); (case hr => first | (go_simp; done) | (go_simp; rfl)); intro gb106 hg w9 hbox hb; have n0_ := Aside0.mk (blk_below (g := gb105) (o := .cells #[.int .i64 a0_0, .int .i64 a0_1, .string a0_2] 23 (0, 0)) (qb_ BK105.out) hb); have n1_ := Aside0.mk (below_step (by repeat (first | (with_reducible first | exact HB.out | apply below_alloc | apply pw_below_drewN | apply below_drew1 | refine below_set ?_ GE105.out) | exact HB.out)) hb); have n2_ := Aside0.mk (hbox); have n3_ := Aside0.mk ((by rw [hg]; exact (below_size (by repeat (first | (with_reducible first | exact HB.out | apply below_alloc | apply pw_below_drewN | apply below_drew1 | refine below_set ?_ GE105.out) | exact HB.out))) : w.heap.size ≤ gb106)); have n4_ := Aside0.mk ((by rw [hg]; exact (below_size (by repeat (first | (with_reducible first | exact HB.out | apply below_alloc | apply pw_below_drewN | apply below_drew1 | refine below_set ?_ GE105.out) | exact HB.out))) : w.heap.size ≤ gb106)); have n5_ := Aside0.mk ((by rw [hg]; exact Nat.ne_of_lt (blk_lt (g := gb105) (o := .cells #[.int .i64 a0_0, .int .i64 a0_1, .string a0_2] 23 (0, 0)) (qb_ BK105.out)) : gb105 ≠ gb106)); have n6_ := Aside0.mk ((by rw [hg]; exact Nat.ne_of_gt (blk_lt (g := gb105) (o := .cells #[.int .i64 a0_0, .int .i64 a0_1, .string a0_2] 23 (0, 0)) (qb_ BK105.out)) : gb106 ≠ gb105)); clear BK105; clear HB; have BK105 := n0_; have HB := n1_; have BK106 := n2_; have GW106 := n3_; have GE106 := n4_; have NB105_106 := n5_; have NB106_105 := n6_; clear n0_ n1_ n2_ n3_ n4_ n5_ n6_; clear hb hbox hg; have hnb10 := NB105_106.out; have hnc10 := NB106_105.out; have hcz11_0 : w9.cell? ⟨gb105, 0, none⟩ = some (.int .i64 a0_0) := (blk_cell BK105.out 0).trans rfl; have hcz11_1 : w9.cell? ⟨gb105, 1, none⟩ = some (.int .i64 a0_1) := (blk_cell BK105.out 1).trans rfl; have hcz11_2 : w9.cell? ⟨gb105, 2, none⟩ = some (.string a0_2) := (blk_cell BK105.out 2).trans rfl; have hfz11_0 := blk_frozen BK105.out 0; have hfz11_1 := blk_frozen BK105.out 1; have hfz11_2 := blk_frozen BK105.out 2; have hcz12_0 : w9.cell? ⟨gb106, 0, none⟩ = some (.int .i64 a1_0) := (blk_cell BK106.out 0).trans rfl; have hcz12_1 : w9.cell? ⟨gb106, 1, none⟩ = some (.int .i64 a1_1) := (blk_cell BK106.out 1).trans rfl; have hcz12_2 : w9.cell? ⟨gb106, 2, none⟩ = some (.string a1_2) := (blk_cell BK106.out 2).trans rfl; have hfz12_0 := blk_frozen BK106.out 0; have hfz12_1 := blk_frozen BK106.out 1; have hfz12_2 := blk_frozen BK106.out 2) | ((with_reducible refine gate_callee (f := 29) rfl ?_); refine goesL_ (some 11) rfl rfl Try.func29 (by kernel_rfl) rfl #[.int .i64 a0_0, .int .i64 a1_0] rfl (by (try simp only [List.map_toArray, List.map_cons, List.map_nil]); first | done | rfl | (simp only [List.length_drop, List.length_take]; rfl)) ?_; (with_reducible refine (cmp_Compare_int.calls a0_0 a1_0 t107 _ A3.out).mono ?_); rintro e w' ⟨rfl, ⟨nd, rfl⟩⟩; refine ⟨_, rfl, ?_⟩) | ((with_reducible refine gate_callee (f := 30) rfl ?_); refine goesL_ (some 19) rfl rfl Try.func30 (by kernel_rfl) rfl #[.int .i64 a0_1, .int .i64 a1_1] rfl (by (try simp only [List.map_toArray, List.map_cons, List.map_nil]); first | done | rfl | (simp only [List.length_drop, List.length_take]; rfl)) ?_; (with_reducible refine (cmp_Compare_int64.calls a0_1 a1_1 t108 _ A5.out).mono ?_); rintro e w' ⟨rfl, ⟨nd, rfl⟩⟩; refine ⟨_, rfl, ?_⟩) | ((with_reducible refine gate_callee (f := 31) rfl ?_); refine goesL_ (some 27) rfl rfl Try.func31 (by kernel_rfl) rfl #[.string a0_2, .string a1_2] rfl (by (try simp only [List.map_toArray, List.map_cons, List.map_nil]); first | done | rfl | (simp only [List.length_drop, List.length_take]; rfl)) ?_; (with_reducible refine (cmp_Compare_string.calls a0_2 a1_2 t109 _ A7.out).mono ?_); rintro e w' ⟨rfl, ⟨nd, rfl⟩⟩; refine ⟨_, rfl, ?_⟩))
   go_ret
   exact ⟨by first | rfl | (simp [errW_none, errW_some] <;> rfl) | (simp [*, errW_none, errW_some] <;> rfl), by repeat (first | (with_reducible first | exact HB.out | apply below_alloc | apply pw_below_drewN | apply below_drew1 | refine below_set ?_ GE105.out | refine below_set ?_ GE106.out) | exact HB.out)⟩
  ·rw [if_neg c6] at H
   have c6b0 : (t108 == 0) = false := beq_eq_false_iff_ne.mpr c6
   have c6b1 : (t108 != 0) = true := bne_iff_ne.mpr c6
   obtain rfl := Option.some.inj H
   go_enter Try.func18, Try.ntmps18
   go_wp2_with (first | ((with_reducible refine gate_dst (N := 2) rfl ?_); refine box_event ?hg (N := 2) ?hd (cs := #[.int .i64 a0_0, .int .i64 a0_1, .string a0_2]) (t := 23) ?hr ?_; (case hd => rfl); (case hg => rfl); (case hr => first | (go_simp; done) | (go_simp; rfl)); intro gb105 hg w13 hbox hb; have n0_ := Aside0.mk (below_step qh_ hb); have n1_ := Aside0.mk (hbox); have n2_ := Aside0.mk ((by rw [hg]; exact (below_size qh_) : w.heap.size ≤ gb105)); have n3_ := Aside0.mk ((by rw [hg]; exact (below_size qh_) : w.heap.size ≤ gb105)); clear HB; have HB := n0_; have BK105 := n1_; have GW105 := n2_; have GE105 := n3_; clear n0_ n1_ n2_ n3_; clear hb hbox hg) | ((with_reducible refine gate_dst (N := 3) rfl ?_); refine box_event ?hg (N := 3) ?hd (cs := #[.int .i64 a1_0, .int .i64 a1_1, .string a1_2]) (t := 23) ?hr ?_; (case hd => rfl); (case hg => rfl); (case hr => first | (go_simp; done) | (go_simp; rfl)); intro gb106 hg w14 hbox hb; have n0_ := Aside0.mk (blk_below (g := gb105) (o := .cells #[.int .i64 a0_0, .int .i64 a0_1, .string a0_2] 23 (0, 0)) (qb_ BK105.out) hb); have n1_ := Aside0.mk (below_step (by repeat (first | (with_reducible first | exact HB.out | apply below_alloc | apply pw_below_drewN | apply below_drew1 | refine below_set ?_ GE105.out) | exact HB.out)) hb); have n2_ := Aside0.mk (hbox); have n3_ := Aside0.mk ((by rw [hg]; exact (below_size (by repeat (first | (with_reducible first | exact HB.out | apply below_alloc | apply pw_below_drewN | apply below_drew1 | refine below_set ?_ GE105.out) | exact HB.out))) : w.heap.size ≤ gb106)); have n4_ := Aside0.mk ((by rw [hg]; exact (below_size (by repeat (first | (with_reducible first | exact HB.out | apply below_alloc | apply pw_below_drewN | apply below_drew1 | refine below_set ?_ GE105.out) | exact HB.out))) : w.heap.size ≤ gb106)); have n5_ := Aside0.mk ((by rw [hg]; exact Nat.ne_of_lt (blk_lt (g := gb105) (o := .cells #[.int .i64 a0_0, .int .i64 a0_1, .string a0_2] 23 (0, 0)) (qb_ BK105.out)) : gb105 ≠ gb106)); have n6_ := Aside0.mk ((by rw [hg]; exact Nat.ne_of_gt (blk_lt (g := gb105) (o := .cells #[.int .i64 a0_0, .int .i64 a0_1, .string a0_2] 23 (0, 0)) (qb_ BK105.out)) : gb106 ≠ gb105)); clear BK105; clear HB; have BK105 := n0_; have HB := n1_; have BK106 := n2_; have GW106 := n3_; have GE106 := n4_; have NB105_106 := n5_; have NB106_105 := n6_; clear n0_ n1_ n2_ n3_ n4_ n5_ n6_; clear hb hbox hg; have hnb15 := NB105_106.out; have hnc15 := NB106_105.out; have hcz16_0 : w14.cell? ⟨gb105, 0, none⟩ = some (.int .i64 a0_0) := (blk_cell BK105.out 0).trans rfl; have hcz16_1 : w14.cell? ⟨gb105, 1, none⟩ = some (.int .i64 a0_1) := (blk_cell BK105.out 1).trans rfl; have hcz16_2 : w14.cell? ⟨gb105, 2, none⟩ = some (.string a0_2) := (blk_cell BK105.out 2).trans rfl; have hfz16_0 := blk_frozen BK105.out 0; have hfz16_1 := blk_frozen BK105.out 1; have hfz16_2 := blk_frozen BK105.out 2; have hcz17_0 : w14.cell? ⟨gb106, 0, none⟩ = some (.int .i64 a1_0) := (blk_cell BK106.out 0).trans rfl; have hcz17_1 : w14.cell? ⟨gb106, 1, none⟩ = some (.int .i64 a1_1) := (blk_cell BK106.out 1).trans rfl; have hcz17_2 : w14.cell? ⟨gb106, 2, none⟩ = some (.string a1_2) := (blk_cell BK106.out 2).trans rfl; have hfz17_0 := blk_frozen BK106.out 0; have hfz17_1 := blk_frozen BK106.out 1; have hfz17_2 := blk_frozen BK106.out 2) | ((with_reducible refine gate_callee (f := 29) rfl ?_); refine goesL_ (some 11) rfl rfl Try.func29 (by kernel_rfl) rfl #[.int .i64 a0_0, .int .i64 a1_0] rfl (by (try simp only [List.map_toArray, List.map_cons, List.map_nil]); first | done | rfl | (simp only [List.length_drop, List.length_take]; rfl)) ?_; (with_reducible refine (cmp_Compare_int.calls a0_0 a1_0 t107 _ A3.out).mono ?_); rintro e w' ⟨rfl, ⟨nd, rfl⟩⟩; refine ⟨_, rfl, ?_⟩) | ((with_reducible refine gate_callee (f := 30) rfl ?_); refine goesL_ (some 19) rfl rfl Try.func30 (by kernel_rfl) rfl #[.int .i64 a0_1, .int .i64 a1_1] rfl (by (try simp only [List.map_toArray, List.map_cons, List.map_nil]); first | done | rfl | (simp only [List.length_drop, List.length_take]; rfl)) ?_; (with_reducible refine (cmp_Compare_int64.calls a0_1 a1_1 t108 _ A5.out).mono ?_); rintro e w' ⟨rfl, ⟨nd, rfl⟩⟩; refine ⟨_, rfl, ?_⟩))
   go_ret
   exact ⟨by first | rfl | (simp [errW_none, errW_some] <;> rfl) | (simp [*, errW_none, errW_some] <;> rfl), by repeat (first | (with_reducible first | exact HB.out | apply below_alloc | apply pw_below_drewN | apply below_drew1 | refine below_set ?_ GE105.out | refine below_set ?_ GE106.out) | exact HB.out)⟩
 ·rw [if_neg c4] at H
  have c4b0 : (t107 == 0) = false := beq_eq_false_iff_ne.mpr c4
  have c4b1 : (t107 != 0) = true := bne_iff_ne.mpr c4
  obtain rfl := Option.some.inj H
  go_enter Try.func18, Try.ntmps18
  go_wp2_with (first | ((with_reducible refine gate_dst (N := 2) rfl ?_); refine box_event ?hg (N := 2) ?hd (cs := #[.int .i64 a0_0, .int .i64 a0_1, .string a0_2]) (t := 23) ?hr ?_; (case hd => rfl); (case hg => rfl); (case hr => first | (go_simp; done) | (go_simp; rfl)); intro gb105 hg w18 hbox hb; have n0_ := Aside0.mk (below_step qh_ hb); have n1_ := Aside0.mk (hbox); have n2_ := Aside0.mk ((by rw [hg]; exact (below_size qh_) : w.heap.size ≤ gb105)); have n3_ := Aside0.mk ((by rw [hg]; exact (below_size qh_) : w.heap.size ≤ gb105)); clear HB; have HB := n0_; have BK105 := n1_; have GW105 := n2_; have GE105 := n3_; clear n0_ n1_ n2_ n3_; clear hb hbox hg) | ((with_reducible refine gate_dst (N := 3) rfl ?_); refine box_event ?hg (N := 3) ?hd (cs := #[.int .i64 a1_0, .int .i64 a1_1, .string a1_2]) (t := 23) ?hr ?_; (case hd => rfl); (case hg => rfl); (case hr => first | (go_simp; done) | (go_simp; rfl)); intro gb106 hg w19 hbox hb; have n0_ := Aside0.mk (blk_below (g := gb105) (o := .cells #[.int .i64 a0_0, .int .i64 a0_1, .string a0_2] 23 (0, 0)) (qb_ BK105.out) hb); have n1_ := Aside0.mk (below_step (by repeat (first | (with_reducible first | exact HB.out | apply below_alloc | apply pw_below_drewN | apply below_drew1 | refine below_set ?_ GE105.out) | exact HB.out)) hb); have n2_ := Aside0.mk (hbox); have n3_ := Aside0.mk ((by rw [hg]; exact (below_size (by repeat (first | (with_reducible first | exact HB.out | apply below_alloc | apply pw_below_drewN | apply below_drew1 | refine below_set ?_ GE105.out) | exact HB.out))) : w.heap.size ≤ gb106)); have n4_ := Aside0.mk ((by rw [hg]; exact (below_size (by repeat (first | (with_reducible first | exact HB.out | apply below_alloc | apply pw_below_drewN | apply below_drew1 | refine below_set ?_ GE105.out) | exact HB.out))) : w.heap.size ≤ gb106)); have n5_ := Aside0.mk ((by rw [hg]; exact Nat.ne_of_lt (blk_lt (g := gb105) (o := .cells #[.int .i64 a0_0, .int .i64 a0_1, .string a0_2] 23 (0, 0)) (qb_ BK105.out)) : gb105 ≠ gb106)); have n6_ := Aside0.mk ((by rw [hg]; exact Nat.ne_of_gt (blk_lt (g := gb105) (o := .cells #[.int .i64 a0_0, .int .i64 a0_1, .string a0_2] 23 (0, 0)) (qb_ BK105.out)) : gb106 ≠ gb105)); clear BK105; clear HB; have BK105 := n0_; have HB := n1_; have BK106 := n2_; have GW106 := n3_; have GE106 := n4_; have NB105_106 := n5_; have NB106_105 := n6_; clear n0_ n1_ n2_ n3_ n4_ n5_ n6_; clear hb hbox hg; have hnb20 := NB105_106.out; have hnc20 := NB106_105.out; have hcz21_0 : w19.cell? ⟨gb105, 0, none⟩ = some (.int .i64 a0_0) := (blk_cell BK105.out 0).trans rfl; have hcz21_1 : w19.cell? ⟨gb105, 1, none⟩ = some (.int .i64 a0_1) := (blk_cell BK105.out 1).trans rfl; have hcz21_2 : w19.cell? ⟨gb105, 2, none⟩ = some (.string a0_2) := (blk_cell BK105.out 2).trans rfl; have hfz21_0 := blk_frozen BK105.out 0; have hfz21_1 := blk_frozen BK105.out 1; have hfz21_2 := blk_frozen BK105.out 2; have hcz22_0 : w19.cell? ⟨gb106, 0, none⟩ = some (.int .i64 a1_0) := (blk_cell BK106.out 0).trans rfl; have hcz22_1 : w19.cell? ⟨gb106, 1, none⟩ = some (.int .i64 a1_1) := (blk_cell BK106.out 1).trans rfl; have hcz22_2 : w19.cell? ⟨gb106, 2, none⟩ = some (.string a1_2) := (blk_cell BK106.out 2).trans rfl; have hfz22_0 := blk_frozen BK106.out 0; have hfz22_1 := blk_frozen BK106.out 1; have hfz22_2 := blk_frozen BK106.out 2) | ((with_reducible refine gate_callee (f := 29) rfl ?_); refine goesL_ (some 11) rfl rfl Try.func29 (by kernel_rfl) rfl #[.int .i64 a0_0, .int .i64 a1_0] rfl (by (try simp only [List.map_toArray, List.map_cons, List.map_nil]); first | done | rfl | (simp only [List.length_drop, List.length_take]; rfl)) ?_; (with_reducible refine (cmp_Compare_int.calls a0_0 a1_0 t107 _ A3.out).mono ?_); rintro e w' ⟨rfl, ⟨nd, rfl⟩⟩; refine ⟨_, rfl, ?_⟩))
  go_ret
  exact ⟨by first | rfl | (simp [errW_none, errW_some] <;> rfl) | (simp [*, errW_none, errW_some] <;> rfl), by repeat (first | (with_reducible first | exact HB.out | apply below_alloc | apply pw_below_drewN | apply below_drew1 | refine below_set ?_ GE105.out | refine below_set ?_ GE106.out) | exact HB.out)⟩
def value_CmpRow.l0 : Nat → List (S23) → List (S23) → List (S23) → Int → Int → Option (Int)
 | 0, _, _, _, _, _ => none
 | k + 1, x0, x1, x8, x9, x10 => if x10 < x9 then (if 0 ≤ x10 then (if x10 < (x8.length : Int) then (if x10 ≥ (x1.length : Int) then ((cmp_Compare_int.f (x0.length : Int) (x1.length : Int)).bind fun t113 => (some t113)) else (if x10 < (x1.length : Int) then ((value_Cmp.f ((rd_T23 x8 x10).f0) ((rd_T23 x8 x10).f1) ((rd_T23 x8 x10).f2) ((rd_T23 x1 x10).f0) ((rd_T23 x1 x10).f1) ((rd_T23 x1 x10).f2)).bind fun t115 => (if t115 = 0 then (value_CmpRow.l0 k x0 x1 x8 x9 (wrap64 (x10 + 1))) else (some t115))) else (none))) else (none)) else (none)) else ((cmp_Compare_int.f (x0.length : Int) (x1.length : Int)).bind fun t110 => (some t110))
def value_CmpRow.f (k : Nat) (l0 : List (S23)) (l1 : List (S23)) : Option (Int) := value_CmpRow.l0 k l0 l1 l0 (l0.length : Int) 0
theorem value_CmpRow.mono_l : ∀ k, (∀ y0 y1 y2 y3 y4, LeO (value_CmpRow.l0 k y0 y1 y2 y3 y4) (value_CmpRow.l0 (k + 1) y0 y1 y2 y3 y4))
 | 0 => fun _ _ _ _ _ r h => by simp [value_CmpRow.l0] at h
 | k + 1 => by
  have ih0 := value_CmpRow.mono_l k
  ·intro y0 y1 y2 y3 y4
   unfold value_CmpRow.l0
   repeat' first
   | (with_reducible exact ih0 _ _ _ _ _)
   | (with_reducible exact LeO.refl _)
   | (with_reducible exact LeO.none _)
   | (with_reducible refine LeO.ite ?_ ?_)
   | (with_reducible refine LeO.bind ?_ (fun _ => ?_))
   | exact ih0 _ _ _ _ _
   | exact LeO.none _
   | refine LeO.ite ?_ ?_
   | refine LeO.bind ?_ (fun _ => ?_)
theorem value_CmpRow.mono : ∀ a0 a1 k, LeO (value_CmpRow.f k a0 a1) (value_CmpRow.f (k + 1) a0 a1) := by
 intro a0 a1 k
 have ih0 := value_CmpRow.mono_l k
 unfold value_CmpRow.f
 repeat' first
   | (with_reducible exact ih0 _ _ _ _ _)
   | (with_reducible exact LeO.refl _)
   | (with_reducible exact LeO.none _)
   | (with_reducible refine LeO.ite ?_ ?_)
   | (with_reducible refine LeO.bind ?_ (fun _ => ?_))
   | exact ih0 _ _ _ _ _
   | exact LeO.none _
   | refine LeO.ite ?_ ?_
   | refine LeO.bind ?_ (fun _ => ?_)
set_option maxHeartbeats 8000000 in
set_option maxRecDepth 100000 in
theorem value_CmpRow.calls (k : Nat) (A0 : Option Addr) (c0 : Nat) (l0 : List (S23)) (A1 : Option Addr) (c1 : Nat) (l1 : List (S23)) (r : Int) (w : World) (hr0 : Kd.C k23 w A0 l0.length l0) (hc0 : l0.length ≤ c0) (hr1 : Kd.C k23 w A1 l1.length l1) (hc1 : l1.length ≤ c1) (h : value_CmpRow.f k l0 l1 = some r) :
  Calls Try.prog 41 #[.slice A0 l0.length c0, .slice A1 l1.length c1] w fun e w' => e = .returned (.int .i64 r) ∧ Below w.heap.size w w' := by
 have hu23 := Try.underlying23
 have HR0 := Aside0.mk hr0
 have HC0 := Aside0.mk hc0
 clear hr0 hc0
 have HR1 := Aside0.mk hr1
 have HC1 := Aside0.mk hc1
 clear hr1 hc1
 have HB := Aside0.mk (Below.refl w.heap.size w)
 have H : (value_CmpRow.l0 k l0 l1 l0 (l0.length : Int) 0) = some r := h
 clear h
 have H' := Aside0.mk H
 clear H
 go_enter Try.func41, Try.ntmps41
 go_wp2
 repeat (go_step3; go_wp2)
 go_loopg [10] k (fun kq v10 w' => ∃ (x10_1 : Int), v10 = .int .i64 x10_1 ∧ Aside0 (value_CmpRow.l0 kq l0 l1 l0 (l0.length : Int) x10_1 = some r) ∧ Aside0 (kq ≤ k) ∧ Aside0 (Below w.heap.size w w'))
 case atStart => exact ⟨(0), (by first | rfl | (simp; done) | (simp [*]; done)), H', ⟨Nat.le_refl _⟩, ⟨qh_⟩⟩
 case round =>
  clear H'
  try clear c1
  try clear p2
  obtain ⟨x10_1, rfl, HA, HK1, HB⟩ := hrel
  cases gk with
  | zero => exact absurd HA.out (by simp [value_CmpRow.l0])
  | succ k1 =>
   have H := HA.out
   clear HA
   simp only [value_CmpRow.l0] at H
   by_cases c3 : x10_1 < (l0.length : Int)
   ·rw [if_pos c3] at H
    have c3b0 : decide (x10_1 < (l0.length : Int)) = true := decide_eq_true c3
    clear c3
    by_cases c4 : 0 ≤ x10_1
    ·rw [if_pos c4] at H
     have c4b0 : decide (0 ≤ x10_1) = true := decide_eq_true c4
     clear c4
     by_cases c5 : x10_1 < (l0.length : Int)
     ·rw [if_pos c5] at H
      have c5b0 : decide (x10_1 < (l0.length : Int)) = true := decide_eq_true c5
      clear c5
      by_cases c6 : x10_1 ≥ (l1.length : Int)
      ·rw [if_pos c6] at H
       have c6b0 : decide ((l1.length : Int) ≤ x10_1) = true := decide_eq_true c6
       clear c6
       replace H := Option.bind_eq_some_iff.mp H
       obtain ⟨t113, A70, H⟩ := H
       replace H : (some t113) = some r := H
       have A7 := Aside0.mk A70
       clear A70
       obtain rfl := Option.some.inj H
       have p111 : 0 ≤ (x10_1 : Int) := of_decide_eq_true (by first | (with_reducible assumption) | assumption)
       have q111 : x10_1 < (l0.length : Int) := of_decide_eq_true (by first | (with_reducible assumption) | assumption)
       obtain ⟨ad111, e111, hx111_0, hx111_1, hx111_2⟩ := at_T23 HR0.out x10_1 p111 q111
       cases e111
       replace hx111_0 := (HB.out.cell (World.block_lt_of_cell? w _ hx111_0)).trans hx111_0
       replace hx111_1 := (HB.out.cell (World.block_lt_of_cell? w _ hx111_1)).trans hx111_1
       replace hx111_2 := (HB.out.cell (World.block_lt_of_cell? w _ hx111_2)).trans hx111_2
       replace p111 := eq_true p111
       replace q111 := eq_true q111
       go_wp2_with (first | ((with_reducible refine gate_dst (N := 6) rfl ?_); refine box_event ?hg (N := 6) ?hd (cs := #[.int .i64 0, .int .i64 0, .string (⟨#[]⟩ : ByteArray)]) (t := 23) ?hr ?_; (case hd => rfl); (case hg => rfl); (case hr => first | (go_simp; done) | (go_simp; rfl)); intro gb112 hg w8 hbox hb; have n0_ := Aside0.mk (below_step qh_ hb); have n1_ := Aside0.mk (hbox); have n2_ := Aside0.mk ((by rw [hg]; exact (below_size qh_) : w.heap.size ≤ gb112)); have n3_ := Aside0.mk ((by rw [hg]; exact (below_size qh_) : w.heap.size ≤ gb112)); clear HB; have HB := n0_; have BK112 := n1_; have GW112 := n2_; have GE112 := n3_; clear n0_ n1_ n2_ n3_; clear hb hbox hg; have hcz9_0 : w8.cell? ⟨gb112, 0, none⟩ = some (.int .i64 0) := (blk_cell BK112.out 0).trans rfl; have hcz9_1 : w8.cell? ⟨gb112, 1, none⟩ = some (.int .i64 0) := (blk_cell BK112.out 1).trans rfl; have hcz9_2 : w8.cell? ⟨gb112, 2, none⟩ = some (.string (⟨#[]⟩ : ByteArray)) := (blk_cell BK112.out 2).trans rfl; have hfz9_0 := blk_frozen BK112.out 0; have hfz9_1 := blk_frozen BK112.out 1; have hfz9_2 := blk_frozen BK112.out 2) | ((with_reducible refine gate_callee (f := 29) rfl ?_); refine goesL_ (some 33) rfl rfl Try.func29 (by kernel_rfl) rfl #[.int .i64 (l0.length : Int), .int .i64 (l1.length : Int)] rfl (by (try simp only [List.map_toArray, List.map_cons, List.map_nil]); first | done | rfl | (simp only [List.length_drop, List.length_take]; rfl)) ?_; (with_reducible refine (cmp_Compare_int.calls (l0.length : Int) (l1.length : Int) t113 _ A7.out).mono ?_); rintro e w' ⟨rfl, ⟨nd, rfl⟩⟩; refine ⟨_, rfl, ?_⟩))
       (try rw [Exit.noGoto_ret])
       go_ret
       exact ⟨by first | rfl | (simp [errW_none, errW_some] <;> rfl) | (simp [*, errW_none, errW_some] <;> rfl), by repeat (first | (with_reducible first | exact HB.out | apply below_alloc | apply pw_below_drewN | apply below_drew1 | refine below_set ?_ GE112.out) | exact HB.out)⟩
      ·rw [if_neg c6] at H
       have c6b0 : decide ((l1.length : Int) ≤ x10_1) = false := decide_eq_false c6
       clear c6
       by_cases c10 : x10_1 < (l1.length : Int)
       ·rw [if_pos c10] at H
        have c10b0 : decide (x10_1 < (l1.length : Int)) = true := decide_eq_true c10
        clear c10
        replace H := Option.bind_eq_some_iff.mp H
        obtain ⟨t115, A110, H⟩ := H
        replace H : (if t115 = 0 then (value_CmpRow.l0 k1 l0 l1 l0 (l0.length : Int) (wrap64 (x10_1 + 1))) else (some t115)) = some r := H
        have A11 := Aside0.mk A110
        clear A110
        by_cases c12 : t115 = 0
        ·rw [if_pos c12] at H
         have c12b0 : (t115 == 0) = true := beq_iff_eq.mpr c12
         have c12b1 : (t115 != 0) = false := bne_eq_false_iff_eq.mpr c12
         clear c12
         have H' := Aside0.mk H
         clear H
         have p111 : 0 ≤ (x10_1 : Int) := of_decide_eq_true (by first | (with_reducible assumption) | assumption)
         have q111 : x10_1 < (l0.length : Int) := of_decide_eq_true (by first | (with_reducible assumption) | assumption)
         obtain ⟨ad111, e111, hx111_0, hx111_1, hx111_2⟩ := at_T23 HR0.out x10_1 p111 q111
         cases e111
         replace hx111_0 := (HB.out.cell (World.block_lt_of_cell? w _ hx111_0)).trans hx111_0
         replace hx111_1 := (HB.out.cell (World.block_lt_of_cell? w _ hx111_1)).trans hx111_1
         replace hx111_2 := (HB.out.cell (World.block_lt_of_cell? w _ hx111_2)).trans hx111_2
         replace p111 := eq_true p111
         replace q111 := eq_true q111
         try go_wp2_with (first | ((with_reducible refine gate_dst (N := 6) rfl ?_); refine box_event ?hg (N := 6) ?hd (cs := #[.int .i64 0, .int .i64 0, .string (⟨#[]⟩ : ByteArray)]) (t := 23) ?hr ?_; (case hd => rfl); (case hg => rfl); (case hr => first | (go_simp; done) | (go_simp; rfl)); intro gb112 hg w13 hbox hb; have n0_ := Aside0.mk (below_step qh_ hb); have n1_ := Aside0.mk (hbox); have n2_ := Aside0.mk ((by rw [hg]; exact (below_size qh_) : w.heap.size ≤ gb112)); have n3_ := Aside0.mk ((by rw [hg]; exact (below_size qh_) : w.heap.size ≤ gb112)); clear HB; have HB := n0_; have BK112 := n1_; have GW112 := n2_; have GE112 := n3_; clear n0_ n1_ n2_ n3_; clear hb hbox hg; have hcz14_0 : w13.cell? ⟨gb112, 0, none⟩ = some (.int .i64 0) := (blk_cell BK112.out 0).trans rfl; have hcz14_1 : w13.cell? ⟨gb112, 1, none⟩ = some (.int .i64 0) := (blk_cell BK112.out 1).trans rfl; have hcz14_2 : w13.cell? ⟨gb112, 2, none⟩ = some (.string (⟨#[]⟩ : ByteArray)) := (blk_cell BK112.out 2).trans rfl; have hfz14_0 := blk_frozen BK112.out 0; have hfz14_1 := blk_frozen BK112.out 1; have hfz14_2 := blk_frozen BK112.out 2))
         have n0_ : Aside0 ((((w13.setCell ⟨gb112, 0, none⟩ (.int .i64 ((rd_T23 l0 x10_1).f0))).setCell ⟨gb112, 1, none⟩ (.int .i64 ((rd_T23 l0 x10_1).f1))).setCell ⟨gb112, 2, none⟩ (.string ((rd_T23 l0 x10_1).f2))).heap[gb112]? = some (.cells #[.int .i64 ((rd_T23 l0 x10_1).f0), .int .i64 ((rd_T23 l0 x10_1).f1), .string ((rd_T23 l0 x10_1).f2)] 23 (0, 0))) := ⟨by (with_reducible repeat (first | refine blk_drewN ?_ _ | refine blk_drew ?_ | refine blk_alloc ?_ _)); refine blk_put (cs := #[.int .i64 ((rd_T23 l0 x10_1).f0), .int .i64 ((rd_T23 l0 x10_1).f1), .string (⟨#[]⟩ : ByteArray)]) ?_ 2 _ rfl; (with_reducible repeat (first | refine blk_drewN ?_ _ | refine blk_drew ?_ | refine blk_alloc ?_ _)); refine blk_put (cs := #[.int .i64 ((rd_T23 l0 x10_1).f0), .int .i64 0, .string (⟨#[]⟩ : ByteArray)]) ?_ 1 _ rfl; (with_reducible repeat (first | refine blk_drewN ?_ _ | refine blk_drew ?_ | refine blk_alloc ?_ _)); refine blk_put (cs := #[.int .i64 0, .int .i64 0, .string (⟨#[]⟩ : ByteArray)]) ?_ 0 _ rfl; (with_reducible repeat (first | refine blk_drewN ?_ _ | refine blk_drew ?_ | refine blk_alloc ?_ _)); exact BK112.out⟩
         have n1_ : Aside0 (Below w.heap.size w (((w13.setCell ⟨gb112, 0, none⟩ (.int .i64 ((rd_T23 l0 x10_1).f0))).setCell ⟨gb112, 1, none⟩ (.int .i64 ((rd_T23 l0 x10_1).f1))).setCell ⟨gb112, 2, none⟩ (.string ((rd_T23 l0 x10_1).f2)))) := ⟨by repeat (first | (with_reducible first | exact HB.out | apply below_alloc | apply pw_below_drewN | apply below_drew1 | refine below_set ?_ GE112.out) | exact HB.out)⟩
         (try clear BK112)
         (try clear HB)
         generalize (((w13.setCell ⟨gb112, 0, none⟩ (.int .i64 ((rd_T23 l0 x10_1).f0))).setCell ⟨gb112, 1, none⟩ (.int .i64 ((rd_T23 l0 x10_1).f1))).setCell ⟨gb112, 2, none⟩ (.string ((rd_T23 l0 x10_1).f2))) = w15 at n0_ n1_ ⊢
         have BK112 := n0_
         have HB := n1_
         clear n0_ n1_
         have n0_ := Aside0.mk (blk_drew BK112.out)
         have n1_ := Aside0.mk (below_drew1 HB.out)
         clear BK112
         clear HB
         have BK112 := n0_
         have HB := n1_
         clear n0_ n1_
         have p114 : 0 ≤ (x10_1 : Int) := of_decide_eq_true (by first | (with_reducible assumption) | assumption)
         have q114 : x10_1 < (l1.length : Int) := of_decide_eq_true (by first | (with_reducible assumption) | assumption)
         obtain ⟨ad114, e114, hx114_0, hx114_1, hx114_2⟩ := at_T23 HR1.out x10_1 p114 q114
         have hw114_2 := hx114_2
         have hw114_1 := hx114_1
         have hw114_0 := hx114_0
         cases e114
         replace hx114_0 := (HB.out.cell (World.block_lt_of_cell? w _ hx114_0)).trans hx114_0
         replace hx114_1 := (HB.out.cell (World.block_lt_of_cell? w _ hx114_1)).trans hx114_1
         replace hx114_2 := (HB.out.cell (World.block_lt_of_cell? w _ hx114_2)).trans hx114_2
         replace p114 := eq_true p114
         replace q114 := eq_true q114
         refine start_ (n := 7) (S := fun w' => w'.cell? ⟨gb112, 0, none⟩ = some (.int .i64 ((rd_T23 l0 x10_1).f0)) ∧ w'.cell? ⟨gb112, 1, none⟩ = some (.int .i64 ((rd_T23 l0 x10_1).f1)) ∧ w'.cell? ⟨gb112, 2, none⟩ = some (.string ((rd_T23 l0 x10_1).f2)) ∧ w'.cell? (ad114.add ((x10_1).toNat * 3)) = some (.int .i64 ((rd_T23 l1 x10_1).f0)) ∧ w'.cell? ⟨(ad114.add ((x10_1).toNat * 3)).block, (ad114.add ((x10_1).toNat * 3)).off + 1, none⟩ = some (.int .i64 ((rd_T23 l1 x10_1).f1)) ∧ w'.cell? ⟨(ad114.add ((x10_1).toNat * 3)).block, (ad114.add ((x10_1).toNat * 3)).off + 2, none⟩ = some (.string ((rd_T23 l1 x10_1).f2))) (ds := []) #[false, false, false, false, false, false, false] (by kernel_rfl) rfl rfl ⟨(blk_cell BK112.out 0).trans rfl, (blk_cell BK112.out 1).trans rfl, (blk_cell BK112.out 2).trans rfl, ((HB.out.cell (World.block_lt_of_cell? w _ hw114_0)).trans hw114_0), ((HB.out.cell (World.block_lt_of_cell? w _ hw114_1)).trans hw114_1), ((HB.out.cell (World.block_lt_of_cell? w _ hw114_2)).trans hw114_2)⟩ (fun hHeld => ?_)
         generalize w15.drew = w16 at BK112 HB hx114_0 hx114_1 hx114_2 hHeld ⊢
         refine pure_ (i := 1) (N := some 20) (v := ?_) (a' := ?_) #[false, true, false, false, false, false, false] rfl rfl (by kernel_rfl) (fun _ _ _ h => h) (Or.inl ⟨by rfl, ?_⟩) ?_ ?_
         rotate_left
         ·intro w'
          go_simp
          with_reducible rfl
         rotate_left
         ·simp only [Act.put, List.setIfInBounds_toArray, List.set_cons_zero, List.set_cons_succ, i64_w, i32_w]
          rfl
         refine pure_ (i := 2) (N := some 21) (v := ?_) (a' := ?_) #[false, true, true, false, false, false, false] rfl rfl (by kernel_rfl) (fun _ _ _ h => h) (Or.inl ⟨by rfl, ?_⟩) ?_ ?_
         rotate_left
         ·intro w'
          go_simp
          with_reducible rfl
         rotate_left
         ·simp only [Act.put, List.setIfInBounds_toArray, List.set_cons_zero, List.set_cons_succ, i64_w, i32_w]
          rfl
         refine pure_ (i := 3) (N := some 22) (v := ?_) (a' := ?_) #[false, true, true, true, false, false, false] rfl rfl (by kernel_rfl) (fun _ _ _ h => h) (Or.inl ⟨by rfl, ?_⟩) ?_ ?_
         rotate_left
         ·intro w'
          go_simp
          with_reducible rfl
         rotate_left
         ·simp only [Act.put, List.setIfInBounds_toArray, List.set_cons_zero, List.set_cons_succ, i64_w, i32_w]
          rfl
         refine take_ (i := 0) (N := some 19) (v := ?_) (a' := ?_) #[true, true, true, true, false, false, false] rfl rfl (by kernel_rfl) (fun _ _ _ h => h) (Or.inl ⟨by rfl, ?_⟩) hHeld ?_ ?_
         rotate_left
         ·rintro w' ⟨s0, s1, s2, s3, s4, s5⟩
          go_simp
          with_reducible rfl
         rotate_left
         ·simp only [Act.put, List.setIfInBounds_toArray, List.set_cons_zero, List.set_cons_succ, i64_w, i32_w]
          rfl
         refine take_ (i := 4) (N := some 23) (v := ?_) (a' := ?_) #[true, true, true, true, true, false, false] rfl rfl (by kernel_rfl) (fun _ _ _ h => h) (Or.inl ⟨by rfl, ?_⟩) hHeld ?_ ?_
         rotate_left
         ·rintro w' ⟨s0, s1, s2, s3, s4, s5⟩
          go_simp
          with_reducible rfl
         rotate_left
         ·simp only [Act.put, List.setIfInBounds_toArray, List.set_cons_zero, List.set_cons_succ, i64_w, i32_w]
          rfl
         refine one_ (i := 5) (N := some 24) #[true, true, true, true, true, true, false] rfl rfl (by kernel_rfl) (by decide) (fun K hK => ?_)
         refine goes_ Try.func18 (by kernel_rfl) rfl #[.agg #[.int .i64 ((rd_T23 l0 x10_1).f0), .int .i64 ((rd_T23 l0 x10_1).f1), .string ((rd_T23 l0 x10_1).f2)], .agg #[.int .i64 ((rd_T23 l1 x10_1).f0), .int .i64 ((rd_T23 l1 x10_1).f1), .string ((rd_T23 l1 x10_1).f2)]] (by rfl) rfl rfl (by (try simp only [List.map_toArray, List.map_cons, List.map_nil]); first | done | rfl | (simp only [List.length_drop, List.length_take]; rfl)) ?_
         with_reducible refine (value_Cmp.calls ((rd_T23 l0 x10_1).f0) ((rd_T23 l0 x10_1).f1) ((rd_T23 l0 x10_1).f2) ((rd_T23 l1 x10_1).f0) ((rd_T23 l1 x10_1).f1) ((rd_T23 l1 x10_1).f2) t115 _ A11.out).mono ?_
         rintro e w17 ⟨rfl, hb⟩
         refine ⟨_, rfl, ?_⟩
         have n0_ := Aside0.mk (blk_below (g := gb112) (o := .cells #[.int .i64 ((rd_T23 l0 x10_1).f0), .int .i64 ((rd_T23 l0 x10_1).f1), .string ((rd_T23 l0 x10_1).f2)] 23 (0, 0)) (qb_ BK112.out) hb)
         have n1_ := Aside0.mk (below_step (by repeat (first | (with_reducible first | exact HB.out | apply below_alloc | apply pw_below_drewN | apply below_drew1 | refine below_set ?_ GE112.out) | exact HB.out)) hb)
         clear BK112
         clear HB
         have BK112 := n0_
         have HB := n1_
         clear n0_ n1_
         (try clear hb)
         (try clear hb2)
         (try clear hk)
         (try clear hi)
         refine hK.out _ _ ⟨(blk_cell BK112.out 0).trans rfl, (blk_cell BK112.out 1).trans rfl, (blk_cell BK112.out 2).trans rfl, ((HB.out.cell (World.block_lt_of_cell? w _ hw114_0)).trans hw114_0), ((HB.out.cell (World.block_lt_of_cell? w _ hw114_1)).trans hw114_1), ((HB.out.cell (World.block_lt_of_cell? w _ hw114_2)).trans hw114_2)⟩ (fun hHeld => ?_)
         clear hK K
         refine norm_ (a' := ?_) ?_ ?_
         rotate_left
         ·show Act.put _ (some 24) _ = _
          simp only [Act.put, List.setIfInBounds_toArray, List.set_cons_zero, List.set_cons_succ, i64_w, i32_w]
          rfl
         refine pure_ (i := 6) (N := some 7) (v := ?_) (a' := ?_) #[true, true, true, true, true, true, true] rfl rfl (by kernel_rfl) (fun _ _ _ h => h) (Or.inl ⟨by rfl, ?_⟩) ?_ ?_
         rotate_left
         ·intro w'
          go_simp
          with_reducible rfl
         rotate_left
         ·simp only [Act.put, List.setIfInBounds_toArray, List.set_cons_zero, List.set_cons_succ, i64_w, i32_w]
          rfl
         refine done_ (by kernel_rfl) ?_
         try go_wp2
         go_roundg k1
         case measure => have := HK1.out; omega
         case rel => exact ⟨(wrap64 (x10_1 + 1)), (by first | rfl | (simp; done) | (simp [*]; done)), H', ⟨by have := HK1.out; omega⟩, ⟨by repeat (first | (with_reducible first | exact HB.out | apply below_alloc | apply pw_below_drewN | apply below_drew1 | refine below_set ?_ GE112.out) | exact HB.out)⟩⟩
        ·rw [if_neg c12] at H
         have c12b0 : (t115 == 0) = false := beq_eq_false_iff_ne.mpr c12
         have c12b1 : (t115 != 0) = true := bne_iff_ne.mpr c12
         obtain rfl := Option.some.inj H
         have p111 : 0 ≤ (x10_1 : Int) := of_decide_eq_true (by first | (with_reducible assumption) | assumption)
         have q111 : x10_1 < (l0.length : Int) := of_decide_eq_true (by first | (with_reducible assumption) | assumption)
         obtain ⟨ad111, e111, hx111_0, hx111_1, hx111_2⟩ := at_T23 HR0.out x10_1 p111 q111
         cases e111
         replace hx111_0 := (HB.out.cell (World.block_lt_of_cell? w _ hx111_0)).trans hx111_0
         replace hx111_1 := (HB.out.cell (World.block_lt_of_cell? w _ hx111_1)).trans hx111_1
         replace hx111_2 := (HB.out.cell (World.block_lt_of_cell? w _ hx111_2)).trans hx111_2
         replace p111 := eq_true p111
         replace q111 := eq_true q111
         try go_wp2_with (first | ((with_reducible refine gate_dst (N := 6) rfl ?_); refine box_event ?hg (N := 6) ?hd (cs := #[.int .i64 0, .int .i64 0, .string (⟨#[]⟩ : ByteArray)]) (t := 23) ?hr ?_; (case hd => rfl); (case hg => rfl); (case hr => first | (go_simp; done) | (go_simp; rfl)); intro gb112 hg w18 hbox hb; have n0_ := Aside0.mk (below_step qh_ hb); have n1_ := Aside0.mk (hbox); have n2_ := Aside0.mk ((by rw [hg]; exact (below_size qh_) : w.heap.size ≤ gb112)); have n3_ := Aside0.mk ((by rw [hg]; exact (below_size qh_) : w.heap.size ≤ gb112)); clear HB; have HB := n0_; have BK112 := n1_; have GW112 := n2_; have GE112 := n3_; clear n0_ n1_ n2_ n3_; clear hb hbox hg; have hcz19_0 : w18.cell? ⟨gb112, 0, none⟩ = some (.int .i64 0) := (blk_cell BK112.out 0).trans rfl; have hcz19_1 : w18.cell? ⟨gb112, 1, none⟩ = some (.int .i64 0) := (blk_cell BK112.out 1).trans rfl; have hcz19_2 : w18.cell? ⟨gb112, 2, none⟩ = some (.string (⟨#[]⟩ : ByteArray)) := (blk_cell BK112.out 2).trans rfl; have hfz19_0 := blk_frozen BK112.out 0; have hfz19_1 := blk_frozen BK112.out 1; have hfz19_2 := blk_frozen BK112.out 2))
         have n0_ : Aside0 ((((w18.setCell ⟨gb112, 0, none⟩ (.int .i64 ((rd_T23 l0 x10_1).f0))).setCell ⟨gb112, 1, none⟩ (.int .i64 ((rd_T23 l0 x10_1).f1))).setCell ⟨gb112, 2, none⟩ (.string ((rd_T23 l0 x10_1).f2))).heap[gb112]? = some (.cells #[.int .i64 ((rd_T23 l0 x10_1).f0), .int .i64 ((rd_T23 l0 x10_1).f1), .string ((rd_T23 l0 x10_1).f2)] 23 (0, 0))) := ⟨by (with_reducible repeat (first | refine blk_drewN ?_ _ | refine blk_drew ?_ | refine blk_alloc ?_ _)); refine blk_put (cs := #[.int .i64 ((rd_T23 l0 x10_1).f0), .int .i64 ((rd_T23 l0 x10_1).f1), .string (⟨#[]⟩ : ByteArray)]) ?_ 2 _ rfl; (with_reducible repeat (first | refine blk_drewN ?_ _ | refine blk_drew ?_ | refine blk_alloc ?_ _)); refine blk_put (cs := #[.int .i64 ((rd_T23 l0 x10_1).f0), .int .i64 0, .string (⟨#[]⟩ : ByteArray)]) ?_ 1 _ rfl; (with_reducible repeat (first | refine blk_drewN ?_ _ | refine blk_drew ?_ | refine blk_alloc ?_ _)); refine blk_put (cs := #[.int .i64 0, .int .i64 0, .string (⟨#[]⟩ : ByteArray)]) ?_ 0 _ rfl; (with_reducible repeat (first | refine blk_drewN ?_ _ | refine blk_drew ?_ | refine blk_alloc ?_ _)); exact BK112.out⟩
         have n1_ : Aside0 (Below w.heap.size w (((w18.setCell ⟨gb112, 0, none⟩ (.int .i64 ((rd_T23 l0 x10_1).f0))).setCell ⟨gb112, 1, none⟩ (.int .i64 ((rd_T23 l0 x10_1).f1))).setCell ⟨gb112, 2, none⟩ (.string ((rd_T23 l0 x10_1).f2)))) := ⟨by repeat (first | (with_reducible first | exact HB.out | apply below_alloc | apply pw_below_drewN | apply below_drew1 | refine below_set ?_ GE112.out) | exact HB.out)⟩
         (try clear BK112)
         (try clear HB)
         generalize (((w18.setCell ⟨gb112, 0, none⟩ (.int .i64 ((rd_T23 l0 x10_1).f0))).setCell ⟨gb112, 1, none⟩ (.int .i64 ((rd_T23 l0 x10_1).f1))).setCell ⟨gb112, 2, none⟩ (.string ((rd_T23 l0 x10_1).f2))) = w20 at n0_ n1_ ⊢
         have BK112 := n0_
         have HB := n1_
         clear n0_ n1_
         have n0_ := Aside0.mk (blk_drew BK112.out)
         have n1_ := Aside0.mk (below_drew1 HB.out)
         clear BK112
         clear HB
         have BK112 := n0_
         have HB := n1_
         clear n0_ n1_
         have p114 : 0 ≤ (x10_1 : Int) := of_decide_eq_true (by first | (with_reducible assumption) | assumption)
         have q114 : x10_1 < (l1.length : Int) := of_decide_eq_true (by first | (with_reducible assumption) | assumption)
         obtain ⟨ad114, e114, hx114_0, hx114_1, hx114_2⟩ := at_T23 HR1.out x10_1 p114 q114
         have hw114_2 := hx114_2
         have hw114_1 := hx114_1
         have hw114_0 := hx114_0
         cases e114
         replace hx114_0 := (HB.out.cell (World.block_lt_of_cell? w _ hx114_0)).trans hx114_0
         replace hx114_1 := (HB.out.cell (World.block_lt_of_cell? w _ hx114_1)).trans hx114_1
         replace hx114_2 := (HB.out.cell (World.block_lt_of_cell? w _ hx114_2)).trans hx114_2
         replace p114 := eq_true p114
         replace q114 := eq_true q114
         refine start_ (n := 7) (S := fun w' => w'.cell? ⟨gb112, 0, none⟩ = some (.int .i64 ((rd_T23 l0 x10_1).f0)) ∧ w'.cell? ⟨gb112, 1, none⟩ = some (.int .i64 ((rd_T23 l0 x10_1).f1)) ∧ w'.cell? ⟨gb112, 2, none⟩ = some (.string ((rd_T23 l0 x10_1).f2)) ∧ w'.cell? (ad114.add ((x10_1).toNat * 3)) = some (.int .i64 ((rd_T23 l1 x10_1).f0)) ∧ w'.cell? ⟨(ad114.add ((x10_1).toNat * 3)).block, (ad114.add ((x10_1).toNat * 3)).off + 1, none⟩ = some (.int .i64 ((rd_T23 l1 x10_1).f1)) ∧ w'.cell? ⟨(ad114.add ((x10_1).toNat * 3)).block, (ad114.add ((x10_1).toNat * 3)).off + 2, none⟩ = some (.string ((rd_T23 l1 x10_1).f2))) (ds := []) #[false, false, false, false, false, false, false] (by kernel_rfl) rfl rfl ⟨(blk_cell BK112.out 0).trans rfl, (blk_cell BK112.out 1).trans rfl, (blk_cell BK112.out 2).trans rfl, ((HB.out.cell (World.block_lt_of_cell? w _ hw114_0)).trans hw114_0), ((HB.out.cell (World.block_lt_of_cell? w _ hw114_1)).trans hw114_1), ((HB.out.cell (World.block_lt_of_cell? w _ hw114_2)).trans hw114_2)⟩ (fun hHeld => ?_)
         generalize w20.drew = w21 at BK112 HB hx114_0 hx114_1 hx114_2 hHeld ⊢
         refine pure_ (i := 1) (N := some 20) (v := ?_) (a' := ?_) #[false, true, false, false, false, false, false] rfl rfl (by kernel_rfl) (fun _ _ _ h => h) (Or.inl ⟨by rfl, ?_⟩) ?_ ?_
         rotate_left
         ·intro w'
          go_simp
          with_reducible rfl
         rotate_left
         ·simp only [Act.put, List.setIfInBounds_toArray, List.set_cons_zero, List.set_cons_succ, i64_w, i32_w]
          rfl
         refine pure_ (i := 2) (N := some 21) (v := ?_) (a' := ?_) #[false, true, true, false, false, false, false] rfl rfl (by kernel_rfl) (fun _ _ _ h => h) (Or.inl ⟨by rfl, ?_⟩) ?_ ?_
         rotate_left
         ·intro w'
          go_simp
          with_reducible rfl
         rotate_left
         ·simp only [Act.put, List.setIfInBounds_toArray, List.set_cons_zero, List.set_cons_succ, i64_w, i32_w]
          rfl
         refine pure_ (i := 3) (N := some 22) (v := ?_) (a' := ?_) #[false, true, true, true, false, false, false] rfl rfl (by kernel_rfl) (fun _ _ _ h => h) (Or.inl ⟨by rfl, ?_⟩) ?_ ?_
         rotate_left
         ·intro w'
          go_simp
          with_reducible rfl
         rotate_left
         ·simp only [Act.put, List.setIfInBounds_toArray, List.set_cons_zero, List.set_cons_succ, i64_w, i32_w]
          rfl
         refine take_ (i := 0) (N := some 19) (v := ?_) (a' := ?_) #[true, true, true, true, false, false, false] rfl rfl (by kernel_rfl) (fun _ _ _ h => h) (Or.inl ⟨by rfl, ?_⟩) hHeld ?_ ?_
         rotate_left
         ·rintro w' ⟨s0, s1, s2, s3, s4, s5⟩
          go_simp
          with_reducible rfl
         rotate_left
         ·simp only [Act.put, List.setIfInBounds_toArray, List.set_cons_zero, List.set_cons_succ, i64_w, i32_w]
          rfl
         refine take_ (i := 4) (N := some 23) (v := ?_) (a' := ?_) #[true, true, true, true, true, false, false] rfl rfl (by kernel_rfl) (fun _ _ _ h => h) (Or.inl ⟨by rfl, ?_⟩) hHeld ?_ ?_
         rotate_left
         ·rintro w' ⟨s0, s1, s2, s3, s4, s5⟩
          go_simp
          with_reducible rfl
         rotate_left
         ·simp only [Act.put, List.setIfInBounds_toArray, List.set_cons_zero, List.set_cons_succ, i64_w, i32_w]
          rfl
         refine one_ (i := 5) (N := some 24) #[true, true, true, true, true, true, false] rfl rfl (by kernel_rfl) (by decide) (fun K hK => ?_)
         refine goes_ Try.func18 (by kernel_rfl) rfl #[.agg #[.int .i64 ((rd_T23 l0 x10_1).f0), .int .i64 ((rd_T23 l0 x10_1).f1), .string ((rd_T23 l0 x10_1).f2)], .agg #[.int .i64 ((rd_T23 l1 x10_1).f0), .int .i64 ((rd_T23 l1 x10_1).f1), .string ((rd_T23 l1 x10_1).f2)]] (by rfl) rfl rfl (by (try simp only [List.map_toArray, List.map_cons, List.map_nil]); first | done | rfl | (simp only [List.length_drop, List.length_take]; rfl)) ?_
         with_reducible refine (value_Cmp.calls ((rd_T23 l0 x10_1).f0) ((rd_T23 l0 x10_1).f1) ((rd_T23 l0 x10_1).f2) ((rd_T23 l1 x10_1).f0) ((rd_T23 l1 x10_1).f1) ((rd_T23 l1 x10_1).f2) t115 _ A11.out).mono ?_
         rintro e w22 ⟨rfl, hb⟩
         refine ⟨_, rfl, ?_⟩
         have n0_ := Aside0.mk (blk_below (g := gb112) (o := .cells #[.int .i64 ((rd_T23 l0 x10_1).f0), .int .i64 ((rd_T23 l0 x10_1).f1), .string ((rd_T23 l0 x10_1).f2)] 23 (0, 0)) (qb_ BK112.out) hb)
         have n1_ := Aside0.mk (below_step (by repeat (first | (with_reducible first | exact HB.out | apply below_alloc | apply pw_below_drewN | apply below_drew1 | refine below_set ?_ GE112.out) | exact HB.out)) hb)
         clear BK112
         clear HB
         have BK112 := n0_
         have HB := n1_
         clear n0_ n1_
         (try clear hb)
         (try clear hb2)
         (try clear hk)
         (try clear hi)
         refine hK.out _ _ ⟨(blk_cell BK112.out 0).trans rfl, (blk_cell BK112.out 1).trans rfl, (blk_cell BK112.out 2).trans rfl, ((HB.out.cell (World.block_lt_of_cell? w _ hw114_0)).trans hw114_0), ((HB.out.cell (World.block_lt_of_cell? w _ hw114_1)).trans hw114_1), ((HB.out.cell (World.block_lt_of_cell? w _ hw114_2)).trans hw114_2)⟩ (fun hHeld => ?_)
         clear hK K
         refine norm_ (a' := ?_) ?_ ?_
         rotate_left
         ·show Act.put _ (some 24) _ = _
          simp only [Act.put, List.setIfInBounds_toArray, List.set_cons_zero, List.set_cons_succ, i64_w, i32_w]
          rfl
         refine pure_ (i := 6) (N := some 7) (v := ?_) (a' := ?_) #[true, true, true, true, true, true, true] rfl rfl (by kernel_rfl) (fun _ _ _ h => h) (Or.inl ⟨by rfl, ?_⟩) ?_ ?_
         rotate_left
         ·intro w'
          go_simp
          with_reducible rfl
         rotate_left
         ·simp only [Act.put, List.setIfInBounds_toArray, List.set_cons_zero, List.set_cons_succ, i64_w, i32_w]
          rfl
         refine done_ (by kernel_rfl) ?_
         try go_wp2
         (try rw [Exit.noGoto_ret])
         go_ret
         exact ⟨by first | rfl | (simp [errW_none, errW_some] <;> rfl) | (simp [*, errW_none, errW_some] <;> rfl), by repeat (first | (with_reducible first | exact HB.out | apply below_alloc | apply pw_below_drewN | apply below_drew1 | refine below_set ?_ GE112.out) | exact HB.out)⟩
       ·rw [if_neg c10] at H
        exact absurd H (by simp)
     ·rw [if_neg c5] at H
      exact absurd H (by simp)
    ·rw [if_neg c4] at H
     exact absurd H (by simp)
   ·rw [if_neg c3] at H
    have c3b0 : decide (x10_1 < (l0.length : Int)) = false := decide_eq_false c3
    clear c3
    replace H := Option.bind_eq_some_iff.mp H
    obtain ⟨t110, A230, H⟩ := H
    replace H : (some t110) = some r := H
    have A23 := Aside0.mk A230
    clear A230
    obtain rfl := Option.some.inj H
    go_wp2_with (first | ((with_reducible refine gate_callee (f := 29) rfl ?_); refine goesL_ (some 33) rfl rfl Try.func29 (by kernel_rfl) rfl #[.int .i64 (l0.length : Int), .int .i64 (l1.length : Int)] rfl (by (try simp only [List.map_toArray, List.map_cons, List.map_nil]); first | done | rfl | (simp only [List.length_drop, List.length_take]; rfl)) ?_; (with_reducible refine (cmp_Compare_int.calls (l0.length : Int) (l1.length : Int) t110 _ A23.out).mono ?_); rintro e w' ⟨rfl, ⟨nd, rfl⟩⟩; refine ⟨_, rfl, ?_⟩))
    (try rw [Exit.noGoto_ret])
    go_ret
    exact ⟨by first | rfl | (simp [errW_none, errW_some] <;> rfl) | (simp [*, errW_none, errW_some] <;> rfl), qh_⟩
def zset_sum_1.f (k : Nat) (l0_0 : List (S23)) (a0_1 : Int) (l1_0 : List (S23)) (a1_1 : Int) : Option (Int) := (value_CmpRow.f k l0_0 l1_0).bind fun t118 => (some t118)
theorem zset_sum_1.mono : ∀ a0 a1 a2 a3 k, LeO (zset_sum_1.f k a0 a1 a2 a3) (zset_sum_1.f (k + 1) a0 a1 a2 a3) := by
 intro a0 a1 a2 a3 k
 unfold zset_sum_1.f
 repeat' first
   | (with_reducible exact value_CmpRow.mono _ _ _)
   | (with_reducible exact LeO.refl _)
   | (with_reducible exact LeO.none _)
   | (with_reducible refine LeO.ite ?_ ?_)
   | (with_reducible refine LeO.bind ?_ (fun _ => ?_))
   | exact value_CmpRow.mono _ _ _
   | exact LeO.none _
   | refine LeO.ite ?_ ?_
   | refine LeO.bind ?_ (fun _ => ?_)
set_option maxHeartbeats 8000000 in
set_option maxRecDepth 100000 in
theorem zset_sum_1.calls (k : Nat) (A0_0 : Option Addr) (c0_0 : Nat) (l0_0 : List (S23)) (a0_1 : Int) (A1_0 : Option Addr) (c1_0 : Nat) (l1_0 : List (S23)) (a1_1 : Int) (r : Int) (w : World) (hr0_0 : Kd.C k23 w A0_0 l0_0.length l0_0) (hc0_0 : l0_0.length ≤ c0_0) (hr1_0 : Kd.C k23 w A1_0 l1_0.length l1_0) (hc1_0 : l1_0.length ≤ c1_0) (h : zset_sum_1.f k l0_0 a0_1 l1_0 a1_1 = some r) :
  Calls Try.prog 40 #[.agg #[.slice A0_0 l0_0.length c0_0, .int .i64 a0_1], .agg #[.slice A1_0 l1_0.length c1_0, .int .i64 a1_1]] w fun e w' => e = .returned (.int .i64 r) ∧ Below w.heap.size w w' := by
 have hu44 := Try.underlying44
 have HR0_0 := Aside0.mk hr0_0
 have HC0_0 := Aside0.mk hc0_0
 clear hr0_0 hc0_0
 have HR1_0 := Aside0.mk hr1_0
 have HC1_0 := Aside0.mk hc1_0
 clear hr1_0 hc1_0
 have HB := Aside0.mk (Below.refl w.heap.size w)
 have H : ((value_CmpRow.f k l0_0 l1_0).bind fun t118 => (some t118)) = some r := h
 clear h
 replace H := Option.bind_eq_some_iff.mp H
 obtain ⟨t118, A30, H⟩ := H
 replace H : (some t118) = some r := H
 have A3 := Aside0.mk A30
 clear A30
 obtain rfl := Option.some.inj H
 go_enter Try.func40, Try.ntmps40
 go_wp2_with (first | ((with_reducible refine gate_dst (N := 2) rfl ?_); refine box_event ?hg (N := 2) ?hd (cs := #[.slice A0_0 l0_0.length c0_0, .int .i64 a0_1]) (t := 44) ?hr ?_; (case hd => rfl); (case hg => rfl); (case hr => first | (go_simp; done) | (go_simp; rfl)); intro gb116 hg w4 hbox hb; have n0_ := Aside0.mk (below_step qh_ hb); have n1_ := Aside0.mk (hbox); have n2_ := Aside0.mk ((by rw [hg]; exact (below_size qh_) : w.heap.size ≤ gb116)); have n3_ := Aside0.mk ((by rw [hg]; exact (below_size qh_) : w.heap.size ≤ gb116)); clear HB; have HB := n0_; have BK116 := n1_; have GW116 := n2_; have GE116 := n3_; clear n0_ n1_ n2_ n3_; clear hb hbox hg) | ((with_reducible refine gate_dst (N := 3) rfl ?_); refine box_event ?hg (N := 3) ?hd (cs := #[.slice A1_0 l1_0.length c1_0, .int .i64 a1_1]) (t := 44) ?hr ?_; (case hd => rfl); (case hg => rfl); (case hr => first | (go_simp; done) | (go_simp; rfl)); intro gb117 hg w5 hbox hb; have n0_ := Aside0.mk (blk_below (g := gb116) (o := .cells #[.slice A0_0 l0_0.length c0_0, .int .i64 a0_1] 44 (0, 0)) (qb_ BK116.out) hb); have n1_ := Aside0.mk (below_step (by repeat (first | (with_reducible first | exact HB.out | apply below_alloc | apply pw_below_drewN | apply below_drew1 | refine below_set ?_ GE116.out) | exact HB.out)) hb); have n2_ := Aside0.mk (hbox); have n3_ := Aside0.mk ((by rw [hg]; exact (below_size (by repeat (first | (with_reducible first | exact HB.out | apply below_alloc | apply pw_below_drewN | apply below_drew1 | refine below_set ?_ GE116.out) | exact HB.out))) : w.heap.size ≤ gb117)); have n4_ := Aside0.mk ((by rw [hg]; exact (below_size (by repeat (first | (with_reducible first | exact HB.out | apply below_alloc | apply pw_below_drewN | apply below_drew1 | refine below_set ?_ GE116.out) | exact HB.out))) : w.heap.size ≤ gb117)); have n5_ := Aside0.mk ((by rw [hg]; exact Nat.ne_of_lt (blk_lt (g := gb116) (o := .cells #[.slice A0_0 l0_0.length c0_0, .int .i64 a0_1] 44 (0, 0)) (qb_ BK116.out)) : gb116 ≠ gb117)); have n6_ := Aside0.mk ((by rw [hg]; exact Nat.ne_of_gt (blk_lt (g := gb116) (o := .cells #[.slice A0_0 l0_0.length c0_0, .int .i64 a0_1] 44 (0, 0)) (qb_ BK116.out)) : gb117 ≠ gb116)); clear BK116; clear HB; have BK116 := n0_; have HB := n1_; have BK117 := n2_; have GW117 := n3_; have GE117 := n4_; have NB116_117 := n5_; have NB117_116 := n6_; clear n0_ n1_ n2_ n3_ n4_ n5_ n6_; clear hb hbox hg; have hnb6 := NB116_117.out; have hnc6 := NB117_116.out; have hcz7_0 : w5.cell? ⟨gb116, 0, none⟩ = some (.slice A0_0 l0_0.length c0_0) := (blk_cell BK116.out 0).trans rfl; have hcz7_1 : w5.cell? ⟨gb116, 1, none⟩ = some (.int .i64 a0_1) := (blk_cell BK116.out 1).trans rfl; have hfz7_0 := blk_frozen BK116.out 0; have hfz7_1 := blk_frozen BK116.out 1; have hcz8_0 : w5.cell? ⟨gb117, 0, none⟩ = some (.slice A1_0 l1_0.length c1_0) := (blk_cell BK117.out 0).trans rfl; have hcz8_1 : w5.cell? ⟨gb117, 1, none⟩ = some (.int .i64 a1_1) := (blk_cell BK117.out 1).trans rfl; have hfz8_0 := blk_frozen BK117.out 0; have hfz8_1 := blk_frozen BK117.out 1) | ((with_reducible refine gate_callee (f := 41) rfl ?_); refine goesL_ (some 9) rfl rfl Try.func41 (by kernel_rfl) rfl #[.slice A0_0 l0_0.length c0_0, .slice A1_0 l1_0.length c1_0] rfl (by (try simp only [List.map_toArray, List.map_cons, List.map_nil]); first | done | rfl | (simp only [List.length_drop, List.length_take]; rfl)) ?_; (with_reducible refine (value_CmpRow.calls k _ _ l0_0 _ _ l1_0 t118 _ ?side1 ?side2 ?side3 ?side4 A3.out).mono ?_); (case side1 => repeat (first | exact (Kd.C_below HR0_0.out HB.out) | (with_reducible refine Kd.C_alloc ?_ _) | (with_reducible refine Kd.C_drewN ?_ _) | (with_reducible refine Kd.C_drew ?_))); (case side2 => exact HC0_0.out); (case side3 => repeat (first | exact (Kd.C_below HR1_0.out HB.out) | (with_reducible refine Kd.C_alloc ?_ _) | (with_reducible refine Kd.C_drewN ?_ _) | (with_reducible refine Kd.C_drew ?_))); (case side4 => exact HC1_0.out); rintro e w9 ⟨rfl, hb⟩; refine ⟨_, rfl, ?_⟩; have n0_ := Aside0.mk (blk_below (g := gb116) (o := .cells #[.slice A0_0 l0_0.length c0_0, .int .i64 a0_1] 44 (0, 0)) (qb_ BK116.out) hb); have n1_ := Aside0.mk (blk_below (g := gb117) (o := .cells #[.slice A1_0 l1_0.length c1_0, .int .i64 a1_1] 44 (0, 0)) (qb_ BK117.out) hb); have n2_ := Aside0.mk (below_step (by repeat (first | (with_reducible first | exact HB.out | apply below_alloc | apply pw_below_drewN | apply below_drew1 | refine below_set ?_ GE116.out | refine below_set ?_ GE117.out) | exact HB.out)) hb); clear BK116; clear BK117; clear HB; have BK116 := n0_; have BK117 := n1_; have HB := n2_; clear n0_ n1_ n2_; (try clear hb); (try clear hb2); (try clear hk); (try clear hi)))
 go_ret
 exact ⟨by first | rfl | (simp [errW_none, errW_some] <;> rfl) | (simp [*, errW_none, errW_some] <;> rfl), by repeat (first | (with_reducible first | exact HB.out | apply below_alloc | apply pw_below_drewN | apply below_drew1 | refine below_set ?_ GE116.out | refine below_set ?_ GE117.out) | exact HB.out)⟩
def eval_Picked.l0 : Nat → List (S23) → List (S23) → List Int → Int → Int → Option ((List (S23)))
 | 0, _, _, _, _, _ => none
 | k + 1, x0, x4, x7, x8, x9 => if x9 < x8 then (if 0 ≤ x9 then (if x9 < (x7.length : Int) then (if (rd x7 x9) ≥ 0 then (if (rd x7 x9) < (x0.length : Int) then (if 0 ≤ (rd x7 x9) then (if x4.length < 4398046511104 then (eval_Picked.l0 k x0 (x4 ++ [(⟨(rd_T23 x0 (rd x7 x9)).f0, (rd_T23 x0 (rd x7 x9)).f1, (rd_T23 x0 (rd x7 x9)).f2⟩ : S23)]) x7 x8 (wrap64 (x9 + 1))) else (none)) else (none)) else (eval_Picked.l0 k x0 x4 x7 x8 (wrap64 (x9 + 1)))) else (eval_Picked.l0 k x0 x4 x7 x8 (wrap64 (x9 + 1)))) else (none)) else (none)) else (some x4)
def eval_Picked.f (k : Nat) (l0 : List (S23)) (l1 : List Int) : Option ((List (S23))) := eval_Picked.l0 k l0 ([] : List (S23)) l1 (l1.length : Int) 0
theorem eval_Picked.mono_l : ∀ k, (∀ y0 y1 y2 y3 y4, LeO (eval_Picked.l0 k y0 y1 y2 y3 y4) (eval_Picked.l0 (k + 1) y0 y1 y2 y3 y4))
 | 0 => fun _ _ _ _ _ r h => by simp [eval_Picked.l0] at h
 | k + 1 => by
  have ih0 := eval_Picked.mono_l k
  ·intro y0 y1 y2 y3 y4
   unfold eval_Picked.l0
   repeat' first
   | (with_reducible exact ih0 _ _ _ _ _)
   | (with_reducible exact LeO.refl _)
   | (with_reducible exact LeO.none _)
   | (with_reducible refine LeO.ite ?_ ?_)
   | (with_reducible refine LeO.bind ?_ (fun _ => ?_))
   | exact ih0 _ _ _ _ _
   | exact LeO.none _
   | refine LeO.ite ?_ ?_
   | refine LeO.bind ?_ (fun _ => ?_)
theorem eval_Picked.mono : ∀ a0 a1 k, LeO (eval_Picked.f k a0 a1) (eval_Picked.f (k + 1) a0 a1) := by
 intro a0 a1 k
 have ih0 := eval_Picked.mono_l k
 unfold eval_Picked.f
 repeat' first
   | (with_reducible exact ih0 _ _ _ _ _)
   | (with_reducible exact LeO.refl _)
   | (with_reducible exact LeO.none _)
   | (with_reducible refine LeO.ite ?_ ?_)
   | (with_reducible refine LeO.bind ?_ (fun _ => ?_))
   | exact ih0 _ _ _ _ _
   | exact LeO.none _
   | refine LeO.ite ?_ ?_
   | refine LeO.bind ?_ (fun _ => ?_)
set_option maxHeartbeats 8000000 in
set_option maxRecDepth 100000 in
theorem eval_Picked.calls (k : Nat) (A0 : Option Addr) (c0 : Nat) (l0 : List (S23)) (A1 : Option Addr) (c1 : Nat) (l1 : List Int) (r : List (S23)) (w : World) (hr0 : Kd.C k23 w A0 l0.length l0) (hc0 : l0.length ≤ c0) (hr1 : Kd.C (Kd.int .i64) w A1 l1.length l1) (hc1 : l1.length ≤ c1) (h : eval_Picked.f k l0 l1 = some r) :
  Calls Try.prog 7 #[.slice A0 l0.length c0, .slice A1 l1.length c1] w fun e w' => ∃ v0_ : Value, e = .returned (v0_) ∧ Kd.R k23 23 w' w.heap.size (fun _ => True) v0_ r ∧ Below w.heap.size w w' := by
 have hu23 := Try.underlying23
 have HR0 := Aside0.mk hr0
 have HC0 := Aside0.mk hc0
 clear hr0 hc0
 have HR1 := Aside0.mk hr1
 have HC1 := Aside0.mk hc1
 clear hr1 hc1
 have HB := Aside0.mk (Below.refl w.heap.size w)
 have H : (eval_Picked.l0 k l0 ([] : List (S23)) l1 (l1.length : Int) 0) = some r := h
 clear h
 have H' := Aside0.mk H
 clear H
 go_enter Try.func7, Try.ntmps7
 go_wp2
 go_loopg [4, 9] k (fun kq v4 v9 w' => ∃ (x4_1 : List (S23)) (x9_1 : Int), v9 = .int .i64 x9_1 ∧ Aside0 (eval_Picked.l0 kq l0 x4_1 l1 (l1.length : Int) x9_1 = some r) ∧ Aside0 (kq ≤ k) ∧ Aside0 (Kd.R k23 23 w' w.heap.size (fun _ => True) v4 x4_1) ∧ Aside0 (Below w.heap.size w w'))
 case atStart => exact ⟨(([] : List (S23))), (0), (by first | rfl | (simp; done) | (simp [*]; done)), H', ⟨Nat.le_refl _⟩, ⟨by first | exact Kd.R_nil _ _ _ _ _ | exact Kd.N_nil _ _ _ _ _ | exact Kd.V_nil _ _ _ _ _ | exact Kd.Q_nil _ _ _ _ _ | exact Kd.S_nil _ _ _ _ _⟩, ⟨qh_⟩⟩
 case round =>
  clear H'
  try clear c1
  try clear p2
  obtain ⟨x4_1, x9_1, rfl, HA, HK1, HO_4, HB⟩ := hrel
  cases gk with
  | zero => exact absurd HA.out (by simp [eval_Picked.l0])
  | succ k1 =>
   have H := HA.out
   clear HA
   simp only [eval_Picked.l0] at H
   by_cases c3 : x9_1 < (l1.length : Int)
   ·rw [if_pos c3] at H
    have c3b0 : decide (x9_1 < (l1.length : Int)) = true := decide_eq_true c3
    clear c3
    by_cases c4 : 0 ≤ x9_1
    ·rw [if_pos c4] at H
     have c4b0 : decide (0 ≤ x9_1) = true := decide_eq_true c4
     clear c4
     by_cases c5 : x9_1 < (l1.length : Int)
     ·rw [if_pos c5] at H
      have c5b0 : decide (x9_1 < (l1.length : Int)) = true := decide_eq_true c5
      clear c5
      by_cases c6 : (rd l1 x9_1) ≥ 0
      ·rw [if_pos c6] at H
       have c6b0 : decide (0 ≤ (rd l1 x9_1)) = true := decide_eq_true c6
       clear c6
       by_cases c7 : (rd l1 x9_1) < (l0.length : Int)
       ·rw [if_pos c7] at H
        have c7b0 : decide ((rd l1 x9_1) < (l0.length : Int)) = true := decide_eq_true c7
        clear c7
        by_cases c8 : 0 ≤ (rd l1 x9_1)
        ·rw [if_pos c8] at H
         have c8b0 : decide (0 ≤ (rd l1 x9_1)) = true := decide_eq_true c8
         clear c8
         by_cases c9 : x4_1.length < 4398046511104
         ·rw [if_pos c9] at H
          have LMc9 := Aside0.mk c9
          clear c9
          obtain ⟨y121, hy121⟩ : ∃ y_ : List (S23), y_ = (x4_1 ++ [(⟨(rd_T23 l0 (rd l1 x9_1)).f0, (rd_T23 l0 (rd l1 x9_1)).f1, (rd_T23 l0 (rd l1 x9_1)).f2⟩ : S23)]) := ⟨_, rfl⟩
          replace H : (eval_Picked.l0 k1 l0 y121 l1 (l1.length : Int) (wrap64 (x9_1 + 1))) = some r := by first | (rw [hy121]; with_reducible exact H) | (have H2_ := (Option.bind_some _ _).symm.trans H; rw [hy121]; with_reducible exact H2_) | (have H2_ := (Option.bind_some _ _).symm.trans H; with_reducible exact H2_) | with_reducible exact H | (rw [hy121]; exact H) | exact H
          have Ny121 := Aside0.mk hy121
          clear hy121
          have H' := Aside0.mk H
          clear H
          have p119 : 0 ≤ (x9_1 : Int) := of_decide_eq_true (by first | (with_reducible assumption) | assumption)
          have q119 : x9_1 < (l1.length : Int) := of_decide_eq_true (by first | (with_reducible assumption) | assumption)
          obtain ⟨ad119, e119, hx119_0⟩ := Kd.at_int HR1.out x9_1 p119 q119
          cases e119
          replace hx119_0 := (HB.out.cell (World.block_lt_of_cell? w _ hx119_0)).trans hx119_0
          replace p119 := eq_true p119
          replace q119 := eq_true q119
          have p120 : 0 ≤ ((rd l1 x9_1) : Int) := of_decide_eq_true (by first | (with_reducible assumption) | assumption)
          have q120 : (rd l1 x9_1) < (l0.length : Int) := of_decide_eq_true (by first | (with_reducible assumption) | assumption)
          obtain ⟨ad120, e120, hx120_0, hx120_1, hx120_2⟩ := at_T23 HR0.out (rd l1 x9_1) p120 q120
          cases e120
          replace hx120_0 := (HB.out.cell (World.block_lt_of_cell? w _ hx120_0)).trans hx120_0
          replace hx120_1 := (HB.out.cell (World.block_lt_of_cell? w _ hx120_1)).trans hx120_1
          replace hx120_2 := (HB.out.cell (World.block_lt_of_cell? w _ hx120_2)).trans hx120_2
          replace p120 := eq_true p120
          replace q120 := eq_true q120
          go_wp2_with (first | ((with_reducible refine gate_builtin (b := .append) (xs := #[.tmp 21, .tmp 26]) rfl ?_); (try (refine gate_guard (by rfl) ?_; dsimp only)); at_builtin; refine Kd.R_append k23 (w0 := w) w.heap.size rfl (.tmp 21) (.tmp 26) 24 23 (.agg #[(.int .i64 0), (.int .i64 0), (.string ⟨#[]⟩)]) 32 rfl Try.underlying24 info23 rfl (by decide) (by omega) u4 x4_1 (⟨(rd_T23 l0 (rd l1 x9_1)).f0, (rd_T23 l0 (rd l1 x9_1)).f1, (rd_T23 l0 (rd l1 x9_1)).f2⟩ : S23) [.int .i64 ((rd_T23 l0 (rd l1 x9_1)).f0), .int .i64 ((rd_T23 l0 (rd l1 x9_1)).f1), .string ((rd_T23 l0 (rd l1 x9_1)).f2)] (fun _ => True) (fun _ => False) rfl rfl ?aP (fun _ hk => hk.elim) ?aF ?aO ?aB ?aS ?aL ?_; (case aP => exact k23_mkM _ _ _ (⟨(rd_T23 l0 (rd l1 x9_1)).f0, (rd_T23 l0 (rd l1 x9_1)).f1, (rd_T23 l0 (rd l1 x9_1)).f2⟩ : S23)); (case aB => exact qh_); (case aF => exact (fun _ _ => trivial)); (case aO => exact (qr_ HO_4.out)); (case aS => exact (below_size qh_)); (case aL => have := LMc9.out; omega); intro v122 w10 ho hb hg hat; rw [← Ny121.out] at ho; have n0_ := Aside0.mk (hb); have n1_ := Aside0.mk (ho); clear HB; clear HO_4; have HB := n0_; have HO123 := n1_; clear n0_ n1_; clear ho hb hg hat))
          go_roundg k1
          case measure => have := HK1.out; omega
          case rel => exact ⟨(y121), (wrap64 (x9_1 + 1)), (by first | rfl | (simp; done) | (simp [*]; done)), H', ⟨by have := HK1.out; omega⟩, ⟨qr_ HO123.out⟩, ⟨qh_⟩⟩
         ·rw [if_neg c9] at H
          exact absurd H (by simp)
        ·rw [if_neg c8] at H
         exact absurd H (by simp)
       ·rw [if_neg c7] at H
        have c7b0 : decide ((rd l1 x9_1) < (l0.length : Int)) = false := decide_eq_false c7
        clear c7
        have H' := Aside0.mk H
        clear H
        have p119 : 0 ≤ (x9_1 : Int) := of_decide_eq_true (by first | (with_reducible assumption) | assumption)
        have q119 : x9_1 < (l1.length : Int) := of_decide_eq_true (by first | (with_reducible assumption) | assumption)
        obtain ⟨ad119, e119, hx119_0⟩ := Kd.at_int HR1.out x9_1 p119 q119
        cases e119
        replace hx119_0 := (HB.out.cell (World.block_lt_of_cell? w _ hx119_0)).trans hx119_0
        replace p119 := eq_true p119
        replace q119 := eq_true q119
        go_wp2
        go_roundg k1
        case measure => have := HK1.out; omega
        case rel => exact ⟨(x4_1), (wrap64 (x9_1 + 1)), (by first | rfl | (simp; done) | (simp [*]; done)), H', ⟨by have := HK1.out; omega⟩, ⟨qr_ HO_4.out⟩, ⟨qh_⟩⟩
      ·rw [if_neg c6] at H
       have c6b0 : decide (0 ≤ (rd l1 x9_1)) = false := decide_eq_false c6
       clear c6
       have H' := Aside0.mk H
       clear H
       have p119 : 0 ≤ (x9_1 : Int) := of_decide_eq_true (by first | (with_reducible assumption) | assumption)
       have q119 : x9_1 < (l1.length : Int) := of_decide_eq_true (by first | (with_reducible assumption) | assumption)
       obtain ⟨ad119, e119, hx119_0⟩ := Kd.at_int HR1.out x9_1 p119 q119
       cases e119
       replace hx119_0 := (HB.out.cell (World.block_lt_of_cell? w _ hx119_0)).trans hx119_0
       replace p119 := eq_true p119
       replace q119 := eq_true q119
       go_wp2
       go_roundg k1
       case measure => have := HK1.out; omega
       case rel => exact ⟨(x4_1), (wrap64 (x9_1 + 1)), (by first | rfl | (simp; done) | (simp [*]; done)), H', ⟨by have := HK1.out; omega⟩, ⟨qr_ HO_4.out⟩, ⟨qh_⟩⟩
     ·rw [if_neg c5] at H
      exact absurd H (by simp)
    ·rw [if_neg c4] at H
     exact absurd H (by simp)
   ·rw [if_neg c3] at H
    have c3b0 : decide (x9_1 < (l1.length : Int)) = false := decide_eq_false c3
    clear c3
    obtain rfl := Option.some.inj H
    go_wp2
    go_ret
    exact ⟨_, by first | rfl | (simp [errW_none, errW_some] <;> rfl) | (simp [*, errW_none, errW_some] <;> rfl), by (with_reducible repeat (first | apply Kd.R_alloc | apply Kd.R_drewN | apply Kd.R_drew)); exact HO_4.out, qh_⟩
end Go.Proofs.Ytgapgdnbgimdlaa.PA
end
section
set_option linter.unusedVariables false
set_option linter.unusedSimpArgs false
namespace Go.Proofs.Ytgapgdnbgimdlaa.PA
open Go.RowKit Go.Maps Go.WideElems Go.MapKept Go.Proofs.YtgapgdnbgimdlaaW.PrintWords Go.Proofs.YtgapgdnbgimdlaaW.PrintLast Go.Proofs.YtgapgdnbgimdlaaW.PrintMore
open Go.ChangeMaps (setBlock heap_setBlock_same)
open Go.Proofs.Ytgapgdnbgimdlaa.It (keyed)
noncomputable abbrev R0 : Value → Option (DataW Unit × List MemPlace) := fun _ => some (.nil, [])
def okS (S : Nat → Prop) (v : Value) : Nat → Prop := fun k => S k ∨ some k = v.ownBlock
def Groups (w : World) (b base n : Nat) (S : Nat → Prop) (G : List UInt8 → List S44) : Prop :=
 ∃ es clock, w.heap[b]? = some (.map es clock) ∧ Fit Try.prog 9 R0 es clock ∧ es.size ≤ n ∧
  (∀ x ∈ es.toList, ∃ kb, x.key = encStr kb ∧ G kb ≠ [] ∧ Kd.N k44 44 w base (okS S x.val) x.val (G kb)) ∧
  (∀ kb, G kb ≠ [] → ∃ x ∈ es.toList, x.key = encStr kb) ∧
  (∀ x ∈ es.toList, ∀ y ∈ es.toList, x.key ≠ y.key → ∀ k, x.val.ownBlock = some k → y.val.ownBlock ≠ some k)
theorem Groups.made (w : World) (base : Nat) (S : Nat → Prop) : Groups (w.alloc (.map #[] 0)) w.heap.size base 0 S (fun _ => []) :=
 ⟨#[], 0, (MapKept.heap_alloc w _).1, ⟨by simp, stamped_empty 0, by simp⟩, Nat.le_refl _, by simp, by simp, by simp⟩
theorem Groups.lt {w : World} {b base n : Nat} {S : Nat → Prop} {G : List UInt8 → List S44} (h : Groups w b base n S G) : b < w.heap.size := by
 obtain ⟨es, clock, hb, _⟩ := h
 exact (Array.getElem?_eq_some_iff.1 hb).1
theorem Groups.below {w w' : World} {b base n : Nat} {S : Nat → Prop} {G : List UInt8 → List S44} (h : Groups w b base n S G) (hb : Below w.heap.size w w') : Groups w' b base n S G := by
 obtain ⟨es, clock, hm, F, hs, h1, h2, h3⟩ := h
 exact ⟨es, clock, (hb.block b (Array.getElem?_eq_some_iff.1 hm).1).trans hm, F, hs, fun x hx => by
  obtain ⟨kb, e, hg, hN⟩ := h1 x hx
  exact ⟨kb, e, hg, Kd.N_below hN hb⟩, h2, h3⟩
theorem Groups.own {w : World} {b base n : Nat} {S : Nat → Prop} {G : List UInt8 → List S44} (h : Groups w b base n S G) : w.ownsMap Try.prog 9 R0 b n (.map (((Classical.choose h).toList.map (rg Try.prog 9 R0)).foldr DataW.insert [])) := by
 obtain ⟨clock, hm, F, hs, _⟩ := Classical.choose_spec h
 exact ⟨_, clock, hm, F, hs, rfl⟩
def setG (G : List UInt8 → List S44) (kb : List UInt8) (l : List S44) : List UInt8 → List S44 := fun q => if q = kb then l else G q
theorem setBlock_grown (w : World) (b : Nat) (o : Obj) : w.grownBy (setBlock w b o) (some b) := by
 refine ⟨rfl, rfl, rfl, by simp [setBlock], fun k hk hne => ?_⟩
 have : k ≠ b := fun e => hne (by rw [e])
 simp [setBlock, Array.getElem?_setIfInBounds, Ne.symm this]
noncomputable abbrev datum (es : Array MapEntry) : DataW Unit := .map ((es.toList.map (rg Try.prog 9 R0)).foldr DataW.insert [])
theorem key_mk {q : List UInt8} (h : q.length ≤ maxLen) : keyOf Try.prog 9 (encStr q) = some (.string q) := by
 simp only [maxLen] at h
 simp [keyOf, Try.underlying9, mapKey, encStr, maxLen, ByteArray.size]
 omega
theorem fit_has {w : World} {b : Nat} {es : Array MapEntry} {clock : Nat} (hm : w.heap[b]? = some (.map es clock)) (F : Fit Try.prog 9 R0 es clock) {q : List UInt8} (hq : q.length ≤ maxLen) : has (datum es) (.string q) = true ↔ ∃ x ∈ es.toList, x.key = encStr q := by
 rcases Maps.fit_look false keyed Try.underlying52 (Try.zeroValue31 w) hm F (key_mk hq) with ⟨_, hno, hat⟩ | ⟨e0, y, h0, h1, _, _, hat, _⟩
 ·rw [has_false_of_atKey hat]
  constructor
  ·intro e; cases e
  ·rintro ⟨x, hx, e⟩; exact absurd e (hno x hx)
 ·rw [has_true_of_atKey hat]
  exact ⟨fun _ => ⟨e0, h0, h1⟩, fun _ => rfl⟩
theorem entry_len {es : Array MapEntry} {clock : Nat} (F : Fit Try.prog 9 R0 es clock) {x : MapEntry} (hx : x ∈ es.toList) {q : List UInt8} (e : x.key = encStr q) : q.length ≤ maxLen := by
 obtain ⟨y, hy⟩ := F.reads x hx
 obtain ⟨q', e', _, hl⟩ := Maps.keyOf_str Try.underlying9 (rd_key hy)
 rw [e] at e'
 rw [encStr_inj e']
 exact hl
theorem Groups.step {w : World} {b base n : Nat} {S : Nat → Prop} {G : List UInt8 → List S44} (h : Groups w b base n S G) (hS : ∀ k, S k → k < base) (hbb : base ≤ b) (hn : n < maxLen) (kb : List UInt8) (hkb : kb.length ≤ maxLen) :
  ∃ v, (Instr.lookup 52 (.map (some b)) (encStr kb) false).run Try.prog w = .ok v w ∧ Kd.N k44 44 w base (okS S v) v (G kb) ∧
   ∀ (l : List S44) v1 w1, w.grownBy w1 v.ownBlock → (v1.ownBlock = v.ownBlock ∨ ∃ g, v1.ownBlock = some g ∧ w.heap.size ≤ g) → Kd.N k44 44 w1 base (okS S v1) v1 l → l ≠ [] →
    ∃ w2, (Instr.mapUpdate 52 (.map (some b)) (encStr kb) v1).run Try.prog w1 = .ok () w2 ∧ Groups w2 b base (n + 1) S (setG G kb l) ∧ w1.grownBy w2 (some b) := by
 obtain ⟨es, clock, hm, F, hs, h1, h2, h3⟩ := h
 have hlt := (Array.getElem?_eq_some_iff.1 hm).1
 have nob : ∀ {W : World} {v : Value} {l : List S44}, W.heap[b]? = some (.map es clock) → Kd.N k44 44 W base (okS S v) v l → ∀ k, v.ownBlock = some k → k ≠ b := by
  intro W v l hW hN k hk e
  subst e
  obtain ⟨_, rows, _, hR, _⟩ := hN
  obtain ⟨_, _, _, q, _, cells, hc⟩ := (Kd.R_bound hR).1 k hk
  rw [hW] at hc
  cases hc
 have main : ∀ v, Kd.N k44 44 w base (okS S v) v (G kb) → (∀ x ∈ es.toList, x.key ≠ encStr kb → ∀ k, x.val.ownBlock = some k → v.ownBlock ≠ some k) →
   (∀ (l : List S44) v1 w1, w.grownBy w1 v.ownBlock → (v1.ownBlock = v.ownBlock ∨ ∃ g, v1.ownBlock = some g ∧ w.heap.size ≤ g) → Kd.N k44 44 w1 base (okS S v1) v1 l → l ≠ [] →
    ∃ w2, (Instr.mapUpdate 52 (.map (some b)) (encStr kb) v1).run Try.prog w1 = .ok () w2 ∧ Groups w2 b base (n + 1) S (setG G kb l) ∧ w1.grownBy w2 (some b)) := by
  intro v hvN hv l v1 w1 hg hat hN1 hl
  have hm1 : w1.heap[b]? = some (.map es clock) := (hg.block b hlt (fun e => nob hm hvN b e.symm rfl)).trans hm
  obtain ⟨es', clock', hrun, F', hput, _, _, hwho⟩ := Maps.fit_store (R' := R0) (val := v1) keyed Try.underlying52 hm1 F (by omega) (fun _ _ _ _ h => h) (key_mk hkb) rfl
  have hm2 : (setBlock w1 b (.map es' clock')).heap[b]? = some (.map es' clock') := heap_setBlock_same hm1 _
  have hG2 := setBlock_grown w1 b (.map es' clock')
  have hsz : es'.size ≤ n + 1 := by
   obtain ⟨w2', hrun2, ⟨es2, clock2, hm2', _, hs2, _⟩, _⟩ := World.ownsMap.update (R := R0) (P := Try.prog) (w := w1) ⟨es, clock, hm1, F, hs, rfl⟩ keyed Try.underlying52 hn (key_mk hkb) (val := v1) rfl
   rw [hrun] at hrun2
   obtain rfl : setBlock w1 b (.map es' clock') = w2' := by simpa using hrun2
   rw [hm2] at hm2'
   cases hm2'
   exact hs2
  have hdat : datum es' = (datum es).put (.string kb) .nil := by
   show DataW.map _ = _
   rw [hput]
   rfl
  refine ⟨_, hrun, ⟨es', clock', hm2, F', hsz, fun x hx => ?_, fun q hq => ?_, fun x hx y hy hne k hk => ?_⟩, hG2⟩
  ·rcases hwho x hx with ⟨hxe, hxk⟩ | ⟨hxk, hxv⟩
   ·obtain ⟨q, e, hgq, hN⟩ := h1 x hxe
    have hqk : q ≠ kb := fun e' => hxk (by rw [e, e'])
    refine ⟨q, e, by simpa [setG, hqk] using hgq, ?_⟩
    rw [show setG G kb l q = G q from if_neg hqk]
    refine Kd.N_grown (Kd.N_grown hN hg (fun k hk e' => ?_)) hG2 (fun k hk e' => ?_)
    ·rcases hk with hk | hk
     ·have h4 := hS _ hk
      have h5 := Kd.N_base hvN k e'.symm
      omega
     ·exact hv x hxe hxk k hk.symm e'.symm
    ·cases e'
     rcases hk with hk | hk
     ·have := hS _ hk; omega
     ·exact nob hm hN b hk.symm rfl
   ·refine ⟨kb, hxk, by simpa [setG] using hl, ?_⟩
    rw [show setG G kb l kb = l from if_pos rfl, hxv]
    refine Kd.N_grown hN1 hG2 (fun k hk e => ?_)
    cases e
    rcases hk with hk | hk
    ·have := hS _ hk; omega
    ·exact nob hm1 hN1 b hk.symm rfl
  ·by_cases hqk : q = kb
   ·subst hqk
    exact (fit_has hm2 F' hkb).1 (by rw [hdat]; exact has_put_same ⟨_, rfl⟩ (show WideAt.IsKeyLit (.string q) from trivial) _)
   ·rw [show setG G kb l q = G q from if_neg hqk] at hq
    obtain ⟨x, hx, e⟩ := h2 q hq
    have hql := entry_len F hx e
    exact (fit_has hm2 F' hql).1 (by rw [hdat, has_put_other (fun e' => hqk (by injection e'))]; exact (fit_has hm F hql).2 ⟨x, hx, e⟩)
  ·rcases hwho x hx with ⟨hxe, hxk⟩ | ⟨hxk, hxv⟩ <;> rcases hwho y hy with ⟨hye, hyk⟩ | ⟨hyk, hyv⟩
   ·exact h3 x hxe y hye hne k hk
   ·rw [hyv]
    rcases hat with h | ⟨g, h, hgl⟩
    ·rw [h]; exact hv x hxe hxk k hk
    ·obtain ⟨_, _, _, hN⟩ := h1 x hxe
     have := Kd.N_lt hN k hk
     rw [h]
     intro e; injection e with e; omega
   ·rw [hxv] at hk
    intro e
    rcases hat with h | ⟨g, h, hgl⟩
    ·rw [h] at hk; exact hv y hye hyk k e hk
    ·obtain ⟨_, _, _, hN⟩ := h1 y hye
     have := Kd.N_lt hN k e
     rw [h] at hk
     injection hk with hk; omega
   ·exact absurd (hxk.trans hyk.symm) hne
 rcases Maps.fit_look false keyed Try.underlying52 (Try.zeroValue31 w) hm F (key_mk hkb) with ⟨hrun, hno, _⟩ | ⟨e0, y, h0, hk0, hrun, _, _, _⟩
 ·have hG0 : G kb = [] := by
   by_cases hg : G kb = []
   ·exact hg
   ·obtain ⟨x, hx, e⟩ := h2 kb hg
    exact absurd e (hno x hx)
  have hN0 : Kd.N k44 44 w base (okS S (.slice none 0 0)) (.slice none 0 0) (G kb) := by rw [hG0]; exact Kd.N_nil _ _ _ _ _
  exact ⟨_, hrun, hN0, main _ hN0 (fun x hx hne k hk e => by simp [Value.ownBlock] at e)⟩
 ·obtain ⟨q, e, hgq, hN⟩ := h1 e0 h0
  obtain rfl : q = kb := encStr_inj (e.symm.trans hk0)
  exact ⟨_, hrun, hN, main _ hN (fun x hx hne k hk e' => h3 x hx e0 h0 (by rw [hk0]; exact hne) k hk e')⟩
end Go.Proofs.Ytgapgdnbgimdlaa.PA
end
section
set_option linter.unusedVariables false
set_option linter.unusedSimpArgs false
namespace Go.Proofs.Ytgapgdnbgimdlaa.PA
open Go.RowKit Go.Proofs.YtgapgdnbgimdlaaW.PrintWords Go.Proofs.YtgapgdnbgimdlaaW.PrintLast Go.Proofs.YtgapgdnbgimdlaaW.PrintMore
attribute [local go_sem] max2_int min2_int max_two min_two max_three min_three max_four min_four
theorem info5 : (Try.prog.info? 5).map (fun i => (i.zero, i.size, i.bytes)) = some (some (.int .u8 0), 1, 1) := by kernel_rfl
def esc (s : List UInt8) : List Int := s.flatMap fun b => if (b.toNat : Int) = 0 then [(b.toNat : Int), 255] else [(b.toNat : Int)]
theorem esc_snoc (s : List UInt8) (j : Nat) (h : j < s.length) : esc (s.take (j + 1)) = esc (s.take j) ++ (if ((s[j]).toNat : Int) = 0 then [((s[j]).toNat : Int), 255] else [((s[j]).toNat : Int)]) := by
 rw [List.take_succ_eq_append_getElem h]
 unfold esc
 rw [List.flatMap_append]
 simp
theorem esc_len (s : List UInt8) : (esc s).length ≤ 2 * s.length := by
 induction s with
 | nil => simp [esc]
 | cons b s ih =>
  have : esc (b :: s) = (if (b.toNat : Int) = 0 then [(b.toNat : Int), 255] else [(b.toNat : Int)]) ++ esc s := rfl
  rw [this, List.length_append, List.length_cons]
  split <;> simp <;> omega
section
variable {P : Program} {ops : Array Oper} {Q : Exit → Act → World → Prop}
theorem conv_event {rest : List Oper} {o : Oper} {a : Act} {W : World} (N : Option Tmp) (hd : o.dst = N) (hgd : o.guard = none) (src dst e : TypeId) (x : Operand) (s : ByteArray) {u : TypeDesc} (hop : o.op = .convert src dst x) (hx : a.eval x = .string s)
  (hs : P.underlying src = some u) (hdd : P.underlying dst = some (.slice e)) (he : P.underlying e = some (.int .u8))
  (h : ∀ gb cap W1, gb = W.heap.size → W.grownBy W1 none → (∃ bc : Array Value, W1.heap[gb]? = some (.cells bc e (bc.size, bc.size + 1)) ∧ ∀ j (hj : j < s.data.toList.length), bc[j]? = some (.int .u8 (s.data.toList[j]).toNat)) → wpList P ops Q rest (a.put N (.slice (some ⟨gb, 0, none⟩) s.size cap)) W1) : wpList P ops Q (o :: rest) a W := by
 refine wpList_plain hgd fun K hK => ?_
 have hrun := Lib.run_convert_string_bytes (P := P) W src dst e s hs hdd he
 unfold Oper.wp
 simp only [execOp, hop, hx, Sem.run_bind, hrun, Sem.run_pure, Result.andThen_ok]
 subst hd
 refine hK _ _ (h W.heap.size _ _ rfl ⟨?_, ?_, ?_, ?_, ?_⟩ ⟨Lib.bytesCells W e s, Lib.bytesWorld_at_new W e s, ?_⟩)
 ·rfl
 ·rfl
 ·rfl
 ·rw [Lib.bytesWorld_size]; omega
 ·intro k hk _; exact Lib.bytesWorld_at_old W e s k hk
 ·intro j hj
  have hj' : j < s.size := by simpa using hj
  simp [Lib.bytesCells, Array.getElem?_append, hj']
end
theorem two_read (w : World) (x y : Int) : ReadsRow (fun (x : Int) cs => cs = [Value.int .u8 x]) 1 (w.alloc (.cells #[.int .u8 x, .int .u8 y] 5)) (some ⟨w.heap.size, 0, none⟩) 2 [x, y] := by
 refine ⟨rfl, by omega, fun _ => ⟨_, rfl, fun j p hp => ?_⟩⟩
 have hb := blk_new w (.cells #[.int .u8 x, .int .u8 y] 5)
 match j, hp with
 | 0, hp => obtain rfl := Option.some.inj hp; exact ⟨_, rfl, rfl, fun i u hu => by match i, hu with | 0, hu => obtain rfl := Option.some.inj hu; exact (blk_cell hb 0).trans rfl⟩
 | 1, hp => obtain rfl := Option.some.inj hp; exact ⟨_, rfl, rfl, fun i u hu => by match i, hu with | 0, hu => obtain rfl := Option.some.inj hu; exact (blk_cell hb 1).trans rfl⟩
mutual
def keys_Row.l0 : Nat → List Int → List (S23) → Int → Int → Option (List Int)
 | 0, _, _, _, _ => none
 | k + 1, x2, x8, x9, x10 => if x10 < x9 then (if 0 ≤ x10 then (if x10 < (x8.length : Int) then (if ((rd_T23 x8 x10).f0) = 1 then (if x2.length < 140737488355328 then (keys_Row.l1 k (x2 ++ [1]) 56 x8 x9 x10 ((rd_T23 x8 x10).f0) ((rd_T23 x8 x10).f1) ((rd_T23 x8 x10).f2)) else (none)) else (if ((rd_T23 x8 x10).f0) = 2 then (if x2.length + 2 * ((rd_T23 x8 x10).f2).size + 8 < 140737488355328 then (keys_Row.l0 k (x2 ++ [2] ++ esc ((rd_T23 x8 x10).f2).data.toList ++ [0, 0]) x8 x9 (wrap64 (x10 + 1))) else (none)) else (keys_Row.l0 k x2 x8 x9 (wrap64 (x10 + 1))))) else (none)) else (none)) else (some x2)
def keys_Row.l1 : Nat → List Int → Int → List (S23) → Int → Int → Int → Int → ByteArray → Option (List Int)
 | 0, _, _, _, _, _, _, _, _ => none
 | k + 1, x2, x5, x8, x9, x10, x103000, x103001, x103002 => if x5 ≥ 0 then (if 0 ≤ x5 then (if x2.length < 140737488355328 then (keys_Row.l1 k (x2 ++ [(shr .u64 (Go.bits .xor .u64 (IntKind.u64.wrap (x103001)) 9223372036854775808) x5) % 256]) (wrap64 (x5 - 8)) x8 x9 x10 x103000 x103001 x103002) else (none)) else (none)) else (keys_Row.l0 k x2 x8 x9 (wrap64 (x10 + 1)))
end
def keys_Row.f (k : Nat) (l0 : List (S23)) : Option (List Int) := keys_Row.l0 k ([] : List Int) l0 (l0.length : Int) 0
theorem keys_Row.mono_l : ∀ k, (∀ y0 y1 y2 y3, LeO (keys_Row.l0 k y0 y1 y2 y3) (keys_Row.l0 (k + 1) y0 y1 y2 y3)) ∧ (∀ y0 y1 y2 y3 y4 y5 y6 y7, LeO (keys_Row.l1 k y0 y1 y2 y3 y4 y5 y6 y7) (keys_Row.l1 (k + 1) y0 y1 y2 y3 y4 y5 y6 y7))
 | 0 => ⟨fun _ _ _ _ r h => by simp [keys_Row.l0] at h, fun _ _ _ _ _ _ _ _ r h => by simp [keys_Row.l1] at h⟩
 | k + 1 => by
  obtain ⟨ih0, ih1⟩ := keys_Row.mono_l k
  refine ⟨?_, ?_⟩
  ·intro y0 y1 y2 y3
   unfold keys_Row.l0
   repeat' first
   | (with_reducible exact ih0 _ _ _ _)
   | (with_reducible exact ih1 _ _ _ _ _ _ _ _)
   | (with_reducible exact LeO.refl _)
   | (with_reducible exact LeO.none _)
   | (with_reducible refine LeO.ite ?_ ?_)
   | (with_reducible refine LeO.bind ?_ (fun _ => ?_))
   | exact ih0 _ _ _ _
   | exact ih1 _ _ _ _ _ _ _ _
   | exact LeO.none _
   | refine LeO.ite ?_ ?_
   | refine LeO.bind ?_ (fun _ => ?_)
  ·intro y0 y1 y2 y3 y4 y5 y6 y7
   unfold keys_Row.l1
   repeat' first
   | (with_reducible exact ih0 _ _ _ _)
   | (with_reducible exact ih1 _ _ _ _ _ _ _ _)
   | (with_reducible exact LeO.refl _)
   | (with_reducible exact LeO.none _)
   | (with_reducible refine LeO.ite ?_ ?_)
   | (with_reducible refine LeO.bind ?_ (fun _ => ?_))
   | exact ih0 _ _ _ _
   | exact ih1 _ _ _ _ _ _ _ _
   | exact LeO.none _
   | refine LeO.ite ?_ ?_
   | refine LeO.bind ?_ (fun _ => ?_)
theorem keys_Row.mono : ∀ a0 k, LeO (keys_Row.f k a0) (keys_Row.f (k + 1) a0) := by
 intro a0 k
 obtain ⟨ih0, ih1⟩ := keys_Row.mono_l k
 unfold keys_Row.f
 repeat' first
   | (with_reducible exact ih0 _ _ _ _)
   | (with_reducible exact ih1 _ _ _ _ _ _ _ _)
   | (with_reducible exact LeO.refl _)
   | (with_reducible exact LeO.none _)
   | (with_reducible refine LeO.ite ?_ ?_)
   | (with_reducible refine LeO.bind ?_ (fun _ => ?_))
   | exact ih0 _ _ _ _
   | exact ih1 _ _ _ _ _ _ _ _
   | exact LeO.none _
   | refine LeO.ite ?_ ?_
   | refine LeO.bind ?_ (fun _ => ?_)
set_option maxHeartbeats 8000000 in
set_option maxRecDepth 100000 in
theorem keys_Row.calls (k : Nat) (A0 : Option Addr) (c0 : Nat) (l0 : List (S23)) (r : List Int) (w : World) (hr0 : Kd.C k23 w A0 l0.length l0) (hc0 : l0.length ≤ c0) (h : keys_Row.f k l0 = some r) :
  Calls Try.prog 33 #[.slice A0 l0.length c0] w fun e w' => ∃ v0_ : Value, e = .returned (v0_) ∧ Kd.R (Kd.int .u8) 5 w' w.heap.size (fun _ => True) v0_ r ∧ Below w.heap.size w w' := by
 have hu23 := Try.underlying23
 have HR0 := Aside0.mk hr0
 have HC0 := Aside0.mk hc0
 clear hr0 hc0
 have HB := Aside0.mk (Below.refl w.heap.size w)
 have H : (keys_Row.l0 k ([] : List Int) l0 (l0.length : Int) 0) = some r := h
 clear h
 have H' := Aside0.mk H
 clear H
 go_enter Try.func33, Try.ntmps33
 go_wp2
 go_loopg [2, 10] k (fun kq v2 v10 w' => ∃ (x2_1 : List Int) (x10_1 : Int), v10 = .int .i64 x10_1 ∧ Aside0 (keys_Row.l0 kq x2_1 l0 (l0.length : Int) x10_1 = some r) ∧ Aside0 (kq ≤ k) ∧ Aside0 (Kd.R (Kd.int .u8) 5 w' w.heap.size (fun _ => True) v2 x2_1) ∧ Aside0 (Below w.heap.size w w'))
 case atStart => exact ⟨(([] : List Int)), (0), (by first | rfl | (simp; done) | (simp [*]; done)), H', ⟨Nat.le_refl _⟩, ⟨by first | exact Kd.R_nil _ _ _ _ _ | exact Kd.N_nil _ _ _ _ _ | exact Kd.V_nil _ _ _ _ _ | exact Kd.Q_nil _ _ _ _ _ | exact Kd.S_nil _ _ _ _ _⟩, ⟨by repeat (first | (with_reducible first | exact HB.out | apply below_alloc | apply pw_below_drewN | apply below_drew1) | exact HB.out)⟩⟩
 case round =>
  clear H'
  obtain ⟨x2_1, x10_1, rfl, HA, HK1, HO_2, HB⟩ := hrel
  cases gk with
  | zero => exact absurd HA.out (by simp [keys_Row.l0])
  | succ k1 =>
   have H := HA.out
   clear HA
   simp only [keys_Row.l0] at H
   by_cases c2 : x10_1 < (l0.length : Int)
   ·rw [if_pos c2] at H
    have c2b0 : decide (x10_1 < (l0.length : Int)) = true := decide_eq_true c2
    clear c2
    by_cases c3 : 0 ≤ x10_1
    ·rw [if_pos c3] at H
     have c3b0 : decide (0 ≤ x10_1) = true := decide_eq_true c3
     clear c3
     by_cases c4 : x10_1 < (l0.length : Int)
     ·rw [if_pos c4] at H
      have c4b0 : decide (x10_1 < (l0.length : Int)) = true := decide_eq_true c4
      clear c4
      by_cases c5 : ((rd_T23 l0 x10_1).f0) = 1
      ·rw [if_pos c5] at H
       have c5b0 : (((rd_T23 l0 x10_1).f0) == 1) = true := beq_iff_eq.mpr c5
       have c5b1 : (((rd_T23 l0 x10_1).f0) != 1) = false := bne_eq_false_iff_eq.mpr c5
       clear c5
       by_cases c6 : x2_1.length < 140737488355328
       ·rw [if_pos c6] at H
        have LMc6 := Aside0.mk c6
        clear c6
        obtain ⟨y103, hy103⟩ : ∃ y_ : List Int, y_ = (x2_1 ++ [1]) := ⟨_, rfl⟩
        replace H : (keys_Row.l1 k1 y103 56 l0 (l0.length : Int) x10_1 ((rd_T23 l0 x10_1).f0) ((rd_T23 l0 x10_1).f1) ((rd_T23 l0 x10_1).f2)) = some r := by first | (rw [hy103]; with_reducible exact H) | (have H2_ := (Option.bind_some _ _).symm.trans H; rw [hy103]; with_reducible exact H2_) | (have H2_ := (Option.bind_some _ _).symm.trans H; with_reducible exact H2_) | with_reducible exact H | (rw [hy103]; exact H) | exact H
        have Ny103 := Aside0.mk hy103
        clear hy103
        have H' := Aside0.mk H
        clear H
        have p101 : 0 ≤ (x10_1 : Int) := of_decide_eq_true (by first | (with_reducible assumption) | assumption)
        have q101 : x10_1 < (l0.length : Int) := of_decide_eq_true (by first | (with_reducible assumption) | assumption)
        obtain ⟨ad101, e101, hx101_0, hx101_1, hx101_2⟩ := at_T23 HR0.out x10_1 p101 q101
        cases e101
        replace hx101_0 := (HB.out.cell (World.block_lt_of_cell? w _ hx101_0)).trans hx101_0
        replace hx101_1 := (HB.out.cell (World.block_lt_of_cell? w _ hx101_1)).trans hx101_1
        replace hx101_2 := (HB.out.cell (World.block_lt_of_cell? w _ hx101_2)).trans hx101_2
        replace p101 := eq_true p101
        replace q101 := eq_true q101
        go_wp2_with (first | ((with_reducible refine gate_dst (N := 4) rfl ?_); refine box_event ?hg (N := 4) ?hd (cs := #[.int .i64 0, .int .i64 0, .string (⟨#[]⟩ : ByteArray)]) (t := 23) ?hr ?_; (case hd => rfl); (case hg => rfl); (case hr => first | (go_simp; done) | (go_simp; rfl)); intro gb102 hg w7 hbox hb; have n0_ := Aside0.mk (Kd.R_below (by (with_reducible repeat (first | apply Kd.R_alloc | apply Kd.R_drewN | apply Kd.R_drew)); exact HO_2.out) hb); have n1_ := Aside0.mk (below_step (by repeat (first | (with_reducible first | exact HB.out | apply below_alloc | apply pw_below_drewN | apply below_drew1) | exact HB.out)) hb); have n2_ := Aside0.mk (hbox); have n3_ := Aside0.mk ((by rw [hg]; exact (below_size (by repeat (first | (with_reducible first | exact HB.out | apply below_alloc | apply pw_below_drewN | apply below_drew1) | exact HB.out))) : w.heap.size ≤ gb102)); have n4_ := Aside0.mk ((by rw [hg]; exact (below_size (by repeat (first | (with_reducible first | exact HB.out | apply below_alloc | apply pw_below_drewN | apply below_drew1) | exact HB.out))) : w.heap.size ≤ gb102)); clear HO_2; clear HB; have HO_2 := n0_; have HB := n1_; have BK102 := n2_; have GW102 := n3_; have GE102 := n4_; clear n0_ n1_ n2_ n3_ n4_; clear hb hbox hg; have hcz8_0 : w7.cell? ⟨gb102, 0, none⟩ = some (.int .i64 0) := (blk_cell BK102.out 0).trans rfl; have hcz8_1 : w7.cell? ⟨gb102, 1, none⟩ = some (.int .i64 0) := (blk_cell BK102.out 1).trans rfl; have hcz8_2 : w7.cell? ⟨gb102, 2, none⟩ = some (.string (⟨#[]⟩ : ByteArray)) := (blk_cell BK102.out 2).trans rfl; have hfz8_0 := blk_frozen BK102.out 0; have hfz8_1 := blk_frozen BK102.out 1; have hfz8_2 := blk_frozen BK102.out 2) | ((with_reducible refine gate_builtin (b := .append) (xs := #[.tmp 18, .tmp 19]) rfl ?_); at_builtin; refine Kd.R_append (Kd.int .u8) (w0 := w) w.heap.size rfl (.tmp 18) (.tmp 19) 65 5 (.int .u8 0) 1 rfl Try.underlying65 info5 rfl (by decide) (by omega) u2 x2_1 1 [.int .u8 1] (fun _ => True) (fun _ => False) rfl (by first | (go_simp; done) | (go_simp; rfl)) ?aP (fun _ hk => hk.elim) ?aF ?aO ?aB ?aS ?aL ?_; (case aP => exact rfl); (case aB => exact (by repeat (first | (with_reducible first | exact HB.out | apply below_alloc | apply pw_below_drewN | apply below_drew1 | refine below_set ?_ GE102.out) | exact HB.out))); (case aF => exact (fun _ _ => trivial)); (case aO => exact (by (with_reducible repeat (first | apply Kd.R_alloc | apply Kd.R_drewN | apply Kd.R_drew)); exact Kd.R_mono (Kd.R_far (p := ⟨gb102, 2, none⟩) (Kd.R_far (p := ⟨gb102, 1, none⟩) (Kd.R_far (p := ⟨gb102, 0, none⟩) (Kd.R_types HO_2.out BK102.out (by decide)) (fun _ hk => hk.2) (.int .i64 ((rd_T23 l0 x10_1).f0))) (fun _ hk => hk.2) (.int .i64 ((rd_T23 l0 x10_1).f1))) (fun _ hk => hk.2) (.string ((rd_T23 l0 x10_1).f2))) (fun _ hk => trivial))); (case aS => exact (below_size (by repeat (first | (with_reducible first | exact HB.out | apply below_alloc | apply pw_below_drewN | apply below_drew1 | refine below_set ?_ GE102.out) | exact HB.out)))); (case aL => have := LMc6.out; omega); intro v104 w9 ho hb hg hat; rw [← Ny103.out] at ho; have n0_ := Aside0.mk (blk_grown (g := gb102) (o := .cells #[.int .i64 ((rd_T23 l0 x10_1).f0), .int .i64 ((rd_T23 l0 x10_1).f1), .string ((rd_T23 l0 x10_1).f2)] 23 (0, 0)) (by (with_reducible repeat (first | refine blk_drewN ?_ _ | refine blk_drew ?_ | refine blk_alloc ?_ _)); refine blk_put (cs := #[.int .i64 ((rd_T23 l0 x10_1).f0), .int .i64 ((rd_T23 l0 x10_1).f1), .string (⟨#[]⟩ : ByteArray)]) ?_ 2 _ rfl; (with_reducible repeat (first | refine blk_drewN ?_ _ | refine blk_drew ?_ | refine blk_alloc ?_ _)); refine blk_put (cs := #[.int .i64 ((rd_T23 l0 x10_1).f0), .int .i64 0, .string (⟨#[]⟩ : ByteArray)]) ?_ 1 _ rfl; (with_reducible repeat (first | refine blk_drewN ?_ _ | refine blk_drew ?_ | refine blk_alloc ?_ _)); refine blk_put (cs := #[.int .i64 0, .int .i64 0, .string (⟨#[]⟩ : ByteArray)]) ?_ 0 _ rfl; (with_reducible repeat (first | refine blk_drewN ?_ _ | refine blk_drew ?_ | refine blk_alloc ?_ _)); exact BK102.out) hg (Kd.R_ne HO_2.out BK102.out (by decide))); have n1_ := Aside0.mk (hb); have n2_ := Aside0.mk (ho); clear BK102; clear HB; clear HO_2; have BK102 := n0_; have HB := n1_; have HO105 := n2_; clear n0_ n1_ n2_; clear ho hb hg hat))
        go_loopg [2, 5] k1 (fun kq v2 v5 w' => ∃ (x2_2 : List Int) (x5_2 : Int), v5 = .int .i64 x5_2 ∧ Aside0 (keys_Row.l1 kq x2_2 x5_2 l0 (l0.length : Int) x10_1 ((rd_T23 l0 x10_1).f0) ((rd_T23 l0 x10_1).f1) ((rd_T23 l0 x10_1).f2) = some r) ∧ Aside0 (kq ≤ k1) ∧ Aside0 (Kd.R (Kd.int .u8) 5 w' w.heap.size (fun _ => True) v2 x2_2) ∧ Aside0 (w'.heap[gb102]? = some (.cells #[.int .i64 ((rd_T23 l0 x10_1).f0), .int .i64 ((rd_T23 l0 x10_1).f1), .string ((rd_T23 l0 x10_1).f2)] 23 (0, 0))) ∧ Aside0 (Below w.heap.size w w'))
        case atStart => exact ⟨(y103), (56), (by first | rfl | (simp; done) | (simp [*]; done)), H', ⟨Nat.le_refl _⟩, ⟨by (with_reducible repeat (first | apply Kd.R_alloc | apply Kd.R_drewN | apply Kd.R_drew)); exact HO105.out⟩, ⟨by (with_reducible repeat (first | refine blk_drewN ?_ _ | refine blk_drew ?_ | refine blk_alloc ?_ _)); exact BK102.out⟩, ⟨by repeat (first | (with_reducible first | exact HB.out | apply below_alloc | apply pw_below_drewN | apply below_drew1 | refine below_set ?_ GE102.out) | exact HB.out)⟩⟩
        case round =>
         clear H'
         try clear p1
         try clear q1
         try clear hx1
         try clear c2
         try clear c2b0
         try clear p2
         try clear c3
         try clear c3b0
         try clear c4
         try clear c4b0
         try clear c5
         try clear c5b0
         try clear c5b1
         try clear c6
         try clear hcz8_0
         try clear hcz8_1
         try clear hcz8_2
         try clear hfz8_0
         try clear hfz8_1
         try clear hfz8_2
         try clear hx101_0
         try clear hx101_1
         try clear hx101_2
         try clear p101
         try clear q101
         obtain ⟨x2_2, x5_2, rfl, HA, HK2, HO_2, BK102, HB⟩ := hrel
         cases gk with
         | zero => exact absurd HA.out (by simp [keys_Row.l1])
         | succ k2 =>
          have H := HA.out
          clear HA
          simp only [keys_Row.l1] at H
          by_cases c10 : x5_2 ≥ 0
          ·rw [if_pos c10] at H
           have c10b0 : decide (0 ≤ x5_2) = true := decide_eq_true c10
           clear c10
           by_cases c11 : 0 ≤ x5_2
           ·rw [if_pos c11] at H
            have c11b0 := eq_true c11
            have c11b1 : decide (0 ≤ x5_2) = true := decide_eq_true c11
            clear c11
            obtain ⟨ji12, hji12⟩ : ∃ j_ : Int, (shr .u64 (Go.bits .xor .u64 (IntKind.u64.wrap (((rd_T23 l0 x10_1).f1))) 9223372036854775808) x5_2) = j_ := ⟨_, rfl⟩
            replace H : (if x2_2.length < 140737488355328 then (keys_Row.l1 k2 (x2_2 ++ [(ji12) % 256]) (wrap64 (x5_2 - 8)) l0 (l0.length : Int) x10_1 ((rd_T23 l0 x10_1).f0) ((rd_T23 l0 x10_1).f1) ((rd_T23 l0 x10_1).f2)) else (none)) = some r := by first | (rw [hji12] at H; exact H) | (simp only [hji12] at H ⊢; exact H)
            have hji12_ : ((Go.bits .xor .u64 (IntKind.u64.wrap (((rd_T23 l0 x10_1).f1))) 9223372036854775808) / 2 ^ min x5_2.toNat 64) = ji12 := hji12
            have hji12z : x5_2 ≤ 64 → ((Go.bits .xor .u64 (IntKind.u64.wrap (((rd_T23 l0 x10_1).f1))) 9223372036854775808) / 2 ^ x5_2.toNat) = ji12 := shr_small hji12
            by_cases c13 : x2_2.length < 140737488355328
            ·rw [if_pos c13] at H
             have LMc13 := Aside0.mk c13
             clear c13
             obtain ⟨y106, hy106⟩ : ∃ y_ : List Int, y_ = (x2_2 ++ [(ji12) % 256]) := ⟨_, rfl⟩
             replace H : (keys_Row.l1 k2 y106 (wrap64 (x5_2 - 8)) l0 (l0.length : Int) x10_1 ((rd_T23 l0 x10_1).f0) ((rd_T23 l0 x10_1).f1) ((rd_T23 l0 x10_1).f2)) = some r := by first | (rw [hy106]; with_reducible exact H) | (have H2_ := (Option.bind_some _ _).symm.trans H; rw [hy106]; with_reducible exact H2_) | (have H2_ := (Option.bind_some _ _).symm.trans H; with_reducible exact H2_) | with_reducible exact H | (rw [hy106]; exact H) | exact H
             have Ny106 := Aside0.mk hy106
             clear hy106
             have H' := Aside0.mk H
             clear H
             have hcz14_0 : wr.cell? ⟨gb102, 0, none⟩ = some (.int .i64 ((rd_T23 l0 x10_1).f0)) := (blk_cell BK102.out 0).trans rfl
             have hcz14_1 : wr.cell? ⟨gb102, 1, none⟩ = some (.int .i64 ((rd_T23 l0 x10_1).f1)) := (blk_cell BK102.out 1).trans rfl
             have hcz14_2 : wr.cell? ⟨gb102, 2, none⟩ = some (.string ((rd_T23 l0 x10_1).f2)) := (blk_cell BK102.out 2).trans rfl
             have hfz14_0 := blk_frozen BK102.out 0
             have hfz14_1 := blk_frozen BK102.out 1
             have hfz14_2 := blk_frozen BK102.out 2
             go_wp2_with (first | ((with_reducible refine gate_builtin (b := .append) (xs := #[.tmp 25, .tmp 33]) rfl ?_); at_builtin; refine Kd.R_append (Kd.int .u8) (w0 := w) w.heap.size rfl (.tmp 25) (.tmp 33) 65 5 (.int .u8 0) 1 rfl Try.underlying65 info5 rfl (by decide) (by omega) u2 x2_2 ((ji12) % 256) [.int .u8 ((ji12) % 256)] (fun _ => True) (fun _ => False) rfl rfl ?aP (fun _ hk => hk.elim) ?aF ?aO ?aB ?aS ?aL ?_; (case aP => exact rfl); (case aB => exact (by repeat (first | (with_reducible first | exact HB.out | apply below_alloc | apply pw_below_drewN | apply below_drew1 | refine below_set ?_ GE102.out) | exact HB.out))); (case aF => exact (fun _ _ => trivial)); (case aO => exact (by (with_reducible repeat (first | apply Kd.R_alloc | apply Kd.R_drewN | apply Kd.R_drew)); exact HO_2.out)); (case aS => exact (below_size (by repeat (first | (with_reducible first | exact HB.out | apply below_alloc | apply pw_below_drewN | apply below_drew1 | refine below_set ?_ GE102.out) | exact HB.out)))); (case aL => have := LMc13.out; omega); intro v107 w15 ho hb hg hat; rw [← Ny106.out] at ho; have n0_ := Aside0.mk (blk_grown (g := gb102) (o := .cells #[.int .i64 ((rd_T23 l0 x10_1).f0), .int .i64 ((rd_T23 l0 x10_1).f1), .string ((rd_T23 l0 x10_1).f2)] 23 (0, 0)) (by (with_reducible repeat (first | refine blk_drewN ?_ _ | refine blk_drew ?_ | refine blk_alloc ?_ _)); exact BK102.out) hg (Kd.R_ne HO_2.out BK102.out (by decide))); have n1_ := Aside0.mk (hb); have n2_ := Aside0.mk (ho); clear BK102; clear HB; clear HO_2; have BK102 := n0_; have HB := n1_; have HO108 := n2_; clear n0_ n1_ n2_; clear ho hb hg hat))
             go_roundg k2
             case measure => have := HK1.out; have := HK2.out; omega
             case rel => exact ⟨(y106), (wrap64 (x5_2 - 8)), (by first | rfl | (simp; done) | (simp [*]; done)), H', ⟨by have := HK1.out; have := HK2.out; omega⟩, ⟨by (with_reducible repeat (first | apply Kd.R_alloc | apply Kd.R_drewN | apply Kd.R_drew)); exact HO108.out⟩, ⟨by (with_reducible repeat (first | refine blk_drewN ?_ _ | refine blk_drew ?_ | refine blk_alloc ?_ _)); exact BK102.out⟩, ⟨by repeat (first | (with_reducible first | exact HB.out | apply below_alloc | apply pw_below_drewN | apply below_drew1 | refine below_set ?_ GE102.out) | exact HB.out)⟩⟩
            ·rw [if_neg c13] at H
             exact absurd H (by simp)
           ·rw [if_neg c11] at H
            exact absurd H (by simp)
          ·rw [if_neg c10] at H
           have c10b0 : decide (0 ≤ x5_2) = false := decide_eq_false c10
           clear c10
           have H' := Aside0.mk H
           clear H
           go_wp2
           go_roundg k2
           case measure => have := HK1.out; have := HK2.out; omega
           case rel => exact ⟨(x2_2), (wrap64 (x10_1 + 1)), (by first | rfl | (simp; done) | (simp [*]; done)), H', ⟨by have := HK1.out; have := HK2.out; omega⟩, ⟨by (with_reducible repeat (first | apply Kd.R_alloc | apply Kd.R_drewN | apply Kd.R_drew)); exact HO_2.out⟩, ⟨by repeat (first | (with_reducible first | exact HB.out | apply below_alloc | apply pw_below_drewN | apply below_drew1 | refine below_set ?_ GE102.out) | exact HB.out)⟩⟩
       ·rw [if_neg c6] at H
        exact absurd H (by simp)
      ·rw [if_neg c5] at H
       have c5b0 : (((rd_T23 l0 x10_1).f0) == 1) = false := beq_eq_false_iff_ne.mpr c5
       have c5b1 : (((rd_T23 l0 x10_1).f0) != 1) = true := bne_iff_ne.mpr c5
       by_cases c16 : ((rd_T23 l0 x10_1).f0) = 2
       ·rw [if_pos c16] at H
        have c16b0 : (((rd_T23 l0 x10_1).f0) == 2) = true := beq_iff_eq.mpr c16
        have c16b1 : (((rd_T23 l0 x10_1).f0) != 2) = false := bne_eq_false_iff_eq.mpr c16
        clear c16
        by_cases c17 : x2_1.length + 2 * ((rd_T23 l0 x10_1).f2).size + 8 < 140737488355328
        ·rw [if_pos c17] at H
         have H' := Aside0.mk H
         clear H
         have p101 : 0 ≤ (x10_1 : Int) := of_decide_eq_true (by first | (with_reducible assumption) | assumption)
         have q101 : x10_1 < (l0.length : Int) := of_decide_eq_true (by first | (with_reducible assumption) | assumption)
         obtain ⟨ad101, e101, hx101_0, hx101_1, hx101_2⟩ := at_T23 HR0.out x10_1 p101 q101
         cases e101
         replace hx101_0 := (HB.out.cell (World.block_lt_of_cell? w _ hx101_0)).trans hx101_0
         replace hx101_1 := (HB.out.cell (World.block_lt_of_cell? w _ hx101_1)).trans hx101_1
         replace hx101_2 := (HB.out.cell (World.block_lt_of_cell? w _ hx101_2)).trans hx101_2
         replace p101 := eq_true p101
         replace q101 := eq_true q101
         have lt101 := World.block_lt_of_cell? _ _ hx101_0
         generalize hS : (rd_T23 l0 x10_1).f2 = S at *
         go_wp2_with (first | ((with_reducible refine gate_builtin (b := .append) (xs := #[.tmp 37, .tmp 38]) rfl ?_); at_builtin; refine Kd.R_append (Kd.int .u8) (w0 := w) w.heap.size rfl (.tmp 37) (.tmp 38) 65 5 (.int .u8 0) 1 rfl Try.underlying65 info5 rfl (by decide) (by omega) u2 x2_1 2 [.int .u8 2] (fun _ => True) (fun _ => False) rfl (by first | (go_simp; done) | (go_simp; rfl)) ?aP (fun _ hk => hk.elim) ?aF ?aO ?aB ?aS ?aL ?_; (case aP => exact rfl); (case aB => exact below_alloc HB.out _); (case aF => exact (fun _ _ => trivial)); (case aO => exact Kd.R_alloc HO_2.out _); (case aS => have := HB.out.size; simp; omega); (case aL => omega); intro v104 w9 ho hb hg hat; have hbx := blk_grown (blk_new wr (.cells #[.int .i64 (rd_T23 l0 x10_1).f0, .int .i64 (rd_T23 l0 x10_1).f1, .string S] 23)) hg (Kd.R_ne (Kd.R_alloc HO_2.out (.cells #[.int .i64 (rd_T23 l0 x10_1).f0, .int .i64 (rd_T23 l0 x10_1).f1, .string S] 23)) (blk_new wr (.cells #[.int .i64 (rd_T23 l0 x10_1).f0, .int .i64 (rd_T23 l0 x10_1).f1, .string S] 23)) (by decide)); have hbx2 : w9.cell? ⟨wr.heap.size, 2, none⟩ = some (.string S) := (blk_cell hbx 2).trans rfl) | ((with_reducible refine gate_dst (N := 42) rfl ?_); refine conv_event (some 42) rfl rfl 9 65 5 (.tmp 41) S rfl rfl Try.underlying9 Try.underlying65 Try.underlying5 ?_; rintro gb cap w10 hgb hg10 ⟨bc, hbc, hbcs⟩))
         subst hgb
         have hsz : S.data.toList.length = S.size := by simp
         have HB10 : Below w.heap.size w w10 := hb.grown hg10 hb.size (fun k e => by cases e)
         have HO10 := Kd.R_grown2 ho rfl hg10 (fun k e => by cases e)
         have hescl := esc_len S.data.toList
         go_loopg [2, 44] S.size (fun kq v2 v44 w' => ∃ (xs : List Int) (j : Int), v44 = .int .i64 j ∧ Aside0 (0 ≤ j ∧ j.toNat + kq = S.size) ∧ Aside0 (xs = x2_1 ++ [2] ++ esc (S.data.toList.take j.toNat)) ∧ Aside0 (Kd.R (Kd.int .u8) 5 w' w.heap.size (fun _ => True) v2 xs) ∧ Aside0 (w'.heap[w9.heap.size]? = some (.cells bc 5 (bc.size, bc.size + 1))) ∧ Aside0 (Below w.heap.size w w'))
         case atStart => exact ⟨_, 0, by first | rfl | (simp; done), ⟨by simp⟩, ⟨rfl⟩, ⟨by simpa [esc] using HO10⟩, ⟨hbc⟩, ⟨HB10⟩⟩
         case round =>
          obtain ⟨xs, j, rfl, hj0, hxs, HOj, BY, HBj⟩ := hrel
          obtain ⟨hjl, hjk⟩ := hj0.out
          clear hx101_0 hx101_1 hx101_2 p101 q101 lt101 hbx hbx2
          have hown : some w9.heap.size ≠ (u2 : Value).ownBlock := fun e => by
           obtain ⟨_, _, _, q, _, cells, hc⟩ := (Kd.R_bound HOj.out).1 w9.heap.size e.symm
           rw [BY.out] at hc
           injection hc with hc
           injection hc with _ _ hc
           simp at hc
          by_cases hj : j < (S.size : Int)
          ·obtain ⟨kq1, rfl⟩ : ∃ m, gk = m + 1 := ⟨gk - 1, by omega⟩
           have hjb : decide (j < (S.size : Int)) = true := decide_eq_true hj
           have hjn : j.toNat < S.data.toList.length := by omega
           have hcell : wr.cell? ⟨w9.heap.size, j.toNat, none⟩ = some (.int .u8 (S.data.toList[j.toNat]).toNat) := (cell_of_row _ _ _ _ _ _ BY.out).trans (hbcs j.toNat hjn)
           have p200 := eq_true hjl
           have q200 := eq_true hj
           have hn31 : S.size < 140737488355328 := by omega
           have hwx : wrap64 (j + 1) = j + 1 := by unfold wrap64; omega
           have hnx : (j + 1).toNat = j.toNat + 1 := by omega
           have hes := esc_snoc S.data.toList j.toNat hjn
           have hel : (esc (S.data.toList.take j.toNat)).length ≤ 2 * S.size := Nat.le_trans (esc_len _) (by rw [List.length_take]; omega)
           have hxl : xs.length = x2_1.length + 1 + (esc (S.data.toList.take j.toNat)).length := by rw [hxs.out]; simp; omega
           generalize hbb : ((S.data.toList[j.toNat]).toNat : Int) = bb at *
           by_cases hz : bb = 0
           ·rw [if_pos hz] at hes
            subst hz
            go_wp2_with (first | ((with_reducible refine gate_builtin (b := .append) (xs := #[.tmp 48, .tmp 50]) rfl ?_); at_builtin; refine Kd.R_append (Kd.int .u8) (w0 := w) w.heap.size rfl (.tmp 48) (.tmp 50) 65 5 (.int .u8 0) 1 rfl Try.underlying65 info5 rfl (by decide) (by omega) u2 xs 0 [.int .u8 0] (fun _ => True) (fun _ => False) rfl (by first | (go_simp; done) | (go_simp; rfl)) ?aP (fun _ hk => hk.elim) ?aF ?aO ?aB ?aS ?aL ?_; (case aP => exact rfl); (case aB => exact HBj.out); (case aF => exact (fun _ _ => trivial)); (case aO => exact HOj.out); (case aS => exact (HBj.out).size); (case aL => simp; omega); intro v204 w11 ho1 hb1 hg1 hat1; have BY1 := blk_grown BY.out hg1 hown) | ((with_reducible refine gate_builtin (b := .append) (xs := #[.tmp 54, .tmp 55]) rfl ?_); at_builtin; refine Kd.R_append (Kd.int .u8) (w0 := w) w.heap.size rfl (.tmp 54) (.tmp 55) 65 5 (.int .u8 0) 1 rfl Try.underlying65 info5 rfl (by decide) (by omega) v204 (xs ++ [0]) 255 [.int .u8 255] (fun _ => True) (fun _ => False) rfl (by first | (go_simp; done) | (go_simp; rfl)) ?aP (fun _ hk => hk.elim) ?aF ?aO ?aB ?aS ?aL ?_; (case aP => exact rfl); (case aB => exact hb1); (case aF => exact (fun _ _ => trivial)); (case aO => exact ho1); (case aS => exact (hb1).size); (case aL => simp; omega); intro v205 w12 ho2 hb2 hg2 hat2))
            have hown1 : some w9.heap.size ≠ (v204 : Value).ownBlock := fun e => by
             obtain ⟨_, _, _, q, _, cells, hc⟩ := (Kd.R_bound ho1).1 w9.heap.size e.symm
             rw [BY1] at hc
             injection hc with hc
             injection hc with _ _ hc
             simp at hc
            go_roundg kq1
            case measure => omega
            case rel => exact ⟨_, wrap64 (j + 1), (by first | rfl | (simp; done) | (simp [*]; done)), ⟨by rw [hwx]; omega⟩, ⟨by rw [hwx, hnx, hes]⟩, ⟨by rw [hxs.out] at ho2; simpa using ho2⟩, ⟨blk_grown BY1 hg2 hown1⟩, ⟨hb2⟩⟩
           ·have hzb : (bb == 0) = false := beq_eq_false_iff_ne.mpr hz
            rw [if_neg hz] at hes
            go_wp2_with (first | ((with_reducible refine gate_builtin (b := .append) (xs := #[.tmp 48, .tmp 50]) rfl ?_); at_builtin; refine Kd.R_append (Kd.int .u8) (w0 := w) w.heap.size rfl (.tmp 48) (.tmp 50) 65 5 (.int .u8 0) 1 rfl Try.underlying65 info5 rfl (by decide) (by omega) u2 xs bb [.int .u8 bb] (fun _ => True) (fun _ => False) rfl (by first | (go_simp; done) | (go_simp; rfl)) ?aP (fun _ hk => hk.elim) ?aF ?aO ?aB ?aS ?aL ?_; (case aP => exact rfl); (case aB => exact HBj.out); (case aF => exact (fun _ _ => trivial)); (case aO => exact HOj.out); (case aS => exact (HBj.out).size); (case aL => simp; omega); intro v204 w11 ho1 hb1 hg1 hat1; have BY1 := blk_grown BY.out hg1 hown))
            go_roundg kq1
            case measure => omega
            case rel => exact ⟨_, wrap64 (j + 1), (by first | rfl | (simp; done) | (simp [*]; done)), ⟨by rw [hwx]; omega⟩, ⟨by rw [hwx, hnx, hes]⟩, ⟨by rw [hxs.out] at ho1; simpa using ho1⟩, ⟨BY1⟩, ⟨hb1⟩⟩
          ·have hjb : decide (j < (S.size : Int)) = false := decide_eq_false hj
           have hfull : S.data.toList.take j.toNat = S.data.toList := List.take_of_length_le (by omega)
           rw [hfull] at hxs
           have hxl : xs.length = x2_1.length + 1 + (esc S.data.toList).length := by rw [hxs.out]; simp; omega
           go_wp2_with (first | ((with_reducible refine gate_builtin (b := .append) (xs := #[.tmp 58, .tmp 59]) rfl ?_); at_builtin; refine Kd.R_append_rows (Kd.int .u8) (Rr := fun x cs => cs = [Value.int .u8 x]) (w0 := w) w.heap.size rfl (.tmp 58) (.tmp 59) 65 5 (.int .u8 0) 1 rfl Try.underlying65 info5 rfl (by decide) (by omega) u2 xs [0, 0] (some ⟨wr.heap.size, 0, none⟩) 2 2 (fun _ => True) (fun _ => False) rfl (by first | (go_simp; done) | (go_simp; rfl)) ?aO ?aR ?aK (fun _ hk => hk.elim) ?aF ?aB ?aS ?aL ?_; (case aO => exact Kd.R_alloc HOj.out _); (case aR => exact two_read _ _ _); (case aK => exact fun x cs h => h); (case aF => exact fun _ _ => trivial); (case aB => exact below_alloc HBj.out _); (case aS => exact (below_alloc HBj.out _).size); (case aL => simp; omega); intro v206 w13 ho3 hb3 hg3 hat3))
           go_roundg k1
           case measure => have := HK1.out; omega
           case rel => exact ⟨_, wrap64 (x10_1 + 1), (by first | rfl | (simp; done) | (simp [*]; done)), ⟨by rw [hxs.out]; exact H'.out⟩, ⟨by have := HK1.out; omega⟩, ⟨ho3⟩, ⟨hb3⟩⟩
        ·rw [if_neg c17] at H
         exact absurd H (by simp)
       ·rw [if_neg c16] at H
        have c16b0 : (((rd_T23 l0 x10_1).f0) == 2) = false := beq_eq_false_iff_ne.mpr c16
        have c16b1 : (((rd_T23 l0 x10_1).f0) != 2) = true := bne_iff_ne.mpr c16
        have H' := Aside0.mk H
        clear H
        have p101 : 0 ≤ (x10_1 : Int) := of_decide_eq_true (by first | (with_reducible assumption) | assumption)
        have q101 : x10_1 < (l0.length : Int) := of_decide_eq_true (by first | (with_reducible assumption) | assumption)
        obtain ⟨ad101, e101, hx101_0, hx101_1, hx101_2⟩ := at_T23 HR0.out x10_1 p101 q101
        cases e101
        replace hx101_0 := (HB.out.cell (World.block_lt_of_cell? w _ hx101_0)).trans hx101_0
        replace hx101_1 := (HB.out.cell (World.block_lt_of_cell? w _ hx101_1)).trans hx101_1
        replace hx101_2 := (HB.out.cell (World.block_lt_of_cell? w _ hx101_2)).trans hx101_2
        replace p101 := eq_true p101
        replace q101 := eq_true q101
        go_wp2_with (first | ((with_reducible refine gate_dst (N := 4) rfl ?_); refine box_event ?hg (N := 4) ?hd (cs := #[.int .i64 0, .int .i64 0, .string (⟨#[]⟩ : ByteArray)]) (t := 23) ?hr ?_; (case hd => rfl); (case hg => rfl); (case hr => first | (go_simp; done) | (go_simp; rfl)); intro gb102 hg w18 hbox hb; have n0_ := Aside0.mk (Kd.R_below (by (with_reducible repeat (first | apply Kd.R_alloc | apply Kd.R_drewN | apply Kd.R_drew)); exact HO_2.out) hb); have n1_ := Aside0.mk (below_step (by repeat (first | (with_reducible first | exact HB.out | apply below_alloc | apply pw_below_drewN | apply below_drew1) | exact HB.out)) hb); have n2_ := Aside0.mk (hbox); have n3_ := Aside0.mk ((by rw [hg]; exact (below_size (by repeat (first | (with_reducible first | exact HB.out | apply below_alloc | apply pw_below_drewN | apply below_drew1) | exact HB.out))) : w.heap.size ≤ gb102)); have n4_ := Aside0.mk ((by rw [hg]; exact (below_size (by repeat (first | (with_reducible first | exact HB.out | apply below_alloc | apply pw_below_drewN | apply below_drew1) | exact HB.out))) : w.heap.size ≤ gb102)); clear HO_2; clear HB; have HO_2 := n0_; have HB := n1_; have BK102 := n2_; have GW102 := n3_; have GE102 := n4_; clear n0_ n1_ n2_ n3_ n4_; clear hb hbox hg; have hcz19_0 : w18.cell? ⟨gb102, 0, none⟩ = some (.int .i64 0) := (blk_cell BK102.out 0).trans rfl; have hcz19_1 : w18.cell? ⟨gb102, 1, none⟩ = some (.int .i64 0) := (blk_cell BK102.out 1).trans rfl; have hcz19_2 : w18.cell? ⟨gb102, 2, none⟩ = some (.string (⟨#[]⟩ : ByteArray)) := (blk_cell BK102.out 2).trans rfl; have hfz19_0 := blk_frozen BK102.out 0; have hfz19_1 := blk_frozen BK102.out 1; have hfz19_2 := blk_frozen BK102.out 2))
        go_roundg k1
        case measure => have := HK1.out; omega
        case rel => exact ⟨(x2_1), (wrap64 (x10_1 + 1)), (by first | rfl | (simp; done) | (simp [*]; done)), H', ⟨by have := HK1.out; omega⟩, ⟨by (with_reducible repeat (first | apply Kd.R_alloc | apply Kd.R_drewN | apply Kd.R_drew)); exact Kd.R_mono (Kd.R_far (p := ⟨gb102, 2, none⟩) (Kd.R_far (p := ⟨gb102, 1, none⟩) (Kd.R_far (p := ⟨gb102, 0, none⟩) (Kd.R_types HO_2.out BK102.out (by decide)) (fun _ hk => hk.2) (.int .i64 ((rd_T23 l0 x10_1).f0))) (fun _ hk => hk.2) (.int .i64 ((rd_T23 l0 x10_1).f1))) (fun _ hk => hk.2) (.string ((rd_T23 l0 x10_1).f2))) (fun _ hk => trivial)⟩, ⟨by repeat (first | (with_reducible first | exact HB.out | apply below_alloc | apply pw_below_drewN | apply below_drew1 | refine below_set ?_ GE102.out) | exact HB.out)⟩⟩
     ·rw [if_neg c4] at H
      exact absurd H (by simp)
    ·rw [if_neg c3] at H
     exact absurd H (by simp)
   ·rw [if_neg c2] at H
    have c2b0 : decide (x10_1 < (l0.length : Int)) = false := decide_eq_false c2
    clear c2
    obtain rfl := Option.some.inj H
    go_wp2
    go_ret
    exact ⟨_, by first | rfl | (simp [errW_none, errW_some] <;> rfl) | (simp [*, errW_none, errW_some] <;> rfl), by (with_reducible repeat (first | apply Kd.R_alloc | apply Kd.R_drewN | apply Kd.R_drew)); exact HO_2.out, by repeat (first | (with_reducible first | exact HB.out | apply below_alloc | apply pw_below_drewN | apply below_drew1) | exact HB.out)⟩
end Go.Proofs.Ytgapgdnbgimdlaa.PA
end
section
set_option linter.unusedVariables false
set_option linter.unusedSimpArgs false
namespace Go.Proofs.Ytgapgdnbgimdlaa.PA
open Go.RowKit Go.Maps Go.WideElems Go.MapKept Go.Proofs.YtgapgdnbgimdlaaW.PrintWords Go.Proofs.YtgapgdnbgimdlaaW.PrintLast Go.Proofs.YtgapgdnbgimdlaaW.PrintMore
attribute [local go_sem] run_makeMap
section
variable {P : Program} {ops : Array Oper} {Q : Exit → Act → World → Prop}
theorem gate_look {rest : List Oper} {o : Oper} {a : Act} {W : World} {t : TypeId} {m x : Operand} (_ho : o.op = Op.lookup t m x false) (h : wpList P ops Q (o :: rest) a W) : wpList P ops Q (o :: rest) a W := h
theorem gate_upd {rest : List Oper} {o : Oper} {a : Act} {W : World} {t : TypeId} {m x v : Operand} (_ho : o.op = Op.mapUpdate t m x v) (h : wpList P ops Q (o :: rest) a W) : wpList P ops Q (o :: rest) a W := h
theorem look_event {rest : List Oper} {o : Oper} {a : Act} {W : World} (N : Option Tmp) (hd : o.dst = N) (hgd : o.guard = none) {t : TypeId} {m x : Operand} (hop : o.op = Op.lookup t m x false) (mv xv : Value) (hm : a.eval m = mv) (hx : a.eval x = xv) {v : Value} (hrun : (Instr.lookup t mv xv false).run P W = .ok v W) (h : wpList P ops Q rest (a.put N v) W) : wpList P ops Q (o :: rest) a W := by
 refine wpList_plain hgd fun K hK => ?_
 subst hd
 unfold Oper.wp
 simp [execOp, hop, hm, hx, hrun, Result.andThen]
 exact hK _ _ h
theorem upd_event {rest : List Oper} {o : Oper} {a : Act} {W W2 : World} (hd : o.dst = none) (hgd : o.guard = none) {t : TypeId} {m x v : Operand} (hop : o.op = Op.mapUpdate t m x v) (mv xv vv : Value) (hm : a.eval m = mv) (hx : a.eval x = xv) (hv : a.eval v = vv) (hrun : (Instr.mapUpdate t mv xv vv).run P W = .ok () W2) (h : wpList P ops Q rest (a.put none undef) W2) : wpList P ops Q (o :: rest) a W := by
 refine wpList_plain hgd fun K hK => ?_
 unfold Oper.wp
 simp [execOp, hop, hm, hx, hv, hrun, Result.andThen]
 exact hK _ _ (by rw [hd]; exact h)
theorem N_append_tight {α : Type} (d : Kd α) {rest : List Oper} {o : Oper} {a : Act} {w0 W : World} (base : Nat) (hgd : o.guard = none) (s x : Operand) (t e : TypeId) (z : Value) (bytes : Nat)
  (ho : o.op = .call { callee := .builtin .append, args := #[s, x], argTypes := #[t, t] })
  (ht : P.underlying t = some (.slice e)) (hinfo : (P.info? e).map (fun i => (i.zero, i.size, i.bytes)) = some (some z, d.sz, bytes)) (hz : z.cells.size = d.sz) (hs0 : 0 < d.sz) (hb0 : 0 < bytes)
  (v : Value) (xs : List α) (p : α) (cs : List Value) (S : Nat → Prop) (hS : ∀ k, S k → k < base) (hs : a.eval s = v) (hx : a.eval x = .slice (some ⟨W.heap.size, 0, none⟩) 1 1) (hp : Kd.FK d W S p cs)
  (HO : Kd.N d e W base (okS S v) v xs) (HB : Below base w0 W) (hbase : base ≤ W.heap.size) (hl : (xs.length + 1) * bytes ≤ 140737488355328)
  (h : ∀ v1 w1, Kd.N d e w1 base (okS S v1) v1 (xs ++ [p]) → Below base w0 w1 → W.grownBy w1 v.ownBlock → (v1.ownBlock = v.ownBlock ∨ ∃ b, v1.ownBlock = some b ∧ W.heap.size ≤ b) → wpList P ops Q rest (a.put o.dst v1) w1) :
  wpList P ops Q (o :: rest) a (W.alloc (.cells cs.toArray e)) := by
 have hvb := Kd.N_base HO
 obtain ⟨h0, rows, hlr, hR, hf⟩ := HO
 refine Kd.R_append (Kd.raw d.sz) base hgd s x t e z bytes ho ht hinfo hz hs0 hb0 v rows cs cs (fun _ => True) (fun _ => False) hs hx (Kd.FK_raw hp) (fun _ hk => hk.elim) (fun _ _ => trivial) (Kd.raw_any hR) HB hbase (by rw [hlr]; exact hl) ?_
 intro v1 w1 hr hb hg hat
 have hv1 := Kd.R_base hr
 have far : ∀ {y : α} {c : List Value}, Kd.FK d W S y c → Kd.FK d w1 (fun k => okS S v1 k ∧ some k ≠ v1.ownBlock) y c := fun hy =>
  Kd.FK_mono (Kd.FK_grown hy hg (fun k hk e' => by have := hS k hk; have := hvb k e'.symm; omega)) (fun k hk => ⟨.inl hk, fun e' => by have := hS k hk; have := hv1 k e'.symm; omega⟩)
 refine h v1 w1 ⟨fun k hk => .inr hk.symm, rows ++ [cs], by simp [hlr], Kd.raw_tight hr, fun j y c hy hc => ?_⟩ hb hg hat
 by_cases hj : j < xs.length
 ·rw [List.getElem?_append_left hj] at hy
  rw [List.getElem?_append_left (by rw [hlr]; exact hj)] at hc
  exact far (Kd.FK_mono (hf j y c hy hc) (fun k hk => hk.1.elim id (fun e' => absurd e' hk.2)))
 ·rw [List.getElem?_append_right (by omega)] at hy
  rw [List.getElem?_append_right (by rw [hlr]; omega), hlr] at hc
  cases hjj : j - xs.length with
  | zero =>
   rw [hjj] at hy hc
   simp only [List.getElem?_cons_zero, Option.some.injEq] at hy hc
   rw [← hy, ← hc]; exact far hp
  | succ m => rw [hjj] at hy; simp at hy
end
theorem encStr_of (s : ByteArray) : Value.string s = encStr s.data.toList := by simp [encStr]
set_option maxHeartbeats 8000000 in
set_option maxRecDepth 100000 in
theorem split_calls (k : Nat) (K : S44 → List UInt8) (P_ : Nat → Prop) (A0 : Option Addr) (c0 : Nat) (l0 : List S44) (A1 : Option Addr) (c1 : Nat) (cols : List Int) (w : World)
  (hs0 : Kd.V k44 44 w w.heap.size P_ (.slice A0 l0.length c0) l0) (hr1 : Kd.C (Kd.int .i64) w A1 cols.length cols) (hc1 : cols.length ≤ c1)
  (hK : ∀ x ∈ l0, ∃ p kr, eval_Picked.f k x.f0 cols = some p ∧ keys_Row.f k p = some kr ∧ K x = (strOfNums kr).data.toList ∧ (K x).length ≤ maxLen) (hlen : l0.length < 4398046511104) :
  Calls Try.prog 24 #[.slice A0 l0.length c0, .slice A1 cols.length c1] w fun e w' => e = .returned (.map (some w.heap.size)) ∧ Groups w' w.heap.size w.heap.size l0.length (fun k_ => P_ k_ ∧ k_ < w.heap.size) (fun q => l0.filter (fun x => decide (K x = q))) ∧ Below w.heap.size w w' := by
 have hu44 := Try.underlying44
 have HF := Aside0.mk (Kd.F_bound (Kd.V_F hs0))
 have HC0 := Aside0.mk (Kd.F_now (Kd.V_F hs0))
 clear hs0
 have HR1 := Aside0.mk hr1
 clear hr1
 have hn0 := HC0.out.2.1
 go_enter Try.func24, Try.ntmps24
 go_wp2
 go_loopg [12] l0.length (fun kq v12 w' => ∃ x12 : Int, v12 = .int .i64 x12 ∧ Aside0 (0 ≤ x12 ∧ x12.toNat + kq = l0.length) ∧ Aside0 (Groups w' w.heap.size w.heap.size x12.toNat (fun k_ => P_ k_ ∧ k_ < w.heap.size) (fun q => (l0.take x12.toNat).filter (fun x => decide (K x = q)))) ∧ Aside0 (Below w.heap.size w w'))
 case atStart => exact ⟨0, by first | rfl | (simp; done), ⟨by simp⟩, ⟨Groups.made w _ _⟩, ⟨below_alloc (Below.refl _ _) _⟩⟩
 case round =>
  obtain ⟨x12, rfl, hx12, hG, HB⟩ := hrel
  obtain ⟨hx0, hxk⟩ := hx12.out
  by_cases hj : x12 < (l0.length : Int)
  ·obtain ⟨kq1, rfl⟩ : ∃ m, gk = m + 1 := ⟨gk - 1, by omega⟩
   have hjb : decide (x12 < (l0.length : Int)) = true := decide_eq_true hj
   have hwx : wrap64 (x12 + 1) = x12 + 1 := by unfold wrap64; omega
   have hnx : (x12 + 1).toNat = x12.toNat + 1 := by omega
   have hjn : x12.toNat < l0.length := by omega
   obtain ⟨ad, A2, c2, eA, hx0c, hx1c, hl2, hi2⟩ := at_T44 HC0.out x12 hx0 hj
   obtain ⟨ad', cs, eA', hcl, hFK, hcc, _⟩ := Kd.F_get HF.out z44 x12 hx0 hj
   rw [eA] at eA'
   injection eA' with eA'
   subst eA'
   subst eA
   obtain ⟨ua, uc, rfl, ul, uf⟩ := k44_openF hFK
   have hv := hcc 0 _ rfl
   rw [Nat.add_zero] at hv
   replace hv := Option.some.inj (hv.symm.trans hx0c)
   injection hv with hva hvn hvc
   subst hva
   subst hvc
   have hxe : rd_T44 l0 x12 = l0[x12.toNat] := by simp [rd_T44, hjn]
   have hmem : rd_T44 l0 x12 ∈ l0 := by rw [hxe]; exact List.getElem_mem hjn
   have hFK' : Kd.FK k44 w (fun k_ => P_ k_ ∧ k_ < w.heap.size) (rd_T44 l0 x12) [.slice ua (rd_T44 l0 x12).f0.length uc, .int .i64 (rd_T44 l0 x12).f1] := hFK
   clear hcl hcc hFK uf ul hvn
   generalize hX : rd_T44 l0 x12 = X at *
   replace hx0c := (HB.out.cell (World.block_lt_of_cell? w _ hx0c)).trans hx0c
   replace hx1c := (HB.out.cell (World.block_lt_of_cell? w _ hx1c)).trans hx1c
   have hxe' := Aside0.mk hxe
   clear hX hxe
   have p12 := eq_true hx0
   have q12 := eq_true hj
   obtain ⟨p, kr, hp, hkr, hKx, hKl⟩ := hK X hmem
   have hfl : ((l0.take x12.toNat).filter (fun x => decide (K x = K X))).length ≤ x12.toNat := Nat.le_trans (List.length_filter_le _ _) (by rw [List.length_take]; omega)
   have hb1 : Below wr.heap.size wr (wr.alloc (.cells #[.slice ua X.f0.length uc, .int .i64 X.f1] 44)) := below_alloc (Below.refl _ _) _
   go_wp2_with (first
    | ((with_reducible refine gate_callee (f := 7) rfl ?_); refine goesL_ (some 19) rfl rfl Try.func7 (by kernel_rfl) rfl #[.slice ua X.f0.length uc, .slice A1 cols.length c1] rfl (by (try simp only [List.map_toArray, List.map_cons, List.map_nil]); first | done | rfl) ?_; refine (eval_Picked.calls k _ _ X.f0 _ _ cols p _ (Kd.C_alloc (Kd.C_below hi2 HB.out) _) hl2 (Kd.C_alloc (Kd.C_below HR1.out HB.out) _) hc1 hp).mono ?_; rintro e w2 ⟨v19, rfl, ho19, hb19⟩; refine ⟨_, rfl, ?_⟩; obtain ⟨A19, c19, rfl⟩ := Kd.R_slice ho19)
    | ((with_reducible refine gate_callee (f := 33) rfl ?_); refine goesL_ (some 20) rfl rfl Try.func33 (by kernel_rfl) rfl #[.slice A19 p.length c19] rfl (by (try simp only [List.map_toArray, List.map_cons, List.map_nil]); first | done | rfl) ?_; refine (keys_Row.calls k _ _ p kr _ (Kd.R_reads' ho19).2.2 (Kd.R_reads' ho19).2.1 hkr).mono ?_; rintro e w3 ⟨v20, rfl, ho20, hb20⟩; refine ⟨_, rfl, ?_⟩; have hcv := own_string (P := Try.prog) Try.underlying65 Try.underlying5 Try.underlying9 (Kd.own_of_R ho20); have hB3 := below_step (below_step (below_step HB.out hb1) hb19) hb20; have hG3 := ((hG.out.below hb1).below hb19).below hb20; have hbx := blk_below (blk_below (blk_new wr (.cells #[.slice ua X.f0.length uc, .int .i64 X.f1] 44)) hb19) hb20; have hbx0 : w3.cell? ⟨wr.heap.size, 0, none⟩ = some (.slice ua X.f0.length uc) := (blk_cell hbx 0).trans rfl; have hbx1 : w3.cell? ⟨wr.heap.size, 1, none⟩ = some (.int .i64 X.f1) := (blk_cell hbx 1).trans rfl; obtain ⟨vg, hlk, hN, hst⟩ := Groups.step hG3 (fun k_ hk => hk.2) (Nat.le_refl _) (by simp only [maxLen]; omega) (K X) hKl)
    | ((with_reducible refine gate_look rfl ?_); refine look_event (some 26) rfl rfl rfl (.map (some w.heap.size)) (encStr (K X)) rfl (by rw [hKx]; exact encStr_of _) hlk ?_)
    | ((with_reducible refine gate_builtin (b := .append) (xs := #[.tmp 26, .tmp 28]) rfl ?_); at_builtin; refine N_append_tight k44 (w0 := w) w.heap.size rfl (.tmp 26) (.tmp 28) 31 44 (.agg #[(.slice none 0 0), (.int .i64 0)]) 32 rfl Try.underlying31 info44 rfl (by decide) (by omega) vg _ X [.slice ua X.f0.length uc, .int .i64 X.f1] (fun k_ => P_ k_ ∧ k_ < w.heap.size) (fun k_ hk => hk.2) rfl (by first | (go_simp; done) | (go_simp; rfl)) (Kd.FK_step hFK' (fun k_ hk hlt => hB3.block k_ hlt)) hN hB3 hB3.size ?aL ?_; (case aL => exact Nat.le_trans (Nat.mul_le_mul_right 32 (Nat.succ_le_succ hfl)) (by omega)); intro v29 w4 hN4 hB4 hg4 hat4; obtain ⟨w5, hup, hG5, hg5⟩ := hst _ v29 w4 hg4 hat4 hN4 (by simp))
    | ((with_reducible refine gate_upd rfl ?_); refine upd_event rfl rfl rfl (.map (some w.heap.size)) (encStr (K X)) v29 rfl (by rw [hKx]; exact encStr_of _) rfl hup ?_))
   have hGe : setG (fun q => (l0.take x12.toNat).filter (fun x => decide (K x = q))) (K X) ((fun q => (l0.take x12.toNat).filter (fun x => decide (K x = q))) (K X) ++ [X]) = fun q => (l0.take (x12 + 1).toNat).filter (fun x => decide (K x = q)) := by
    funext q
    rw [hnx, List.take_succ_eq_append_getElem hjn, ← hxe'.out, List.filter_append]
    by_cases hq : q = K X
    ·subst hq; simp [setG]
    ·have hq' : K X ≠ q := fun e => hq e.symm
     simp [setG, hq, hq']
   rw [hGe] at hG5
   go_roundg kq1
   case measure => omega
   case rel => exact ⟨x12 + 1, (by first | rfl | (simp; done) | (simp [*]; done)), ⟨by omega⟩, ⟨by rw [hnx]; exact hnx ▸ hG5⟩, ⟨hB4.grown hg5 hB4.size (fun k e => by cases e; exact Nat.le_refl _)⟩⟩
  ·have hjb : decide (x12 < (l0.length : Int)) = false := decide_eq_false hj
   have hxl : x12.toNat = l0.length := by omega
   have hGf := hG.out
   rw [hxl, List.take_length] at hGf
   go_wp2
   go_ret
   exact ⟨rfl, hGf, HB.out⟩
end Go.Proofs.Ytgapgdnbgimdlaa.PA
end
section
namespace Go.Proofs.Ytgapgdnbgimdlaa.It
open Go.RowKit Go.Maps Go.Sort Go.Shelf
def ren : Ren :=
{
 f := fun x =>
  match x with
  | 190 => 36
  | 125 => 50
  | 258 => 49
  | 128 => 67
  | 129 => 68
  | 302 => 58
  | 303 => 59
  | 304 => 60
  | 305 => 61
  | 306 => 62
  | 307 => 63
  | 308 => 64
  | 309 => 65
  | 310 => 66
  | 333 => 71
  | 329 => 72
  | 330 => 73
  | 334 => 74
  | 335 => 75
  | 336 => 46
  | 344 => 77
  | n => n,
 t := fun x =>
  match x with
  | 31 => 54
  | 9 => 9
  | 3 => 3
  | 46 => 87
  | 0 => 0
  | 51 => 100
  | 53 => 81
  | 4 => 4
  | 183 => 92
  | 182 => 91
  | 131 => 97
  | 5 => 5
  | 218 => 104
  | 222 => 108
  | 228 => 110
  | 229 => 111
  | n => n,
 g := fun n => n }
theorem laid : Lays.n190 Try.prog ren where
 mixed := by kernel_rfl
 f125 := Try.func50.trans (congrArg some (by kernel_rfl))
 f128 := Try.func67.trans (congrArg some (by kernel_rfl))
 f129 := Try.func68.trans (congrArg some (by kernel_rfl))
 f190 := Try.func36.trans (congrArg some (by kernel_rfl))
 f258 := Try.func49.trans (congrArg some (by kernel_rfl))
 f302 := Try.func58.trans (congrArg some (by kernel_rfl))
 f303 := Try.func59.trans (congrArg some (by kernel_rfl))
 f304 := Try.func60.trans (congrArg some (by kernel_rfl))
 f305 := Try.func61.trans (congrArg some (by kernel_rfl))
 f306 := Try.func62.trans (congrArg some (by kernel_rfl))
 f307 := Try.func63.trans (congrArg some (by kernel_rfl))
 f308 := Try.func64.trans (congrArg some (by kernel_rfl))
 f309 := Try.func65.trans (congrArg some (by kernel_rfl))
 f310 := Try.func66.trans (congrArg some (by kernel_rfl))
 f329 := Try.func72.trans (congrArg some (by kernel_rfl))
 f330 := Try.func73.trans (congrArg some (by kernel_rfl))
 f333 := Try.func71.trans (congrArg some (by kernel_rfl))
 f334 := Try.func74.trans (congrArg some (by kernel_rfl))
 f335 := Try.func75.trans (congrArg some (by kernel_rfl))
 f336 := Try.func46.trans (congrArg some (by kernel_rfl))
 f344 := Try.func77.trans (congrArg some (by kernel_rfl))
 t0 := Try.underlying0
 a0 := Try.isAgg0
 z0 := Try.sizeOf0
 v0 := Try.zeroValue0
 t3 := Try.underlying3
 a3 := Try.isAgg3
 z3 := Try.sizeOf3
 v3 := Try.zeroValue3
 t4 := Try.underlying4
 a4 := Try.isAgg4
 z4 := Try.sizeOf4
 v4 := Try.zeroValue4
 t5 := Try.underlying5
 a5 := Try.isAgg5
 z5 := Try.sizeOf5
 v5 := Try.zeroValue5
 t9 := Try.underlying9
 a9 := Try.isAgg9
 z9 := Try.sizeOf9
 v9 := Try.zeroValue9
 t31 := Try.underlying54
 a31 := Try.isAgg54
 z31 := Try.sizeOf54
 v31 := Try.zeroValue54
 t46 := Try.underlying87
 a46 := Try.isAgg87
 z46 := Try.sizeOf87
 v46 := Try.zeroValue87
 t51 := Try.underlying100
 a51 := Try.isAgg100
 z51 := Try.sizeOf100
 v51 := Try.zeroValue100
 t53 := Try.underlying81
 a53 := Try.isAgg81
 z53 := Try.sizeOf81
 v53 := Try.zeroValue81
 t131 := Try.underlying97
 a131 := Try.isAgg97
 z131 := Try.sizeOf97
 v131 := Try.zeroValue97
 t182 := Try.underlying91
 a182 := Try.isAgg91
 z182 := Try.sizeOf91
 v182 := Try.zeroValue91
 t183 := Try.underlying92
 a183 := Try.isAgg92
 z183 := Try.sizeOf92
 v183 := Try.zeroValue92
 t218 := Try.underlying104
 a218 := Try.isAgg104
 z218 := Try.sizeOf104
 v218 := Try.zeroValue104
 t222 := Try.underlying108
 a222 := Try.isAgg108
 z222 := Try.sizeOf108
 v222 := Try.zeroValue108
 t228 := Try.underlying110
 a228 := Try.isAgg110
 z228 := Try.sizeOf110
 v228 := Try.zeroValue110
 t229 := Try.underlying111
 a229 := Try.isAgg111
 z229 := Try.sizeOf111
 v229 := Try.zeroValue111
theorem sorts_wide (m : Nat) : SortsIn Fence.wide m :=
 ⟨fun blk off cap ss W hH hblk hsz => callsIn_wide.2 (Any.slices_Sort_string laid blk off cap ss W hH hblk hsz),
 fun p cap W => callsIn_wide.2 (Any.slices_Sort_string_none { laid with } p cap W)⟩
theorem keys (mb : Option Nat) (w : World) : Calls Try.prog 26 #[.map mb] w fun e w' => e = .returned (.func (.func 37) #[] #[.pointer (some ⟨w.heap.size, 0, none⟩)]) ∧ w' = w.alloc (.cells #[.map mb] 52) :=
 callsIn_wide.1 (keys_in Fence.wide 5 trivial rfl mb w)
theorem sorted {H : Type} (b nn : Nat) (D0 : DataW H) (R : Value → Option (DataW H × List MemPlace)) (w : World) (hown : w.ownsMap Try.prog 9 R b nn D0) (hmax : Maps.size D0 ≤ maxLen) (hbytes : Maps.size D0 * 16 ≤ 140737488355328) :
  Calls Try.prog 25 #[.func (.func 37) #[] #[.pointer (some ⟨w.heap.size, 0, none⟩)]] (w.alloc (.cells #[.map (some b)] 52)) fun e w' => ∃ (v : Value) (ss : List (List UInt8)), e = .returned v ∧ ss.Perm (strKeys D0) ∧
   w'.ownsRow (w.heap.size + 1) 9 1 v ss.length ((ss.mergeSort (fun x y => decide (x ≤ y))).map encStr) ∧ (v = .slice none 0 0 ↔ ss = []) ∧ Below (w.heap.size + 1) (w.alloc (.cells #[.map (some b)] 52)) w' := by
 have hbl := hown.lt
 have hseq : SeqGives Fence.wide 2 Try.prog 37 #[.pointer (some ⟨w.heap.size, 0, none⟩)] encStr (fun ss => ss.Perm (strKeys D0)) (Maps.size D0) (w.alloc (.cells #[.map (some b)] 52)) :=
  keys_gives Fence.wide _ trivial rfl (by omega) w.heap.size b nn D0 R _ (by simp) (by simp) (by
   obtain ⟨es, clock, hb, Ft, hs, hD⟩ := hown
   exact ⟨es, clock, (Below.heap_alloc _ _ b hbl).trans hb, Ft, hs, hD⟩)
 have h := sorted_in Fence.wide 5 trivial trivial trivial trivial rfl (by omega) (sorts_wide _) 37 #[.pointer (some ⟨w.heap.size, 0, none⟩)] trivial (enters_of Try.func37 (by kernel_rfl) rfl) _ _ hmax hbytes _ hseq
 have e1 : (w.alloc (.cells #[.map (some b)] 52)).heap.size = w.heap.size + 1 := by simp
 rw [e1] at h
 exact callsIn_wide.1 h
end Go.Proofs.Ytgapgdnbgimdlaa.It
end
section
set_option linter.unusedVariables false
set_option linter.unusedSimpArgs false
namespace Go.Proofs.Ytgapgdnbgimdlaa.PA
open Go.RowKit Go.Maps Go.WideElems Go.MapKept Go.Proofs.YtgapgdnbgimdlaaW.PrintWords Go.Proofs.YtgapgdnbgimdlaaW.PrintLast Go.Proofs.YtgapgdnbgimdlaaW.PrintMore
open Go.Proofs.Ytgapgdnbgimdlaa.It (keyed)
theorem nodup_eraseDups {α : Type} [BEq α] [LawfulBEq α] : ∀ (m : Nat) (l : List α), l.length ≤ m → l.eraseDups.Nodup := by
 intro m
 induction m with
 | zero => intro l h; have : l = [] := List.eq_nil_of_length_eq_zero (by omega); subst this; simp
 | succ m ih =>
  intro l h
  cases l with
  | nil => simp
  | cons a l =>
   rw [List.eraseDups_cons]
   refine List.nodup_cons.2 ⟨fun hm => ?_, ih _ ?_⟩
   ·have := List.mem_filter.1 (List.mem_eraseDups.1 hm)
    simp at this
   ·have := List.length_filter_le (fun b => !b == a) l
    simp at h
    omega
def keyList (K : S44 → List UInt8) (l : List S44) : List (List UInt8) := (l.map K).eraseDups
theorem Groups.keys {w : World} {b base n : Nat} {S : Nat → Prop} {K : S44 → List UInt8} {l : List S44} (h : Groups w b base n S (fun q => l.filter (fun x => decide (K x = q)))) :
  ∃ D : DataW Unit, w.ownsMap Try.prog 9 R0 b n D ∧ Maps.size D ≤ n ∧ (keyList K l).Perm (strKeys D) := by
 obtain ⟨es, clock, hm, F, hs, h1, h2, h3⟩ := h
 have hown : w.ownsMap Try.prog 9 R0 b n (datum es) := ⟨es, clock, hm, F, hs, rfl⟩
 refine ⟨datum es, hown, ?_, ?_⟩
 ·show ((es.toList.map (rg Try.prog 9 R0)).foldr DataW.insert []).length ≤ n
  rw [length_sorted]
  simpa using hs
 ·refine Collected.perm (left := fun _ => false) ⟨nodup_eraseDups _ _ (Nat.le_refl _), fun q => ?_⟩ hown keyed Try.underlying9 (fun _ => rfl)
  have hmem : q ∈ keyList K l ↔ ∃ x ∈ l, K x = q := by unfold keyList; rw [List.mem_eraseDups, List.mem_map]
  rw [hmem]
  have hgq : (∃ x ∈ l, K x = q) ↔ l.filter (fun x => decide (K x = q)) ≠ [] := by
   constructor
   ·rintro ⟨x, hx, e⟩ e'
    have : x ∈ l.filter (fun x => decide (K x = q)) := List.mem_filter.2 ⟨hx, by simpa using e⟩
    rw [e'] at this
    cases this
   ·intro hne
    obtain ⟨x, hx⟩ := List.exists_mem_of_ne_nil _ hne
    obtain ⟨hx1, hx2⟩ := List.mem_filter.1 hx
    exact ⟨x, hx1, by simpa using hx2⟩
  rw [hgq]
  by_cases hq : q.length ≤ maxLen
  ·rw [fit_has hm F hq]
   constructor
   ·intro hne; exact ⟨h2 q hne, rfl⟩
   ·rintro ⟨⟨x, hx, e⟩, _⟩
    obtain ⟨q', e', hg, _⟩ := h1 x hx
    obtain rfl : q' = q := encStr_inj (e'.symm.trans e)
    exact hg
  ·constructor
   ·intro hne
    obtain ⟨x, hx, e⟩ := h2 q hne
    exact absurd (entry_len F hx e) hq
   ·rintro ⟨hh, _⟩
    rw [has_eq, List.any_eq_true] at hh
    obtain ⟨p, hp, hsk⟩ := hh
    obtain ⟨x, hx, rfl⟩ := List.mem_map.1 (mem_sorted.1 hp)
    obtain ⟨y, hy⟩ := F.reads x hx
    rw [rg_of hy] at hsk
    obtain ⟨q', e', hl, hle⟩ := Maps.keyOf_str Try.underlying9 (rd_key hy)
    have := WideAt.sameKey_eq hsk
    rw [hl] at this
    injection this with this
    rw [← this] at hq
    exact absurd hle hq
theorem Groups.look {w : World} {b base n : Nat} {S : Nat → Prop} {G : List UInt8 → List S44} (h : Groups w b base n S G) (hS : ∀ k, S k → k < base) (hbb : base ≤ b) (hn : n < maxLen) (kb : List UInt8) (hkb : kb.length ≤ maxLen) :
  ∃ v, (Instr.lookup 52 (.map (some b)) (encStr kb) false).run Try.prog w = .ok v w ∧ Kd.N k44 44 w base (okS S v) v (G kb) := by
 obtain ⟨v, h1, h2, _⟩ := h.step hS hbb hn kb hkb
 exact ⟨v, h1, h2⟩
end Go.Proofs.Ytgapgdnbgimdlaa.PA
end
section
set_option linter.unusedVariables false
set_option linter.unusedSimpArgs false
namespace Go.Proofs.Ytgapgdnbgimdlaa.PA
open Go.RowKit Go.Proofs.YtgapgdnbgimdlaaW.PrintWords Go.Proofs.YtgapgdnbgimdlaaW.PrintLast Go.Proofs.YtgapgdnbgimdlaaW.PrintMore
theorem new_at {w : World} {o : Obj} {g : Nat} (h : g = w.heap.size) : (w.alloc o).heap[g]? = some o := h ▸ blk_new w o
def SumAt (w : World) (s : Nat) (n : Int) : Prop := w.heap[s]? = some (.cells #[.int .i64 n] 2 (0, 0))
def sumRef (s : Nat) : Array Value := #[.pointer (some ⟨s, 0, none⟩)]
def takeNo (kind : Int) : FuncId := if kind = 1 then 52 else 53
def tellsVal (kind : Int) (s : Nat) : Value := .agg #[.func (.func (takeNo kind)) #[] (sumRef s), .func (.func 51) #[] (sumRef s)]
set_option maxHeartbeats 4000000 in
theorem tells_num (kind : Int) (hk : kind = 1 ∨ kind = 2) (w : World) : Calls Try.prog 38 #[.int .i64 kind] w fun e w' => e = .returned (tellsVal kind (w.heap.size + 2)) ∧ SumAt w' (w.heap.size + 2) 0 ∧ Below w.heap.size w w' := by
 rcases hk with rfl | rfl
 ·go_enter Try.func38, Try.ntmps38
  go_wp2
  refine bodyPost_ret (results_cell_row rfl _ _ (w.heap.size + 1) 73 #[.func (.func 52) #[] (sumRef (w.heap.size + 2)), .func (.func 51) #[] (sumRef (w.heap.size + 2))] (0, 0) _ rfl ?_ Try.underlying73 rfl (by kernel_rfl)) rfl ?_
  ·exact blk_alloc (blk_alloc (blk_alloc (new_at (by simp)) _) _) _
  ·refine ⟨rfl, show _ = _ from blk_alloc (blk_alloc (new_at (by simp)) _) _, ?_⟩
   repeat (first | exact Below.refl _ _ | refine below_alloc ?_ _)
 ·go_enter Try.func38, Try.ntmps38
  go_wp2
  refine bodyPost_ret (results_cell_row rfl _ _ (w.heap.size + 1) 73 #[.func (.func 53) #[] (sumRef (w.heap.size + 2)), .func (.func 51) #[] (sumRef (w.heap.size + 2))] (0, 0) _ rfl ?_ Try.underlying73 rfl (by kernel_rfl)) rfl ?_
  ·exact blk_alloc (blk_alloc (blk_alloc (new_at (by simp)) _) _) _
  ·refine ⟨rfl, show _ = _ from blk_alloc (blk_alloc (new_at (by simp)) _) _, ?_⟩
   repeat (first | exact Below.refl _ _ | refine below_alloc ?_ _)
set_option maxHeartbeats 4000000 in
theorem number_end (s : Nat) (n : Int) (w : World) (hs : SumAt w s n) : Calls Try.prog 51 (sumRef s) w fun e w' => e = .returned (.agg #[.int .i64 1, .int .i64 n, .string ⟨#[]⟩]) ∧ w' = w.alloc (.cells #[.int .i64 1, .int .i64 n, .string ⟨#[]⟩] 23) := by
 have hc0 : w.cell? ⟨s, 0, none⟩ = some (.int .i64 n) := blk_cell hs 0
 have hlt := blk_lt hs
 unfold sumRef
 go_enter Try.func51, Try.ntmps51
 go_wp2
 refine bodyPost_ret (results_cell_row rfl _ _ w.heap.size 23 #[.int .i64 1, .int .i64 n, .string ⟨#[]⟩] (0, 0) _ rfl (blk_new _ _) Try.underlying23 rfl (by kernel_rfl)) rfl ?_
 exact ⟨rfl, rfl⟩
def taken (w : World) (s : Nat) (m : Int) (x : S23) : World := (w.setCell ⟨s, 0, none⟩ (.int .i64 m)).alloc (.cells #[.int .i64 x.f0, .int .i64 x.f1, .string x.f2] 23)
def takeOf (kind : Int) (n : Int) (v : S23) (x : Int) : Int := if kind = 1 then wrap64 (n + x) else wrap64 (n + wrap64 (x * v.f1))
set_option maxHeartbeats 4000000 in
theorem take_num (kind : Int) (hk : kind = 1 ∨ kind = 2) (s : Nat) (n : Int) (v : S23) (x : Int) (w : World) (hs : SumAt w s n) : Calls Try.prog (takeNo kind) (#[.agg #[.int .i64 v.f0, .int .i64 v.f1, .string v.f2], .int .i64 x] ++ sumRef s) w fun e w' => (∃ u, e = .returned u) ∧ w' = taken w s (takeOf kind n v x) v := by
 have hc0 : w.cell? ⟨s, 0, none⟩ = some (.int .i64 n) := blk_cell hs 0
 have hf0 : w.frozen? ⟨s, 0, none⟩ = false := blk_frozen hs 0
 have hlt := blk_lt hs
 unfold sumRef
 rcases hk with rfl | rfl
 ·show Calls Try.prog 52 _ _ _
  go_enter Try.func52, Try.ntmps52
  go_wp2
  go_end0
  exact ⟨⟨_, rfl⟩, rfl⟩
 ·show Calls Try.prog 53 _ _ _
  go_enter Try.func53, Try.ntmps53
  go_wp2
  go_end0
  exact ⟨⟨_, rfl⟩, rfl⟩
theorem SumAt.taken {w : World} {s : Nat} {n m : Int} {x : S23} (h : SumAt w s n) : SumAt (taken w s m x) s m := blk_alloc (blk_put h 0 _ rfl) _
end Go.Proofs.Ytgapgdnbgimdlaa.PA
end
section
set_option linter.unusedVariables false
set_option linter.unusedSimpArgs false
namespace Go.Proofs.Ytgapgdnbgimdlaa.PA
open Go.RowKit Go.Proofs.YtgapgdnbgimdlaaW.PrintWords Go.Proofs.YtgapgdnbgimdlaaW.PrintLast Go.Proofs.YtgapgdnbgimdlaaW.PrintMore
open Std
def ord0 (a b : S23) : Ordering := compare a.f0 b.f0
def ord1 (a b : S23) : Ordering := compare a.f1 b.f1
def ord2 (a b : S23) : Ordering := compare a.f2.toList b.f2.toList
instance : TransCmp ord0 := { eq_swap := fun {a b} => OrientedCmp.eq_swap (cmp := (compare : Int → Int → Ordering)), isLE_trans := fun {a b c} => TransCmp.isLE_trans (cmp := (compare : Int → Int → Ordering)) }
instance : TransCmp ord1 := { eq_swap := fun {a b} => OrientedCmp.eq_swap (cmp := (compare : Int → Int → Ordering)), isLE_trans := fun {a b c} => TransCmp.isLE_trans (cmp := (compare : Int → Int → Ordering)) }
instance : TransCmp ord2 := { eq_swap := fun {a b} => OrientedCmp.eq_swap (cmp := (compare : List UInt8 → List UInt8 → Ordering)), isLE_trans := fun {a b c} => TransCmp.isLE_trans (cmp := (compare : List UInt8 → List UInt8 → Ordering)) }
def ordV : S23 → S23 → Ordering := compareLex ord0 (compareLex ord1 ord2)
instance : TransCmp ordV := inferInstanceAs (TransCmp (compareLex ord0 (compareLex ord1 ord2)))
theorem bytes_ext {a b : ByteArray} (h : a.toList = b.toList) : a = b := by
 rw [ByteArray.toList_eq, ByteArray.toList_eq] at h
 cases a; cases b
 simp only [ByteArray.mk.injEq]
 exact Array.toList_inj.1 h
instance : LawfulEqCmp ordV where
 compare_self := fun {a} => by simp [ordV, compareLex, ord0, ord1, ord2, ReflCmp.compare_self]
 eq_of_compare := fun {a b} h => by
  simp only [ordV, compareLex, Ordering.then_eq_eq, ord0, ord1, ord2] at h
  obtain ⟨h0, h1, h2⟩ := h
  have e0 := LawfulEqCmp.eq_of_compare h0
  have e1 := LawfulEqCmp.eq_of_compare h1
  have e2 := bytes_ext (LawfulEqCmp.eq_of_compare h2)
  cases a; cases b
  simp_all
def ordR : List S23 → List S23 → Ordering := List.compareLex ordV
instance : TransCmp ordR := inferInstanceAs (TransCmp (List.compareLex ordV))
instance : LawfulEqCmp ordR := inferInstanceAs (LawfulEqCmp (List.compareLex ordV))
def oi : Ordering → Int
 | .lt => -1
 | .eq => 0
 | .gt => 1
theorem oi_lt {o : Ordering} : oi o < 0 ↔ o = .lt := by cases o <;> simp [oi]
theorem oi_eq {o : Ordering} : oi o = 0 ↔ o = .eq := by cases o <;> simp [oi]
theorem cmpI_eq (a b : Int) : (if a < b then (-1 : Int) else if a > b then 1 else 0) = oi (compare a b) := by
 rcases Int.lt_trichotomy a b with h | h | h
 ·rw [if_pos h, show compare a b = .lt from Int.compare_eq_lt.2 h]; rfl
 ·subst h
  simp [oi, ReflCmp.compare_self]
 ·rw [if_neg (by omega), if_pos h, show compare a b = .gt from Int.compare_eq_gt.2 h]; rfl
theorem isNaN_i (a : Int) : cmp_isNaN_int.f a = some false := by simp [cmp_isNaN_int.f]
theorem isNaN_l (a : Int) : cmp_isNaN_int64.f a = some false := by simp [cmp_isNaN_int64.f]
theorem cmp_int (a b : Int) : cmp_Compare_int.f a b = some (oi (compare a b)) := by
 rw [← cmpI_eq]
 unfold cmp_Compare_int.f
 rw [isNaN_i, isNaN_i]
 simp only [Option.bind_some, Bool.false_eq_true, if_false]
 split
 ·rfl
 ·split <;> rfl
theorem cmp_int64 (a b : Int) : cmp_Compare_int64.f a b = some (oi (compare a b)) := by
 rw [← cmpI_eq]
 unfold cmp_Compare_int64.f
 rw [isNaN_l, isNaN_l]
 simp only [Option.bind_some, Bool.false_eq_true, if_false]
 split
 ·rfl
 ·split <;> rfl
theorem cmp_bytes : ∀ (a b : List UInt8), (if Op.bytesLess a b = true then (-1 : Int) else if a = b then 0 else 1) = oi (compare a b)
 | [], [] => by simp [Op.bytesLess, oi]
 | [], y :: b => by simp [Op.bytesLess, oi]
 | x :: a, [] => by simp [Op.bytesLess, oi]
 | x :: a, y :: b => by
  have ih := cmp_bytes a b
  have hc : compare (x :: a) (y :: b) = (compare x y).then (compare a b) := List.compareLex_cons_cons
  rw [hc]
  simp only [Op.bytesLess]
  rcases Nat.lt_trichotomy x.toNat y.toNat with h | h | h
  ·have h1 : x < y := UInt8.lt_iff_toNat_lt.2 h
   have h2 : compare x y = .lt := by simp [compare, compareOfLessAndEq, h1]
   simp [h1, h2, oi]
  ·have h1 : x = y := UInt8.toNat_inj.1 h
   subst h1
   have h2 : compare x x = .eq := ReflCmp.compare_self
   simp only [h2, Ordering.then, ← ih]
   simp
  ·have h1 : y < x := UInt8.lt_iff_toNat_lt.2 h
   have h3 : ¬ x < y := by rw [UInt8.lt_iff_toNat_lt]; omega
   have h4 : ¬ x = y := fun e => by rw [e] at h; omega
   have h2 : compare x y = .gt := by simp [compare, compareOfLessAndEq, h3, h4]
   simp [h3, h4, h2, oi]
theorem cmp_str (a b : ByteArray) : cmp_Compare_string.f a b = some (oi (compare a.toList b.toList)) := by
 unfold cmp_Compare_string.f
 rw [cmp_bytes]
theorem cmp_val (a b : S23) : value_Cmp.f a.f0 a.f1 a.f2 b.f0 b.f1 b.f2 = some (oi (ordV a b)) := by
 unfold value_Cmp.f
 rw [cmp_int, cmp_int64, cmp_str]
 simp only [Option.bind_some, ordV, compareLex, ord0, ord1, ord2]
 cases h0 : compare a.f0 b.f0 <;> simp [oi]
 cases h1 : compare a.f1 b.f1 <;> simp [oi]
theorem cmp_row (a b : List S23) (ha : a.length ≤ 9223372036854775807) (hb : b.length ≤ 9223372036854775807) (d : Nat) : ∀ (k i : Nat), a.length - i = d → i ≤ a.length → i ≤ b.length → d < k →
  value_CmpRow.l0 k a b a (a.length : Int) i = some (oi (ordR (a.drop i) (b.drop i))) := by
 induction d with
 | zero =>
  intro k i hd hi hib hk
  obtain ⟨k, rfl⟩ : ∃ m, k = m + 1 := ⟨k - 1, by omega⟩
  simp only [value_CmpRow.l0]
  rw [if_neg (by omega), cmp_int]
  simp only [Option.bind_some]
  rw [List.drop_of_length_le (by omega)]
  congr 2
  by_cases he : i = b.length
  ·rw [List.drop_of_length_le (l := b) (by omega)]
   have : (a.length : Int) = b.length := by omega
   rw [this]
   exact ReflCmp.compare_self
  ·rw [List.drop_eq_getElem_cons (by omega : i < b.length)]
   show _ = Ordering.lt
   exact Int.compare_eq_lt.2 (by omega)
 | succ d ih =>
  intro k i hd hi hib hk
  obtain ⟨k, rfl⟩ : ∃ m, k = m + 1 := ⟨k - 1, by omega⟩
  simp only [value_CmpRow.l0]
  rw [if_pos (by omega), if_pos (by omega), if_pos (by omega)]
  rw [List.drop_eq_getElem_cons (by omega : i < a.length)]
  by_cases he : i = b.length
  ·rw [if_pos (by omega), cmp_int, List.drop_of_length_le (l := b) (by omega)]
   simp only [Option.bind_some]
   congr 2
   show _ = Ordering.gt
   exact Int.compare_eq_gt.2 (by omega)
  ·have hlt : i < b.length := by omega
   rw [if_neg (by omega), if_pos (by omega), List.drop_eq_getElem_cons hlt]
   have ga : rd_T23 a (i : Int) = a[i] := by simp [rd_T23, show i < a.length by omega]
   have gb : rd_T23 b (i : Int) = b[i] := by simp [rd_T23, hlt]
   rw [ga, gb, cmp_val]
   simp only [Option.bind_some]
   have hc : ordR (a[i] :: a.drop (i + 1)) (b[i] :: b.drop (i + 1)) = (ordV a[i] b[i]).then (ordR (a.drop (i + 1)) (b.drop (i + 1))) := List.compareLex_cons_cons
   rw [hc]
   have hw : wrap64 ((i : Int) + 1) = ((i + 1 : Nat) : Int) := by unfold wrap64; omega
   cases hv : ordV a[i] b[i] with
   | lt => rfl
   | gt => rfl
   | eq =>
    simp only [oi, Ordering.then, if_true]
    rw [hw]
    exact ih k (i + 1) (by omega) (by omega) (by omega) (by omega)
theorem cmpRow_at (a b : List S23) (ha : a.length ≤ 9223372036854775807) (hb : b.length ≤ 9223372036854775807) (k : Nat) (hk : a.length < k) : value_CmpRow.f k a b = some (oi (ordR a b)) := by
 have := cmp_row a b ha hb a.length k 0 (by omega) (by omega) (by omega) hk
 simpa [value_CmpRow.f] using this
end Go.Proofs.Ytgapgdnbgimdlaa.PA
end
section
namespace Go.Proofs.Ytgapgdnbgimdlaa.Ov
open Go.RowKit Go.Proofs.YtgapgdnbgimdlaaW.PrintWords Go.Proofs.YtgapgdnbgimdlaaW.PrintLast Go.Proofs.YtgapgdnbgimdlaaW.PrintMore Go.Proofs.Ytgapgdnbgimdlaa.PA
structure OV where
 A : Option Addr
 n : Nat
 c : Nat
def zov : OV := ⟨none, 0, 0⟩
def OV.val (x : OV) : Value := .slice x.A x.n x.c
def _root_.Go.Proofs.YtgapgdnbgimdlaaW.PrintWords.Kd.ov : Kd OV := Kd.scalar OV.val (fun _ => rfl)
class Env where
 W : World
 den : OV → List S23
 ok : OV → Bool
 okay : ∀ x, ok x = true → (den x).length = x.n ∧ x.n ≤ x.c ∧ Kd.C k23 W x.A x.n (den x)
def w0 [Env] : World := Env.W
def OV.reads (w : World) (x : OV) (l : List S23) : Prop := l.length = x.n ∧ x.n ≤ x.c ∧ Kd.C k23 w x.A x.n l
theorem OV.reads.below {w w1 : World} {x : OV} {l : List S23} (h : x.reads w l) (hb : Below w.heap.size w w1) : x.reads w1 l := ⟨h.1, h.2.1, Kd.C_below h.2.2 hb⟩
def cmprowo.f [Env] (k : Nat) (a b : OV) : Option Int :=
 if (Env.ok a && Env.ok b) = true then value_CmpRow.f k (Env.den a) (Env.den b) else none
theorem cmprowo.mono [Env] : ∀ a0 a1 k, LeO (cmprowo.f k a0 a1) (cmprowo.f (k + 1) a0 a1) := by
 intro a0 a1 k r h
 unfold cmprowo.f at h ⊢
 split at h
 ·rename_i hc
  rw [if_pos hc]
  exact value_CmpRow.mono _ _ _ _ h
 ·cases h
def cmpo.f [Env] (k : Nat) (a : OV) (x : Int) (b : OV) (y : Int) : Option Int :=
 if (Env.ok a && Env.ok b) = true then zset_sum_1.f k (Env.den a) x (Env.den b) y else none
theorem cmpo.mono [Env] : ∀ a0 a1 a2 a3 k, LeO (cmpo.f k a0 a1 a2 a3) (cmpo.f (k + 1) a0 a1 a2 a3) := by
 intro a0 a1 a2 a3 k r h
 unfold cmpo.f at h ⊢
 split at h
 ·rename_i hc
  rw [if_pos hc]
  exact zset_sum_1.mono _ _ _ _ _ _ h
 ·cases h
theorem cmprowo.calls [Env] (k : Nat) (a b : OV) (r : Int) (w : World) (hB : Below w0.heap.size w0 w) (h : cmprowo.f k a b = some r) :
  Calls Try.prog 41 #[.slice a.A a.n a.c, .slice b.A b.n b.c] w fun e w' => e = .returned (.int .i64 r) ∧ Below w.heap.size w w' := by
 unfold cmprowo.f at h
 split at h
 ·rename_i hr
  simp only [Bool.and_eq_true] at hr
  have ha' := OV.reads.below (w := w0) (Env.okay a hr.1) hB
  have hb' := OV.reads.below (w := w0) (Env.okay b hr.2) hB
  have := value_CmpRow.calls k a.A a.c (Env.den a) b.A b.c (Env.den b) r w (by rw [ha'.1]; exact ha'.2.2) (by rw [ha'.1]; exact ha'.2.1) (by rw [hb'.1]; exact hb'.2.2) (by rw [hb'.1]; exact hb'.2.1) h
  rw [ha'.1, hb'.1] at this
  exact this
 ·cases h
theorem cmpo.calls [Env] (k : Nat) (a : OV) (x : Int) (b : OV) (y : Int) (r : Int) (w : World) (hB : Below w0.heap.size w0 w) (h : cmpo.f k a x b y = some r) :
  Calls Try.prog 40 #[.agg #[.slice a.A a.n a.c, .int .i64 x], .agg #[.slice b.A b.n b.c, .int .i64 y]] w fun e w' => e = .returned (.int .i64 r) ∧ Below w.heap.size w w' := by
 unfold cmpo.f at h
 split at h
 ·rename_i hr
  simp only [Bool.and_eq_true] at hr
  have ha' := OV.reads.below (w := w0) (Env.okay a hr.1) hB
  have hb' := OV.reads.below (w := w0) (Env.okay b hr.2) hB
  have := zset_sum_1.calls k a.A a.c (Env.den a) x b.A b.c (Env.den b) y r w (by rw [ha'.1]; exact ha'.2.2) (by rw [ha'.1]; exact ha'.2.1) (by rw [hb'.1]; exact hb'.2.2) (by rw [hb'.1]; exact hb'.2.1) h
  rw [ha'.1, hb'.1] at this
  exact this
 ·cases h
section
variable {P : Program} {ops : Array Oper} {Q : Exit → Act → World → Prop}
theorem gateT_ {rest : List Oper} {o : Oper} {a : Act} {W : World} {f : FuncId} {x : Operand} {ys : Array Operand} {ts : Array TypeId} (_ho : o.op = .call { callee := .value x, args := ys, argTypes := ts }) (_hx : a.eval x = .func (.func f) #[] #[]) (h : wpList P ops Q (o :: rest) a W) : wpList P ops Q (o :: rest) a W := h
theorem goesT_ {oi : Oper} {N : Option Tmp} {a : Act} {w : World} {K : Act → World → Prop} {f : FuncId} {fn : Func} {x : Operand} {ys : Array Operand} {ts : Array TypeId} (hf : P.funcs[f]? = some fn) (hname : (fn.name == "runtime.NumGoroutine") = false) (hb : fn.body.isSome = true) (args : Array Value)
  (hw : Region.wanted oi (yielded ops a.tmps) = true) (hN : oi.dst = N) (hop : oi.op = .call { callee := .value x, args := ys, argTypes := ts }) (hargs : ys.map a.eval = args)
  (h : Calls P f args w fun e w' => ∃ v, e = .returned v ∧ K (a.put N v) w') (hx : a.eval x = .func (.func f) #[] #[] := by first | rfl | (simp [Act.eval]; done)) : if Region.wanted oi (yielded ops a.tmps) = true then Oper.wp P oi a w K Q else K (a.put N undef) w := by
 refine call_ f args hw hN ?_ h
 have he := enters_ hf hname hb args w
 unfold execOp
 simp [hop, hx, resolve, Deferred.ofValue, invoke, hargs, he]
theorem goesTL_ {rest : List Oper} {oi : Oper} {a : Act} {w : World} (N : Option Tmp) (hd : oi.dst = N) (hg : oi.guard = none) {f : FuncId} {fn : Func} {x : Operand} {ys : Array Operand} {ts : Array TypeId} (hf : P.funcs[f]? = some fn) (hname : (fn.name == "runtime.NumGoroutine") = false) (hb : fn.body.isSome = true) (args : Array Value)
  (hop : oi.op = .call { callee := .value x, args := ys, argTypes := ts }) (hargs : ys.map a.eval = args)
  (h : Calls P f args w fun e w' => ∃ v, e = .returned v ∧ wpList P ops Q rest (a.put N v) w') (hx : a.eval x = .func (.func f) #[] #[] := by first | rfl | (simp [Act.eval]; done)) : wpList P ops Q (oi :: rest) a w := by
 refine wpList_plain hg fun K hK => ?_
 have he := enters_ hf hname hb args w
 have hrun : (execOp a.eval oi).run P w = .ok (.enter f args) w := by
  unfold execOp
  simp [hop, hx, resolve, Deferred.ofValue, invoke, hargs, he]
 unfold Oper.wp
 rw [hrun, Oper.upon_enter]
 refine h.mono fun e w'' hh => ?_
 obtain ⟨v, rfl, hk⟩ := hh
 subst hd
 exact hK _ _ hk
end
end Go.Proofs.Ytgapgdnbgimdlaa.Ov
end
section
namespace Go.Proofs.Ytgapgdnbgimdlaa.PO
open Go.Proofs.Ytgapgdnbgimdlaa.Ov Go.RowKit Go.Proofs.YtgapgdnbgimdlaaW.PrintWords Go.Proofs.YtgapgdnbgimdlaaW.PrintLast Go.Proofs.YtgapgdnbgimdlaaW.PrintMore
attribute [local go_sem] max2_int min2_int max_two min_two max_three min_three max_four min_four
set_option linter.unusedVariables false
set_option linter.unusedSimpArgs false
def errW : Option Int → Value
 | none => .nilIface
 | some c => .iface 0 (.int .i64 c)
theorem errW_none : errW none = .nilIface := rfl
theorem errW_some (c : Int) : errW (some c) = .iface 0 (.int .i64 c) := rfl
theorem info44 : (Try.prog.info? 44).map (fun i => (i.zero, i.size, i.bytes)) = some (some (.agg #[(.slice none 0 0), (.int .i64 0)]), 2, 32) := by kernel_rfl
structure S44 where
 f0 : OV
 f1 : Int
def z44 : S44 := ⟨zov, (0 : Int)⟩
def k44 : Kd S44 := Kd.iso (Kd.pair Kd.ov (Kd.int .i64)) (fun x : S44 => (x.f0, x.f1))
theorem k44_open {w : World} {x : S44} {cs : List Value} (h : k44.K w x cs) : cs = [.slice x.f0.A x.f0.n x.f0.c, .int .i64 x.f1] := by
 obtain ⟨_, _, rfl, rfl, rfl⟩ := h
 exact rfl
theorem k44_openM {w : World} {base : Nat} {ok : Nat → Prop} {x : S44} {cs : List Value} (h : k44.M w base ok x cs) : cs = [.slice x.f0.A x.f0.n x.f0.c, .int .i64 x.f1] := by
 obtain ⟨_, _, rfl, rfl, rfl⟩ := h
 exact rfl
theorem k44_mk (w : World) (x : S44)  : k44.K w x [.slice x.f0.A x.f0.n x.f0.c, .int .i64 x.f1] := ⟨[.slice x.f0.A x.f0.n x.f0.c], [.int .i64 x.f1], rfl, rfl, rfl⟩
theorem k44_mkM (w : World) (base : Nat) (ok : Nat → Prop) (x : S44)  : k44.M w base ok x [.slice x.f0.A x.f0.n x.f0.c, .int .i64 x.f1] := ⟨[.slice x.f0.A x.f0.n x.f0.c], [.int .i64 x.f1], rfl, rfl, rfl⟩
theorem k44_mkF (W : World) (ok : Nat → Prop) (x : S44) : Kd.FK k44 W ok x [.slice x.f0.A x.f0.n x.f0.c, .int .i64 x.f1] := fun W2 _ => k44_mk W2 x
def rd_T44 (xs : List S44) (i : Int) : S44 := xs.getD i.toNat z44
theorem at_T44 {w : World} {A : Option Addr} {n : Nat} {xs : List S44} (h : Kd.C k44 w A n xs) (i : Int) (h0 : 0 ≤ i) (h1 : i < n) : ∃ ad , A = some ad ∧ w.cell? (ad.add (i.toNat * 2)) = some (.slice (rd_T44 xs i).f0.A (rd_T44 xs i).f0.n (rd_T44 xs i).f0.c) ∧ w.cell? ⟨(ad.add (i.toNat * 2)).block, (ad.add (i.toNat * 2)).off + 1, none⟩ = some (.int .i64 (rd_T44 xs i).f1) := by
 obtain ⟨ad, c, e, _, hK, hc0⟩ := Kd.C_get h z44 i h0 h1
 have hc : ∀ j u, c[j]? = some u → w.cell? (ad.add (i.toNat * 2 + j)) = some u := hc0
 obtain rfl := k44_open hK
 exact ⟨ad, e, hc 0 _ rfl, by rw [← add_field _ _ 1 (by omega)]; exact hc 1 _ rfl⟩
def rd_L3 (xs : List (List S44)) (i : Int) : (List S44) := xs.getD i.toNat ([] : List S44)
theorem at_L3 {w : World} {A : Option Addr} {n : Nat} {xs : List (List S44)} (h : Kd.C (Kd.slice 44 k44) w A n xs) (i : Int) (h0 : 0 ≤ i) (h1 : i < n) : ∃ ad A0 c0, A = some ad ∧ w.cell? (ad.add i.toNat) = some (.slice A0 (rd_L3 xs i).length c0) ∧ (rd_L3 xs i).length ≤ c0 ∧ k44.C w A0 (rd_L3 xs i).length (rd_L3 xs i) := by
 obtain ⟨ad, c, e, _, hK, hc0⟩ := Kd.C_get h ([] : List S44) i h0 h1
 have hc : ∀ j u, c[j]? = some u → w.cell? (ad.add (i.toNat * 1 + j)) = some u := hc0
 obtain ⟨A0, c0, rfl, l0, g0⟩ := hK
 exact ⟨ad, A0, c0, e, by have hq := hc 0 _ rfl; rwa [Nat.mul_one, Nat.add_zero] at hq, l0, g0⟩
def rd_L5 (xs : List (List Int)) (i : Int) : (List Int) := xs.getD i.toNat ([] : List Int)
theorem at_L5 {w : World} {A : Option Addr} {n : Nat} {xs : List (List Int)} (h : Kd.C (Kd.slice 3 (Kd.int .i64)) w A n xs) (i : Int) (h0 : 0 ≤ i) (h1 : i < n) : ∃ ad A0 c0, A = some ad ∧ w.cell? (ad.add i.toNat) = some (.slice A0 (rd_L5 xs i).length c0) ∧ (rd_L5 xs i).length ≤ c0 ∧ (Kd.int .i64).C w A0 (rd_L5 xs i).length (rd_L5 xs i) := by
 obtain ⟨ad, c, e, _, hK, hc0⟩ := Kd.C_get h ([] : List Int) i h0 h1
 have hc : ∀ j u, c[j]? = some u → w.cell? (ad.add (i.toNat * 1 + j)) = some u := hc0
 obtain ⟨A0, c0, rfl, l0, g0⟩ := hK
 exact ⟨ad, A0, c0, e, by have hq := hc 0 _ rfl; rwa [Nat.mul_one, Nat.add_zero] at hq, l0, g0⟩
structure S46 where
 f0 : Int
 f1 : Int
def z46 : S46 := ⟨(0 : Int), (0 : Int)⟩
def k46 : Kd S46 := Kd.iso (Kd.pair (Kd.int .i64) (Kd.int .i64)) (fun x : S46 => (x.f0, x.f1))
theorem k46_open {w : World} {x : S46} {cs : List Value} (h : k46.K w x cs) : cs = [.int .i64 x.f0, .int .i64 x.f1] := by
 obtain ⟨_, _, rfl, rfl, rfl⟩ := h
 exact rfl
theorem k46_mkM (w : World) (base : Nat) (ok : Nat → Prop) (x : S46)  : k46.M w base ok x [.int .i64 x.f0, .int .i64 x.f1] := ⟨[.int .i64 x.f0], [.int .i64 x.f1], rfl, rfl, rfl⟩
def rd_T46 (xs : List S46) (i : Int) : S46 := xs.getD i.toNat z46
theorem at_T46 {w : World} {A : Option Addr} {n : Nat} {xs : List S46} (h : Kd.C k46 w A n xs) (i : Int) (h0 : 0 ≤ i) (h1 : i < n) : ∃ ad , A = some ad ∧ w.cell? (ad.add (i.toNat * 2)) = some (.int .i64 (rd_T46 xs i).f0) ∧ w.cell? ⟨(ad.add (i.toNat * 2)).block, (ad.add (i.toNat * 2)).off + 1, none⟩ = some (.int .i64 (rd_T46 xs i).f1) := by
 obtain ⟨ad, c, e, _, hK, hc0⟩ := Kd.C_get h z46 i h0 h1
 have hc : ∀ j u, c[j]? = some u → w.cell? (ad.add (i.toNat * 2 + j)) = some u := hc0
 obtain rfl := k46_open hK
 exact ⟨ad, e, hc 0 _ rfl, by rw [← add_field _ _ 1 (by omega)]; exact hc 1 _ rfl⟩
end Go.Proofs.Ytgapgdnbgimdlaa.PO
end
