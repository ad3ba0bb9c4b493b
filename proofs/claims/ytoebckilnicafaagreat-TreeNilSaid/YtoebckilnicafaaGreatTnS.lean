/-
One step of the checking sums.
-/
import Derived.Test.YtoebckilnicafaaGreatProg
import Derived.Test.YtoebckilnicafaaGreatRxF
import Derived.WalkKit
import Derived.ProofKit
set_option linter.unusedVariables false
namespace Go.Rx
open Go.Proofs
def stepN (m : Nat) : Nat := bif Nat.beq (m % 2) 1 then Nat.xor (m / 2) 3988292384 else m / 2
theorem u32_nat (a : Nat) (ha : a < 4294967296) : (BitVec.ofInt 32 (a : Int)).toNat = a := by
  rw [BitVec.ofInt_natCast, BitVec.toNat_ofNat]; exact Nat.mod_eq_of_lt (by omega)
theorem and_one_u32 (m : Nat) (h : m < 4294967296) : bits .and .u32 (m : Int) 1 = ((m % 2 : Nat) : Int) := by
  have h1 := u32_nat m h
  have h2 : (BitVec.ofInt 32 (1 : Int)).toNat = 1 := by decide
  have hx : m &&& 1 < 4294967296 := by rw [Nat.and_one_is_mod]; omega
  show IntKind.u32.wrap (BitVec.ofInt 32 (m : Int) &&& BitVec.ofInt 32 (1 : Int)).toNat = _
  rw [BitVec.toNat_and, h1, h2, Nat.and_one_is_mod, IntKind.wrap_u32]
  omega
theorem xor_u32 (a b : Nat) (ha : a < 4294967296) (hb : b < 4294967296) : bits .xor .u32 (a : Int) (b : Int) = ((Nat.xor a b : Nat) : Int) := by
  have h1 := u32_nat a ha
  have h2 := u32_nat b hb
  have hx : a ^^^ b < 2 ^ 32 := Nat.xor_lt_two_pow (by omega) (by omega)
  show IntKind.u32.wrap (BitVec.ofInt 32 (a : Int) ^^^ BitVec.ofInt 32 (b : Int)).toNat = _
  rw [BitVec.toNat_xor, h1, h2, IntKind.wrap_u32]
  show _ = ((a ^^^ b : Nat) : Int)
  omega
set_option maxHeartbeats 1000000 in
theorem step_any (m : Nat) (h : m < 4294967296) (w : World) : Calls Tryz.prog 365 #[.int .u32 m] w fun e w' => e = .returned (.int .u32 (stepN m : Nat)) ∧ w' = w := by
  have ha := and_one_u32 m h
  go_enter Tryz.func365, Tryz.ntmps365
  go_wp2
  · go_ret
    rename_i hh
    have h2 : m % 2 = 1 := by simp at hh; omega
    have hx := xor_u32 (m / 2) 3988292384 (by omega) (by omega)
    refine ⟨?_, rfl⟩
    show Ending.returned (Value.int IntKind.u32 (bits BinOp.xor IntKind.u32 ((m : Int) / 2) 3988292384)) = _
    have e : ((m : Int) / 2) = ((m / 2 : Nat) : Int) := by omega
    rw [e]
    have e2 : (3988292384 : Int) = ((3988292384 : Nat) : Int) := rfl
    rw [e2, hx]
    unfold stepN
    rw [h2]
    rfl
  · go_ret
    rename_i hh
    have h2 : m % 2 = 0 := by simp at hh; omega
    refine ⟨?_, rfl⟩
    show Ending.returned (Value.int IntKind.u32 ((m : Int) / 2)) = _
    unfold stepN
    rw [h2]
    rfl
def sumS : FuncId → Option Caller := fun f => bif Nat.beq f 365 then some (fun _ args s => match args with
  | [.int .u32 (.ofNat m)] => bif Nat.blt m 4294967296 then (fN (stepN m)).bind fun r => some (.ret (.int .u32 (.ofNat r)) s) else none
  | _ => none) else none
end Go.Rx
