/- The functions of the committee that compute numbers alone. -/
import Derived.Test.YtngjhimhmpbofaaPs10
import Derived.Test.YtngjhimhmpbofaaChecked
import Derived.KernelRfl
import Derived.IntWalk
set_option linter.unusedSimpArgs false
set_option linter.unusedVariables false
set_option maxRecDepth 20000
namespace Go.Proofs.Ytngjhimhmpbofaa
open Go Go.PS
theorem mixed : Try.prog.follows .mixedOrders = true := by kernel_rfl
theorem td3 : td Try.prog 3 = .int .i64 := by kernel_rfl
theorem td4 : td Try.prog 4 = .bool := by kernel_rfl
theorem td5 : td Try.prog 5 = .int .u8 := by kernel_rfl
theorem td22 : td Try.prog 22 = .int .i64 := by kernel_rfl
theorem td59 : td Try.prog 59 = .int .u64 := by kernel_rfl
theorem td39 : td Try.prog 39 = .int .u64 := by kernel_rfl
theorem td57 : td Try.prog 57 = .int .u32 := by kernel_rfl
theorem td52 : td Try.prog 52 = .slice 3 1 8 := by kernel_rfl

theorem LeT_int {k : IntKind} {a b : Int} : LeT (.one (.int k a)) (.one (.int k b)) ↔ a = b :=
  ⟨fun h => by have := h ⟨Try.prog, default, fun _ => False, fun _ => none⟩ noNames default (.int k a) rfl; cases this; rfl, fun h => h ▸ LeT.refl _⟩
theorem LeT_bool {a b : Bool} : LeT (.one (.bool a)) (.one (.bool b)) ↔ a = b :=
  ⟨fun h => by have := h ⟨Try.prog, default, fun _ => False, fun _ => none⟩ noNames default (.bool a) rfl; cases this; rfl, fun h => h ▸ LeT.refl _⟩
def i64ok (n : Int) : Prop := -9223372036854775808 ≤ n ∧ n ≤ 9223372036854775807
def book0 : Book Try.prog := ⟨fun _ _ => none, fun f args ob r h => by cases h⟩
theorem wrap_id {n : Int} (h : i64ok n) : IntKind.i64.wrap n = n := IntWalk.i64_in n h
/-- Bit i of a mask. -/
def bitI (m : Int) (i : Nat) : Bool := (m / 2 ^ i) % 2 == 1
theorem and_one (x : Int) : bitsI .and .i64 x 1 = x % 2 := by
  have h1 : (BitVec.ofInt 64 x &&& BitVec.ofInt 64 1).toNat = (BitVec.ofInt 64 x).toNat % 2 := by
    rw [BitVec.toNat_and]
    exact Nat.and_one_is_mod _
  have h2 : ((BitVec.ofInt 64 x).toNat : Int) = x % 18446744073709551616 := by
    rw [BitVec.toNat_ofInt]
    omega
  show IntKind.i64.wrap ((BitVec.ofInt 64 x &&& BitVec.ofInt 64 1).toNat : Int) = x % 2
  rw [h1, wrap_id] <;> (try unfold i64ok) <;> omega
def hasI (m i : Int) : Bool := decide (0 ≤ i) && (decide (i < 10) && bitI m i.toNat)
end Go.Proofs.Ytngjhimhmpbofaa
