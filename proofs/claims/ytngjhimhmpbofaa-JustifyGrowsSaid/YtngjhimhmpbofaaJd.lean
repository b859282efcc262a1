/- The lowest members of a committee: what the function that ranges over the iterator returns. -/
import Derived.Test.YtngjhimhmpbofaaJc
set_option linter.unusedSimpArgs false
set_option linter.unusedVariables false
set_option maxRecDepth 100000
namespace Go.Proofs.Ytngjhimhmpbofaa
open Go Go.PS Go.RowKit Go.Shelf
attribute [local go_sem] Oper.semAt_some
/-- The mask of the members. -/
def maskN (pre : List (Fin 10)) : Nat := pre.foldl (fun o i => o ||| 2 ^ i.val) 0
def outOf (pre : List (Fin 10)) : Int := (maskN pre : Nat)
theorem maskN_snoc (pre : List (Fin 10)) (x : Fin 10) : maskN (pre ++ [x]) = maskN pre ||| 2 ^ x.val := by simp [maskN]
theorem maskN_lt : ∀ pre : List (Fin 10), maskN pre < 1024 := by
  have : ∀ (pre : List (Fin 10)) (o : Nat), o < 2 ^ 10 → pre.foldl (fun o i => o ||| 2 ^ i.val) o < 2 ^ 10 := by
    intro pre
    induction pre with
    | nil => exact fun o h => h
    | cons x r ih => exact fun o h => ih _ (Nat.or_lt_two_pow h (Nat.pow_lt_pow_right (by decide) x.isLt))
  exact fun pre => this pre 0 (by decide)
theorem or_nat (a b : Nat) (ha : a < 1024) (hb : b < 1024) : bitsI .or .i64 a b = ((a ||| b : Nat) : Int) := by
  have h : (BitVec.ofInt 64 (a : Int) ||| BitVec.ofInt 64 (b : Int)).toNat = a ||| b := by
    rw [BitVec.toNat_or, BitVec.toNat_ofInt, BitVec.toNat_ofInt]
    congr 1 <;> omega
  show IntKind.i64.wrap ((BitVec.ofInt 64 (a : Int) ||| BitVec.ofInt 64 (b : Int)).toNat : Int) = _
  rw [h, wrap_id]
  have : a ||| b < 2 ^ 10 := Nat.or_lt_two_pow ha hb
  unfold i64ok; omega
def lowL (m k : Int) : List (Fin 10) := (upto m 10).take k.toNat
def lowI (m k : Int) : Int := outOf (lowL m k)
theorem upto_prefix (m : Int) {k : Nat} (h : k ≤ 10) : upto m k = (upto m 10).take (upto m k).length := by
  have : ∃ r, upto m 10 = upto m k ++ r := by
    refine ⟨((List.finRange 10).drop k).filter fun i => hasI m i.val, ?_⟩
    unfold upto
    rw [← List.filter_append, List.take_append_drop, List.take_of_length_le (by simp)]
  obtain ⟨r, hr⟩ := this
  rw [hr]; simp

end Go.Proofs.Ytngjhimhmpbofaa
