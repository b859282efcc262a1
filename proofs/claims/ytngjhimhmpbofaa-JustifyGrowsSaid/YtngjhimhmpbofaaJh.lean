/- The committee's functions as contracts, fourth part: comparison of rows, Select. -/
import Derived.Test.YtngjhimhmpbofaaJg
set_option linter.unusedSimpArgs false
set_option linter.unusedVariables false
set_option maxRecDepth 100000
namespace Go.Proofs.Ytngjhimhmpbofaa
open Go Go.PS
/-! ### Bits -/
theorem lt10 {i : Nat} (h : i < 10) : i = 0 ∨ i = 1 ∨ i = 2 ∨ i = 3 ∨ i = 4 ∨ i = 5 ∨ i = 6 ∨ i = 7 ∨ i = 8 ∨ i = 9 := by omega
theorem hasI_nat (x : Int) (i : Nat) (hi : i < 10) : hasI x i = bitI x i := by
  unfold hasI
  have h1 : (0 : Int) ≤ i := by omega
  have h2 : (i : Int) < 10 := by omega
  simp [h1, h2]
theorem bit_bv (x : Int) (i : Nat) (hi : i < 10) : (BitVec.ofInt 64 x).getLsbD i = bitI x i := by
  rw [← BitVec.testBit_toNat, BitVec.toNat_ofInt, Nat.testBit_eq_decide_div_mod_eq]
  unfold bitI
  rw [Bool.eq_iff_iff, decide_eq_true_eq, beq_iff_eq]
  rcases lt10 hi with rfl | rfl | rfl | rfl | rfl | rfl | rfl | rfl | rfl | rfl <;> omega
theorem bitI_wrap (n : Nat) (hn : n < 18446744073709551616) (i : Nat) (hi : i < 10) : bitI (IntKind.i64.wrap n) i = n.testBit i := by
  rw [wrap_e, Nat.testBit_eq_decide_div_mod_eq]
  unfold bitI
  rw [Bool.eq_iff_iff, decide_eq_true_eq, beq_iff_eq]
  rcases lt10 hi with rfl | rfl | rfl | rfl | rfl | rfl | rfl | rfl | rfl | rfl <;> omega
theorem bitI_bits (b : BitVec 64) (i : Nat) (hi : i < 10) : bitI (IntKind.i64.wrap (b.toNat : Int)) i = b.getLsbD i := by
  rw [bitI_wrap _ b.isLt i hi, BitVec.testBit_toNat]
theorem hasI_or (x y : Int) (i : Nat) (hi : i < 10) : hasI (bitsI .or .i64 x y) i = (hasI x i || hasI y i) := by
  rw [hasI_nat _ _ hi, hasI_nat _ _ hi, hasI_nat _ _ hi]
  show bitI (IntKind.i64.wrap ((BitVec.ofInt 64 x ||| BitVec.ofInt 64 y).toNat : Int)) i = _
  rw [bitI_bits _ _ hi, BitVec.getLsbD_or, bit_bv _ _ hi, bit_bv _ _ hi]
theorem hasI_and (x y : Int) (i : Nat) (hi : i < 10) : hasI (bitsI .and .i64 x y) i = (hasI x i && hasI y i) := by
  rw [hasI_nat _ _ hi, hasI_nat _ _ hi, hasI_nat _ _ hi]
  show bitI (IntKind.i64.wrap ((BitVec.ofInt 64 x &&& BitVec.ofInt 64 y).toNat : Int)) i = _
  rw [bitI_bits _ _ hi, BitVec.getLsbD_and, bit_bv _ _ hi, bit_bv _ _ hi]
theorem hasI_andNot (x y : Int) (i : Nat) (hi : i < 10) : hasI (bitsI .andNot .i64 x y) i = (hasI x i && !hasI y i) := by
  rw [hasI_nat _ _ hi, hasI_nat _ _ hi, hasI_nat _ _ hi]
  show bitI (IntKind.i64.wrap ((BitVec.ofInt 64 x &&& ~~~BitVec.ofInt 64 y).toNat : Int)) i = _
  rw [bitI_bits _ _ hi, BitVec.getLsbD_and, BitVec.getLsbD_not, bit_bv _ _ hi, bit_bv _ _ hi]
  have : i < 64 := by omega
  simp [this]
/-- A mask below 1024 with no member is 0. -/
theorem zero_of (x : Int) (h0 : 0 ≤ x) (h1 : x < 1024) (h : ∀ i : Fin 10, hasI x i.val = false) : x = 0 := by
  have e : x = ((x.toNat : Nat) : Int) := by omega
  have : x.toNat = 0 := by
    apply Nat.eq_of_testBit_eq
    intro i
    rw [Nat.zero_testBit]
    by_cases hi : i < 10
    · have := h ⟨i, hi⟩
      rw [hasI_nat _ _ hi, e] at this
      rw [Nat.testBit_eq_decide_div_mod_eq]
      unfold bitI at this
      rw [decide_eq_false_iff_not]
      rw [beq_eq_false_iff_ne] at this
      intro h2
      apply this
      have : ((x.toNat : Nat) : Int) / 2 ^ i = ((x.toNat / 2 ^ i : Nat) : Int) := by simp
      rw [this]; omega
    · exact Nat.testBit_lt_two_pow (Nat.lt_of_lt_of_le (show x.toNat < 2 ^ 10 by omega) (Nat.pow_le_pow_right (by decide) (by omega)))
  omega
theorem and_range (x y : Int) (h0 : 0 ≤ x) (h1 : x < 1024) : 0 ≤ bitsI .and .i64 x y ∧ bitsI .and .i64 x y < 1024 := by
  have h : (BitVec.ofInt 64 x &&& BitVec.ofInt 64 y).toNat < 1024 := by
    rw [BitVec.toNat_and]
    refine Nat.lt_of_le_of_lt Nat.and_le_left ?_
    rw [BitVec.toNat_ofInt]; omega
  show 0 ≤ IntKind.i64.wrap ((BitVec.ofInt 64 x &&& BitVec.ofInt 64 y).toNat : Int) ∧ IntKind.i64.wrap ((BitVec.ofInt 64 x &&& BitVec.ofInt 64 y).toNat : Int) < 1024
  rw [wrap_id (by unfold i64ok; omega)]
  omega
theorem andNot_range (x y : Int) (h0 : 0 ≤ x) (h1 : x < 1024) : 0 ≤ bitsI .andNot .i64 x y ∧ bitsI .andNot .i64 x y < 1024 := by
  have h : (BitVec.ofInt 64 x &&& ~~~BitVec.ofInt 64 y).toNat < 1024 := by
    rw [BitVec.toNat_and]
    refine Nat.lt_of_le_of_lt Nat.and_le_left ?_
    rw [BitVec.toNat_ofInt]; omega
  show 0 ≤ IntKind.i64.wrap ((BitVec.ofInt 64 x &&& ~~~BitVec.ofInt 64 y).toNat : Int) ∧ IntKind.i64.wrap ((BitVec.ofInt 64 x &&& ~~~BitVec.ofInt 64 y).toNat : Int) < 1024
  rw [wrap_id (by unfold i64ok; omega)]
  omega
theorem out_range (l : List (Fin 10)) : 0 ≤ outOf l ∧ outOf l < 1024 := by
  have := maskN_lt l
  unfold outOf; omega
theorem maskN_bit (l : List (Fin 10)) (i : Fin 10) : (maskN l).testBit i.val = l.contains i := by
  have : ∀ (l : List (Fin 10)) (o : Nat), (l.foldl (fun o i => o ||| 2 ^ i.val) o).testBit i.val = (o.testBit i.val || l.contains i) := by
    intro l
    induction l with
    | nil => intro o; simp
    | cons x r ih =>
      intro o
      rw [List.foldl_cons, ih, Nat.testBit_or, Nat.testBit_two_pow, List.contains_cons, Bool.or_assoc]
      congr 2
      rw [Bool.eq_iff_iff, decide_eq_true_eq, beq_iff_eq, Fin.ext_iff]
      exact eq_comm
  rw [maskN, this]; simp
theorem hasI_out (l : List (Fin 10)) (i : Fin 10) : hasI (outOf l) i.val = l.contains i := by
  rw [hasI_nat _ _ i.isLt, ← maskN_bit]
  unfold outOf bitI
  rw [Nat.testBit_eq_decide_div_mod_eq, Bool.eq_iff_iff, decide_eq_true_eq, beq_iff_eq]
  have : ((maskN l : Nat) : Int) / 2 ^ i.val = ((maskN l / 2 ^ i.val : Nat) : Int) := by simp
  rw [this]; omega
theorem filter_mem_of_sublist {α : Type} [DecidableEq α] : ∀ {l L : List α}, l.Sublist L → L.Nodup → L.filter (fun i => l.contains i) = l
  | _, _, .slnil, _ => rfl
  | l, x :: L, .cons _ h, hn => by
    have hx : x ∉ l := fun hm => (List.nodup_cons.1 hn).1 (h.subset hm)
    rw [List.filter_cons_of_neg (by simpa using hx)]
    exact filter_mem_of_sublist h (List.nodup_cons.1 hn).2
  | x :: l, _ :: L, .cons_cons _ h, hn => by
    rw [List.filter_cons_of_pos (by simp)]
    congr 1
    have ih := filter_mem_of_sublist h (List.nodup_cons.1 hn).2
    refine Eq.trans (List.filter_congr fun y hy => ?_) ih
    have : y ≠ x := fun e => (List.nodup_cons.1 hn).1 (e ▸ hy)
    simp [this]
theorem nodup10 : (List.finRange 10).Nodup := by decide
theorem upto_all (m : Int) : upto m 10 = (List.finRange 10).filter fun i => hasI m i.val := by
  unfold upto
  rw [List.take_of_length_le (by simp)]
theorem upto_out {l : List (Fin 10)} (h : l.Sublist (List.finRange 10)) : upto (outOf l) 10 = l := by
  rw [upto_all]
  refine Eq.trans (List.filter_congr fun i _ => hasI_out l i) (filter_mem_of_sublist h nodup10)

instance (n : Int) : Decidable (i64ok n) := inferInstanceAs (Decidable (_ ∧ _))
def spec3 (p : Int → Int → Int → Prop) (r : Int → Int → Int → T) : List T → Option (Prop × T)
  | [.one (.int .i64 n), .one (.int .i64 k), .one (.int .i64 j)] => some (p n k j, r n k j)
  | _ => none
theorem spec3_good {f : Nat} {p : Int → Int → Int → Prop} {r : Int → Int → Int → T} (h : ∀ n k j, p n k j → Sim Try.prog f [I n, I k, I j] (r n k j)) : ∀ args ob t, spec3 p r args = some (ob, t) → ob → Sim Try.prog f args t := by
  intro args ob t hs ho
  unfold spec3 at hs
  split at hs
  · cases hs; exact h _ _ _ ho
  · cases hs
def spec0 (r : T) : List T → Option (Prop × T)
  | [] => some (True, r)
  | _ => none
theorem spec0_good {f : Nat} {r : T} (h : Sim Try.prog f [] r) : ∀ args ob t, spec0 r args = some (ob, t) → ob → Sim Try.prog f args t := by
  intro args ob t hs ho
  unfold spec0 at hs
  split at hs
  · cases hs; exact h
  · cases hs
theorem u64_e (x : Int) : IntKind.u64.wrap x = x % 18446744073709551616 := by
  simp only [IntKind.wrap, IntKind.bits, IntKind.signed]
  have : (2 : Int) ^ 64 = 18446744073709551616 := by decide
  simp [this]
theorem meet_len (p q r : Fin 10 → Bool) : ∀ l : List (Fin 10), (∀ i, p i = true → r i = true) → (∀ i, q i = true → r i = true) →
    (l.filter p).length + (l.filter q).length ≤ (l.filter r).length + (l.filter fun i => p i && q i).length
  | [], _, _ => by simp
  | x :: l, h1, h2 => by
    have ih := meet_len p q r l h1 h2
    simp only [List.filter_cons]
    have a1 := h1 x
    have a2 := h2 x
    cases hp : p x <;> cases hq : q x <;> cases hr : r x <;> simp_all <;> omega
theorem sizeI_range (m : Int) : 0 ≤ sizeI m ∧ sizeI m ≤ 10 := by
  have := upto_length m 10
  unfold sizeI; omega
theorem size_meet (a b c : Int) : sizeI (bitsI .and .i64 a c) + sizeI (bitsI .and .i64 b c) ≤ sizeI c + sizeI (bitsI .and .i64 (bitsI .and .i64 a c) (bitsI .and .i64 b c)) := by
  unfold sizeI
  simp only [upto_all]
  have e : ((List.finRange 10).filter fun i => hasI (bitsI .and .i64 (bitsI .and .i64 a c) (bitsI .and .i64 b c)) i.val) =
      (List.finRange 10).filter fun i => hasI (bitsI .and .i64 a c) i.val && hasI (bitsI .and .i64 b c) i.val := List.filter_congr fun i _ => hasI_and _ _ _ i.isLt
  rw [e]
  have := meet_len (fun i => hasI (bitsI .and .i64 a c) i.val) (fun i => hasI (bitsI .and .i64 b c) i.val) (fun i => hasI c i.val) (List.finRange 10)
    (fun i h => by rw [hasI_and _ _ _ i.isLt] at h; simp at h; exact h.2) (fun i h => by rw [hasI_and _ _ _ i.isLt] at h; simp at h; exact h.2)
  omega
theorem sorted10 : (List.finRange 10).Pairwise (fun a b => a.val < b.val) := by decide
theorem upto_sub (m : Int) (k : Nat) : (upto m k).Sublist (List.finRange 10) := List.filter_sublist.trans (List.take_sublist _ _)
end Go.Proofs.Ytngjhimhmpbofaa
