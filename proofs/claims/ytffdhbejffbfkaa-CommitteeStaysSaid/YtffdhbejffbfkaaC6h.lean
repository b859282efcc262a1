/- The committee's functions as contracts, fourth part: comparison of rows, Select. -/
import Derived.Test.YtffdhbejffbfkaaC6g
set_option linter.unusedSimpArgs false
set_option linter.unusedVariables false
set_option maxRecDepth 100000
namespace Go.Proofs.Ytffdhbejffbfkaa
open Go Go.PS
theorem sim21 (l l' : List Int) (hlen : l.length ≤ 10) : Sim Try.prog 21 [.one (.sl .plain 1 (row l)), .one (.sl .plain 1 (row l'))] (.one (.bool (l == l'))) := by
  refine Sim.of_code Try.func21 (by unfold Try.f21; rfl) Try.ntmps21 Try.call21 [] (by simp) (by rfl) (PW.sw (G := book0) mixed _ _ _ ?_)
  simp only [I, ↓ff_imp, ↓tf_imp, PW, regK, drawK, stepK, quietK, callK, idleK, callOf, argsT, guardOf, pureOp, St.rd, St.eval, rdg, List.getD, List.getElem?_cons_zero, List.getElem?_cons_succ, List.cons_append, List.nil_append, List.replicate, List.length, List.getElem?_nil, Option.getD, T.ofValue, S.ofValue, St.put, List.set, binT, binI, thenQ, blockQ, scopeQ, Nat.reduceSub, Nat.reduceAdd, true_and, and_true, if_true, if_false, true_or, Option.bind, List.getElem?_toArray, eqOp, PS.Ends, resOf, packT, St.out, T.sub, S.sub, tagSub, LeT_bool, LeT_int, beq_true, beq_false, imp_self, implies_true, Bool.and_true, Bool.true_and, Bool.and_false, Bool.false_and, T.lend, S.lend, Tag.lend, T.back, S.back, T.made, S.made, Tag.made, St.ret, St.kills, List.map_nil, List.foldl_nil, List.foldl_cons, Bool.false_eq_true, false_imp_iff, true_imp_iff, forall_const, Bool.true_eq_false, minI, maxI, effOp, appendOp, fillT, chunks, T.cells, S.plain, S.lay, St.kill, T.cut, S.cut, S.names, S.reads, Tag.names, mcut, mdrop, mget, mset, List.map_cons, St.box, St.store, St.wipe, setAt, bound, lenS, loadT, List.headD_cons, List.take_succ_cons, List.take_zero, List.take_nil, List.drop_nil, List.drop_zero, List.drop_succ_cons, Tag.sub, List.all_cons, List.all_nil, Nat.reduceLeDiff, Nat.reduceMul, Nat.reduceBEq, Nat.reduceEqDiff, Nat.reduceLT, T.madeAll, T.backAll, nm, List.contains_cons, List.contains_nil, backTag, Int.toNat_natCast, Option.map_some, beq_self_eq_true, Bool.or_true, Bool.true_or, Bool.or_false, Bool.false_or, or_true, or_false, false_or, reduceCtorEq, and_self, and_false, false_and, not_true_eq_false, not_false_eq_true, Bool.not_true, Bool.not_false, td3, td25, td28, td34, td41, td4, tz3, Try.results21, row_length]
  by_cases hne : l.length = l'.length
  · have h1 : ((l.length : Int) != (l'.length : Int)) = false := by simp [hne]
    simp only [h1, Bool.false_eq_true, false_imp_iff, true_imp_iff, true_and]
    refine SW.loop (fun j => ⟨[.one (.sl .plain 1 (row l)), .one (.sl .plain 1 (row l')), .un, .un, .un, I (j : Nat)] ++ List.replicate 20 .un, []⟩) (fun j => j ≤ l.length ∧ l.take j = l'.take j) (fun j => l.length - j) 0 ?_ (by simp) ?_
    · refine Le.mk ?_ (LeM.nil _)
      simp only [I, LeTs, LeT.un, LeT.refl, true_and, and_true, and_self, ↓ff_imp, ↓tf_imp, PW, regK, drawK, stepK, quietK, callK, idleK, callOf, argsT, guardOf, pureOp, St.rd, St.eval, rdg, List.getD, List.getElem?_cons_zero, List.getElem?_cons_succ, List.cons_append, List.nil_append, List.replicate, List.length, List.getElem?_nil, Option.getD, T.ofValue, S.ofValue, St.put, List.set, binT, binI, thenQ, blockQ, scopeQ, Nat.reduceSub, Nat.reduceAdd, true_and, and_true, if_true, if_false, true_or, Option.bind, List.getElem?_toArray, eqOp, PS.Ends, resOf, packT, St.out, T.sub, S.sub, tagSub, LeT_bool, LeT_int, beq_true, beq_false, imp_self, implies_true, Bool.and_true, Bool.true_and, Bool.and_false, Bool.false_and, T.lend, S.lend, Tag.lend, T.back, S.back, T.made, S.made, Tag.made, St.ret, St.kills, List.map_nil, List.foldl_nil, List.foldl_cons, Bool.false_eq_true, false_imp_iff, true_imp_iff, forall_const, Bool.true_eq_false, minI, maxI, effOp, appendOp, fillT, chunks, T.cells, S.plain, S.lay, St.kill, T.cut, S.cut, S.names, S.reads, Tag.names, mcut, mdrop, mget, mset, List.map_cons, St.box, St.store, St.wipe, setAt, bound, lenS, loadT, List.headD_cons, List.take_succ_cons, List.take_zero, List.take_nil, List.drop_nil, List.drop_zero, List.drop_succ_cons, Tag.sub, List.all_cons, List.all_nil, Nat.reduceLeDiff, Nat.reduceMul, Nat.reduceBEq, Nat.reduceEqDiff, Nat.reduceLT, T.madeAll, T.backAll, nm, List.contains_cons, List.contains_nil, backTag, Int.toNat_natCast, Option.map_some, beq_self_eq_true, Bool.or_true, Bool.true_or, Bool.or_false, Bool.false_or, or_true, or_false, false_or, reduceCtorEq, and_self, and_false, false_and, not_true_eq_false, not_false_eq_true, Bool.not_true, Bool.not_false]
      exact rfl
    · intro j ⟨hj, hjk⟩
      have hw : IntKind.i64.wrap ((j : Int) + 1) = ((j + 1 : Nat) : Int) := by rw [wrap_id] <;> (try unfold i64ok) <;> omega
      refine PW.sw (G := book0) mixed _ _ _ ?_
      by_cases hjl : j < l.length
      · have ht : decide ((j : Int) < (l.length : Int)) = true := by simp; omega
        have hat := row_at hjl
        have hjl' : j < l'.length := by omega
        have hat' := row_at hjl'
        have hn : List.take (j + 1) l = List.take (j + 1) l' ↔ l[j] = l'[j] := by
          rw [List.take_add_one, List.take_add_one, hjk, List.getElem?_eq_getElem hjl, List.getElem?_eq_getElem hjl']
          simp only [Option.toList_some, List.append_cancel_left_eq, List.cons.injEq, and_true]
        simp only [I, ↓ff_imp, ↓tf_imp, PW, regK, drawK, stepK, quietK, callK, idleK, callOf, argsT, guardOf, pureOp, St.rd, St.eval, rdg, List.getD, List.getElem?_cons_zero, List.getElem?_cons_succ, List.cons_append, List.nil_append, List.replicate, List.length, List.getElem?_nil, Option.getD, T.ofValue, S.ofValue, St.put, List.set, binT, binI, thenQ, blockQ, scopeQ, Nat.reduceSub, Nat.reduceAdd, true_and, and_true, if_true, if_false, true_or, Option.bind, List.getElem?_toArray, eqOp, PS.Ends, resOf, packT, St.out, T.sub, S.sub, tagSub, LeT_bool, LeT_int, beq_true, beq_false, imp_self, implies_true, Bool.and_true, Bool.true_and, Bool.and_false, Bool.false_and, T.lend, S.lend, Tag.lend, T.back, S.back, T.made, S.made, Tag.made, St.ret, St.kills, List.map_nil, List.foldl_nil, List.foldl_cons, Bool.false_eq_true, false_imp_iff, true_imp_iff, forall_const, Bool.true_eq_false, minI, maxI, effOp, appendOp, fillT, chunks, T.cells, S.plain, S.lay, St.kill, T.cut, S.cut, S.names, S.reads, Tag.names, mcut, mdrop, mget, mset, List.map_cons, St.box, St.store, St.wipe, setAt, bound, lenS, loadT, List.headD_cons, List.take_succ_cons, List.take_zero, List.take_nil, List.drop_nil, List.drop_zero, List.drop_succ_cons, Tag.sub, List.all_cons, List.all_nil, Nat.reduceLeDiff, Nat.reduceMul, Nat.reduceBEq, Nat.reduceEqDiff, Nat.reduceLT, T.madeAll, T.backAll, nm, List.contains_cons, List.contains_nil, backTag, Int.toNat_natCast, Option.map_some, beq_self_eq_true, Bool.or_true, Bool.true_or, Bool.or_false, Bool.false_or, or_true, or_false, false_or, reduceCtorEq, and_self, and_false, false_and, not_true_eq_false, not_false_eq_true, Bool.not_true, Bool.not_false, td3, td25, td28, td34, td41, td4, tz3, tzz3, Try.results21, row_length, hat, hat', hw, ht]
        refine ⟨by rfl, ⟨by omega, by omega⟩, ⟨by omega, by omega⟩, fun h => ?_, fun h => ⟨j + 1, Le.mk ?_ (LeM.nil _), ⟨by omega, ?_⟩, by omega⟩⟩
        · symm
          rw [beq_eq_false_iff_ne]
          intro e
          subst e
          simp at h
        · simp only [LeTs, LeT.un, LeT.refl, true_and, and_true, and_self]
        · rw [hn]; simpa using h
      · have ht : decide ((j : Int) < (l.length : Int)) = false := by simp; omega
        simp only [I, ↓ff_imp, ↓tf_imp, PW, regK, drawK, stepK, quietK, callK, idleK, callOf, argsT, guardOf, pureOp, St.rd, St.eval, rdg, List.getD, List.getElem?_cons_zero, List.getElem?_cons_succ, List.cons_append, List.nil_append, List.replicate, List.length, List.getElem?_nil, Option.getD, T.ofValue, S.ofValue, St.put, List.set, binT, binI, thenQ, blockQ, scopeQ, Nat.reduceSub, Nat.reduceAdd, true_and, and_true, if_true, if_false, true_or, Option.bind, List.getElem?_toArray, eqOp, PS.Ends, resOf, packT, St.out, T.sub, S.sub, tagSub, LeT_bool, LeT_int, beq_true, beq_false, imp_self, implies_true, Bool.and_true, Bool.true_and, Bool.and_false, Bool.false_and, T.lend, S.lend, Tag.lend, T.back, S.back, T.made, S.made, Tag.made, St.ret, St.kills, List.map_nil, List.foldl_nil, List.foldl_cons, Bool.false_eq_true, false_imp_iff, true_imp_iff, forall_const, Bool.true_eq_false, minI, maxI, effOp, appendOp, fillT, chunks, T.cells, S.plain, S.lay, St.kill, T.cut, S.cut, S.names, S.reads, Tag.names, mcut, mdrop, mget, mset, List.map_cons, St.box, St.store, St.wipe, setAt, bound, lenS, loadT, List.headD_cons, List.take_succ_cons, List.take_zero, List.take_nil, List.drop_nil, List.drop_zero, List.drop_succ_cons, Tag.sub, List.all_cons, List.all_nil, Nat.reduceLeDiff, Nat.reduceMul, Nat.reduceBEq, Nat.reduceEqDiff, Nat.reduceLT, T.madeAll, T.backAll, nm, List.contains_cons, List.contains_nil, backTag, Int.toNat_natCast, Option.map_some, beq_self_eq_true, Bool.or_true, Bool.true_or, Bool.or_false, Bool.false_or, or_true, or_false, false_or, reduceCtorEq, and_self, and_false, false_and, not_true_eq_false, not_false_eq_true, Bool.not_true, Bool.not_false, td3, td25, td28, td34, td41, td4, tz3, tzz3, Try.results21, row_length, hw, ht]
        rw [List.take_of_length_le (by omega), List.take_of_length_le (by omega)] at hjk
        simp [hjk]
  · have h1 : ((l.length : Int) != (l'.length : Int)) = true := by simp; omega
    simp only [h1, Bool.true_eq_false, false_imp_iff, true_imp_iff, and_true]
    symm
    rw [beq_eq_false_iff_ne]
    intro e
    exact hne (by rw [e])

/-! ### Bits -/
theorem lt10 {i : Nat} (h : i < 10) : i = 0 ∨ i = 1 ∨ i = 2 ∨ i = 3 ∨ i = 4 ∨ i = 5 ∨ i = 6 ∨ i = 7 ∨ i = 8 ∨ i = 9 := by omega
theorem hasI_nat (x : Int) (i : Nat) (hi : i < 10) : hasI x i = bitI x i := by
  unfold hasI
  have h1 : (0 : Int) ≤ i := by omega
  have h2 : (i : Int) < 10 := by omega
  simp [h1, h2]
theorem bit_bv (x : Int) (i : Nat) (hi : i < 10) : (BitVec.ofInt 64 x).getLsbD i = bitI x i := by
  rw [← BitVec.testBit_toNat, BitVec.toNat_ofInt, Nat.testBit_eq_decide_div_mod_eq]
  unfold bitI
  rw [Bool.eq_iff_iff, decide_eq_true_eq, beq_iff_eq]
  rcases lt10 hi with rfl | rfl | rfl | rfl | rfl | rfl | rfl | rfl | rfl | rfl <;> omega
theorem bitI_wrap (n : Nat) (hn : n < 18446744073709551616) (i : Nat) (hi : i < 10) : bitI (IntKind.i64.wrap n) i = n.testBit i := by
  rw [wrap_e, Nat.testBit_eq_decide_div_mod_eq]
  unfold bitI
  rw [Bool.eq_iff_iff, decide_eq_true_eq, beq_iff_eq]
  rcases lt10 hi with rfl | rfl | rfl | rfl | rfl | rfl | rfl | rfl | rfl | rfl <;> omega
theorem bitI_bits (b : BitVec 64) (i : Nat) (hi : i < 10) : bitI (IntKind.i64.wrap (b.toNat : Int)) i = b.getLsbD i := by
  rw [bitI_wrap _ b.isLt i hi, BitVec.testBit_toNat]
theorem hasI_or (x y : Int) (i : Nat) (hi : i < 10) : hasI (bitsI .or .i64 x y) i = (hasI x i || hasI y i) := by
  rw [hasI_nat _ _ hi, hasI_nat _ _ hi, hasI_nat _ _ hi]
  show bitI (IntKind.i64.wrap ((BitVec.ofInt 64 x ||| BitVec.ofInt 64 y).toNat : Int)) i = _
  rw [bitI_bits _ _ hi, BitVec.getLsbD_or, bit_bv _ _ hi, bit_bv _ _ hi]
theorem hasI_and (x y : Int) (i : Nat) (hi : i < 10) : hasI (bitsI .and .i64 x y) i = (hasI x i && hasI y i) := by
  rw [hasI_nat _ _ hi, hasI_nat _ _ hi, hasI_nat _ _ hi]
  show bitI (IntKind.i64.wrap ((BitVec.ofInt 64 x &&& BitVec.ofInt 64 y).toNat : Int)) i = _
  rw [bitI_bits _ _ hi, BitVec.getLsbD_and, bit_bv _ _ hi, bit_bv _ _ hi]
theorem hasI_andNot (x y : Int) (i : Nat) (hi : i < 10) : hasI (bitsI .andNot .i64 x y) i = (hasI x i && !hasI y i) := by
  rw [hasI_nat _ _ hi, hasI_nat _ _ hi, hasI_nat _ _ hi]
  show bitI (IntKind.i64.wrap ((BitVec.ofInt 64 x &&& ~~~BitVec.ofInt 64 y).toNat : Int)) i = _
  rw [bitI_bits _ _ hi, BitVec.getLsbD_and, BitVec.getLsbD_not, bit_bv _ _ hi, bit_bv _ _ hi]
  have : i < 64 := by omega
  simp [this]
/-- A mask below 1024 with no member is 0. -/
theorem zero_of (x : Int) (h0 : 0 ≤ x) (h1 : x < 1024) (h : ∀ i : Fin 10, hasI x i.val = false) : x = 0 := by
  have e : x = ((x.toNat : Nat) : Int) := by omega
  have : x.toNat = 0 := by
    apply Nat.eq_of_testBit_eq
    intro i
    rw [Nat.zero_testBit]
    by_cases hi : i < 10
    · have := h ⟨i, hi⟩
      rw [hasI_nat _ _ hi, e] at this
      rw [Nat.testBit_eq_decide_div_mod_eq]
      unfold bitI at this
      rw [decide_eq_false_iff_not]
      rw [beq_eq_false_iff_ne] at this
      intro h2
      apply this
      have : ((x.toNat : Nat) : Int) / 2 ^ i = ((x.toNat / 2 ^ i : Nat) : Int) := by simp
      rw [this]; omega
    · exact Nat.testBit_lt_two_pow (Nat.lt_of_lt_of_le (show x.toNat < 2 ^ 10 by omega) (Nat.pow_le_pow_right (by decide) (by omega)))
  omega
theorem and_range (x y : Int) (h0 : 0 ≤ x) (h1 : x < 1024) : 0 ≤ bitsI .and .i64 x y ∧ bitsI .and .i64 x y < 1024 := by
  have h : (BitVec.ofInt 64 x &&& BitVec.ofInt 64 y).toNat < 1024 := by
    rw [BitVec.toNat_and]
    refine Nat.lt_of_le_of_lt Nat.and_le_left ?_
    rw [BitVec.toNat_ofInt]; omega
  show 0 ≤ IntKind.i64.wrap ((BitVec.ofInt 64 x &&& BitVec.ofInt 64 y).toNat : Int) ∧ IntKind.i64.wrap ((BitVec.ofInt 64 x &&& BitVec.ofInt 64 y).toNat : Int) < 1024
  rw [wrap_id (by unfold i64ok; omega)]
  omega
theorem andNot_range (x y : Int) (h0 : 0 ≤ x) (h1 : x < 1024) : 0 ≤ bitsI .andNot .i64 x y ∧ bitsI .andNot .i64 x y < 1024 := by
  have h : (BitVec.ofInt 64 x &&& ~~~BitVec.ofInt 64 y).toNat < 1024 := by
    rw [BitVec.toNat_and]
    refine Nat.lt_of_le_of_lt Nat.and_le_left ?_
    rw [BitVec.toNat_ofInt]; omega
  show 0 ≤ IntKind.i64.wrap ((BitVec.ofInt 64 x &&& ~~~BitVec.ofInt 64 y).toNat : Int) ∧ IntKind.i64.wrap ((BitVec.ofInt 64 x &&& ~~~BitVec.ofInt 64 y).toNat : Int) < 1024
  rw [wrap_id (by unfold i64ok; omega)]
  omega
theorem out_range (l : List (Fin 10)) : 0 ≤ outOf l ∧ outOf l < 1024 := by
  have := maskN_lt l
  unfold outOf; omega
theorem maskN_bit (l : List (Fin 10)) (i : Fin 10) : (maskN l).testBit i.val = l.contains i := by
  have : ∀ (l : List (Fin 10)) (o : Nat), (l.foldl (fun o i => o ||| 2 ^ i.val) o).testBit i.val = (o.testBit i.val || l.contains i) := by
    intro l
    induction l with
    | nil => intro o; simp
    | cons x r ih =>
      intro o
      rw [List.foldl_cons, ih, Nat.testBit_or, Nat.testBit_two_pow, List.contains_cons, Bool.or_assoc]
      congr 2
      rw [Bool.eq_iff_iff, decide_eq_true_eq, beq_iff_eq, Fin.ext_iff]
      exact eq_comm
  rw [maskN, this]; simp
theorem hasI_out (l : List (Fin 10)) (i : Fin 10) : hasI (outOf l) i.val = l.contains i := by
  rw [hasI_nat _ _ i.isLt, ← maskN_bit]
  unfold outOf bitI
  rw [Nat.testBit_eq_decide_div_mod_eq, Bool.eq_iff_iff, decide_eq_true_eq, beq_iff_eq]
  have : ((maskN l : Nat) : Int) / 2 ^ i.val = ((maskN l / 2 ^ i.val : Nat) : Int) := by simp
  rw [this]; omega
theorem filter_mem_of_sublist {α : Type} [DecidableEq α] : ∀ {l L : List α}, l.Sublist L → L.Nodup → L.filter (fun i => l.contains i) = l
  | _, _, .slnil, _ => rfl
  | l, x :: L, .cons _ h, hn => by
    have hx : x ∉ l := fun hm => (List.nodup_cons.1 hn).1 (h.subset hm)
    rw [List.filter_cons_of_neg (by simpa using hx)]
    exact filter_mem_of_sublist h (List.nodup_cons.1 hn).2
  | x :: l, _ :: L, .cons_cons _ h, hn => by
    rw [List.filter_cons_of_pos (by simp)]
    congr 1
    have ih := filter_mem_of_sublist h (List.nodup_cons.1 hn).2
    refine Eq.trans (List.filter_congr fun y hy => ?_) ih
    have : y ≠ x := fun e => (List.nodup_cons.1 hn).1 (e ▸ hy)
    simp [this]
theorem nodup10 : (List.finRange 10).Nodup := by decide
theorem upto_all (m : Int) : upto m 10 = (List.finRange 10).filter fun i => hasI m i.val := by
  unfold upto
  rw [List.take_of_length_le (by simp)]
theorem upto_out {l : List (Fin 10)} (h : l.Sublist (List.finRange 10)) : upto (outOf l) 10 = l := by
  rw [upto_all]
  refine Eq.trans (List.filter_congr fun i _ => hasI_out l i) (filter_mem_of_sublist h nodup10)

/-! ### Select -/
/-- Who may be selected. -/
def candL (v g : Int) : List (Fin 10) := (List.finRange 10).filter fun i => decide ((i.val : Int) < v) && !hasI g i.val
def selL (v s g : Int) : List (Fin 10) := (candL v g).take s.toNat
def selI (v s g : Int) : Int := outOf (selL v s g)
theorem cand_sub (v g : Int) : (candL v g).Sublist (List.finRange 10) := List.filter_sublist
theorem sel_sub (v s g : Int) : (selL v s g).Sublist (List.finRange 10) := (List.take_sublist _ _).trans (cand_sub v g)
theorem mask_cand (v g : Int) : upto (bitsI .andNot .i64 (2 ^ (min 10 (max v 0)).toNat - 1) g) 10 = candL v g := by
  rw [upto_all]
  refine List.filter_congr fun i _ => ?_
  rw [hasI_andNot _ _ _ i.isLt]
  congr 1
  generalize hn : (min 10 (max v 0)).toNat = n
  have hn10 : n ≤ 10 := by omega
  have : ∀ n : Fin 11, ∀ i : Fin 10, hasI (2 ^ n.val - 1) i.val = decide (i.val < n.val) := by decide +kernel
  have h := this ⟨n, by omega⟩ i
  dsimp only at h
  rw [h, Bool.eq_iff_iff, decide_eq_true_eq, decide_eq_true_eq]
  have := i.isLt
  omega
abbrev b15 : Book Try.prog := book0.add 24 (spec2 (fun _ k => i64ok k) fun m k => I (lowI m k)) (spec2_good fun m k h => sim24 m k h)
theorem sim15 (v s g : Int) (hs : i64ok s) : Sim Try.prog 15 [I v, I s, I g] (I (selI v s g)) := by
  refine Sim.of_code Try.func15 (by unfold Try.f15; rfl) Try.ntmps15 Try.call15 [] (by simp) (by rfl) (PW.sw (G := b15) mixed _ _ _ ?_)
  simp only [I, ↓ff_imp, ↓tf_imp, PW, regK, drawK, stepK, quietK, callK, idleK, callOf, argsT, guardOf, pureOp, St.rd, St.eval, rdg, List.getD, List.getElem?_cons_zero, List.getElem?_cons_succ, List.cons_append, List.nil_append, List.replicate, List.length, List.getElem?_nil, Option.getD, T.ofValue, S.ofValue, St.put, List.set, binT, binI, thenQ, blockQ, scopeQ, Nat.reduceSub, Nat.reduceAdd, true_and, and_true, if_true, if_false, true_or, Option.bind, List.getElem?_toArray, eqOp, PS.Ends, resOf, packT, St.out, T.sub, S.sub, tagSub, LeT_bool, LeT_int, beq_true, beq_false, imp_self, implies_true, Bool.and_true, Bool.true_and, Bool.and_false, Bool.false_and, T.lend, S.lend, Tag.lend, T.back, S.back, T.made, S.made, Tag.made, St.ret, St.kills, List.map_nil, List.foldl_nil, List.foldl_cons, Bool.false_eq_true, false_imp_iff, true_imp_iff, forall_const, Bool.true_eq_false, minI, maxI, effOp, appendOp, fillT, chunks, T.cells, S.plain, S.lay, St.kill, T.cut, S.cut, S.names, S.reads, Tag.names, mcut, mdrop, mget, mset, List.map_cons, St.box, St.store, St.wipe, setAt, bound, lenS, loadT, List.headD_cons, List.take_succ_cons, List.take_zero, List.take_nil, List.drop_nil, List.drop_zero, List.drop_succ_cons, Tag.sub, List.all_cons, List.all_nil, Nat.reduceLeDiff, Nat.reduceMul, Nat.reduceBEq, Nat.reduceEqDiff, Nat.reduceLT, T.madeAll, T.backAll, nm, List.contains_cons, List.contains_nil, backTag, Int.toNat_natCast, Option.map_some, beq_self_eq_true, Bool.or_true, Bool.true_or, Bool.or_false, Bool.false_or, or_true, or_false, false_or, reduceCtorEq, and_self, and_false, false_and, not_true_eq_false, not_false_eq_true, Bool.not_true, Bool.not_false, td3, td25, td28, td34, td41, td4, tz3, Try.results15, add_spec, spec2]
  have e1 : (if (10 : Int) < if (0 : Int) > v then 0 else v then 10 else if (0 : Int) > v then 0 else v) = min 10 (max v 0) := by
    split <;> split <;> omega
  rw [e1]
  have hc := mask_cand v g
  generalize hn : (min 10 (max v 0)).toNat = n at hc
  have e2 : min n IntKind.i64.bits = n := by simp only [IntKind.bits]; omega
  have e3 : (1 : Int) * 2 ^ n = ((2 ^ n : Nat) : Int) := by simp
  have e4 : (2 : Int) ^ n = ((2 ^ n : Nat) : Int) := by simp
  have hp : (2 : Nat) ^ n ≤ 1024 := (Nat.pow_le_pow_right (by decide) (show n ≤ 10 by omega) : (2 : Nat) ^ n ≤ 2 ^ 10)
  have hp0 : 0 < (2 : Nat) ^ n := Nat.pow_pos (by decide)
  refine ⟨by omega, hs, ?_⟩
  rw [e2, e3]
  rw [e4] at hc
  generalize (2 : Nat) ^ n = y at *
  have w1 : IntKind.i64.wrap (y : Int) = y := wrap_id (by unfold i64ok; omega)
  have w2 : IntKind.i64.wrap ((y : Int) - 1) = y - 1 := wrap_id (by unfold i64ok; omega)
  rw [w1, w2]
  unfold lowI lowL selI selL
  rw [hc]
def candK (g : Int) (k : Nat) : List (Fin 10) := ((List.finRange 10).take k).filter fun i => !hasI g i.val
theorem candK_step (g : Int) (k : Nat) (h : k < 10) : candK g (k + 1) = if hasI g k then candK g k else candK g k ++ [⟨k, h⟩] := by
  unfold candK
  have ht : (List.finRange 10).take (k + 1) = (List.finRange 10).take k ++ [⟨k, h⟩] := by
    rw [List.take_add_one, List.getElem?_eq_getElem (by simpa using h)]
    simp
  rw [ht, List.filter_append]
  by_cases hh : hasI g k = true
  · simp [hh]
  · simp [hh]
theorem candK_sub (g : Int) (k : Nat) : (candK g k).Sublist (List.finRange 10) := List.filter_sublist.trans (List.take_sublist _ _)
theorem candK_end (v g : Int) (k : Nat) (hk : k ≤ 10) (h1 : k = 0 ∨ (k : Int) ≤ v) (h2 : ¬ (k < 10 ∧ (k : Int) < v)) : candK g k = candL v g := by
  have ht : ∀ k : Fin 11, (List.finRange 10).take k.val = (List.finRange 10).filter fun i => decide (i.val < k.val) := by decide
  have := ht ⟨k, by omega⟩
  dsimp only at this
  unfold candK candL
  rw [this, List.filter_filter]
  refine List.filter_congr fun i _ => ?_
  rw [Bool.and_comm]
  congr 1
  rw [Bool.eq_iff_iff, decide_eq_true_eq, decide_eq_true_eq]
  have := i.isLt
  omega
abbrev b16 : Book Try.prog := ((book0.add 19 (spec2 (fun _ _ => True) fun m i => .one (.bool (hasI m i))) (spec2_good fun m i _ => sim19 m i)).add 20 (spec1 (fun _ => True) fun m => I (sizeI m)) (spec1_good fun m _ => sim20 m)).add 26 (spec1 (fun _ => True) fun i => I (bitN i)) (spec1_good fun i _ => sim26 i)
theorem sim16 (v s g : Int) : Sim Try.prog 16 [I v, I s, I g] (I (selI v s g)) := by
  refine Sim.of_code Try.func16 (by unfold Try.f16; rfl) Try.ntmps16 Try.call16 [] (by simp) (by rfl) (PW.sw (G := b16) mixed _ _ _ ?_)
  simp only [I, ↓ff_imp, ↓tf_imp, PW, regK, drawK, stepK, quietK, callK, idleK, callOf, argsT, guardOf, pureOp, St.rd, St.eval, rdg, List.getD, List.getElem?_cons_zero, List.getElem?_cons_succ, List.cons_append, List.nil_append, List.replicate, List.length, List.getElem?_nil, Option.getD, T.ofValue, S.ofValue, St.put, List.set, binT, binI, thenQ, blockQ, scopeQ, Nat.reduceSub, Nat.reduceAdd, true_and, and_true, if_true, if_false, true_or, Option.bind, List.getElem?_toArray, eqOp, PS.Ends, resOf, packT, St.out, T.sub, S.sub, tagSub, LeT_bool, LeT_int, beq_true, beq_false, imp_self, implies_true, Bool.and_true, Bool.true_and, Bool.and_false, Bool.false_and, T.lend, S.lend, Tag.lend, T.back, S.back, T.made, S.made, Tag.made, St.ret, St.kills, List.map_nil, List.foldl_nil, List.foldl_cons, Bool.false_eq_true, false_imp_iff, true_imp_iff, forall_const, Bool.true_eq_false, minI, maxI, effOp, appendOp, fillT, chunks, T.cells, S.plain, S.lay, St.kill, T.cut, S.cut, S.names, S.reads, Tag.names, mcut, mdrop, mget, mset, List.map_cons, St.box, St.store, St.wipe, setAt, bound, lenS, loadT, List.headD_cons, List.take_succ_cons, List.take_zero, List.take_nil, List.drop_nil, List.drop_zero, List.drop_succ_cons, Tag.sub, List.all_cons, List.all_nil, Nat.reduceLeDiff, Nat.reduceMul, Nat.reduceBEq, Nat.reduceEqDiff, Nat.reduceLT, T.madeAll, T.backAll, nm, List.contains_cons, List.contains_nil, backTag, Int.toNat_natCast, Option.map_some, beq_self_eq_true, Bool.or_true, Bool.true_or, Bool.or_false, Bool.false_or, or_true, or_false, false_or, reduceCtorEq, and_self, and_false, false_and, not_true_eq_false, not_false_eq_true, Bool.not_true, Bool.not_false, td3, td25, td28, td34, td41, td4, tz3, Try.results16, add_spec, spec1, spec2]
  refine SW.loop (fun k => ⟨[I v, I s, I g, .un, .un, .un, I 0, I (outOf ((candK g k).take s.toNat)), I (k : Nat)] ++ List.replicate 24 .un, []⟩) (fun k => k ≤ 10 ∧ (k = 0 ∨ (k : Int) ≤ v)) (fun k => 10 - k) 0 ?_ (by omega) ?_
  · refine Le.mk ?_ (LeM.nil _)
    simp only [I, LeTs, LeT.un, LeT.refl, true_and, and_true, and_self, ↓ff_imp, ↓tf_imp, PW, regK, drawK, stepK, quietK, callK, idleK, callOf, argsT, guardOf, pureOp, St.rd, St.eval, rdg, List.getD, List.getElem?_cons_zero, List.getElem?_cons_succ, List.cons_append, List.nil_append, List.replicate, List.length, List.getElem?_nil, Option.getD, T.ofValue, S.ofValue, St.put, List.set, binT, binI, thenQ, blockQ, scopeQ, Nat.reduceSub, Nat.reduceAdd, true_and, and_true, if_true, if_false, true_or, Option.bind, List.getElem?_toArray, eqOp, PS.Ends, resOf, packT, St.out, T.sub, S.sub, tagSub, LeT_bool, LeT_int, beq_true, beq_false, imp_self, implies_true, Bool.and_true, Bool.true_and, Bool.and_false, Bool.false_and, T.lend, S.lend, Tag.lend, T.back, S.back, T.made, S.made, Tag.made, St.ret, St.kills, List.map_nil, List.foldl_nil, List.foldl_cons, Bool.false_eq_true, false_imp_iff, true_imp_iff, forall_const, Bool.true_eq_false, minI, maxI, effOp, appendOp, fillT, chunks, T.cells, S.plain, S.lay, St.kill, T.cut, S.cut, S.names, S.reads, Tag.names, mcut, mdrop, mget, mset, List.map_cons, St.box, St.store, St.wipe, setAt, bound, lenS, loadT, List.headD_cons, List.take_succ_cons, List.take_zero, List.take_nil, List.drop_nil, List.drop_zero, List.drop_succ_cons, Tag.sub, List.all_cons, List.all_nil, Nat.reduceLeDiff, Nat.reduceMul, Nat.reduceBEq, Nat.reduceEqDiff, Nat.reduceLT, T.madeAll, T.backAll, nm, List.contains_cons, List.contains_nil, backTag, Int.toNat_natCast, Option.map_some, beq_self_eq_true, Bool.or_true, Bool.true_or, Bool.or_false, Bool.false_or, or_true, or_false, false_or, reduceCtorEq, and_self, and_false, false_and, not_true_eq_false, not_false_eq_true, Bool.not_true, Bool.not_false]
    refine ⟨?_, rfl⟩
    simp [candK, outOf, maskN]
  · intro k ⟨hk, hkv⟩
    have hw : IntKind.i64.wrap ((k : Int) + 1) = ((k + 1 : Nat) : Int) := by rw [wrap_id] <;> (try unfold i64ok) <;> omega
    refine PW.sw (G := b16) mixed _ _ _ ?_
    simp only [I, ↓ff_imp, ↓tf_imp, PW, regK, drawK, stepK, quietK, callK, idleK, callOf, argsT, guardOf, pureOp, St.rd, St.eval, rdg, List.getD, List.getElem?_cons_zero, List.getElem?_cons_succ, List.cons_append, List.nil_append, List.replicate, List.length, List.getElem?_nil, Option.getD, T.ofValue, S.ofValue, St.put, List.set, binT, binI, thenQ, blockQ, scopeQ, Nat.reduceSub, Nat.reduceAdd, true_and, and_true, if_true, if_false, true_or, Option.bind, List.getElem?_toArray, eqOp, PS.Ends, resOf, packT, St.out, T.sub, S.sub, tagSub, LeT_bool, LeT_int, beq_true, beq_false, imp_self, implies_true, Bool.and_true, Bool.true_and, Bool.and_false, Bool.false_and, T.lend, S.lend, Tag.lend, T.back, S.back, T.made, S.made, Tag.made, St.ret, St.kills, List.map_nil, List.foldl_nil, List.foldl_cons, Bool.false_eq_true, false_imp_iff, true_imp_iff, forall_const, Bool.true_eq_false, minI, maxI, effOp, appendOp, fillT, chunks, T.cells, S.plain, S.lay, St.kill, T.cut, S.cut, S.names, S.reads, Tag.names, mcut, mdrop, mget, mset, List.map_cons, St.box, St.store, St.wipe, setAt, bound, lenS, loadT, List.headD_cons, List.take_succ_cons, List.take_zero, List.take_nil, List.drop_nil, List.drop_zero, List.drop_succ_cons, Tag.sub, List.all_cons, List.all_nil, Nat.reduceLeDiff, Nat.reduceMul, Nat.reduceBEq, Nat.reduceEqDiff, Nat.reduceLT, T.madeAll, T.backAll, nm, List.contains_cons, List.contains_nil, backTag, Int.toNat_natCast, Option.map_some, beq_self_eq_true, Bool.or_true, Bool.true_or, Bool.or_false, Bool.false_or, or_true, or_false, false_or, reduceCtorEq, and_self, and_false, false_and, not_true_eq_false, not_false_eq_true, Bool.not_true, Bool.not_false, td3, td25, td28, td34, td41, td4, tz3, tzz3, Try.results16, add_spec, spec1, spec2, hw]
    have hcl : (candK g k).length ≤ 10 := by have := (candK_sub g k).length_le; simpa using this
    have hsz : sizeI (outOf ((candK g k).take s.toNat)) = (min s.toNat (candK g k).length : Nat) := by
      unfold sizeI
      rw [upto_out ((List.take_sublist _ _).trans (candK_sub g k)), List.length_take]
    simp only [hsz]
    refine ⟨fun h => ?_, fun h => ?_⟩
    · have hkv' : (k : Int) < v := by
        by_cases h1 : (k : Int) < v
        · exact h1
        · simp [h1] at h
      have hk10 : k < 10 := by
        by_cases h1 : (k : Int) < 10
        · omega
        · simp [h1] at h
      refine ⟨fun h2 => ⟨k + 1, Le.mk ?_ (LeM.nil _), ⟨by omega, .inr (by omega)⟩, by omega⟩, fun h2 => ⟨k + 1, Le.mk ?_ (LeM.nil _), ⟨by omega, .inr (by omega)⟩, by omega⟩⟩
      · have hh : hasI g k = false := by
          cases h3 : hasI g k with
          | false => rfl
          | true => simp [h3] at h2
        have hlt : (candK g k).length < s.toNat := by
          simp [hh] at h2; omega
        have e : bitsI .or .i64 (outOf ((candK g k).take s.toNat)) (bitN k) = outOf ((candK g (k + 1)).take s.toNat) := by
          have := take_out (candK g k ++ [⟨k, hk10⟩]) (candK g k).length (by simp)
          rw [List.take_of_length_le (l := candK g k ++ _) (i := (candK g k).length + 1) (by simp)] at this
          rw [candK_step g k hk10, hh]
          simp only [Bool.false_eq_true, if_false]
          rw [List.take_of_length_le (by omega), List.take_of_length_le (l := candK g k ++ _) (by simp; omega)]
          simpa using this
        simp only [LeTs, LeT.un, LeT.refl, true_and, and_true, and_self, e]
      · have e : outOf ((candK g k).take s.toNat) = outOf ((candK g (k + 1)).take s.toNat) := by
          rw [candK_step g k hk10]
          cases h3 : hasI g k with
          | true => rfl
          | false =>
            simp [h3] at h2
            simp only [Bool.false_eq_true, if_false]
            rw [List.take_append_of_le_length (by omega)]
        simp only [LeTs, LeT.un, LeT.refl, true_and, and_true, and_self, e]
    · unfold selI selL
      rw [candK_end v g k hk hkv ?_]
      rintro ⟨h1, h2⟩
      have h3 : (k : Int) < 10 := by omega
      simp [h2, h3] at h
end Go.Proofs.Ytffdhbejffbfkaa
