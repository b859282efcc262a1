/- The functions of the committee that compute numbers alone: their contracts. -/
import Derived.Test.YtngjhimhmpbofaaJa
set_option linter.unusedSimpArgs false
set_option linter.unusedVariables false
set_option maxRecDepth 20000
namespace Go.Proofs.Ytngjhimhmpbofaa
open Go Go.PS
theorem fdiv_two (x : Int) (k : Nat) : x.fdiv (2 ^ k) = x / 2 ^ k := by
  rw [Int.fdiv_eq_ediv_of_nonneg]
  exact Int.le_of_lt (Int.pow_pos (by decide))
theorem sim14 (m i : Int) : Sim Try.prog 14 [.one (.int .i64 m), .one (.int .i64 i)] (.one (.bool (hasI m i))) := by
  refine Sim.of_code Try.func14 (by unfold Try.f14; rfl) Try.ntmps14 Try.call14 [] (by simp) (by rfl) (PW.sw (G := book0) mixed _ _ _ ?_)
  simp only [↓ff_imp, ↓tf_imp, PW, PW1, regK, drawK, stepK, quietK, callK, idleK, fnK, argsV, T.val?, S.val?, boundT, lendBox_fn, lendBox_int, lendBox_bool, lendBox_nilp, List.flatMap_cons, List.flatMap_nil, S.reach, S.nameL, Tag.nameL, callOf, argsT, guardOf, pureOp, St.rd, St.eval, rdg, List.getD, List.getElem?_cons_zero, List.getElem?_cons_succ, List.cons_append, List.nil_append, List.replicate, List.length, List.getElem?_nil, Option.getD, T.ofValue, S.ofValue, St.put, List.set, binT, binI, thenQ, blockQ, scopeQ, Nat.reduceSub, Nat.reduceAdd, true_and, and_true, if_true, if_false, true_or, Option.bind, List.getElem?_toArray, eqOp, PS.Ends, resOf, packT, St.out, T.sub, S.sub, tagSub, LeT_bool, LeT_int, beq_true, beq_false, imp_self, implies_true, Bool.and_true, Bool.true_and, Bool.and_false, Bool.false_and, T.lend, S.lend, Tag.lend, T.back, S.back, T.made, S.made, Tag.made, St.ret, St.kills, List.map_nil, List.foldl_nil, List.foldl_cons, Bool.false_eq_true, false_imp_iff, true_imp_iff, forall_const, Bool.true_eq_false, minI, maxI, effOp, appendOp, fillT, chunks, T.cells, S.plain, S.lay, St.kill, T.cut, cutn_un, cutn_bool, cutn_int, cutn_str, cutn_nilp, cutn_sl, cutn_el, cutn_fn, cutn_fref, cutn_ptr, cutr_un, cutr_bool, cutr_int, cutr_str, cutr_nilp, cutr_sl, cutr_el, cutr_fn, cutr_fref, cutr_ptr, Tag.names, mcut, mdrop, mget, mset, List.map_cons, St.box, St.store, St.wipe, setAt, bound, lenS, loadT, List.headD_cons, List.take_succ_cons, List.take_zero, List.take_nil, List.drop_nil, List.drop_zero, List.drop_succ_cons, Tag.sub, List.all_cons, List.all_nil, Nat.reduceLeDiff, Nat.reduceMul, Nat.reduceBEq, Nat.reduceEqDiff, Nat.reduceLT, T.madeAll, T.backAll, nm, List.contains_cons, List.contains_nil, backTag, Int.toNat_natCast, Option.map_some, beq_self_eq_true, Bool.or_true, Bool.true_or, Bool.or_false, Bool.false_or, or_true, or_false, false_or, reduceCtorEq, and_self, and_false, false_and, not_true_eq_false, not_false_eq_true, Bool.not_true, Bool.not_false, td4, Try.results14]
  have key : (if (if decide (i ≥ 0) = true then decide (i < 10) else false) = true then bitsI BinOp.and IntKind.i64 (m.fdiv (2 ^ min i.toNat IntKind.i64.bits)) 1 == 1 else false) = hasI m i := by
    unfold hasI bitI
    by_cases h0 : 0 ≤ i
    · by_cases h1 : i < 10
      · have : min i.toNat IntKind.i64.bits = i.toNat := by simp only [IntKind.bits]; omega
        simp [h0, h1, this, and_one, fdiv_two]
      · simp [h0, h1]
    · simp [h0]
  rw [key]
  simp
  omega
end Go.Proofs.Ytngjhimhmpbofaa
