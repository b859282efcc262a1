/- The committee's functions as contracts, first part. -/
import Derived.Test.YtngjhimhmpbofaaJd
set_option linter.unusedSimpArgs false
set_option linter.unusedVariables false
set_option maxRecDepth 100000
namespace Go.Proofs.Ytngjhimhmpbofaa
open Go Go.PS
def I (n : Int) : T := .one (.int .i64 n)
def row (l : List Int) : List (List S) := l.map fun x => [.int .i64 x]
def idsL (m : Int) : List Int := (upto m 10).map fun x => (x.val : Int)
theorem sim54 (m : Int) : Sim Try.prog 54 [I m] (.one (.sl (.own 0 3) 1 (row (idsL m)))) := by
  refine ⟨fun vs w => Try.call54 vs w, fun w α vals hα hargs => ?_⟩
  obtain ⟨v, vr, rfl, hv, rfl⟩ := hargs
  cases hv
  refine Calls.mono (callsIn_wide.1 (ids_in Fence.wide trivial trivial trivial trivial rfl has_in 3 (by omega) m w)) fun e w' ⟨v, he, hrow, hb⟩ => ?_
  refine ⟨v, fun x => if x = 0 then v.ownBlock else none, he, ?_, ⟨hb.os, hb.tape, hb.output, hb.size, fun b hb' _ => hb.block b hb'⟩, fun x b hx => ?_, fun x y b hx hy => ?_⟩
  · have hl : (row (idsL m)).length = (upto m 10).length := by simp [row, idsL]
    refine rep_own (n := 0) (vals := (upto m 10).map encM) ?_ (by decide) (fun b hb => by simpa using hb) fun i e he => ?_
    · rw [hl]
      refine ⟨hrow.1, hrow.2.imp id ?_⟩
      rintro ⟨g, cap, cur, h1, h2, h3⟩
      exact ⟨g, cap, cur, h1, Nat.zero_le _, h3⟩
    · simp only [row, idsL, List.map_map, List.getElem?_map, Option.map_eq_some_iff] at he
      obtain ⟨x, hx, rfl⟩ := he
      refine ⟨rfl, fun j s hs => ?_⟩
      cases j with
      | zero => cases hs; exact ⟨encM x, by simp [hx], rfl⟩
      | succ j => simp at hs
  · split at hx
    · exact hrow.lt b hx
    · cases hx
  · split at hx <;> split at hy
    · omega
    · cases hy
    · cases hx
    · cases hx
/-! ### Numbers -/
def quorI (n : Int) : Int := if n < 1 then 0 else n - (n - 1) / 3
def thirdI (n : Int) : Int := if n < 1 then 0 else (n - 1) / 3 + 1
theorem wrap_e (n : Int) : IntKind.i64.wrap n = (n + 9223372036854775808) % 18446744073709551616 - 9223372036854775808 := by
  simp only [IntKind.wrap, IntKind.bits, IntKind.signed]
  have : (2 : Int) ^ 64 = 18446744073709551616 := by decide
  have : (2 : Int) ^ (64 - 1) = 9223372036854775808 := by decide
  simp only [*, Bool.true_and, decide_eq_true_eq]
  split <;> omega
theorem tdiv_e (x y : Int) (h : 0 ≤ x) : x.tdiv y = x / y := Int.tdiv_eq_ediv_of_nonneg h
theorem sim15 (n : Int) (hn : i64ok n) : Sim Try.prog 15 [I n] (I (quorI n)) := by
  refine Sim.of_code Try.func15 (by unfold Try.f15; rfl) Try.ntmps15 Try.call15 [] (by simp) (by rfl) (PW.sw (G := book0) mixed _ _ _ ?_)
  simp only [I, ↓ff_imp, ↓tf_imp, PW, PW1, regK, drawK, stepK, quietK, callK, idleK, fnK, argsV, T.val?, S.val?, boundT, lendBox_fn, lendBox_int, lendBox_bool, lendBox_nilp, List.flatMap_cons, List.flatMap_nil, S.reach, S.nameL, Tag.nameL, callOf, argsT, guardOf, pureOp, St.rd, St.eval, rdg, List.getD, List.getElem?_cons_zero, List.getElem?_cons_succ, List.cons_append, List.nil_append, List.replicate, List.length, List.getElem?_nil, Option.getD, T.ofValue, S.ofValue, St.put, List.set, binT, binI, thenQ, blockQ, scopeQ, Nat.reduceSub, Nat.reduceAdd, true_and, and_true, if_true, if_false, true_or, Option.bind, List.getElem?_toArray, eqOp, PS.Ends, resOf, packT, St.out, T.sub, S.sub, tagSub, LeT_bool, LeT_int, beq_true, beq_false, imp_self, implies_true, Bool.and_true, Bool.true_and, Bool.and_false, Bool.false_and, T.lend, S.lend, Tag.lend, T.back, S.back, T.made, S.made, Tag.made, St.ret, St.kills, List.map_nil, List.foldl_nil, List.foldl_cons, Bool.false_eq_true, false_imp_iff, true_imp_iff, forall_const, Bool.true_eq_false, minI, maxI, effOp, appendOp, fillT, chunks, T.cells, S.plain, S.lay, St.kill, T.cut, cutn_un, cutn_bool, cutn_int, cutn_str, cutn_nilp, cutn_sl, cutn_el, cutn_fn, cutn_fref, cutn_ptr, cutr_un, cutr_bool, cutr_int, cutr_str, cutr_nilp, cutr_sl, cutr_el, cutr_fn, cutr_fref, cutr_ptr, Tag.names, mcut, mdrop, mget, mset, List.map_cons, St.box, St.store, St.wipe, setAt, bound, lenS, loadT, List.headD_cons, List.take_succ_cons, List.take_zero, List.take_nil, List.drop_nil, List.drop_zero, List.drop_succ_cons, Tag.sub, List.all_cons, List.all_nil, Nat.reduceLeDiff, Nat.reduceMul, Nat.reduceBEq, Nat.reduceEqDiff, Nat.reduceLT, T.madeAll, T.backAll, nm, List.contains_cons, List.contains_nil, backTag, Int.toNat_natCast, Option.map_some, beq_self_eq_true, Bool.or_true, Bool.true_or, Bool.or_false, Bool.false_or, or_true, or_false, false_or, reduceCtorEq, and_self, and_false, false_and, not_true_eq_false, not_false_eq_true, Bool.not_true, Bool.not_false, td3, td4, Try.results15]
  unfold i64ok at hn
  unfold quorI
  refine ⟨fun h => ?_, fun h => ⟨by decide, ?_⟩⟩
  · simp at h; simp [h]
  · simp only [decide_eq_false_iff_not] at h
    rw [if_neg h, wrap_e (n - 1), tdiv_e _ _ (by omega), wrap_e, wrap_e]
    omega
theorem sim56 (n : Int) (hn : i64ok n) : Sim Try.prog 56 [I n] (I (quorI n)) := by
  refine Sim.of_code Try.func56 (by unfold Try.f56; rfl) Try.ntmps56 Try.call56 [] (by simp) (by rfl) (PW.sw (G := book0) mixed _ _ _ ?_)
  simp only [I, ↓ff_imp, ↓tf_imp, PW, PW1, regK, drawK, stepK, quietK, callK, idleK, fnK, argsV, T.val?, S.val?, boundT, lendBox_fn, lendBox_int, lendBox_bool, lendBox_nilp, List.flatMap_cons, List.flatMap_nil, S.reach, S.nameL, Tag.nameL, callOf, argsT, guardOf, pureOp, St.rd, St.eval, rdg, List.getD, List.getElem?_cons_zero, List.getElem?_cons_succ, List.cons_append, List.nil_append, List.replicate, List.length, List.getElem?_nil, Option.getD, T.ofValue, S.ofValue, St.put, List.set, binT, binI, thenQ, blockQ, scopeQ, Nat.reduceSub, Nat.reduceAdd, true_and, and_true, if_true, if_false, true_or, Option.bind, List.getElem?_toArray, eqOp, PS.Ends, resOf, packT, St.out, T.sub, S.sub, tagSub, LeT_bool, LeT_int, beq_true, beq_false, imp_self, implies_true, Bool.and_true, Bool.true_and, Bool.and_false, Bool.false_and, T.lend, S.lend, Tag.lend, T.back, S.back, T.made, S.made, Tag.made, St.ret, St.kills, List.map_nil, List.foldl_nil, List.foldl_cons, Bool.false_eq_true, false_imp_iff, true_imp_iff, forall_const, Bool.true_eq_false, minI, maxI, effOp, appendOp, fillT, chunks, T.cells, S.plain, S.lay, St.kill, T.cut, cutn_un, cutn_bool, cutn_int, cutn_str, cutn_nilp, cutn_sl, cutn_el, cutn_fn, cutn_fref, cutn_ptr, cutr_un, cutr_bool, cutr_int, cutr_str, cutr_nilp, cutr_sl, cutr_el, cutr_fn, cutr_fref, cutr_ptr, Tag.names, mcut, mdrop, mget, mset, List.map_cons, St.box, St.store, St.wipe, setAt, bound, lenS, loadT, List.headD_cons, List.take_succ_cons, List.take_zero, List.take_nil, List.drop_nil, List.drop_zero, List.drop_succ_cons, Tag.sub, List.all_cons, List.all_nil, Nat.reduceLeDiff, Nat.reduceMul, Nat.reduceBEq, Nat.reduceEqDiff, Nat.reduceLT, T.madeAll, T.backAll, nm, List.contains_cons, List.contains_nil, backTag, Int.toNat_natCast, Option.map_some, beq_self_eq_true, Bool.or_true, Bool.true_or, Bool.or_false, Bool.false_or, or_true, or_false, false_or, reduceCtorEq, and_self, and_false, false_and, not_true_eq_false, not_false_eq_true, Bool.not_true, Bool.not_false, td3, td4, Try.results56]
  unfold i64ok at hn
  unfold quorI
  refine ⟨fun h => ?_, fun h => ⟨by decide, ?_⟩⟩
  · simp at h; simp [h]
  · simp only [decide_eq_false_iff_not] at h
    rw [if_neg h, wrap_e (n - 1), tdiv_e _ _ (by omega), wrap_e, wrap_e]
    omega
theorem sim19 (n : Int) (hn : i64ok n) : Sim Try.prog 19 [I n] (I (thirdI n)) := by
  refine Sim.of_code Try.func19 (by unfold Try.f19; rfl) Try.ntmps19 Try.call19 [] (by simp) (by rfl) (PW.sw (G := book0) mixed _ _ _ ?_)
  simp only [I, ↓ff_imp, ↓tf_imp, PW, PW1, regK, drawK, stepK, quietK, callK, idleK, fnK, argsV, T.val?, S.val?, boundT, lendBox_fn, lendBox_int, lendBox_bool, lendBox_nilp, List.flatMap_cons, List.flatMap_nil, S.reach, S.nameL, Tag.nameL, callOf, argsT, guardOf, pureOp, St.rd, St.eval, rdg, List.getD, List.getElem?_cons_zero, List.getElem?_cons_succ, List.cons_append, List.nil_append, List.replicate, List.length, List.getElem?_nil, Option.getD, T.ofValue, S.ofValue, St.put, List.set, binT, binI, thenQ, blockQ, scopeQ, Nat.reduceSub, Nat.reduceAdd, true_and, and_true, if_true, if_false, true_or, Option.bind, List.getElem?_toArray, eqOp, PS.Ends, resOf, packT, St.out, T.sub, S.sub, tagSub, LeT_bool, LeT_int, beq_true, beq_false, imp_self, implies_true, Bool.and_true, Bool.true_and, Bool.and_false, Bool.false_and, T.lend, S.lend, Tag.lend, T.back, S.back, T.made, S.made, Tag.made, St.ret, St.kills, List.map_nil, List.foldl_nil, List.foldl_cons, Bool.false_eq_true, false_imp_iff, true_imp_iff, forall_const, Bool.true_eq_false, minI, maxI, effOp, appendOp, fillT, chunks, T.cells, S.plain, S.lay, St.kill, T.cut, cutn_un, cutn_bool, cutn_int, cutn_str, cutn_nilp, cutn_sl, cutn_el, cutn_fn, cutn_fref, cutn_ptr, cutr_un, cutr_bool, cutr_int, cutr_str, cutr_nilp, cutr_sl, cutr_el, cutr_fn, cutr_fref, cutr_ptr, Tag.names, mcut, mdrop, mget, mset, List.map_cons, St.box, St.store, St.wipe, setAt, bound, lenS, loadT, List.headD_cons, List.take_succ_cons, List.take_zero, List.take_nil, List.drop_nil, List.drop_zero, List.drop_succ_cons, Tag.sub, List.all_cons, List.all_nil, Nat.reduceLeDiff, Nat.reduceMul, Nat.reduceBEq, Nat.reduceEqDiff, Nat.reduceLT, T.madeAll, T.backAll, nm, List.contains_cons, List.contains_nil, backTag, Int.toNat_natCast, Option.map_some, beq_self_eq_true, Bool.or_true, Bool.true_or, Bool.or_false, Bool.false_or, or_true, or_false, false_or, reduceCtorEq, and_self, and_false, false_and, not_true_eq_false, not_false_eq_true, Bool.not_true, Bool.not_false, td3, td4, Try.results19]
  unfold i64ok at hn
  unfold thirdI
  refine ⟨fun h => ?_, fun h => ⟨by decide, ?_⟩⟩
  · simp at h; simp [h]
  · simp only [decide_eq_false_iff_not] at h
    rw [if_neg h, wrap_e (n - 1), tdiv_e _ _ (by omega), wrap_e, wrap_e]
    omega
/-! ### Has, Bit, Size -/
theorem u64_id {n : Int} (h : 0 ≤ n ∧ n < 18446744073709551616) : IntKind.u64.wrap n = n := IntWalk.u64_in n (by omega)
theorem sim26 (m i : Int) : Sim Try.prog 26 [I m, I i] (.one (.bool (hasI m i))) := by
  refine Sim.of_code Try.func26 (by unfold Try.f26; rfl) Try.ntmps26 Try.call26 [] (by simp) (by rfl) (PW.sw (G := book0) mixed _ _ _ ?_)
  simp only [I, ↓ff_imp, ↓tf_imp, PW, PW1, regK, drawK, stepK, quietK, callK, idleK, fnK, argsV, T.val?, S.val?, boundT, lendBox_fn, lendBox_int, lendBox_bool, lendBox_nilp, List.flatMap_cons, List.flatMap_nil, S.reach, S.nameL, Tag.nameL, callOf, argsT, guardOf, pureOp, St.rd, St.eval, rdg, List.getD, List.getElem?_cons_zero, List.getElem?_cons_succ, List.cons_append, List.nil_append, List.replicate, List.length, List.getElem?_nil, Option.getD, T.ofValue, S.ofValue, St.put, List.set, binT, binI, thenQ, blockQ, scopeQ, Nat.reduceSub, Nat.reduceAdd, true_and, and_true, if_true, if_false, true_or, Option.bind, List.getElem?_toArray, eqOp, PS.Ends, resOf, packT, St.out, T.sub, S.sub, tagSub, LeT_bool, LeT_int, beq_true, beq_false, imp_self, implies_true, Bool.and_true, Bool.true_and, Bool.and_false, Bool.false_and, T.lend, S.lend, Tag.lend, T.back, S.back, T.made, S.made, Tag.made, St.ret, St.kills, List.map_nil, List.foldl_nil, List.foldl_cons, Bool.false_eq_true, false_imp_iff, true_imp_iff, forall_const, Bool.true_eq_false, minI, maxI, effOp, appendOp, fillT, chunks, T.cells, S.plain, S.lay, St.kill, T.cut, cutn_un, cutn_bool, cutn_int, cutn_str, cutn_nilp, cutn_sl, cutn_el, cutn_fn, cutn_fref, cutn_ptr, cutr_un, cutr_bool, cutr_int, cutr_str, cutr_nilp, cutr_sl, cutr_el, cutr_fn, cutr_fref, cutr_ptr, Tag.names, mcut, mdrop, mget, mset, List.map_cons, St.box, St.store, St.wipe, setAt, bound, lenS, loadT, List.headD_cons, List.take_succ_cons, List.take_zero, List.take_nil, List.drop_nil, List.drop_zero, List.drop_succ_cons, Tag.sub, List.all_cons, List.all_nil, Nat.reduceLeDiff, Nat.reduceMul, Nat.reduceBEq, Nat.reduceEqDiff, Nat.reduceLT, T.madeAll, T.backAll, nm, List.contains_cons, List.contains_nil, backTag, Int.toNat_natCast, Option.map_some, beq_self_eq_true, Bool.or_true, Bool.true_or, Bool.or_false, Bool.false_or, or_true, or_false, false_or, reduceCtorEq, and_self, and_false, false_and, not_true_eq_false, not_false_eq_true, Bool.not_true, Bool.not_false, td3, td22, td39, td4, Try.results26]
  have key : (if (if decide (i ≥ 0) = true then decide (i < 10) else false) = true then bitsI BinOp.and IntKind.i64 (m.fdiv (2 ^ min (IntKind.u64.wrap i).toNat IntKind.i64.bits)) 1 == 1 else false) = hasI m i := by
    unfold hasI bitI
    by_cases h0 : 0 ≤ i
    · by_cases h1 : i < 10
      · have hu : IntKind.u64.wrap i = i := u64_id (by omega)
        have : min i.toNat IntKind.i64.bits = i.toNat := by simp only [IntKind.bits]; omega
        simp [h0, h1, hu, this, and_one, fdiv_two]
      · simp [h0, h1]
    · simp [h0]
  rw [key]
  refine ⟨fun h => ?_, rfl⟩
  have h1 : 0 ≤ i ∧ i < 10 := by
    by_cases h0 : 0 ≤ i
    · simp [h0] at h; omega
    · simp [h0] at h
  rw [u64_id (by omega)]; omega
def bitN (i : Int) : Int := if 0 ≤ i ∧ i < 10 then ((2 ^ i.toNat : Nat) : Int) else 0
theorem sim50 (i : Int) : Sim Try.prog 50 [I i] (I (bitN i)) := by
  refine Sim.of_code Try.func50 (by unfold Try.f50; rfl) Try.ntmps50 Try.call50 [] (by simp) (by rfl) (PW.sw (G := book0) mixed _ _ _ ?_)
  simp only [I, ↓ff_imp, ↓tf_imp, PW, PW1, regK, drawK, stepK, quietK, callK, idleK, fnK, argsV, T.val?, S.val?, boundT, lendBox_fn, lendBox_int, lendBox_bool, lendBox_nilp, List.flatMap_cons, List.flatMap_nil, S.reach, S.nameL, Tag.nameL, callOf, argsT, guardOf, pureOp, St.rd, St.eval, rdg, List.getD, List.getElem?_cons_zero, List.getElem?_cons_succ, List.cons_append, List.nil_append, List.replicate, List.length, List.getElem?_nil, Option.getD, T.ofValue, S.ofValue, St.put, List.set, binT, binI, thenQ, blockQ, scopeQ, Nat.reduceSub, Nat.reduceAdd, true_and, and_true, if_true, if_false, true_or, Option.bind, List.getElem?_toArray, eqOp, PS.Ends, resOf, packT, St.out, T.sub, S.sub, tagSub, LeT_bool, LeT_int, beq_true, beq_false, imp_self, implies_true, Bool.and_true, Bool.true_and, Bool.and_false, Bool.false_and, T.lend, S.lend, Tag.lend, T.back, S.back, T.made, S.made, Tag.made, St.ret, St.kills, List.map_nil, List.foldl_nil, List.foldl_cons, Bool.false_eq_true, false_imp_iff, true_imp_iff, forall_const, Bool.true_eq_false, minI, maxI, effOp, appendOp, fillT, chunks, T.cells, S.plain, S.lay, St.kill, T.cut, cutn_un, cutn_bool, cutn_int, cutn_str, cutn_nilp, cutn_sl, cutn_el, cutn_fn, cutn_fref, cutn_ptr, cutr_un, cutr_bool, cutr_int, cutr_str, cutr_nilp, cutr_sl, cutr_el, cutr_fn, cutr_fref, cutr_ptr, Tag.names, mcut, mdrop, mget, mset, List.map_cons, St.box, St.store, St.wipe, setAt, bound, lenS, loadT, List.headD_cons, List.take_succ_cons, List.take_zero, List.take_nil, List.drop_nil, List.drop_zero, List.drop_succ_cons, Tag.sub, List.all_cons, List.all_nil, Nat.reduceLeDiff, Nat.reduceMul, Nat.reduceBEq, Nat.reduceEqDiff, Nat.reduceLT, T.madeAll, T.backAll, nm, List.contains_cons, List.contains_nil, backTag, Int.toNat_natCast, Option.map_some, beq_self_eq_true, Bool.or_true, Bool.true_or, Bool.or_false, Bool.false_or, or_true, or_false, false_or, reduceCtorEq, and_self, and_false, false_and, not_true_eq_false, not_false_eq_true, Bool.not_true, Bool.not_false, td3, td22, td39, td4, Try.results50]
  unfold bitN
  by_cases h : 0 ≤ i ∧ i < 10
  · have hu : IntKind.u64.wrap i = i := u64_id (by omega)
    have h1 : ¬ i < 0 := by omega
    have h2 : ¬ i ≥ 10 := by omega
    have h3 : min i.toNat IntKind.i64.bits = i.toNat := by simp only [IntKind.bits]; omega
    have h4 : (2 : Nat) ^ i.toNat < 1024 := Nat.pow_lt_pow_right (a := 2) (by decide) (n := 10) (by omega)
    rw [if_pos h, hu, h3]
    have h5 : (1 : Int) * 2 ^ i.toNat = ((2 ^ i.toNat : Nat) : Int) := by simp
    rw [h5]
    generalize (2 : Nat) ^ i.toNat = y at h4
    simp only [h1, h2, decide_false, Bool.false_eq_true, if_false, false_imp_iff, true_and, true_imp_iff]
    exact ⟨h.1, wrap_id (by unfold i64ok; omega)⟩
  · rw [if_neg h]
    refine ⟨fun _ => rfl, fun h2 => ?_⟩
    exfalso
    by_cases h1 : i < 0
    · simp [h1] at h2
    · simp [h1] at h2; omega
def stepP (mask : Int) (sh : Nat) (x : Int) : Int := IntKind.u64.wrap (bitsI .and .u64 (x.fdiv (2 ^ min (Int.toNat sh) IntKind.u64.bits)) mask + bitsI .and .u64 x mask)
def stepQ (sh : Nat) (x : Int) : Int := IntKind.u64.wrap (x + x.fdiv (2 ^ min (Int.toNat sh) IntKind.u64.bits))
def popI (x : Int) : Int :=
  let x := stepP 6148914691236517205 1 x
  let x := stepP 3689348814741910323 2 x
  let x := bitsI .and .u64 (IntKind.u64.wrap (x.fdiv (2 ^ min (Int.toNat 4) IntKind.u64.bits) + x)) 1085102592571150095
  let x := stepQ 8 x
  let x := stepQ 16 x
  let x := stepQ 32 x
  bitsI .and .i64 (IntKind.i64.wrap x) 127
theorem sim53 (x : Int)  : Sim Try.prog 53 [.one (.int .u64 x)] (I (popI x)) := by
  refine Sim.of_code Try.func53 (by unfold Try.f53; rfl) Try.ntmps53 Try.call53 [] (by simp) (by rfl) (PW.sw (G := book0) mixed _ _ _ ?_)
  simp only [I, ↓ff_imp, ↓tf_imp, PW, PW1, regK, drawK, stepK, quietK, callK, idleK, fnK, argsV, T.val?, S.val?, boundT, lendBox_fn, lendBox_int, lendBox_bool, lendBox_nilp, List.flatMap_cons, List.flatMap_nil, S.reach, S.nameL, Tag.nameL, callOf, argsT, guardOf, pureOp, St.rd, St.eval, rdg, List.getD, List.getElem?_cons_zero, List.getElem?_cons_succ, List.cons_append, List.nil_append, List.replicate, List.length, List.getElem?_nil, Option.getD, T.ofValue, S.ofValue, St.put, List.set, binT, binI, thenQ, blockQ, scopeQ, Nat.reduceSub, Nat.reduceAdd, true_and, and_true, if_true, if_false, true_or, Option.bind, List.getElem?_toArray, eqOp, PS.Ends, resOf, packT, St.out, T.sub, S.sub, tagSub, LeT_bool, LeT_int, beq_true, beq_false, imp_self, implies_true, Bool.and_true, Bool.true_and, Bool.and_false, Bool.false_and, T.lend, S.lend, Tag.lend, T.back, S.back, T.made, S.made, Tag.made, St.ret, St.kills, List.map_nil, List.foldl_nil, List.foldl_cons, Bool.false_eq_true, false_imp_iff, true_imp_iff, forall_const, Bool.true_eq_false, minI, maxI, effOp, appendOp, fillT, chunks, T.cells, S.plain, S.lay, St.kill, T.cut, cutn_un, cutn_bool, cutn_int, cutn_str, cutn_nilp, cutn_sl, cutn_el, cutn_fn, cutn_fref, cutn_ptr, cutr_un, cutr_bool, cutr_int, cutr_str, cutr_nilp, cutr_sl, cutr_el, cutr_fn, cutr_fref, cutr_ptr, Tag.names, mcut, mdrop, mget, mset, List.map_cons, St.box, St.store, St.wipe, setAt, bound, lenS, loadT, List.headD_cons, List.take_succ_cons, List.take_zero, List.take_nil, List.drop_nil, List.drop_zero, List.drop_succ_cons, Tag.sub, List.all_cons, List.all_nil, Nat.reduceLeDiff, Nat.reduceMul, Nat.reduceBEq, Nat.reduceEqDiff, Nat.reduceLT, T.madeAll, T.backAll, nm, List.contains_cons, List.contains_nil, backTag, Int.toNat_natCast, Option.map_some, beq_self_eq_true, Bool.or_true, Bool.true_or, Bool.or_false, Bool.false_or, or_true, or_false, false_or, reduceCtorEq, and_self, and_false, false_and, not_true_eq_false, not_false_eq_true, Bool.not_true, Bool.not_false, td3, td22, td59, td39, td4, Try.results53]
  refine ⟨by decide, by decide, by decide, by decide, by decide, by decide, ?_⟩
  rfl
theorem pop_mask : ∀ x : Fin 1024, popI x.val = (upto x.val 10).length := by decide +kernel
end Go.Proofs.Ytngjhimhmpbofaa
