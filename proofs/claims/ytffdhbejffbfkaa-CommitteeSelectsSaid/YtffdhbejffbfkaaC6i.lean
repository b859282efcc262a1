/- The laws of the committee: each returns true. -/
import Derived.Test.YtffdhbejffbfkaaC6h
set_option linter.unusedSimpArgs false
set_option linter.unusedVariables false
set_option maxRecDepth 100000
namespace Go.Proofs.Ytffdhbejffbfkaa
open Go Go.PS
def spec3 (p : Int → Int → Int → Prop) (r : Int → Int → Int → T) : List T → Option (Prop × T)
  | [.one (.int .i64 n), .one (.int .i64 k), .one (.int .i64 j)] => some (p n k j, r n k j)
  | _ => none
theorem spec3_good {f : Nat} {p : Int → Int → Int → Prop} {r : Int → Int → Int → T} (h : ∀ n k j, p n k j → Sim Try.prog f [I n, I k, I j] (r n k j)) : ∀ args ob t, spec3 p r args = some (ob, t) → ob → Sim Try.prog f args t := by
  intro args ob t hs ho
  unfold spec3 at hs
  split at hs
  · cases hs; exact h _ _ _ ho
  · cases hs
def spec0 (r : T) : List T → Option (Prop × T)
  | [] => some (True, r)
  | _ => none
theorem spec0_good {f : Nat} {r : T} (h : Sim Try.prog f [] r) : ∀ args ob t, spec0 r args = some (ob, t) → ob → Sim Try.prog f args t := by
  intro args ob t hs ho
  unfold spec0 at hs
  split at hs
  · cases hs; exact h
  · cases hs
def unrow (es : List (List S)) : List Int := es.map fun e => match e with
  | [.int _ n] => n
  | _ => 0
theorem unrow_row (l : List Int) : unrow (row l) = l := by
  induction l with
  | nil => rfl
  | cons x r ih => simp only [unrow, row, List.map_cons] at ih ⊢; rw [ih]
def specR : List T → Option (Prop × T)
  | [.one (.sl .plain 1 es), .one (.sl .plain 1 es')] => some (row (unrow es) = es ∧ row (unrow es') = es' ∧ es.length ≤ 10, .one (.bool (unrow es == unrow es')))
  | _ => none
theorem specR_good : ∀ args ob t, specR args = some (ob, t) → ob → Sim Try.prog 21 args t := by
  intro args ob t hs ho
  unfold specR at hs
  split at hs
  · cases hs
    obtain ⟨h1, h2, h3⟩ := ho
    rename_i es es'
    have := sim21 (unrow es) (unrow es') (by rw [← row_length, h1]; exact h3)
    rwa [h1, h2] at this
  · cases hs
instance (n : Int) : Decidable (i64ok n) := inferInstanceAs (Decidable (_ ∧ _))
abbrev bA : Book Try.prog := ((book0.add 10 (spec1 i64ok fun n => I (quorI n)) (spec1_good sim10)).add 12 (spec1 i64ok fun n => I (thirdI n)) (spec1_good sim12)).add 15 (spec3 (fun _ s _ => i64ok s) fun v s g => I (selI v s g)) (spec3_good fun v s g h => sim15 v s g h)
theorem sim14 : Sim Try.prog 14 [] (.one (.bool true)) := by
  refine Sim.of_code Try.func14 (by unfold Try.f14; rfl) Try.ntmps14 Try.call14 [] (by simp) (by rfl) (PW.sw (G := bA) mixed _ _ _ ?_)
  simp only [I, ↓ff_imp, ↓tf_imp, PW, regK, drawK, stepK, quietK, callK, idleK, callOf, argsT, guardOf, pureOp, St.rd, St.eval, rdg, List.getD, List.getElem?_cons_zero, List.getElem?_cons_succ, List.cons_append, List.nil_append, List.replicate, List.length, List.getElem?_nil, Option.getD, T.ofValue, S.ofValue, St.put, List.set, binT, binI, thenQ, blockQ, scopeQ, Nat.reduceSub, Nat.reduceAdd, true_and, and_true, if_true, if_false, true_or, Option.bind, List.getElem?_toArray, eqOp, PS.Ends, resOf, packT, St.out, T.sub, S.sub, tagSub, LeT_bool, LeT_int, beq_true, beq_false, imp_self, implies_true, Bool.and_true, Bool.true_and, Bool.and_false, Bool.false_and, T.lend, S.lend, Tag.lend, T.back, S.back, T.made, S.made, Tag.made, St.ret, St.kills, List.map_nil, List.foldl_nil, List.foldl_cons, Bool.false_eq_true, false_imp_iff, true_imp_iff, forall_const, Bool.true_eq_false, minI, maxI, effOp, appendOp, fillT, chunks, T.cells, S.plain, S.lay, St.kill, T.cut, S.cut, S.names, S.reads, Tag.names, mcut, mdrop, mget, mset, List.map_cons, St.box, St.store, St.wipe, setAt, bound, lenS, loadT, List.headD_cons, List.take_succ_cons, List.take_zero, List.take_nil, List.drop_nil, List.drop_zero, List.drop_succ_cons, Tag.sub, List.all_cons, List.all_nil, Nat.reduceLeDiff, Nat.reduceMul, Nat.reduceBEq, Nat.reduceEqDiff, Nat.reduceLT, T.madeAll, T.backAll, nm, List.contains_cons, List.contains_nil, backTag, Int.toNat_natCast, Option.map_some, beq_self_eq_true, Bool.or_true, Bool.true_or, Bool.or_false, Bool.false_or, or_true, or_false, false_or, reduceCtorEq, and_self, and_false, false_and, not_true_eq_false, not_false_eq_true, Bool.not_true, Bool.not_false, td3, td25, td28, td34, td41, td4, tz3, Try.results14, add_spec, spec1, spec2, spec3]
  decide +kernel
abbrev bB : Book Try.prog := ((bA.add 11 (spec1 i64ok fun n => I (quorI n)) (spec1_good sim11)).add 13 (spec1 i64ok fun n => I (thirdI n)) (spec1_good sim13)).add 14 (spec0 (.one (.bool true))) (spec0_good sim14)
theorem sim3 (n : Int) (h : i64ok n) : Sim Try.prog 3 [I n] (.one (.bool true)) := by
  refine Sim.of_code Try.func3 (by unfold Try.f3; rfl) Try.ntmps3 Try.call3 [] (by simp) (by rfl) (PW.sw (G := bB) mixed _ _ _ ?_)
  simp only [I, ↓ff_imp, ↓tf_imp, PW, regK, drawK, stepK, quietK, callK, idleK, callOf, argsT, guardOf, pureOp, St.rd, St.eval, rdg, List.getD, List.getElem?_cons_zero, List.getElem?_cons_succ, List.cons_append, List.nil_append, List.replicate, List.length, List.getElem?_nil, Option.getD, T.ofValue, S.ofValue, St.put, List.set, binT, binI, thenQ, blockQ, scopeQ, Nat.reduceSub, Nat.reduceAdd, true_and, and_true, if_true, if_false, true_or, Option.bind, List.getElem?_toArray, eqOp, PS.Ends, resOf, packT, St.out, T.sub, S.sub, tagSub, LeT_bool, LeT_int, beq_true, beq_false, imp_self, implies_true, Bool.and_true, Bool.true_and, Bool.and_false, Bool.false_and, T.lend, S.lend, Tag.lend, T.back, S.back, T.made, S.made, Tag.made, St.ret, St.kills, List.map_nil, List.foldl_nil, List.foldl_cons, Bool.false_eq_true, false_imp_iff, true_imp_iff, forall_const, Bool.true_eq_false, minI, maxI, effOp, appendOp, fillT, chunks, T.cells, S.plain, S.lay, St.kill, T.cut, S.cut, S.names, S.reads, Tag.names, mcut, mdrop, mget, mset, List.map_cons, St.box, St.store, St.wipe, setAt, bound, lenS, loadT, List.headD_cons, List.take_succ_cons, List.take_zero, List.take_nil, List.drop_nil, List.drop_zero, List.drop_succ_cons, Tag.sub, List.all_cons, List.all_nil, Nat.reduceLeDiff, Nat.reduceMul, Nat.reduceBEq, Nat.reduceEqDiff, Nat.reduceLT, T.madeAll, T.backAll, nm, List.contains_cons, List.contains_nil, backTag, Int.toNat_natCast, Option.map_some, beq_self_eq_true, Bool.or_true, Bool.true_or, Bool.or_false, Bool.false_or, or_true, or_false, false_or, reduceCtorEq, and_self, and_false, false_and, not_true_eq_false, not_false_eq_true, Bool.not_true, Bool.not_false, td3, td25, td28, td34, td41, td4, tz3, Try.results3, add_spec, spec1, spec2, spec3, spec0]
  exact h
abbrev bC : Book Try.prog := (bB.add 16 (spec3 (fun _ _ _ => True) fun v s g => I (selI v s g)) (spec3_good fun v s g _ => sim16 v s g))
theorem sim4 (v s g : Int) (hs : i64ok s) : Sim Try.prog 4 [I v, I s, I g] (.one (.bool true)) := by
  refine Sim.of_code Try.func4 (by unfold Try.f4; rfl) Try.ntmps4 Try.call4 [] (by simp) (by rfl) (PW.sw (G := bC) mixed _ _ _ ?_)
  simp only [I, ↓ff_imp, ↓tf_imp, PW, regK, drawK, stepK, quietK, callK, idleK, callOf, argsT, guardOf, pureOp, St.rd, St.eval, rdg, List.getD, List.getElem?_cons_zero, List.getElem?_cons_succ, List.cons_append, List.nil_append, List.replicate, List.length, List.getElem?_nil, Option.getD, T.ofValue, S.ofValue, St.put, List.set, binT, binI, thenQ, blockQ, scopeQ, Nat.reduceSub, Nat.reduceAdd, true_and, and_true, if_true, if_false, true_or, Option.bind, List.getElem?_toArray, eqOp, PS.Ends, resOf, packT, St.out, T.sub, S.sub, tagSub, LeT_bool, LeT_int, beq_true, beq_false, imp_self, implies_true, Bool.and_true, Bool.true_and, Bool.and_false, Bool.false_and, T.lend, S.lend, Tag.lend, T.back, S.back, T.made, S.made, Tag.made, St.ret, St.kills, List.map_nil, List.foldl_nil, List.foldl_cons, Bool.false_eq_true, false_imp_iff, true_imp_iff, forall_const, Bool.true_eq_false, minI, maxI, effOp, appendOp, fillT, chunks, T.cells, S.plain, S.lay, St.kill, T.cut, S.cut, S.names, S.reads, Tag.names, mcut, mdrop, mget, mset, List.map_cons, St.box, St.store, St.wipe, setAt, bound, lenS, loadT, List.headD_cons, List.take_succ_cons, List.take_zero, List.take_nil, List.drop_nil, List.drop_zero, List.drop_succ_cons, Tag.sub, List.all_cons, List.all_nil, Nat.reduceLeDiff, Nat.reduceMul, Nat.reduceBEq, Nat.reduceEqDiff, Nat.reduceLT, T.madeAll, T.backAll, nm, List.contains_cons, List.contains_nil, backTag, Int.toNat_natCast, Option.map_some, beq_self_eq_true, Bool.or_true, Bool.true_or, Bool.or_false, Bool.false_or, or_true, or_false, false_or, reduceCtorEq, and_self, and_false, false_and, not_true_eq_false, not_false_eq_true, Bool.not_true, Bool.not_false, td3, td25, td28, td34, td41, td4, tz3, Try.results4, add_spec, spec1, spec2, spec3, spec0]
  exact hs
theorem u64_e (x : Int) : IntKind.u64.wrap x = x % 18446744073709551616 := by
  simp only [IntKind.wrap, IntKind.bits, IntKind.signed]
  have : (2 : Int) ^ 64 = 18446744073709551616 := by decide
  simp [this]
theorem sim5 (n l : Int) : Sim Try.prog 5 [I n, I l] (.one (.bool true)) := by
  refine Sim.of_code Try.func5 (by unfold Try.f5; rfl) Try.ntmps5 Try.call5 [] (by simp) (by rfl) (PW.sw (G := bB) mixed _ _ _ ?_)
  simp only [I, ↓ff_imp, ↓tf_imp, PW, regK, drawK, stepK, quietK, callK, idleK, callOf, argsT, guardOf, pureOp, St.rd, St.eval, rdg, List.getD, List.getElem?_cons_zero, List.getElem?_cons_succ, List.cons_append, List.nil_append, List.replicate, List.length, List.getElem?_nil, Option.getD, T.ofValue, S.ofValue, St.put, List.set, binT, binI, thenQ, blockQ, scopeQ, Nat.reduceSub, Nat.reduceAdd, true_and, and_true, if_true, if_false, true_or, Option.bind, List.getElem?_toArray, eqOp, PS.Ends, resOf, packT, St.out, T.sub, S.sub, tagSub, LeT_bool, LeT_int, beq_true, beq_false, imp_self, implies_true, Bool.and_true, Bool.true_and, Bool.and_false, Bool.false_and, T.lend, S.lend, Tag.lend, T.back, S.back, T.made, S.made, Tag.made, St.ret, St.kills, List.map_nil, List.foldl_nil, List.foldl_cons, Bool.false_eq_true, false_imp_iff, true_imp_iff, forall_const, Bool.true_eq_false, minI, maxI, effOp, appendOp, fillT, chunks, T.cells, S.plain, S.lay, St.kill, T.cut, S.cut, S.names, S.reads, Tag.names, mcut, mdrop, mget, mset, List.map_cons, St.box, St.store, St.wipe, setAt, bound, lenS, loadT, List.headD_cons, List.take_succ_cons, List.take_zero, List.take_nil, List.drop_nil, List.drop_zero, List.drop_succ_cons, Tag.sub, List.all_cons, List.all_nil, Nat.reduceLeDiff, Nat.reduceMul, Nat.reduceBEq, Nat.reduceEqDiff, Nat.reduceLT, T.madeAll, T.backAll, nm, List.contains_cons, List.contains_nil, backTag, Int.toNat_natCast, Option.map_some, beq_self_eq_true, Bool.or_true, Bool.true_or, Bool.or_false, Bool.false_or, or_true, or_false, false_or, reduceCtorEq, and_self, and_false, false_and, not_true_eq_false, not_false_eq_true, Bool.not_true, Bool.not_false, td3, td25, td28, td34, td41, td4, tz3, Try.results5, add_spec, spec1, spec2, spec3, spec0]
  obtain ⟨N, hN, h1, h2⟩ : ∃ N, IntKind.i64.wrap (1 + IntKind.i64.wrap ((IntKind.u64.wrap n).tmod 1000000)) = N ∧ 1 ≤ N ∧ N ≤ 1000000 := by
    refine ⟨_, rfl, ?_⟩
    rw [u64_e, Int.tmod_eq_emod_of_nonneg (by omega), wrap_e, wrap_e]
    omega
  simp only [hN]
  obtain ⟨L, hL, h3, h4⟩ : ∃ L, IntKind.i64.wrap ((IntKind.u64.wrap l).tmod (IntKind.u64.wrap N)) = L ∧ 0 ≤ L ∧ L < N := by
    refine ⟨_, rfl, ?_⟩
    rw [u64_id (n := N) (by omega), u64_e, Int.tmod_eq_emod_of_nonneg (by omega)]
    have := Int.emod_nonneg (l % 18446744073709551616) (b := N) (by omega)
    have := Int.emod_lt_of_pos (l % 18446744073709551616) (b := N) (by omega)
    generalize l % 18446744073709551616 % N = y at *
    rw [wrap_e]
    omega
  simp only [hL]
  have hNu : IntKind.u64.wrap N = N := u64_id (by omega)
  have h3L : IntKind.i64.wrap (3 * L) = 3 * L := by rw [wrap_e]; omega
  have hNL : IntKind.i64.wrap (N - L) = N - L := by rw [wrap_e]; omega
  have hq : quorI N = N - (N - 1) / 3 := by unfold quorI; rw [if_neg (by omega)]
  have ht : thirdI N = (N - 1) / 3 + 1 := by unfold thirdI; rw [if_neg (by omega)]
  have hqL : IntKind.i64.wrap (N - (N - 1) / 3 - L) = N - (N - 1) / 3 - L := by rw [wrap_e]; omega
  have hd : (N - L).tdiv 2 = (N - L) / 2 := tdiv_e _ _ (by omega)
  have hdw : IntKind.i64.wrap ((N - L) / 2) = (N - L) / 2 := by rw [wrap_e]; omega
  have hok : i64ok N := by unfold i64ok; omega
  simp only [hNu, h3L, hNL, hq, ht, hqL, hd, hdw]
  refine ⟨by decide, by omega, fun h => ⟨hok, fun _ => by decide, fun _ => hok, ?_⟩⟩
  have h := of_decide_eq_false h
  have c1 : decide (N - L ≥ N - (N - 1) / 3) = true := by rw [decide_eq_true_eq]; omega
  have c2 : decide (N - (N - 1) / 3 - L > (N - L) / 2) = true := by rw [decide_eq_true_eq]; omega
  have c3 : decide (L < (N - 1) / 3 + 1) = true := by rw [decide_eq_true_eq]; omega
  simp only [c1, c2, c3, if_true]
theorem meet_len (p q r : Fin 10 → Bool) : ∀ l : List (Fin 10), (∀ i, p i = true → r i = true) → (∀ i, q i = true → r i = true) →
    (l.filter p).length + (l.filter q).length ≤ (l.filter r).length + (l.filter fun i => p i && q i).length
  | [], _, _ => by simp
  | x :: l, h1, h2 => by
    have ih := meet_len p q r l h1 h2
    simp only [List.filter_cons]
    have a1 := h1 x
    have a2 := h2 x
    cases hp : p x <;> cases hq : q x <;> cases hr : r x <;> simp_all <;> omega
theorem sizeI_range (m : Int) : 0 ≤ sizeI m ∧ sizeI m ≤ 10 := by
  have := upto_length m 10
  unfold sizeI; omega
theorem size_meet (a b c : Int) : sizeI (bitsI .and .i64 a c) + sizeI (bitsI .and .i64 b c) ≤ sizeI c + sizeI (bitsI .and .i64 (bitsI .and .i64 a c) (bitsI .and .i64 b c)) := by
  unfold sizeI
  simp only [upto_all]
  have e : ((List.finRange 10).filter fun i => hasI (bitsI .and .i64 (bitsI .and .i64 a c) (bitsI .and .i64 b c)) i.val) =
      (List.finRange 10).filter fun i => hasI (bitsI .and .i64 a c) i.val && hasI (bitsI .and .i64 b c) i.val := List.filter_congr fun i _ => hasI_and _ _ _ i.isLt
  rw [e]
  have := meet_len (fun i => hasI (bitsI .and .i64 a c) i.val) (fun i => hasI (bitsI .and .i64 b c) i.val) (fun i => hasI c i.val) (List.finRange 10)
    (fun i h => by rw [hasI_and _ _ _ i.isLt] at h; simp at h; exact h.2) (fun i h => by rw [hasI_and _ _ _ i.isLt] at h; simp at h; exact h.2)
  omega
abbrev bD : Book Try.prog := (bB.add 17 (spec1 (fun _ => True) fun m => I (sizeI m)) (spec1_good fun m _ => sim17 m))
theorem sim6 (c a b : Int) : Sim Try.prog 6 [I c, I a, I b] (.one (.bool true)) := by
  refine Sim.of_code Try.func6 (by unfold Try.f6; rfl) Try.ntmps6 Try.call6 [] (by simp) (by rfl) (PW.sw (G := bD) mixed _ _ _ ?_)
  simp only [I, ↓ff_imp, ↓tf_imp, PW, regK, drawK, stepK, quietK, callK, idleK, callOf, argsT, guardOf, pureOp, St.rd, St.eval, rdg, List.getD, List.getElem?_cons_zero, List.getElem?_cons_succ, List.cons_append, List.nil_append, List.replicate, List.length, List.getElem?_nil, Option.getD, T.ofValue, S.ofValue, St.put, List.set, binT, binI, thenQ, blockQ, scopeQ, Nat.reduceSub, Nat.reduceAdd, true_and, and_true, if_true, if_false, true_or, Option.bind, List.getElem?_toArray, eqOp, PS.Ends, resOf, packT, St.out, T.sub, S.sub, tagSub, LeT_bool, LeT_int, beq_true, beq_false, imp_self, implies_true, Bool.and_true, Bool.true_and, Bool.and_false, Bool.false_and, T.lend, S.lend, Tag.lend, T.back, S.back, T.made, S.made, Tag.made, St.ret, St.kills, List.map_nil, List.foldl_nil, List.foldl_cons, Bool.false_eq_true, false_imp_iff, true_imp_iff, forall_const, Bool.true_eq_false, minI, maxI, effOp, appendOp, fillT, chunks, T.cells, S.plain, S.lay, St.kill, T.cut, S.cut, S.names, S.reads, Tag.names, mcut, mdrop, mget, mset, List.map_cons, St.box, St.store, St.wipe, setAt, bound, lenS, loadT, List.headD_cons, List.take_succ_cons, List.take_zero, List.take_nil, List.drop_nil, List.drop_zero, List.drop_succ_cons, Tag.sub, List.all_cons, List.all_nil, Nat.reduceLeDiff, Nat.reduceMul, Nat.reduceBEq, Nat.reduceEqDiff, Nat.reduceLT, T.madeAll, T.backAll, nm, List.contains_cons, List.contains_nil, backTag, Int.toNat_natCast, Option.map_some, beq_self_eq_true, Bool.or_true, Bool.true_or, Bool.or_false, Bool.false_or, or_true, or_false, false_or, reduceCtorEq, and_self, and_false, false_and, not_true_eq_false, not_false_eq_true, Bool.not_true, Bool.not_false, td3, td25, td28, td34, td41, td4, tz3, Try.results6, add_spec, spec1, spec2, spec3, spec0]
  have hr := sizeI_range c
  have hm := size_meet a b c
  generalize sizeI (bitsI .and .i64 (bitsI .and .i64 a c) (bitsI .and .i64 b c)) = C at *
  generalize sizeI (bitsI .and .i64 a c) = A at *
  generalize sizeI (bitsI .and .i64 b c) = B at *
  generalize sizeI c = n at *
  have hok : i64ok n := by unfold i64ok; omega
  refine ⟨hok, hok, fun h => ?_, fun h => ⟨fun _ => by decide, fun h2 => ?_, fun _ h3 => ?_⟩⟩
  · have : n = 0 := by have := of_decide_eq_true h; omega
    subst this
    decide +kernel
  · have := of_decide_eq_false h
    have : n = 1 ∨ n = 2 ∨ n = 3 ∨ n = 4 ∨ n = 5 ∨ n = 6 ∨ n = 7 ∨ n = 8 ∨ n = 9 ∨ n = 10 := by omega
    rcases this with rfl | rfl | rfl | rfl | rfl | rfl | rfl | rfl | rfl | rfl <;> exact absurd h2 (by decide +kernel)
  · have h4 := of_decide_eq_false h
    have hq : quorI n = n - (n - 1) / 3 := by unfold quorI; rw [if_neg (by omega)]
    rw [hq] at h3 ⊢
    have h5 : ¬ A < n - (n - 1) / 3 := by
      intro h6; simp [h6] at h3
    have h6 : ¬ B < n - (n - 1) / 3 := by
      intro h6; simp [h6] at h3
    have hw : IntKind.i64.wrap (IntKind.i64.wrap (2 * (n - (n - 1) / 3)) - n) = 2 * (n - (n - 1) / 3) - n := by
      rw [wrap_e (2 * _), wrap_e]; omega
    rw [hw]
    have : decide (C ≥ 2 * (n - (n - 1) / 3) - n) = true := by rw [decide_eq_true_eq]; omega
    simp [this]
abbrev bE : Book Try.prog := ((((((((bD.add 18 (spec2 (fun _ _ => True) fun m i => .one (.bool (hasI m i))) (spec2_good fun m i _ => sim18 m i)).add 19 (spec2 (fun _ _ => True) fun m i => .one (.bool (hasI m i))) (spec2_good fun m i _ => sim19 m i)).add
  20 (spec1 (fun _ => True) fun m => I (sizeI m)) (spec1_good fun m _ => sim20 m)).add 21 specR specR_good).add 22 (spec1 (fun _ => True) fun m => .one (.sl (.own 0 3) 1 (row (idsL m)))) (spec1_good fun m _ => sim22 m)).add
  23 (spec1 (fun _ => True) fun m => .one (.sl (.own 0 3) 1 (row (idsL m)))) (spec1_good fun m _ => sim23 m)).add 24 (spec2 (fun _ k => i64ok k) fun m k => I (lowI m k)) (spec2_good fun m k h => sim24 m k h)).add
  25 (spec2 (fun _ _ => True) fun m k => I (lowI m k)) (spec2_good fun m k _ => sim25 m k))
theorem sim7 (m i k : Int) (hk : i64ok k) : Sim Try.prog 7 [I m, I i, I k] (.one (.bool true)) := by
  refine Sim.of_code Try.func7 (by unfold Try.f7; rfl) Try.ntmps7 Try.call7 [] (by simp) (by rfl) (PW.sw (G := bE) mixed _ _ _ ?_)
  simp only [I, ↓ff_imp, ↓tf_imp, PW, regK, drawK, stepK, quietK, callK, idleK, callOf, argsT, guardOf, pureOp, St.rd, St.eval, rdg, List.getD, List.getElem?_cons_zero, List.getElem?_cons_succ, List.cons_append, List.nil_append, List.replicate, List.length, List.getElem?_nil, Option.getD, T.ofValue, S.ofValue, St.put, List.set, binT, binI, thenQ, blockQ, scopeQ, Nat.reduceSub, Nat.reduceAdd, true_and, and_true, if_true, if_false, true_or, Option.bind, List.getElem?_toArray, eqOp, PS.Ends, resOf, packT, St.out, T.sub, S.sub, tagSub, LeT_bool, LeT_int, beq_true, beq_false, imp_self, implies_true, Bool.and_true, Bool.true_and, Bool.and_false, Bool.false_and, T.lend, S.lend, Tag.lend, T.back, S.back, T.made, S.made, Tag.made, St.ret, St.kills, List.map_nil, List.foldl_nil, List.foldl_cons, Bool.false_eq_true, false_imp_iff, true_imp_iff, forall_const, Bool.true_eq_false, minI, maxI, effOp, appendOp, fillT, chunks, T.cells, S.plain, S.lay, St.kill, T.cut, S.cut, S.names, S.reads, Tag.names, mcut, mdrop, mget, mset, List.map_cons, St.box, St.store, St.wipe, setAt, bound, lenS, loadT, List.headD_cons, List.take_succ_cons, List.take_zero, List.take_nil, List.drop_nil, List.drop_zero, List.drop_succ_cons, Tag.sub, List.all_cons, List.all_nil, Nat.reduceLeDiff, Nat.reduceMul, Nat.reduceBEq, Nat.reduceEqDiff, Nat.reduceLT, T.madeAll, T.backAll, nm, List.contains_cons, List.contains_nil, backTag, Int.toNat_natCast, Option.map_some, beq_self_eq_true, Bool.or_true, Bool.true_or, Bool.or_false, Bool.false_or, or_true, or_false, false_or, reduceCtorEq, and_self, and_false, false_and, not_true_eq_false, not_false_eq_true, Bool.not_true, Bool.not_false, td3, td25, td28, td34, td41, td4, tz3, Try.results7, add_spec, spec1, spec2, spec3, spec0, specR]
  refine ⟨⟨by rw [unrow_row], by rw [unrow_row], ?_⟩, hk⟩
  rw [row_length]
  have := upto_length m 10
  simpa [idsL] using this
theorem sorted10 : (List.finRange 10).Pairwise (fun a b => a.val < b.val) := by decide
theorem upto_sub (m : Int) (k : Nat) : (upto m k).Sublist (List.finRange 10) := List.filter_sublist.trans (List.take_sublist _ _)
theorem low_has (m k : Int) (j : Nat) (h : j < (upto m 10).length) : hasI (lowI m k) (upto m 10)[j].val = decide ((j : Int) < k) := by
  have hnd : (upto m 10).Nodup := nodup10.sublist (upto_sub m 10)
  unfold lowI lowL
  rw [hasI_out, Bool.eq_iff_iff, List.contains_iff_mem, decide_eq_true_eq]
  constructor
  · intro hm
    obtain ⟨i, hi, he⟩ := List.mem_iff_getElem.1 hm
    rw [List.getElem_take] at he
    have : i = j := (List.getElem_inj hnd).1 he
    rw [List.length_take] at hi
    omega
  · intro hk
    refine List.mem_iff_getElem.2 ⟨j, by rw [List.length_take]; omega, ?_⟩
    rw [List.getElem_take]
theorem low_mask (m k : Int) : bitsI .andNot .i64 (lowI m k) m = 0 := by
  have hr := andNot_range (lowI m k) m (out_range _).1 (out_range _).2
  refine zero_of _ hr.1 hr.2 fun i => ?_
  rw [hasI_andNot _ _ _ i.isLt]
  unfold lowI
  rw [hasI_out]
  cases hm : hasI m i.val with
  | true => simp
  | false =>
    simp only [Bool.not_false, Bool.and_true]
    rw [← Bool.not_eq_true, List.contains_iff_mem]
    intro h
    have := List.mem_of_mem_take h
    rw [upto_all, List.mem_filter] at this
    rw [hm] at this
    simp at this
theorem low_size (m k : Int) : sizeI (lowI m k) = max 0 (min k (sizeI m)) := by
  unfold lowI sizeI lowL
  rw [upto_out ((List.take_sublist _ _).trans (upto_sub m 10)), List.length_take]
  omega
theorem sim9 (m k : Int) (hk : i64ok k) : Sim Try.prog 9 [I m, I k] (.one (.bool true)) := by
  refine Sim.of_code Try.func9 (by unfold Try.f9; rfl) Try.ntmps9 Try.call9 [] (by simp) (by rfl) (PW.sw (G := bE) mixed _ _ _ ?_)
  simp only [I, ↓ff_imp, ↓tf_imp, PW, regK, drawK, stepK, quietK, callK, idleK, callOf, argsT, guardOf, pureOp, St.rd, St.eval, rdg, List.getD, List.getElem?_cons_zero, List.getElem?_cons_succ, List.cons_append, List.nil_append, List.replicate, List.length, List.getElem?_nil, Option.getD, T.ofValue, S.ofValue, St.put, List.set, binT, binI, thenQ, blockQ, scopeQ, Nat.reduceSub, Nat.reduceAdd, true_and, and_true, if_true, if_false, true_or, Option.bind, List.getElem?_toArray, eqOp, PS.Ends, resOf, packT, St.out, T.sub, S.sub, tagSub, LeT_bool, LeT_int, beq_true, beq_false, imp_self, implies_true, Bool.and_true, Bool.true_and, Bool.and_false, Bool.false_and, T.lend, S.lend, Tag.lend, T.back, S.back, T.made, S.made, Tag.made, St.ret, St.kills, List.map_nil, List.foldl_nil, List.foldl_cons, Bool.false_eq_true, false_imp_iff, true_imp_iff, forall_const, Bool.true_eq_false, minI, maxI, effOp, appendOp, fillT, chunks, T.cells, S.plain, S.lay, St.kill, T.cut, S.cut, S.names, S.reads, Tag.names, mcut, mdrop, mget, mset, List.map_cons, St.box, St.store, St.wipe, setAt, bound, lenS, loadT, List.headD_cons, List.take_succ_cons, List.take_zero, List.take_nil, List.drop_nil, List.drop_zero, List.drop_succ_cons, Tag.sub, List.all_cons, List.all_nil, Nat.reduceLeDiff, Nat.reduceMul, Nat.reduceBEq, Nat.reduceEqDiff, Nat.reduceLT, T.madeAll, T.backAll, nm, List.contains_cons, List.contains_nil, backTag, Int.toNat_natCast, Option.map_some, beq_self_eq_true, Bool.or_true, Bool.true_or, Bool.or_false, Bool.false_or, or_true, or_false, false_or, reduceCtorEq, and_self, and_false, false_and, not_true_eq_false, not_false_eq_true, Bool.not_true, Bool.not_false, td3, td25, td28, td34, td41, td4, tz3, Try.results9, add_spec, spec1, spec2, spec3, spec0, specR]
  have h0 : (bitsI BinOp.andNot IntKind.i64 (lowI m k) m != 0) = false := by rw [low_mask]; rfl
  have h1 : (sizeI (lowI m k) != if (if sizeI m < k then sizeI m else k) > 0 then if sizeI m < k then sizeI m else k else 0) = false := by
    rw [low_size, bne_eq_false_iff_eq]
    split <;> split <;> omega
  refine ⟨hk, fun h => ?_, fun h => ?_⟩
  · rw [h0, h1] at h; simp at h
  generalize hl : upto m 10 = l
  have hl10 : l.length ≤ 10 := hl ▸ upto_length m 10
  refine SW.loop (fun j => ⟨[I m, I k, .un, .un, .one (.bool false), I (lowI m k), .one (.sl (.own 10026 3) 1 (row (idsL m))), I (j : Nat)] ++ List.replicate 52 .un, []⟩) (fun j => j ≤ l.length) (fun j => l.length - j) 0 ?_ (by omega) ?_
  · refine Le.mk ?_ (LeM.nil _)
    simp only [I, LeTs, LeT.un, LeT.refl, true_and, and_true, and_self, ↓ff_imp, ↓tf_imp, PW, regK, drawK, stepK, quietK, callK, idleK, callOf, argsT, guardOf, pureOp, St.rd, St.eval, rdg, List.getD, List.getElem?_cons_zero, List.getElem?_cons_succ, List.cons_append, List.nil_append, List.replicate, List.length, List.getElem?_nil, Option.getD, T.ofValue, S.ofValue, St.put, List.set, binT, binI, thenQ, blockQ, scopeQ, Nat.reduceSub, Nat.reduceAdd, true_and, and_true, if_true, if_false, true_or, Option.bind, List.getElem?_toArray, eqOp, PS.Ends, resOf, packT, St.out, T.sub, S.sub, tagSub, LeT_bool, LeT_int, beq_true, beq_false, imp_self, implies_true, Bool.and_true, Bool.true_and, Bool.and_false, Bool.false_and, T.lend, S.lend, Tag.lend, T.back, S.back, T.made, S.made, Tag.made, St.ret, St.kills, List.map_nil, List.foldl_nil, List.foldl_cons, Bool.false_eq_true, false_imp_iff, true_imp_iff, forall_const, Bool.true_eq_false, minI, maxI, effOp, appendOp, fillT, chunks, T.cells, S.plain, S.lay, St.kill, T.cut, S.cut, S.names, S.reads, Tag.names, mcut, mdrop, mget, mset, List.map_cons, St.box, St.store, St.wipe, setAt, bound, lenS, loadT, List.headD_cons, List.take_succ_cons, List.take_zero, List.take_nil, List.drop_nil, List.drop_zero, List.drop_succ_cons, Tag.sub, List.all_cons, List.all_nil, Nat.reduceLeDiff, Nat.reduceMul, Nat.reduceBEq, Nat.reduceEqDiff, Nat.reduceLT, T.madeAll, T.backAll, nm, List.contains_cons, List.contains_nil, backTag, Int.toNat_natCast, Option.map_some, beq_self_eq_true, Bool.or_true, Bool.true_or, Bool.or_false, Bool.false_or, or_true, or_false, false_or, reduceCtorEq, and_self, and_false, false_and, not_true_eq_false, not_false_eq_true, Bool.not_true, Bool.not_false]
    rfl
  · intro j hj
    have hlen : (row (idsL m)).length = l.length := by simp [row, idsL, hl]
    have hw : IntKind.i64.wrap ((j : Int) + 1) = ((j + 1 : Nat) : Int) := by rw [wrap_id] <;> (try unfold i64ok) <;> omega
    refine PW.sw (G := bE) mixed _ _ _ ?_
    by_cases hjl : j < l.length
    · have ht : decide ((j : Int) < (l.length : Int)) = true := by simp; omega
      have hat : (row (idsL m))[j]? = some [.int .i64 (l[j].val : Nat)] := by subst hl; exact idsL_at hjl
      have hat0 : (row (idsL m))[(IntKind.i64.wrap ((j : Int) - 1)).toNat]? = some [.int .i64 (l[j - 1].val : Nat)] := by
        have : (IntKind.i64.wrap ((j : Int) - 1)).toNat = j - 1 := by rw [wrap_id (by unfold i64ok; omega)]; omega
        rw [this]
        subst hl; exact idsL_at (by omega)
      have hh : hasI (lowI m k) (l[j].val : Nat) = decide ((j : Int) < k) := by subst hl; exact low_has m k j hjl
      have hso : 0 < j → l[j-1].val < l[j].val := by
        intro h0
        have hp : l.Pairwise (fun a b => a.val < b.val) := hl ▸ sorted10.sublist (upto_sub m 10)
        exact List.pairwise_iff_getElem.1 hp (j - 1) j (by omega) hjl (by omega)
      simp only [I, ↓ff_imp, ↓tf_imp, PW, regK, drawK, stepK, quietK, callK, idleK, callOf, argsT, guardOf, pureOp, St.rd, St.eval, rdg, List.getD, List.getElem?_cons_zero, List.getElem?_cons_succ, List.cons_append, List.nil_append, List.replicate, List.length, List.getElem?_nil, Option.getD, T.ofValue, S.ofValue, St.put, List.set, binT, binI, thenQ, blockQ, scopeQ, Nat.reduceSub, Nat.reduceAdd, true_and, and_true, if_true, if_false, true_or, Option.bind, List.getElem?_toArray, eqOp, PS.Ends, resOf, packT, St.out, T.sub, S.sub, tagSub, LeT_bool, LeT_int, beq_true, beq_false, imp_self, implies_true, Bool.and_true, Bool.true_and, Bool.and_false, Bool.false_and, T.lend, S.lend, Tag.lend, T.back, S.back, T.made, S.made, Tag.made, St.ret, St.kills, List.map_nil, List.foldl_nil, List.foldl_cons, Bool.false_eq_true, false_imp_iff, true_imp_iff, forall_const, Bool.true_eq_false, minI, maxI, effOp, appendOp, fillT, chunks, T.cells, S.plain, S.lay, St.kill, T.cut, S.cut, S.names, S.reads, Tag.names, mcut, mdrop, mget, mset, List.map_cons, St.box, St.store, St.wipe, setAt, bound, lenS, loadT, List.headD_cons, List.take_succ_cons, List.take_zero, List.take_nil, List.drop_nil, List.drop_zero, List.drop_succ_cons, Tag.sub, List.all_cons, List.all_nil, Nat.reduceLeDiff, Nat.reduceMul, Nat.reduceBEq, Nat.reduceEqDiff, Nat.reduceLT, T.madeAll, T.backAll, nm, List.contains_cons, List.contains_nil, backTag, Int.toNat_natCast, Option.map_some, beq_self_eq_true, Bool.or_true, Bool.true_or, Bool.or_false, Bool.false_or, or_true, or_false, false_or, reduceCtorEq, and_self, and_false, false_and, not_true_eq_false, not_false_eq_true, Bool.not_true, Bool.not_false, td3, td25, td28, td34, td41, td4, tz3, tzz3, Try.results9, add_spec, spec1, spec2, spec3, spec0, hlen, hat, hat0, hw, ht, hh]
      have hgt : decide ((j : Int) > 0) = true → decide (((l[j].val : Nat) : Int) ≤ ((l[j - 1].val : Nat) : Int)) = false := by
        intro h0
        have := of_decide_eq_true h0
        have := hso (by omega)
        rw [decide_eq_false_iff_not]; omega
      refine ⟨by rfl, ⟨by omega, by omega⟩, fun _ => ⟨by omega, by omega⟩, fun h0 => ?_, fun h0 => ?_, fun h0 => ⟨j + 1, Le.mk ?_ (LeM.nil _), by omega, by omega⟩⟩
      · have := of_decide_eq_true h0
        rw [wrap_id (by unfold i64ok; omega)]
        constructor <;> omega
      · by_cases h1 : decide ((j : Int) > 0) = true
        · rw [if_pos h1, hgt h1] at h0; cases h0
        · rw [if_neg h1] at h0; cases h0
      · simp only [LeTs, LeT.un, LeT.refl, true_and, and_true, and_self]
    · have ht : decide ((j : Int) < (l.length : Int)) = false := by simp; omega
      simp only [I, ↓ff_imp, ↓tf_imp, PW, regK, drawK, stepK, quietK, callK, idleK, callOf, argsT, guardOf, pureOp, St.rd, St.eval, rdg, List.getD, List.getElem?_cons_zero, List.getElem?_cons_succ, List.cons_append, List.nil_append, List.replicate, List.length, List.getElem?_nil, Option.getD, T.ofValue, S.ofValue, St.put, List.set, binT, binI, thenQ, blockQ, scopeQ, Nat.reduceSub, Nat.reduceAdd, true_and, and_true, if_true, if_false, true_or, Option.bind, List.getElem?_toArray, eqOp, PS.Ends, resOf, packT, St.out, T.sub, S.sub, tagSub, LeT_bool, LeT_int, beq_true, beq_false, imp_self, implies_true, Bool.and_true, Bool.true_and, Bool.and_false, Bool.false_and, T.lend, S.lend, Tag.lend, T.back, S.back, T.made, S.made, Tag.made, St.ret, St.kills, List.map_nil, List.foldl_nil, List.foldl_cons, Bool.false_eq_true, false_imp_iff, true_imp_iff, forall_const, Bool.true_eq_false, minI, maxI, effOp, appendOp, fillT, chunks, T.cells, S.plain, S.lay, St.kill, T.cut, S.cut, S.names, S.reads, Tag.names, mcut, mdrop, mget, mset, List.map_cons, St.box, St.store, St.wipe, setAt, bound, lenS, loadT, List.headD_cons, List.take_succ_cons, List.take_zero, List.take_nil, List.drop_nil, List.drop_zero, List.drop_succ_cons, Tag.sub, List.all_cons, List.all_nil, Nat.reduceLeDiff, Nat.reduceMul, Nat.reduceBEq, Nat.reduceEqDiff, Nat.reduceLT, T.madeAll, T.backAll, nm, List.contains_cons, List.contains_nil, backTag, Int.toNat_natCast, Option.map_some, beq_self_eq_true, Bool.or_true, Bool.true_or, Bool.or_false, Bool.false_or, or_true, or_false, false_or, reduceCtorEq, and_self, and_false, false_and, not_true_eq_false, not_false_eq_true, Bool.not_true, Bool.not_false, td3, td25, td28, td34, td41, td4, tz3, tzz3, Try.results9, add_spec, spec1, spec2, spec3, spec0, hlen, ht]
theorem cand_mem (v g : Int) (i : Fin 10) : i ∈ candL v g ↔ (i.val : Int) < v ∧ hasI g i.val = false := by
  unfold candL
  rw [List.mem_filter]
  simp [List.mem_finRange]
theorem hasI_sel (v s g : Int) (i : Fin 10) : hasI (selI v s g) i.val = true ↔ i ∈ selL v s g := by
  unfold selI
  rw [hasI_out, List.contains_iff_mem]
theorem sel_size (v s g : Int) : sizeI (selI v s g) ≤ max 0 s := by
  unfold sizeI selI
  rw [upto_out (sel_sub v s g)]
  unfold selL
  rw [List.length_take]
  omega
theorem sel_clean (v s g : Int) : bitsI .and .i64 (selI v s g) g = 0 := by
  have hr := and_range (selI v s g) g (out_range _).1 (out_range _).2
  refine zero_of _ hr.1 hr.2 fun i => ?_
  rw [hasI_and _ _ _ i.isLt, ← Bool.not_eq_true, Bool.and_eq_true, hasI_sel]
  rintro ⟨h1, h2⟩
  have := ((cand_mem v g i).1 (List.mem_of_mem_take h1)).2
  rw [h2] at this; cases this
/-- In a longer filter the first ones come no earlier. -/
theorem take_filter_mem {α : Type} (p q : α → Bool) (hpq : ∀ x, p x = true → q x = true) : ∀ (l : List α) (n : Nat) (x : α), x ∈ (l.filter q).take n → p x = true → x ∈ (l.filter p).take n
  | [], n, x, h, _ => by simp at h
  | y :: l, 0, x, h, _ => by simp at h
  | y :: l, n + 1, x, h, hx => by
    by_cases hq : q y = true
    · rw [List.filter_cons_of_pos hq, List.take_succ_cons, List.mem_cons] at h
      by_cases hp : p y = true
      · rw [List.filter_cons_of_pos hp, List.take_succ_cons, List.mem_cons]
        exact h.imp id fun h => take_filter_mem p q hpq l n x h hx
      · rw [List.filter_cons_of_neg (by simpa using hp)]
        rcases h with rfl | h
        · exact absurd hx hp
        · have := take_filter_mem p q hpq l n x h hx
          exact List.mem_of_mem_take (i := n) (by rw [List.take_take, Nat.min_eq_left (by omega)]; exact this)
    · rw [List.filter_cons_of_neg (by simpa using hq)] at h
      rw [List.filter_cons_of_neg (by intro hp; exact hq (hpq y hp))]
      exact take_filter_mem p q hpq l (n + 1) x h hx
theorem sel_stays (v s g e : Int) : bitsI .andNot .i64 (bitsI .andNot .i64 (selI v s g) e) (selI v s (bitsI .or .i64 g e)) = 0 := by
  have h1 := andNot_range (selI v s g) e (out_range _).1 (out_range _).2
  have hr := andNot_range _ (selI v s (bitsI .or .i64 g e)) h1.1 h1.2
  refine zero_of _ hr.1 hr.2 fun i => ?_
  rw [hasI_andNot _ _ _ i.isLt, hasI_andNot _ _ _ i.isLt, ← Bool.not_eq_true, Bool.and_eq_true, Bool.and_eq_true, hasI_sel, Bool.not_eq_true', Bool.not_eq_true', ← Bool.not_eq_true, ← Bool.not_eq_true, hasI_sel]
  rintro ⟨⟨h1, h2⟩, h3⟩
  apply h3
  unfold selL candL at h1 ⊢
  refine take_filter_mem _ _ (fun x hx => ?_) _ _ i h1 ?_
  · rw [hasI_or _ _ _ x.isLt] at hx
    simp only [Bool.and_eq_true, Bool.not_eq_true', Bool.or_eq_false_iff] at hx ⊢
    exact ⟨hx.1, hx.2.1⟩
  · have := (cand_mem v g i).1 (List.mem_of_mem_take h1)
    rw [hasI_or _ _ _ i.isLt]
    simp only [Bool.not_eq_true] at h2
    simp [this.1, this.2, h2]
/-- Who is not taken comes after all that are. -/
theorem sel_left {v s g : Int} {i : Fin 10} (h1 : i ∈ candL v g) (h2 : i ∉ selL v s g) : (selL v s g).length = s.toNat ∧ ∀ x ∈ selL v s g, x.val < i.val := by
  obtain ⟨j, hj, he⟩ := List.mem_iff_getElem.1 h1
  have hsj : s.toNat ≤ j := by
    rcases Nat.lt_or_ge j s.toNat with h | h
    · exfalso
      apply h2
      exact List.mem_iff_getElem.2 ⟨j, by unfold selL; rw [List.length_take]; omega, by simp [selL, he]⟩
    · exact h
  refine ⟨by unfold selL; rw [List.length_take]; omega, fun x hx => ?_⟩
  obtain ⟨k, hk, hx⟩ := List.mem_iff_getElem.1 hx
  unfold selL at hk hx
  rw [List.getElem_take] at hx
  rw [List.length_take] at hk
  have hp : (candL v g).Pairwise (fun a b => a.val < b.val) := sorted10.sublist (cand_sub v g)
  have := List.pairwise_iff_getElem.1 hp k j (by omega) hj (by omega)
  rw [hx, he] at this
  exact this
theorem sim8 (v s g e : Int) : Sim Try.prog 8 [I v, I s, I g, I e] (.one (.bool true)) := by
  refine Sim.of_code Try.func8 (by unfold Try.f8; rfl) Try.ntmps8 Try.call8 [] (by simp) (by rfl) (PW.sw (G := bE) mixed _ _ _ ?_)
  simp only [I, ↓ff_imp, ↓tf_imp, PW, regK, drawK, stepK, quietK, callK, idleK, callOf, argsT, guardOf, pureOp, St.rd, St.eval, rdg, List.getD, List.getElem?_cons_zero, List.getElem?_cons_succ, List.cons_append, List.nil_append, List.replicate, List.length, List.getElem?_nil, Option.getD, T.ofValue, S.ofValue, St.put, List.set, binT, binI, thenQ, blockQ, scopeQ, Nat.reduceSub, Nat.reduceAdd, true_and, and_true, if_true, if_false, true_or, Option.bind, List.getElem?_toArray, eqOp, PS.Ends, resOf, packT, St.out, T.sub, S.sub, tagSub, LeT_bool, LeT_int, beq_true, beq_false, imp_self, implies_true, Bool.and_true, Bool.true_and, Bool.and_false, Bool.false_and, T.lend, S.lend, Tag.lend, T.back, S.back, T.made, S.made, Tag.made, St.ret, St.kills, List.map_nil, List.foldl_nil, List.foldl_cons, Bool.false_eq_true, false_imp_iff, true_imp_iff, forall_const, Bool.true_eq_false, minI, maxI, effOp, appendOp, fillT, chunks, T.cells, S.plain, S.lay, St.kill, T.cut, S.cut, S.names, S.reads, Tag.names, mcut, mdrop, mget, mset, List.map_cons, St.box, St.store, St.wipe, setAt, bound, lenS, loadT, List.headD_cons, List.take_succ_cons, List.take_zero, List.take_nil, List.drop_nil, List.drop_zero, List.drop_succ_cons, Tag.sub, List.all_cons, List.all_nil, Nat.reduceLeDiff, Nat.reduceMul, Nat.reduceBEq, Nat.reduceEqDiff, Nat.reduceLT, T.madeAll, T.backAll, nm, List.contains_cons, List.contains_nil, backTag, Int.toNat_natCast, Option.map_some, beq_self_eq_true, Bool.or_true, Bool.true_or, Bool.or_false, Bool.false_or, or_true, or_false, false_or, reduceCtorEq, and_self, and_false, false_and, not_true_eq_false, not_false_eq_true, Bool.not_true, Bool.not_false, td3, td25, td28, td34, td41, td4, tz3, Try.results8, add_spec, spec1, spec2, spec3, spec0, specR]
  obtain ⟨V, hV, v1, v2⟩ : ∃ V, IntKind.i64.wrap ((IntKind.u64.wrap v).tmod 11) = V ∧ 0 ≤ V ∧ V < 11 := by
    refine ⟨_, rfl, ?_⟩
    rw [u64_e, Int.tmod_eq_emod_of_nonneg (by omega), wrap_e]
    omega
  obtain ⟨N, hN, n1, n2⟩ : ∃ N, IntKind.i64.wrap ((IntKind.u64.wrap s).tmod 8) = N ∧ 0 ≤ N ∧ N < 8 := by
    refine ⟨_, rfl, ?_⟩
    rw [u64_e, Int.tmod_eq_emod_of_nonneg (by omega), wrap_e]
    omega
  simp only [hV, hN]
  have hok : i64ok N := by unfold i64ok; omega
  generalize hge : bitsI .or .i64 g e = ge
  have q1 : decide (sizeI (selI V N g) > N) = false := by
    rw [decide_eq_false_iff_not]
    have := sel_size V N g
    omega
  have q2 := sel_clean V N ge
  have q3 := sel_stays V N g e
  rw [hge] at q3
  simp only [q1, q2, q3]
  refine ⟨by decide, by decide, hok, hok, fun h => by simp at h, fun _ => ?_⟩
  refine SW.loop (fun j => ⟨[I V, I N, I g, I e, .un, .un, .un, .un, .one (.bool false), .un, I (selI V N ge), I (j : Nat)] ++ List.replicate 76 .un, []⟩) (fun j => (j : Int) ≤ V) (fun j => V.toNat - j) 0 ?_ (by omega) ?_
  · refine Le.mk ?_ (LeM.nil _)
    simp only [I, LeTs, LeT.un, LeT.refl, true_and, and_true, and_self, ↓ff_imp, ↓tf_imp, PW, regK, drawK, stepK, quietK, callK, idleK, callOf, argsT, guardOf, pureOp, St.rd, St.eval, rdg, List.getD, List.getElem?_cons_zero, List.getElem?_cons_succ, List.cons_append, List.nil_append, List.replicate, List.length, List.getElem?_nil, Option.getD, T.ofValue, S.ofValue, St.put, List.set, binT, binI, thenQ, blockQ, scopeQ, Nat.reduceSub, Nat.reduceAdd, true_and, and_true, if_true, if_false, true_or, Option.bind, List.getElem?_toArray, eqOp, PS.Ends, resOf, packT, St.out, T.sub, S.sub, tagSub, LeT_bool, LeT_int, beq_true, beq_false, imp_self, implies_true, Bool.and_true, Bool.true_and, Bool.and_false, Bool.false_and, T.lend, S.lend, Tag.lend, T.back, S.back, T.made, S.made, Tag.made, St.ret, St.kills, List.map_nil, List.foldl_nil, List.foldl_cons, Bool.false_eq_true, false_imp_iff, true_imp_iff, forall_const, Bool.true_eq_false, minI, maxI, effOp, appendOp, fillT, chunks, T.cells, S.plain, S.lay, St.kill, T.cut, S.cut, S.names, S.reads, Tag.names, mcut, mdrop, mget, mset, List.map_cons, St.box, St.store, St.wipe, setAt, bound, lenS, loadT, List.headD_cons, List.take_succ_cons, List.take_zero, List.take_nil, List.drop_nil, List.drop_zero, List.drop_succ_cons, Tag.sub, List.all_cons, List.all_nil, Nat.reduceLeDiff, Nat.reduceMul, Nat.reduceBEq, Nat.reduceEqDiff, Nat.reduceLT, T.madeAll, T.backAll, nm, List.contains_cons, List.contains_nil, backTag, Int.toNat_natCast, Option.map_some, beq_self_eq_true, Bool.or_true, Bool.true_or, Bool.or_false, Bool.false_or, or_true, or_false, false_or, reduceCtorEq, and_self, and_false, false_and, not_true_eq_false, not_false_eq_true, Bool.not_true, Bool.not_false]
    rfl
  · intro j hj
    have hw : IntKind.i64.wrap ((j : Int) + 1) = ((j + 1 : Nat) : Int) := by rw [wrap_id] <;> (try unfold i64ok) <;> omega
    have hlen : (row (idsL (selI V N ge))).length = (selL V N ge).length := by
      simp only [row, idsL, List.length_map]
      unfold selI
      rw [upto_out (sel_sub _ _ _)]
    refine PW.sw (G := bE) mixed _ _ _ ?_
    by_cases hjl : (j : Int) < V
    · have ht : decide ((j : Int) < V) = true := by simp; omega
      have hj10 : j < 10 := by omega
      -- whether it is free and left
      cases hA : hasI (selI V N ge) j with
      | true =>
        simp only [I, ↓ff_imp, ↓tf_imp, PW, regK, drawK, stepK, quietK, callK, idleK, callOf, argsT, guardOf, pureOp, St.rd, St.eval, rdg, List.getD, List.getElem?_cons_zero, List.getElem?_cons_succ, List.cons_append, List.nil_append, List.replicate, List.length, List.getElem?_nil, Option.getD, T.ofValue, S.ofValue, St.put, List.set, binT, binI, thenQ, blockQ, scopeQ, Nat.reduceSub, Nat.reduceAdd, true_and, and_true, if_true, if_false, true_or, Option.bind, List.getElem?_toArray, eqOp, PS.Ends, resOf, packT, St.out, T.sub, S.sub, tagSub, LeT_bool, LeT_int, beq_true, beq_false, imp_self, implies_true, Bool.and_true, Bool.true_and, Bool.and_false, Bool.false_and, T.lend, S.lend, Tag.lend, T.back, S.back, T.made, S.made, Tag.made, St.ret, St.kills, List.map_nil, List.foldl_nil, List.foldl_cons, Bool.false_eq_true, false_imp_iff, true_imp_iff, forall_const, Bool.true_eq_false, minI, maxI, effOp, appendOp, fillT, chunks, T.cells, S.plain, S.lay, St.kill, T.cut, S.cut, S.names, S.reads, Tag.names, mcut, mdrop, mget, mset, List.map_cons, St.box, St.store, St.wipe, setAt, bound, lenS, loadT, List.headD_cons, List.take_succ_cons, List.take_zero, List.take_nil, List.drop_nil, List.drop_zero, List.drop_succ_cons, Tag.sub, List.all_cons, List.all_nil, Nat.reduceLeDiff, Nat.reduceMul, Nat.reduceBEq, Nat.reduceEqDiff, Nat.reduceLT, T.madeAll, T.backAll, nm, List.contains_cons, List.contains_nil, backTag, Int.toNat_natCast, Option.map_some, beq_self_eq_true, Bool.or_true, Bool.true_or, Bool.or_false, Bool.false_or, or_true, or_false, false_or, reduceCtorEq, and_self, and_false, false_and, not_true_eq_false, not_false_eq_true, Bool.not_true, Bool.not_false, td3, td25, td28, td34, td41, td4, tz3, tzz3, Try.results8, add_spec, spec1, spec2, spec3, spec0, hlen, hw, ht, hA, hge]
        refine ⟨j + 1, Le.mk ?_ (LeM.nil _), by omega, by omega⟩
        simp only [LeTs, LeT.un, LeT.refl, true_and, and_true, and_self]
      | false =>
        cases hB : hasI ge j with
        | true =>
          simp only [I, ↓ff_imp, ↓tf_imp, PW, regK, drawK, stepK, quietK, callK, idleK, callOf, argsT, guardOf, pureOp, St.rd, St.eval, rdg, List.getD, List.getElem?_cons_zero, List.getElem?_cons_succ, List.cons_append, List.nil_append, List.replicate, List.length, List.getElem?_nil, Option.getD, T.ofValue, S.ofValue, St.put, List.set, binT, binI, thenQ, blockQ, scopeQ, Nat.reduceSub, Nat.reduceAdd, true_and, and_true, if_true, if_false, true_or, Option.bind, List.getElem?_toArray, eqOp, PS.Ends, resOf, packT, St.out, T.sub, S.sub, tagSub, LeT_bool, LeT_int, beq_true, beq_false, imp_self, implies_true, Bool.and_true, Bool.true_and, Bool.and_false, Bool.false_and, T.lend, S.lend, Tag.lend, T.back, S.back, T.made, S.made, Tag.made, St.ret, St.kills, List.map_nil, List.foldl_nil, List.foldl_cons, Bool.false_eq_true, false_imp_iff, true_imp_iff, forall_const, Bool.true_eq_false, minI, maxI, effOp, appendOp, fillT, chunks, T.cells, S.plain, S.lay, St.kill, T.cut, S.cut, S.names, S.reads, Tag.names, mcut, mdrop, mget, mset, List.map_cons, St.box, St.store, St.wipe, setAt, bound, lenS, loadT, List.headD_cons, List.take_succ_cons, List.take_zero, List.take_nil, List.drop_nil, List.drop_zero, List.drop_succ_cons, Tag.sub, List.all_cons, List.all_nil, Nat.reduceLeDiff, Nat.reduceMul, Nat.reduceBEq, Nat.reduceEqDiff, Nat.reduceLT, T.madeAll, T.backAll, nm, List.contains_cons, List.contains_nil, backTag, Int.toNat_natCast, Option.map_some, beq_self_eq_true, Bool.or_true, Bool.true_or, Bool.or_false, Bool.false_or, or_true, or_false, false_or, reduceCtorEq, and_self, and_false, false_and, not_true_eq_false, not_false_eq_true, Bool.not_true, Bool.not_false, td3, td25, td28, td34, td41, td4, tz3, tzz3, Try.results8, add_spec, spec1, spec2, spec3, spec0, hlen, hw, ht, hA, hB, hge]
          refine ⟨j + 1, Le.mk ?_ (LeM.nil _), by omega, by omega⟩
          simp only [LeTs, LeT.un, LeT.refl, true_and, and_true, and_self]
        | false =>
          have hc : (⟨j, hj10⟩ : Fin 10) ∈ candL V ge := (cand_mem V ge ⟨j, hj10⟩).2 ⟨hjl, hB⟩
          have hnc : (⟨j, hj10⟩ : Fin 10) ∉ selL V N ge := fun h => by
            have := (hasI_sel V N ge ⟨j, hj10⟩).2 h
            rw [hA] at this; cases this
          obtain ⟨hl1, hl2⟩ := sel_left hc hnc
          have hl3 : ((selL V N ge).length : Int) = N := by rw [hl1]; omega
          have hne : (N != N) = false := by simp
          by_cases hN0 : 0 < N
          · have ht2 : decide (N > 0) = true := by simp; omega
            have hix : (IntKind.i64.wrap (N - 1)).toNat = N.toNat - 1 := by rw [wrap_id (by unfold i64ok; omega)]; omega
            have hlt : N.toNat - 1 < (selL V N ge).length := by omega
            have hup : upto (selI V N ge) 10 = selL V N ge := upto_out (sel_sub _ _ _)
            have hat : (row (idsL (selI V N ge)))[(IntKind.i64.wrap (N - 1)).toNat]? = some [.int .i64 ((selL V N ge)[N.toNat - 1].val : Nat)] := by
              rw [hix]
              have := idsL_at (m := selI V N ge) (j := N.toNat - 1) (by rw [hup]; exact hlt)
              simpa only [hup] using this
            have hle : decide ((((selL V N ge)[N.toNat - 1].val : Nat) : Int) > (j : Int)) = false := by
              rw [decide_eq_false_iff_not]
              have := hl2 _ (List.getElem_mem hlt)
              dsimp only at this
              omega
            simp only [I, ↓ff_imp, ↓tf_imp, PW, regK, drawK, stepK, quietK, callK, idleK, callOf, argsT, guardOf, pureOp, St.rd, St.eval, rdg, List.getD, List.getElem?_cons_zero, List.getElem?_cons_succ, List.cons_append, List.nil_append, List.replicate, List.length, List.getElem?_nil, Option.getD, T.ofValue, S.ofValue, St.put, List.set, binT, binI, thenQ, blockQ, scopeQ, Nat.reduceSub, Nat.reduceAdd, true_and, and_true, if_true, if_false, true_or, Option.bind, List.getElem?_toArray, eqOp, PS.Ends, resOf, packT, St.out, T.sub, S.sub, tagSub, LeT_bool, LeT_int, beq_true, beq_false, imp_self, implies_true, Bool.and_true, Bool.true_and, Bool.and_false, Bool.false_and, T.lend, S.lend, Tag.lend, T.back, S.back, T.made, S.made, Tag.made, St.ret, St.kills, List.map_nil, List.foldl_nil, List.foldl_cons, Bool.false_eq_true, false_imp_iff, true_imp_iff, forall_const, Bool.true_eq_false, minI, maxI, effOp, appendOp, fillT, chunks, T.cells, S.plain, S.lay, St.kill, T.cut, S.cut, S.names, S.reads, Tag.names, mcut, mdrop, mget, mset, List.map_cons, St.box, St.store, St.wipe, setAt, bound, lenS, loadT, List.headD_cons, List.take_succ_cons, List.take_zero, List.take_nil, List.drop_nil, List.drop_zero, List.drop_succ_cons, Tag.sub, List.all_cons, List.all_nil, Nat.reduceLeDiff, Nat.reduceMul, Nat.reduceBEq, Nat.reduceEqDiff, Nat.reduceLT, T.madeAll, T.backAll, nm, List.contains_cons, List.contains_nil, backTag, Int.toNat_natCast, Option.map_some, beq_self_eq_true, Bool.or_true, Bool.true_or, Bool.or_false, Bool.false_or, or_true, or_false, false_or, reduceCtorEq, and_self, and_false, false_and, not_true_eq_false, not_false_eq_true, Bool.not_true, Bool.not_false, td3, td25, td28, td34, td41, td4, tz3, tzz3, Try.results8, add_spec, spec1, spec2, spec3, spec0, hlen, hw, ht, hA, hB, hge, hl3, hne, ht2, hat, hle]
            refine ⟨?_, j + 1, Le.mk ?_ (LeM.nil _), by omega, by omega⟩
            · rw [wrap_id (by unfold i64ok; omega)]; omega
            · simp only [LeTs, LeT.un, LeT.refl, true_and, and_true, and_self]
          · have ht2 : decide (N > 0) = false := by simp; omega
            have hN1 : N = 0 := by omega
            have hat : (row (idsL (selI V N ge)))[(IntKind.i64.wrap (N - 1)).toNat]? = none := by
              rw [List.getElem?_eq_none]
              rw [hlen]; omega
            simp only [I, ↓ff_imp, ↓tf_imp, PW, regK, drawK, stepK, quietK, callK, idleK, callOf, argsT, guardOf, pureOp, St.rd, St.eval, rdg, List.getD, List.getElem?_cons_zero, List.getElem?_cons_succ, List.cons_append, List.nil_append, List.replicate, List.length, List.getElem?_nil, Option.getD, T.ofValue, S.ofValue, St.put, List.set, binT, binI, thenQ, blockQ, scopeQ, Nat.reduceSub, Nat.reduceAdd, true_and, and_true, if_true, if_false, true_or, Option.bind, List.getElem?_toArray, eqOp, PS.Ends, resOf, packT, St.out, T.sub, S.sub, tagSub, LeT_bool, LeT_int, beq_true, beq_false, imp_self, implies_true, Bool.and_true, Bool.true_and, Bool.and_false, Bool.false_and, T.lend, S.lend, Tag.lend, T.back, S.back, T.made, S.made, Tag.made, St.ret, St.kills, List.map_nil, List.foldl_nil, List.foldl_cons, Bool.false_eq_true, false_imp_iff, true_imp_iff, forall_const, Bool.true_eq_false, minI, maxI, effOp, appendOp, fillT, chunks, T.cells, S.plain, S.lay, St.kill, T.cut, S.cut, S.names, S.reads, Tag.names, mcut, mdrop, mget, mset, List.map_cons, St.box, St.store, St.wipe, setAt, bound, lenS, loadT, List.headD_cons, List.take_succ_cons, List.take_zero, List.take_nil, List.drop_nil, List.drop_zero, List.drop_succ_cons, Tag.sub, List.all_cons, List.all_nil, Nat.reduceLeDiff, Nat.reduceMul, Nat.reduceBEq, Nat.reduceEqDiff, Nat.reduceLT, T.madeAll, T.backAll, nm, List.contains_cons, List.contains_nil, backTag, Int.toNat_natCast, Option.map_some, beq_self_eq_true, Bool.or_true, Bool.true_or, Bool.or_false, Bool.false_or, or_true, or_false, false_or, reduceCtorEq, and_self, and_false, false_and, not_true_eq_false, not_false_eq_true, Bool.not_true, Bool.not_false, td3, td25, td28, td34, td41, td4, tz3, tzz3, Try.results8, add_spec, spec1, spec2, spec3, spec0, hlen, hw, ht, hA, hB, hge, hl3, hne, ht2, hat]
            refine ⟨j + 1, Le.mk ?_ (LeM.nil _), by omega, by omega⟩
            simp only [LeTs, LeT.un, LeT.refl, true_and, and_true, and_self]
    · have ht : decide ((j : Int) < V) = false := by simp; omega
      simp only [I, ↓ff_imp, ↓tf_imp, PW, regK, drawK, stepK, quietK, callK, idleK, callOf, argsT, guardOf, pureOp, St.rd, St.eval, rdg, List.getD, List.getElem?_cons_zero, List.getElem?_cons_succ, List.cons_append, List.nil_append, List.replicate, List.length, List.getElem?_nil, Option.getD, T.ofValue, S.ofValue, St.put, List.set, binT, binI, thenQ, blockQ, scopeQ, Nat.reduceSub, Nat.reduceAdd, true_and, and_true, if_true, if_false, true_or, Option.bind, List.getElem?_toArray, eqOp, PS.Ends, resOf, packT, St.out, T.sub, S.sub, tagSub, LeT_bool, LeT_int, beq_true, beq_false, imp_self, implies_true, Bool.and_true, Bool.true_and, Bool.and_false, Bool.false_and, T.lend, S.lend, Tag.lend, T.back, S.back, T.made, S.made, Tag.made, St.ret, St.kills, List.map_nil, List.foldl_nil, List.foldl_cons, Bool.false_eq_true, false_imp_iff, true_imp_iff, forall_const, Bool.true_eq_false, minI, maxI, effOp, appendOp, fillT, chunks, T.cells, S.plain, S.lay, St.kill, T.cut, S.cut, S.names, S.reads, Tag.names, mcut, mdrop, mget, mset, List.map_cons, St.box, St.store, St.wipe, setAt, bound, lenS, loadT, List.headD_cons, List.take_succ_cons, List.take_zero, List.take_nil, List.drop_nil, List.drop_zero, List.drop_succ_cons, Tag.sub, List.all_cons, List.all_nil, Nat.reduceLeDiff, Nat.reduceMul, Nat.reduceBEq, Nat.reduceEqDiff, Nat.reduceLT, T.madeAll, T.backAll, nm, List.contains_cons, List.contains_nil, backTag, Int.toNat_natCast, Option.map_some, beq_self_eq_true, Bool.or_true, Bool.true_or, Bool.or_false, Bool.false_or, or_true, or_false, false_or, reduceCtorEq, and_self, and_false, false_and, not_true_eq_false, not_false_eq_true, Bool.not_true, Bool.not_false, td3, td25, td28, td34, td41, td4, tz3, tzz3, Try.results8, add_spec, spec1, spec2, spec3, spec0, ht]
end Go.Proofs.Ytffdhbejffbfkaa
