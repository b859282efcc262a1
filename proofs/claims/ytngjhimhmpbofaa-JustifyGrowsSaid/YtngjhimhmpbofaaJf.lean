/- The committee's functions as contracts, second part. -/
import Derived.Test.YtngjhimhmpbofaaJe
set_option linter.unusedSimpArgs false
set_option linter.unusedVariables false
set_option maxRecDepth 100000
namespace Go.Proofs.Ytngjhimhmpbofaa
open Go Go.PS
def _root_.Go.PS.Book.add {P : Program} (G : Book P) (f : Nat) (spec : List T → Option (Prop × T)) (h : ∀ args ob r, spec args = some (ob, r) → ob → Sim P f args r) : Book P :=
  ⟨fun f' args => if f' = f then spec args else G.spec f' args, fun f' args ob r hs ho => by
    split at hs
    · rename_i e; subst e; exact h args ob r hs ho
    · exact G.good f' args ob r hs ho⟩
theorem add_spec {P : Program} (G : Book P) (f : Nat) (spec : List T → Option (Prop × T)) (h : ∀ args ob r, spec args = some (ob, r) → ob → Sim P f args r) (f' : Nat) (args : List T) :
    (G.add f spec h).spec f' args = if f' = f then spec args else G.spec f' args := rfl
def spec1 (p : Int → Prop) (r : Int → T) : List T → Option (Prop × T)
  | [.one (.int .i64 n)] => some (p n, r n)
  | _ => none
theorem spec1_good {f : Nat} {p : Int → Prop} {r : Int → T} (h : ∀ n, p n → Sim Try.prog f [I n] (r n)) : ∀ args ob t, spec1 p r args = some (ob, t) → ob → Sim Try.prog f args t := by
  intro args ob t hs ho
  unfold spec1 at hs
  split at hs
  · cases hs; exact h _ ho
  · cases hs
def spec2 (p : Int → Int → Prop) (r : Int → Int → T) : List T → Option (Prop × T)
  | [.one (.int .i64 n), .one (.int .i64 k)] => some (p n k, r n k)
  | _ => none
theorem spec2_good {f : Nat} {p : Int → Int → Prop} {r : Int → Int → T} (h : ∀ n k, p n k → Sim Try.prog f [I n, I k] (r n k)) : ∀ args ob t, spec2 p r args = some (ob, t) → ob → Sim Try.prog f args t := by
  intro args ob t hs ho
  unfold spec2 at hs
  split at hs
  · cases hs; exact h _ _ ho
  · cases hs
def specU (r : Int → T) : List T → Option (Prop × T)
  | [.one (.int .u64 n)] => some (True, r n)
  | _ => none
theorem specU_good {f : Nat} {r : Int → T} (h : ∀ n, Sim Try.prog f [.one (.int .u64 n)] (r n)) : ∀ args ob t, specU r args = some (ob, t) → ob → Sim Try.prog f args t := by
  intro args ob t hs ho
  unfold specU at hs
  split at hs
  · cases hs; exact h _
  · cases hs
/-- A scalar result is a scalar result at the caller. -/
theorem sim33 (x : Int) : Sim Try.prog 33 [.one (.int .u64 x)] (I (popI x)) := by
  refine Sim.of_code Try.func33 (by unfold Try.f33; rfl) Try.ntmps33 Try.call33 [] (by simp) (by rfl) (PW.sw (G := book0.add 53 (specU fun x => I (popI x)) (specU_good sim53)) mixed _ _ _ ?_)
  simp only [I, ↓ff_imp, ↓tf_imp, PW, PW1, regK, drawK, stepK, quietK, callK, idleK, fnK, argsV, T.val?, S.val?, boundT, lendBox_fn, lendBox_int, lendBox_bool, lendBox_nilp, List.flatMap_cons, List.flatMap_nil, S.reach, S.nameL, Tag.nameL, callOf, argsT, guardOf, pureOp, St.rd, St.eval, rdg, List.getD, List.getElem?_cons_zero, List.getElem?_cons_succ, List.cons_append, List.nil_append, List.replicate, List.length, List.getElem?_nil, Option.getD, T.ofValue, S.ofValue, St.put, List.set, binT, binI, thenQ, blockQ, scopeQ, Nat.reduceSub, Nat.reduceAdd, true_and, and_true, if_true, if_false, true_or, Option.bind, List.getElem?_toArray, eqOp, PS.Ends, resOf, packT, St.out, T.sub, S.sub, tagSub, LeT_bool, LeT_int, beq_true, beq_false, imp_self, implies_true, Bool.and_true, Bool.true_and, Bool.and_false, Bool.false_and, T.lend, S.lend, Tag.lend, T.back, S.back, T.made, S.made, Tag.made, St.ret, St.kills, List.map_nil, List.foldl_nil, List.foldl_cons, Bool.false_eq_true, false_imp_iff, true_imp_iff, forall_const, Bool.true_eq_false, minI, maxI, effOp, appendOp, fillT, chunks, T.cells, S.plain, S.lay, St.kill, T.cut, cutn_un, cutn_bool, cutn_int, cutn_str, cutn_nilp, cutn_sl, cutn_el, cutn_fn, cutn_fref, cutn_ptr, cutr_un, cutr_bool, cutr_int, cutr_str, cutr_nilp, cutr_sl, cutr_el, cutr_fn, cutr_fref, cutr_ptr, Tag.names, mcut, mdrop, mget, mset, List.map_cons, St.box, St.store, St.wipe, setAt, bound, lenS, loadT, List.headD_cons, List.take_succ_cons, List.take_zero, List.take_nil, List.drop_nil, List.drop_zero, List.drop_succ_cons, Tag.sub, List.all_cons, List.all_nil, Nat.reduceLeDiff, Nat.reduceMul, Nat.reduceBEq, Nat.reduceEqDiff, Nat.reduceLT, T.madeAll, T.backAll, nm, List.contains_cons, List.contains_nil, backTag, Int.toNat_natCast, Option.map_some, beq_self_eq_true, Bool.or_true, Bool.true_or, Bool.or_false, Bool.false_or, or_true, or_false, false_or, reduceCtorEq, and_self, and_false, false_and, not_true_eq_false, not_false_eq_true, Bool.not_true, Bool.not_false, td3, td22, td59, td39, td4, Try.results33, add_spec, specU]
theorem hasI_mod (m : Int) (i : Nat) (hi : i < 10) : hasI (m % 1024) i = hasI m i := by
  have : ∀ i : Fin 10, hasI (m % 1024) i.val = hasI m i.val := by
    intro i
    unfold hasI bitI
    have h1 : (0 : Int) ≤ i.val := by omega
    have h2 : (i.val : Int) < 10 := by omega
    simp only [h1, h2, decide_true, Bool.true_and, Int.toNat_natCast]
    congr 1
    obtain ⟨i, hi⟩ := i
    have : i = 0 ∨ i = 1 ∨ i = 2 ∨ i = 3 ∨ i = 4 ∨ i = 5 ∨ i = 6 ∨ i = 7 ∨ i = 8 ∨ i = 9 := by omega
    rcases this with rfl | rfl | rfl | rfl | rfl | rfl | rfl | rfl | rfl | rfl <;> dsimp only <;> omega
  exact this ⟨i, hi⟩
theorem upto_mod (m : Int) (k : Nat) : upto (m % 1024) k = upto m k := by
  unfold upto
  apply List.filter_congr
  intro i _
  exact hasI_mod m i.val i.isLt
theorem and_1023 (x : Int) : bitsI .and .i64 x 1023 = x % 1024 := by
  have h1 : (BitVec.ofInt 64 x &&& BitVec.ofInt 64 1023).toNat = (BitVec.ofInt 64 x).toNat % 1024 := by
    rw [BitVec.toNat_and]
    exact Nat.and_two_pow_sub_one_eq_mod _ 10
  have h2 : ((BitVec.ofInt 64 x).toNat : Int) = x % 18446744073709551616 := by
    rw [BitVec.toNat_ofInt]
    omega
  show IntKind.i64.wrap ((BitVec.ofInt 64 x &&& BitVec.ofInt 64 1023).toNat : Int) = x % 1024
  rw [h1, wrap_id] <;> (try unfold i64ok) <;> omega
def sizeI (m : Int) : Int := (upto m 10).length
theorem sim16 (m : Int) : Sim Try.prog 16 [I m] (I (sizeI m)) := by
  refine Sim.of_code Try.func16 (by unfold Try.f16; rfl) Try.ntmps16 Try.call16 [] (by simp) (by rfl) (PW.sw (G := book0.add 33 (specU fun x => I (popI x)) (specU_good sim33)) mixed _ _ _ ?_)
  simp only [I, ↓ff_imp, ↓tf_imp, PW, PW1, regK, drawK, stepK, quietK, callK, idleK, fnK, argsV, T.val?, S.val?, boundT, lendBox_fn, lendBox_int, lendBox_bool, lendBox_nilp, List.flatMap_cons, List.flatMap_nil, S.reach, S.nameL, Tag.nameL, callOf, argsT, guardOf, pureOp, St.rd, St.eval, rdg, List.getD, List.getElem?_cons_zero, List.getElem?_cons_succ, List.cons_append, List.nil_append, List.replicate, List.length, List.getElem?_nil, Option.getD, T.ofValue, S.ofValue, St.put, List.set, binT, binI, thenQ, blockQ, scopeQ, Nat.reduceSub, Nat.reduceAdd, true_and, and_true, if_true, if_false, true_or, Option.bind, List.getElem?_toArray, eqOp, PS.Ends, resOf, packT, St.out, T.sub, S.sub, tagSub, LeT_bool, LeT_int, beq_true, beq_false, imp_self, implies_true, Bool.and_true, Bool.true_and, Bool.and_false, Bool.false_and, T.lend, S.lend, Tag.lend, T.back, S.back, T.made, S.made, Tag.made, St.ret, St.kills, List.map_nil, List.foldl_nil, List.foldl_cons, Bool.false_eq_true, false_imp_iff, true_imp_iff, forall_const, Bool.true_eq_false, minI, maxI, effOp, appendOp, fillT, chunks, T.cells, S.plain, S.lay, St.kill, T.cut, cutn_un, cutn_bool, cutn_int, cutn_str, cutn_nilp, cutn_sl, cutn_el, cutn_fn, cutn_fref, cutn_ptr, cutr_un, cutr_bool, cutr_int, cutr_str, cutr_nilp, cutr_sl, cutr_el, cutr_fn, cutr_fref, cutr_ptr, Tag.names, mcut, mdrop, mget, mset, List.map_cons, St.box, St.store, St.wipe, setAt, bound, lenS, loadT, List.headD_cons, List.take_succ_cons, List.take_zero, List.take_nil, List.drop_nil, List.drop_zero, List.drop_succ_cons, Tag.sub, List.all_cons, List.all_nil, Nat.reduceLeDiff, Nat.reduceMul, Nat.reduceBEq, Nat.reduceEqDiff, Nat.reduceLT, T.madeAll, T.backAll, nm, List.contains_cons, List.contains_nil, backTag, Int.toNat_natCast, Option.map_some, beq_self_eq_true, Bool.or_true, Bool.true_or, Bool.or_false, Bool.false_or, or_true, or_false, false_or, reduceCtorEq, and_self, and_false, false_and, not_true_eq_false, not_false_eq_true, Bool.not_true, Bool.not_false, td3, td22, td59, td39, td4, Try.results16, add_spec, specU]
  rw [and_1023, u64_id (by omega)]
  have h := pop_mask ⟨(m % 1024).toNat, by omega⟩
  have e : (((m % 1024).toNat : Nat) : Int) = m % 1024 := by omega
  simp only [e] at h
  rw [h, upto_mod]; rfl
end Go.Proofs.Ytngjhimhmpbofaa
