/- Backers, conflicts, a third: contracts. -/
import Derived.Test.YtngjhimhmpbofaaJr
set_option linter.unusedSimpArgs false
set_option linter.unusedVariables false
set_option maxRecDepth 100000
namespace Go.Proofs.Ytngjhimhmpbofaa
open Go Go.PS
/-- A vote as a list of numbers. -/
def nums (v : Vt) : List Int := [v.kind, v.slot, v.round, v.choice, v.signer, v.support] ++ (v.parent ++ v.value)
theorem eqL_ints : ∀ (l l' : List (IntKind × Int)), l.map (·.1) = l'.map (·.1) → eqL (List.replicate l.length .int) (l.map fun x => .int x.1 x.2) (l'.map fun x => .int x.1 x.2) = some (decide (l.map (·.2) = l'.map (·.2)))
  | [], [], _ => rfl
  | [], _ :: _, h => by cases h
  | _ :: _, [], h => by cases h
  | (k, x) :: l, (k', y) :: l', h => by
    simp only [List.map_cons, List.cons.injEq] at h
    have ih := eqL_ints l l' h.2
    show (match leafEq .int (.int k x) (.int k' y), eqL (List.replicate l.length .int) (l.map fun x => .int x.1 x.2) (l'.map fun x => .int x.1 x.2) with
      | some a, some b => some (a && b)
      | _, _ => none) = _
    rw [ih, h.1]
    simp [leafEq, Bool.beq_eq_decide_eq]
def kin (v : Vt) : List (IntKind × Int) := [(.i64, v.kind), (.i64, v.slot), (.i64, v.round), (.i64, v.choice), (.i64, v.signer), (.i64, v.support)] ++ (v.parent.map (fun x => (.u8, x)) ++ v.value.map (fun x => (.u8, x)))
theorem kin_vc (v : Vt) : (kin v).map (fun x => S.int x.1 x.2) = vc v := by simp [kin, vc, bts, Function.comp_def]
theorem kin_nums (v : Vt) : (kin v).map (·.2) = nums v := by simp [kin, nums, Function.comp_def]
theorem kin_len (v : Vt) : (kin v).length = 22 := by simp [kin, v.hp, v.hv]
theorem kin_kinds (v w : Vt) : (kin v).map (·.1) = (kin w).map (·.1) := by
  have e : ∀ (l : List Int), l.map (fun x => (IntKind.u8, x).1) = List.replicate l.length .u8 := fun l => by
    rw [show (fun x : Int => (IntKind.u8, x).1) = fun _ => IntKind.u8 from rfl, List.map_const']
  have e' : ∀ (l : List Int), (l.map (fun x => (IntKind.u8, x))).map (·.1) = List.replicate l.length .u8 := fun l => by
    rw [List.map_map]; exact e l
  simp only [kin, List.map_append, List.map_cons, List.map_nil, e', v.hp, v.hv, w.hp, w.hv]
def eqV (v w : Vt) : Bool := decide (nums v = nums w)
def lk22 : List LK := List.replicate 22 .int
theorem eq_vt (v w : Vt) : eqL lk22 (vc v) (vc w) = some (eqV v w) := by
  have := eqL_ints (kin v) (kin w) (kin_kinds v w)
  rw [kin_len, kin_vc, kin_vc, kin_nums, kin_nums] at this
  exact this
theorem fl26 : flatEq Try.prog 26 = some lk22 := by kernel_rfl
def keyB (v w : Vt) : Bool :=
  if (if (if (if v.kind == w.kind then decide (v.parent = w.parent) else false) then v.slot == w.slot else false) then v.round == w.round else false) then v.signer == w.signer else false
theorem sim34 (v w : Vt) : Sim Try.prog 34 [V v, V w] (.one (.bool (keyB v w))) := by
  refine Sim.of_code Try.func34 (by unfold Try.f34; rfl) Try.ntmps34 Try.call34 [] (by simp) (by rfl) (PW.sw (G := book0) mixed _ _ _ ?_)
  simp (maxSteps := 3000000) only [I, V, ↓ff_imp, ↓tf_imp, PW, PW1, regK, drawK, stepK, quietK, callK, idleK, fnK, argsV, T.val?, S.val?, boundT, lendBox_fn, lendBox_int, lendBox_bool, lendBox_nilp, List.flatMap_cons, List.flatMap_nil, S.reach, S.nameL, Tag.nameL, callOf, argsT, guardOf, pureOp, St.rd, St.eval, rdg, List.getD, List.getElem?_cons_zero, List.getElem?_cons_succ, List.cons_append, List.nil_append, List.replicate, List.length, List.getElem?_nil, Option.getD, T.ofValue, S.ofValue, St.put, List.set, binT, binI, thenQ, blockQ, scopeQ, Nat.reduceSub, Nat.reduceAdd, true_and, and_true, if_true, if_false, true_or, Option.bind, List.getElem?_toArray, eqOp, PS.Ends, resOf, packT, St.out, T.sub, S.sub, tagSub, LeT_bool, LeT_int, beq_true, beq_false, imp_self, implies_true, Bool.and_true, Bool.true_and, Bool.and_false, Bool.false_and, T.lend, S.lend, Tag.lend, T.back, S.back, T.made, S.made, Tag.made, St.ret, St.kills, List.map_nil, List.foldl_nil, List.foldl_cons, Bool.false_eq_true, false_imp_iff, true_imp_iff, forall_const, Bool.true_eq_false, minI, maxI, effOp, appendOp, fillT, chunks, T.cells, S.plain, S.lay, St.kill, T.cut, cutn_un, cutn_bool, cutn_int, cutn_str, cutn_nilp, cutn_sl, cutn_el, cutn_fn, cutn_fref, cutn_ptr, cutr_un, cutr_bool, cutr_int, cutr_str, cutr_nilp, cutr_sl, cutr_el, cutr_fn, cutr_fref, cutr_ptr, Tag.names, mcut, mdrop, mget, mset, List.map_cons, St.box, St.store, St.wipe, setAt, bound, lenS, loadT, List.headD_cons, List.take_succ_cons, List.take_zero, List.take_nil, List.drop_nil, List.drop_zero, List.drop_succ_cons, Tag.sub, List.all_cons, List.all_nil, Nat.reduceLeDiff, Nat.reduceMul, Nat.reduceBEq, Nat.reduceEqDiff, Nat.reduceLT, T.madeAll, T.backAll, nm, List.contains_cons, List.contains_nil, backTag, Int.toNat_natCast, Option.map_some, beq_self_eq_true, Bool.or_true, Bool.true_or, Bool.or_false, Bool.false_or, or_true, or_false, false_or, reduceCtorEq, and_self, and_false, false_and, not_true_eq_false, not_false_eq_true, Bool.not_true, Bool.not_false, vc_box, vc_nameL, td3, td4, td5, td22, td24, td26, td27, td33, td39, td42, td49, td52, td57, td59, tz3, tz24, tz33, tz42, tz49, tzz3, tzz4, tzz22, tzz24, tzz26, tzz27, tzz33, tzz42, tzz49, fl24, vc_len, vc_all, vc_0, vc_1, vc_2, vc_3, vc_4, vc_5, vc_6, vc_7, bp_len, bv_len, bp_all, bv_all, vc_cutn, vc_cutr, vc_lay, vc_lend, vc_back, vc_plain, bts_plain, bts_cutn, bts_cutr, bts_lend, eq_pp, eq_vv, eq_v0, places, aggD, Nat.zero_add, Nat.add_zero, Try.results34, add_spec]
  rfl
def conB (v w : Vt) : Bool := if (if (if !eqV v w then keyB v w else false) then validB v else false) then validB w else false
def k18 : Book Try.prog := (book0.add 13 (specV validB) (specV_good sim13)).add 34 (specVV keyB) (specVV_good sim34)
theorem k18_13 (args : List T) : k18.spec 13 args = specV validB args := by simp only [k18, add_spec, Nat.reduceEqDiff, if_true, if_false]
theorem k18_34 (args : List T) : k18.spec 34 args = specVV keyB args := by simp only [k18, add_spec, Nat.reduceEqDiff, if_true, if_false]
theorem sim18 (v w : Vt) : Sim Try.prog 18 [V v, V w] (.one (.bool (conB v w))) := by
  refine Sim.of_code Try.func18 (by unfold Try.f18; rfl) Try.ntmps18 Try.call18 [] (by simp) (by rfl) (PW.sw (G := k18) mixed _ _ _ ?_)
  simp (maxSteps := 3000000) only [I, V, ↓ff_imp, ↓tf_imp, PW, PW1, regK, drawK, stepK, quietK, callK, idleK, fnK, argsV, T.val?, S.val?, boundT, lendBox_fn, lendBox_int, lendBox_bool, lendBox_nilp, List.flatMap_cons, List.flatMap_nil, S.reach, S.nameL, Tag.nameL, callOf, argsT, guardOf, pureOp, St.rd, St.eval, rdg, List.getD, List.getElem?_cons_zero, List.getElem?_cons_succ, List.cons_append, List.nil_append, List.replicate, List.length, List.getElem?_nil, Option.getD, T.ofValue, S.ofValue, St.put, List.set, binT, binI, thenQ, blockQ, scopeQ, Nat.reduceSub, Nat.reduceAdd, true_and, and_true, if_true, if_false, true_or, Option.bind, List.getElem?_toArray, eqOp, PS.Ends, resOf, packT, St.out, T.sub, S.sub, tagSub, LeT_bool, LeT_int, beq_true, beq_false, imp_self, implies_true, Bool.and_true, Bool.true_and, Bool.and_false, Bool.false_and, T.lend, S.lend, Tag.lend, T.back, S.back, T.made, S.made, Tag.made, St.ret, St.kills, List.map_nil, List.foldl_nil, List.foldl_cons, Bool.false_eq_true, false_imp_iff, true_imp_iff, forall_const, Bool.true_eq_false, minI, maxI, effOp, appendOp, fillT, chunks, T.cells, S.plain, S.lay, St.kill, T.cut, cutn_un, cutn_bool, cutn_int, cutn_str, cutn_nilp, cutn_sl, cutn_el, cutn_fn, cutn_fref, cutn_ptr, cutr_un, cutr_bool, cutr_int, cutr_str, cutr_nilp, cutr_sl, cutr_el, cutr_fn, cutr_fref, cutr_ptr, Tag.names, mcut, mdrop, mget, mset, List.map_cons, St.box, St.store, St.wipe, setAt, bound, lenS, loadT, List.headD_cons, List.take_succ_cons, List.take_zero, List.take_nil, List.drop_nil, List.drop_zero, List.drop_succ_cons, Tag.sub, List.all_cons, List.all_nil, Nat.reduceLeDiff, Nat.reduceMul, Nat.reduceBEq, Nat.reduceEqDiff, Nat.reduceLT, T.madeAll, T.backAll, nm, List.contains_cons, List.contains_nil, backTag, Int.toNat_natCast, Option.map_some, beq_self_eq_true, Bool.or_true, Bool.true_or, Bool.or_false, Bool.false_or, or_true, or_false, false_or, reduceCtorEq, and_self, and_false, false_and, not_true_eq_false, not_false_eq_true, Bool.not_true, Bool.not_false, vv_of, vc_val, unvc_vc, tz26v, vc_drop, List.append_nil, unrows_rows, rowsV_len, vc_box, vc_nameL, td3, td4, td5, td22, td24, td26, td27, td33, td39, td42, td49, td52, td57, td59, tz3, tz24, tz33, tz42, tz49, tzz3, tzz4, tzz22, tzz24, tzz26, tzz27, tzz33, tzz42, tzz49, fl24, vc_len, vc_all, vc_0, vc_1, vc_2, vc_3, vc_4, vc_5, vc_6, vc_7, bp_len, bv_len, bp_all, bv_all, vc_cutn, vc_cutr, vc_lay, vc_lend, vc_back, vc_plain, bts_plain, bts_cutn, bts_cutr, bts_lend, eq_pp, eq_vv, eq_v0, places, aggD, Nat.zero_add, Nat.add_zero, Try.results18, k18_13, k18_34, specV, specVV, fl26, eq_vt]
  rfl
/-! ### backers -/
def backF (m : Int) (v : Vt) (k r : Int) (w : Vt) : Bool :=
  if (if (if (if (if (if (if w.kind == k then w.round == r else false) then decide (w.parent = v.parent) else false) then w.slot == v.slot else false) then w.choice == v.choice else false) then decide (w.value = v.value) else false) then validB w else false) then hasI m w.signer else false
def backB (m : Int) (v : Vt) (a : List Vt) (k r : Int) : Int := sizeI (orBits (a.filter (backF m v k r)))
theorem backF_iff {m : Int} {v w : Vt} {k r : Int} (hs : hasI m v.slot = true) : backF m v k r w = true ↔ w.kind = k ∧ w.round = r ∧ sameB v w = true ∧ countsB m v w = true := by
  unfold backF countsB sameB
  simp only [if_t]
  simp only [Bool.and_eq_true, decide_eq_true_eq, beq_iff_eq]
  constructor
  · rintro ⟨⟨⟨⟨⟨⟨⟨h1, h2⟩, h3⟩, h4⟩, h5⟩, h6⟩, h7⟩, h8⟩
    exact ⟨h1, h2, ⟨h5.symm, h6.symm⟩, ⟨⟨⟨h3, h4⟩, h8⟩, by rw [h4]; exact hs⟩, h7⟩
  · rintro ⟨h1, h2, ⟨h5, h6⟩, ⟨⟨⟨h3, h4⟩, h8⟩, _⟩, h7⟩
    exact ⟨⟨⟨⟨⟨⟨⟨h1, h2⟩, h3⟩, h4⟩, h5.symm⟩, h6.symm⟩, h7⟩, h8⟩
theorem backF_has {m : Int} {v w : Vt} {k r : Int} (h : backF m v k r w = true) : 0 ≤ w.signer ∧ w.signer < 10 := by
  unfold backF at h
  simp only [if_t] at h
  simp only [Bool.and_eq_true] at h
  have := h.2
  unfold hasI at this
  simp only [Bool.and_eq_true, decide_eq_true_eq] at this
  omega
theorem shl_bit {n : Int} (h : 0 ≤ n ∧ n < 10) : IntKind.i64.wrap (1 * 2 ^ (min (IntKind.u64.wrap n).toNat 64)) = bitN n := by
  obtain ⟨i, rfl⟩ := fin_of h
  revert i
  decide +kernel
theorem shl_ok {n : Int} (h : 0 ≤ n ∧ n < 10) : 0 ≤ IntKind.u64.wrap n := by
  obtain ⟨i, rfl⟩ := fin_of h
  revert i
  decide +kernel
def k17 : Book Try.prog := ((book0.add 13 (specV validB) (specV_good sim13)).add 14 (spec2 (fun _ _ => True) fun m i => .one (.bool (hasI m i))) (spec2_good fun m i _ => sim14 m i)).add 16 (spec1 (fun _ => True) fun m => I (sizeI m)) (spec1_good fun m _ => sim16 m)
theorem k17_13 (args : List T) : k17.spec 13 args = specV validB args := by simp only [k17, add_spec, Nat.reduceEqDiff, if_true, if_false]
theorem k17_14 (args : List T) : k17.spec 14 args = spec2 (fun _ _ => True) (fun m i => .one (.bool (hasI m i))) args := by simp only [k17, add_spec, Nat.reduceEqDiff, if_true, if_false]
theorem k17_16 (args : List T) : k17.spec 16 args = spec1 (fun _ => True) (fun m => I (sizeI m)) args := by simp only [k17, add_spec, Nat.reduceEqDiff, if_true, if_false]
set_option maxHeartbeats 2000000 in
theorem sim17 (m : Int) (v : Vt) (a : List Vt) (k r : Int) (hlen : a.length ≤ 100000) : Sim Try.prog 17 [I m, V v, L a, I k, I r] (I (backB m v a k r)) := by
  refine Sim.of_code Try.func17 (by unfold Try.f17; rfl) Try.ntmps17 Try.call17 [] (by simp) (by rfl) (PW.sw (G := k17) mixed _ _ _ ?_)
  simp (maxSteps := 3000000) only [I, V, L, ↓ff_imp, ↓tf_imp, PW, PW1, regK, drawK, stepK, quietK, callK, idleK, fnK, argsV, T.val?, S.val?, boundT, lendBox_fn, lendBox_int, lendBox_bool, lendBox_nilp, List.flatMap_cons, List.flatMap_nil, S.reach, S.nameL, Tag.nameL, callOf, argsT, guardOf, pureOp, St.rd, St.eval, rdg, List.getD, List.getElem?_cons_zero, List.getElem?_cons_succ, List.cons_append, List.nil_append, List.replicate, List.length, List.getElem?_nil, Option.getD, T.ofValue, S.ofValue, St.put, List.set, binT, binI, thenQ, blockQ, scopeQ, Nat.reduceSub, Nat.reduceAdd, true_and, and_true, if_true, if_false, true_or, Option.bind, List.getElem?_toArray, eqOp, PS.Ends, resOf, packT, St.out, T.sub, S.sub, tagSub, LeT_bool, LeT_int, beq_true, beq_false, imp_self, implies_true, Bool.and_true, Bool.true_and, Bool.and_false, Bool.false_and, T.lend, S.lend, Tag.lend, T.back, S.back, T.made, S.made, Tag.made, St.ret, St.kills, List.map_nil, List.foldl_nil, List.foldl_cons, Bool.false_eq_true, false_imp_iff, true_imp_iff, forall_const, Bool.true_eq_false, minI, maxI, effOp, appendOp, fillT, chunks, T.cells, S.plain, S.lay, St.kill, T.cut, cutn_un, cutn_bool, cutn_int, cutn_str, cutn_nilp, cutn_sl, cutn_el, cutn_fn, cutn_fref, cutn_ptr, cutr_un, cutr_bool, cutr_int, cutr_str, cutr_nilp, cutr_sl, cutr_el, cutr_fn, cutr_fref, cutr_ptr, Tag.names, mcut, mdrop, mget, mset, List.map_cons, St.box, St.store, St.wipe, setAt, bound, lenS, loadT, List.headD_cons, List.take_succ_cons, List.take_zero, List.take_nil, List.drop_nil, List.drop_zero, List.drop_succ_cons, Tag.sub, List.all_cons, List.all_nil, Nat.reduceLeDiff, Nat.reduceMul, Nat.reduceBEq, Nat.reduceEqDiff, Nat.reduceLT, T.madeAll, T.backAll, nm, List.contains_cons, List.contains_nil, backTag, Int.toNat_natCast, Option.map_some, beq_self_eq_true, Bool.or_true, Bool.true_or, Bool.or_false, Bool.false_or, or_true, or_false, false_or, reduceCtorEq, and_self, and_false, false_and, not_true_eq_false, not_false_eq_true, Bool.not_true, Bool.not_false, vv_of, vc_val, unvc_vc, tz26v, vc_drop, List.append_nil, unrows_rows, rowsV_len, vc_box, vc_nameL, td3, td4, td5, td22, td24, td26, td27, td33, td39, td42, td49, td52, td57, td59, tz3, tz24, tz33, tz42, tz49, tzz3, tzz4, tzz22, tzz24, tzz26, tzz27, tzz33, tzz42, tzz49, fl24, vc_len, vc_all, vc_0, vc_1, vc_2, vc_3, vc_4, vc_5, vc_6, vc_7, bp_len, bv_len, bp_all, bv_all, vc_cutn, vc_cutr, vc_lay, vc_lend, vc_back, vc_plain, bts_plain, bts_cutn, bts_cutr, bts_lend, eq_pp, eq_vv, eq_v0, places, aggD, Nat.zero_add, Nat.add_zero, Try.results17]
  refine SW.loop (fun j => ⟨[I m, .un, L a, I k, I r, .un, .one (.ptr 6 0), .un, .un, .un, I 0, I (orBits ((a.take j).filter (backF m v k r))), I (j : Nat)] ++ List.replicate 67 .un, [(6, vc v)]⟩)
    (fun j => j ≤ a.length) (fun j => a.length - j) 0 ?_ (by simp) ?_
  · refine Le.mks ?_ (.same rfl (LeMs.nil _))
    simp only [I, L, LeTs, LeT.un, LeT.refl, true_and, and_true, and_self, ↓ff_imp, ↓tf_imp, PW, PW1, regK, drawK, stepK, quietK, callK, idleK, fnK, argsV, T.val?, S.val?, boundT, lendBox_fn, lendBox_int, lendBox_bool, lendBox_nilp, List.flatMap_cons, List.flatMap_nil, S.reach, S.nameL, Tag.nameL, callOf, argsT, guardOf, pureOp, St.rd, St.eval, rdg, List.getD, List.getElem?_cons_zero, List.getElem?_cons_succ, List.cons_append, List.nil_append, List.replicate, List.length, List.getElem?_nil, Option.getD, T.ofValue, S.ofValue, St.put, List.set, binT, binI, thenQ, blockQ, scopeQ, Nat.reduceSub, Nat.reduceAdd, true_and, and_true, if_true, if_false, true_or, Option.bind, List.getElem?_toArray, eqOp, PS.Ends, resOf, packT, St.out, T.sub, S.sub, tagSub, LeT_bool, LeT_int, beq_true, beq_false, imp_self, implies_true, Bool.and_true, Bool.true_and, Bool.and_false, Bool.false_and, T.lend, S.lend, Tag.lend, T.back, S.back, T.made, S.made, Tag.made, St.ret, St.kills, List.map_nil, List.foldl_nil, List.foldl_cons, Bool.false_eq_true, false_imp_iff, true_imp_iff, forall_const, Bool.true_eq_false, minI, maxI, effOp, appendOp, fillT, chunks, T.cells, S.plain, S.lay, St.kill, T.cut, cutn_un, cutn_bool, cutn_int, cutn_str, cutn_nilp, cutn_sl, cutn_el, cutn_fn, cutn_fref, cutn_ptr, cutr_un, cutr_bool, cutr_int, cutr_str, cutr_nilp, cutr_sl, cutr_el, cutr_fn, cutr_fref, cutr_ptr, Tag.names, mcut, mdrop, mget, mset, List.map_cons, St.box, St.store, St.wipe, setAt, bound, lenS, loadT, List.headD_cons, List.take_succ_cons, List.take_zero, List.take_nil, List.drop_nil, List.drop_zero, List.drop_succ_cons, Tag.sub, List.all_cons, List.all_nil, Nat.reduceLeDiff, Nat.reduceMul, Nat.reduceBEq, Nat.reduceEqDiff, Nat.reduceLT, T.madeAll, T.backAll, nm, List.contains_cons, List.contains_nil, backTag, Int.toNat_natCast, Option.map_some, beq_self_eq_true, Bool.or_true, Bool.true_or, Bool.or_false, Bool.false_or, or_true, or_false, false_or, reduceCtorEq, and_self, and_false, false_and, not_true_eq_false, not_false_eq_true, Bool.not_true, Bool.not_false]
    exact ⟨rfl, rfl⟩
  · intro j hj
    have hw : IntKind.i64.wrap ((j : Int) + 1) = ((j + 1 : Nat) : Int) := by rw [wrap_id] <;> (try unfold i64ok) <;> omega
    refine PW.sw (G := k17) mixed _ _ _ ?_
    by_cases hjl : j < a.length
    · have ht : decide ((j : Int) < (a.length : Int)) = true := by simp; omega
      have hat := rowsV_at hjl
      have hn : orBits ((a.take (j + 1)).filter (backF m v k r)) = if backF m v k r a[j] then bitsI .or .i64 (orBits ((a.take j).filter (backF m v k r))) (bitN a[j].signer) else orBits ((a.take j).filter (backF m v k r)) := by
        rw [List.take_add_one, List.getElem?_eq_getElem hjl, Option.toList_some, List.filter_append]
        by_cases hc : backF m v k r a[j] = true
        · rw [if_pos hc, List.filter_cons_of_pos hc]; simp [orBits]
        · rw [if_neg hc, List.filter_cons_of_neg (by simpa using hc)]; simp
      generalize hf : (a.take j).filter (backF m v k r) = f at *
      simp (maxSteps := 3000000) only [I, V, L, ↓ff_imp, ↓tf_imp, PW, PW1, regK, drawK, stepK, quietK, callK, idleK, fnK, argsV, T.val?, S.val?, boundT, lendBox_fn, lendBox_int, lendBox_bool, lendBox_nilp, List.flatMap_cons, List.flatMap_nil, S.reach, S.nameL, Tag.nameL, callOf, argsT, guardOf, pureOp, St.rd, St.eval, rdg, List.getD, List.getElem?_cons_zero, List.getElem?_cons_succ, List.cons_append, List.nil_append, List.replicate, List.length, List.getElem?_nil, Option.getD, T.ofValue, S.ofValue, St.put, List.set, binT, binI, thenQ, blockQ, scopeQ, Nat.reduceSub, Nat.reduceAdd, true_and, and_true, if_true, if_false, true_or, Option.bind, List.getElem?_toArray, eqOp, PS.Ends, resOf, packT, St.out, T.sub, S.sub, tagSub, LeT_bool, LeT_int, beq_true, beq_false, imp_self, implies_true, Bool.and_true, Bool.true_and, Bool.and_false, Bool.false_and, T.lend, S.lend, Tag.lend, T.back, S.back, T.made, S.made, Tag.made, St.ret, St.kills, List.map_nil, List.foldl_nil, List.foldl_cons, Bool.false_eq_true, false_imp_iff, true_imp_iff, forall_const, Bool.true_eq_false, minI, maxI, effOp, appendOp, fillT, chunks, T.cells, S.plain, S.lay, St.kill, T.cut, cutn_un, cutn_bool, cutn_int, cutn_str, cutn_nilp, cutn_sl, cutn_el, cutn_fn, cutn_fref, cutn_ptr, cutr_un, cutr_bool, cutr_int, cutr_str, cutr_nilp, cutr_sl, cutr_el, cutr_fn, cutr_fref, cutr_ptr, Tag.names, mcut, mdrop, mget, mset, List.map_cons, St.box, St.store, St.wipe, setAt, bound, lenS, loadT, List.headD_cons, List.take_succ_cons, List.take_zero, List.take_nil, List.drop_nil, List.drop_zero, List.drop_succ_cons, Tag.sub, List.all_cons, List.all_nil, Nat.reduceLeDiff, Nat.reduceMul, Nat.reduceBEq, Nat.reduceEqDiff, Nat.reduceLT, T.madeAll, T.backAll, nm, List.contains_cons, List.contains_nil, backTag, Int.toNat_natCast, Option.map_some, beq_self_eq_true, Bool.or_true, Bool.true_or, Bool.or_false, Bool.false_or, or_true, or_false, false_or, reduceCtorEq, and_self, and_false, false_and, not_true_eq_false, not_false_eq_true, Bool.not_true, Bool.not_false, vv_of, vc_val, unvc_vc, tz26v, vc_drop, List.append_nil, unrows_rows, rowsV_len, vc_box, vc_nameL, td3, td4, td5, td22, td24, td26, td27, td33, td39, td42, td49, td52, td57, td59, tz3, tz24, tz33, tz42, tz49, tzz3, tzz4, tzz22, tzz24, tzz26, tzz27, tzz33, tzz42, tzz49, fl24, vc_len, vc_all, vc_0, vc_1, vc_2, vc_3, vc_4, vc_5, vc_6, vc_7, bp_len, bv_len, bp_all, bv_all, vc_cutn, vc_cutr, vc_lay, vc_lend, vc_back, vc_plain, bts_plain, bts_cutn, bts_cutr, bts_lend, eq_pp, eq_vv, eq_v0, places, aggD, Nat.zero_add, Nat.add_zero, Try.results17, hw, ht, hat, k17_13, k17_14, specV, spec2, td39]
      refine ⟨⟨by omega, by omega⟩, fun hc => ?_, fun hc => ?_⟩
      · have hb : backF m v k r a[j] = true := hc
        have hs := backF_has hb
        rw [if_pos hb] at hn
        refine ⟨shl_ok hs, j + 1, Le.mks ?_ (.same rfl (LeMs.nil _)), by omega, by omega⟩
        simp only [LeTs, LeT.un, LeT.refl, true_and, and_true, and_self, hn, ← shl_bit hs]
        exact LeT.refl _
      · have hb : backF m v k r a[j] = false := hc
        rw [if_neg (by rw [hb]; simp)] at hn
        refine ⟨j + 1, Le.mks ?_ (.same rfl (LeMs.nil _)), by omega, by omega⟩
        simp only [LeTs, LeT.un, LeT.refl, true_and, and_true, and_self, hn]
    · have ht : decide ((j : Int) < (a.length : Int)) = false := by simp; omega
      rw [List.take_of_length_le (by omega)]
      simp (maxSteps := 3000000) only [I, V, L, ↓ff_imp, ↓tf_imp, PW, PW1, regK, drawK, stepK, quietK, callK, idleK, fnK, argsV, T.val?, S.val?, boundT, lendBox_fn, lendBox_int, lendBox_bool, lendBox_nilp, List.flatMap_cons, List.flatMap_nil, S.reach, S.nameL, Tag.nameL, callOf, argsT, guardOf, pureOp, St.rd, St.eval, rdg, List.getD, List.getElem?_cons_zero, List.getElem?_cons_succ, List.cons_append, List.nil_append, List.replicate, List.length, List.getElem?_nil, Option.getD, T.ofValue, S.ofValue, St.put, List.set, binT, binI, thenQ, blockQ, scopeQ, Nat.reduceSub, Nat.reduceAdd, true_and, and_true, if_true, if_false, true_or, Option.bind, List.getElem?_toArray, eqOp, PS.Ends, resOf, packT, St.out, T.sub, S.sub, tagSub, LeT_bool, LeT_int, beq_true, beq_false, imp_self, implies_true, Bool.and_true, Bool.true_and, Bool.and_false, Bool.false_and, T.lend, S.lend, Tag.lend, T.back, S.back, T.made, S.made, Tag.made, St.ret, St.kills, List.map_nil, List.foldl_nil, List.foldl_cons, Bool.false_eq_true, false_imp_iff, true_imp_iff, forall_const, Bool.true_eq_false, minI, maxI, effOp, appendOp, fillT, chunks, T.cells, S.plain, S.lay, St.kill, T.cut, cutn_un, cutn_bool, cutn_int, cutn_str, cutn_nilp, cutn_sl, cutn_el, cutn_fn, cutn_fref, cutn_ptr, cutr_un, cutr_bool, cutr_int, cutr_str, cutr_nilp, cutr_sl, cutr_el, cutr_fn, cutr_fref, cutr_ptr, Tag.names, mcut, mdrop, mget, mset, List.map_cons, St.box, St.store, St.wipe, setAt, bound, lenS, loadT, List.headD_cons, List.take_succ_cons, List.take_zero, List.take_nil, List.drop_nil, List.drop_zero, List.drop_succ_cons, Tag.sub, List.all_cons, List.all_nil, Nat.reduceLeDiff, Nat.reduceMul, Nat.reduceBEq, Nat.reduceEqDiff, Nat.reduceLT, T.madeAll, T.backAll, nm, List.contains_cons, List.contains_nil, backTag, Int.toNat_natCast, Option.map_some, beq_self_eq_true, Bool.or_true, Bool.true_or, Bool.or_false, Bool.false_or, or_true, or_false, false_or, reduceCtorEq, and_self, and_false, false_and, not_true_eq_false, not_false_eq_true, Bool.not_true, Bool.not_false, vv_of, vc_val, unvc_vc, tz26v, vc_drop, List.append_nil, unrows_rows, rowsV_len, vc_box, vc_nameL, td3, td4, td5, td22, td24, td26, td27, td33, td39, td42, td49, td52, td57, td59, tz3, tz24, tz33, tz42, tz49, tzz3, tzz4, tzz22, tzz24, tzz26, tzz27, tzz33, tzz42, tzz49, fl24, vc_len, vc_all, vc_0, vc_1, vc_2, vc_3, vc_4, vc_5, vc_6, vc_7, bp_len, bv_len, bp_all, bv_all, vc_cutn, vc_cutr, vc_lay, vc_lend, vc_back, vc_plain, bts_plain, bts_cutn, bts_cutr, bts_lend, eq_pp, eq_vv, eq_v0, places, aggD, Nat.zero_add, Nat.add_zero, Try.results17, hw, ht, k17_16, spec1]
      rfl
end Go.Proofs.Ytngjhimhmpbofaa
