/- When a vote of the agreement is allowed: Prevotes. -/
import Derived.Test.YtngjhimhmpbofaaJz
set_option linter.unusedSimpArgs false
set_option linter.unusedVariables false
set_option maxRecDepth 100000
namespace Go.Proofs.Ytngjhimhmpbofaa
open Go Go.PS
/-! ### What closures compute -/
theorem clo_of {p : Fp} {f : Vt → Bool} {ob : Vt → Prop} (h : ∀ w, p [vv w] = some (ob w, .bool (f w))) (ho : ∀ w, ob w) : boolOf p = f ∧ ∀ w, okAt p w :=
  ⟨funext fun w => (okAt_of (h w) (ho w)).2, fun w => (okAt_of (h w) (ho w)).1⟩
theorem cloE {G : Book Try.prog} {k : Nat} {f : Vt → Vt → Bool} {q : Vt → Prop} (h : ∀ args, G.spec k args = specWE f q args) (v : Vt) (hq : q v) (i : Nat) :
    boolOf (fun vals => fnSpec G k [.el (.arg i) (vc v)] vals) = f v ∧ ∀ w, okAt (fun vals => fnSpec G k [.el (.arg i) (vc v)] vals) w := by
  refine clo_of (ob := fun w => vc w = vc w ∧ vc v = vc v ∧ q v) (fun w => ?_) (fun w => ⟨rfl, rfl, hq⟩)
  simp only [fnSpec, List.map_cons, List.map_nil, List.cons_append, List.nil_append, vv_of, h, specWE, unvc_vc, S.val?]
def spec39 : List T → Option (Prop × T)
  | [.agg cs, .one (.fref [] p), .one (.fref [] p')] => some (vc (unvc cs) = cs ∧ okAt p (unvc cs) ∧ okAt p' (unvc cs), .one (.bool (if boolOf p (unvc cs) then true else boolOf p' (unvc cs))))
  | _ => none
theorem spec39_good : ∀ args ob t, spec39 args = some (ob, t) → ob → Sim Try.prog 39 args t := by
  intro args ob t hs ho
  unfold spec39 at hs
  split at hs
  · cases hs
    rename_i cs p p'
    have := sim39 (unvc cs) p p' ho.2.1 ho.2.2
    rwa [V, ho.1] at this
  · cases hs
def spec40 : List T → Option (Prop × T)
  | [.agg cs, .one (.el (.arg _) ds), .one (.fref [] p)] => some (vc (unvc cs) = cs ∧ vc (unvc ds) = ds ∧ okAt p (unvc cs), .one (.bool (if hasI (unvc ds).support (unvc cs).signer then boolOf p (unvc cs) else false)))
  | _ => none
theorem spec40_good : ∀ args ob t, spec40 args = some (ob, t) → ob → Sim Try.prog 40 args t := by
  intro args ob t hs ho
  unfold spec40 at hs
  split at hs
  · cases hs
    rename_i cs i ds p
    have := sim40 (unvc ds) (unvc cs) i p ho.2.2
    rwa [V, ho.1, ho.2.1] at this
  · cases hs
def spec43 : List T → Option (Prop × T)
  | [.agg cs, .one (.fref [] p), .one (.el (.arg _) ds)] => some (vc (unvc cs) = cs ∧ vc (unvc ds) = ds ∧ okAt p (unvc cs), .one (.bool (if boolOf p (unvc cs) then sameB (unvc ds) (unvc cs) else false)))
  | _ => none
theorem spec43_good : ∀ args ob t, spec43 args = some (ob, t) → ob → Sim Try.prog 43 args t := by
  intro args ob t hs ho
  unfold spec43 at hs
  split at hs
  · cases hs
    rename_i cs p i ds
    have := sim43 (unvc ds) (unvc cs) i p ho.2.2
    rwa [V, ho.1, ho.2.1] at this
  · cases hs
theorem clo39 {G : Book Try.prog} (h : ∀ args, G.spec 39 args = spec39 args) {p p' : Fp} (hp : ∀ w, okAt p w) (hp' : ∀ w, okAt p' w) :
    boolOf (fun vals => fnSpec G 39 [.fref [] p, .fref [] p'] vals) = (fun w => if boolOf p w then true else boolOf p' w) ∧ ∀ w, okAt (fun vals => fnSpec G 39 [.fref [] p, .fref [] p'] vals) w := by
  refine clo_of (ob := fun w => vc w = vc w ∧ okAt p w ∧ okAt p' w) (fun w => ?_) (fun w => ⟨rfl, hp w, hp' w⟩)
  simp only [fnSpec, List.map_cons, List.map_nil, List.cons_append, List.nil_append, vv_of, h, spec39, unvc_vc, S.val?]
theorem clo40 {G : Book Try.prog} (h : ∀ args, G.spec 40 args = spec40 args) (v : Vt) (i : Nat) {p : Fp} (hp : ∀ w, okAt p w) :
    boolOf (fun vals => fnSpec G 40 [.el (.arg i) (vc v), .fref [] p] vals) = (fun w => if hasI v.support w.signer then boolOf p w else false) ∧ ∀ w, okAt (fun vals => fnSpec G 40 [.el (.arg i) (vc v), .fref [] p] vals) w := by
  refine clo_of (ob := fun w => vc w = vc w ∧ vc v = vc v ∧ okAt p w) (fun w => ?_) (fun w => ⟨rfl, rfl, hp w⟩)
  simp only [fnSpec, List.map_cons, List.map_nil, List.cons_append, List.nil_append, vv_of, h, spec40, unvc_vc, S.val?]
theorem clo43 {G : Book Try.prog} (h : ∀ args, G.spec 43 args = spec43 args) (v : Vt) (i : Nat) {p : Fp} (hp : ∀ w, okAt p w) :
    boolOf (fun vals => fnSpec G 43 [.fref [] p, .el (.arg i) (vc v)] vals) = (fun w => if boolOf p w then sameB v w else false) ∧ ∀ w, okAt (fun vals => fnSpec G 43 [.fref [] p, .el (.arg i) (vc v)] vals) w := by
  refine clo_of (ob := fun w => vc w = vc w ∧ vc v = vc v ∧ okAt p w) (fun w => ?_) (fun w => ⟨rfl, rfl, hp w⟩)
  simp only [fnSpec, List.map_cons, List.map_nil, List.cons_append, List.nil_append, vv_of, h, spec43, unvc_vc, S.val?]

/-! ### Prevotes -/
def k23 : Book Try.prog := ((((((((book0.add 20 spec20 spec20_good).add 35 spec35 spec35_good).add 36 (specWE f36 fun _ => True) (specWE_good fun v w i _ => sim36 v w i)).add 37 (specWE f37 rOK) (specWE_good fun v w i h => sim37 v w i h)).add
  38 (specWE f38 rOK) (specWE_good fun v w i h => sim38 v w i h)).add 41 (specWE f41 rOK) (specWE_good fun v w i h => sim41 v w i h)).add 39 spec39 spec39_good).add 40 spec40 spec40_good)
theorem k23_20 (args : List T) : k23.spec 20 args = spec20 args := by simp only [k23, add_spec, Nat.reduceEqDiff, if_true, if_false]
theorem k23_35 (args : List T) : k23.spec 35 args = spec35 args := by simp only [k23, add_spec, Nat.reduceEqDiff, if_true, if_false]
theorem k23_36 (args : List T) : k23.spec 36 args = specWE f36 (fun _ => True) args := by simp only [k23, add_spec, Nat.reduceEqDiff, if_true, if_false]
theorem k23_37 (args : List T) : k23.spec 37 args = specWE f37 rOK args := by simp only [k23, add_spec, Nat.reduceEqDiff, if_true, if_false]
theorem k23_38 (args : List T) : k23.spec 38 args = specWE f38 rOK args := by simp only [k23, add_spec, Nat.reduceEqDiff, if_true, if_false]
theorem k23_41 (args : List T) : k23.spec 41 args = specWE f41 rOK args := by simp only [k23, add_spec, Nat.reduceEqDiff, if_true, if_false]
theorem k23_39 (args : List T) : k23.spec 39 args = spec39 args := by simp only [k23, add_spec, Nat.reduceEqDiff, if_true, if_false]
theorem k23_40 (args : List T) : k23.spec 40 args = spec40 args := by simp only [k23, add_spec, Nat.reduceEqDiff, if_true, if_false]
def prevB (m q : Int) (l : List Vt) (v : Vt) : Bool :=
  if v.round == 1 then (if v.choice == 0 then true else suppB m q l v.support (f36 v))
  else if (if suppB m q l v.support (fun w => if f37 v w then true else f38 v w) then l.any (fun w => if hasI v.support w.signer then f37 v w else false) else false) then true
  else if suppB m q l v.support (f38 v) then l.any (f41 v) else false
theorem sim23 (m q : Int) (i : Nat) (l : List Vt) (hlen : l.length ≤ 100000) (v : Vt) (hr : rOK v) :
    Sim Try.prog 23 [.agg (court m q i l), V v] (.one (.bool (prevB m q l v))) := by
  refine Sim.of_code Try.func23 (by unfold Try.f23; rfl) Try.ntmps23 Try.call23 [] (by simp) (by rfl) (PW.sw (G := k23) mixed _ _ _ ?_)
  have c36 := fun i => cloE k23_36 v trivial i
  have c37 := fun i => cloE k23_37 v hr i
  have c38 := fun i => cloE k23_38 v hr i
  have c41 := fun i => cloE k23_41 v hr i
  have c39 := fun i j => clo39 k23_39 (c37 i).2 (c38 j).2
  have c40 := fun i j => clo40 k23_40 v i (c37 j).2
  simp only [I, V, ↓ff_imp, ↓tf_imp, PW, PW1, regK, drawK, stepK, quietK, callK, idleK, fnK, argsV, T.val?, S.val?, boundT, lendBox_fn, lendBox_int, lendBox_bool, lendBox_nilp, List.flatMap_cons, List.flatMap_nil, S.reach, S.nameL, Tag.nameL, callOf, argsT, guardOf, pureOp, St.rd, St.eval, rdg, List.getD, List.getElem?_cons_zero, List.getElem?_cons_succ, List.cons_append, List.nil_append, List.replicate, List.length, List.getElem?_nil, Option.getD, T.ofValue, S.ofValue, St.put, List.set, binT, binI, thenQ, blockQ, scopeQ, Nat.reduceSub, Nat.reduceAdd, true_and, and_true, if_true, if_false, true_or, Option.bind, List.getElem?_toArray, eqOp, PS.Ends, resOf, packT, St.out, T.sub, S.sub, tagSub, LeT_bool, LeT_int, beq_true, beq_false, imp_self, implies_true, Bool.and_true, Bool.true_and, Bool.and_false, Bool.false_and, T.lend, S.lend, Tag.lend, T.back, S.back, T.made, S.made, Tag.made, St.ret, St.kills, List.map_nil, List.foldl_nil, List.foldl_cons, Bool.false_eq_true, false_imp_iff, true_imp_iff, forall_const, Bool.true_eq_false, minI, maxI, effOp, appendOp, fillT, chunks, T.cells, S.plain, S.lay, St.kill, T.cut, cutn_un, cutn_bool, cutn_int, cutn_str, cutn_nilp, cutn_sl, cutn_el, cutn_fn, cutn_fref, cutn_ptr, cutr_un, cutr_bool, cutr_int, cutr_str, cutr_nilp, cutr_sl, cutr_el, cutr_fn, cutr_fref, cutr_ptr, Tag.names, mcut, mdrop, mget, mset, List.map_cons, St.box, St.store, St.wipe, setAt, bound, lenS, loadT, List.headD_cons, List.take_succ_cons, List.take_zero, List.take_nil, List.drop_nil, List.drop_zero, List.drop_succ_cons, Tag.sub, List.all_cons, List.all_nil, Nat.reduceLeDiff, Nat.reduceMul, Nat.reduceBEq, Nat.reduceEqDiff, Nat.reduceLT, T.madeAll, T.backAll, nm, List.contains_cons, List.contains_nil, backTag, Int.toNat_natCast, Option.map_some, beq_self_eq_true, Bool.or_true, Bool.true_or, Bool.or_false, Bool.false_or, or_true, or_false, false_or, reduceCtorEq, and_self, and_false, false_and, not_true_eq_false, not_false_eq_true, Bool.not_true, Bool.not_false, vv_of, vc_val, unvc_vc, tz26v, vc_drop, List.append_nil, unrows_rows, rowsV_len, vc_box, vc_nameL, td3, td4, td5, td22, td24, td26, td27, td33, td39, td42, td49, td52, td57, td59, tz3, tz24, tz33, tz42, tz49, tzz3, tzz4, tzz22, tzz24, tzz26, tzz27, tzz33, tzz42, tzz49, fl24, vc_len, vc_all, vc_0, vc_1, vc_2, vc_3, vc_4, vc_5, vc_6, vc_7, bp_len, bv_len, bp_all, bv_all, vc_cutn, vc_cutr, vc_lay, vc_lend, vc_back, vc_plain, bts_plain, bts_cutn, bts_cutr, bts_lend, eq_pp, eq_vv, eq_v0, places, aggD, Nat.zero_add, Nat.add_zero, Try.results23, k23_20, k23_35, spec20, spec35, (c36 _).1, (c37 _).1, (c38 _).1, (c41 _).1, (c39 _ _).1, (c40 _ _).1, (c36 _).2, (c37 _).2, (c38 _).2, (c41 _).2, (c39 _ _).2, (c40 _ _).2]
  refine ⟨fun h => ⟨fun _ => hlen, ?_⟩, fun h => ⟨hlen, fun _ => hlen, fun h2 => ?_, fun h2 => ⟨hlen, fun _ => hlen, ?_⟩⟩⟩
  · unfold prevB; rw [if_pos h]
  · unfold prevB; rw [if_neg (by rw [h]; simp), if_pos h2]
  · have e : prevB m q l v = if suppB m q l v.support (f38 v) then l.any (f41 v) else false := by
      unfold prevB; rw [if_neg (by rw [h]; simp), if_neg (by rw [h2]; simp)]
    rw [e]

/-! ### Precommits -/
/-- Whether two votes that fit are unlike. -/
def twoB (l : List Vt) (v : Vt) : Bool :=
  match l.filter (fun w => f42 v w && hasI v.support w.signer) with
  | [] => false
  | u :: r => r.any fun w => !sameB u w
def precB (m q : Int) (l : List Vt) (v : Vt) : Bool :=
  if v.choice != 2 then suppB m q l v.support (fun w => if f42 v w then sameB v w else false)
  else if !suppB m q l v.support (f42 v) then false else twoB l v
theorem sameB_self (u : Vt) : sameB u u = true := by simp [sameB]
theorem anyB_some (v u0 : Vt) : ∀ l : List Vt, anyB v (some u0) l = (l.filter (fun w => f42 v w && hasI v.support w.signer)).any fun w => !sameB u0 w
  | [] => rfl
  | u :: r => by
    unfold anyB r44 s44 fits44
    rw [List.filter_cons]
    cases h : (f42 v u && hasI v.support u.signer)
    · simp only [Bool.false_and, Bool.false_eq_true, if_false]
      exact anyB_some v u0 r
    · simp only [Bool.true_and, if_true, Option.getD_some, List.any_cons]
      rw [anyB_some v u0 r]
      cases sameB u0 u <;> simp
theorem anyB_two (v : Vt) : ∀ l : List Vt, anyB v none l = twoB l v
  | [] => rfl
  | u :: r => by
    unfold anyB r44 s44 fits44 twoB
    rw [List.filter_cons]
    cases h : (f42 v u && hasI v.support u.signer)
    · simp only [Bool.false_and, Bool.false_eq_true, if_false]
      exact anyB_two v r
    · simp only [Bool.true_and, if_true, Option.getD_none, sameB_self, Bool.not_true, Bool.false_eq_true, if_false]
      exact anyB_some v u r
def k24 : Book Try.prog := (((book0.add 35 spec35 spec35_good).add 42 (specWE f42 fun _ => True) (specWE_good fun v w i _ => sim42 v w i)).add 43 spec43 spec43_good)
theorem k24_35 (args : List T) : k24.spec 35 args = spec35 args := by simp only [k24, add_spec, Nat.reduceEqDiff, if_true, if_false]
theorem k24_42 (args : List T) : k24.spec 42 args = specWE f42 (fun _ => True) args := by simp only [k24, add_spec, Nat.reduceEqDiff, if_true, if_false]
theorem k24_43 (args : List T) : k24.spec 43 args = spec43 args := by simp only [k24, add_spec, Nat.reduceEqDiff, if_true, if_false]
theorem sim24 (m q : Int) (i : Nat) (l : List Vt) (hlen : l.length ≤ 100000) (v : Vt) :
    Sim Try.prog 24 [.agg (court m q i l), V v] (.one (.bool (precB m q l v))) := by
  have c42 := fun i => cloE k24_42 v trivial i
  have c43 := fun i j => clo43 k24_43 v i (c42 j).2
  refine Sim.of_code Try.func24 (by unfold Try.f24; rfl) Try.ntmps24 Try.call24 [] (by simp) (by rfl) ?_
  refine PW1.sw (G := k24) mixed _ _ _ ?_
  simp only [I, V, ↓ff_imp, ↓tf_imp, PW, PW1, regK, drawK, stepK, quietK, callK, idleK, fnK, argsV, T.val?, S.val?, boundT, lendBox_fn, lendBox_int, lendBox_bool, lendBox_nilp, List.flatMap_cons, List.flatMap_nil, S.reach, S.nameL, Tag.nameL, callOf, argsT, guardOf, pureOp, St.rd, St.eval, rdg, List.getD, List.getElem?_cons_zero, List.getElem?_cons_succ, List.cons_append, List.nil_append, List.replicate, List.length, List.getElem?_nil, Option.getD, T.ofValue, S.ofValue, St.put, List.set, binT, binI, thenQ, blockQ, scopeQ, Nat.reduceSub, Nat.reduceAdd, true_and, and_true, if_true, if_false, true_or, Option.bind, List.getElem?_toArray, eqOp, PS.Ends, resOf, packT, St.out, T.sub, S.sub, tagSub, LeT_bool, LeT_int, beq_true, beq_false, imp_self, implies_true, Bool.and_true, Bool.true_and, Bool.and_false, Bool.false_and, T.lend, S.lend, Tag.lend, T.back, S.back, T.made, S.made, Tag.made, St.ret, St.kills, List.map_nil, List.foldl_nil, List.foldl_cons, Bool.false_eq_true, false_imp_iff, true_imp_iff, forall_const, Bool.true_eq_false, minI, maxI, effOp, appendOp, fillT, chunks, T.cells, S.plain, S.lay, St.kill, T.cut, cutn_un, cutn_bool, cutn_int, cutn_str, cutn_nilp, cutn_sl, cutn_el, cutn_fn, cutn_fref, cutn_ptr, cutr_un, cutr_bool, cutr_int, cutr_str, cutr_nilp, cutr_sl, cutr_el, cutr_fn, cutr_fref, cutr_ptr, Tag.names, mcut, mdrop, mget, mset, List.map_cons, St.box, St.store, St.wipe, setAt, bound, lenS, loadT, List.headD_cons, List.take_succ_cons, List.take_zero, List.take_nil, List.drop_nil, List.drop_zero, List.drop_succ_cons, Tag.sub, List.all_cons, List.all_nil, Nat.reduceLeDiff, Nat.reduceMul, Nat.reduceBEq, Nat.reduceEqDiff, Nat.reduceLT, T.madeAll, T.backAll, nm, List.contains_cons, List.contains_nil, backTag, Int.toNat_natCast, Option.map_some, beq_self_eq_true, Bool.or_true, Bool.true_or, Bool.or_false, Bool.false_or, or_true, or_false, false_or, reduceCtorEq, and_self, and_false, false_and, not_true_eq_false, not_false_eq_true, Bool.not_true, Bool.not_false, vv_of, vc_val, unvc_vc, tz26v, vc_drop, List.append_nil, unrows_rows, rowsV_len, vc_box, vc_nameL, td3, td4, td5, td22, td24, td26, td27, td33, td39, td42, td49, td52, td57, td59, tz3, tz24, tz33, tz42, tz49, tzz3, tzz4, tzz22, tzz24, tzz26, tzz27, tzz33, tzz42, tzz49, fl24, vc_len, vc_all, vc_0, vc_1, vc_2, vc_3, vc_4, vc_5, vc_6, vc_7, bp_len, bv_len, bp_all, bv_all, vc_cutn, vc_cutr, vc_lay, vc_lend, vc_back, vc_plain, bts_plain, bts_cutn, bts_cutr, bts_lend, eq_pp, eq_vv, eq_v0, places, aggD, Nat.zero_add, Nat.add_zero, Try.results24, k24_35, spec35, (c42 _).1, (c42 _).2, (c43 _ _).1, (c43 _ _).2]
  iterate 2
    refine PW1.sw (G := k24) mixed _ _ _ ?_
    simp only [I, V, ↓ff_imp, ↓tf_imp, PW, PW1, regK, drawK, stepK, quietK, callK, idleK, fnK, argsV, T.val?, S.val?, boundT, lendBox_fn, lendBox_int, lendBox_bool, lendBox_nilp, List.flatMap_cons, List.flatMap_nil, S.reach, S.nameL, Tag.nameL, callOf, argsT, guardOf, pureOp, St.rd, St.eval, rdg, List.getD, List.getElem?_cons_zero, List.getElem?_cons_succ, List.cons_append, List.nil_append, List.replicate, List.length, List.getElem?_nil, Option.getD, T.ofValue, S.ofValue, St.put, List.set, binT, binI, thenQ, blockQ, scopeQ, Nat.reduceSub, Nat.reduceAdd, true_and, and_true, if_true, if_false, true_or, Option.bind, List.getElem?_toArray, eqOp, PS.Ends, resOf, packT, St.out, T.sub, S.sub, tagSub, LeT_bool, LeT_int, beq_true, beq_false, imp_self, implies_true, Bool.and_true, Bool.true_and, Bool.and_false, Bool.false_and, T.lend, S.lend, Tag.lend, T.back, S.back, T.made, S.made, Tag.made, St.ret, St.kills, List.map_nil, List.foldl_nil, List.foldl_cons, Bool.false_eq_true, false_imp_iff, true_imp_iff, forall_const, Bool.true_eq_false, minI, maxI, effOp, appendOp, fillT, chunks, T.cells, S.plain, S.lay, St.kill, T.cut, cutn_un, cutn_bool, cutn_int, cutn_str, cutn_nilp, cutn_sl, cutn_el, cutn_fn, cutn_fref, cutn_ptr, cutr_un, cutr_bool, cutr_int, cutr_str, cutr_nilp, cutr_sl, cutr_el, cutr_fn, cutr_fref, cutr_ptr, Tag.names, mcut, mdrop, mget, mset, List.map_cons, St.box, St.store, St.wipe, setAt, bound, lenS, loadT, List.headD_cons, List.take_succ_cons, List.take_zero, List.take_nil, List.drop_nil, List.drop_zero, List.drop_succ_cons, Tag.sub, List.all_cons, List.all_nil, Nat.reduceLeDiff, Nat.reduceMul, Nat.reduceBEq, Nat.reduceEqDiff, Nat.reduceLT, T.madeAll, T.backAll, nm, List.contains_cons, List.contains_nil, backTag, Int.toNat_natCast, Option.map_some, beq_self_eq_true, Bool.or_true, Bool.true_or, Bool.or_false, Bool.false_or, or_true, or_false, false_or, reduceCtorEq, and_self, and_false, false_and, not_true_eq_false, not_false_eq_true, Bool.not_true, Bool.not_false, vv_of, vc_val, unvc_vc, tz26v, vc_drop, List.append_nil, unrows_rows, rowsV_len, vc_box, vc_nameL, td3, td4, td5, td22, td24, td26, td27, td33, td39, td42, td49, td52, td57, td59, tz3, tz24, tz33, tz42, tz49, tzz3, tzz4, tzz22, tzz24, tzz26, tzz27, tzz33, tzz42, tzz49, fl24, vc_len, vc_all, vc_0, vc_1, vc_2, vc_3, vc_4, vc_5, vc_6, vc_7, bp_len, bv_len, bp_all, bv_all, vc_cutn, vc_cutr, vc_lay, vc_lend, vc_back, vc_plain, bts_plain, bts_cutn, bts_cutr, bts_lend, eq_pp, eq_vv, eq_v0, places, aggD, Nat.zero_add, Nat.add_zero, Try.results24, k24_35, spec35, (c42 _).1, (c42 _).2, (c43 _ _).1, (c43 _ _).2]
  refine PW1.sw (G := k24) mixed _ _ _ ?_
  simp only [I, V, ↓ff_imp, ↓tf_imp, PW, PW1, regK, drawK, stepK, quietK, callK, idleK, fnK, argsV, T.val?, S.val?, boundT, lendBox_fn, lendBox_int, lendBox_bool, lendBox_nilp, List.flatMap_cons, List.flatMap_nil, S.reach, S.nameL, Tag.nameL, callOf, argsT, guardOf, pureOp, St.rd, St.eval, rdg, List.getD, List.getElem?_cons_zero, List.getElem?_cons_succ, List.cons_append, List.nil_append, List.replicate, List.length, List.getElem?_nil, Option.getD, T.ofValue, S.ofValue, St.put, List.set, binT, binI, thenQ, blockQ, scopeQ, Nat.reduceSub, Nat.reduceAdd, true_and, and_true, if_true, if_false, true_or, Option.bind, List.getElem?_toArray, eqOp, PS.Ends, resOf, packT, St.out, T.sub, S.sub, tagSub, LeT_bool, LeT_int, beq_true, beq_false, imp_self, implies_true, Bool.and_true, Bool.true_and, Bool.and_false, Bool.false_and, T.lend, S.lend, Tag.lend, T.back, S.back, T.made, S.made, Tag.made, St.ret, St.kills, List.map_nil, List.foldl_nil, List.foldl_cons, Bool.false_eq_true, false_imp_iff, true_imp_iff, forall_const, Bool.true_eq_false, minI, maxI, effOp, appendOp, fillT, chunks, T.cells, S.plain, S.lay, St.kill, T.cut, cutn_un, cutn_bool, cutn_int, cutn_str, cutn_nilp, cutn_sl, cutn_el, cutn_fn, cutn_fref, cutn_ptr, cutr_un, cutr_bool, cutr_int, cutr_str, cutr_nilp, cutr_sl, cutr_el, cutr_fn, cutr_fref, cutr_ptr, Tag.names, mcut, mdrop, mget, mset, List.map_cons, St.box, St.store, St.wipe, setAt, bound, lenS, loadT, List.headD_cons, List.take_succ_cons, List.take_zero, List.take_nil, List.drop_nil, List.drop_zero, List.drop_succ_cons, Tag.sub, List.all_cons, List.all_nil, Nat.reduceLeDiff, Nat.reduceMul, Nat.reduceBEq, Nat.reduceEqDiff, Nat.reduceLT, T.madeAll, T.backAll, nm, List.contains_cons, List.contains_nil, backTag, Int.toNat_natCast, Option.map_some, beq_self_eq_true, Bool.or_true, Bool.true_or, Bool.or_false, Bool.false_or, or_true, or_false, false_or, reduceCtorEq, and_self, and_false, false_and, not_true_eq_false, not_false_eq_true, Bool.not_true, Bool.not_false, vv_of, vc_val, unvc_vc, tz26v, vc_drop, List.append_nil, unrows_rows, rowsV_len, vc_box, vc_nameL, td3, td4, td5, td22, td24, td26, td27, td33, td39, td42, td49, td52, td57, td59, tz3, tz24, tz33, tz42, tz49, tzz3, tzz4, tzz22, tzz24, tzz26, tzz27, tzz33, tzz42, tzz49, fl24, vc_len, vc_all, vc_0, vc_1, vc_2, vc_3, vc_4, vc_5, vc_6, vc_7, bp_len, bv_len, bp_all, bv_all, vc_cutn, vc_cutr, vc_lay, vc_lend, vc_back, vc_plain, bts_plain, bts_cutn, bts_cutr, bts_lend, eq_pp, eq_vv, eq_v0, places, aggD, Nat.zero_add, Nat.add_zero, Try.results24, k24_35, spec35, (c42 _).1, (c42 _).2, (c43 _ _).1, (c43 _ _).2]
  refine ⟨fun h => ?_, fun h => ?_⟩
  · refine ⟨hlen, ?_⟩
    refine PW.sw (G := k24) mixed _ _ _ ?_
    simp only [I, V, ↓ff_imp, ↓tf_imp, PW, PW1, regK, drawK, stepK, quietK, callK, idleK, fnK, argsV, T.val?, S.val?, boundT, lendBox_fn, lendBox_int, lendBox_bool, lendBox_nilp, List.flatMap_cons, List.flatMap_nil, S.reach, S.nameL, Tag.nameL, callOf, argsT, guardOf, pureOp, St.rd, St.eval, rdg, List.getD, List.getElem?_cons_zero, List.getElem?_cons_succ, List.cons_append, List.nil_append, List.replicate, List.length, List.getElem?_nil, Option.getD, T.ofValue, S.ofValue, St.put, List.set, binT, binI, thenQ, blockQ, scopeQ, Nat.reduceSub, Nat.reduceAdd, true_and, and_true, if_true, if_false, true_or, Option.bind, List.getElem?_toArray, eqOp, PS.Ends, resOf, packT, St.out, T.sub, S.sub, tagSub, LeT_bool, LeT_int, beq_true, beq_false, imp_self, implies_true, Bool.and_true, Bool.true_and, Bool.and_false, Bool.false_and, T.lend, S.lend, Tag.lend, T.back, S.back, T.made, S.made, Tag.made, St.ret, St.kills, List.map_nil, List.foldl_nil, List.foldl_cons, Bool.false_eq_true, false_imp_iff, true_imp_iff, forall_const, Bool.true_eq_false, minI, maxI, effOp, appendOp, fillT, chunks, T.cells, S.plain, S.lay, St.kill, T.cut, cutn_un, cutn_bool, cutn_int, cutn_str, cutn_nilp, cutn_sl, cutn_el, cutn_fn, cutn_fref, cutn_ptr, cutr_un, cutr_bool, cutr_int, cutr_str, cutr_nilp, cutr_sl, cutr_el, cutr_fn, cutr_fref, cutr_ptr, Tag.names, mcut, mdrop, mget, mset, List.map_cons, St.box, St.store, St.wipe, setAt, bound, lenS, loadT, List.headD_cons, List.take_succ_cons, List.take_zero, List.take_nil, List.drop_nil, List.drop_zero, List.drop_succ_cons, Tag.sub, List.all_cons, List.all_nil, Nat.reduceLeDiff, Nat.reduceMul, Nat.reduceBEq, Nat.reduceEqDiff, Nat.reduceLT, T.madeAll, T.backAll, nm, List.contains_cons, List.contains_nil, backTag, Int.toNat_natCast, Option.map_some, beq_self_eq_true, Bool.or_true, Bool.true_or, Bool.or_false, Bool.false_or, or_true, or_false, false_or, reduceCtorEq, and_self, and_false, false_and, not_true_eq_false, not_false_eq_true, Bool.not_true, Bool.not_false, vv_of, vc_val, unvc_vc, tz26v, vc_drop, List.append_nil, unrows_rows, rowsV_len, vc_box, vc_nameL, td3, td4, td5, td22, td24, td26, td27, td33, td39, td42, td49, td52, td57, td59, tz3, tz24, tz33, tz42, tz49, tzz3, tzz4, tzz22, tzz24, tzz26, tzz27, tzz33, tzz42, tzz49, fl24, vc_len, vc_all, vc_0, vc_1, vc_2, vc_3, vc_4, vc_5, vc_6, vc_7, bp_len, bv_len, bp_all, bv_all, vc_cutn, vc_cutr, vc_lay, vc_lend, vc_back, vc_plain, bts_plain, bts_cutn, bts_cutr, bts_lend, eq_pp, eq_vv, eq_v0, places, aggD, Nat.zero_add, Nat.add_zero, Try.results24, k24_35, spec35, (c42 _).1, (c42 _).2, (c43 _ _).1, (c43 _ _).2]
    unfold precB
    rw [if_pos h]
  · refine PW1.sw (G := k24) mixed _ _ _ ?_
    simp only [I, V, ↓ff_imp, ↓tf_imp, PW, PW1, regK, drawK, stepK, quietK, callK, idleK, fnK, argsV, T.val?, S.val?, boundT, lendBox_fn, lendBox_int, lendBox_bool, lendBox_nilp, List.flatMap_cons, List.flatMap_nil, S.reach, S.nameL, Tag.nameL, callOf, argsT, guardOf, pureOp, St.rd, St.eval, rdg, List.getD, List.getElem?_cons_zero, List.getElem?_cons_succ, List.cons_append, List.nil_append, List.replicate, List.length, List.getElem?_nil, Option.getD, T.ofValue, S.ofValue, St.put, List.set, binT, binI, thenQ, blockQ, scopeQ, Nat.reduceSub, Nat.reduceAdd, true_and, and_true, if_true, if_false, true_or, Option.bind, List.getElem?_toArray, eqOp, PS.Ends, resOf, packT, St.out, T.sub, S.sub, tagSub, LeT_bool, LeT_int, beq_true, beq_false, imp_self, implies_true, Bool.and_true, Bool.true_and, Bool.and_false, Bool.false_and, T.lend, S.lend, Tag.lend, T.back, S.back, T.made, S.made, Tag.made, St.ret, St.kills, List.map_nil, List.foldl_nil, List.foldl_cons, Bool.false_eq_true, false_imp_iff, true_imp_iff, forall_const, Bool.true_eq_false, minI, maxI, effOp, appendOp, fillT, chunks, T.cells, S.plain, S.lay, St.kill, T.cut, cutn_un, cutn_bool, cutn_int, cutn_str, cutn_nilp, cutn_sl, cutn_el, cutn_fn, cutn_fref, cutn_ptr, cutr_un, cutr_bool, cutr_int, cutr_str, cutr_nilp, cutr_sl, cutr_el, cutr_fn, cutr_fref, cutr_ptr, Tag.names, mcut, mdrop, mget, mset, List.map_cons, St.box, St.store, St.wipe, setAt, bound, lenS, loadT, List.headD_cons, List.take_succ_cons, List.take_zero, List.take_nil, List.drop_nil, List.drop_zero, List.drop_succ_cons, Tag.sub, List.all_cons, List.all_nil, Nat.reduceLeDiff, Nat.reduceMul, Nat.reduceBEq, Nat.reduceEqDiff, Nat.reduceLT, T.madeAll, T.backAll, nm, List.contains_cons, List.contains_nil, backTag, Int.toNat_natCast, Option.map_some, beq_self_eq_true, Bool.or_true, Bool.true_or, Bool.or_false, Bool.false_or, or_true, or_false, false_or, reduceCtorEq, and_self, and_false, false_and, not_true_eq_false, not_false_eq_true, Bool.not_true, Bool.not_false, vv_of, vc_val, unvc_vc, tz26v, vc_drop, List.append_nil, unrows_rows, rowsV_len, vc_box, vc_nameL, td3, td4, td5, td22, td24, td26, td27, td33, td39, td42, td49, td52, td57, td59, tz3, tz24, tz33, tz42, tz49, tzz3, tzz4, tzz22, tzz24, tzz26, tzz27, tzz33, tzz42, tzz49, fl24, vc_len, vc_all, vc_0, vc_1, vc_2, vc_3, vc_4, vc_5, vc_6, vc_7, bp_len, bv_len, bp_all, bv_all, vc_cutn, vc_cutr, vc_lay, vc_lend, vc_back, vc_plain, bts_plain, bts_cutn, bts_cutr, bts_lend, eq_pp, eq_vv, eq_v0, places, aggD, Nat.zero_add, Nat.add_zero, Try.results24, k24_35, spec35, (c42 _).1, (c42 _).2, (c43 _ _).1, (c43 _ _).2]
    refine ⟨hlen, ?_⟩
    refine PW1.sw (G := k24) mixed _ _ _ ?_
    simp only [I, V, ↓ff_imp, ↓tf_imp, PW, PW1, regK, drawK, stepK, quietK, callK, idleK, fnK, argsV, T.val?, S.val?, boundT, lendBox_fn, lendBox_int, lendBox_bool, lendBox_nilp, List.flatMap_cons, List.flatMap_nil, S.reach, S.nameL, Tag.nameL, callOf, argsT, guardOf, pureOp, St.rd, St.eval, rdg, List.getD, List.getElem?_cons_zero, List.getElem?_cons_succ, List.cons_append, List.nil_append, List.replicate, List.length, List.getElem?_nil, Option.getD, T.ofValue, S.ofValue, St.put, List.set, binT, binI, thenQ, blockQ, scopeQ, Nat.reduceSub, Nat.reduceAdd, true_and, and_true, if_true, if_false, true_or, Option.bind, List.getElem?_toArray, eqOp, PS.Ends, resOf, packT, St.out, T.sub, S.sub, tagSub, LeT_bool, LeT_int, beq_true, beq_false, imp_self, implies_true, Bool.and_true, Bool.true_and, Bool.and_false, Bool.false_and, T.lend, S.lend, Tag.lend, T.back, S.back, T.made, S.made, Tag.made, St.ret, St.kills, List.map_nil, List.foldl_nil, List.foldl_cons, Bool.false_eq_true, false_imp_iff, true_imp_iff, forall_const, Bool.true_eq_false, minI, maxI, effOp, appendOp, fillT, chunks, T.cells, S.plain, S.lay, St.kill, T.cut, cutn_un, cutn_bool, cutn_int, cutn_str, cutn_nilp, cutn_sl, cutn_el, cutn_fn, cutn_fref, cutn_ptr, cutr_un, cutr_bool, cutr_int, cutr_str, cutr_nilp, cutr_sl, cutr_el, cutr_fn, cutr_fref, cutr_ptr, Tag.names, mcut, mdrop, mget, mset, List.map_cons, St.box, St.store, St.wipe, setAt, bound, lenS, loadT, List.headD_cons, List.take_succ_cons, List.take_zero, List.take_nil, List.drop_nil, List.drop_zero, List.drop_succ_cons, Tag.sub, List.all_cons, List.all_nil, Nat.reduceLeDiff, Nat.reduceMul, Nat.reduceBEq, Nat.reduceEqDiff, Nat.reduceLT, T.madeAll, T.backAll, nm, List.contains_cons, List.contains_nil, backTag, Int.toNat_natCast, Option.map_some, beq_self_eq_true, Bool.or_true, Bool.true_or, Bool.or_false, Bool.false_or, or_true, or_false, false_or, reduceCtorEq, and_self, and_false, false_and, not_true_eq_false, not_false_eq_true, Bool.not_true, Bool.not_false, vv_of, vc_val, unvc_vc, tz26v, vc_drop, List.append_nil, unrows_rows, rowsV_len, vc_box, vc_nameL, td3, td4, td5, td22, td24, td26, td27, td33, td39, td42, td49, td52, td57, td59, tz3, tz24, tz33, tz42, tz49, tzz3, tzz4, tzz22, tzz24, tzz26, tzz27, tzz33, tzz42, tzz49, fl24, vc_len, vc_all, vc_0, vc_1, vc_2, vc_3, vc_4, vc_5, vc_6, vc_7, bp_len, bv_len, bp_all, bv_all, vc_cutn, vc_cutr, vc_lay, vc_lend, vc_back, vc_plain, bts_plain, bts_cutn, bts_cutr, bts_lend, eq_pp, eq_vv, eq_v0, places, aggD, Nat.zero_add, Nat.add_zero, Try.results24, k24_35, spec35, (c42 _).1, (c42 _).2, (c43 _ _).1, (c43 _ _).2]
    have hpre : precB m q l v = if !suppB m q l v.support (f42 v) then false else twoB l v := by unfold precB; rw [if_neg (by rw [h]; simp)]
    rw [hpre]
    refine ⟨fun h2 => ?_, fun h2 => ?_⟩
    · refine PW.sw (G := k24) mixed _ _ _ ?_
      simp only [I, V, ↓ff_imp, ↓tf_imp, PW, PW1, regK, drawK, stepK, quietK, callK, idleK, fnK, argsV, T.val?, S.val?, boundT, lendBox_fn, lendBox_int, lendBox_bool, lendBox_nilp, List.flatMap_cons, List.flatMap_nil, S.reach, S.nameL, Tag.nameL, callOf, argsT, guardOf, pureOp, St.rd, St.eval, rdg, List.getD, List.getElem?_cons_zero, List.getElem?_cons_succ, List.cons_append, List.nil_append, List.replicate, List.length, List.getElem?_nil, Option.getD, T.ofValue, S.ofValue, St.put, List.set, binT, binI, thenQ, blockQ, scopeQ, Nat.reduceSub, Nat.reduceAdd, true_and, and_true, if_true, if_false, true_or, Option.bind, List.getElem?_toArray, eqOp, PS.Ends, resOf, packT, St.out, T.sub, S.sub, tagSub, LeT_bool, LeT_int, beq_true, beq_false, imp_self, implies_true, Bool.and_true, Bool.true_and, Bool.and_false, Bool.false_and, T.lend, S.lend, Tag.lend, T.back, S.back, T.made, S.made, Tag.made, St.ret, St.kills, List.map_nil, List.foldl_nil, List.foldl_cons, Bool.false_eq_true, false_imp_iff, true_imp_iff, forall_const, Bool.true_eq_false, minI, maxI, effOp, appendOp, fillT, chunks, T.cells, S.plain, S.lay, St.kill, T.cut, cutn_un, cutn_bool, cutn_int, cutn_str, cutn_nilp, cutn_sl, cutn_el, cutn_fn, cutn_fref, cutn_ptr, cutr_un, cutr_bool, cutr_int, cutr_str, cutr_nilp, cutr_sl, cutr_el, cutr_fn, cutr_fref, cutr_ptr, Tag.names, mcut, mdrop, mget, mset, List.map_cons, St.box, St.store, St.wipe, setAt, bound, lenS, loadT, List.headD_cons, List.take_succ_cons, List.take_zero, List.take_nil, List.drop_nil, List.drop_zero, List.drop_succ_cons, Tag.sub, List.all_cons, List.all_nil, Nat.reduceLeDiff, Nat.reduceMul, Nat.reduceBEq, Nat.reduceEqDiff, Nat.reduceLT, T.madeAll, T.backAll, nm, List.contains_cons, List.contains_nil, backTag, Int.toNat_natCast, Option.map_some, beq_self_eq_true, Bool.or_true, Bool.true_or, Bool.or_false, Bool.false_or, or_true, or_false, false_or, reduceCtorEq, and_self, and_false, false_and, not_true_eq_false, not_false_eq_true, Bool.not_true, Bool.not_false, vv_of, vc_val, unvc_vc, tz26v, vc_drop, List.append_nil, unrows_rows, rowsV_len, vc_box, vc_nameL, td3, td4, td5, td22, td24, td26, td27, td33, td39, td42, td49, td52, td57, td59, tz3, tz24, tz33, tz42, tz49, tzz3, tzz4, tzz22, tzz24, tzz26, tzz27, tzz33, tzz42, tzz49, fl24, vc_len, vc_all, vc_0, vc_1, vc_2, vc_3, vc_4, vc_5, vc_6, vc_7, bp_len, bv_len, bp_all, bv_all, vc_cutn, vc_cutr, vc_lay, vc_lend, vc_back, vc_plain, bts_plain, bts_cutn, bts_cutr, bts_lend, eq_pp, eq_vv, eq_v0, places, aggD, Nat.zero_add, Nat.add_zero, Try.results24, k24_35, spec35, (c42 _).1, (c42 _).2, (c43 _ _).1, (c43 _ _).2]
      rw [if_pos h2]
    · rw [if_neg (by rw [h2]; simp), ← anyB_two]
      refine PW1.sw (G := k24) mixed _ _ _ ?_
      simp only [I, V, ↓ff_imp, ↓tf_imp, PW, PW1, regK, drawK, stepK, quietK, callK, idleK, fnK, argsV, T.val?, S.val?, boundT, lendBox_fn, lendBox_int, lendBox_bool, lendBox_nilp, List.flatMap_cons, List.flatMap_nil, S.reach, S.nameL, Tag.nameL, callOf, argsT, guardOf, pureOp, St.rd, St.eval, rdg, List.getD, List.getElem?_cons_zero, List.getElem?_cons_succ, List.cons_append, List.nil_append, List.replicate, List.length, List.getElem?_nil, Option.getD, T.ofValue, S.ofValue, St.put, List.set, binT, binI, thenQ, blockQ, scopeQ, Nat.reduceSub, Nat.reduceAdd, true_and, and_true, if_true, if_false, true_or, Option.bind, List.getElem?_toArray, eqOp, PS.Ends, resOf, packT, St.out, T.sub, S.sub, tagSub, LeT_bool, LeT_int, beq_true, beq_false, imp_self, implies_true, Bool.and_true, Bool.true_and, Bool.and_false, Bool.false_and, T.lend, S.lend, Tag.lend, T.back, S.back, T.made, S.made, Tag.made, St.ret, St.kills, List.map_nil, List.foldl_nil, List.foldl_cons, Bool.false_eq_true, false_imp_iff, true_imp_iff, forall_const, Bool.true_eq_false, minI, maxI, effOp, appendOp, fillT, chunks, T.cells, S.plain, S.lay, St.kill, T.cut, cutn_un, cutn_bool, cutn_int, cutn_str, cutn_nilp, cutn_sl, cutn_el, cutn_fn, cutn_fref, cutn_ptr, cutr_un, cutr_bool, cutr_int, cutr_str, cutr_nilp, cutr_sl, cutr_el, cutr_fn, cutr_fref, cutr_ptr, Tag.names, mcut, mdrop, mget, mset, List.map_cons, St.box, St.store, St.wipe, setAt, bound, lenS, loadT, List.headD_cons, List.take_succ_cons, List.take_zero, List.take_nil, List.drop_nil, List.drop_zero, List.drop_succ_cons, Tag.sub, List.all_cons, List.all_nil, Nat.reduceLeDiff, Nat.reduceMul, Nat.reduceBEq, Nat.reduceEqDiff, Nat.reduceLT, T.madeAll, T.backAll, nm, List.contains_cons, List.contains_nil, backTag, Int.toNat_natCast, Option.map_some, beq_self_eq_true, Bool.or_true, Bool.true_or, Bool.or_false, Bool.false_or, or_true, or_false, false_or, reduceCtorEq, and_self, and_false, false_and, not_true_eq_false, not_false_eq_true, Bool.not_true, Bool.not_false, vv_of, vc_val, unvc_vc, tz26v, vc_drop, List.append_nil, unrows_rows, rowsV_len, vc_box, vc_nameL, td3, td4, td5, td22, td24, td26, td27, td33, td39, td42, td49, td52, td57, td59, tz3, tz24, tz33, tz42, tz49, tzz3, tzz4, tzz22, tzz24, tzz26, tzz27, tzz33, tzz42, tzz49, fl24, vc_len, vc_all, vc_0, vc_1, vc_2, vc_3, vc_4, vc_5, vc_6, vc_7, bp_len, bv_len, bp_all, bv_all, vc_cutn, vc_cutr, vc_lay, vc_lend, vc_back, vc_plain, bts_plain, bts_cutn, bts_cutr, bts_lend, eq_pp, eq_vv, eq_v0, places, aggD, Nat.zero_add, Nat.add_zero, Try.results24, k24_35, spec35, (c42 _).1, (c42 _).2, (c43 _ _).1, (c43 _ _).2]
      refine SW.seq (SW.le (st' := st7 m q i l v (fun vals => fnSpec k24 42 [.el (.arg 6) (vc v)] vals)) ?_ (sw7 (o0 := _) (o1 := _) (o2 := _) (o3 := _) rfl ⟨rfl, rfl, rfl⟩ ⟨rfl, rfl, rfl⟩ ⟨rfl, rfl, rfl⟩ ⟨rfl, rfl, rfl⟩ hlen (fun u => ⟨(c42 6).2 u, by rw [(c42 6).1]⟩) ?_))
      · refine Le.mks ?_ (.same rfl (.same rfl (.same rfl (.same rfl (LeMs.nil _)))))
        simp only [LeTs, LeT.un, LeT.refl, true_and, and_true, and_self, ↓ff_imp, ↓tf_imp, PW, PW1, regK, drawK, stepK, quietK, callK, idleK, fnK, argsV, T.val?, S.val?, boundT, lendBox_fn, lendBox_int, lendBox_bool, lendBox_nilp, List.flatMap_cons, List.flatMap_nil, S.reach, S.nameL, Tag.nameL, callOf, argsT, guardOf, pureOp, St.rd, St.eval, rdg, List.getD, List.getElem?_cons_zero, List.getElem?_cons_succ, List.cons_append, List.nil_append, List.replicate, List.length, List.getElem?_nil, Option.getD, T.ofValue, S.ofValue, St.put, List.set, binT, binI, thenQ, blockQ, scopeQ, Nat.reduceSub, Nat.reduceAdd, true_and, and_true, if_true, if_false, true_or, Option.bind, List.getElem?_toArray, eqOp, PS.Ends, resOf, packT, St.out, T.sub, S.sub, tagSub, LeT_bool, LeT_int, beq_true, beq_false, imp_self, implies_true, Bool.and_true, Bool.true_and, Bool.and_false, Bool.false_and, T.lend, S.lend, Tag.lend, T.back, S.back, T.made, S.made, Tag.made, St.ret, St.kills, List.map_nil, List.foldl_nil, List.foldl_cons, Bool.false_eq_true, false_imp_iff, true_imp_iff, forall_const, Bool.true_eq_false, minI, maxI, effOp, appendOp, fillT, chunks, T.cells, S.plain, S.lay, St.kill, T.cut, cutn_un, cutn_bool, cutn_int, cutn_str, cutn_nilp, cutn_sl, cutn_el, cutn_fn, cutn_fref, cutn_ptr, cutr_un, cutr_bool, cutr_int, cutr_str, cutr_nilp, cutr_sl, cutr_el, cutr_fn, cutr_fref, cutr_ptr, Tag.names, mcut, mdrop, mget, mset, List.map_cons, St.box, St.store, St.wipe, setAt, bound, lenS, loadT, List.headD_cons, List.take_succ_cons, List.take_zero, List.take_nil, List.drop_nil, List.drop_zero, List.drop_succ_cons, Tag.sub, List.all_cons, List.all_nil, Nat.reduceLeDiff, Nat.reduceMul, Nat.reduceBEq, Nat.reduceEqDiff, Nat.reduceLT, T.madeAll, T.backAll, nm, List.contains_cons, List.contains_nil, backTag, Int.toNat_natCast, Option.map_some, beq_self_eq_true, Bool.or_true, Bool.true_or, Bool.or_false, Bool.false_or, or_true, or_false, false_or, reduceCtorEq, and_self, and_false, false_and, not_true_eq_false, not_false_eq_true, Bool.not_true, Bool.not_false]
      · intro s hs
        refine SW.ret ?_
        simp only [PS.Ends, Try.f24, resOf, ↓ff_imp, ↓tf_imp, PW, PW1, regK, drawK, stepK, quietK, callK, idleK, fnK, argsV, T.val?, S.val?, boundT, lendBox_fn, lendBox_int, lendBox_bool, lendBox_nilp, List.flatMap_cons, List.flatMap_nil, S.reach, S.nameL, Tag.nameL, callOf, argsT, guardOf, pureOp, St.rd, St.eval, rdg, List.getD, List.getElem?_cons_zero, List.getElem?_cons_succ, List.cons_append, List.nil_append, List.replicate, List.length, List.getElem?_nil, Option.getD, T.ofValue, S.ofValue, St.put, List.set, binT, binI, thenQ, blockQ, scopeQ, Nat.reduceSub, Nat.reduceAdd, true_and, and_true, if_true, if_false, true_or, Option.bind, List.getElem?_toArray, eqOp, PS.Ends, resOf, packT, St.out, T.sub, S.sub, tagSub, LeT_bool, LeT_int, beq_true, beq_false, imp_self, implies_true, Bool.and_true, Bool.true_and, Bool.and_false, Bool.false_and, T.lend, S.lend, Tag.lend, T.back, S.back, T.made, S.made, Tag.made, St.ret, St.kills, List.map_nil, List.foldl_nil, List.foldl_cons, Bool.false_eq_true, false_imp_iff, true_imp_iff, forall_const, Bool.true_eq_false, minI, maxI, effOp, appendOp, fillT, chunks, T.cells, S.plain, S.lay, St.kill, T.cut, cutn_un, cutn_bool, cutn_int, cutn_str, cutn_nilp, cutn_sl, cutn_el, cutn_fn, cutn_fref, cutn_ptr, cutr_un, cutr_bool, cutr_int, cutr_str, cutr_nilp, cutr_sl, cutr_el, cutr_fn, cutr_fref, cutr_ptr, Tag.names, mcut, mdrop, mget, mset, List.map_cons, St.box, St.store, St.wipe, setAt, bound, lenS, loadT, List.headD_cons, List.take_succ_cons, List.take_zero, List.take_nil, List.drop_nil, List.drop_zero, List.drop_succ_cons, Tag.sub, List.all_cons, List.all_nil, Nat.reduceLeDiff, Nat.reduceMul, Nat.reduceBEq, Nat.reduceEqDiff, Nat.reduceLT, T.madeAll, T.backAll, nm, List.contains_cons, List.contains_nil, backTag, Int.toNat_natCast, Option.map_some, beq_self_eq_true, Bool.or_true, Bool.true_or, Bool.or_false, Bool.false_or, or_true, or_false, false_or, reduceCtorEq, and_self, and_false, false_and, not_true_eq_false, not_false_eq_true, Bool.not_true, Bool.not_false, hs]

/-! ### Allowed -/
def spec23 : List T → Option (Prop × T)
  | [.agg [.int .i64 m, .int .i64 q, .sl (.arg i) 22 es], .agg cs] => some (rowsV (unrows es) = es ∧ vc (unvc cs) = cs ∧ es.length ≤ 100000 ∧ rOK (unvc cs), .one (.bool (prevB m q (unrows es) (unvc cs))))
  | _ => none
theorem spec23_good : ∀ args ob t, spec23 args = some (ob, t) → ob → Sim Try.prog 23 args t := by
  intro args ob t hs ho
  unfold spec23 at hs
  split at hs
  · cases hs
    rename_i m q i es cs
    have := sim23 m q i (unrows es) (by rw [← rowsV_len, ho.1]; exact ho.2.2.1) (unvc cs) ho.2.2.2
    rwa [court, V, ho.1, ho.2.1] at this
  · cases hs
def spec24 : List T → Option (Prop × T)
  | [.agg [.int .i64 m, .int .i64 q, .sl (.arg i) 22 es], .agg cs] => some (rowsV (unrows es) = es ∧ vc (unvc cs) = cs ∧ es.length ≤ 100000, .one (.bool (precB m q (unrows es) (unvc cs))))
  | _ => none
theorem spec24_good : ∀ args ob t, spec24 args = some (ob, t) → ob → Sim Try.prog 24 args t := by
  intro args ob t hs ho
  unfold spec24 at hs
  split at hs
  · cases hs
    rename_i m q i es cs
    have := sim24 m q i (unrows es) (by rw [← rowsV_len, ho.1]; exact ho.2.2) (unvc cs)
    rwa [court, V, ho.1, ho.2.1] at this
  · cases hs
def specV (f : Vt → Bool) : List T → Option (Prop × T)
  | [.agg cs] => some (vc (unvc cs) = cs, .one (.bool (f (unvc cs))))
  | _ => none
theorem specV_good {k : Nat} {f : Vt → Bool} (h : ∀ v, Sim Try.prog k [V v] (.one (.bool (f v)))) : ∀ args ob t, specV f args = some (ob, t) → ob → Sim Try.prog k args t := by
  intro args ob t hs ho
  unfold specV at hs
  split at hs
  · cases hs
    rename_i cs
    have := h (unvc cs)
    rwa [V, ho] at this
  · cases hs
def k10 : Book Try.prog := (((((((book0.add 13 (specV validB) (specV_good sim13)).add 14 (spec2 (fun _ _ => True) fun m i => .one (.bool (hasI m i))) (spec2_good fun m i _ => sim14 m i)).add
  16 (spec1 (fun _ => True) fun m => I (sizeI m)) (spec1_good fun m _ => sim16 m)).add 15 (spec1 i64ok fun n => I (quorI n)) (spec1_good sim15)).add 20 spec20 spec20_good).add 21 (specWE f21 fun _ => True) (specWE_good fun v w i _ => sim21 v w i)).add
  23 spec23 spec23_good).add 24 spec24 spec24_good
theorem k10_13 (args : List T) : k10.spec 13 args = specV validB args := by simp only [k10, add_spec, Nat.reduceEqDiff, if_true, if_false]
theorem k10_14 (args : List T) : k10.spec 14 args = spec2 (fun _ _ => True) (fun m i => .one (.bool (hasI m i))) args := by simp only [k10, add_spec, Nat.reduceEqDiff, if_true, if_false]
theorem k10_16 (args : List T) : k10.spec 16 args = spec1 (fun _ => True) (fun m => I (sizeI m)) args := by simp only [k10, add_spec, Nat.reduceEqDiff, if_true, if_false]
theorem k10_15 (args : List T) : k10.spec 15 args = spec1 i64ok (fun n => I (quorI n)) args := by simp only [k10, add_spec, Nat.reduceEqDiff, if_true, if_false]
theorem k10_20 (args : List T) : k10.spec 20 args = spec20 args := by simp only [k10, add_spec, Nat.reduceEqDiff, if_true, if_false]
theorem k10_21 (args : List T) : k10.spec 21 args = specWE f21 (fun _ => True) args := by simp only [k10, add_spec, Nat.reduceEqDiff, if_true, if_false]
theorem k10_23 (args : List T) : k10.spec 23 args = spec23 args := by simp only [k10, add_spec, Nat.reduceEqDiff, if_true, if_false]
theorem k10_24 (args : List T) : k10.spec 24 args = spec24 args := by simp only [k10, add_spec, Nat.reduceEqDiff, if_true, if_false]
/-- Whether a vote counts for v. -/
def cntB (m : Int) (v w : Vt) : Bool :=
  if (if (if (if validB w then decide (w.parent = v.parent) else false) then w.slot == v.slot else false) then decide (w.kind ≤ 4) else false) then hasI m w.signer else false
/-- Whether v may be allowed at all. -/
def mayB (m : Int) (v : Vt) : Bool :=
  if (if (if (!validB v) then true else decide (v.kind > 4)) then true else !hasI m v.signer) then true else !hasI m v.slot
def allowB (m : Int) (v : Vt) (a : List Vt) : Bool :=
  if mayB m v then false
  else if v.kind == 1 then v.signer == v.slot
  else if v.kind == 2 then (a.filter (cntB m v)).any (f21 v)
  else if v.kind == 3 then prevB m (quorI (sizeI m)) (a.filter (cntB m v)) v
  else precB m (quorI (sizeI m)) (a.filter (cntB m v)) v
theorem valid_of_may {m : Int} {v : Vt} (h : mayB m v = false) : validB v = true ∧ v.kind ≤ 4 ∧ hasI m v.signer = true ∧ hasI m v.slot = true := by
  unfold mayB at h
  cases h1 : validB v <;> cases h2 : hasI m v.signer <;> cases h3 : hasI m v.slot <;> simp [h1, h2, h3] at h ⊢
  exact h
theorem vK_of_valid {v : Vt} (h : validB v = true) : vK v = true ∧ btw v.kind 1 7 = true ∧ btw v.signer 0 9 = true ∧ ((v.choice == 1) == decide (v.value = zeroN)) = false ∧ (bitsI .andNot .i64 v.support 1023 != 0) = false := by
  unfold validB at h
  cases h1 : btw v.kind 1 7 <;> cases h2 : btw v.signer 0 9 <;> cases h3 : ((v.choice == 1) == decide (v.value = zeroN)) <;> cases h4 : (bitsI .andNot .i64 v.support 1023 != 0) <;> simp [h1, h2, h3, h4] at h ⊢
  exact h
theorem vB_round {v : Vt} (h : vB v = true) : rOK v := by
  unfold vB at h
  unfold rOK
  cases h1 : btw v.slot 0 9 <;> cases h2 : btw v.round 1 12 <;> simp [h1, h2] at h
  simpa [btw] using h2
theorem vC_round {v : Vt} (h : vC v = true) : rOK v := by
  unfold vC at h
  unfold rOK
  cases h1 : btw v.slot 0 9 <;> cases h2 : btw v.round 1 12 <;> simp [h1, h2] at h
  simpa [btw] using h2
theorem rok_of {m : Int} {v : Vt} (h : mayB m v = false) (h3 : (v.kind == 3) = true) : rOK v := by
  have hv := (vK_of_valid (valid_of_may h).1).1
  have hk : v.kind = 3 := by simpa using h3
  have : vK v = vB v := by unfold vK; rw [hk]; rfl
  rw [this] at hv
  exact vB_round hv
theorem sim10 (m : Int) (v : Vt) (a : List Vt) (hlen : a.length ≤ 100000) :
    Sim Try.prog 10 [I m, V v, .one (.sl .plain 22 (rowsV a))] (.one (.bool (allowB m v a))) := by
  refine Sim.of_code Try.func10 (by unfold Try.f10; rfl) Try.ntmps10 Try.call10 [] (by simp) (by rfl) (PW.sw (G := k10) mixed _ _ _ ?_)
  have hq : i64ok (sizeI m) := by have := sizeI_range m; unfold i64ok; omega
  simp only [I, V, ↓ff_imp, ↓tf_imp, PW, PW1, regK, drawK, stepK, quietK, callK, idleK, fnK, argsV, T.val?, S.val?, boundT, lendBox_fn, lendBox_int, lendBox_bool, lendBox_nilp, List.flatMap_cons, List.flatMap_nil, S.reach, S.nameL, Tag.nameL, callOf, argsT, guardOf, pureOp, St.rd, St.eval, rdg, List.getD, List.getElem?_cons_zero, List.getElem?_cons_succ, List.cons_append, List.nil_append, List.replicate, List.length, List.getElem?_nil, Option.getD, T.ofValue, S.ofValue, St.put, List.set, binT, binI, thenQ, blockQ, scopeQ, Nat.reduceSub, Nat.reduceAdd, true_and, and_true, if_true, if_false, true_or, Option.bind, List.getElem?_toArray, eqOp, PS.Ends, resOf, packT, St.out, T.sub, S.sub, tagSub, LeT_bool, LeT_int, beq_true, beq_false, imp_self, implies_true, Bool.and_true, Bool.true_and, Bool.and_false, Bool.false_and, T.lend, S.lend, Tag.lend, T.back, S.back, T.made, S.made, Tag.made, St.ret, St.kills, List.map_nil, List.foldl_nil, List.foldl_cons, Bool.false_eq_true, false_imp_iff, true_imp_iff, forall_const, Bool.true_eq_false, minI, maxI, effOp, appendOp, fillT, chunks, T.cells, S.plain, S.lay, St.kill, T.cut, cutn_un, cutn_bool, cutn_int, cutn_str, cutn_nilp, cutn_sl, cutn_el, cutn_fn, cutn_fref, cutn_ptr, cutr_un, cutr_bool, cutr_int, cutr_str, cutr_nilp, cutr_sl, cutr_el, cutr_fn, cutr_fref, cutr_ptr, Tag.names, mcut, mdrop, mget, mset, List.map_cons, St.box, St.store, St.wipe, setAt, bound, lenS, loadT, List.headD_cons, List.take_succ_cons, List.take_zero, List.take_nil, List.drop_nil, List.drop_zero, List.drop_succ_cons, Tag.sub, List.all_cons, List.all_nil, Nat.reduceLeDiff, Nat.reduceMul, Nat.reduceBEq, Nat.reduceEqDiff, Nat.reduceLT, T.madeAll, T.backAll, nm, List.contains_cons, List.contains_nil, backTag, Int.toNat_natCast, Option.map_some, beq_self_eq_true, Bool.or_true, Bool.true_or, Bool.or_false, Bool.false_or, or_true, or_false, false_or, reduceCtorEq, and_self, and_false, false_and, not_true_eq_false, not_false_eq_true, Bool.not_true, Bool.not_false, vv_of, vc_val, unvc_vc, tz26v, vc_drop, List.append_nil, unrows_rows, rowsV_len, vc_box, vc_nameL, td3, td4, td5, td22, td24, td26, td27, td33, td39, td42, td49, td52, td57, td59, tz3, tz24, tz33, tz42, tz49, tzz3, tzz4, tzz22, tzz24, tzz26, tzz27, tzz33, tzz42, tzz49, fl24, vc_len, vc_all, vc_0, vc_1, vc_2, vc_3, vc_4, vc_5, vc_6, vc_7, bp_len, bv_len, bp_all, bv_all, vc_cutn, vc_cutr, vc_lay, vc_lend, vc_back, vc_plain, bts_plain, bts_cutn, bts_cutr, bts_lend, eq_pp, eq_vv, eq_v0, places, aggD, Nat.zero_add, Nat.add_zero, Try.results10, k10_13, k10_14, k10_15, k10_16, specV, spec1, spec2]
  refine ⟨fun h => by unfold allowB; rw [show mayB m v = true from h, if_pos rfl], fun h => ⟨hq, ?_⟩⟩
  have hal : allowB m v a = if v.kind == 1 then v.signer == v.slot
      else if v.kind == 2 then (a.filter (cntB m v)).any (f21 v)
      else if v.kind == 3 then prevB m (quorI (sizeI m)) (a.filter (cntB m v)) v
      else precB m (quorI (sizeI m)) (a.filter (cntB m v)) v := by
    unfold allowB; rw [show mayB m v = false from h]; rfl
  refine SW.loop (fun j => ⟨[I m, .un, .un, .un, .one (.ptr 4 0), .un, .one (.bool false), .one (.ptr 7 0)] ++ List.replicate 29 .un ++ [.one (.sl .plain 22 (rowsV a)), I a.length, I (j : Nat)] ++ List.replicate 59 .un,
      [(4, vc v), (7, [.int .i64 m, .int .i64 (quorI (sizeI m)), .sl (.own 74 26) 22 (rowsV ((a.take j).filter (cntB m v)))])]⟩)
    (fun j => j ≤ a.length) (fun j => a.length - j) 0 ?_ (by simp) ?_
  · refine Le.mks ?_ (.same rfl (.cons rfl ?_ (LeMs.nil _)))
    · simp only [I, LeTs, LeT.un, LeT.refl, true_and, and_true, and_self, ↓ff_imp, ↓tf_imp, PW, PW1, regK, drawK, stepK, quietK, callK, idleK, fnK, argsV, T.val?, S.val?, boundT, lendBox_fn, lendBox_int, lendBox_bool, lendBox_nilp, List.flatMap_cons, List.flatMap_nil, S.reach, S.nameL, Tag.nameL, callOf, argsT, guardOf, pureOp, St.rd, St.eval, rdg, List.getD, List.getElem?_cons_zero, List.getElem?_cons_succ, List.cons_append, List.nil_append, List.replicate, List.length, List.getElem?_nil, Option.getD, T.ofValue, S.ofValue, St.put, List.set, binT, binI, thenQ, blockQ, scopeQ, Nat.reduceSub, Nat.reduceAdd, true_and, and_true, if_true, if_false, true_or, Option.bind, List.getElem?_toArray, eqOp, PS.Ends, resOf, packT, St.out, T.sub, S.sub, tagSub, LeT_bool, LeT_int, beq_true, beq_false, imp_self, implies_true, Bool.and_true, Bool.true_and, Bool.and_false, Bool.false_and, T.lend, S.lend, Tag.lend, T.back, S.back, T.made, S.made, Tag.made, St.ret, St.kills, List.map_nil, List.foldl_nil, List.foldl_cons, Bool.false_eq_true, false_imp_iff, true_imp_iff, forall_const, Bool.true_eq_false, minI, maxI, effOp, appendOp, fillT, chunks, T.cells, S.plain, S.lay, St.kill, T.cut, cutn_un, cutn_bool, cutn_int, cutn_str, cutn_nilp, cutn_sl, cutn_el, cutn_fn, cutn_fref, cutn_ptr, cutr_un, cutr_bool, cutr_int, cutr_str, cutr_nilp, cutr_sl, cutr_el, cutr_fn, cutr_fref, cutr_ptr, Tag.names, mcut, mdrop, mget, mset, List.map_cons, St.box, St.store, St.wipe, setAt, bound, lenS, loadT, List.headD_cons, List.take_succ_cons, List.take_zero, List.take_nil, List.drop_nil, List.drop_zero, List.drop_succ_cons, Tag.sub, List.all_cons, List.all_nil, Nat.reduceLeDiff, Nat.reduceMul, Nat.reduceBEq, Nat.reduceEqDiff, Nat.reduceLT, T.madeAll, T.backAll, nm, List.contains_cons, List.contains_nil, backTag, Int.toNat_natCast, Option.map_some, beq_self_eq_true, Bool.or_true, Bool.true_or, Bool.or_false, Bool.false_or, or_true, or_false, false_or, reduceCtorEq, and_self, and_false, false_and, not_true_eq_false, not_false_eq_true, Bool.not_true, Bool.not_false]
      rfl
    · simp only [LeTs, LeT.un, LeT.refl, true_and, and_true, and_self, ↓ff_imp, ↓tf_imp, PW, PW1, regK, drawK, stepK, quietK, callK, idleK, fnK, argsV, T.val?, S.val?, boundT, lendBox_fn, lendBox_int, lendBox_bool, lendBox_nilp, List.flatMap_cons, List.flatMap_nil, S.reach, S.nameL, Tag.nameL, callOf, argsT, guardOf, pureOp, St.rd, St.eval, rdg, List.getD, List.getElem?_cons_zero, List.getElem?_cons_succ, List.cons_append, List.nil_append, List.replicate, List.length, List.getElem?_nil, Option.getD, T.ofValue, S.ofValue, St.put, List.set, binT, binI, thenQ, blockQ, scopeQ, Nat.reduceSub, Nat.reduceAdd, true_and, and_true, if_true, if_false, true_or, Option.bind, List.getElem?_toArray, eqOp, PS.Ends, resOf, packT, St.out, T.sub, S.sub, tagSub, LeT_bool, LeT_int, beq_true, beq_false, imp_self, implies_true, Bool.and_true, Bool.true_and, Bool.and_false, Bool.false_and, T.lend, S.lend, Tag.lend, T.back, S.back, T.made, S.made, Tag.made, St.ret, St.kills, List.map_nil, List.foldl_nil, List.foldl_cons, Bool.false_eq_true, false_imp_iff, true_imp_iff, forall_const, Bool.true_eq_false, minI, maxI, effOp, appendOp, fillT, chunks, T.cells, S.plain, S.lay, St.kill, T.cut, cutn_un, cutn_bool, cutn_int, cutn_str, cutn_nilp, cutn_sl, cutn_el, cutn_fn, cutn_fref, cutn_ptr, cutr_un, cutr_bool, cutr_int, cutr_str, cutr_nilp, cutr_sl, cutr_el, cutr_fn, cutr_fref, cutr_ptr, Tag.names, mcut, mdrop, mget, mset, List.map_cons, St.box, St.store, St.wipe, setAt, bound, lenS, loadT, List.headD_cons, List.take_succ_cons, List.take_zero, List.take_nil, List.drop_nil, List.drop_zero, List.drop_succ_cons, Tag.sub, List.all_cons, List.all_nil, Nat.reduceLeDiff, Nat.reduceMul, Nat.reduceBEq, Nat.reduceEqDiff, Nat.reduceLT, T.madeAll, T.backAll, nm, List.contains_cons, List.contains_nil, backTag, Int.toNat_natCast, Option.map_some, beq_self_eq_true, Bool.or_true, Bool.true_or, Bool.or_false, Bool.false_or, or_true, or_false, false_or, reduceCtorEq, and_self, and_false, false_and, not_true_eq_false, not_false_eq_true, Bool.not_true, Bool.not_false]
      exact LeT.zero _ _ _ _ _
  · intro j hj
    have hw : IntKind.i64.wrap ((j : Int) + 1) = ((j + 1 : Nat) : Int) := by rw [wrap_id] <;> (try unfold i64ok) <;> omega
    refine PW.sw (G := k10) mixed _ _ _ ?_
    have hfl : ((a.take j).filter (cntB m v)).length ≤ 100000 := Nat.le_trans (List.length_filter_le _ _) (by rw [List.length_take]; omega)
    by_cases hjl : j < a.length
    · have ht : decide ((j : Int) < (a.length : Int)) = true := by simp; omega
      have hat := rowsV_at hjl
      have hn : (a.take (j + 1)).filter (cntB m v) = (a.take j).filter (cntB m v) ++ (if cntB m v a[j] then [a[j]] else []) := by
        rw [List.take_add_one, List.getElem?_eq_getElem hjl, Option.toList_some, List.filter_append]
        congr 1
        by_cases hc : cntB m v a[j] = true
        · rw [if_pos hc, List.filter_cons_of_pos hc]; rfl
        · rw [if_neg hc, List.filter_cons_of_neg (by simpa using hc)]; rfl
      simp only [I, V, ↓ff_imp, ↓tf_imp, PW, PW1, regK, drawK, stepK, quietK, callK, idleK, fnK, argsV, T.val?, S.val?, boundT, lendBox_fn, lendBox_int, lendBox_bool, lendBox_nilp, List.flatMap_cons, List.flatMap_nil, S.reach, S.nameL, Tag.nameL, callOf, argsT, guardOf, pureOp, St.rd, St.eval, rdg, List.getD, List.getElem?_cons_zero, List.getElem?_cons_succ, List.cons_append, List.nil_append, List.replicate, List.length, List.getElem?_nil, Option.getD, T.ofValue, S.ofValue, St.put, List.set, binT, binI, thenQ, blockQ, scopeQ, Nat.reduceSub, Nat.reduceAdd, true_and, and_true, if_true, if_false, true_or, Option.bind, List.getElem?_toArray, eqOp, PS.Ends, resOf, packT, St.out, T.sub, S.sub, tagSub, LeT_bool, LeT_int, beq_true, beq_false, imp_self, implies_true, Bool.and_true, Bool.true_and, Bool.and_false, Bool.false_and, T.lend, S.lend, Tag.lend, T.back, S.back, T.made, S.made, Tag.made, St.ret, St.kills, List.map_nil, List.foldl_nil, List.foldl_cons, Bool.false_eq_true, false_imp_iff, true_imp_iff, forall_const, Bool.true_eq_false, minI, maxI, effOp, appendOp, fillT, chunks, T.cells, S.plain, S.lay, St.kill, T.cut, cutn_un, cutn_bool, cutn_int, cutn_str, cutn_nilp, cutn_sl, cutn_el, cutn_fn, cutn_fref, cutn_ptr, cutr_un, cutr_bool, cutr_int, cutr_str, cutr_nilp, cutr_sl, cutr_el, cutr_fn, cutr_fref, cutr_ptr, Tag.names, mcut, mdrop, mget, mset, List.map_cons, St.box, St.store, St.wipe, setAt, bound, lenS, loadT, List.headD_cons, List.take_succ_cons, List.take_zero, List.take_nil, List.drop_nil, List.drop_zero, List.drop_succ_cons, Tag.sub, List.all_cons, List.all_nil, Nat.reduceLeDiff, Nat.reduceMul, Nat.reduceBEq, Nat.reduceEqDiff, Nat.reduceLT, T.madeAll, T.backAll, nm, List.contains_cons, List.contains_nil, backTag, Int.toNat_natCast, Option.map_some, beq_self_eq_true, Bool.or_true, Bool.true_or, Bool.or_false, Bool.false_or, or_true, or_false, false_or, reduceCtorEq, and_self, and_false, false_and, not_true_eq_false, not_false_eq_true, Bool.not_true, Bool.not_false, vv_of, vc_val, unvc_vc, tz26v, vc_drop, List.append_nil, unrows_rows, rowsV_len, vc_box, vc_nameL, td3, td4, td5, td22, td24, td26, td27, td33, td39, td42, td49, td52, td57, td59, tz3, tz24, tz33, tz42, tz49, tzz3, tzz4, tzz22, tzz24, tzz26, tzz27, tzz33, tzz42, tzz49, fl24, vc_len, vc_all, vc_0, vc_1, vc_2, vc_3, vc_4, vc_5, vc_6, vc_7, bp_len, bv_len, bp_all, bv_all, vc_cutn, vc_cutr, vc_lay, vc_lend, vc_back, vc_plain, bts_plain, bts_cutn, bts_cutr, bts_lend, eq_pp, eq_vv, eq_v0, places, aggD, Nat.zero_add, Nat.add_zero, Try.results10, hw, ht, hat, k10_13, k10_14, k10_15, k10_16, specV, spec1, spec2]
      refine ⟨⟨by omega, by omega⟩, fun hc => ⟨⟨by omega, by omega⟩, j + 1, Le.mks ?_ (.same rfl (.cons rfl ?_ (LeMs.nil _))), by omega, by omega⟩, fun hc => ⟨j + 1, Le.mks ?_ (.same rfl (.cons rfl ?_ (LeMs.nil _))), by omega, by omega⟩⟩
      · simp only [LeTs, LeT.un, LeT.refl, true_and, and_true, and_self]
      · have e : rowsV ((a.take (j + 1)).filter (cntB m v)) = rowsV ((a.take j).filter (cntB m v)) ++ [vc a[j]] := by
          rw [hn, if_pos (show cntB m v a[j] = true from hc)]; simp [rowsV]
        rw [e]
        exact LeTs.refl _
      · simp only [LeTs, LeT.un, LeT.refl, true_and, and_true, and_self]
      · have e : rowsV ((a.take (j + 1)).filter (cntB m v)) = rowsV ((a.take j).filter (cntB m v)) := by
          rw [hn, if_neg (by rw [show cntB m v a[j] = false from hc]; simp), List.append_nil]
        rw [e]
        exact LeTs.refl _
    · have ht : decide ((j : Int) < (a.length : Int)) = false := by simp; omega
      have hta : a.take j = a := List.take_of_length_le (by omega)
      have c21 := fun i => cloE k10_21 v trivial i
      rw [hta] at hfl ⊢
      simp only [I, V, ↓ff_imp, ↓tf_imp, PW, PW1, regK, drawK, stepK, quietK, callK, idleK, fnK, argsV, T.val?, S.val?, boundT, lendBox_fn, lendBox_int, lendBox_bool, lendBox_nilp, List.flatMap_cons, List.flatMap_nil, S.reach, S.nameL, Tag.nameL, callOf, argsT, guardOf, pureOp, St.rd, St.eval, rdg, List.getD, List.getElem?_cons_zero, List.getElem?_cons_succ, List.cons_append, List.nil_append, List.replicate, List.length, List.getElem?_nil, Option.getD, T.ofValue, S.ofValue, St.put, List.set, binT, binI, thenQ, blockQ, scopeQ, Nat.reduceSub, Nat.reduceAdd, true_and, and_true, if_true, if_false, true_or, Option.bind, List.getElem?_toArray, eqOp, PS.Ends, resOf, packT, St.out, T.sub, S.sub, tagSub, LeT_bool, LeT_int, beq_true, beq_false, imp_self, implies_true, Bool.and_true, Bool.true_and, Bool.and_false, Bool.false_and, T.lend, S.lend, Tag.lend, T.back, S.back, T.made, S.made, Tag.made, St.ret, St.kills, List.map_nil, List.foldl_nil, List.foldl_cons, Bool.false_eq_true, false_imp_iff, true_imp_iff, forall_const, Bool.true_eq_false, minI, maxI, effOp, appendOp, fillT, chunks, T.cells, S.plain, S.lay, St.kill, T.cut, cutn_un, cutn_bool, cutn_int, cutn_str, cutn_nilp, cutn_sl, cutn_el, cutn_fn, cutn_fref, cutn_ptr, cutr_un, cutr_bool, cutr_int, cutr_str, cutr_nilp, cutr_sl, cutr_el, cutr_fn, cutr_fref, cutr_ptr, Tag.names, mcut, mdrop, mget, mset, List.map_cons, St.box, St.store, St.wipe, setAt, bound, lenS, loadT, List.headD_cons, List.take_succ_cons, List.take_zero, List.take_nil, List.drop_nil, List.drop_zero, List.drop_succ_cons, Tag.sub, List.all_cons, List.all_nil, Nat.reduceLeDiff, Nat.reduceMul, Nat.reduceBEq, Nat.reduceEqDiff, Nat.reduceLT, T.madeAll, T.backAll, nm, List.contains_cons, List.contains_nil, backTag, Int.toNat_natCast, Option.map_some, beq_self_eq_true, Bool.or_true, Bool.true_or, Bool.or_false, Bool.false_or, or_true, or_false, false_or, reduceCtorEq, and_self, and_false, false_and, not_true_eq_false, not_false_eq_true, Bool.not_true, Bool.not_false, vv_of, vc_val, unvc_vc, tz26v, vc_drop, List.append_nil, unrows_rows, rowsV_len, vc_box, vc_nameL, td3, td4, td5, td22, td24, td26, td27, td33, td39, td42, td49, td52, td57, td59, tz3, tz24, tz33, tz42, tz49, tzz3, tzz4, tzz22, tzz24, tzz26, tzz27, tzz33, tzz42, tzz49, fl24, vc_len, vc_all, vc_0, vc_1, vc_2, vc_3, vc_4, vc_5, vc_6, vc_7, bp_len, bv_len, bp_all, bv_all, vc_cutn, vc_cutr, vc_lay, vc_lend, vc_back, vc_plain, bts_plain, bts_cutn, bts_cutr, bts_lend, eq_pp, eq_vv, eq_v0, places, aggD, Nat.zero_add, Nat.add_zero, Try.results10, hw, ht, k10_20, k10_21, k10_23, k10_24, spec20, spec23, spec24, (c21 _).1, (c21 _).2]
      rw [hal]
      refine ⟨fun h1 => by rw [if_pos h1], fun h1 => ⟨fun h2 => ⟨hfl, by rw [if_neg (by rw [h1]; simp), if_pos h2]⟩, fun h2 => ⟨fun h3 => ⟨⟨hfl, rok_of h h3⟩, by rw [if_neg (by rw [h1]; simp), if_neg (by rw [h2]; simp), if_pos h3]⟩,
        fun h3 => ⟨hfl, by rw [if_neg (by rw [h1]; simp), if_neg (by rw [h2]; simp), if_neg (by rw [h3]; simp)]⟩⟩⟩⟩
end Go.Proofs.Ytngjhimhmpbofaa
