/- The closure that remembers: what it does. -/
import Derived.Test.YtngjhimhmpbofaaJw
set_option linter.unusedSimpArgs false
set_option linter.unusedVariables false
set_option maxRecDepth 100000
set_option maxHeartbeats 4000000
namespace Go.Proofs.Ytngjhimhmpbofaa
open Go Go.PS
theorem cutn_fm (d : Nat) (xs : List Nat) (y : Nat) (C : Nat → World → Value → Prop) : (S.fm xs y C).cut (S.names d) = if (xs.contains d || d == y) = true then .un else .fm xs y C := rfl
theorem cutr_fm (d : Nat) (xs : List Nat) (y : Nat) (C : Nat → World → Value → Prop) : (S.fm xs y C).cut (S.reads d) = if xs.contains d = true then .un else .fm xs y C := rfl
/-- A frame's results, as its state tells them. -/
def packVs : List Value → Value
  | [v] => v
  | vs => .tuple vs.toArray
theorem pack_rep' {B : Base} {ρ : Names} {w : World} {l : List T} : ∀ {vs : List Value}, RepTs B ρ w l vs → RepT B ρ w (packT l) (packVs vs)
  | [], h => pack_rep h
  | [v], h => pack_rep h
  | v :: v' :: vs, h => pack_rep h
theorem res_pack {P : Program} {B : Base} {ρ : Names} {s : St} {a : Act} {w : World} (hr : Rel B ρ s a w) {fn : Func} {o : Prop} {l : List T} (h : resOf P s fn.results.toList = some (o, l)) (ho : o) :
    ∃ v, (results fn a.tmps).run P w = .ok v w ∧ RepT B ρ w (packT l) v := by
  obtain ⟨vs, h2, h3⟩ := res_run hr fn.results.toList o l h ho
  refine ⟨packVs vs, ?_, pack_rep' h3⟩
  clear h3
  have hm : (fn.results.mapM fun (x : ResultVar) => (match x with
    | .tmp t => pure (a.tmps.getD t undef)
    | .cell x t => do loadVar t (← asAddr (a.tmps.getD x undef)) : Sem Value)) = List.toArray <$> (fn.results.toList.mapM fun (x : ResultVar) => (match x with
    | .tmp t => pure (a.tmps.getD t undef)
    | .cell x t => do loadVar t (← asAddr (a.tmps.getD x undef)) : Sem Value)) := by
    rw [Array.mapM_eq_mapM_toList]
  have h2' : (fn.results.toList.mapM fun (x : ResultVar) => (match x with
    | .tmp t => pure (a.tmps.getD t undef)
    | .cell x t => do loadVar t (← asAddr (a.tmps.getD x undef)) : Sem Value)).run P w = .ok vs w := h2
  unfold results
  rw [Sem.run_bind]
  refine (congrArg (fun m => Result.andThen (Sem.run P m w) _) hm).trans ?_
  rw [Sem.run_map, h2', Result.andThen_ok, Result.andThen_ok]
  match vs with
  | [] => rfl
  | [v] => rfl
  | v :: v' :: vs => rfl
theorem calls_of_pw {P : Program} {G : Book P} (hm : P.follows .mixedOrders = true) {f : FuncId} {fn : Func} {c : Code} (hf : P.funcs[f]? = some fn) (hb : fn.body = some c) {B : Base} {ρ : Names} {st : St} {vs : Array Value} {w : World} (hP : B.P = P)
    (h0 : Rel B ρ st { tmps := vs ++ Array.replicate (fn.ntmps - vs.size) undef, defers := [] } w) {Q : Exit → St → Prop} (h : PW P G c Q st) {t : Nat} (hn : noDst t c = true) {R : Ending → World → Prop}
    (hQ : ∀ e s, Q e s → (e = .normal ∨ e = .ret) ∧ ∃ o l, resOf P s fn.results.toList = some (o, l) ∧ o ∧ ∀ ρ' a' w' v, Rel B ρ' s a' w' → RepT B ρ' w' (packT l) v →
      a'.tmps.getD t undef = (vs ++ Array.replicate (fn.ntmps - vs.size) undef).getD t undef → R (.returned v) w') : Calls P f vs w R := by
  refine calls_of_wp hf hb (wp_mono (PW.keep hm c Q st h hn B ρ _ w hP h0 rfl) fun e a' w' ⟨⟨ρ', s, hrel, hq⟩, hk⟩ => ?_)
  obtain ⟨he, o, l, h1, ho, hR⟩ := hQ e s hq
  obtain ⟨v, hv, hrep⟩ := res_pack (P := P) hrel h1 ho
  have := hR ρ' a' w' v hrel hrep hk
  rcases he with rfl | rfl
  · exact ⟨hrel.defers, v, hv, this⟩
  · exact ⟨hrel.defers, v, hv, this⟩
/-- The closure's end. -/
def End44 (v : Vt) (s : Option Vt) (u : Vt) (e : Exit) (st : St) : Prop :=
  e = .ret ∧ resOf Try.prog st Try.f44.results.toList = some (True, [.one (.bool (r44 v s u))]) ∧
    (mget st.mem 100 = some [cellOf (s44 v s u)] ∨ (s44 v s u = some u ∧ mget st.mem 100 = some [.ptr 4 0] ∧ mget st.mem 4 = some (vc u))) ∧ st.tmps[3]? = some (.one (.ptr 100 0))
def k44 : Book Try.prog := (book0.add 14 (spec2 (fun _ _ => True) fun m i => .one (.bool (hasI m i))) (spec2_good fun m i _ => sim14 m i)).add 22 (specVV sameB) (specVV_good sim22)
theorem k44_14 (args : List T) : k44.spec 14 args = spec2 (fun _ _ => True) (fun m i => .one (.bool (hasI m i))) args := by simp only [k44, add_spec, Nat.reduceEqDiff, if_true, if_false]
theorem k44_22 (args : List T) : k44.spec 22 args = specVV sameB args := by simp only [k44, add_spec, Nat.reduceEqDiff, if_true, if_false]
theorem sw44 (g : Tag) (hg : g = .plain ∨ ∃ i, g = .arg i) (v : Vt) (p : Fp) (hp : ∀ u, okAt p u ∧ boolOf p u = f42 v u) (s : Option Vt) (u : Vt) {c : Code} (hc : Try.f44.body = some c) :
    PW Try.prog k44 c (End44 v s u) ⟨[V u, .one (.fref [] p), .one (.el g (vc v)), .one (.ptr 100 0)] ++ List.replicate 22 .un, [(100, [cellOf s])]⟩ := by
  obtain ⟨⟨ob, hpo, hob⟩, hpb⟩ := hp u
  rw [hpb] at hpo
  unfold Try.f44 at hc
  cases hc
  rcases hg with rfl | ⟨i, rfl⟩
  all_goals cases s with
  | none =>
    simp only [I, V, cellOf, ↓ff_imp, ↓tf_imp, PW, PW1, regK, drawK, stepK, quietK, callK, idleK, fnK, argsV, T.val?, S.val?, boundT, lendBox_fn, lendBox_int, lendBox_bool, lendBox_nilp, List.flatMap_cons, List.flatMap_nil, S.reach, S.nameL, Tag.nameL, callOf, argsT, guardOf, pureOp, St.rd, St.eval, rdg, List.getD, List.getElem?_cons_zero, List.getElem?_cons_succ, List.cons_append, List.nil_append, List.replicate, List.length, List.getElem?_nil, Option.getD, T.ofValue, S.ofValue, St.put, List.set, binT, binI, thenQ, blockQ, scopeQ, Nat.reduceSub, Nat.reduceAdd, true_and, and_true, if_true, if_false, true_or, Option.bind, List.getElem?_toArray, eqOp, PS.Ends, resOf, packT, St.out, T.sub, S.sub, tagSub, LeT_bool, LeT_int, beq_true, beq_false, imp_self, implies_true, Bool.and_true, Bool.true_and, Bool.and_false, Bool.false_and, T.lend, S.lend, Tag.lend, T.back, S.back, T.made, S.made, Tag.made, St.ret, St.kills, List.map_nil, List.foldl_nil, List.foldl_cons, Bool.false_eq_true, false_imp_iff, true_imp_iff, forall_const, Bool.true_eq_false, minI, maxI, effOp, appendOp, fillT, chunks, T.cells, S.plain, S.lay, St.kill, T.cut, cutn_un, cutn_bool, cutn_int, cutn_str, cutn_nilp, cutn_sl, cutn_el, cutn_fn, cutn_fref, cutn_ptr, cutr_un, cutr_bool, cutr_int, cutr_str, cutr_nilp, cutr_sl, cutr_el, cutr_fn, cutr_fref, cutr_ptr, Tag.names, mcut, mdrop, mget, mset, List.map_cons, St.box, St.store, St.wipe, setAt, bound, lenS, loadT, List.headD_cons, List.take_succ_cons, List.take_zero, List.take_nil, List.drop_nil, List.drop_zero, List.drop_succ_cons, Tag.sub, List.all_cons, List.all_nil, Nat.reduceLeDiff, Nat.reduceMul, Nat.reduceBEq, Nat.reduceEqDiff, Nat.reduceLT, T.madeAll, T.backAll, nm, List.contains_cons, List.contains_nil, backTag, Int.toNat_natCast, Option.map_some, beq_self_eq_true, Bool.or_true, Bool.true_or, Bool.or_false, Bool.false_or, or_true, or_false, false_or, reduceCtorEq, and_self, and_false, false_and, not_true_eq_false, not_false_eq_true, Bool.not_true, Bool.not_false, vv_of, vc_val, unvc_vc, tz26v, vc_drop, List.append_nil, unrows_rows, rowsV_len, vc_box, vc_nameL, td3, td4, td5, td22, td24, td26, td27, td33, td39, td42, td49, td52, td57, td59, tz3, tz24, tz33, tz42, tz49, tzz3, tzz4, tzz22, tzz24, tzz26, tzz27, tzz33, tzz42, tzz49, fl24, vc_len, vc_all, vc_0, vc_1, vc_2, vc_3, vc_4, vc_5, vc_6, vc_7, bp_len, bv_len, bp_all, bv_all, vc_cutn, vc_cutr, vc_lay, vc_lend, vc_back, vc_plain, bts_plain, bts_cutn, bts_cutr, bts_lend, eq_pp, eq_vv, eq_v0, places, aggD, Nat.zero_add, Nat.add_zero, Try.results44, hpo, k44_14, k44_22, spec2, specVV]
    refine ⟨hob, fun h => ⟨rfl, ?_, .inl ?_, rfl⟩, fun h => ⟨by rfl, rfl, ?_, .inr ⟨?_, rfl, rfl⟩, rfl⟩⟩
    all_goals cases h1 : f42 v u <;> cases h2 : hasI v.support u.signer <;> simp [h1, h2] at h
    all_goals simp only [↓ff_imp, ↓tf_imp, PW, PW1, regK, drawK, stepK, quietK, callK, idleK, fnK, argsV, T.val?, S.val?, boundT, lendBox_fn, lendBox_int, lendBox_bool, lendBox_nilp, List.flatMap_cons, List.flatMap_nil, S.reach, S.nameL, Tag.nameL, callOf, argsT, guardOf, pureOp, St.rd, St.eval, rdg, List.getD, List.getElem?_cons_zero, List.getElem?_cons_succ, List.cons_append, List.nil_append, List.replicate, List.length, List.getElem?_nil, Option.getD, T.ofValue, S.ofValue, St.put, List.set, binT, binI, thenQ, blockQ, scopeQ, Nat.reduceSub, Nat.reduceAdd, true_and, and_true, if_true, if_false, true_or, Option.bind, List.getElem?_toArray, eqOp, PS.Ends, resOf, packT, St.out, T.sub, S.sub, tagSub, LeT_bool, LeT_int, beq_true, beq_false, imp_self, implies_true, Bool.and_true, Bool.true_and, Bool.and_false, Bool.false_and, T.lend, S.lend, Tag.lend, T.back, S.back, T.made, S.made, Tag.made, St.ret, St.kills, List.map_nil, List.foldl_nil, List.foldl_cons, Bool.false_eq_true, false_imp_iff, true_imp_iff, forall_const, Bool.true_eq_false, minI, maxI, effOp, appendOp, fillT, chunks, T.cells, S.plain, S.lay, St.kill, T.cut, cutn_un, cutn_bool, cutn_int, cutn_str, cutn_nilp, cutn_sl, cutn_el, cutn_fn, cutn_fref, cutn_ptr, cutr_un, cutr_bool, cutr_int, cutr_str, cutr_nilp, cutr_sl, cutr_el, cutr_fn, cutr_fref, cutr_ptr, Tag.names, mcut, mdrop, mget, mset, List.map_cons, St.box, St.store, St.wipe, setAt, bound, lenS, loadT, List.headD_cons, List.take_succ_cons, List.take_zero, List.take_nil, List.drop_nil, List.drop_zero, List.drop_succ_cons, Tag.sub, List.all_cons, List.all_nil, Nat.reduceLeDiff, Nat.reduceMul, Nat.reduceBEq, Nat.reduceEqDiff, Nat.reduceLT, T.madeAll, T.backAll, nm, List.contains_cons, List.contains_nil, backTag, Int.toNat_natCast, Option.map_some, beq_self_eq_true, Bool.or_true, Bool.true_or, Bool.or_false, Bool.false_or, or_true, or_false, false_or, reduceCtorEq, and_self, and_false, false_and, not_true_eq_false, not_false_eq_true, Bool.not_true, Bool.not_false, Try.f44, r44, s44, fits44, h1, h2, cellOf]
  | some u0 =>
    simp only [I, V, cellOf, ↓ff_imp, ↓tf_imp, PW, PW1, regK, drawK, stepK, quietK, callK, idleK, fnK, argsV, T.val?, S.val?, boundT, lendBox_fn, lendBox_int, lendBox_bool, lendBox_nilp, List.flatMap_cons, List.flatMap_nil, S.reach, S.nameL, Tag.nameL, callOf, argsT, guardOf, pureOp, St.rd, St.eval, rdg, List.getD, List.getElem?_cons_zero, List.getElem?_cons_succ, List.cons_append, List.nil_append, List.replicate, List.length, List.getElem?_nil, Option.getD, T.ofValue, S.ofValue, St.put, List.set, binT, binI, thenQ, blockQ, scopeQ, Nat.reduceSub, Nat.reduceAdd, true_and, and_true, if_true, if_false, true_or, Option.bind, List.getElem?_toArray, eqOp, PS.Ends, resOf, packT, St.out, T.sub, S.sub, tagSub, LeT_bool, LeT_int, beq_true, beq_false, imp_self, implies_true, Bool.and_true, Bool.true_and, Bool.and_false, Bool.false_and, T.lend, S.lend, Tag.lend, T.back, S.back, T.made, S.made, Tag.made, St.ret, St.kills, List.map_nil, List.foldl_nil, List.foldl_cons, Bool.false_eq_true, false_imp_iff, true_imp_iff, forall_const, Bool.true_eq_false, minI, maxI, effOp, appendOp, fillT, chunks, T.cells, S.plain, S.lay, St.kill, T.cut, cutn_un, cutn_bool, cutn_int, cutn_str, cutn_nilp, cutn_sl, cutn_el, cutn_fn, cutn_fref, cutn_ptr, cutr_un, cutr_bool, cutr_int, cutr_str, cutr_nilp, cutr_sl, cutr_el, cutr_fn, cutr_fref, cutr_ptr, Tag.names, mcut, mdrop, mget, mset, List.map_cons, St.box, St.store, St.wipe, setAt, bound, lenS, loadT, List.headD_cons, List.take_succ_cons, List.take_zero, List.take_nil, List.drop_nil, List.drop_zero, List.drop_succ_cons, Tag.sub, List.all_cons, List.all_nil, Nat.reduceLeDiff, Nat.reduceMul, Nat.reduceBEq, Nat.reduceEqDiff, Nat.reduceLT, T.madeAll, T.backAll, nm, List.contains_cons, List.contains_nil, backTag, Int.toNat_natCast, Option.map_some, beq_self_eq_true, Bool.or_true, Bool.true_or, Bool.or_false, Bool.false_or, or_true, or_false, false_or, reduceCtorEq, and_self, and_false, false_and, not_true_eq_false, not_false_eq_true, Bool.not_true, Bool.not_false, vv_of, vc_val, unvc_vc, tz26v, vc_drop, List.append_nil, unrows_rows, rowsV_len, vc_box, vc_nameL, td3, td4, td5, td22, td24, td26, td27, td33, td39, td42, td49, td52, td57, td59, tz3, tz24, tz33, tz42, tz49, tzz3, tzz4, tzz22, tzz24, tzz26, tzz27, tzz33, tzz42, tzz49, fl24, vc_len, vc_all, vc_0, vc_1, vc_2, vc_3, vc_4, vc_5, vc_6, vc_7, bp_len, bv_len, bp_all, bv_all, vc_cutn, vc_cutr, vc_lay, vc_lend, vc_back, vc_plain, bts_plain, bts_cutn, bts_cutr, bts_lend, eq_pp, eq_vv, eq_v0, places, aggD, Nat.zero_add, Nat.add_zero, Try.results44, hpo, k44_14, k44_22, spec2, specVV]
    refine ⟨hob, fun h => ⟨rfl, ?_, .inl ?_, rfl⟩, fun h => ⟨by rfl, rfl, ?_, .inl ?_, rfl⟩⟩
    all_goals cases h1 : f42 v u <;> cases h2 : hasI v.support u.signer <;> simp [h1, h2] at h
    all_goals simp only [↓ff_imp, ↓tf_imp, PW, PW1, regK, drawK, stepK, quietK, callK, idleK, fnK, argsV, T.val?, S.val?, boundT, lendBox_fn, lendBox_int, lendBox_bool, lendBox_nilp, List.flatMap_cons, List.flatMap_nil, S.reach, S.nameL, Tag.nameL, callOf, argsT, guardOf, pureOp, St.rd, St.eval, rdg, List.getD, List.getElem?_cons_zero, List.getElem?_cons_succ, List.cons_append, List.nil_append, List.replicate, List.length, List.getElem?_nil, Option.getD, T.ofValue, S.ofValue, St.put, List.set, binT, binI, thenQ, blockQ, scopeQ, Nat.reduceSub, Nat.reduceAdd, true_and, and_true, if_true, if_false, true_or, Option.bind, List.getElem?_toArray, eqOp, PS.Ends, resOf, packT, St.out, T.sub, S.sub, tagSub, LeT_bool, LeT_int, beq_true, beq_false, imp_self, implies_true, Bool.and_true, Bool.true_and, Bool.and_false, Bool.false_and, T.lend, S.lend, Tag.lend, T.back, S.back, T.made, S.made, Tag.made, St.ret, St.kills, List.map_nil, List.foldl_nil, List.foldl_cons, Bool.false_eq_true, false_imp_iff, true_imp_iff, forall_const, Bool.true_eq_false, minI, maxI, effOp, appendOp, fillT, chunks, T.cells, S.plain, S.lay, St.kill, T.cut, cutn_un, cutn_bool, cutn_int, cutn_str, cutn_nilp, cutn_sl, cutn_el, cutn_fn, cutn_fref, cutn_ptr, cutr_un, cutr_bool, cutr_int, cutr_str, cutr_nilp, cutr_sl, cutr_el, cutr_fn, cutr_fref, cutr_ptr, Tag.names, mcut, mdrop, mget, mset, List.map_cons, St.box, St.store, St.wipe, setAt, bound, lenS, loadT, List.headD_cons, List.take_succ_cons, List.take_zero, List.take_nil, List.drop_nil, List.drop_zero, List.drop_succ_cons, Tag.sub, List.all_cons, List.all_nil, Nat.reduceLeDiff, Nat.reduceMul, Nat.reduceBEq, Nat.reduceEqDiff, Nat.reduceLT, T.madeAll, T.backAll, nm, List.contains_cons, List.contains_nil, backTag, Int.toNat_natCast, Option.map_some, beq_self_eq_true, Bool.or_true, Bool.true_or, Bool.or_false, Bool.false_or, or_true, or_false, false_or, reduceCtorEq, and_self, and_false, false_and, not_true_eq_false, not_false_eq_true, Bool.not_true, Bool.not_false, Try.f44, r44, s44, fits44, h1, h2, cellOf]
theorem rel_start {B : Base} {ρ : Names} {w : World} {args : List T} {vals : List Value} {n : Nat} {m : List (Nat × List S)} (h : RepTs B ρ w args vals) (hm : ∀ x cs, mget m x = some cs → BoxAt B ρ w x cs)
    (hi : ∀ x y b, ρ x = some b → ρ y = some b → x = y) (hl : ∀ x b, ρ x = some b → b < w.heap.size) (ha : ∀ i b, B.α i = some b → ¬ Priv ρ b ∧ b < w.heap.size) (hn : ∀ x b, ρ x = some b → B.w.heap.size ≤ b ∨ B.W b)
    (hk : Keeps B w) : Rel B ρ ⟨args ++ List.replicate (n - args.length) .un, m⟩ { tmps := vals.toArray ++ Array.replicate (n - vals.toArray.size) undef, defers := [] } w := by
  have hlen := repTs_length h
  refine ⟨by simp [hlen], fun t v ht => ?_, hm, hi, hl, ha, hn, hk, rfl⟩
  rw [List.getElem?_append] at ht
  split at ht
  · obtain ⟨v', h1, h2⟩ := repTs_at h t v ht
    have : t < vals.length := by omega
    have e : ((vals.toArray ++ Array.replicate (n - vals.toArray.size) undef).getD t undef) = v' := by
      rw [Array.getD_eq_getD_getElem?, Array.getElem?_append]
      simp only [List.size_toArray, this, if_true, List.getElem?_toArray, h1, Option.getD_some]
    exact e ▸ h2
  · rw [List.getElem?_replicate] at ht
    split at ht
    · cases ht; trivial
    · cases ht
theorem start_at {vals : List Value} {n t : Nat} {v : Value} (h : vals[t]? = some v) : ((vals.toArray ++ Array.replicate (n - vals.toArray.size) undef).getD t undef) = v := by
  have : t < vals.length := (List.getElem?_eq_some_iff.1 h).1
  rw [Array.getD_eq_getD_getElem?, Array.getElem?_append]
  simp only [List.size_toArray, this, if_true, List.getElem?_toArray, h, Option.getD_some]
open Classical in
/-- The blocks of Z but b, as arguments' blocks. -/
noncomputable def αZ (Z : Nat → Prop) (b : Nat) (i : Nat) : Option Nat := if Z i ∧ i ≠ b then some i else none
theorem αZ_some {Z : Nat → Prop} {b i k : Nat} (h : αZ Z b i = some k) : i = k ∧ Z k ∧ k ≠ b := by
  unfold αZ at h
  split at h
  · rename_i e; cases h; exact ⟨rfl, e⟩
  · cases h
theorem αZ_of {Z : Nat → Prop} {b k : Nat} (h : Z k) (hb : k ≠ b) : αZ Z b k = some k := by unfold αZ; rw [if_pos ⟨h, hb⟩]
def one100 (b : Nat) : Names := fun x => if x = 100 then some b else none
theorem one100_some {b x k : Nat} (h : one100 b x = some k) : x = 100 ∧ k = b := by
  unfold one100 at h
  split at h
  · rename_i e; exact ⟨e, (Option.some.inj h).symm⟩
  · cases h
theorem vc_ints (v : Vt) : ∀ s ∈ vc v, ∃ k n, s = .int k n := by
  have h : (vc v).all (fun s => match s with | .int _ _ => true | _ => false) = true := by simp [vc, bts]
  intro s hs
  have := (List.all_eq_true.1 h) s hs
  cases s <;> first | exact ⟨_, _, rfl⟩ | cases this
/-- The closure, as it lies in a world. -/
theorem calls44 {v : Vt} {p : Fp} (hp : ∀ u, okAt p u ∧ boolOf p u = f42 v u) {w : World} {b p5 p3 : Nat} {fv : Value} (hfv : fv.oneCell' = true)
    (h5 : ∀ w' : World, (∀ k, k < w.heap.size → k ≠ b → w'.heap[k]? = w.heap[k]?) → w'.cell? ⟨p5, 0, none⟩ = some fv ∧ FnOK Try.prog p w' fv)
    (h3 : p3 ≠ b) (hc3 : ∀ i k n, (vc v)[i]? = some (.int k n) → w.cell? ⟨p3, i, none⟩ = some (.int k n)) :
    Clo v b w (.func (.func 44) #[] #[.pointer (some ⟨p5, 0, none⟩), .pointer (some ⟨p3, 0, none⟩), .pointer (some ⟨b, 0, none⟩)]) := by
  intro Z s u hZb hZ hst
  refine ⟨44, _, rfl, fun vs w => Try.call44 vs w, ?_⟩
  obtain ⟨arr, ty, hh, hl, c, hc, hpl⟩ := hst
  have hbl : b < w.heap.size := hZ b hZb
  have hzs : ∀ k, Zs (⟨Try.prog, w, fun k => k = b, αZ Z b⟩ : Base) (one100 b) k → Z k := by
    rintro k (⟨x, hx⟩ | ⟨i, hi⟩)
    · rw [(one100_some hx).2]; exact hZb
    · exact (αZ_some hi).2.1
  obtain ⟨g, hg, hlies⟩ : ∃ g : Tag, (g = .plain ∨ ∃ i, g = .arg i) ∧ g.lies (⟨Try.prog, w, fun k => k = b, αZ Z b⟩ : Base) (one100 b) p3 := by
    by_cases hz : Z p3
    · exact ⟨.arg p3, .inr ⟨_, rfl⟩, αZ_of hz h3, fun ⟨x, hx⟩ => h3 (one100_some hx).2⟩
    · exact ⟨.plain, .inl rfl, fun h => hz (hzs _ h)⟩
  have hargs : RepTs ⟨Try.prog, w, fun k => k = b, αZ Z b⟩ (one100 b) w [V u, .one (.fref [] p), .one (.el g (vc v)), .one (.ptr 100 0)]
      [vv u, .pointer (some ⟨p5, 0, none⟩), .pointer (some ⟨p3, 0, none⟩), .pointer (some ⟨b, 0, none⟩)] := by
    refine ⟨_, _, rfl, ?_, _, _, rfl, ?_, _, _, rfl, ?_, _, _, rfl, ?_, rfl⟩
    · have := RepT.ofValue (B := ⟨Try.prog, w, fun k => k = b, αZ Z b⟩) (ρ := one100 b) (w := w) (vv u)
      rw [vv_of] at this
      exact this
    · refine ⟨p5, fv, rfl, hfv, fun w' he => h5 w' fun k hk hne => he k hk (.inl ?_)⟩
      rintro ⟨x, hx⟩
      exact hne (one100_some hx).2
    · refine ⟨p3, 0, rfl, fun i s hs => ?_⟩
      obtain ⟨k, n, rfl⟩ := vc_ints v s (List.mem_of_getElem? hs)
      exact ⟨p3, 0, .int k n, rfl, hlies, by simpa using hc3 i k n hs, rfl⟩
    · exact ⟨b, rfl, rfl⟩
  have h0 := rel_start (n := Try.f44.ntmps) (m := [(100, [cellOf s])]) hargs (fun x cs hx => by
      simp only [mget] at hx
      split at hx
      · rename_i e
        simp only [beq_iff_eq] at e
        cases hx
        refine ⟨b, arr, ty, by rw [← e]; rfl, hh, hl, fun j q hq => ?_⟩
        cases j with
        | zero =>
          cases hq
          exact ⟨c, hc, RepS.of_pl (Pl.mono (fun _ _ _ => rfl) (fun k hk => .inl (hzs k hk)) _ _ hpl)⟩
        | succ j => simp at hq
      · cases hx) (fun x y k hx hy => by have := one100_some hx; have := one100_some hy; omega) (fun x k hx => by rw [(one100_some hx).2]; exact hbl) (fun i k hi => ⟨fun ⟨x, hx⟩ => (αZ_some hi).2.2 (one100_some hx).2, hZ k (αZ_some hi).2.1⟩)
    (fun x k hx => .inr (one100_some hx).2) ⟨rfl, rfl, rfl, Nat.le_refl _, fun _ _ _ => rfl⟩
  refine calls_of_pw (P := Try.prog) (fn := Try.f44) mixed Try.func44 (by unfold Try.f44; rfl) rfl h0 (sw44 g hg v p hp s u (by unfold Try.f44; rfl)) (t := 3) (by rfl) ?_
  rintro e st ⟨rfl, hres, hmem, h3'⟩
  refine ⟨.inr rfl, _, _, hres, trivial, fun ρ' a' w' q hr hq hk3 => ?_⟩
  have hq' : q = .bool (r44 v s u) := hq
  subst hq'
  obtain ⟨k1, k2, k3, k4, k5⟩ := hr.keeps
  refine ⟨rfl, k1, k2, k3, k4, fun k hk hne => k5 k hk hne, ?_⟩
  have hb100 : ρ' 100 = some b := by
    obtain ⟨k, g1, g2⟩ := hr.tmps 3 _ h3'
    rw [hk3, start_at (v := .pointer (some ⟨b, 0, none⟩)) rfl] at g2
    have e : (some (⟨b, 0, none⟩ : Addr)) = some ⟨k, 0, none⟩ := Value.pointer.inj g2
    rw [g1]
    exact congrArg (fun a : Option Addr => a.map (·.block)) e.symm
  have hcell : ∀ {j : Nat} {cs : List S}, mget st.mem 100 = some cs → ∃ (arr : Array Value) (ty : TypeId), w'.heap[b]? = some (.cells arr ty (0, 0)) ∧ arr.size = cs.length ∧
      ∀ (j : Nat) (s : S), cs[j]? = some s → ∃ c, arr[j]? = some c ∧ RepS ⟨Try.prog, w, fun k => k = b, αZ Z b⟩ ρ' w' s c := by
    intro j cs hm
    obtain ⟨k, arr, ty, g1, g2, g3, g4⟩ := hr.mem 100 cs hm
    rw [hb100] at g1
    cases g1
    exact ⟨arr, ty, g2, g3, g4⟩
  rcases hmem with hm | ⟨hs, hm, hm4⟩
  · obtain ⟨arr', ty', g1, g2, g3⟩ := hcell (j := 0) hm
    obtain ⟨c', g4, g5⟩ := g3 0 _ rfl
    refine ⟨arr', ty', g1, g2, c', g4, ?_⟩
    refine Pl.mono (fun _ _ _ => rfl) (fun k hk => .inl ?_) _ _ (cell_rep g5)
    by_cases e : k = b
    · exact .inl ⟨100, by rw [e]; exact hb100⟩
    · exact .inr ⟨k, αZ_of hk e⟩
  · obtain ⟨arr', ty', g1, g2, g3⟩ := hcell (j := 0) hm
    obtain ⟨c', g4, g5⟩ := g3 0 _ rfl
    refine ⟨arr', ty', g1, g2, c', g4, ?_⟩
    obtain ⟨q, q1, rfl⟩ := g5
    obtain ⟨q', arr4, ty4, q2, q3, q4, q5⟩ := hr.mem 4 _ hm4
    rw [q1] at q2
    cases q2
    rw [hs]
    refine ⟨rfl, q, 0, rfl, ?_⟩
    rw [PlCells.at_]
    intro i s' hs'
    obtain ⟨c2, r1, r2⟩ := q5 i s' hs'
    obtain ⟨kk, n, rfl⟩ := vc_ints u s' (List.mem_of_getElem? hs')
    refine ⟨q, 0, c2, rfl, fun hZq => ?_, ?_, r2⟩
    · rcases hr.new 4 q q1 with h | h
      · exact absurd (Nat.lt_of_lt_of_le (hZ q hZq) h) (Nat.lt_irrefl _)
      · have e := hr.inj 4 100 q q1 (by rw [hb100]; exact congrArg some h.symm)
        cases e
    · simp only [World.cell?, q3, Nat.zero_add]
      simpa using r1
end Go.Proofs.Ytngjhimhmpbofaa
