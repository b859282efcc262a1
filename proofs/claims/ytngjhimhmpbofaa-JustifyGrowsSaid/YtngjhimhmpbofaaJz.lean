/- The making of the closure that remembers, and the search with it. -/
import Derived.Test.YtngjhimhmpbofaaJy
set_option linter.unusedSimpArgs false
set_option linter.unusedVariables false
set_option maxRecDepth 100000
set_option maxHeartbeats 4000000
namespace Go.Proofs.Ytngjhimhmpbofaa
open Go Go.PS
abbrev st7 (m q : Int) (i : Nat) (l : List Vt) (v : Vt) (p : Fp) : St :=
  ⟨[.un, .un, .one (.ptr 2 0), .one (.ptr 3 0), .one (.bool false), .one (.ptr 5 0), .one (.ptr 6 0)] ++ List.replicate 16 .un, [(2, court m q i l), (3, vc v), (5, [.fn [3] p]), (6, [.nilp])]⟩
theorem sw7 {id : Nat} {ops : Array Oper} {o0 o1 o2 o3 : Oper} {ats : Array TypeId} (hops : ops.toList = [o0, o1, o2, o3]) (h0 : o0.op = .load 42 (.tmp 2) ∧ o0.dst = some 20 ∧ o0.guard = none)
    (h1 : o1.op = .makeFunc (.func 44) #[] #[.tmp 5, .tmp 3, .tmp 6] ∧ o1.dst = some 21 ∧ o1.guard = none) (h2 : o2.op = .call ⟨.value (.func 20), #[.tmp 20, .tmp 21], ats⟩ ∧ o2.dst = some 22 ∧ o2.guard = none)
    (h3 : o3.op = .assign (.tmp 22) ∧ o3.dst = some 4 ∧ o3.guard = none) {m q : Int} {i : Nat} {l : List Vt} (hlen : l.length ≤ 100000) {v : Vt} {p : Fp} (hp : ∀ u, okAt p u ∧ boolOf p u = f42 v u)
    {Q : Exit → St → Prop} (hQ : ∀ s, s.tmps[4]? = some (.one (.bool (anyB v none l))) → Q .normal s) : SW Try.prog (.region id ops false) Q (st7 m q i l v p) := by
  intro B ρ a w hP hr
  refine wp_region ?_
  have hsz : ops.size = 4 := by rw [← Array.length_toList, hops]; rfl
  have hi : ∀ j o, [o0, o1, o2, o3][j]? = some o → ops[j]? = some o := fun j o h => by rw [← hops] at h; rw [← h, Array.getElem?_toList]
  rw [show List.range ops.size = [0, 1, 2, 3] by rw [hsz]; rfl]
  show wpOps _ _ _ [0, 1, 2, 3] a w
  rw [wpOps_cons]
  refine step_run (G := book0) (ρ := ρ) (st := st7 m q i l v p) (K := fun s => s = (st7 m q i l v p).put (some 20) (.agg (court m q i l))) hP (hi 0 o0 rfl) ?_ hr ?_
  · simp only [stepK, guardOf, h0.1, h0.2.1, h0.2.2, ↓ff_imp, ↓tf_imp, PW, PW1, regK, drawK, stepK, quietK, callK, idleK, fnK, argsV, T.val?, S.val?, boundT, lendBox_fn, lendBox_int, lendBox_bool, lendBox_nilp, List.flatMap_cons, List.flatMap_nil, S.reach, S.nameL, Tag.nameL, callOf, argsT, guardOf, pureOp, St.rd, St.eval, rdg, List.getD, List.getElem?_cons_zero, List.getElem?_cons_succ, List.cons_append, List.nil_append, List.replicate, List.length, List.getElem?_nil, Option.getD, T.ofValue, S.ofValue, St.put, List.set, binT, binI, thenQ, blockQ, scopeQ, Nat.reduceSub, Nat.reduceAdd, true_and, and_true, if_true, if_false, true_or, Option.bind, List.getElem?_toArray, eqOp, PS.Ends, resOf, packT, St.out, T.sub, S.sub, tagSub, LeT_bool, LeT_int, beq_true, beq_false, imp_self, implies_true, Bool.and_true, Bool.true_and, Bool.and_false, Bool.false_and, T.lend, S.lend, Tag.lend, T.back, S.back, T.made, S.made, Tag.made, St.ret, St.kills, List.map_nil, List.foldl_nil, List.foldl_cons, Bool.false_eq_true, false_imp_iff, true_imp_iff, forall_const, Bool.true_eq_false, minI, maxI, effOp, appendOp, fillT, chunks, T.cells, S.plain, S.lay, St.kill, T.cut, cutn_un, cutn_bool, cutn_int, cutn_str, cutn_nilp, cutn_sl, cutn_el, cutn_fn, cutn_fref, cutn_ptr, cutr_un, cutr_bool, cutr_int, cutr_str, cutr_nilp, cutr_sl, cutr_el, cutr_fn, cutr_fref, cutr_ptr, Tag.names, mcut, mdrop, mget, mset, List.map_cons, St.box, St.store, St.wipe, setAt, bound, lenS, loadT, List.headD_cons, List.take_succ_cons, List.take_zero, List.take_nil, List.drop_nil, List.drop_zero, List.drop_succ_cons, Tag.sub, List.all_cons, List.all_nil, Nat.reduceLeDiff, Nat.reduceMul, Nat.reduceBEq, Nat.reduceEqDiff, Nat.reduceLT, T.madeAll, T.backAll, nm, List.contains_cons, List.contains_nil, backTag, Int.toNat_natCast, Option.map_some, beq_self_eq_true, Bool.or_true, Bool.true_or, Bool.or_false, Bool.false_or, or_true, or_false, false_or, reduceCtorEq, and_self, and_false, false_and, not_true_eq_false, not_false_eq_true, Bool.not_true, Bool.not_false, vv_of, vc_val, unvc_vc, tz26v, vc_drop, List.append_nil, unrows_rows, rowsV_len, vc_box, vc_nameL, td3, td4, td5, td22, td24, td26, td27, td33, td39, td42, td49, td52, td57, td59, tz3, tz24, tz33, tz42, tz49, tzz3, tzz4, tzz22, tzz24, tzz26, tzz27, tzz33, tzz42, tzz49, fl24, vc_len, vc_all, vc_0, vc_1, vc_2, vc_3, vc_4, vc_5, vc_6, vc_7, bp_len, bv_len, bp_all, bv_all, vc_cutn, vc_cutr, vc_lay, vc_lend, vc_back, vc_plain, bts_plain, bts_cutn, bts_cutr, bts_lend, eq_pp, eq_vv, eq_v0, places, aggD, Nat.zero_add, Nat.add_zero]
  clear hr
  rintro ρ st a w hr rfl
  have hlt : ∀ t, t < 23 → t < a.tmps.size := fun t ht => by have := hr.len; rw [this]; exact ht
  obtain ⟨b5, e5, g5⟩ := hr.tmps 5 (.one (.ptr 5 0)) rfl
  obtain ⟨b3, e3, g3⟩ := hr.tmps 3 (.one (.ptr 3 0)) rfl
  obtain ⟨b6, e6, g6⟩ := hr.tmps 6 (.one (.ptr 6 0)) rfl
  have hcv := hr.tmps 20 (.agg (court m q i l)) rfl
  generalize hcval : a.tmps.getD 20 undef = cval at hcv
  have hfv : ∃ fv, fv = Value.func (.func 44) #[] #[.pointer (some ⟨b5, 0, none⟩), .pointer (some ⟨b3, 0, none⟩), .pointer (some ⟨b6, 0, none⟩)] := ⟨_, rfl⟩
  obtain ⟨fv, hfv⟩ := hfv
  rw [wpOps_cons]
  unfold wpOp
  rw [hi 1 o1 rfl]
  simp only
  rw [if_pos (by simp [Region.wanted, h1.2.2])]
  refine .inl ?_
  have hrun1 : (execOp a.eval o1).run Try.prog w = .ok (.value fv) w := by
    unfold execOp
    rw [h1.1]
    simp [Instr.makeFunc, Act.eval, g5, g3, g6, hfv]
  unfold Oper.wp
  rw [hrun1, Oper.upon_value, h1.2.1]
  have hr1 := hr.put (some 21) (v := .un) (val := fv) trivial
  have e21 : (a.put (some 21) fv).tmps.getD 21 undef = fv := by
    have := hlt 21 (by omega)
    simp [Act.put, Array.getD_eq_getD_getElem?, Array.getElem?_setIfInBounds, this]
  have e20 : (a.put (some 21) fv).tmps.getD 20 undef = cval := by
    rw [← hcval]
    simp [Act.put, Array.getD_eq_getD_getElem?, Array.getElem?_setIfInBounds]
  generalize a.put (some 21) fv = a1 at hr1 e21 e20
  rw [wpOps_cons]
  unfold wpOp
  rw [hi 2 o2 rfl]
  simp only
  rw [if_pos (by simp [Region.wanted, h2.2.2])]
  refine .inl ?_
  have hrun2 : (execOp a1.eval o2).run Try.prog w = .ok (.enter 20 #[cval, fv]) w := by
    unfold execOp
    rw [h2.1]
    simp [resolve, Act.eval, Deferred.ofValue, invoke, e21, e20, Try.call20]
  unfold Oper.wp
  rw [hrun2, Oper.upon_enter]
  have n36 : b3 ≠ b6 := fun e => by have := hr.inj 3 6 b3 e3 (by rw [e, e6]); cases this
  have n56 : b5 ≠ b6 := fun e => by have := hr.inj 5 6 b5 e5 (by rw [e, e6]); cases this
  obtain ⟨k6, arr6, ty6, m6, hh6, hl6, hc6⟩ := hr.mem 6 [.nilp] rfl
  obtain ⟨k5, arr5, ty5, m5, hh5, hl5, hc5⟩ := hr.mem 5 [.fn [3] p] rfl
  obtain ⟨k3, arr3, ty3, m3, hh3, hl3, hc3⟩ := hr.mem 3 (vc v) rfl
  rw [e6] at m6; rw [e5] at m5; rw [e3] at m3
  cases m6; cases m5; cases m3
  obtain ⟨c6, p6, q6⟩ := hc6 0 _ rfl
  obtain ⟨c5, p5, q5⟩ := hc5 0 _ rfl
  have q6' : c6 = .pointer none := q6
  subst q6'
  obtain ⟨q51, q52⟩ := q5
  have hb5 : b5 < w.heap.size := hr.lt _ _ e5
  have hC : ∀ w' : World, (∀ k, k < w.heap.size → k ≠ b6 → w'.heap[k]? = w.heap[k]?) → Clo v b6 w' fv := by
    intro w' hw'
    rw [hfv]
    refine calls44 hp q51 (fun w'' hw'' => ?_) n36 (fun j k n hj => ?_)
    · have hcomb : ∀ k, k < w.heap.size → k ≠ b6 → w''.heap[k]? = w.heap[k]? := by
        intro k hk hne
        have e := hw' k hk hne
        have hk' : k < w'.heap.size := by
          rw [Array.getElem?_eq_getElem hk] at e
          exact (Array.getElem?_eq_some_iff.1 e).1
        exact (hw'' k hk' hne).trans e
      refine ⟨?_, ?_⟩
      · simp only [World.cell?, hcomb b5 hb5 n56, hh5]
        simpa using p5
      · have := q52 w'' (fun k hk hcase => hcomb k hk (fun e => by
          subst e
          rcases hcase with hn | ⟨x, hx, hxb⟩
          · exact hn ⟨6, e6⟩
          · have := hr.inj x 6 k hxb e6
            subst this
            simp at hx))
        rwa [hP] at this
    · obtain ⟨c, r1, r2⟩ := hc3 j _ hj
      have r2' : c = .int k n := r2
      subst r2'
      simp only [World.cell?, hw' b3 (hr.lt _ _ e3) n36, hh3]
      simpa using r1
  have hcv' : RepT ⟨Try.prog, w, fun k => k = b6, B.α⟩ (one100 b6) w (.agg (court m q i l)) cval := by
    obtain ⟨arr, hv, hl, hc⟩ := hcv
    have hzs : ∀ k, Zs ⟨Try.prog, w, fun k => k = b6, B.α⟩ (one100 b6) k → Zs B ρ k := by
      rintro k (⟨x, hx⟩ | ⟨j, hj⟩)
      · rw [(one100_some hx).2]; exact .inl ⟨6, e6⟩
      · exact .inr ⟨j, hj⟩
    refine ⟨arr, hv, hl, fun j s hs => ?_⟩
    obtain ⟨c, r1, r2⟩ := hc j s hs
    refine ⟨c, r1, ?_⟩
    match j with
    | 0 => cases hs; exact r2
    | 1 => cases hs; exact r2
    | 2 =>
      cases hs
      obtain ⟨ad, cp, s1, s2, s3, _⟩ := r2
      refine ⟨ad, cp, s1, s2, fun k e he => ⟨(s3 k e he).1, fun k' s' hs' => ?_⟩, trivial⟩
      obtain ⟨bb, oo, cc, t1, t2, t3, t4⟩ := (s3 k e he).2 k' s' hs'
      exact ⟨bb, oo, cc, t1, ⟨t2.1, fun ⟨x, hx⟩ => t2.2 ⟨6, by rw [(one100_some hx).2]; exact e6⟩⟩, t3, Pl.mono (fun _ _ _ => rfl) (fun k hk => .inl (hzs k hk)) _ _ t4⟩
    | j + 3 => simp at hs
  refine (calls20 (i := i) hlen (hr.lt _ _ e6) (by rw [hfv]; rfl) hC hh6 hl6 p6 (fun j k hj => ⟨fun e => (hr.args j k hj).1 ⟨6, by rw [e]; exact e6⟩, (hr.args j k hj).2⟩) hcv').mono ?_
  rintro e w' ⟨rfl, k1, k2, k3, k4, k5⟩
  have tn : Turns B ρ ρ w w' (fun z => z = 6) (fun _ => False) := ⟨k1, k2, k3, k4, fun k hk hne => k5 k hk (fun e => hne 6 rfl (by rw [e]; exact e6)), fun z _ => rfl, fun z k hz => hz.elim, fun z z' k hz => hz.elim⟩
  have ct : Cuts (S.reads 6) (fun z => z = 6) (fun _ => False) := ⟨fun s' x' hx' hs' => by subst hx'; exact hs', fun _ _ hf => hf.elim⟩
  have hr2 := hr1.turn tn ct [] (fun z cs hz => by cases hz)
  have hr3 := hr2.put o2.dst (v := .one (.bool (anyB v none l))) (val := .bool (anyB v none l)) rfl
  show wpOps _ _ _ (List.range' 3 [o3].length) (a1.put o2.dst (.bool (anyB v none l))) w'
  refine reg_run (G := book0) hP [o3] 3 _ _ _ _ (fun s => s.tmps[4]? = some (.one (.bool (anyB v none l)))) (by rw [hops]; rfl) ?_ hr3 (fun ρ' s a' w' r1 r2 => ⟨ρ', s, r1, hQ s r2⟩)
  simp only [regK, stepK, guardOf, h3.1, h3.2.1, h3.2.2, h2.2.1, ↓ff_imp, ↓tf_imp, PW, PW1, regK, drawK, stepK, quietK, callK, idleK, fnK, argsV, T.val?, S.val?, boundT, lendBox_fn, lendBox_int, lendBox_bool, lendBox_nilp, List.flatMap_cons, List.flatMap_nil, S.reach, S.nameL, Tag.nameL, callOf, argsT, guardOf, pureOp, St.rd, St.eval, rdg, List.getD, List.getElem?_cons_zero, List.getElem?_cons_succ, List.cons_append, List.nil_append, List.replicate, List.length, List.getElem?_nil, Option.getD, T.ofValue, S.ofValue, St.put, List.set, binT, binI, thenQ, blockQ, scopeQ, Nat.reduceSub, Nat.reduceAdd, true_and, and_true, if_true, if_false, true_or, Option.bind, List.getElem?_toArray, eqOp, PS.Ends, resOf, packT, St.out, T.sub, S.sub, tagSub, LeT_bool, LeT_int, beq_true, beq_false, imp_self, implies_true, Bool.and_true, Bool.true_and, Bool.and_false, Bool.false_and, T.lend, S.lend, Tag.lend, T.back, S.back, T.made, S.made, Tag.made, St.ret, St.kills, List.map_nil, List.foldl_nil, List.foldl_cons, Bool.false_eq_true, false_imp_iff, true_imp_iff, forall_const, Bool.true_eq_false, minI, maxI, effOp, appendOp, fillT, chunks, T.cells, S.plain, S.lay, St.kill, T.cut, cutn_un, cutn_bool, cutn_int, cutn_str, cutn_nilp, cutn_sl, cutn_el, cutn_fn, cutn_fref, cutn_ptr, cutr_un, cutr_bool, cutr_int, cutr_str, cutr_nilp, cutr_sl, cutr_el, cutr_fn, cutr_fref, cutr_ptr, Tag.names, mcut, mdrop, mget, mset, List.map_cons, St.box, St.store, St.wipe, setAt, bound, lenS, loadT, List.headD_cons, List.take_succ_cons, List.take_zero, List.take_nil, List.drop_nil, List.drop_zero, List.drop_succ_cons, Tag.sub, List.all_cons, List.all_nil, Nat.reduceLeDiff, Nat.reduceMul, Nat.reduceBEq, Nat.reduceEqDiff, Nat.reduceLT, T.madeAll, T.backAll, nm, List.contains_cons, List.contains_nil, backTag, Int.toNat_natCast, Option.map_some, beq_self_eq_true, Bool.or_true, Bool.true_or, Bool.or_false, Bool.false_or, or_true, or_false, false_or, reduceCtorEq, and_self, and_false, false_and, not_true_eq_false, not_false_eq_true, Bool.not_true, Bool.not_false, vv_of, vc_val, unvc_vc, tz26v, vc_drop, List.append_nil, unrows_rows, rowsV_len, vc_box, vc_nameL, td3, td4, td5, td22, td24, td26, td27, td33, td39, td42, td49, td52, td57, td59, tz3, tz24, tz33, tz42, tz49, tzz3, tzz4, tzz22, tzz24, tzz26, tzz27, tzz33, tzz42, tzz49, fl24, vc_len, vc_all, vc_0, vc_1, vc_2, vc_3, vc_4, vc_5, vc_6, vc_7, bp_len, bv_len, bp_all, bv_all, vc_cutn, vc_cutr, vc_lay, vc_lend, vc_back, vc_plain, bts_plain, bts_cutn, bts_cutr, bts_lend, eq_pp, eq_vv, eq_v0, places, aggD, Nat.zero_add, Nat.add_zero]
end Go.Proofs.Ytngjhimhmpbofaa
