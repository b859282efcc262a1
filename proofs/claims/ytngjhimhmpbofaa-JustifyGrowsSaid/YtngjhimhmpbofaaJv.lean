/- The laws Backers and Locks, walked. -/
import Derived.Test.YtngjhimhmpbofaaJu
import Derived.Test.YtngjhimhmpbofaaPs12
set_option linter.unusedSimpArgs false
set_option linter.unusedVariables false
set_option maxRecDepth 100000
namespace Go.Proofs.Ytngjhimhmpbofaa
open Go Go.PS
def spec17 : List T → Option (Prop × T)
  | [.one (.int .i64 m), .agg cs, .one (.sl .plain 22 es), .one (.int .i64 k), .one (.int .i64 r)] =>
    some (vc (unvc cs) = cs ∧ rowsV (unrows es) = es ∧ es.length ≤ 100000, I (backB m (unvc cs) (unrows es) k r))
  | _ => none
theorem spec17_good : ∀ args ob t, spec17 args = some (ob, t) → ob → Sim Try.prog 17 args t := by
  intro args ob t hs ho
  unfold spec17 at hs
  split at hs
  · cases hs
    rename_i m cs es k r
    have := sim17 m (unvc cs) (unrows es) k r (by rw [← rowsV_len, ho.2.1]; exact ho.2.2)
    rwa [V, L, ho.1, ho.2.1] at this
  · cases hs
def kM : Book Try.prog := ((kL.add 17 spec17 spec17_good).add 18 (specVV conB) (specVV_good sim18)).add 19 (spec1 i64ok fun n => I (thirdI n)) (spec1_good sim19)
theorem kM_9 (args : List T) : kM.spec 9 args = spec9 args := by simp only [kM, kL, add_spec, Nat.reduceEqDiff, if_true, if_false]
theorem kM_10 (args : List T) : kM.spec 10 args = spec10 args := by simp only [kM, kL, add_spec, Nat.reduceEqDiff, if_true, if_false]
theorem kM_12 (args : List T) : kM.spec 12 args = spec12 args := by simp only [kM, kL, add_spec, Nat.reduceEqDiff, if_true, if_false]
theorem kM_13 (args : List T) : kM.spec 13 args = specV validB args := by simp only [kM, kL, add_spec, Nat.reduceEqDiff, if_true, if_false]
theorem kM_14 (args : List T) : kM.spec 14 args = spec2 (fun _ _ => True) (fun m i => .one (.bool (hasI m i))) args := by simp only [kM, kL, add_spec, Nat.reduceEqDiff, if_true, if_false]
theorem kM_15 (args : List T) : kM.spec 15 args = spec1 i64ok (fun n => I (quorI n)) args := by simp only [kM, kL, add_spec, Nat.reduceEqDiff, if_true, if_false]
theorem kM_16 (args : List T) : kM.spec 16 args = spec1 (fun _ => True) (fun m => I (sizeI m)) args := by simp only [kM, kL, add_spec, Nat.reduceEqDiff, if_true, if_false]
theorem kM_17 (args : List T) : kM.spec 17 args = spec17 args := by simp only [kM, kL, add_spec, Nat.reduceEqDiff, if_true, if_false]
theorem kM_18 (args : List T) : kM.spec 18 args = specVV conB args := by simp only [kM, kL, add_spec, Nat.reduceEqDiff, if_true, if_false]
theorem kM_19 (args : List T) : kM.spec 19 args = spec1 i64ok (fun n => I (thirdI n)) args := by simp only [kM, kL, add_spec, Nat.reduceEqDiff, if_true, if_false]
/-! ### The mathematics of Backers -/
theorem size_mono {s t : Int} (h : ∀ i ∈ upto s 10, i ∈ upto t 10) : sizeI s ≤ sizeI t := by
  have hs : (upto s 10).Sublist (upto t 10) := by
    rw [upto_all, upto_all]
    have e : (List.finRange 10).filter (fun i => hasI s i.val) = ((List.finRange 10).filter fun i => hasI t i.val).filter fun i => hasI s i.val := by
      rw [List.filter_filter]
      refine List.filter_congr fun i _ => ?_
      cases h1 : hasI s i.val
      · rfl
      · have := h i (mem_upto.2 h1)
        rw [mem_upto] at this
        simp [this]
    rw [e]
    exact List.filter_sublist
  unfold sizeI
  have := hs.length_le
  omega
theorem back_all {m : Int} {v : Vt} {a : List Vt} {k r : Int} (hs : hasI m v.slot = true) (h : allR m v a k r = true) : quorI (sizeI m) ≤ backB m v a k r ∧ sizeI v.support = quorI (sizeI m) := by
  rw [all_iff] at h
  obtain ⟨h1, h2⟩ := h
  unfold exactB at h1
  simp only [if_t] at h1
  simp only [Bool.and_eq_true, beq_iff_eq] at h1
  refine ⟨?_, h1.2⟩
  rw [← h1.2]
  unfold backB
  refine size_mono fun i hi => ?_
  rw [mem_upto, has_orBits _ _ (fun w hw => backF_has (List.mem_filter.1 hw).2)]
  obtain ⟨w, hw, e1, e2, e3, e4, e5⟩ := said_iff.1 (h2 i hi)
  exact ⟨w, List.mem_filter.2 ⟨hw, (backF_iff hs).2 ⟨e2, e3, e4, e5⟩⟩, e1⟩
theorem back_some {m : Int} {v : Vt} {a : List Vt} {k r : Int} {i : Fin 10} (hs : hasI m v.slot = true) (h : saidB m v a i.val k r false = true) : 0 < backB m v a k r := by
  obtain ⟨w, hw, e1, e2, e3, e4, e5⟩ := said_iff.1 h
  have : i ∈ upto (orBits (a.filter (backF m v k r))) 10 := by
    rw [mem_upto, has_orBits _ _ (fun w hw => backF_has (List.mem_filter.1 hw).2)]
    exact ⟨w, List.mem_filter.2 ⟨hw, (backF_iff hs).2 ⟨e2, e3, e4, e5⟩⟩, e1⟩
  unfold backB sizeI
  have := List.length_pos_of_mem this
  omega
theorem allow_may {m : Int} {v : Vt} {a : List Vt} (h : allowB m v a = true) : mayB m v = false := by
  cases hb : mayB m v
  · rfl
  · unfold allowB at h; rw [hb] at h; simp at h
theorem exact_size {m s : Int} (h : exactB m s = true) : sizeI s = quorI (sizeI m) := by
  unfold exactB at h
  simp only [if_t] at h
  simp only [Bool.and_eq_true, beq_iff_eq] at h
  exact h.2
theorem back_range (m : Int) (v : Vt) (a : List Vt) (k r : Int) : 0 ≤ backB m v a k r ∧ backB m v a k r ≤ 10 := sizeI_range _
theorem backers1 {m : Int} {v : Vt} {a : List Vt} (h : allowB m v a = true) (hk : v.kind = 3) (hr : v.round = 1) (hc : v.choice = 1) :
    quorI (sizeI m) ≤ backB m v a 2 0 ∧ sizeI v.support = quorI (sizeI m) := by
  have hm := allow_may h
  obtain ⟨hval, hk4, hsg, hsl⟩ := valid_of_may hm
  refine back_all hsl ?_
  unfold allowB prevB at h
  simp only [hm, hk, hr, hc, show ((3 : Int) == 1) = false from rfl, show ((3 : Int) == 2) = false from rfl, show ((3 : Int) == 3) = true from rfl, show ((1 : Int) == 1) = true from rfl, show ((1 : Int) == 0) = false from rfl, Bool.false_eq_true, if_false, if_true] at h
  rw [supp_all (k := 2) (r := 0) hval hsl (by decide) (fun w hw => ?_)] at h
  · exact h
  · unfold f36
    rw [if_t, Bool.and_eq_true, beq_iff_eq]
    exact ⟨fun h => ⟨h.1, (kind_valid hw).2 h.1, h.2⟩, fun h => ⟨h.1, h.2.2⟩⟩
theorem backers2 {m : Int} {v : Vt} {a : List Vt} (h : allowB m v a = true) (hk : v.kind = 4) (hc : (v.choice != 2) = true) :
    quorI (sizeI m) ≤ backB m v a 3 v.round ∧ sizeI v.support = quorI (sizeI m) := by
  have hm := allow_may h
  obtain ⟨hval, hk4, hsg, hsl⟩ := valid_of_may hm
  refine back_all hsl ?_
  unfold allowB precB at h
  simp only [hm, hk, hc, show ((4 : Int) == 1) = false from rfl, show ((4 : Int) == 2) = false from rfl, show ((4 : Int) == 3) = false from rfl, Bool.false_eq_true, if_false, if_true] at h
  rw [supp_all (k := 3) (r := v.round) hval hsl (by decide) (fun w hw => ?_)] at h
  · exact h
  · rw [if_t, Bool.and_eq_true, f42_iff, and_assoc]
theorem prev_later {m : Int} {v : Vt} {a : List Vt} (h : allowB m v a = true) (hk : v.kind = 3) (hr : v.round ≠ 1) : adoptsB m v a = true ∨ carriesB m v a = true := by
  have hm := allow_may h
  obtain ⟨hval, hk4, hsg, hsl⟩ := valid_of_may hm
  have e : (v.round == 1) = false := by simpa using hr
  unfold allowB prevB at h
  simp only [hm, hk, e, show ((3 : Int) == 1) = false from rfl, show ((3 : Int) == 2) = false from rfl, show ((3 : Int) == 3) = true from rfl, Bool.false_eq_true, if_false, if_true] at h
  rw [adopt_eq hval hsl, carry_eq hval hsl] at h
  by_cases ha : adoptsB m v a = true
  · exact .inl ha
  · rw [if_neg ha] at h; exact .inr h
theorem adopts_iff {m : Int} {v : Vt} {a : List Vt} : adoptsB m v a = true ↔ (∀ i ∈ upto v.support 10, saidB m v a i.val 4 (v.round - 1) false = true ∨ saidB m v a i.val 4 (v.round - 1) true = true) ∧
    (∃ i ∈ upto v.support 10, saidB m v a i.val 4 (v.round - 1) false = true) ∧ exactB m v.support = true := by
  unfold adoptsB
  simp only [if_t, if_o]
  rw [Bool.and_eq_true, Bool.and_eq_true, List.all_eq_true, List.any_eq_true]
  simp only [Bool.or_eq_true]
theorem carries_iff {m : Int} {v : Vt} {a : List Vt} : carriesB m v a = true ↔ (∀ i ∈ upto v.support 10, saidB m v a i.val 4 (v.round - 1) true = true) ∧
    (∃ i ∈ List.finRange 10, saidB m v a i.val 3 (v.round - 1) false = true) ∧ exactB m v.support = true := by
  unfold carriesB
  simp only [if_t]
  rw [Bool.and_eq_true, Bool.and_eq_true, List.all_eq_true, List.any_eq_true]
  constructor <;> (rintro ⟨h1, h2, h3⟩; first | exact ⟨h1, h2, h3⟩ | exact ⟨h2, h1, h3⟩ | exact ⟨h2, h3, h1⟩ | exact ⟨h3, h1, h2⟩ | exact ⟨h3, h2, h1⟩ | exact ⟨h1, h3, h2⟩)
theorem backers3 {m : Int} {v : Vt} {a : List Vt} (h : allowB m v a = true) (hk : v.kind = 3) (hr : 1 < v.round) :
    0 < backB m v a 4 (v.round - 1) + backB m v a 3 (v.round - 1) ∧ sizeI v.support = quorI (sizeI m) := by
  obtain ⟨hval, hk4, hsg, hsl⟩ := valid_of_may (allow_may h)
  have r4 := back_range m v a 4 (v.round - 1)
  have r3 := back_range m v a 3 (v.round - 1)
  rcases prev_later h hk (by omega) with h | h
  · obtain ⟨_, ⟨i, _, h2⟩, h3⟩ := adopts_iff.1 h
    have := back_some hsl h2
    exact ⟨by omega, exact_size h3⟩
  · obtain ⟨_, ⟨i, _, h2⟩, h3⟩ := carries_iff.1 h
    have := back_some hsl h2
    exact ⟨by omega, exact_size h3⟩
theorem round_of {m : Int} {v : Vt} {a : List Vt} (h : allowB m v a = true) (hk : v.kind = 3) : 1 ≤ v.round ∧ v.round ≤ 12 := by
  have hm := allow_may h
  have := rok_of hm (by simp [hk])
  exact this
set_option maxHeartbeats 2000000 in
theorem sim7 (m : Int) (v : Vt) (a : List Vt) : Sim Try.prog 7 [I m, V v, L a] (.one (.bool true)) := by
  refine Sim.of_code Try.func7 (by unfold Try.f7; rfl) Try.ntmps7 Try.call7 [] (by simp) (by rfl) (PW.sw (G := kM) mixed _ _ _ ?_)
  have h3 := take_300 a
  have hq : i64ok (sizeI m) := by have := sizeI_range m; unfold i64ok; omega
  simp (maxSteps := 3000000) only [I, V, L, ↓ff_imp, ↓tf_imp, PW, PW1, regK, drawK, stepK, quietK, callK, idleK, fnK, argsV, T.val?, S.val?, boundT, lendBox_fn, lendBox_int, lendBox_bool, lendBox_nilp, List.flatMap_cons, List.flatMap_nil, S.reach, S.nameL, Tag.nameL, callOf, argsT, guardOf, pureOp, St.rd, St.eval, rdg, List.getD, List.getElem?_cons_zero, List.getElem?_cons_succ, List.cons_append, List.nil_append, List.replicate, List.length, List.getElem?_nil, Option.getD, T.ofValue, S.ofValue, St.put, List.set, binT, binI, thenQ, blockQ, scopeQ, Nat.reduceSub, Nat.reduceAdd, true_and, and_true, if_true, if_false, true_or, Option.bind, List.getElem?_toArray, eqOp, PS.Ends, resOf, packT, St.out, T.sub, S.sub, tagSub, LeT_bool, LeT_int, beq_true, beq_false, imp_self, implies_true, Bool.and_true, Bool.true_and, Bool.and_false, Bool.false_and, T.lend, S.lend, Tag.lend, T.back, S.back, T.made, S.made, Tag.made, St.ret, St.kills, List.map_nil, List.foldl_nil, List.foldl_cons, Bool.false_eq_true, false_imp_iff, true_imp_iff, forall_const, Bool.true_eq_false, minI, maxI, effOp, appendOp, fillT, chunks, T.cells, S.plain, S.lay, St.kill, T.cut, cutn_un, cutn_bool, cutn_int, cutn_str, cutn_nilp, cutn_sl, cutn_el, cutn_fn, cutn_fref, cutn_ptr, cutr_un, cutr_bool, cutr_int, cutr_str, cutr_nilp, cutr_sl, cutr_el, cutr_fn, cutr_fref, cutr_ptr, Tag.names, mcut, mdrop, mget, mset, List.map_cons, St.box, St.store, St.wipe, setAt, bound, lenS, loadT, List.headD_cons, List.take_succ_cons, List.take_zero, List.take_nil, List.drop_nil, List.drop_zero, List.drop_succ_cons, Tag.sub, List.all_cons, List.all_nil, Nat.reduceLeDiff, Nat.reduceMul, Nat.reduceBEq, Nat.reduceEqDiff, Nat.reduceLT, T.madeAll, T.backAll, nm, List.contains_cons, List.contains_nil, backTag, Int.toNat_natCast, Option.map_some, beq_self_eq_true, Bool.or_true, Bool.true_or, Bool.or_false, Bool.false_or, or_true, or_false, false_or, reduceCtorEq, and_self, and_false, false_and, not_true_eq_false, not_false_eq_true, Bool.not_true, Bool.not_false, vv_of, vc_val, unvc_vc, tz26v, vc_drop, List.append_nil, unrows_rows, rowsV_len, vc_box, vc_nameL, td3, td4, td5, td22, td24, td26, td27, td33, td39, td42, td49, td52, td57, td59, tz3, tz24, tz33, tz42, tz49, tzz3, tzz4, tzz22, tzz24, tzz26, tzz27, tzz33, tzz42, tzz49, fl24, vc_len, vc_all, vc_0, vc_1, vc_2, vc_3, vc_4, vc_5, vc_6, vc_7, bp_len, bv_len, bp_all, bv_all, vc_cutn, vc_cutr, vc_lay, vc_lend, vc_back, vc_plain, bts_plain, bts_cutn, bts_cutr, bts_lend, eq_pp, eq_vv, eq_v0, places, aggD, Nat.zero_add, Nat.add_zero, Try.results7, kM_9, kM_10, kM_12, kM_15, kM_16, kM_17, spec1, spec9, spec10, spec12, spec17, rowsV_take, h3]
  refine fun h => ⟨hq, fun h1 => ?_, fun h1 => ⟨fun h2 => ?_, fun h2 h4 => ⟨by rfl, ?_⟩⟩⟩
  all_goals
    have h : allowB m v (a.take 300) = true := by simpa using h
  · simp only [if_t] at h1
    simp only [Bool.and_eq_true, beq_iff_eq] at h1
    obtain ⟨e1, e2⟩ := backers1 h h1.1.1 h1.1.2 h1.2
    simp [e1, e2]
  · simp only [if_t] at h2
    simp only [Bool.and_eq_true, beq_iff_eq] at h2
    obtain ⟨e1, e2⟩ := backers2 h h2.1 h2.2
    simp [e1, e2]
  · simp only [if_t] at h4
    simp only [Bool.and_eq_true, beq_iff_eq, decide_eq_true_eq] at h4
    have hr := round_of h h4.1
    have hw : IntKind.i64.wrap (v.round - 1) = v.round - 1 := by rw [wrap_id]; unfold i64ok; omega
    obtain ⟨e1, e2⟩ := backers3 h h4.1 (by omega)
    have r4 := back_range m v (a.take 300) 4 (v.round - 1)
    have r3 := back_range m v (a.take 300) 3 (v.round - 1)
    have hw2 : IntKind.i64.wrap (backB m v (a.take 300) 4 (v.round - 1) + backB m v (a.take 300) 3 (v.round - 1)) = backB m v (a.take 300) 4 (v.round - 1) + backB m v (a.take 300) 3 (v.round - 1) := by rw [wrap_id]; unfold i64ok; omega
    simp [hw, hw2, e1, e2]
/-! ### Locks -/
/-- The vote x, laid above y's slot, as a Precommit of the round ahead. -/
def laid (x y : Vt) (r : Int) : Vt := { x with parent := y.parent, slot := y.slot, kind := 4, round := r, hp := y.hp }
def laid1 (x y : Vt) : Vt := { x with parent := y.parent, hp := y.hp }
def laid2 (x y : Vt) : Vt := { x with parent := y.parent, slot := y.slot, hp := y.hp }
def laid3 (x y : Vt) : Vt := { x with parent := y.parent, slot := y.slot, kind := 4, hp := y.hp }
theorem set1 (x y : Vt) : setAt (vc x) (bts y.parent) 6 = vc (laid1 x y) := by
  have h1 : (vc x).drop 14 = bts x.value := by
    show ((bts x.parent ++ bts x.value).drop 8) = _
    rw [List.drop_append_of_le_length (by rw [bts_len, x.hp]; exact Nat.le_refl _), List.drop_of_length_le (by rw [bts_len, x.hp]; exact Nat.le_refl _), List.nil_append]
  unfold setAt
  rw [bts_len, y.hp, h1]
  rfl
theorem set2 (x y : Vt) : setAt (vc (laid1 x y)) [.int .i64 y.slot] 1 = vc (laid2 x y) := rfl
theorem set3 (x y : Vt) : setAt (vc (laid2 x y)) [.int .i64 4] 0 = vc (laid3 x y) := rfl
theorem set4 (x y : Vt) (r : Int) : setAt (vc (laid3 x y)) [.int .i64 r] 2 = vc (laid x y r) := rfl
def metF (m : Int) (y : Vt) (r : Int) (w u : Vt) : Bool :=
  if (if (if (if (if w.kind == 4 then w.round == r else false) then conB w u else false) then decide (w.parent = y.parent) else false) then w.slot == y.slot else false) then hasI m w.signer else false
def mets (m : Int) (y : Vt) (r : Int) (b : List Vt) (w : Vt) : List Vt := (b.filter (metF m y r w)).map fun _ => w
def allMets (m : Int) (y : Vt) (r : Int) (a b : List Vt) : List Vt := a.flatMap (mets m y r b)
theorem mets_step {m : Int} {y : Vt} {r : Int} {b : List Vt} {w : Vt} {k : Nat} (hk : k < b.length) (l : List Vt) :
    orBits (l ++ mets m y r (b.take (k + 1)) w) = if metF m y r w b[k] then bitsI .or .i64 (orBits (l ++ mets m y r (b.take k) w)) (bitN w.signer) else orBits (l ++ mets m y r (b.take k) w) := by
  unfold mets
  rw [List.take_add_one, List.getElem?_eq_getElem hk, Option.toList_some, List.filter_append]
  by_cases hc : metF m y r w b[k] = true
  · rw [if_pos hc, List.filter_cons_of_pos hc]; simp [orBits]
  · rw [if_neg hc, List.filter_cons_of_neg (by simpa using hc)]; simp
theorem allMets_step {m : Int} {y : Vt} {r : Int} {a b : List Vt} {j : Nat} (hj : j < a.length) : allMets m y r (a.take (j + 1)) b = allMets m y r (a.take j) b ++ mets m y r b a[j] := by
  unfold allMets
  rw [List.take_add_one, List.getElem?_eq_getElem hj, Option.toList_some, List.flatMap_append]
  simp
theorem met_has {m : Int} {y : Vt} {r : Int} {w u : Vt} (h : metF m y r w u = true) : 0 ≤ w.signer ∧ w.signer < 10 := by
  unfold metF at h
  simp only [if_t] at h
  simp only [Bool.and_eq_true] at h
  have := h.2
  unfold hasI at this
  simp only [Bool.and_eq_true, decide_eq_true_eq] at this
  omega
/-- When the law has nothing to say. -/
def quietL (m : Int) (x y : Vt) (r : Int) (a b : List Vt) : Bool :=
  if (if (if (if (if y.kind != 3 then true else decide (y.round < 2)) then true else (laid x y r).choice == 2) then true else (if (laid x y r).choice == y.choice then decide ((laid x y r).value = y.value) else false)) then true else !allowB m y b) then true
  else decide (backB m (laid x y r) a 4 (laid x y r).round < quorI (sizeI m))
set_option maxHeartbeats 2000000 in
theorem sim8 (m : Int) (x y : Vt) (a b : List Vt) (hend : ∀ r, r = IntKind.i64.wrap (y.round - 1) → quietL m x y r (a.take 300) (b.take 300) = false →
      quorI (sizeI m) * 2 - sizeI m ≤ sizeI (orBits (allMets m y r (a.take 300) (b.take 300))) ∧ thirdI (sizeI m) ≤ sizeI (orBits (allMets m y r (a.take 300) (b.take 300)))) :
    Sim Try.prog 8 [I m, V x, V y, L a, L b] (.one (.bool true)) := by
  refine Sim.of_code Try.func8 (by unfold Try.f8; rfl) Try.ntmps8 Try.call8 [] (by simp) (by rfl) (PW1.sw (G := kM) mixed _ _ _ ?_)
  have h3 := take_300 a
  have h4 := take_300 b
  have hq : i64ok (sizeI m) := by have := sizeI_range m; unfold i64ok; omega
  simp (maxSteps := 3000000) only [I, V, L, ↓ff_imp, ↓tf_imp, PW, PW1, regK, drawK, stepK, quietK, callK, idleK, fnK, argsV, T.val?, S.val?, boundT, lendBox_fn, lendBox_int, lendBox_bool, lendBox_nilp, List.flatMap_cons, List.flatMap_nil, S.reach, S.nameL, Tag.nameL, callOf, argsT, guardOf, pureOp, St.rd, St.eval, rdg, List.getD, List.getElem?_cons_zero, List.getElem?_cons_succ, List.cons_append, List.nil_append, List.replicate, List.length, List.getElem?_nil, Option.getD, T.ofValue, S.ofValue, St.put, List.set, binT, binI, thenQ, blockQ, scopeQ, Nat.reduceSub, Nat.reduceAdd, true_and, and_true, if_true, if_false, true_or, Option.bind, List.getElem?_toArray, eqOp, PS.Ends, resOf, packT, St.out, T.sub, S.sub, tagSub, LeT_bool, LeT_int, beq_true, beq_false, imp_self, implies_true, Bool.and_true, Bool.true_and, Bool.and_false, Bool.false_and, T.lend, S.lend, Tag.lend, T.back, S.back, T.made, S.made, Tag.made, St.ret, St.kills, List.map_nil, List.foldl_nil, List.foldl_cons, Bool.false_eq_true, false_imp_iff, true_imp_iff, forall_const, Bool.true_eq_false, minI, maxI, effOp, appendOp, fillT, chunks, T.cells, S.plain, S.lay, St.kill, T.cut, cutn_un, cutn_bool, cutn_int, cutn_str, cutn_nilp, cutn_sl, cutn_el, cutn_fn, cutn_fref, cutn_ptr, cutr_un, cutr_bool, cutr_int, cutr_str, cutr_nilp, cutr_sl, cutr_el, cutr_fn, cutr_fref, cutr_ptr, Tag.names, mcut, mdrop, mget, mset, List.map_cons, St.box, St.store, St.wipe, setAt, bound, lenS, loadT, List.headD_cons, List.take_succ_cons, List.take_zero, List.take_nil, List.drop_nil, List.drop_zero, List.drop_succ_cons, Tag.sub, List.all_cons, List.all_nil, Nat.reduceLeDiff, Nat.reduceMul, Nat.reduceBEq, Nat.reduceEqDiff, Nat.reduceLT, T.madeAll, T.backAll, nm, List.contains_cons, List.contains_nil, backTag, Int.toNat_natCast, Option.map_some, beq_self_eq_true, Bool.or_true, Bool.true_or, Bool.or_false, Bool.false_or, or_true, or_false, false_or, reduceCtorEq, and_self, and_false, false_and, not_true_eq_false, not_false_eq_true, Bool.not_true, Bool.not_false, vv_of, vc_val, unvc_vc, tz26v, vc_drop, List.append_nil, unrows_rows, rowsV_len, vc_box, vc_nameL, td3, td4, td5, td22, td24, td26, td27, td33, td39, td42, td49, td52, td57, td59, tz3, tz24, tz33, tz42, tz49, tzz3, tzz4, tzz22, tzz24, tzz26, tzz27, tzz33, tzz42, tzz49, fl24, vc_len, vc_all, vc_0, vc_1, vc_2, vc_3, vc_4, vc_5, vc_6, vc_7, bp_len, bv_len, bp_all, bv_all, vc_cutn, vc_cutr, vc_lay, vc_lend, vc_back, vc_plain, bts_plain, bts_cutn, bts_cutr, bts_lend, eq_pp, eq_vv, eq_v0, places, aggD, Nat.zero_add, Nat.add_zero]
  iterate 3
    refine PW1.sw (G := kM) mixed _ _ _ ?_
    simp (maxSteps := 3000000) only [I, V, L, ↓ff_imp, ↓tf_imp, PW, PW1, regK, drawK, stepK, quietK, callK, idleK, fnK, argsV, T.val?, S.val?, boundT, lendBox_fn, lendBox_int, lendBox_bool, lendBox_nilp, List.flatMap_cons, List.flatMap_nil, S.reach, S.nameL, Tag.nameL, callOf, argsT, guardOf, pureOp, St.rd, St.eval, rdg, List.getD, List.getElem?_cons_zero, List.getElem?_cons_succ, List.cons_append, List.nil_append, List.replicate, List.length, List.getElem?_nil, Option.getD, T.ofValue, S.ofValue, St.put, List.set, binT, binI, thenQ, blockQ, scopeQ, Nat.reduceSub, Nat.reduceAdd, true_and, and_true, if_true, if_false, true_or, Option.bind, List.getElem?_toArray, eqOp, PS.Ends, resOf, packT, St.out, T.sub, S.sub, tagSub, LeT_bool, LeT_int, beq_true, beq_false, imp_self, implies_true, Bool.and_true, Bool.true_and, Bool.and_false, Bool.false_and, T.lend, S.lend, Tag.lend, T.back, S.back, T.made, S.made, Tag.made, St.ret, St.kills, List.map_nil, List.foldl_nil, List.foldl_cons, Bool.false_eq_true, false_imp_iff, true_imp_iff, forall_const, Bool.true_eq_false, minI, maxI, effOp, appendOp, fillT, chunks, T.cells, S.plain, S.lay, St.kill, T.cut, cutn_un, cutn_bool, cutn_int, cutn_str, cutn_nilp, cutn_sl, cutn_el, cutn_fn, cutn_fref, cutn_ptr, cutr_un, cutr_bool, cutr_int, cutr_str, cutr_nilp, cutr_sl, cutr_el, cutr_fn, cutr_fref, cutr_ptr, Tag.names, mcut, mdrop, mget, mset, List.map_cons, St.box, St.store, St.wipe, setAt, bound, lenS, loadT, List.headD_cons, List.take_succ_cons, List.take_zero, List.take_nil, List.drop_nil, List.drop_zero, List.drop_succ_cons, Tag.sub, List.all_cons, List.all_nil, Nat.reduceLeDiff, Nat.reduceMul, Nat.reduceBEq, Nat.reduceEqDiff, Nat.reduceLT, T.madeAll, T.backAll, nm, List.contains_cons, List.contains_nil, backTag, Int.toNat_natCast, Option.map_some, beq_self_eq_true, Bool.or_true, Bool.true_or, Bool.or_false, Bool.false_or, or_true, or_false, false_or, reduceCtorEq, and_self, and_false, false_and, not_true_eq_false, not_false_eq_true, Bool.not_true, Bool.not_false, vv_of, vc_val, unvc_vc, tz26v, vc_drop, List.append_nil, unrows_rows, rowsV_len, vc_box, vc_nameL, td3, td4, td5, td22, td24, td26, td27, td33, td39, td42, td49, td52, td57, td59, tz3, tz24, tz33, tz42, tz49, tzz3, tzz4, tzz22, tzz24, tzz26, tzz27, tzz33, tzz42, tzz49, fl24, vc_len, vc_all, vc_0, vc_1, vc_2, vc_3, vc_4, vc_5, vc_6, vc_7, bp_len, bv_len, bp_all, bv_all, vc_cutn, vc_cutr, vc_lay, vc_lend, vc_back, vc_plain, bts_plain, bts_cutn, bts_cutr, bts_lend, eq_pp, eq_vv, eq_v0, places, aggD, Nat.zero_add, Nat.add_zero, kM_9, spec9, kM_15, kM_16, spec1]
  refine ⟨hq, SW.seq (SW.drawE (G := kM) [0, 1, 2, 3, 4, 5, 6, 7, 8, 9, 10, 11, 12, 13, 14] mixed (by rfl) ?_)⟩
  simp (maxSteps := 3000000) only [I, V, L, ↓ff_imp, ↓tf_imp, PW, PW1, regK, drawK, stepK, quietK, callK, idleK, fnK, argsV, T.val?, S.val?, boundT, lendBox_fn, lendBox_int, lendBox_bool, lendBox_nilp, List.flatMap_cons, List.flatMap_nil, S.reach, S.nameL, Tag.nameL, callOf, argsT, guardOf, pureOp, St.rd, St.eval, rdg, List.getD, List.getElem?_cons_zero, List.getElem?_cons_succ, List.cons_append, List.nil_append, List.replicate, List.length, List.getElem?_nil, Option.getD, T.ofValue, S.ofValue, St.put, List.set, binT, binI, thenQ, blockQ, scopeQ, Nat.reduceSub, Nat.reduceAdd, true_and, and_true, if_true, if_false, true_or, Option.bind, List.getElem?_toArray, eqOp, PS.Ends, resOf, packT, St.out, T.sub, S.sub, tagSub, LeT_bool, LeT_int, beq_true, beq_false, imp_self, implies_true, Bool.and_true, Bool.true_and, Bool.and_false, Bool.false_and, T.lend, S.lend, Tag.lend, T.back, S.back, T.made, S.made, Tag.made, St.ret, St.kills, List.map_nil, List.foldl_nil, List.foldl_cons, Bool.false_eq_true, false_imp_iff, true_imp_iff, forall_const, Bool.true_eq_false, minI, maxI, effOp, appendOp, fillT, chunks, T.cells, S.plain, S.lay, St.kill, T.cut, cutn_un, cutn_bool, cutn_int, cutn_str, cutn_nilp, cutn_sl, cutn_el, cutn_fn, cutn_fref, cutn_ptr, cutr_un, cutr_bool, cutr_int, cutr_str, cutr_nilp, cutr_sl, cutr_el, cutr_fn, cutr_fref, cutr_ptr, Tag.names, mcut, mdrop, mget, mset, List.map_cons, St.box, St.store, St.wipe, bound, lenS, loadT, List.headD_cons, List.take_succ_cons, List.take_zero, List.take_nil, List.drop_nil, List.drop_zero, List.drop_succ_cons, Tag.sub, List.all_cons, List.all_nil, Nat.reduceLeDiff, Nat.reduceMul, Nat.reduceBEq, Nat.reduceEqDiff, Nat.reduceLT, T.madeAll, T.backAll, nm, List.contains_cons, List.contains_nil, backTag, Int.toNat_natCast, Option.map_some, beq_self_eq_true, Bool.or_true, Bool.true_or, Bool.or_false, Bool.false_or, or_true, or_false, false_or, reduceCtorEq, and_self, and_false, false_and, not_true_eq_false, not_false_eq_true, Bool.not_true, Bool.not_false, drawE, floatK, pickOps, afterAll, effS, isEff, edgeTo, Region.binds, LeD, List.any_cons, List.any_nil, List.toList_toArray, any_text, any_gc, LeT.refl_iff, LeT.un_iff, vv_of, vc_val, unvc_vc, tz26v, vc_drop, List.append_nil, unrows_rows, rowsV_len, vc_box, vc_nameL, td3, td4, td5, td22, td24, td26, td27, td33, td39, td42, td49, td52, td57, td59, tz3, tz24, tz33, tz42, tz49, tzz3, tzz4, tzz22, tzz24, tzz26, tzz27, tzz33, tzz42, tzz49, fl24, vc_len, vc_all, vc_0, vc_1, vc_2, vc_3, vc_4, vc_5, vc_6, vc_7, bp_len, bv_len, bp_all, bv_all, vc_cutn, vc_cutr, vc_lay, vc_lend, vc_back, vc_plain, bts_plain, bts_cutn, bts_cutr, bts_lend, eq_pp, eq_vv, eq_v0, places, aggD, Nat.zero_add, Nat.add_zero, set1, set2, set3, set4]
  have hend := hend _ rfl
  generalize IntKind.i64.wrap (y.round - 1) = r at *
  simp only [rowsV_take]
  generalize a.take 300 = a' at *
  generalize b.take 300 = b' at *
  refine PW1.sw (G := kM) mixed _ _ _ ?_
  simp (maxSteps := 3000000) only [I, V, L, ↓ff_imp, ↓tf_imp, PW, PW1, regK, drawK, stepK, quietK, callK, idleK, fnK, argsV, T.val?, S.val?, boundT, lendBox_fn, lendBox_int, lendBox_bool, lendBox_nilp, List.flatMap_cons, List.flatMap_nil, S.reach, S.nameL, Tag.nameL, callOf, argsT, guardOf, pureOp, St.rd, St.eval, rdg, List.getD, List.getElem?_cons_zero, List.getElem?_cons_succ, List.cons_append, List.nil_append, List.replicate, List.length, List.getElem?_nil, Option.getD, T.ofValue, S.ofValue, St.put, List.set, binT, binI, thenQ, blockQ, scopeQ, Nat.reduceSub, Nat.reduceAdd, true_and, and_true, if_true, if_false, true_or, Option.bind, List.getElem?_toArray, eqOp, PS.Ends, resOf, packT, St.out, T.sub, S.sub, tagSub, LeT_bool, LeT_int, beq_true, beq_false, imp_self, implies_true, Bool.and_true, Bool.true_and, Bool.and_false, Bool.false_and, T.lend, S.lend, Tag.lend, T.back, S.back, T.made, S.made, Tag.made, St.ret, St.kills, List.map_nil, List.foldl_nil, List.foldl_cons, Bool.false_eq_true, false_imp_iff, true_imp_iff, forall_const, Bool.true_eq_false, minI, maxI, effOp, appendOp, fillT, chunks, T.cells, S.plain, S.lay, St.kill, T.cut, cutn_un, cutn_bool, cutn_int, cutn_str, cutn_nilp, cutn_sl, cutn_el, cutn_fn, cutn_fref, cutn_ptr, cutr_un, cutr_bool, cutr_int, cutr_str, cutr_nilp, cutr_sl, cutr_el, cutr_fn, cutr_fref, cutr_ptr, Tag.names, mcut, mdrop, mget, mset, List.map_cons, St.box, St.store, St.wipe, setAt, bound, lenS, loadT, List.headD_cons, List.take_succ_cons, List.take_zero, List.take_nil, List.drop_nil, List.drop_zero, List.drop_succ_cons, Tag.sub, List.all_cons, List.all_nil, Nat.reduceLeDiff, Nat.reduceMul, Nat.reduceBEq, Nat.reduceEqDiff, Nat.reduceLT, T.madeAll, T.backAll, nm, List.contains_cons, List.contains_nil, backTag, Int.toNat_natCast, Option.map_some, beq_self_eq_true, Bool.or_true, Bool.true_or, Bool.or_false, Bool.false_or, or_true, or_false, false_or, reduceCtorEq, and_self, and_false, false_and, not_true_eq_false, not_false_eq_true, Bool.not_true, Bool.not_false, vv_of, vc_val, unvc_vc, tz26v, vc_drop, List.append_nil, unrows_rows, rowsV_len, vc_box, vc_nameL, td3, td4, td5, td22, td24, td26, td27, td33, td39, td42, td49, td52, td57, td59, tz3, tz24, tz33, tz42, tz49, tzz3, tzz4, tzz22, tzz24, tzz26, tzz27, tzz33, tzz42, tzz49, fl24, vc_len, vc_all, vc_0, vc_1, vc_2, vc_3, vc_4, vc_5, vc_6, vc_7, bp_len, bv_len, bp_all, bv_all, vc_cutn, vc_cutr, vc_lay, vc_lend, vc_back, vc_plain, bts_plain, bts_cutn, bts_cutr, bts_lend, eq_pp, eq_vv, eq_v0, places, aggD, Nat.zero_add, Nat.add_zero, kM_10, spec10, kM_17, spec17]
  refine ⟨fun _ => h4, fun _ => h3, ?_⟩
  refine PW1.sw (G := kM) mixed _ _ _ ?_
  simp (maxSteps := 3000000) only [I, V, L, ↓ff_imp, ↓tf_imp, PW, PW1, regK, drawK, stepK, quietK, callK, idleK, fnK, argsV, T.val?, S.val?, boundT, lendBox_fn, lendBox_int, lendBox_bool, lendBox_nilp, List.flatMap_cons, List.flatMap_nil, S.reach, S.nameL, Tag.nameL, callOf, argsT, guardOf, pureOp, St.rd, St.eval, rdg, List.getD, List.getElem?_cons_zero, List.getElem?_cons_succ, List.cons_append, List.nil_append, List.replicate, List.length, List.getElem?_nil, Option.getD, T.ofValue, S.ofValue, St.put, List.set, binT, binI, thenQ, blockQ, scopeQ, Nat.reduceSub, Nat.reduceAdd, true_and, and_true, if_true, if_false, true_or, Option.bind, List.getElem?_toArray, eqOp, PS.Ends, resOf, packT, St.out, T.sub, S.sub, tagSub, LeT_bool, LeT_int, beq_true, beq_false, imp_self, implies_true, Bool.and_true, Bool.true_and, Bool.and_false, Bool.false_and, T.lend, S.lend, Tag.lend, T.back, S.back, T.made, S.made, Tag.made, St.ret, St.kills, List.map_nil, List.foldl_nil, List.foldl_cons, Bool.false_eq_true, false_imp_iff, true_imp_iff, forall_const, Bool.true_eq_false, minI, maxI, effOp, appendOp, fillT, chunks, T.cells, S.plain, S.lay, St.kill, T.cut, cutn_un, cutn_bool, cutn_int, cutn_str, cutn_nilp, cutn_sl, cutn_el, cutn_fn, cutn_fref, cutn_ptr, cutr_un, cutr_bool, cutr_int, cutr_str, cutr_nilp, cutr_sl, cutr_el, cutr_fn, cutr_fref, cutr_ptr, Tag.names, mcut, mdrop, mget, mset, List.map_cons, St.box, St.store, St.wipe, setAt, bound, lenS, loadT, List.headD_cons, List.take_succ_cons, List.take_zero, List.take_nil, List.drop_nil, List.drop_zero, List.drop_succ_cons, Tag.sub, List.all_cons, List.all_nil, Nat.reduceLeDiff, Nat.reduceMul, Nat.reduceBEq, Nat.reduceEqDiff, Nat.reduceLT, T.madeAll, T.backAll, nm, List.contains_cons, List.contains_nil, backTag, Int.toNat_natCast, Option.map_some, beq_self_eq_true, Bool.or_true, Bool.true_or, Bool.or_false, Bool.false_or, or_true, or_false, false_or, reduceCtorEq, and_self, and_false, false_and, not_true_eq_false, not_false_eq_true, Bool.not_true, Bool.not_false, vv_of, vc_val, unvc_vc, tz26v, vc_drop, List.append_nil, unrows_rows, rowsV_len, vc_box, vc_nameL, td3, td4, td5, td22, td24, td26, td27, td33, td39, td42, td49, td52, td57, td59, tz3, tz24, tz33, tz42, tz49, tzz3, tzz4, tzz22, tzz24, tzz26, tzz27, tzz33, tzz42, tzz49, fl24, vc_len, vc_all, vc_0, vc_1, vc_2, vc_3, vc_4, vc_5, vc_6, vc_7, bp_len, bv_len, bp_all, bv_all, vc_cutn, vc_cutr, vc_lay, vc_lend, vc_back, vc_plain, bts_plain, bts_cutn, bts_cutr, bts_lend, eq_pp, eq_vv, eq_v0, places, aggD, Nat.zero_add, Nat.add_zero, kM_12, spec12, Try.results8]
  refine ⟨fun hqt => ?_, fun hqt => ?_⟩
  · refine PW1.sw (G := kM) mixed _ _ _ ?_
    simp (maxSteps := 3000000) only [I, V, L, ↓ff_imp, ↓tf_imp, PW, PW1, regK, drawK, stepK, quietK, callK, idleK, fnK, argsV, T.val?, S.val?, boundT, lendBox_fn, lendBox_int, lendBox_bool, lendBox_nilp, List.flatMap_cons, List.flatMap_nil, S.reach, S.nameL, Tag.nameL, callOf, argsT, guardOf, pureOp, St.rd, St.eval, rdg, List.getD, List.getElem?_cons_zero, List.getElem?_cons_succ, List.cons_append, List.nil_append, List.replicate, List.length, List.getElem?_nil, Option.getD, T.ofValue, S.ofValue, St.put, List.set, binT, binI, thenQ, blockQ, scopeQ, Nat.reduceSub, Nat.reduceAdd, true_and, and_true, if_true, if_false, true_or, Option.bind, List.getElem?_toArray, eqOp, PS.Ends, resOf, packT, St.out, T.sub, S.sub, tagSub, LeT_bool, LeT_int, beq_true, beq_false, imp_self, implies_true, Bool.and_true, Bool.true_and, Bool.and_false, Bool.false_and, T.lend, S.lend, Tag.lend, T.back, S.back, T.made, S.made, Tag.made, St.ret, St.kills, List.map_nil, List.foldl_nil, List.foldl_cons, Bool.false_eq_true, false_imp_iff, true_imp_iff, forall_const, Bool.true_eq_false, minI, maxI, effOp, appendOp, fillT, chunks, T.cells, S.plain, S.lay, St.kill, T.cut, cutn_un, cutn_bool, cutn_int, cutn_str, cutn_nilp, cutn_sl, cutn_el, cutn_fn, cutn_fref, cutn_ptr, cutr_un, cutr_bool, cutr_int, cutr_str, cutr_nilp, cutr_sl, cutr_el, cutr_fn, cutr_fref, cutr_ptr, Tag.names, mcut, mdrop, mget, mset, List.map_cons, St.box, St.store, St.wipe, setAt, bound, lenS, loadT, List.headD_cons, List.take_succ_cons, List.take_zero, List.take_nil, List.drop_nil, List.drop_zero, List.drop_succ_cons, Tag.sub, List.all_cons, List.all_nil, Nat.reduceLeDiff, Nat.reduceMul, Nat.reduceBEq, Nat.reduceEqDiff, Nat.reduceLT, T.madeAll, T.backAll, nm, List.contains_cons, List.contains_nil, backTag, Int.toNat_natCast, Option.map_some, beq_self_eq_true, Bool.or_true, Bool.true_or, Bool.or_false, Bool.false_or, or_true, or_false, false_or, reduceCtorEq, and_self, and_false, false_and, not_true_eq_false, not_false_eq_true, Bool.not_true, Bool.not_false, vv_of, vc_val, unvc_vc, tz26v, vc_drop, List.append_nil, unrows_rows, rowsV_len, vc_box, vc_nameL, td3, td4, td5, td22, td24, td26, td27, td33, td39, td42, td49, td52, td57, td59, tz3, tz24, tz33, tz42, tz49, tzz3, tzz4, tzz22, tzz24, tzz26, tzz27, tzz33, tzz42, tzz49, fl24, vc_len, vc_all, vc_0, vc_1, vc_2, vc_3, vc_4, vc_5, vc_6, vc_7, bp_len, bv_len, bp_all, bv_all, vc_cutn, vc_cutr, vc_lay, vc_lend, vc_back, vc_plain, bts_plain, bts_cutn, bts_cutr, bts_lend, eq_pp, eq_vv, eq_v0, places, aggD, Nat.zero_add, Nat.add_zero, kM_12, spec12, Try.results8]
  have hend := hend hqt
  clear hqt
  iterate 3
    refine PW1.sw (G := kM) mixed _ _ _ ?_
    simp (maxSteps := 3000000) only [I, V, L, ↓ff_imp, ↓tf_imp, PW, PW1, regK, drawK, stepK, quietK, callK, idleK, fnK, argsV, T.val?, S.val?, boundT, lendBox_fn, lendBox_int, lendBox_bool, lendBox_nilp, List.flatMap_cons, List.flatMap_nil, S.reach, S.nameL, Tag.nameL, callOf, argsT, guardOf, pureOp, St.rd, St.eval, rdg, List.getD, List.getElem?_cons_zero, List.getElem?_cons_succ, List.cons_append, List.nil_append, List.replicate, List.length, List.getElem?_nil, Option.getD, T.ofValue, S.ofValue, St.put, List.set, binT, binI, thenQ, blockQ, scopeQ, Nat.reduceSub, Nat.reduceAdd, true_and, and_true, if_true, if_false, true_or, Option.bind, List.getElem?_toArray, eqOp, PS.Ends, resOf, packT, St.out, T.sub, S.sub, tagSub, LeT_bool, LeT_int, beq_true, beq_false, imp_self, implies_true, Bool.and_true, Bool.true_and, Bool.and_false, Bool.false_and, T.lend, S.lend, Tag.lend, T.back, S.back, T.made, S.made, Tag.made, St.ret, St.kills, List.map_nil, List.foldl_nil, List.foldl_cons, Bool.false_eq_true, false_imp_iff, true_imp_iff, forall_const, Bool.true_eq_false, minI, maxI, effOp, appendOp, fillT, chunks, T.cells, S.plain, S.lay, St.kill, T.cut, cutn_un, cutn_bool, cutn_int, cutn_str, cutn_nilp, cutn_sl, cutn_el, cutn_fn, cutn_fref, cutn_ptr, cutr_un, cutr_bool, cutr_int, cutr_str, cutr_nilp, cutr_sl, cutr_el, cutr_fn, cutr_fref, cutr_ptr, Tag.names, mcut, mdrop, mget, mset, List.map_cons, St.box, St.store, St.wipe, setAt, bound, lenS, loadT, List.headD_cons, List.take_succ_cons, List.take_zero, List.take_nil, List.drop_nil, List.drop_zero, List.drop_succ_cons, Tag.sub, List.all_cons, List.all_nil, Nat.reduceLeDiff, Nat.reduceMul, Nat.reduceBEq, Nat.reduceEqDiff, Nat.reduceLT, T.madeAll, T.backAll, nm, List.contains_cons, List.contains_nil, backTag, Int.toNat_natCast, Option.map_some, beq_self_eq_true, Bool.or_true, Bool.true_or, Bool.or_false, Bool.false_or, or_true, or_false, false_or, reduceCtorEq, and_self, and_false, false_and, not_true_eq_false, not_false_eq_true, Bool.not_true, Bool.not_false, vv_of, vc_val, unvc_vc, tz26v, vc_drop, List.append_nil, unrows_rows, rowsV_len, vc_box, vc_nameL, td3, td4, td5, td22, td24, td26, td27, td33, td39, td42, td49, td52, td57, td59, tz3, tz24, tz33, tz42, tz49, tzz3, tzz4, tzz22, tzz24, tzz26, tzz27, tzz33, tzz42, tzz49, fl24, vc_len, vc_all, vc_0, vc_1, vc_2, vc_3, vc_4, vc_5, vc_6, vc_7, bp_len, bv_len, bp_all, bv_all, vc_cutn, vc_cutr, vc_lay, vc_lend, vc_back, vc_plain, bts_plain, bts_cutn, bts_cutr, bts_lend, eq_pp, eq_vv, eq_v0, places, aggD, Nat.zero_add, Nat.add_zero]
  refine SW.loop (fun j => ⟨[I m, .un, .un, L a', L b', .un, .one (.ptr 6 0), .one (.ptr 7 0), .un, .un, .one (.bool false), I (sizeI m), I (quorI (sizeI m)), I (orBits (allMets m y r (a'.take j) b')), I (j : Nat), .un] ++ List.replicate 158 .un, [(6, vc (laid x y r)), (7, vc y)]⟩)
    (fun j => j ≤ a'.length) (fun j => a'.length - j) 0 ?_ (by simp) ?_
  · refine Le.mks ?_ (.same rfl (.same rfl (LeMs.nil _)))
    simp only [I, L, LeTs, LeT.un, LeT.refl, true_and, and_true, and_self, ↓ff_imp, ↓tf_imp, PW, PW1, regK, drawK, stepK, quietK, callK, idleK, fnK, argsV, T.val?, S.val?, boundT, lendBox_fn, lendBox_int, lendBox_bool, lendBox_nilp, List.flatMap_cons, List.flatMap_nil, S.reach, S.nameL, Tag.nameL, callOf, argsT, guardOf, pureOp, St.rd, St.eval, rdg, List.getD, List.getElem?_cons_zero, List.getElem?_cons_succ, List.cons_append, List.nil_append, List.replicate, List.length, List.getElem?_nil, Option.getD, T.ofValue, S.ofValue, St.put, List.set, binT, binI, thenQ, blockQ, scopeQ, Nat.reduceSub, Nat.reduceAdd, true_and, and_true, if_true, if_false, true_or, Option.bind, List.getElem?_toArray, eqOp, PS.Ends, resOf, packT, St.out, T.sub, S.sub, tagSub, LeT_bool, LeT_int, beq_true, beq_false, imp_self, implies_true, Bool.and_true, Bool.true_and, Bool.and_false, Bool.false_and, T.lend, S.lend, Tag.lend, T.back, S.back, T.made, S.made, Tag.made, St.ret, St.kills, List.map_nil, List.foldl_nil, List.foldl_cons, Bool.false_eq_true, false_imp_iff, true_imp_iff, forall_const, Bool.true_eq_false, minI, maxI, effOp, appendOp, fillT, chunks, T.cells, S.plain, S.lay, St.kill, T.cut, cutn_un, cutn_bool, cutn_int, cutn_str, cutn_nilp, cutn_sl, cutn_el, cutn_fn, cutn_fref, cutn_ptr, cutr_un, cutr_bool, cutr_int, cutr_str, cutr_nilp, cutr_sl, cutr_el, cutr_fn, cutr_fref, cutr_ptr, Tag.names, mcut, mdrop, mget, mset, List.map_cons, St.box, St.store, St.wipe, setAt, bound, lenS, loadT, List.headD_cons, List.take_succ_cons, List.take_zero, List.take_nil, List.drop_nil, List.drop_zero, List.drop_succ_cons, Tag.sub, List.all_cons, List.all_nil, Nat.reduceLeDiff, Nat.reduceMul, Nat.reduceBEq, Nat.reduceEqDiff, Nat.reduceLT, T.madeAll, T.backAll, nm, List.contains_cons, List.contains_nil, backTag, Int.toNat_natCast, Option.map_some, beq_self_eq_true, Bool.or_true, Bool.true_or, Bool.or_false, Bool.false_or, or_true, or_false, false_or, reduceCtorEq, and_self, and_false, false_and, not_true_eq_false, not_false_eq_true, Bool.not_true, Bool.not_false]
    exact ⟨rfl, rfl⟩
  · intro j hj
    have hw : IntKind.i64.wrap ((j : Int) + 1) = ((j + 1 : Nat) : Int) := by rw [wrap_id] <;> (try unfold i64ok) <;> omega
    refine PW1.sw (G := kM) mixed _ _ _ ?_
    by_cases hjl : j < a'.length
    · have ht : decide ((j : Int) < (a'.length : Int)) = true := by simp; omega
      have hat := rowsV_at hjl
      iterate 2
        simp (maxSteps := 3000000) only [I, V, L, ↓ff_imp, ↓tf_imp, PW, PW1, regK, drawK, stepK, quietK, callK, idleK, fnK, argsV, T.val?, S.val?, boundT, lendBox_fn, lendBox_int, lendBox_bool, lendBox_nilp, List.flatMap_cons, List.flatMap_nil, S.reach, S.nameL, Tag.nameL, callOf, argsT, guardOf, pureOp, St.rd, St.eval, rdg, List.getD, List.getElem?_cons_zero, List.getElem?_cons_succ, List.cons_append, List.nil_append, List.replicate, List.length, List.getElem?_nil, Option.getD, T.ofValue, S.ofValue, St.put, List.set, binT, binI, thenQ, blockQ, scopeQ, Nat.reduceSub, Nat.reduceAdd, true_and, and_true, if_true, if_false, true_or, Option.bind, List.getElem?_toArray, eqOp, PS.Ends, resOf, packT, St.out, T.sub, S.sub, tagSub, LeT_bool, LeT_int, beq_true, beq_false, imp_self, implies_true, Bool.and_true, Bool.true_and, Bool.and_false, Bool.false_and, T.lend, S.lend, Tag.lend, T.back, S.back, T.made, S.made, Tag.made, St.ret, St.kills, List.map_nil, List.foldl_nil, List.foldl_cons, Bool.false_eq_true, false_imp_iff, true_imp_iff, forall_const, Bool.true_eq_false, minI, maxI, effOp, appendOp, fillT, chunks, T.cells, S.plain, S.lay, St.kill, T.cut, cutn_un, cutn_bool, cutn_int, cutn_str, cutn_nilp, cutn_sl, cutn_el, cutn_fn, cutn_fref, cutn_ptr, cutr_un, cutr_bool, cutr_int, cutr_str, cutr_nilp, cutr_sl, cutr_el, cutr_fn, cutr_fref, cutr_ptr, Tag.names, mcut, mdrop, mget, mset, List.map_cons, St.box, St.store, St.wipe, setAt, bound, lenS, loadT, List.headD_cons, List.take_succ_cons, List.take_zero, List.take_nil, List.drop_nil, List.drop_zero, List.drop_succ_cons, Tag.sub, List.all_cons, List.all_nil, Nat.reduceLeDiff, Nat.reduceMul, Nat.reduceBEq, Nat.reduceEqDiff, Nat.reduceLT, T.madeAll, T.backAll, nm, List.contains_cons, List.contains_nil, backTag, Int.toNat_natCast, Option.map_some, beq_self_eq_true, Bool.or_true, Bool.true_or, Bool.or_false, Bool.false_or, or_true, or_false, false_or, reduceCtorEq, and_self, and_false, false_and, not_true_eq_false, not_false_eq_true, Bool.not_true, Bool.not_false, vv_of, vc_val, unvc_vc, tz26v, vc_drop, List.append_nil, unrows_rows, rowsV_len, vc_box, vc_nameL, td3, td4, td5, td22, td24, td26, td27, td33, td39, td42, td49, td52, td57, td59, tz3, tz24, tz33, tz42, tz49, tzz3, tzz4, tzz22, tzz24, tzz26, tzz27, tzz33, tzz42, tzz49, fl24, vc_len, vc_all, vc_0, vc_1, vc_2, vc_3, vc_4, vc_5, vc_6, vc_7, bp_len, bv_len, bp_all, bv_all, vc_cutn, vc_cutr, vc_lay, vc_lend, vc_back, vc_plain, bts_plain, bts_cutn, bts_cutr, bts_lend, eq_pp, eq_vv, eq_v0, places, aggD, Nat.zero_add, Nat.add_zero, ht]
        refine PW1.sw (G := kM) mixed _ _ _ ?_
      simp (maxSteps := 3000000) only [I, V, L, ↓ff_imp, ↓tf_imp, PW, PW1, regK, drawK, stepK, quietK, callK, idleK, fnK, argsV, T.val?, S.val?, boundT, lendBox_fn, lendBox_int, lendBox_bool, lendBox_nilp, List.flatMap_cons, List.flatMap_nil, S.reach, S.nameL, Tag.nameL, callOf, argsT, guardOf, pureOp, St.rd, St.eval, rdg, List.getD, List.getElem?_cons_zero, List.getElem?_cons_succ, List.cons_append, List.nil_append, List.replicate, List.length, List.getElem?_nil, Option.getD, T.ofValue, S.ofValue, St.put, List.set, binT, binI, thenQ, blockQ, scopeQ, Nat.reduceSub, Nat.reduceAdd, true_and, and_true, if_true, if_false, true_or, Option.bind, List.getElem?_toArray, eqOp, PS.Ends, resOf, packT, St.out, T.sub, S.sub, tagSub, LeT_bool, LeT_int, beq_true, beq_false, imp_self, implies_true, Bool.and_true, Bool.true_and, Bool.and_false, Bool.false_and, T.lend, S.lend, Tag.lend, T.back, S.back, T.made, S.made, Tag.made, St.ret, St.kills, List.map_nil, List.foldl_nil, List.foldl_cons, Bool.false_eq_true, false_imp_iff, true_imp_iff, forall_const, Bool.true_eq_false, minI, maxI, effOp, appendOp, fillT, chunks, T.cells, S.plain, S.lay, St.kill, T.cut, cutn_un, cutn_bool, cutn_int, cutn_str, cutn_nilp, cutn_sl, cutn_el, cutn_fn, cutn_fref, cutn_ptr, cutr_un, cutr_bool, cutr_int, cutr_str, cutr_nilp, cutr_sl, cutr_el, cutr_fn, cutr_fref, cutr_ptr, Tag.names, mcut, mdrop, mget, mset, List.map_cons, St.box, St.store, St.wipe, setAt, bound, lenS, loadT, List.headD_cons, List.take_succ_cons, List.take_zero, List.take_nil, List.drop_nil, List.drop_zero, List.drop_succ_cons, Tag.sub, List.all_cons, List.all_nil, Nat.reduceLeDiff, Nat.reduceMul, Nat.reduceBEq, Nat.reduceEqDiff, Nat.reduceLT, T.madeAll, T.backAll, nm, List.contains_cons, List.contains_nil, backTag, Int.toNat_natCast, Option.map_some, beq_self_eq_true, Bool.or_true, Bool.true_or, Bool.or_false, Bool.false_or, or_true, or_false, false_or, reduceCtorEq, and_self, and_false, false_and, not_true_eq_false, not_false_eq_true, Bool.not_true, Bool.not_false, vv_of, vc_val, unvc_vc, tz26v, vc_drop, List.append_nil, unrows_rows, rowsV_len, vc_box, vc_nameL, td3, td4, td5, td22, td24, td26, td27, td33, td39, td42, td49, td52, td57, td59, tz3, tz24, tz33, tz42, tz49, tzz3, tzz4, tzz22, tzz24, tzz26, tzz27, tzz33, tzz42, tzz49, fl24, vc_len, vc_all, vc_0, vc_1, vc_2, vc_3, vc_4, vc_5, vc_6, vc_7, bp_len, bv_len, bp_all, bv_all, vc_cutn, vc_cutr, vc_lay, vc_lend, vc_back, vc_plain, bts_plain, bts_cutn, bts_cutr, bts_lend, eq_pp, eq_vv, eq_v0, places, aggD, Nat.zero_add, Nat.add_zero, ht]
      refine PW1.sw (G := kM) mixed _ _ _ ?_
      simp only [PW1]
      refine SW.loop (fun k => ⟨[I m, .un, .un, L a', L b', .un, .one (.ptr 6 0), .one (.ptr 7 0), .un, .un, .one (.bool false), I (sizeI m), I (quorI (sizeI m)), I (orBits (allMets m y r (a'.take j) b' ++ mets m y r (b'.take k) a'[j])), I (j : Nat), I (k : Nat)] ++ List.replicate 158 .un, [(6, vc (laid x y r)), (7, vc y)]⟩)
        (fun k => k ≤ b'.length) (fun k => b'.length - k) 0 ?_ (by simp) ?_
      · refine Le.mks ?_ (.same rfl (.same rfl (LeMs.nil _)))
        simp only [I, L, LeTs, LeT.un, LeT.refl, true_and, and_true, and_self, ↓ff_imp, ↓tf_imp, PW, PW1, regK, drawK, stepK, quietK, callK, idleK, fnK, argsV, T.val?, S.val?, boundT, lendBox_fn, lendBox_int, lendBox_bool, lendBox_nilp, List.flatMap_cons, List.flatMap_nil, S.reach, S.nameL, Tag.nameL, callOf, argsT, guardOf, pureOp, St.rd, St.eval, rdg, List.getD, List.getElem?_cons_zero, List.getElem?_cons_succ, List.cons_append, List.nil_append, List.replicate, List.length, List.getElem?_nil, Option.getD, T.ofValue, S.ofValue, St.put, List.set, binT, binI, thenQ, blockQ, scopeQ, Nat.reduceSub, Nat.reduceAdd, true_and, and_true, if_true, if_false, true_or, Option.bind, List.getElem?_toArray, eqOp, PS.Ends, resOf, packT, St.out, T.sub, S.sub, tagSub, LeT_bool, LeT_int, beq_true, beq_false, imp_self, implies_true, Bool.and_true, Bool.true_and, Bool.and_false, Bool.false_and, T.lend, S.lend, Tag.lend, T.back, S.back, T.made, S.made, Tag.made, St.ret, St.kills, List.map_nil, List.foldl_nil, List.foldl_cons, Bool.false_eq_true, false_imp_iff, true_imp_iff, forall_const, Bool.true_eq_false, minI, maxI, effOp, appendOp, fillT, chunks, T.cells, S.plain, S.lay, St.kill, T.cut, cutn_un, cutn_bool, cutn_int, cutn_str, cutn_nilp, cutn_sl, cutn_el, cutn_fn, cutn_fref, cutn_ptr, cutr_un, cutr_bool, cutr_int, cutr_str, cutr_nilp, cutr_sl, cutr_el, cutr_fn, cutr_fref, cutr_ptr, Tag.names, mcut, mdrop, mget, mset, List.map_cons, St.box, St.store, St.wipe, setAt, bound, lenS, loadT, List.headD_cons, List.take_succ_cons, List.take_zero, List.take_nil, List.drop_nil, List.drop_zero, List.drop_succ_cons, Tag.sub, List.all_cons, List.all_nil, Nat.reduceLeDiff, Nat.reduceMul, Nat.reduceBEq, Nat.reduceEqDiff, Nat.reduceLT, T.madeAll, T.backAll, nm, List.contains_cons, List.contains_nil, backTag, Int.toNat_natCast, Option.map_some, beq_self_eq_true, Bool.or_true, Bool.true_or, Bool.or_false, Bool.false_or, or_true, or_false, false_or, reduceCtorEq, and_self, and_false, false_and, not_true_eq_false, not_false_eq_true, Bool.not_true, Bool.not_false, mets, List.filter_nil, List.map_nil, List.append_nil]
        rfl
      · intro k hk
        have hwk : IntKind.i64.wrap ((k : Int) + 1) = ((k + 1 : Nat) : Int) := by rw [wrap_id] <;> (try unfold i64ok) <;> omega
        by_cases hkl : k < b'.length
        · have htk : decide ((k : Int) < (b'.length : Int)) = true := by simp; omega
          have hak := rowsV_at hkl
          have hstep := mets_step (m := m) (y := y) (r := r) (w := a'[j]) hkl (allMets m y r (a'.take j) b')
          refine PW1.sw (G := kM) mixed _ _ _ ?_
          iterate 2
            simp (maxSteps := 3000000) only [I, V, L, ↓ff_imp, ↓tf_imp, PW, PW1, regK, drawK, stepK, quietK, callK, idleK, fnK, argsV, T.val?, S.val?, boundT, lendBox_fn, lendBox_int, lendBox_bool, lendBox_nilp, List.flatMap_cons, List.flatMap_nil, S.reach, S.nameL, Tag.nameL, callOf, argsT, guardOf, pureOp, St.rd, St.eval, rdg, List.getD, List.getElem?_cons_zero, List.getElem?_cons_succ, List.cons_append, List.nil_append, List.replicate, List.length, List.getElem?_nil, Option.getD, T.ofValue, S.ofValue, St.put, List.set, binT, binI, thenQ, blockQ, scopeQ, Nat.reduceSub, Nat.reduceAdd, true_and, and_true, if_true, if_false, true_or, Option.bind, List.getElem?_toArray, eqOp, PS.Ends, resOf, packT, St.out, T.sub, S.sub, tagSub, LeT_bool, LeT_int, beq_true, beq_false, imp_self, implies_true, Bool.and_true, Bool.true_and, Bool.and_false, Bool.false_and, T.lend, S.lend, Tag.lend, T.back, S.back, T.made, S.made, Tag.made, St.ret, St.kills, List.map_nil, List.foldl_nil, List.foldl_cons, Bool.false_eq_true, false_imp_iff, true_imp_iff, forall_const, Bool.true_eq_false, minI, maxI, effOp, appendOp, fillT, chunks, T.cells, S.plain, S.lay, St.kill, T.cut, cutn_un, cutn_bool, cutn_int, cutn_str, cutn_nilp, cutn_sl, cutn_el, cutn_fn, cutn_fref, cutn_ptr, cutr_un, cutr_bool, cutr_int, cutr_str, cutr_nilp, cutr_sl, cutr_el, cutr_fn, cutr_fref, cutr_ptr, Tag.names, mcut, mdrop, mget, mset, List.map_cons, St.box, St.store, St.wipe, setAt, bound, lenS, loadT, List.headD_cons, List.take_succ_cons, List.take_zero, List.take_nil, List.drop_nil, List.drop_zero, List.drop_succ_cons, Tag.sub, List.all_cons, List.all_nil, Nat.reduceLeDiff, Nat.reduceMul, Nat.reduceBEq, Nat.reduceEqDiff, Nat.reduceLT, T.madeAll, T.backAll, nm, List.contains_cons, List.contains_nil, backTag, Int.toNat_natCast, Option.map_some, beq_self_eq_true, Bool.or_true, Bool.true_or, Bool.or_false, Bool.false_or, or_true, or_false, false_or, reduceCtorEq, and_self, and_false, false_and, not_true_eq_false, not_false_eq_true, Bool.not_true, Bool.not_false, vv_of, vc_val, unvc_vc, tz26v, vc_drop, List.append_nil, unrows_rows, rowsV_len, vc_box, vc_nameL, td3, td4, td5, td22, td24, td26, td27, td33, td39, td42, td49, td52, td57, td59, tz3, tz24, tz33, tz42, tz49, tzz3, tzz4, tzz22, tzz24, tzz26, tzz27, tzz33, tzz42, tzz49, fl24, vc_len, vc_all, vc_0, vc_1, vc_2, vc_3, vc_4, vc_5, vc_6, vc_7, bp_len, bv_len, bp_all, bv_all, vc_cutn, vc_cutr, vc_lay, vc_lend, vc_back, vc_plain, bts_plain, bts_cutn, bts_cutr, bts_lend, eq_pp, eq_vv, eq_v0, places, aggD, Nat.zero_add, Nat.add_zero, htk, hat, hak, kM_18, specVV, kM_14, spec2]
            refine PW1.sw (G := kM) mixed _ _ _ ?_
          simp (maxSteps := 3000000) only [I, V, L, ↓ff_imp, ↓tf_imp, PW, PW1, regK, drawK, stepK, quietK, callK, idleK, fnK, argsV, T.val?, S.val?, boundT, lendBox_fn, lendBox_int, lendBox_bool, lendBox_nilp, List.flatMap_cons, List.flatMap_nil, S.reach, S.nameL, Tag.nameL, callOf, argsT, guardOf, pureOp, St.rd, St.eval, rdg, List.getD, List.getElem?_cons_zero, List.getElem?_cons_succ, List.cons_append, List.nil_append, List.replicate, List.length, List.getElem?_nil, Option.getD, T.ofValue, S.ofValue, St.put, List.set, binT, binI, thenQ, blockQ, scopeQ, Nat.reduceSub, Nat.reduceAdd, true_and, and_true, if_true, if_false, true_or, Option.bind, List.getElem?_toArray, eqOp, PS.Ends, resOf, packT, St.out, T.sub, S.sub, tagSub, LeT_bool, LeT_int, beq_true, beq_false, imp_self, implies_true, Bool.and_true, Bool.true_and, Bool.and_false, Bool.false_and, T.lend, S.lend, Tag.lend, T.back, S.back, T.made, S.made, Tag.made, St.ret, St.kills, List.map_nil, List.foldl_nil, List.foldl_cons, Bool.false_eq_true, false_imp_iff, true_imp_iff, forall_const, Bool.true_eq_false, minI, maxI, effOp, appendOp, fillT, chunks, T.cells, S.plain, S.lay, St.kill, T.cut, cutn_un, cutn_bool, cutn_int, cutn_str, cutn_nilp, cutn_sl, cutn_el, cutn_fn, cutn_fref, cutn_ptr, cutr_un, cutr_bool, cutr_int, cutr_str, cutr_nilp, cutr_sl, cutr_el, cutr_fn, cutr_fref, cutr_ptr, Tag.names, mcut, mdrop, mget, mset, List.map_cons, St.box, St.store, St.wipe, setAt, bound, lenS, loadT, List.headD_cons, List.take_succ_cons, List.take_zero, List.take_nil, List.drop_nil, List.drop_zero, List.drop_succ_cons, Tag.sub, List.all_cons, List.all_nil, Nat.reduceLeDiff, Nat.reduceMul, Nat.reduceBEq, Nat.reduceEqDiff, Nat.reduceLT, T.madeAll, T.backAll, nm, List.contains_cons, List.contains_nil, backTag, Int.toNat_natCast, Option.map_some, beq_self_eq_true, Bool.or_true, Bool.true_or, Bool.or_false, Bool.false_or, or_true, or_false, false_or, reduceCtorEq, and_self, and_false, false_and, not_true_eq_false, not_false_eq_true, Bool.not_true, Bool.not_false, vv_of, vc_val, unvc_vc, tz26v, vc_drop, List.append_nil, unrows_rows, rowsV_len, vc_box, vc_nameL, td3, td4, td5, td22, td24, td26, td27, td33, td39, td42, td49, td52, td57, td59, tz3, tz24, tz33, tz42, tz49, tzz3, tzz4, tzz22, tzz24, tzz26, tzz27, tzz33, tzz42, tzz49, fl24, vc_len, vc_all, vc_0, vc_1, vc_2, vc_3, vc_4, vc_5, vc_6, vc_7, bp_len, bv_len, bp_all, bv_all, vc_cutn, vc_cutr, vc_lay, vc_lend, vc_back, vc_plain, bts_plain, bts_cutn, bts_cutr, bts_lend, eq_pp, eq_vv, eq_v0, places, aggD, Nat.zero_add, Nat.add_zero, htk, hat, hak, kM_18, specVV, kM_14, spec2]
          have hj2 : (0 : Int) ≤ (j : Int) ∧ (j : Int) < (a'.length : Int) := by omega
          have hk2 : (0 : Int) ≤ (k : Int) ∧ (k : Int) < (b'.length : Int) := by omega
          refine ⟨by rfl, hj2, fun _ => hj2, fun _ => hj2, fun _ => hk2, fun _ => hj2, fun _ => hj2, fun _ => hj2, ?_⟩
          refine PW1.sw (G := kM) mixed _ _ _ ?_
          simp (maxSteps := 3000000) only [I, V, L, ↓ff_imp, ↓tf_imp, PW, PW1, regK, drawK, stepK, quietK, callK, idleK, fnK, argsV, T.val?, S.val?, boundT, lendBox_fn, lendBox_int, lendBox_bool, lendBox_nilp, List.flatMap_cons, List.flatMap_nil, S.reach, S.nameL, Tag.nameL, callOf, argsT, guardOf, pureOp, St.rd, St.eval, rdg, List.getD, List.getElem?_cons_zero, List.getElem?_cons_succ, List.cons_append, List.nil_append, List.replicate, List.length, List.getElem?_nil, Option.getD, T.ofValue, S.ofValue, St.put, List.set, binT, binI, thenQ, blockQ, scopeQ, Nat.reduceSub, Nat.reduceAdd, true_and, and_true, if_true, if_false, true_or, Option.bind, List.getElem?_toArray, eqOp, PS.Ends, resOf, packT, St.out, T.sub, S.sub, tagSub, LeT_bool, LeT_int, beq_true, beq_false, imp_self, implies_true, Bool.and_true, Bool.true_and, Bool.and_false, Bool.false_and, T.lend, S.lend, Tag.lend, T.back, S.back, T.made, S.made, Tag.made, St.ret, St.kills, List.map_nil, List.foldl_nil, List.foldl_cons, Bool.false_eq_true, false_imp_iff, true_imp_iff, forall_const, Bool.true_eq_false, minI, maxI, effOp, appendOp, fillT, chunks, T.cells, S.plain, S.lay, St.kill, T.cut, cutn_un, cutn_bool, cutn_int, cutn_str, cutn_nilp, cutn_sl, cutn_el, cutn_fn, cutn_fref, cutn_ptr, cutr_un, cutr_bool, cutr_int, cutr_str, cutr_nilp, cutr_sl, cutr_el, cutr_fn, cutr_fref, cutr_ptr, Tag.names, mcut, mdrop, mget, mset, List.map_cons, St.box, St.store, St.wipe, setAt, bound, lenS, loadT, List.headD_cons, List.take_succ_cons, List.take_zero, List.take_nil, List.drop_nil, List.drop_zero, List.drop_succ_cons, Tag.sub, List.all_cons, List.all_nil, Nat.reduceLeDiff, Nat.reduceMul, Nat.reduceBEq, Nat.reduceEqDiff, Nat.reduceLT, T.madeAll, T.backAll, nm, List.contains_cons, List.contains_nil, backTag, Int.toNat_natCast, Option.map_some, beq_self_eq_true, Bool.or_true, Bool.true_or, Bool.or_false, Bool.false_or, or_true, or_false, false_or, reduceCtorEq, and_self, and_false, false_and, not_true_eq_false, not_false_eq_true, Bool.not_true, Bool.not_false, vv_of, vc_val, unvc_vc, tz26v, vc_drop, List.append_nil, unrows_rows, rowsV_len, vc_box, vc_nameL, td3, td4, td5, td22, td24, td26, td27, td33, td39, td42, td49, td52, td57, td59, tz3, tz24, tz33, tz42, tz49, tzz3, tzz4, tzz22, tzz24, tzz26, tzz27, tzz33, tzz42, tzz49, fl24, vc_len, vc_all, vc_0, vc_1, vc_2, vc_3, vc_4, vc_5, vc_6, vc_7, bp_len, bv_len, bp_all, bv_all, vc_cutn, vc_cutr, vc_lay, vc_lend, vc_back, vc_plain, bts_plain, bts_cutn, bts_cutr, bts_lend, eq_pp, eq_vv, eq_v0, places, aggD, Nat.zero_add, Nat.add_zero, hat, td39]
          refine ⟨fun hc => ?_, fun hc => ?_⟩
          · have hb : metF m y r a'[j] b'[k] = true := hc
            have hs := met_has hb
            rw [if_pos hb] at hstep
            refine ⟨hj2, shl_ok hs, ?_⟩
            refine PW1.sw (G := kM) mixed _ _ _ ?_
            simp (maxSteps := 3000000) only [I, V, L, ↓ff_imp, ↓tf_imp, PW, PW1, regK, drawK, stepK, quietK, callK, idleK, fnK, argsV, T.val?, S.val?, boundT, lendBox_fn, lendBox_int, lendBox_bool, lendBox_nilp, List.flatMap_cons, List.flatMap_nil, S.reach, S.nameL, Tag.nameL, callOf, argsT, guardOf, pureOp, St.rd, St.eval, rdg, List.getD, List.getElem?_cons_zero, List.getElem?_cons_succ, List.cons_append, List.nil_append, List.replicate, List.length, List.getElem?_nil, Option.getD, T.ofValue, S.ofValue, St.put, List.set, binT, binI, thenQ, blockQ, scopeQ, Nat.reduceSub, Nat.reduceAdd, true_and, and_true, if_true, if_false, true_or, Option.bind, List.getElem?_toArray, eqOp, PS.Ends, resOf, packT, St.out, T.sub, S.sub, tagSub, LeT_bool, LeT_int, beq_true, beq_false, imp_self, implies_true, Bool.and_true, Bool.true_and, Bool.and_false, Bool.false_and, T.lend, S.lend, Tag.lend, T.back, S.back, T.made, S.made, Tag.made, St.ret, St.kills, List.map_nil, List.foldl_nil, List.foldl_cons, Bool.false_eq_true, false_imp_iff, true_imp_iff, forall_const, Bool.true_eq_false, minI, maxI, effOp, appendOp, fillT, chunks, T.cells, S.plain, S.lay, St.kill, T.cut, cutn_un, cutn_bool, cutn_int, cutn_str, cutn_nilp, cutn_sl, cutn_el, cutn_fn, cutn_fref, cutn_ptr, cutr_un, cutr_bool, cutr_int, cutr_str, cutr_nilp, cutr_sl, cutr_el, cutr_fn, cutr_fref, cutr_ptr, Tag.names, mcut, mdrop, mget, mset, List.map_cons, St.box, St.store, St.wipe, setAt, bound, lenS, loadT, List.headD_cons, List.take_succ_cons, List.take_zero, List.take_nil, List.drop_nil, List.drop_zero, List.drop_succ_cons, Tag.sub, List.all_cons, List.all_nil, Nat.reduceLeDiff, Nat.reduceMul, Nat.reduceBEq, Nat.reduceEqDiff, Nat.reduceLT, T.madeAll, T.backAll, nm, List.contains_cons, List.contains_nil, backTag, Int.toNat_natCast, Option.map_some, beq_self_eq_true, Bool.or_true, Bool.true_or, Bool.or_false, Bool.false_or, or_true, or_false, false_or, reduceCtorEq, and_self, and_false, false_and, not_true_eq_false, not_false_eq_true, Bool.not_true, Bool.not_false, vv_of, vc_val, unvc_vc, tz26v, vc_drop, List.append_nil, unrows_rows, rowsV_len, vc_box, vc_nameL, td3, td4, td5, td22, td24, td26, td27, td33, td39, td42, td49, td52, td57, td59, tz3, tz24, tz33, tz42, tz49, tzz3, tzz4, tzz22, tzz24, tzz26, tzz27, tzz33, tzz42, tzz49, fl24, vc_len, vc_all, vc_0, vc_1, vc_2, vc_3, vc_4, vc_5, vc_6, vc_7, bp_len, bv_len, bp_all, bv_all, vc_cutn, vc_cutr, vc_lay, vc_lend, vc_back, vc_plain, bts_plain, bts_cutn, bts_cutr, bts_lend, eq_pp, eq_vv, eq_v0, places, aggD, Nat.zero_add, Nat.add_zero, hwk]
            refine ⟨k + 1, Le.mks ?_ (.same rfl (.same rfl (LeMs.nil _))), by omega, by omega⟩
            simp only [LeTs, LeT.un, LeT.refl, true_and, and_true, and_self, hstep, ← shl_bit hs]
            exact LeT.refl _
          · have hb : metF m y r a'[j] b'[k] = false := hc
            rw [if_neg (by rw [hb]; simp)] at hstep
            refine PW1.sw (G := kM) mixed _ _ _ ?_
            simp (maxSteps := 3000000) only [I, V, L, ↓ff_imp, ↓tf_imp, PW, PW1, regK, drawK, stepK, quietK, callK, idleK, fnK, argsV, T.val?, S.val?, boundT, lendBox_fn, lendBox_int, lendBox_bool, lendBox_nilp, List.flatMap_cons, List.flatMap_nil, S.reach, S.nameL, Tag.nameL, callOf, argsT, guardOf, pureOp, St.rd, St.eval, rdg, List.getD, List.getElem?_cons_zero, List.getElem?_cons_succ, List.cons_append, List.nil_append, List.replicate, List.length, List.getElem?_nil, Option.getD, T.ofValue, S.ofValue, St.put, List.set, binT, binI, thenQ, blockQ, scopeQ, Nat.reduceSub, Nat.reduceAdd, true_and, and_true, if_true, if_false, true_or, Option.bind, List.getElem?_toArray, eqOp, PS.Ends, resOf, packT, St.out, T.sub, S.sub, tagSub, LeT_bool, LeT_int, beq_true, beq_false, imp_self, implies_true, Bool.and_true, Bool.true_and, Bool.and_false, Bool.false_and, T.lend, S.lend, Tag.lend, T.back, S.back, T.made, S.made, Tag.made, St.ret, St.kills, List.map_nil, List.foldl_nil, List.foldl_cons, Bool.false_eq_true, false_imp_iff, true_imp_iff, forall_const, Bool.true_eq_false, minI, maxI, effOp, appendOp, fillT, chunks, T.cells, S.plain, S.lay, St.kill, T.cut, cutn_un, cutn_bool, cutn_int, cutn_str, cutn_nilp, cutn_sl, cutn_el, cutn_fn, cutn_fref, cutn_ptr, cutr_un, cutr_bool, cutr_int, cutr_str, cutr_nilp, cutr_sl, cutr_el, cutr_fn, cutr_fref, cutr_ptr, Tag.names, mcut, mdrop, mget, mset, List.map_cons, St.box, St.store, St.wipe, setAt, bound, lenS, loadT, List.headD_cons, List.take_succ_cons, List.take_zero, List.take_nil, List.drop_nil, List.drop_zero, List.drop_succ_cons, Tag.sub, List.all_cons, List.all_nil, Nat.reduceLeDiff, Nat.reduceMul, Nat.reduceBEq, Nat.reduceEqDiff, Nat.reduceLT, T.madeAll, T.backAll, nm, List.contains_cons, List.contains_nil, backTag, Int.toNat_natCast, Option.map_some, beq_self_eq_true, Bool.or_true, Bool.true_or, Bool.or_false, Bool.false_or, or_true, or_false, false_or, reduceCtorEq, and_self, and_false, false_and, not_true_eq_false, not_false_eq_true, Bool.not_true, Bool.not_false, vv_of, vc_val, unvc_vc, tz26v, vc_drop, List.append_nil, unrows_rows, rowsV_len, vc_box, vc_nameL, td3, td4, td5, td22, td24, td26, td27, td33, td39, td42, td49, td52, td57, td59, tz3, tz24, tz33, tz42, tz49, tzz3, tzz4, tzz22, tzz24, tzz26, tzz27, tzz33, tzz42, tzz49, fl24, vc_len, vc_all, vc_0, vc_1, vc_2, vc_3, vc_4, vc_5, vc_6, vc_7, bp_len, bv_len, bp_all, bv_all, vc_cutn, vc_cutr, vc_lay, vc_lend, vc_back, vc_plain, bts_plain, bts_cutn, bts_cutr, bts_lend, eq_pp, eq_vv, eq_v0, places, aggD, Nat.zero_add, Nat.add_zero, hwk]
            refine ⟨k + 1, Le.mks ?_ (.same rfl (.same rfl (LeMs.nil _))), by omega, by omega⟩
            simp only [LeTs, LeT.un, LeT.refl, true_and, and_true, and_self, hstep]
        · have htk : decide ((k : Int) < (b'.length : Int)) = false := by simp; omega
          have hstep := allMets_step (m := m) (y := y) (r := r) (b := b') hjl
          rw [show b'.take k = b' from List.take_of_length_le (by omega), ← hstep]
          refine PW1.sw (G := kM) mixed _ _ _ ?_
          iterate 2
            simp (maxSteps := 3000000) only [I, V, L, ↓ff_imp, ↓tf_imp, PW, PW1, regK, drawK, stepK, quietK, callK, idleK, fnK, argsV, T.val?, S.val?, boundT, lendBox_fn, lendBox_int, lendBox_bool, lendBox_nilp, List.flatMap_cons, List.flatMap_nil, S.reach, S.nameL, Tag.nameL, callOf, argsT, guardOf, pureOp, St.rd, St.eval, rdg, List.getD, List.getElem?_cons_zero, List.getElem?_cons_succ, List.cons_append, List.nil_append, List.replicate, List.length, List.getElem?_nil, Option.getD, T.ofValue, S.ofValue, St.put, List.set, binT, binI, thenQ, blockQ, scopeQ, Nat.reduceSub, Nat.reduceAdd, true_and, and_true, if_true, if_false, true_or, Option.bind, List.getElem?_toArray, eqOp, PS.Ends, resOf, packT, St.out, T.sub, S.sub, tagSub, LeT_bool, LeT_int, beq_true, beq_false, imp_self, implies_true, Bool.and_true, Bool.true_and, Bool.and_false, Bool.false_and, T.lend, S.lend, Tag.lend, T.back, S.back, T.made, S.made, Tag.made, St.ret, St.kills, List.map_nil, List.foldl_nil, List.foldl_cons, Bool.false_eq_true, false_imp_iff, true_imp_iff, forall_const, Bool.true_eq_false, minI, maxI, effOp, appendOp, fillT, chunks, T.cells, S.plain, S.lay, St.kill, T.cut, cutn_un, cutn_bool, cutn_int, cutn_str, cutn_nilp, cutn_sl, cutn_el, cutn_fn, cutn_fref, cutn_ptr, cutr_un, cutr_bool, cutr_int, cutr_str, cutr_nilp, cutr_sl, cutr_el, cutr_fn, cutr_fref, cutr_ptr, Tag.names, mcut, mdrop, mget, mset, List.map_cons, St.box, St.store, St.wipe, setAt, bound, lenS, loadT, List.headD_cons, List.take_succ_cons, List.take_zero, List.take_nil, List.drop_nil, List.drop_zero, List.drop_succ_cons, Tag.sub, List.all_cons, List.all_nil, Nat.reduceLeDiff, Nat.reduceMul, Nat.reduceBEq, Nat.reduceEqDiff, Nat.reduceLT, T.madeAll, T.backAll, nm, List.contains_cons, List.contains_nil, backTag, Int.toNat_natCast, Option.map_some, beq_self_eq_true, Bool.or_true, Bool.true_or, Bool.or_false, Bool.false_or, or_true, or_false, false_or, reduceCtorEq, and_self, and_false, false_and, not_true_eq_false, not_false_eq_true, Bool.not_true, Bool.not_false, vv_of, vc_val, unvc_vc, tz26v, vc_drop, List.append_nil, unrows_rows, rowsV_len, vc_box, vc_nameL, td3, td4, td5, td22, td24, td26, td27, td33, td39, td42, td49, td52, td57, td59, tz3, tz24, tz33, tz42, tz49, tzz3, tzz4, tzz22, tzz24, tzz26, tzz27, tzz33, tzz42, tzz49, fl24, vc_len, vc_all, vc_0, vc_1, vc_2, vc_3, vc_4, vc_5, vc_6, vc_7, bp_len, bv_len, bp_all, bv_all, vc_cutn, vc_cutr, vc_lay, vc_lend, vc_back, vc_plain, bts_plain, bts_cutn, bts_cutr, bts_lend, eq_pp, eq_vv, eq_v0, places, aggD, Nat.zero_add, Nat.add_zero, htk, hw]
            refine PW1.sw (G := kM) mixed _ _ _ ?_
          simp (maxSteps := 3000000) only [I, V, L, ↓ff_imp, ↓tf_imp, PW, PW1, regK, drawK, stepK, quietK, callK, idleK, fnK, argsV, T.val?, S.val?, boundT, lendBox_fn, lendBox_int, lendBox_bool, lendBox_nilp, List.flatMap_cons, List.flatMap_nil, S.reach, S.nameL, Tag.nameL, callOf, argsT, guardOf, pureOp, St.rd, St.eval, rdg, List.getD, List.getElem?_cons_zero, List.getElem?_cons_succ, List.cons_append, List.nil_append, List.replicate, List.length, List.getElem?_nil, Option.getD, T.ofValue, S.ofValue, St.put, List.set, binT, binI, thenQ, blockQ, scopeQ, Nat.reduceSub, Nat.reduceAdd, true_and, and_true, if_true, if_false, true_or, Option.bind, List.getElem?_toArray, eqOp, PS.Ends, resOf, packT, St.out, T.sub, S.sub, tagSub, LeT_bool, LeT_int, beq_true, beq_false, imp_self, implies_true, Bool.and_true, Bool.true_and, Bool.and_false, Bool.false_and, T.lend, S.lend, Tag.lend, T.back, S.back, T.made, S.made, Tag.made, St.ret, St.kills, List.map_nil, List.foldl_nil, List.foldl_cons, Bool.false_eq_true, false_imp_iff, true_imp_iff, forall_const, Bool.true_eq_false, minI, maxI, effOp, appendOp, fillT, chunks, T.cells, S.plain, S.lay, St.kill, T.cut, cutn_un, cutn_bool, cutn_int, cutn_str, cutn_nilp, cutn_sl, cutn_el, cutn_fn, cutn_fref, cutn_ptr, cutr_un, cutr_bool, cutr_int, cutr_str, cutr_nilp, cutr_sl, cutr_el, cutr_fn, cutr_fref, cutr_ptr, Tag.names, mcut, mdrop, mget, mset, List.map_cons, St.box, St.store, St.wipe, setAt, bound, lenS, loadT, List.headD_cons, List.take_succ_cons, List.take_zero, List.take_nil, List.drop_nil, List.drop_zero, List.drop_succ_cons, Tag.sub, List.all_cons, List.all_nil, Nat.reduceLeDiff, Nat.reduceMul, Nat.reduceBEq, Nat.reduceEqDiff, Nat.reduceLT, T.madeAll, T.backAll, nm, List.contains_cons, List.contains_nil, backTag, Int.toNat_natCast, Option.map_some, beq_self_eq_true, Bool.or_true, Bool.true_or, Bool.or_false, Bool.false_or, or_true, or_false, false_or, reduceCtorEq, and_self, and_false, false_and, not_true_eq_false, not_false_eq_true, Bool.not_true, Bool.not_false, vv_of, vc_val, unvc_vc, tz26v, vc_drop, List.append_nil, unrows_rows, rowsV_len, vc_box, vc_nameL, td3, td4, td5, td22, td24, td26, td27, td33, td39, td42, td49, td52, td57, td59, tz3, tz24, tz33, tz42, tz49, tzz3, tzz4, tzz22, tzz24, tzz26, tzz27, tzz33, tzz42, tzz49, fl24, vc_len, vc_all, vc_0, vc_1, vc_2, vc_3, vc_4, vc_5, vc_6, vc_7, bp_len, bv_len, bp_all, bv_all, vc_cutn, vc_cutr, vc_lay, vc_lend, vc_back, vc_plain, bts_plain, bts_cutn, bts_cutr, bts_lend, eq_pp, eq_vv, eq_v0, places, aggD, Nat.zero_add, Nat.add_zero, htk, hw]
          refine ⟨j + 1, Le.mks ?_ (.same rfl (.same rfl (LeMs.nil _))), by omega, by omega⟩
          simp only [LeTs, LeT.un, LeT.refl, true_and, and_true, and_self]
    · have ht : decide ((j : Int) < (a'.length : Int)) = false := by simp; omega
      rw [List.take_of_length_le (by omega)]
      iterate 2
        simp (maxSteps := 3000000) only [I, V, L, ↓ff_imp, ↓tf_imp, PW, PW1, regK, drawK, stepK, quietK, callK, idleK, fnK, argsV, T.val?, S.val?, boundT, lendBox_fn, lendBox_int, lendBox_bool, lendBox_nilp, List.flatMap_cons, List.flatMap_nil, S.reach, S.nameL, Tag.nameL, callOf, argsT, guardOf, pureOp, St.rd, St.eval, rdg, List.getD, List.getElem?_cons_zero, List.getElem?_cons_succ, List.cons_append, List.nil_append, List.replicate, List.length, List.getElem?_nil, Option.getD, T.ofValue, S.ofValue, St.put, List.set, binT, binI, thenQ, blockQ, scopeQ, Nat.reduceSub, Nat.reduceAdd, true_and, and_true, if_true, if_false, true_or, Option.bind, List.getElem?_toArray, eqOp, PS.Ends, resOf, packT, St.out, T.sub, S.sub, tagSub, LeT_bool, LeT_int, beq_true, beq_false, imp_self, implies_true, Bool.and_true, Bool.true_and, Bool.and_false, Bool.false_and, T.lend, S.lend, Tag.lend, T.back, S.back, T.made, S.made, Tag.made, St.ret, St.kills, List.map_nil, List.foldl_nil, List.foldl_cons, Bool.false_eq_true, false_imp_iff, true_imp_iff, forall_const, Bool.true_eq_false, minI, maxI, effOp, appendOp, fillT, chunks, T.cells, S.plain, S.lay, St.kill, T.cut, cutn_un, cutn_bool, cutn_int, cutn_str, cutn_nilp, cutn_sl, cutn_el, cutn_fn, cutn_fref, cutn_ptr, cutr_un, cutr_bool, cutr_int, cutr_str, cutr_nilp, cutr_sl, cutr_el, cutr_fn, cutr_fref, cutr_ptr, Tag.names, mcut, mdrop, mget, mset, List.map_cons, St.box, St.store, St.wipe, setAt, bound, lenS, loadT, List.headD_cons, List.take_succ_cons, List.take_zero, List.take_nil, List.drop_nil, List.drop_zero, List.drop_succ_cons, Tag.sub, List.all_cons, List.all_nil, Nat.reduceLeDiff, Nat.reduceMul, Nat.reduceBEq, Nat.reduceEqDiff, Nat.reduceLT, T.madeAll, T.backAll, nm, List.contains_cons, List.contains_nil, backTag, Int.toNat_natCast, Option.map_some, beq_self_eq_true, Bool.or_true, Bool.true_or, Bool.or_false, Bool.false_or, or_true, or_false, false_or, reduceCtorEq, and_self, and_false, false_and, not_true_eq_false, not_false_eq_true, Bool.not_true, Bool.not_false, vv_of, vc_val, unvc_vc, tz26v, vc_drop, List.append_nil, unrows_rows, rowsV_len, vc_box, vc_nameL, td3, td4, td5, td22, td24, td26, td27, td33, td39, td42, td49, td52, td57, td59, tz3, tz24, tz33, tz42, tz49, tzz3, tzz4, tzz22, tzz24, tzz26, tzz27, tzz33, tzz42, tzz49, fl24, vc_len, vc_all, vc_0, vc_1, vc_2, vc_3, vc_4, vc_5, vc_6, vc_7, bp_len, bv_len, bp_all, bv_all, vc_cutn, vc_cutr, vc_lay, vc_lend, vc_back, vc_plain, bts_plain, bts_cutn, bts_cutr, bts_lend, eq_pp, eq_vv, eq_v0, places, aggD, Nat.zero_add, Nat.add_zero, ht, kM_16, kM_19, kM_12, spec1, spec12, Try.results8]
        refine PW1.sw (G := kM) mixed _ _ _ ?_
      simp (maxSteps := 3000000) only [I, V, L, ↓ff_imp, ↓tf_imp, PW, PW1, regK, drawK, stepK, quietK, callK, idleK, fnK, argsV, T.val?, S.val?, boundT, lendBox_fn, lendBox_int, lendBox_bool, lendBox_nilp, List.flatMap_cons, List.flatMap_nil, S.reach, S.nameL, Tag.nameL, callOf, argsT, guardOf, pureOp, St.rd, St.eval, rdg, List.getD, List.getElem?_cons_zero, List.getElem?_cons_succ, List.cons_append, List.nil_append, List.replicate, List.length, List.getElem?_nil, Option.getD, T.ofValue, S.ofValue, St.put, List.set, binT, binI, thenQ, blockQ, scopeQ, Nat.reduceSub, Nat.reduceAdd, true_and, and_true, if_true, if_false, true_or, Option.bind, List.getElem?_toArray, eqOp, PS.Ends, resOf, packT, St.out, T.sub, S.sub, tagSub, LeT_bool, LeT_int, beq_true, beq_false, imp_self, implies_true, Bool.and_true, Bool.true_and, Bool.and_false, Bool.false_and, T.lend, S.lend, Tag.lend, T.back, S.back, T.made, S.made, Tag.made, St.ret, St.kills, List.map_nil, List.foldl_nil, List.foldl_cons, Bool.false_eq_true, false_imp_iff, true_imp_iff, forall_const, Bool.true_eq_false, minI, maxI, effOp, appendOp, fillT, chunks, T.cells, S.plain, S.lay, St.kill, T.cut, cutn_un, cutn_bool, cutn_int, cutn_str, cutn_nilp, cutn_sl, cutn_el, cutn_fn, cutn_fref, cutn_ptr, cutr_un, cutr_bool, cutr_int, cutr_str, cutr_nilp, cutr_sl, cutr_el, cutr_fn, cutr_fref, cutr_ptr, Tag.names, mcut, mdrop, mget, mset, List.map_cons, St.box, St.store, St.wipe, setAt, bound, lenS, loadT, List.headD_cons, List.take_succ_cons, List.take_zero, List.take_nil, List.drop_nil, List.drop_zero, List.drop_succ_cons, Tag.sub, List.all_cons, List.all_nil, Nat.reduceLeDiff, Nat.reduceMul, Nat.reduceBEq, Nat.reduceEqDiff, Nat.reduceLT, T.madeAll, T.backAll, nm, List.contains_cons, List.contains_nil, backTag, Int.toNat_natCast, Option.map_some, beq_self_eq_true, Bool.or_true, Bool.true_or, Bool.or_false, Bool.false_or, or_true, or_false, false_or, reduceCtorEq, and_self, and_false, false_and, not_true_eq_false, not_false_eq_true, Bool.not_true, Bool.not_false, vv_of, vc_val, unvc_vc, tz26v, vc_drop, List.append_nil, unrows_rows, rowsV_len, vc_box, vc_nameL, td3, td4, td5, td22, td24, td26, td27, td33, td39, td42, td49, td52, td57, td59, tz3, tz24, tz33, tz42, tz49, tzz3, tzz4, tzz22, tzz24, tzz26, tzz27, tzz33, tzz42, tzz49, fl24, vc_len, vc_all, vc_0, vc_1, vc_2, vc_3, vc_4, vc_5, vc_6, vc_7, bp_len, bv_len, bp_all, bv_all, vc_cutn, vc_cutr, vc_lay, vc_lend, vc_back, vc_plain, bts_plain, bts_cutn, bts_cutr, bts_lend, eq_pp, eq_vv, eq_v0, places, aggD, Nat.zero_add, Nat.add_zero, ht, kM_16, kM_19, kM_12, spec1, spec12, Try.results8]
      refine ⟨fun _ => hq, ?_⟩
      refine PW1.sw (G := kM) mixed _ _ _ ?_
      simp (maxSteps := 3000000) only [I, V, L, ↓ff_imp, ↓tf_imp, PW, PW1, regK, drawK, stepK, quietK, callK, idleK, fnK, argsV, T.val?, S.val?, boundT, lendBox_fn, lendBox_int, lendBox_bool, lendBox_nilp, List.flatMap_cons, List.flatMap_nil, S.reach, S.nameL, Tag.nameL, callOf, argsT, guardOf, pureOp, St.rd, St.eval, rdg, List.getD, List.getElem?_cons_zero, List.getElem?_cons_succ, List.cons_append, List.nil_append, List.replicate, List.length, List.getElem?_nil, Option.getD, T.ofValue, S.ofValue, St.put, List.set, binT, binI, thenQ, blockQ, scopeQ, Nat.reduceSub, Nat.reduceAdd, true_and, and_true, if_true, if_false, true_or, Option.bind, List.getElem?_toArray, eqOp, PS.Ends, resOf, packT, St.out, T.sub, S.sub, tagSub, LeT_bool, LeT_int, beq_true, beq_false, imp_self, implies_true, Bool.and_true, Bool.true_and, Bool.and_false, Bool.false_and, T.lend, S.lend, Tag.lend, T.back, S.back, T.made, S.made, Tag.made, St.ret, St.kills, List.map_nil, List.foldl_nil, List.foldl_cons, Bool.false_eq_true, false_imp_iff, true_imp_iff, forall_const, Bool.true_eq_false, minI, maxI, effOp, appendOp, fillT, chunks, T.cells, S.plain, S.lay, St.kill, T.cut, cutn_un, cutn_bool, cutn_int, cutn_str, cutn_nilp, cutn_sl, cutn_el, cutn_fn, cutn_fref, cutn_ptr, cutr_un, cutr_bool, cutr_int, cutr_str, cutr_nilp, cutr_sl, cutr_el, cutr_fn, cutr_fref, cutr_ptr, Tag.names, mcut, mdrop, mget, mset, List.map_cons, St.box, St.store, St.wipe, setAt, bound, lenS, loadT, List.headD_cons, List.take_succ_cons, List.take_zero, List.take_nil, List.drop_nil, List.drop_zero, List.drop_succ_cons, Tag.sub, List.all_cons, List.all_nil, Nat.reduceLeDiff, Nat.reduceMul, Nat.reduceBEq, Nat.reduceEqDiff, Nat.reduceLT, T.madeAll, T.backAll, nm, List.contains_cons, List.contains_nil, backTag, Int.toNat_natCast, Option.map_some, beq_self_eq_true, Bool.or_true, Bool.true_or, Bool.or_false, Bool.false_or, or_true, or_false, false_or, reduceCtorEq, and_self, and_false, false_and, not_true_eq_false, not_false_eq_true, Bool.not_true, Bool.not_false, vv_of, vc_val, unvc_vc, tz26v, vc_drop, List.append_nil, unrows_rows, rowsV_len, vc_box, vc_nameL, td3, td4, td5, td22, td24, td26, td27, td33, td39, td42, td49, td52, td57, td59, tz3, tz24, tz33, tz42, tz49, tzz3, tzz4, tzz22, tzz24, tzz26, tzz27, tzz33, tzz42, tzz49, fl24, vc_len, vc_all, vc_0, vc_1, vc_2, vc_3, vc_4, vc_5, vc_6, vc_7, bp_len, bv_len, bp_all, bv_all, vc_cutn, vc_cutr, vc_lay, vc_lend, vc_back, vc_plain, bts_plain, bts_cutn, bts_cutr, bts_lend, eq_pp, eq_vv, eq_v0, places, aggD, Nat.zero_add, Nat.add_zero, Try.results8]
      obtain ⟨e1, e2⟩ := hend
      have hs := sizeI_range m
      have hqr : 0 ≤ quorI (sizeI m) ∧ quorI (sizeI m) ≤ 10 := by
        unfold quorI
        split <;> omega
      have hw1 : IntKind.i64.wrap (2 * quorI (sizeI m)) = 2 * quorI (sizeI m) := by rw [wrap_id]; unfold i64ok; omega
      have hw2 : IntKind.i64.wrap (2 * quorI (sizeI m) - sizeI m) = 2 * quorI (sizeI m) - sizeI m := by rw [wrap_id]; unfold i64ok; omega
      rw [hw1, hw2, decide_eq_true (show sizeI (orBits (allMets m y r a' b')) ≥ 2 * quorI (sizeI m) - sizeI m by omega), decide_eq_true (show sizeI (orBits (allMets m y r a' b')) ≥ thirdI (sizeI m) by omega)]
      rfl
/-! ### The mathematics of Locks -/
theorem size_cap {p q s m : Int} (hp : ∀ i ∈ upto p 10, i ∈ upto m 10) (hq : ∀ i ∈ upto q 10, i ∈ upto m 10) (h : ∀ i ∈ upto p 10, i ∈ upto q 10 → i ∈ upto s 10) :
    sizeI p + sizeI q - sizeI m ≤ sizeI s := by
  have key : ∀ (l : List (Fin 10)) (P Q M T : Fin 10 → Bool), (∀ i, P i = true → M i = true) → (∀ i, Q i = true → M i = true) → (∀ i, P i = true → Q i = true → T i = true) →
      (l.filter P).length + (l.filter Q).length ≤ (l.filter T).length + (l.filter M).length := by
    intro l P Q M T h1 h2 h3
    induction l with
    | nil => simp
    | cons x r ih =>
      have g1 := h1 x; have g2 := h2 x; have g3 := h3 x
      cases hP : P x <;> cases hQ : Q x <;> cases hM : M x <;> cases hT : T x <;> simp_all [List.filter_cons] <;> omega
  have := key (List.finRange 10) (fun i => hasI p i.val) (fun i => hasI q i.val) (fun i => hasI m i.val) (fun i => hasI s i.val)
    (fun i hi => mem_upto.1 (hp i (mem_upto.2 hi))) (fun i hi => mem_upto.1 (hq i (mem_upto.2 hi))) (fun i h1 h2 => mem_upto.1 (h i (mem_upto.2 h1) (mem_upto.2 h2)))
  rw [← upto_all, ← upto_all, ← upto_all, ← upto_all] at this
  unfold sizeI
  omega
theorem exact_sub {m s : Int} (h : exactB m s = true) : ∀ i ∈ upto s 10, i ∈ upto m 10 := by
  unfold exactB at h
  simp only [if_t] at h
  simp only [Bool.and_eq_true, List.all_eq_true] at h
  intro i hi
  rw [mem_upto]
  exact h.1 i hi
theorem locks_end (m : Int) (x y : Vt) (a b : List Vt) (r : Int) (hr : r = IntKind.i64.wrap (y.round - 1)) (hq : quietL m x y r a b = false) :
    quorI (sizeI m) * 2 - sizeI m ≤ sizeI (orBits (allMets m y r a b)) ∧ thirdI (sizeI m) ≤ sizeI (orBits (allMets m y r a b)) := by
  unfold quietL at hq
  simp only [if_o, if_t] at hq
  simp only [Bool.or_eq_false_iff, bne_eq_false_iff_eq, decide_eq_false_iff_not, Bool.not_eq_false', beq_eq_false_iff_ne] at hq
  obtain ⟨⟨⟨⟨⟨hk, hr2⟩, hc2⟩, hne⟩, hal⟩, hbk⟩ := hq
  obtain ⟨hval, hk4, hsg, hsl⟩ := valid_of_may (allow_may hal)
  have hrr := round_of hal hk
  have hre : r = y.round - 1 := by rw [hr, wrap_id]; unfold i64ok; omega
  have hsupp : (∀ i ∈ upto y.support 10, ∃ u ∈ b, u.signer = (i.val : Int) ∧ u.kind = 4 ∧ u.round = r ∧ (sameB y u = true ∨ u.choice = 2) ∧ countsB m y u = true) ∧ exactB m y.support = true := by
    rcases prev_later hal hk (by omega) with h | h
    · obtain ⟨h1, _, h3⟩ := adopts_iff.1 h
      refine ⟨fun i hi => ?_, h3⟩
      rcases h1 i hi with h | h
      · obtain ⟨u, hu, e1, e2, e3, e4, e5⟩ := said_iff.1 h
        exact ⟨u, hu, e1, e2, by omega, .inl e4, e5⟩
      · obtain ⟨u, hu, e1, e2, e3, e4, e5⟩ := mixed_iff.1 h
        exact ⟨u, hu, e1, e2, by omega, .inr e4, e5⟩
    · obtain ⟨h1, _, h3⟩ := carries_iff.1 h
      refine ⟨fun i hi => ?_, h3⟩
      obtain ⟨u, hu, e1, e2, e3, e4, e5⟩ := mixed_iff.1 (h1 i hi)
      exact ⟨u, hu, e1, e2, by omega, .inr e4, e5⟩
  obtain ⟨hsup, hex⟩ := hsupp
  have hlsl : hasI m (laid x y r).slot = true := hsl
  have hbase : sizeI (orBits (a.filter (backF m (laid x y r) 4 r))) + sizeI y.support - sizeI m ≤ sizeI (orBits (allMets m y r a b)) := by
    refine size_cap (fun i hi => ?_) (exact_sub hex) (fun i hi hi2 => ?_)
    · rw [mem_upto, has_orBits _ _ (fun w hw => backF_has (List.mem_filter.1 hw).2)] at hi
      obtain ⟨w, hw, h1⟩ := hi
      have h2 := (List.mem_filter.1 hw).2
      unfold backF at h2
      simp only [if_t] at h2
      simp only [Bool.and_eq_true] at h2
      rw [mem_upto, ← h1]; exact h2.2
    · rw [mem_upto, has_orBits _ _ (fun w hw => backF_has (List.mem_filter.1 hw).2)] at hi
      obtain ⟨w, hw, h1⟩ := hi
      obtain ⟨hwa, hwb⟩ := List.mem_filter.1 hw
      obtain ⟨w1, w2, w3, w4⟩ := (backF_iff hlsl).1 hwb
      obtain ⟨u, hub, u1, u2, u3, u4, u5⟩ := hsup i hi2
      have hmet : metF m y r w u = true := by
        have hv4 := counts_valid w4
        have hu4 := counts_valid u5
        unfold countsB at w4 u5
        simp only [if_t] at w4 u5
        simp only [Bool.and_eq_true, decide_eq_true_eq, beq_iff_eq] at w4 u5
        obtain ⟨⟨⟨⟨a1, a2⟩, a3⟩, _⟩, _⟩ := w4
        obtain ⟨⟨⟨⟨b1, b2⟩, b3⟩, _⟩, _⟩ := u5
        have ha1 : w.parent = y.parent := a1
        have ha2 : w.slot = y.slot := a2
        have hcon : conB w u = true := by
          have hdiff : eqV w u = false := by
            unfold eqV
            rw [decide_eq_false_iff_not]
            intro he
            have hch : w.choice = u.choice := by
              have := congrArg (fun l : List Int => l[3]?) he
              simpa [nums] using this
            have hvl : w.value = u.value := by
              have h14 : ∀ v : Vt, (nums v).drop 14 = v.value := fun v => by
                show ((v.parent ++ v.value).drop 8) = _
                rw [List.drop_append_of_le_length (by rw [v.hp]; exact Nat.le_refl _), List.drop_of_length_le (by rw [v.hp]; exact Nat.le_refl _), List.nil_append]
              rw [← h14 w, ← h14 u, he]
            unfold sameB at w3 u4
            simp only [if_t] at w3 u4
            simp only [Bool.and_eq_true, decide_eq_true_eq, beq_iff_eq] at w3 u4
            rcases u4 with ⟨c1, c2⟩ | c1
            · rw [Bool.and_eq_false_iff, beq_eq_false_iff_ne, decide_eq_false_iff_not] at hne
              rcases hne with hne | hne
              · exact hne (w3.1.trans (hch.trans c1.symm))
              · exact hne (w3.2.trans (hvl.trans c2.symm))
            · exact hc2 (w3.1.trans (hch.trans c1))
          unfold conB keyB
          simp only [if_t]
          simp [hdiff, hv4, hu4, w1, u2, w2, u3, ha1, ha2, b1, b2, h1, u1]
        unfold metF
        simp only [if_t]
        simp [w1, w2, hcon, ha1, ha2, a3]
      rw [mem_upto, has_orBits _ _ (fun w' hw' => ?_)]
      · exact ⟨w, List.mem_flatMap.2 ⟨w, hwa, List.mem_map.2 ⟨u, List.mem_filter.2 ⟨hub, hmet⟩, rfl⟩⟩, h1⟩
      · obtain ⟨w2, _, h2⟩ := List.mem_flatMap.1 hw'
        obtain ⟨u2, h3, rfl⟩ := List.mem_map.1 h2
        exact met_has (List.mem_filter.1 h3).2
  have hbk2 : quorI (sizeI m) ≤ sizeI (orBits (a.filter (backF m (laid x y r) 4 r))) := by
    have : backB m (laid x y r) a 4 (laid x y r).round = sizeI (orBits (a.filter (backF m (laid x y r) 4 r))) := rfl
    omega
  have hsz := exact_size hex
  have hrange := sizeI_range m
  refine ⟨by omega, ?_⟩
  have h0 := (sizeI_range (orBits (allMets m y r a b))).1
  unfold thirdI
  split
  · exact h0
  · rename_i h1
    unfold quorI at *
    rw [if_neg h1] at *
    omega
theorem sim8' (m : Int) (x y : Vt) (a b : List Vt) : Sim Try.prog 8 [I m, V x, V y, L a, L b] (.one (.bool true)) :=
  sim8 m x y a b fun r hr hq => locks_end m x y _ _ r hr hq
end Go.Proofs.Ytngjhimhmpbofaa
