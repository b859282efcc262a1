/- Votes: how they lie, and when they are valid. -/
import Derived.Test.YtngjhimhmpbofaaJh
set_option linter.unusedSimpArgs false
set_option linter.unusedVariables false
set_option maxRecDepth 100000
namespace Go.Proofs.Ytngjhimhmpbofaa
open Go Go.PS
theorem td26 : td Try.prog 26 = .struct [(0, 1, false), (1, 1, false), (2, 1, false), (3, 1, false), (4, 1, false), (5, 1, false), (6, 8, true), (14, 8, true)] := by kernel_rfl
theorem td42 : td Try.prog 42 = .struct [(0, 1, false), (1, 1, false), (2, 1, false)] := by kernel_rfl
theorem td24 : td Try.prog 24 = .arr 8 5 1 := by kernel_rfl
theorem td27 : td Try.prog 27 = .slice 26 22 64 := by kernel_rfl
theorem td33 : td Try.prog 33 = .other := by kernel_rfl
theorem td49 : td Try.prog 49 = .ptr := by kernel_rfl
theorem tzz26 : tz Try.prog 26 = some (true, 22) := by kernel_rfl
theorem tzz24 : tz Try.prog 24 = some (true, 8) := by kernel_rfl
theorem tzz22 : tz Try.prog 22 = some (false, 1) := by kernel_rfl
theorem tzz27 : tz Try.prog 27 = some (false, 1) := by kernel_rfl
theorem tzz33 : tz Try.prog 33 = some (false, 1) := by kernel_rfl
theorem tzz42 : tz Try.prog 42 = some (true, 3) := by kernel_rfl
theorem tzz49 : tz Try.prog 49 = some (false, 1) := by kernel_rfl
theorem tzz4 : tz Try.prog 4 = some (false, 1) := by kernel_rfl
def bts (l : List Int) : List S := l.map fun x => .int .u8 x
def zeroN : List Int := List.replicate 8 0
theorem tz24 : tzero Try.prog 24 = some (bts zeroN) := by kernel_rfl
theorem tz26 : tzero Try.prog 26 = some ([.int .i64 0, .int .i64 0, .int .i64 0, .int .i64 0, .int .i64 0, .int .i64 0] ++ (bts zeroN ++ bts zeroN)) := by kernel_rfl
theorem tz42 : tzero Try.prog 42 = some [.int .i64 0, .int .i64 0, .sl .zero 0 []] := by kernel_rfl
theorem tz33 : tzero Try.prog 33 = some [.un] := by kernel_rfl
theorem tz49 : tzero Try.prog 49 = some [.nilp] := by kernel_rfl
def lk8 : List LK := List.replicate 8 .int
theorem fl24 : flatEq Try.prog 24 = some lk8 := by kernel_rfl

/-- A vote. -/
structure Vt where
  kind : Int
  slot : Int
  round : Int
  choice : Int
  signer : Int
  support : Int
  parent : List Int
  value : List Int
  hp : parent.length = 8
  hv : value.length = 8
def vc (v : Vt) : List S := [.int .i64 v.kind, .int .i64 v.slot, .int .i64 v.round, .int .i64 v.choice, .int .i64 v.signer, .int .i64 v.support] ++ (bts v.parent ++ bts v.value)
theorem bts_len (l : List Int) : (bts l).length = l.length := by simp [bts]
theorem vc_len (v : Vt) : (vc v).length = 22 := by simp [vc, bts_len, v.hp, v.hv]
theorem vc_all (v : Vt) : (vc v).take 22 = vc v := List.take_of_length_le (by rw [vc_len]; exact Nat.le_refl _)
theorem vc_0 (v : Vt) : (vc v).take 1 = [.int .i64 v.kind] := rfl
theorem vc_1 (v : Vt) : ((vc v).drop 1).take 1 = [.int .i64 v.slot] := rfl
theorem vc_2 (v : Vt) : ((vc v).drop 2).take 1 = [.int .i64 v.round] := rfl
theorem vc_3 (v : Vt) : ((vc v).drop 3).take 1 = [.int .i64 v.choice] := rfl
theorem vc_4 (v : Vt) : ((vc v).drop 4).take 1 = [.int .i64 v.signer] := rfl
theorem vc_5 (v : Vt) : ((vc v).drop 5).take 1 = [.int .i64 v.support] := rfl
theorem vc_6 (v : Vt) : ((vc v).drop 6).take 8 = bts v.parent := by
  show (bts v.parent ++ bts v.value).take 8 = _
  rw [List.take_append_of_le_length (by rw [bts_len, v.hp]; exact Nat.le_refl _), List.take_of_length_le (by rw [bts_len, v.hp]; exact Nat.le_refl _)]
theorem vc_7 (v : Vt) : ((vc v).drop 14).take 8 = bts v.value := by
  show ((bts v.parent ++ bts v.value).drop 8).take 8 = _
  rw [List.drop_append_of_le_length (by rw [bts_len, v.hp]; exact Nat.le_refl _), List.drop_of_length_le (by rw [bts_len, v.hp]; exact Nat.le_refl _), List.nil_append, List.take_of_length_le (by rw [bts_len, v.hv]; exact Nat.le_refl _)]
theorem bp_len (v : Vt) : (bts v.parent).length = 8 := by rw [bts_len, v.hp]
theorem bv_len (v : Vt) : (bts v.value).length = 8 := by rw [bts_len, v.hv]
theorem bp_all (v : Vt) : (bts v.parent).take 8 = bts v.parent := List.take_of_length_le (by rw [bp_len]; exact Nat.le_refl _)
theorem bv_all (v : Vt) : (bts v.value).take 8 = bts v.value := List.take_of_length_le (by rw [bv_len]; exact Nat.le_refl _)
theorem bts_map (f : S → S) (h : ∀ x, f (.int .u8 x) = .int .u8 x) (l : List Int) : (bts l).map f = bts l := by simp [bts, h]
theorem vc_map (f : S → S) (h : ∀ k x, f (.int k x) = .int k x) (v : Vt) : (vc v).map f = vc v := by
  simp [vc, h, bts_map f (fun x => h _ x)]
theorem vc_cutn (d : Nat) (v : Vt) : (vc v).map (fun s => s.cut (S.names d)) = vc v := vc_map _ (fun k x => rfl) v
theorem vc_cutr (d : Nat) (v : Vt) : (vc v).map (fun s => s.cut (S.reads d)) = vc v := vc_map _ (fun k x => rfl) v
theorem vc_lay (v : Vt) : (vc v).map S.lay = vc v := vc_map _ (fun k x => rfl) v
theorem vc_lend (m : List (Nat × List S)) (v : Vt) : (vc v).map (S.lend m) = vc v := vc_map _ (fun k x => rfl) v
theorem vc_back (d : Nat) (ks : List Nat) (v : Vt) : (vc v).map (S.back d ks) = vc v := vc_map _ (fun k x => rfl) v
theorem bts_plain (l : List Int) : (bts l).all S.plain = true := by simp [bts, S.plain]
theorem vc_plain (v : Vt) : (vc v).all S.plain = true := by simp [vc, S.plain, bts_plain]
theorem bts_cutn (d : Nat) (l : List Int) : (bts l).map (fun s => s.cut (S.names d)) = bts l := bts_map _ (fun x => rfl) l
theorem bts_cutr (d : Nat) (l : List Int) : (bts l).map (fun s => s.cut (S.reads d)) = bts l := bts_map _ (fun x => rfl) l
theorem bts_lend (m : List (Nat × List S)) (l : List Int) : (bts l).map (S.lend m) = bts l := bts_map _ (fun x => rfl) l
theorem eq_bts : ∀ (n : Nat) (l l' : List Int), l.length = n → l'.length = n → eqL (List.replicate n .int) (bts l) (bts l') = some (decide (l = l'))
  | 0, l, l', h, h' => by
    obtain rfl := List.eq_nil_of_length_eq_zero h
    obtain rfl := List.eq_nil_of_length_eq_zero h'
    rfl
  | n + 1, [], l', h, h' => by cases h
  | n + 1, x :: l, [], h, h' => by cases h'
  | n + 1, x :: l, y :: l', h, h' => by
    have ih := eq_bts n l l' (by simpa using h) (by simpa using h')
    show (match leafEq .int (.int .u8 x) (.int .u8 y), eqL (List.replicate n .int) (bts l) (bts l') with
      | some a, some b => some (a && b)
      | _, _ => none) = _
    rw [ih]
    simp [leafEq, Bool.beq_eq_decide_eq]
theorem eq_pp (v w : Vt) : eqL lk8 (bts v.parent) (bts w.parent) = some (decide (v.parent = w.parent)) := eq_bts 8 _ _ v.hp w.hp
theorem eq_vv (v w : Vt) : eqL lk8 (bts v.value) (bts w.value) = some (decide (v.value = w.value)) := eq_bts 8 _ _ v.hv w.hv
theorem eq_v0 (v : Vt) : eqL lk8 (bts v.value) (bts zeroN) = some (decide (v.value = zeroN)) := eq_bts 8 _ _ v.hv rfl

theorem vc_box (x : Nat) (v : Vt) : lendBox x 0 (vc v) = .el (.arg (2 * x)) (vc v) := lendBox_of (by rw [vc_len]; decide) (vc_plain v) (vc_lay v)
theorem vc_nameL (v : Vt) : (vc v).flatMap S.nameL = [] := by simp [vc, bts, S.nameL, List.flatMap_map]
abbrev V (v : Vt) : T := .agg (vc v)
def btw (n lo hi : Int) : Bool := decide (n ≥ lo) && decide (n ≤ hi)
theorem sim32 (n lo hi : Int) : Sim Try.prog 32 [I n, I lo, I hi] (.one (.bool (btw n lo hi))) := by
  refine Sim.of_code Try.func32 (by unfold Try.f32; rfl) Try.ntmps32 Try.call32 [] (by simp) (by rfl) (PW.sw (G := book0) mixed _ _ _ ?_)
  simp only [I, ↓ff_imp, ↓tf_imp, PW, PW1, regK, drawK, stepK, quietK, callK, idleK, fnK, argsV, T.val?, S.val?, boundT, lendBox_fn, lendBox_int, lendBox_bool, lendBox_nilp, List.flatMap_cons, List.flatMap_nil, S.reach, S.nameL, Tag.nameL, callOf, argsT, guardOf, pureOp, St.rd, St.eval, rdg, List.getD, List.getElem?_cons_zero, List.getElem?_cons_succ, List.cons_append, List.nil_append, List.replicate, List.length, List.getElem?_nil, Option.getD, T.ofValue, S.ofValue, St.put, List.set, binT, binI, thenQ, blockQ, scopeQ, Nat.reduceSub, Nat.reduceAdd, true_and, and_true, if_true, if_false, true_or, Option.bind, List.getElem?_toArray, eqOp, PS.Ends, resOf, packT, St.out, T.sub, S.sub, tagSub, LeT_bool, LeT_int, beq_true, beq_false, imp_self, implies_true, Bool.and_true, Bool.true_and, Bool.and_false, Bool.false_and, T.lend, S.lend, Tag.lend, T.back, S.back, T.made, S.made, Tag.made, St.ret, St.kills, List.map_nil, List.foldl_nil, List.foldl_cons, Bool.false_eq_true, false_imp_iff, true_imp_iff, forall_const, Bool.true_eq_false, minI, maxI, effOp, appendOp, fillT, chunks, T.cells, S.plain, S.lay, St.kill, T.cut, cutn_un, cutn_bool, cutn_int, cutn_str, cutn_nilp, cutn_sl, cutn_el, cutn_fn, cutn_fref, cutn_ptr, cutr_un, cutr_bool, cutr_int, cutr_str, cutr_nilp, cutr_sl, cutr_el, cutr_fn, cutr_fref, cutr_ptr, Tag.names, mcut, mdrop, mget, mset, List.map_cons, St.box, St.store, St.wipe, setAt, bound, lenS, loadT, List.headD_cons, List.take_succ_cons, List.take_zero, List.take_nil, List.drop_nil, List.drop_zero, List.drop_succ_cons, Tag.sub, List.all_cons, List.all_nil, Nat.reduceLeDiff, Nat.reduceMul, Nat.reduceBEq, Nat.reduceEqDiff, Nat.reduceLT, T.madeAll, T.backAll, nm, List.contains_cons, List.contains_nil, backTag, Int.toNat_natCast, Option.map_some, beq_self_eq_true, Bool.or_true, Bool.true_or, Bool.or_false, Bool.false_or, or_true, or_false, false_or, reduceCtorEq, and_self, and_false, false_and, not_true_eq_false, not_false_eq_true, Bool.not_true, Bool.not_false, td3, td4, Try.results32]
  simp [btw]
abbrev k32 : Book Try.prog := book0.add 32 (spec3 (fun _ _ _ => True) fun n lo hi => .one (.bool (btw n lo hi))) (spec3_good fun n lo hi _ => sim32 n lo hi)
def vA (v : Vt) : Bool := if (if btw v.slot 0 9 then if v.round == 0 then v.support == 0 else false else false) then v.choice == 1 else false
def vB (v : Vt) : Bool := if (if btw v.slot 0 9 then btw v.round 1 12 else false) then if btw v.choice 0 1 then if (if v.round != 1 then true else v.choice != 0) then true else v.support == 0 else false else false
def vC (v : Vt) : Bool := if (if btw v.slot 0 9 then btw v.round 1 12 else false) then btw v.choice 0 2 else false
def vD (v : Vt) : Bool := if (if btw v.slot 0 0 then if v.round == 0 then v.support == 0 else false else false) then v.choice == 1 else false
def vK (v : Vt) : Bool := if v.kind == 1 then vA v else if v.kind == 2 then vA v else if v.kind == 3 then vB v else if v.kind == 4 then vC v else vD v
/-- A vote that may be signed. -/
def validB (v : Vt) : Bool :=
  if (if (!btw v.kind 1 7) then true else !btw v.signer 0 9) then false
  else if (if ((v.choice == 1) == decide (v.value = zeroN)) then true else bitsI .andNot .i64 v.support 1023 != 0) then false
  else vK v
theorem valid_1 {v : Vt} (h : (if (!btw v.kind 1 7) then true else !btw v.signer 0 9) = true) : validB v = false := by unfold validB; rw [if_pos h]
theorem valid_2 {v : Vt} (h : (if (!btw v.kind 1 7) then true else !btw v.signer 0 9) = false)
    (h2 : (if ((v.choice == 1) == decide (v.value = zeroN)) then true else bitsI .andNot .i64 v.support 1023 != 0) = true) : validB v = false := by
  unfold validB; rw [if_neg (by rw [h]; simp), if_pos h2]
theorem valid_3 {v : Vt} (h : (if (!btw v.kind 1 7) then true else !btw v.signer 0 9) = false)
    (h2 : (if ((v.choice == 1) == decide (v.value = zeroN)) then true else bitsI .andNot .i64 v.support 1023 != 0) = false) :
    validB v = if v.kind == 1 then vA v else if v.kind == 2 then vA v else if v.kind == 3 then vB v else if v.kind == 4 then vC v else vD v := by
  unfold validB; rw [if_neg (by rw [h]; simp), if_neg (by rw [h2]; simp)]; rfl
set_option maxHeartbeats 1000000 in
theorem sim13 (v : Vt) : Sim Try.prog 13 [V v] (.one (.bool (validB v))) := by
  refine Sim.of_code Try.func13 (by unfold Try.f13; rfl) Try.ntmps13 Try.call13 [] (by simp) (by rfl) (PW.sw (G := k32) mixed _ _ _ ?_)
  simp only [I, V, ↓ff_imp, ↓tf_imp, PW, PW1, regK, drawK, stepK, quietK, callK, idleK, fnK, argsV, T.val?, S.val?, boundT, lendBox_fn, lendBox_int, lendBox_bool, lendBox_nilp, List.flatMap_cons, List.flatMap_nil, S.reach, S.nameL, Tag.nameL, callOf, argsT, guardOf, pureOp, St.rd, St.eval, rdg, List.getD, List.getElem?_cons_zero, List.getElem?_cons_succ, List.cons_append, List.nil_append, List.replicate, List.length, List.getElem?_nil, Option.getD, T.ofValue, S.ofValue, St.put, List.set, binT, binI, thenQ, blockQ, scopeQ, Nat.reduceSub, Nat.reduceAdd, true_and, and_true, if_true, if_false, true_or, Option.bind, List.getElem?_toArray, eqOp, PS.Ends, resOf, packT, St.out, T.sub, S.sub, tagSub, LeT_bool, LeT_int, beq_true, beq_false, imp_self, implies_true, Bool.and_true, Bool.true_and, Bool.and_false, Bool.false_and, T.lend, S.lend, Tag.lend, T.back, S.back, T.made, S.made, Tag.made, St.ret, St.kills, List.map_nil, List.foldl_nil, List.foldl_cons, Bool.false_eq_true, false_imp_iff, true_imp_iff, forall_const, Bool.true_eq_false, minI, maxI, effOp, appendOp, fillT, chunks, T.cells, S.plain, S.lay, St.kill, T.cut, cutn_un, cutn_bool, cutn_int, cutn_str, cutn_nilp, cutn_sl, cutn_el, cutn_fn, cutn_fref, cutn_ptr, cutr_un, cutr_bool, cutr_int, cutr_str, cutr_nilp, cutr_sl, cutr_el, cutr_fn, cutr_fref, cutr_ptr, Tag.names, mcut, mdrop, mget, mset, List.map_cons, St.box, St.store, St.wipe, setAt, bound, lenS, loadT, List.headD_cons, List.take_succ_cons, List.take_zero, List.take_nil, List.drop_nil, List.drop_zero, List.drop_succ_cons, Tag.sub, List.all_cons, List.all_nil, Nat.reduceLeDiff, Nat.reduceMul, Nat.reduceBEq, Nat.reduceEqDiff, Nat.reduceLT, T.madeAll, T.backAll, nm, List.contains_cons, List.contains_nil, backTag, Int.toNat_natCast, Option.map_some, beq_self_eq_true, Bool.or_true, Bool.true_or, Bool.or_false, Bool.false_or, or_true, or_false, false_or, reduceCtorEq, and_self, and_false, false_and, not_true_eq_false, not_false_eq_true, Bool.not_true, Bool.not_false, vc_box, vc_nameL, td3, td4, td5, td22, td24, td26, td27, td33, td39, td42, td49, td52, td57, td59, tz3, tz24, tz33, tz42, tz49, tzz3, tzz4, tzz22, tzz24, tzz26, tzz27, tzz33, tzz42, tzz49, fl24, vc_len, vc_all, vc_0, vc_1, vc_2, vc_3, vc_4, vc_5, vc_6, vc_7, bp_len, bv_len, bp_all, bv_all, vc_cutn, vc_cutr, vc_lay, vc_lend, vc_back, vc_plain, bts_plain, bts_cutn, bts_cutr, bts_lend, eq_pp, eq_vv, eq_v0, places, aggD, Nat.zero_add, Nat.add_zero, Try.results13, add_spec, spec3]
  refine ⟨fun h1 => ?_, fun h1 => ⟨by rfl, fun h2 => ?_, fun h2 => ⟨by rfl, fun k1 => ⟨fun _ => ?_, fun h => ?_⟩, fun k1 => ⟨fun k2 => ?_, fun k2 => ⟨fun k3 => ⟨by rfl, ?_⟩, fun k3 => ⟨fun k4 => ⟨by rfl, ?_⟩, fun k4 => ?_⟩⟩⟩⟩⟩⟩
  · rw [valid_1 h1]
  · rw [valid_2 h1 h2]
  · have e : validB v = vA v := by rw [valid_3 h1 h2, if_pos k1]
    rw [e]; rfl
  · rw [k1] at h; cases h
  · have e : validB v = vA v := by rw [valid_3 h1 h2, if_neg (by rw [k1]; simp), if_pos k2]
    rw [e]; rfl
  · have e : validB v = vB v := by rw [valid_3 h1 h2, if_neg (by rw [k1]; simp), if_neg (by rw [k2]; simp), if_pos k3]
    rw [e]; rfl
  · have e : validB v = vC v := by rw [valid_3 h1 h2, if_neg (by rw [k1]; simp), if_neg (by rw [k2]; simp), if_neg (by rw [k3]; simp), if_pos k4]
    rw [e]; rfl
  · have e : validB v = vD v := by rw [valid_3 h1 h2, if_neg (by rw [k1]; simp), if_neg (by rw [k2]; simp), if_neg (by rw [k3]; simp), if_neg (by rw [k4]; simp)]
    rw [e]; rfl
def sameB (v w : Vt) : Bool := if v.choice == w.choice then decide (v.value = w.value) else false
theorem sim22 (v w : Vt) : Sim Try.prog 22 [V v, V w] (.one (.bool (sameB v w))) := by
  refine Sim.of_code Try.func22 (by unfold Try.f22; rfl) Try.ntmps22 Try.call22 [] (by simp) (by rfl) (PW.sw (G := k32) mixed _ _ _ ?_)
  simp only [I, V, ↓ff_imp, ↓tf_imp, PW, PW1, regK, drawK, stepK, quietK, callK, idleK, fnK, argsV, T.val?, S.val?, boundT, lendBox_fn, lendBox_int, lendBox_bool, lendBox_nilp, List.flatMap_cons, List.flatMap_nil, S.reach, S.nameL, Tag.nameL, callOf, argsT, guardOf, pureOp, St.rd, St.eval, rdg, List.getD, List.getElem?_cons_zero, List.getElem?_cons_succ, List.cons_append, List.nil_append, List.replicate, List.length, List.getElem?_nil, Option.getD, T.ofValue, S.ofValue, St.put, List.set, binT, binI, thenQ, blockQ, scopeQ, Nat.reduceSub, Nat.reduceAdd, true_and, and_true, if_true, if_false, true_or, Option.bind, List.getElem?_toArray, eqOp, PS.Ends, resOf, packT, St.out, T.sub, S.sub, tagSub, LeT_bool, LeT_int, beq_true, beq_false, imp_self, implies_true, Bool.and_true, Bool.true_and, Bool.and_false, Bool.false_and, T.lend, S.lend, Tag.lend, T.back, S.back, T.made, S.made, Tag.made, St.ret, St.kills, List.map_nil, List.foldl_nil, List.foldl_cons, Bool.false_eq_true, false_imp_iff, true_imp_iff, forall_const, Bool.true_eq_false, minI, maxI, effOp, appendOp, fillT, chunks, T.cells, S.plain, S.lay, St.kill, T.cut, cutn_un, cutn_bool, cutn_int, cutn_str, cutn_nilp, cutn_sl, cutn_el, cutn_fn, cutn_fref, cutn_ptr, cutr_un, cutr_bool, cutr_int, cutr_str, cutr_nilp, cutr_sl, cutr_el, cutr_fn, cutr_fref, cutr_ptr, Tag.names, mcut, mdrop, mget, mset, List.map_cons, St.box, St.store, St.wipe, setAt, bound, lenS, loadT, List.headD_cons, List.take_succ_cons, List.take_zero, List.take_nil, List.drop_nil, List.drop_zero, List.drop_succ_cons, Tag.sub, List.all_cons, List.all_nil, Nat.reduceLeDiff, Nat.reduceMul, Nat.reduceBEq, Nat.reduceEqDiff, Nat.reduceLT, T.madeAll, T.backAll, nm, List.contains_cons, List.contains_nil, backTag, Int.toNat_natCast, Option.map_some, beq_self_eq_true, Bool.or_true, Bool.true_or, Bool.or_false, Bool.false_or, or_true, or_false, false_or, reduceCtorEq, and_self, and_false, false_and, not_true_eq_false, not_false_eq_true, Bool.not_true, Bool.not_false, vc_box, vc_nameL, td3, td4, td5, td22, td24, td26, td27, td33, td39, td42, td49, td52, td57, td59, tz3, tz24, tz33, tz42, tz49, tzz3, tzz4, tzz22, tzz24, tzz26, tzz27, tzz33, tzz42, tzz49, fl24, vc_len, vc_all, vc_0, vc_1, vc_2, vc_3, vc_4, vc_5, vc_6, vc_7, bp_len, bv_len, bp_all, bv_all, vc_cutn, vc_cutr, vc_lay, vc_lend, vc_back, vc_plain, bts_plain, bts_cutn, bts_cutr, bts_lend, eq_pp, eq_vv, eq_v0, places, aggD, Nat.zero_add, Nat.add_zero, Try.results22, add_spec, spec3]
  rfl
theorem sim46 (v w : Vt) : Sim Try.prog 46 [V v, V w] (.one (.bool (sameB v w))) := by
  refine Sim.of_code Try.func46 (by unfold Try.f46; rfl) Try.ntmps46 Try.call46 [] (by simp) (by rfl) (PW.sw (G := k32) mixed _ _ _ ?_)
  simp only [I, V, ↓ff_imp, ↓tf_imp, PW, PW1, regK, drawK, stepK, quietK, callK, idleK, fnK, argsV, T.val?, S.val?, boundT, lendBox_fn, lendBox_int, lendBox_bool, lendBox_nilp, List.flatMap_cons, List.flatMap_nil, S.reach, S.nameL, Tag.nameL, callOf, argsT, guardOf, pureOp, St.rd, St.eval, rdg, List.getD, List.getElem?_cons_zero, List.getElem?_cons_succ, List.cons_append, List.nil_append, List.replicate, List.length, List.getElem?_nil, Option.getD, T.ofValue, S.ofValue, St.put, List.set, binT, binI, thenQ, blockQ, scopeQ, Nat.reduceSub, Nat.reduceAdd, true_and, and_true, if_true, if_false, true_or, Option.bind, List.getElem?_toArray, eqOp, PS.Ends, resOf, packT, St.out, T.sub, S.sub, tagSub, LeT_bool, LeT_int, beq_true, beq_false, imp_self, implies_true, Bool.and_true, Bool.true_and, Bool.and_false, Bool.false_and, T.lend, S.lend, Tag.lend, T.back, S.back, T.made, S.made, Tag.made, St.ret, St.kills, List.map_nil, List.foldl_nil, List.foldl_cons, Bool.false_eq_true, false_imp_iff, true_imp_iff, forall_const, Bool.true_eq_false, minI, maxI, effOp, appendOp, fillT, chunks, T.cells, S.plain, S.lay, St.kill, T.cut, cutn_un, cutn_bool, cutn_int, cutn_str, cutn_nilp, cutn_sl, cutn_el, cutn_fn, cutn_fref, cutn_ptr, cutr_un, cutr_bool, cutr_int, cutr_str, cutr_nilp, cutr_sl, cutr_el, cutr_fn, cutr_fref, cutr_ptr, Tag.names, mcut, mdrop, mget, mset, List.map_cons, St.box, St.store, St.wipe, setAt, bound, lenS, loadT, List.headD_cons, List.take_succ_cons, List.take_zero, List.take_nil, List.drop_nil, List.drop_zero, List.drop_succ_cons, Tag.sub, List.all_cons, List.all_nil, Nat.reduceLeDiff, Nat.reduceMul, Nat.reduceBEq, Nat.reduceEqDiff, Nat.reduceLT, T.madeAll, T.backAll, nm, List.contains_cons, List.contains_nil, backTag, Int.toNat_natCast, Option.map_some, beq_self_eq_true, Bool.or_true, Bool.true_or, Bool.or_false, Bool.false_or, or_true, or_false, false_or, reduceCtorEq, and_self, and_false, false_and, not_true_eq_false, not_false_eq_true, Bool.not_true, Bool.not_false, vc_box, vc_nameL, td3, td4, td5, td22, td24, td26, td27, td33, td39, td42, td49, td52, td57, td59, tz3, tz24, tz33, tz42, tz49, tzz3, tzz4, tzz22, tzz24, tzz26, tzz27, tzz33, tzz42, tzz49, fl24, vc_len, vc_all, vc_0, vc_1, vc_2, vc_3, vc_4, vc_5, vc_6, vc_7, bp_len, bv_len, bp_all, bv_all, vc_cutn, vc_cutr, vc_lay, vc_lend, vc_back, vc_plain, bts_plain, bts_cutn, bts_cutr, bts_lend, eq_pp, eq_vv, eq_v0, places, aggD, Nat.zero_add, Nat.add_zero, Try.results46, add_spec, spec3]
  rfl
theorem ite_b {c : Prop} [Decidable c] {a b : Bool} : ((if c then a else b) = true) ↔ ((c ∧ a = true) ∨ (¬ c ∧ b = true)) := by
  by_cases h : c <;> simp [h]
theorem ite_f {c : Prop} [Decidable c] {a b : Bool} : ((if c then a else b) = false) ↔ ((c ∧ a = false) ∨ (¬ c ∧ b = false)) := by
  by_cases h : c <;> simp [h]
theorem sim45 (k : Int) : Sim Try.prog 45 [I k] (.one (.bool (btw k 1 4))) := by
  refine Sim.of_code Try.func45 (by unfold Try.f45; rfl) Try.ntmps45 Try.call45 [] (by simp) (by rfl) (PW.sw (G := k32) mixed _ _ _ ?_)
  simp only [I, V, ↓ff_imp, ↓tf_imp, PW, PW1, regK, drawK, stepK, quietK, callK, idleK, fnK, argsV, T.val?, S.val?, boundT, lendBox_fn, lendBox_int, lendBox_bool, lendBox_nilp, List.flatMap_cons, List.flatMap_nil, S.reach, S.nameL, Tag.nameL, callOf, argsT, guardOf, pureOp, St.rd, St.eval, rdg, List.getD, List.getElem?_cons_zero, List.getElem?_cons_succ, List.cons_append, List.nil_append, List.replicate, List.length, List.getElem?_nil, Option.getD, T.ofValue, S.ofValue, St.put, List.set, binT, binI, thenQ, blockQ, scopeQ, Nat.reduceSub, Nat.reduceAdd, true_and, and_true, if_true, if_false, true_or, Option.bind, List.getElem?_toArray, eqOp, PS.Ends, resOf, packT, St.out, T.sub, S.sub, tagSub, LeT_bool, LeT_int, beq_true, beq_false, imp_self, implies_true, Bool.and_true, Bool.true_and, Bool.and_false, Bool.false_and, T.lend, S.lend, Tag.lend, T.back, S.back, T.made, S.made, Tag.made, St.ret, St.kills, List.map_nil, List.foldl_nil, List.foldl_cons, Bool.false_eq_true, false_imp_iff, true_imp_iff, forall_const, Bool.true_eq_false, minI, maxI, effOp, appendOp, fillT, chunks, T.cells, S.plain, S.lay, St.kill, T.cut, cutn_un, cutn_bool, cutn_int, cutn_str, cutn_nilp, cutn_sl, cutn_el, cutn_fn, cutn_fref, cutn_ptr, cutr_un, cutr_bool, cutr_int, cutr_str, cutr_nilp, cutr_sl, cutr_el, cutr_fn, cutr_fref, cutr_ptr, Tag.names, mcut, mdrop, mget, mset, List.map_cons, St.box, St.store, St.wipe, setAt, bound, lenS, loadT, List.headD_cons, List.take_succ_cons, List.take_zero, List.take_nil, List.drop_nil, List.drop_zero, List.drop_succ_cons, Tag.sub, List.all_cons, List.all_nil, Nat.reduceLeDiff, Nat.reduceMul, Nat.reduceBEq, Nat.reduceEqDiff, Nat.reduceLT, T.madeAll, T.backAll, nm, List.contains_cons, List.contains_nil, backTag, Int.toNat_natCast, Option.map_some, beq_self_eq_true, Bool.or_true, Bool.true_or, Bool.or_false, Bool.false_or, or_true, or_false, false_or, reduceCtorEq, and_self, and_false, false_and, not_true_eq_false, not_false_eq_true, Bool.not_true, Bool.not_false, vc_box, vc_nameL, td3, td4, td5, td22, td24, td26, td27, td33, td39, td42, td49, td52, td57, td59, tz3, tz24, tz33, tz42, tz49, tzz3, tzz4, tzz22, tzz24, tzz26, tzz27, tzz33, tzz42, tzz49, fl24, vc_len, vc_all, vc_0, vc_1, vc_2, vc_3, vc_4, vc_5, vc_6, vc_7, bp_len, bv_len, bp_all, bv_all, vc_cutn, vc_cutr, vc_lay, vc_lend, vc_back, vc_plain, bts_plain, bts_cutn, bts_cutr, bts_lend, eq_pp, eq_vv, eq_v0, places, aggD, Nat.zero_add, Nat.add_zero, Try.results45, add_spec, spec3]
  simp [btw]
abbrev k25 : Book Try.prog := book0.add 45 (spec1 (fun _ => True) fun k => .one (.bool (btw k 1 4))) (spec1_good fun k _ => sim45 k)
set_option maxHeartbeats 4000000 in
theorem sim25 (v : Vt) : Sim Try.prog 25 [V v] (.one (.bool (validB v))) := by
  refine Sim.of_code Try.func25 (by unfold Try.f25; rfl) Try.ntmps25 Try.call25 [] (by simp) (by rfl) (PW.sw (G := k25) mixed _ _ _ ?_)
  simp only [I, V, ↓ff_imp, ↓tf_imp, PW, PW1, regK, drawK, stepK, quietK, callK, idleK, fnK, argsV, T.val?, S.val?, boundT, lendBox_fn, lendBox_int, lendBox_bool, lendBox_nilp, List.flatMap_cons, List.flatMap_nil, S.reach, S.nameL, Tag.nameL, callOf, argsT, guardOf, pureOp, St.rd, St.eval, rdg, List.getD, List.getElem?_cons_zero, List.getElem?_cons_succ, List.cons_append, List.nil_append, List.replicate, List.length, List.getElem?_nil, Option.getD, T.ofValue, S.ofValue, St.put, List.set, binT, binI, thenQ, blockQ, scopeQ, Nat.reduceSub, Nat.reduceAdd, true_and, and_true, if_true, if_false, true_or, Option.bind, List.getElem?_toArray, eqOp, PS.Ends, resOf, packT, St.out, T.sub, S.sub, tagSub, LeT_bool, LeT_int, beq_true, beq_false, imp_self, implies_true, Bool.and_true, Bool.true_and, Bool.and_false, Bool.false_and, T.lend, S.lend, Tag.lend, T.back, S.back, T.made, S.made, Tag.made, St.ret, St.kills, List.map_nil, List.foldl_nil, List.foldl_cons, Bool.false_eq_true, false_imp_iff, true_imp_iff, forall_const, Bool.true_eq_false, minI, maxI, effOp, appendOp, fillT, chunks, T.cells, S.plain, S.lay, St.kill, T.cut, cutn_un, cutn_bool, cutn_int, cutn_str, cutn_nilp, cutn_sl, cutn_el, cutn_fn, cutn_fref, cutn_ptr, cutr_un, cutr_bool, cutr_int, cutr_str, cutr_nilp, cutr_sl, cutr_el, cutr_fn, cutr_fref, cutr_ptr, Tag.names, mcut, mdrop, mget, mset, List.map_cons, St.box, St.store, St.wipe, setAt, bound, lenS, loadT, List.headD_cons, List.take_succ_cons, List.take_zero, List.take_nil, List.drop_nil, List.drop_zero, List.drop_succ_cons, Tag.sub, List.all_cons, List.all_nil, Nat.reduceLeDiff, Nat.reduceMul, Nat.reduceBEq, Nat.reduceEqDiff, Nat.reduceLT, T.madeAll, T.backAll, nm, List.contains_cons, List.contains_nil, backTag, Int.toNat_natCast, Option.map_some, beq_self_eq_true, Bool.or_true, Bool.true_or, Bool.or_false, Bool.false_or, or_true, or_false, false_or, reduceCtorEq, and_self, and_false, false_and, not_true_eq_false, not_false_eq_true, Bool.not_true, Bool.not_false, vc_box, vc_nameL, td3, td4, td5, td22, td24, td26, td27, td33, td39, td42, td49, td52, td57, td59, tz3, tz24, tz33, tz42, tz49, tzz3, tzz4, tzz22, tzz24, tzz26, tzz27, tzz33, tzz42, tzz49, fl24, vc_len, vc_all, vc_0, vc_1, vc_2, vc_3, vc_4, vc_5, vc_6, vc_7, bp_len, bv_len, bp_all, bv_all, vc_cutn, vc_cutr, vc_lay, vc_lend, vc_back, vc_plain, bts_plain, bts_cutn, bts_cutr, bts_lend, eq_pp, eq_vv, eq_v0, places, aggD, Nat.zero_add, Nat.add_zero, Try.results25, add_spec, spec1]
  -- what the first test tells
  have first : ∀ {b : Bool}, (if (if (if (if decide (v.kind < 1) = true then true else decide (v.kind > 7)) = true then true else decide (v.signer < 0)) = true then true else decide (v.signer ≥ 10)) = true then true else bitsI .andNot .i64 v.support 1023 != 0) = false →
      (if (!btw v.kind 1 7) then true else !btw v.signer 0 9) = false ∧ (bitsI .andNot .i64 v.support 1023 != 0) = false ∧ 1 ≤ v.kind ∧ v.kind ≤ 7 := by
    intro b h
    simp only [ite_f, decide_eq_true_eq, decide_eq_false_iff_not, Bool.true_eq_false, and_false, false_or, Bool.not_eq_true] at h
    obtain ⟨h, hx⟩ := h
    refine ⟨?_, hx, by omega, by omega⟩
    have e1 : btw v.kind 1 7 = true := by simp [btw]; omega
    have e2 : btw v.signer 0 9 = true := by simp [btw]; omega
    simp [e1, e2]
  refine ⟨fun c1 => ?_, fun c1 => ?_⟩
  · symm
    by_cases hb : (if (!btw v.kind 1 7) then true else !btw v.signer 0 9) = true
    · exact valid_1 hb
    · rw [Bool.not_eq_true] at hb
      refine valid_2 hb ?_
      have hx : (bitsI .andNot .i64 v.support 1023 != 0) = true := by
        rw [← Bool.not_eq_false]
        intro hx
        rw [hx] at c1
        simp only [ite_b, decide_eq_true_eq, Bool.false_eq_true, and_false, or_false, and_true] at c1
        simp [ite_f, btw] at hb
        omega
      rw [hx]; simp
  · obtain ⟨hb, hx, hk1, hk7⟩ := first (b := true) c1
    have hv : (decide (v.value = zeroN) == (v.choice == 1)) = false → validB v = vK v := by
      intro h
      have h' : ((v.choice == 1) == decide (v.value = zeroN)) = false := by rw [← h]; exact Bool.beq_comm ..
      have := valid_3 hb (by rw [h', hx]; rfl)
      rw [this]; rfl
    have hv0 : (decide (v.value = zeroN) == (v.choice == 1)) = true → validB v = false := by
      intro h
      have h' : ((v.choice == 1) == decide (v.value = zeroN)) = true := by rw [← h]; exact Bool.beq_comm ..
      exact valid_2 hb (by rw [h']; rfl)
    have hkk : v.kind = 1 ∨ v.kind = 2 ∨ v.kind = 3 ∨ v.kind = 4 ∨ 5 ≤ v.kind := by omega
    refine ⟨fun c2 => ?_, fun c2 => ⟨by rfl, fun c3 => (hv0 c3).symm, fun c3 => ?_⟩⟩
    · symm
      cases c3 : (decide (v.value = zeroN) == (v.choice == 1)) with
      | true => exact hv0 c3
      | false =>
        rw [hv c3]
        rcases hkk with hk | hk | hk | hk | hk
        · simp [btw, hk] at c2
          simp [vK, vA, btw, hk]; omega
        · simp [btw, hk] at c2
          simp [vK, vA, btw, hk]; omega
        · simp [btw, hk] at c2
          simp [vK, vB, btw, hk]; omega
        · simp [btw, hk] at c2
          simp [vK, vC, btw, hk]; omega
        · have n1 : (v.kind == 1) = false := by simp; omega
          have n2 : (v.kind == 2) = false := by simp; omega
          have n3 : (v.kind == 3) = false := by simp; omega
          have n4 : (v.kind == 4) = false := by simp; omega
          have n5 : btw v.kind 1 4 = false := by simp [btw]; omega
          simp [n5] at c2
          simp [vK, vD, btw, n1, n2, n3, n4]; omega
    · rw [hv c3]
      rcases hkk with hk | hk | hk | hk | hk
      · simp [btw, hk] at c2
        simp [vK, vA, btw, hk]
        rw [Bool.eq_iff_iff]
        simp only [Bool.and_eq_true, Bool.or_eq_true, Bool.not_eq_true', decide_eq_true_eq, decide_eq_false_iff_not, beq_iff_eq]
        omega
      · simp [btw, hk] at c2
        simp [vK, vA, btw, hk]
        rw [Bool.eq_iff_iff]
        simp only [Bool.and_eq_true, Bool.or_eq_true, Bool.not_eq_true', decide_eq_true_eq, decide_eq_false_iff_not, beq_iff_eq]
        omega
      · simp [btw, hk] at c2
        simp [vK, vB, btw, hk]
        rw [Bool.eq_iff_iff]
        simp only [Bool.and_eq_true, Bool.or_eq_true, Bool.not_eq_true', decide_eq_true_eq, decide_eq_false_iff_not, beq_iff_eq]
        omega
      · simp [btw, hk] at c2
        simp [vK, vC, btw, hk]
        rw [Bool.eq_iff_iff]
        simp only [Bool.and_eq_true, Bool.or_eq_true, Bool.not_eq_true', decide_eq_true_eq, decide_eq_false_iff_not, beq_iff_eq]
        omega
      · have n1 : (v.kind == 1) = false := by simp; omega
        have n2 : (v.kind == 2) = false := by simp; omega
        have n3 : (v.kind == 3) = false := by simp; omega
        have n4 : (v.kind == 4) = false := by simp; omega
        have n5 : btw v.kind 1 4 = false := by simp [btw]; omega
        simp [n5] at c2
        simp [vK, vD, btw, n1, n2, n3, n4]
        rw [Bool.eq_iff_iff]
        simp only [Bool.and_eq_true, Bool.or_eq_true, Bool.not_eq_true', decide_eq_true_eq, decide_eq_false_iff_not, beq_iff_eq]
        omega
end Go.Proofs.Ytngjhimhmpbofaa
