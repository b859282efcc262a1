/- A region's operations, in their order or in any order that the program may choose, as steps of the state. -/
import Derived.Test.YtngjhimhmpbofaaPs7
set_option linter.unusedVariables false
set_option linter.unusedSimpArgs false
namespace Go.PS
open Go

/-- An operation that is not covered. -/
def Stuck (o : Oper) : Prop := False

inductive GV where
  | free
  | is (c : Bool)
  | bad
/-- An operation's guard. -/
def guardOf (ops : Array Oper) (st : St) (o : Oper) : GV :=
  match o.guard with
  | none => .free
  | some (i, want) =>
    match (ops[i]?).bind (·.dst) with
    | some t => match st.tmps.getD t .un with
      | .one (.bool b) => .is (b == want)
      | .grd c (.one (.bool b)) => .is (c && (b == want))
      | _ => .bad
    | none => .bad

/-! ### Function values -/
def S.val? : S → Option Value
  | .bool b => some (.bool b)
  | .int k n => some (.int k n)
  | .str s => some (.string s)
  | _ => none
def allVals : List S → Option (List Value)
  | [] => some []
  | s :: r => match s.val?, allVals r with
    | some v, some l => some (v :: l)
    | _, _ => none
def T.val? : T → Option Value
  | .one s => s.val?
  | .agg l => (allVals l).map fun vs => .agg vs.toArray
  | _ => none
/-- Arguments that are numbers, bools, strings and aggregates of these. -/
def argsV (st : St) (g : Bool) : List Operand → Option (Prop × List Value)
  | [] => some (True, [])
  | x :: r => match st.rd g x, argsV st g r with
    | (o, t), some (o', l) => match t.val? with
      | some v => some (o ∧ o', v :: l)
      | none => none
    | _, none => none
def Tag.nameL : Tag → List Nat
  | .own x _ => [x]
  | .box x _ => [x]
  | .view x => [x]
  | _ => []
def S.nameL : S → List Nat
  | .sl g _ _ => g.nameL
  | .el g _ => g.nameL
  | .ptr x _ => [x]
  | .fn xs _ => xs
  | .fref xs _ => xs
  | .fm xs y _ => y :: xs
  | _ => []
/-- The private blocks that a value leads to. -/
def S.reach (m : List (Nat × List S)) (s : S) : List Nat :=
  s.nameL ++ (match s with
    | .ptr x _ => match mget m x with
      | some cs => cs.flatMap S.nameL
      | none => []
    | _ => [])
def boundT (st : St) (g : Bool) : List Operand → Option (Prop × List S × List Nat)
  | [] => some (True, [], [])
  | x :: r => match st.rd g x, boundT st g r with
    | (o, .one s), some (o', l, xs) => some (o ∧ o', s.lend st.mem :: l, s.reach st.mem ++ xs)
    | _, _ => none
/-- What is known of a closure: what is known of its code with these captured values. -/
def fnSpec {P : Program} (G : Book P) (f : Nat) (l : List S) (vals : List Value) : Option (Prop × Value) :=
  match G.spec f (vals.map T.ofValue ++ l.map .one) with
  | some (ob, .one s) => match s.val? with
    | some u => some (ob, u)
    | none => none
  | _ => none
/-- A function value is made, or called. -/
def fnK {P : Program} (G : Book P) (g : Bool) (st : St) : Op → Option (Prop × T)
  | .call c => match c.callee with
    | .value x => match st.rd g x, argsV st g c.args.toList with
      | (o, .one (.fn _ p)), some (oa, vs) => match p vs with
        | some (ob, u) => some (o ∧ oa ∧ ob, T.ofValue u)
        | none => none
      | _, _ => none
    | _ => none
  | .makeFunc (.func f) first cap => if first = #[] then
      match boundT st g cap.toList with
      | some (o, l, xs) => some (o, .one (.fn xs fun vals => fnSpec G f l vals))
      | none => none
    else none
  | _ => none

section
variable {P : Program} {G : Book P} {B : Base} {ρ : Names} {st : St} {a : Act} {w w' : World}
theorem val_rep {s : S} {v u : Value} (h : RepS B ρ w s v) (hu : s.val? = some u) : v = u := by
  cases s <;> simp only [S.val?, Option.some.injEq, reduceCtorEq] at hu <;> (subst hu; exact h)
theorem allVals_rep : ∀ {l : List S} {vs us : List Value}, vs.length = l.length → (∀ (j : Nat) (s : S), l[j]? = some s → ∃ c, vs[j]? = some c ∧ RepS B ρ w s c) → allVals l = some us → vs = us
  | [], vs, us, hl, _, hu => by cases hu; exact List.eq_nil_of_length_eq_zero hl
  | s :: r, [], us, hl, _, hu => by simp at hl
  | s :: r, v :: vs, us, hl, hc, hu => by
    simp only [allVals] at hu
    split at hu
    · rename_i v' l' h1 h2
      cases hu
      obtain ⟨c, hc1, hc2⟩ := hc 0 s rfl
      simp only [List.getElem?_cons_zero, Option.some.injEq] at hc1
      subst hc1
      have e1 : v = v' := val_rep hc2 h1
      have e2 : vs = l' := allVals_rep (by simpa using hl) (fun j s hs => by simpa using hc (j + 1) s (by simpa using hs)) h2
      rw [e1, e2]
    · cases hu
theorem valT_rep {t : T} {v u : Value} (h : RepT B ρ w t v) (hu : t.val? = some u) : v = u := by
  cases t with
  | one s => exact val_rep h hu
  | agg l =>
    obtain ⟨arr, rfl, hl, hc⟩ := h
    simp only [T.val?, Option.map_eq_some_iff] at hu
    obtain ⟨us, h1, rfl⟩ := hu
    have := allVals_rep (vs := arr.toList) (by simpa using hl) (fun j s hs => by simpa using hc j s hs) h1
    rw [← this, Array.toArray_toList]
  | un => cases hu
  | tup l => cases hu
  | grd c t => cases hu
theorem argsV_run (hr : Rel B ρ st a w) {g : Bool} (hg : g = true) : ∀ (xs : List Operand) (o : Prop) (l : List Value), argsV st g xs = some (o, l) → o → xs.map a.eval = l
  | [], o, l, h, _ => by cases h; rfl
  | x :: r, o, l, h, ho => by
    simp only [argsV] at h
    split at h
    · rename_i o1 t o2 l' h1 h2
      split at h
      · rename_i v hv
        cases h
        have hrx := hr.rd hg x (by rw [h1]; exact ho.1)
        rw [h1] at hrx
        have e1 : a.eval x = v := valT_rep hrx hv
        have e2 := argsV_run hr hg r o2 l' h2 ho.2
        rw [List.map_cons, e1, e2]
      · cases h
    · cases h
def Names.only (ρ : Names) (xs : List Nat) : Names := fun z => if z ∈ xs then ρ z else none
theorem names_nameL {s : S} {x : Nat} (h : s.names x = true) : x ∈ s.nameL := by
  have tag : ∀ g : Tag, g.names x = true → x ∈ g.nameL := by
    intro g hg
    cases g <;> simp_all [Tag.names, Tag.nameL]
  cases s with
  | sl g z es => exact tag g h
  | el g cs => exact tag g h
  | ptr y o => simpa [S.names, S.nameL] using h
  | fn xs p => simpa [S.names, S.nameL] using h
  | fref xs p => simpa [S.names, S.nameL] using h
  | fm xs y C => simpa [S.names, S.nameL, or_comm] using h
  | _ => simp [S.names] at h
theorem only_some {xs : List Nat} {z b : Nat} (h : (ρ.only xs) z = some b) : z ∈ xs ∧ ρ z = some b := by
  unfold Names.only at h
  split at h
  · rename_i hz; exact ⟨hz, h⟩
  · cases h
theorem only_at {xs : List Nat} {z : Nat} (h : z ∈ xs) : (ρ.only xs) z = ρ z := by simp [Names.only, h]
theorem reads_names {s : S} {x : Nat} (h : s.reads x = true) : s.names x = true := by
  cases s <;> first | exact h | (simp [S.reads] at h; done) | (simp only [S.reads] at h; simp only [S.names, h, Bool.true_or])
theorem kept_only {xs : List Nat} (he : Ext ρ xs w w') (hlt : ∀ x b, ρ x = some b → b < w.heap.size) : Kept ρ (ρ.only xs) w w' (· ∈ xs) (· ∈ xs) :=
  ⟨fun b hb hp => he b hb (.inl hp), fun b ⟨z, hz⟩ => .inl ⟨z, (only_some hz).2⟩, fun x b hx hb => (only_at hx).trans hb, fun x b hx hb => he b (hlt x b hb) (.inr ⟨x, hx, hb⟩)⟩
/-- A captured value, as the closure's code sees it in a later world. -/
theorem lend_later (hr : Rel B ρ st a w) {xs : List Nat} (he : Ext ρ xs w w') {s : S} {v : Value} (h : RepS B ρ w s v) (hx : ∀ x ∈ s.reach st.mem, x ∈ xs) :
    RepS (B.lend (ρ.only xs) w') noNames w' (s.lend st.mem) v := by
  have k := kept_only he hr.lt
  have hn : ∀ x, s.names x = true → x ∈ xs := fun x hs => hx x (by unfold S.reach; exact List.mem_append_left _ (names_nameL hs))
  have h' : RepS B (ρ.only xs) w' s v := h.mono k hn (fun x hs => hn x (reads_names hs))
  cases s with
  | ptr y o =>
    have hys : y ∈ xs := hn y (by simp [S.names])
    have hbox : ∀ cs, mget st.mem y = some cs → BoxAt B (ρ.only xs) w' y cs := by
      intro cs hcs
      obtain ⟨b, arr, ty, hb, hh, hl, hc⟩ := hr.mem y cs hcs
      have hblt := hr.lt y b hb
      refine ⟨b, arr, ty, (only_at hys).trans hb, (he b hblt (.inr ⟨y, hys, hb⟩)).trans hh, hl, fun j c hj => ?_⟩
      obtain ⟨u, h1, h2⟩ := hc j c hj
      have hcn : ∀ x, c.names x = true → x ∈ xs := fun x hcx => hx x (by
        unfold S.reach
        refine List.mem_append_right _ ?_
        simp only [hcs]
        exact List.mem_flatMap.2 ⟨c, List.mem_of_getElem? hj, names_nameL hcx⟩)
      exact ⟨u, h1, h2.mono k hcn (fun x hs => hcn x (reads_names hs))⟩
    have : (S.ptr y o).lend st.mem = (S.ptr y o).lend (match mget st.mem y with | some cs => [(y, cs)] | none => []) := by
      cases hm : mget st.mem y with
      | none => simp [S.lend, hm, mget]
      | some cs => simp [S.lend, hm, mget]
    rw [this]
    refine lend_repS' (fun x cs hcs _ => ?_) h'
    cases hm : mget st.mem y with
    | none => rw [hm] at hcs; simp [mget] at hcs
    | some cs' =>
      rw [hm] at hcs
      simp only [mget] at hcs
      split at hcs
      · rename_i e
        cases hcs
        have : y = x := by simpa using e
        subst this
        exact hbox _ hm
      · simp [mget] at hcs
  | sl g z es => exact lend_repS' (m := []) (fun x cs hcs => by cases hcs) h'
  | el g cs => exact lend_repS' (m := []) (fun x cs hcs => by cases hcs) h'
  | fn ys p => exact lend_repS' (m := []) (fun x cs hcs => by cases hcs) h'
  | fref ys p => exact lend_repS' (m := []) (fun x cs hcs => by cases hcs) h'
  | sem C => exact lend_repS' (m := []) (fun x cs hcs => by cases hcs) h'
  | fm ys y C => exact lend_repS' (m := []) (fun x cs hcs => by cases hcs) h'
  | un => exact h'
  | bool b => exact lend_repS' (m := []) (fun x cs hcs => by cases hcs) h'
  | int k n => exact lend_repS' (m := []) (fun x cs hcs => by cases hcs) h'
  | str q => exact lend_repS' (m := []) (fun x cs hcs => by cases hcs) h'
  | nilp => exact lend_repS' (m := []) (fun x cs hcs => by cases hcs) h'
theorem boundT_rep (hr : Rel B ρ st a w) {g : Bool} (hg : g = true) : ∀ (l : List Operand) (o : Prop) (ss : List S) (ys : List Nat), boundT st g l = some (o, ss, ys) → o →
    ∀ (xs : List Nat) (w' : World), (∀ y ∈ ys, y ∈ xs) → Ext ρ xs w w' → RepTs (B.lend (ρ.only xs) w') noNames w' (ss.map .one) (l.map a.eval)
  | [], o, ss, ys, h, _, xs, w', _, _ => by cases h; rfl
  | x :: r, o, ss, ys, h, ho, xs, w', hsub, he => by
    simp only [boundT] at h
    split at h
    · rename_i o1 s o2 ss' ys' h1 h2
      cases h
      have hrx := hr.rd hg x (by rw [h1]; exact ho.1)
      rw [h1] at hrx
      exact ⟨_, _, rfl, lend_later hr he hrx (fun y hy => hsub y (List.mem_append_left _ hy)), boundT_rep hr hg r o2 ss' ys' h2 ho.2 xs w' (fun y hy => hsub y (List.mem_append_right _ hy)) he⟩
    · cases h
theorem repTs_append : ∀ {l l' : List T} {vs vs' : List Value}, RepTs B ρ w l vs → RepTs B ρ w l' vs' → RepTs B ρ w (l ++ l') (vs ++ vs')
  | [], _, _, _, h, h' => by cases h; exact h'
  | t :: r, _, _, _, ⟨v, vr, hv, h1, h2⟩, h' => by subst hv; exact ⟨v, _, rfl, h1, repTs_append h2 h'⟩
theorem repTs_of : ∀ vals : List Value, RepTs B ρ w (vals.map T.ofValue) vals
  | [] => rfl
  | v :: r => ⟨v, r, rfl, RepT.ofValue v, repTs_of r⟩
theorem fn_made (hr : Rel B ρ st a w) (hP : B.P = P) {g : Bool} (hg : g = true) {l : List Operand} {o : Prop} {ss : List S} {xs : List Nat} (h : boundT st g l = some (o, ss, xs)) (ho : o) (f : Nat) :
    RepS B ρ w (.fn xs fun vals => fnSpec G f ss vals) (.func (.func f) #[] (l.map a.eval).toArray) := by
  refine ⟨rfl, fun w' he => ?_⟩
  intro vals ob u hp hob
  unfold fnSpec at hp
  dsimp only at hp
  split at hp
  · rename_i ob' s hs
    split at hp
    · rename_i u' hu
      cases hp
      have hsim := G.good f _ _ _ hs hob
      refine ⟨f, _, rfl, by rw [hP]; exact hsim.1, ?_⟩
      have hb := boundT_rep hr hg l o ss xs h ho xs w' (fun y hy => hy) he
      have hα : ∀ i b, (B.lend (ρ.only xs) w').α i = some b → b < w'.heap.size := by
        have key : ∀ b, b < w.heap.size → w'.heap[b]? = w.heap[b]? → b < w'.heap.size := by
          intro b hb e
          rw [Array.getElem?_eq_getElem hb] at e
          exact (Array.getElem?_eq_some_iff.1 e).1
        intro i b hi
        simp only [Base.lend] at hi
        split at hi
        · obtain ⟨h1, h2⟩ := only_some hi
          exact key b (hr.lt _ _ h2) (he b (hr.lt _ _ h2) (.inr ⟨_, h1, h2⟩))
        · obtain ⟨h1, h2⟩ := hr.args _ _ hi
          exact key b h2 (he b h2 (.inl h1))
      have hc := hsim.2 w' (B.lend (ρ.only xs) w').α (vals ++ l.map a.eval) hα (repTs_append (repTs_of vals) (by subst hP; exact hb))
      rw [hP]
      have e : (vals ++ l.map a.eval).toArray = vals.toArray ++ (l.map a.eval).toArray := by simp
      rw [e] at hc
      refine hc.mono ?_
      rintro e w'' ⟨v, ρ', rfl, hv, hgv⟩
      have := val_rep hv hu
      subst this
      exact ⟨rfl, hgv.keeps.os, hgv.keeps.tape, hgv.keeps.output, hgv.keeps.size, fun b hb => hgv.keeps.block b hb (fun h => h)⟩
    · cases hp
  · cases hp
theorem ext_refl (xs : List Nat) : Ext ρ xs w w := fun _ _ _ => rfl
theorem fn_run (hr : Rel B ρ st a w) (hP : B.P = P) {g : Bool} (hg : g = true) {o : Oper} {ob : Prop} {t : T} (h : fnK G g st o.op = some (ob, t)) (ho : ob)
    {next : Act → World → Prop} {Q : Exit → Act → World → Prop}
    (hn : ∀ val w', Rel B ρ st a w' → RepT B ρ w' t val → next (a.put o.dst val) w') : o.wp P a w next Q := by
  unfold fnK at h
  split at h
  · rename_i c hop
    split at h
    · rename_i x hcal
      split at h
      · rename_i o1 xs p oa vs h1 h2
        split at h
        · rename_i ob' u hp
          cases h
          obtain ⟨ho1, ho2, ho3⟩ := ho
          have hrx := hr.rd hg x (by rw [h1]; exact ho1)
          rw [h1] at hrx
          have hvs := argsV_run hr hg _ _ _ h2 ho2
          obtain ⟨f, bound, hv, hen, hc⟩ := hrx.2 w (ext_refl xs) vs ob' u hp ho3
          rw [hP] at hen hc
          have hvs' : c.args.map a.eval = vs.toArray := by
            apply Array.ext'
            rw [Array.toList_map, hvs]
          have hrun : (execOp a.eval o).run P w = .ok (.enter f (vs.toArray ++ bound)) w := by
            unfold execOp
            rw [hop]
            simp [resolve, hcal, hv, Deferred.ofValue, invoke, hen, hvs']
          unfold Oper.wp
          rw [hrun, Oper.upon_enter]
          refine hc.mono ?_
          rintro e w' ⟨rfl, k1, k2, k3, k4, k5⟩
          have hgv : Gave B.P (B.lend ρ w).α w w' noNames := ⟨⟨k1, k2, k3, k4, fun b hb _ => k5 b hb⟩, fun x b hx => (by cases hx), fun x y b hx => (by cases hx)⟩
          exact hn u w' (hr.pub hgv (r := .un) (v := undef) trivial).1 (RepT.ofValue u)
        · cases h
      · cases h
    · cases h
  · rename_i f first cap hop
    split at h
    · rename_i hfst
      subst hfst
      split at h
      · rename_i o1 l xs hb
        cases h
        have hm := fn_made (G := G) hr hP hg hb ho f
        have hrun : (execOp a.eval o).run P w = .ok (.value (.func (.func f) #[] (cap.map a.eval))) w := by
          unfold execOp
          rw [hop]
          simp [Instr.makeFunc]
        unfold Oper.wp
        rw [hrun, Oper.upon_value]
        refine hn _ w hr ?_
        have e : (cap.toList.map a.eval).toArray = cap.map a.eval := by apply Array.ext'; simp
        rw [e] at hm
        exact hm
      · cases h
    · cases h
  · cases h
end

section
variable (P : Program) (G : Book P)
/-- What is not wanted needs no sense. -/
def idleK (g : Bool) (o : Oper) (K : T → Prop) : Prop :=
  match g with
  | true => Stuck o
  | false => K .un
/-- A call under a guard, or in any order: its result is shared memory. -/
def callK (g : Bool) (st : St) (o : Oper) (K : T → Prop) : Prop :=
  match callOf st g o.op with
  | some (f, ob, args) => match G.spec f args with
    | some (ob', r) => (g = true → ob ∧ ob') ∧ K (r.back 0 [])
    | none => idleK g o K
  | none => match fnK G g st o.op with
    | some (ob, t) => (g = true → ob) ∧ K t
    | none => idleK g o K
/-- An operation that lays no memory of the call's own and writes none. -/
def quietK (ops : Array Oper) (o : Oper) (st : St) (K : T → Prop) : Prop :=
  match guardOf ops st o with
  | .bad => Stuck o
  | .free => match pureOp P true st o.op with
    | some (ob, v) => ob ∧ K v
    | none => callK P G true st o K
  | .is c => match pureOp P c st o.op with
    | some (ob, v) => (c = true → ob) ∧ K (.grd c v)
    | none => callK P G c st o fun v => K (.grd c v)
def stepK (ops : Array Oper) (o : Oper) (st : St) (K : St → Prop) : Prop :=
  match guardOf ops st o with
  | .bad => Stuck o
  | .free => match pureOp P true st o.op with
    | some (ob, v) => ob ∧ K (st.put o.dst v)
    | none => match effOp P st o.dst o.op with
      | some (ob, st') => ob ∧ K st'
      | none => match callOf st true o.op with
        | some (f, ob, args) => match G.spec f args with
          | some (ob', r) => (ob ∧ ob') ∧ K (st.ret o.dst r)
          | none => Stuck o
        | none => match fnK G true st o.op with
          | some (ob, t) => ob ∧ K (st.put o.dst t)
          | none => Stuck o
  | .is c => match pureOp P c st o.op with
    | some (ob, v) => (c = true → ob) ∧ K (st.put o.dst (.grd c v))
    | none => callK P G c st o fun v => K (st.put o.dst (.grd c v))
def regK (ops : Array Oper) : List Oper → St → (St → Prop) → Prop
  | [], st, K => K st
  | o :: r, st, K => stepK P G ops o st fun st' => regK ops r st' K
def drawK (ops : Array Oper) : List Oper → St → (St → Prop) → Prop
  | [], st, K => K st
  | o :: r, st, K => quietK P G ops o st fun v => drawK ops r (st.put o.dst v) K
end

section
variable {P : Program} {G : Book P} {B : Base} {ρ : Names} {st : St} {a : Act} {w : World} {ops : Array Oper}

theorem guard_run (hr : Rel B ρ st a w) (o : Oper) :
    match guardOf ops st o with
    | .free => Region.wanted o (yielded ops a.tmps) = true
    | .is c => Region.wanted o (yielded ops a.tmps) = c
    | .bad => True := by
  cases hg : o.guard with
  | none => simp [guardOf, hg, Region.wanted]
  | some gw =>
    obtain ⟨i, want⟩ := gw
    simp only [guardOf, hg]
    cases ht : (ops[i]?).bind (·.dst) with
    | none => trivial
    | some t =>
      simp only
      have h := hr.tmps t
      have hy : yielded ops a.tmps i = match a.tmps[t]? with
        | some (.bool b) => some b
        | _ => none := by simp only [yielded, ht, Option.bind_some]; rfl
      cases hq : st.tmps[t]? with
      | none => simp [List.getD_eq_getElem?_getD, hq]
      | some v =>
        have hv := h v hq
        have hlt : t < a.tmps.size := by rw [hr.len]; exact (List.getElem?_eq_some_iff.1 hq).1
        rw [Array.getD_eq_getD_getElem?, Array.getElem?_eq_getElem hlt, Option.getD_some] at hv
        rw [Array.getElem?_eq_getElem hlt] at hy
        simp only [List.getD_eq_getElem?_getD, hq, Option.getD_some]
        have key : ∀ b, a.tmps[t] = .bool b → Region.wanted o (yielded ops a.tmps) = (b == want) := by
          intro b hb
          simp only [Region.wanted, hg, hy, hb]
          cases b <;> cases want <;> rfl
        split
        · rename_i hs
          split at hs
          · cases hs
          · cases hs
          · cases hs
        · rename_i c hs
          split at hs
          · rename_i b
            cases hs
            exact key b hv
          · rename_i c' b
            cases hs
            cases c' with
            | true => simpa using key b (hv.1 rfl)
            | false =>
              have := hv.2 rfl
              simp only [Region.wanted, hg, hy, this, undef]
              rfl
          · cases hs
        · trivial

/-- An operation that is wanted, or not. -/
theorem quiet_run (hP : B.P = P) {o : Oper} {K : T → Prop} (h : quietK P G ops o st K) : ∃ v, K v ∧ (∀ {ρ : Names} {a : Act} {w : World}, Rel B ρ st a w → ∀ {next : Act → World → Prop} {Q : Exit → Act → World → Prop},
    (∀ val w', Rel B ρ st a w' → RepT B ρ w' v val → next (a.put o.dst val) w') →
      if Region.wanted o (yielded ops a.tmps) then o.wp P a w next Q else next (a.put o.dst undef) w) := by
  unfold quietK at h
  have calls : ∀ (g : Bool) (K : T → Prop), callK P G g st o K → ∃ v, K v ∧ (∀ {ρ : Names} {a : Act} {w : World}, Rel B ρ st a w → g = true → ∀ {next : Act → World → Prop} {Q : Exit → Act → World → Prop},
      (∀ val w', Rel B ρ st a w' → RepT B ρ w' v val → next (a.put o.dst val) w') → o.wp P a w next Q) := by
    intro g K h
    have idle : idleK g o K → ∃ v, K v ∧ (∀ {ρ : Names} {a : Act} {w : World}, Rel B ρ st a w → g = true → ∀ {next : Act → World → Prop} {Q : Exit → Act → World → Prop},
      (∀ val w', Rel B ρ st a w' → RepT B ρ w' v val → next (a.put o.dst val) w') → o.wp P a w next Q) := by
      intro h
      cases g with
      | true => exact h.elim
      | false => exact ⟨.un, h, fun _ hg => by cases hg⟩
    unfold callK at h
    split at h
    · rename_i f ob args hc
      split at h
      · rename_i ob' r hs
        refine ⟨_, h.2, fun hr hg next Q hn => ?_⟩
        subst hg
        obtain ⟨h1, h2⟩ := h.1 rfl
        exact call_calls hr hP hc h1 (G.good f args ob' r hs h2) fun v w' ρ' hv hgv => by
          obtain ⟨q1, q2⟩ := hr.pub hgv hv
          exact hn v w' q1 q2
      · exact idle h
    · split at h
      · rename_i ob t hf
        exact ⟨t, h.2, fun hr hg next Q hn => fn_run hr hP hg hf (h.1 hg) hn⟩
      · exact idle h
  have pures : ∀ {g : Bool} {ob : Prop} {v : T}, pureOp P g st o.op = some (ob, v) → (g = true → ob) → ∀ {ρ : Names} {a : Act} {w : World}, Rel B ρ st a w → g = true →
      ∀ {next : Act → World → Prop} {Q : Exit → Act → World → Prop}, (∀ val w', Rel B ρ st a w' → RepT B ρ w' v val → next (a.put o.dst val) w') → o.wp P a w next Q := by
    intro g ob v hp ho ρ a w hr hg next Q hn
    obtain ⟨val, h1, h2⟩ := pure_run hr hg hp (ho hg)
    unfold Oper.wp
    rw [h1, Oper.upon_value]
    exact hn val w hr h2
  split at h
  · exact h.elim
  · rename_i hgd
    have wanted : ∀ {ρ : Names} {a : Act} {w : World}, Rel B ρ st a w → Region.wanted o (yielded ops a.tmps) = true := fun hr => by
      have := guard_run (ops := ops) hr o
      rw [hgd] at this
      exact this
    split at h
    · rename_i ob v hp
      exact ⟨v, h.2, fun hr next Q hn => by rw [wanted hr, if_pos rfl]; exact pures hp (fun _ => h.1) hr rfl hn⟩
    · obtain ⟨v, hk, hv⟩ := calls true _ h
      exact ⟨v, hk, fun hr next Q hn => by rw [wanted hr, if_pos rfl]; exact hv hr rfl hn⟩
  · rename_i c hgd
    have wanted : ∀ {ρ : Names} {a : Act} {w : World}, Rel B ρ st a w → Region.wanted o (yielded ops a.tmps) = c := fun hr => by
      have := guard_run (ops := ops) hr o
      rw [hgd] at this
      exact this
    split at h
    · rename_i ob v hp
      refine ⟨.grd c v, h.2, fun hr next Q hn => ?_⟩
      rw [wanted hr]
      cases c with
      | true =>
        rw [if_pos rfl]
        exact pures hp h.1 hr rfl fun val w' hr' hv => hn val w' hr' ⟨fun _ => hv, fun hf => (by cases hf)⟩
      | false => exact hn undef _ hr ⟨fun hf => (by cases hf), fun _ => rfl⟩
    · obtain ⟨v, hk, hv⟩ := calls c _ h
      refine ⟨.grd c v, hk, fun hr next Q hn => ?_⟩
      rw [wanted hr]
      cases c with
      | true =>
        rw [if_pos rfl]
        exact hv hr rfl fun val w' hr' hv => hn val w' hr' ⟨fun _ => hv, fun hf => (by cases hf)⟩
      | false => exact hn undef _ hr ⟨fun hf => (by cases hf), fun _ => rfl⟩

theorem step_of_quiet {o : Oper} {K : St → Prop} (h : stepK P G ops o st K) : quietK P G ops o st (fun v => K (st.put o.dst v)) ∨
    (guardOf ops st o = .free ∧ pureOp P true st o.op = none ∧ ((∃ ob st', effOp P st o.dst o.op = some (ob, st') ∧ ob ∧ K st') ∨
      ∃ f ob args ob' r, callOf st true o.op = some (f, ob, args) ∧ G.spec f args = some (ob', r) ∧ ob ∧ ob' ∧ K (st.ret o.dst r))) := by
  unfold stepK at h
  unfold quietK
  split at h
  · exact h.elim
  · rename_i hgd
    split at h
    · rename_i ob v hp
      left
      simp only [hgd, hp]
      exact h
    · rename_i hp
      split at h
      · rename_i ob st' he
        exact .inr ⟨hgd, hp, .inl ⟨ob, st', he, h.1, h.2⟩⟩
      · split at h
        · rename_i f ob args hc
          split at h
          · rename_i ob' r hs
            exact .inr ⟨hgd, hp, .inr ⟨f, ob, args, ob', r, hc, hs, h.1.1, h.1.2, h.2⟩⟩
          · exact h.elim
        · rename_i hc
          split at h
          · rename_i ob t hf
            left
            simp only [hgd, hp, callK, hc, hf]
            exact ⟨fun _ => h.1, h.2⟩
          · exact h.elim
  · rename_i c hgd
    left
    exact h

theorem step_run (hP : B.P = P) {o : Oper} {i : Nat} (hi : ops[i]? = some o) {K : St → Prop} (h : stepK P G ops o st K) (hr : Rel B ρ st a w) {next : Act → World → Prop} {Q : Exit → Act → World → Prop}
    (hn : ∀ ρ' st' a' w', Rel B ρ' st' a' w' → K st' → next a' w') : wpOp P ops Q i next a w := by
  unfold wpOp
  rw [hi]
  simp only
  rcases step_of_quiet h with h | ⟨hgd, hp, h⟩
  · obtain ⟨v, hk, hv⟩ := quiet_run (B := B) hP h
    have := hv hr (next := next) (Q := Q) (fun val w' hr' hrep => hn _ _ _ _ (hr'.put o.dst hrep) hk)
    split
    · rename_i hw; rw [if_pos hw] at this; exact .inl this
    · rename_i hw; rw [if_neg hw] at this; exact this
  · have hw := guard_run (ops := ops) hr o
    rw [hgd] at hw
    simp only at hw
    rw [if_pos hw]
    refine .inl ?_
    rcases h with ⟨ob, st', he, ho, hk⟩ | ⟨f, ob, args, ob', r, hc, hs, h1, h2, hk⟩
    · unfold Oper.wp
      rcases eff_run hr he ho with ⟨v, ρ', w', h1, h2⟩ | ⟨ρ', w', h1, h2⟩
      · rw [h1, Oper.upon_value]
        exact hn _ _ _ _ h2 hk
      · rw [h1, Oper.upon_skip]
        exact hn _ _ _ _ h2 hk
    · exact call_calls hr hP hc h1 (G.good f args ob' r hs h2) fun v w' ρ' hv hgv => by
        obtain ⟨ρ'', h⟩ := hr.ret hgv hv o.dst
        exact hn _ _ _ _ h hk

theorem reg_run (hP : B.P = P) {Q : Exit → Act → World → Prop} : ∀ (l : List Oper) (n : Nat) (st : St) (a : Act) (w : World) (ρ : Names) (K : St → Prop), ops.toList.drop n = l → regK P G ops l st K → Rel B ρ st a w →
    (∀ ρ' st' a' w', Rel B ρ' st' a' w' → K st' → Q .normal a' w') → wpOps P ops Q (List.range' n l.length) a w
  | [], n, st, a, w, ρ, K, hd, h, hr, hn => hn ρ st a w hr h
  | o :: l, n, st, a, w, ρ, K, hd, h, hr, hn => by
    have hi : ops[n]? = some o := by
      have : (ops.toList.drop n)[0]? = some o := by rw [hd]; rfl
      simpa using this
    have hd' : ops.toList.drop (n + 1) = l := by rw [← List.tail_drop, hd]; rfl
    rw [List.length_cons, List.range'_succ, wpOps_cons]
    exact step_run hP hi h hr fun ρ' st' a' w' hr' hk => reg_run hP l (n + 1) st' a' w' ρ' K hd' hk hr' hn
end
end Go.PS
