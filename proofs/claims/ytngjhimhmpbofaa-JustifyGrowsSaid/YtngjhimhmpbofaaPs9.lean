/- A region whose operations the program may run in any order that its edges allow: all orders come to one state. -/
import Derived.Test.YtngjhimhmpbofaaPs8
set_option linter.unusedVariables false
set_option linter.unusedSimpArgs false
namespace Go.PS
open Go

section
variable {P : Program} {G : Book P} {B : Base} {ρ : Names} {st st' : St} {a : Act} {w : World} {ops : Array Oper}

theorem bound_congr {g : Bool} {d : Int} : ∀ {x : Option Operand}, (∀ y, x = some y → st.eval y = st'.eval y) → bound st g d x = bound st' g d x
  | none, _ => rfl
  | some y, h => by simp only [bound, St.rd, h y rfl]
theorem fillT_congr {g : Bool} {place : Nat → Option (Nat × Nat)} : ∀ (l : List (Nat × Operand)) (cells : List S), (∀ p ∈ l, st.eval p.2 = st'.eval p.2) → fillT st g place cells l = fillT st' g place cells l
  | [], _, _ => rfl
  | (i, x) :: r, cells, h => by
    have hx : st.eval x = st'.eval x := h (i, x) (by simp)
    have hr : ∀ c, fillT st g place c r = fillT st' g place c r := fun c => fillT_congr r c fun p hp => h p (by simp [hp])
    simp only [fillT, St.rd, hx, hr]
theorem pureOp_congr {g : Bool} {op : Op} (hm : st.mem = st'.mem) (h : ∀ x ∈ op.operands, st.eval x = st'.eval x) : pureOp P g st op = pureOp P g st' op := by
  cases op <;> simp only [Op.operands] at h <;> simp only [pureOp]
  case move x => simp only [St.rd, h x (by simp)]
  case assign x => simp only [St.rd, h x (by simp)]
  case pick c x y => simp only [St.rd, h c (by simp), h x (by simp), h y (by simp)]
  case nilCheck x => simp only [St.rd, h x (by simp)]
  case unOp x => simp only [St.rd, h _ (by simp; rfl)]
  case binOp op t x y z => simp only [St.rd, h x (by simp), h y (by simp)]
  case convert s d x => simp only [St.rd, h x (by simp)]
  case field t x f => simp only [St.rd, h x (by simp)]
  case fieldAddr t x f => simp only [St.rd, h x (by simp)]
  case indexAddr t x i => simp only [St.rd, h x (by simp), h i (by simp)]
  case index t x i => simp only [St.rd, h x (by simp), h i (by simp)]
  case load t x => simp only [St.rd, h x (by simp), hm]
  case slice t x lo hi mx =>
    have h1 := h x (by simp)
    have h2 : ∀ d, bound st g d lo = bound st' g d lo := fun d => bound_congr fun y hy => h y (by subst hy; simp)
    have h3 : ∀ d, bound st g d hi = bound st' g d hi := fun d => bound_congr fun y hy => h y (by subst hy; simp)
    simp only [St.rd, h1, h2, h3, hm]
  case extract x i => simp only [St.rd, h x (by simp)]
  case build t ps =>
    have : ∀ c pl, fillT st g pl c ps.toList = fillT st' g pl c ps.toList := fun c pl => fillT_congr _ _ fun p hp => h p.2 (by simp only [List.mem_toArray, List.mem_map]; exact ⟨p, hp, rfl⟩)
    simp only [this]
  case call c =>
    have ha : ∀ x ∈ c.args.toList, st.eval x = st'.eval x := fun x hx => h x (by simp only [Call.operands, Array.mem_append]; exact .inr (by simpa using hx))
    have h0 : ∀ (i : Nat) (x : Operand), c.args.toList[i]? = some x → ∀ g, st.rd g x = st'.rd g x := fun i x hx g => by simp only [St.rd, ha x (List.mem_of_getElem? hx)]
    split
    · rename_i hargs; rw [hargs] at h0; simp only [h0 0 _ rfl]
    · rename_i hargs; rw [hargs] at h0; simp only [h0 0 _ rfl, h0 1 _ rfl]
    · rename_i hargs; rw [hargs] at h0; simp only [h0 0 _ rfl, h0 1 _ rfl]
    · rfl
theorem argsT_congr {g : Bool} (hm : st.mem = st'.mem) : ∀ (l : List Operand), (∀ x ∈ l, st.eval x = st'.eval x) → argsT st g l = argsT st' g l
  | [], _ => rfl
  | x :: r, h => by
    have hx : st.eval x = st'.eval x := h x (by simp)
    simp only [argsT, St.rd, hx, argsT_congr hm r (fun y hy => h y (by simp [hy])), hm]
theorem callOf_congr {g : Bool} {op : Op} (hm : st.mem = st'.mem) (h : ∀ x ∈ op.operands, st.eval x = st'.eval x) : callOf st g op = callOf st' g op := by
  cases op <;> try rfl
  case call c =>
    simp only [Op.operands] at h
    have ha : ∀ x ∈ c.args.toList, st.eval x = st'.eval x := fun x hx => h x (by simp only [Call.operands, Array.mem_append]; exact .inr (by simpa using hx))
    simp only [callOf, argsT_congr hm _ ha]
theorem argsV_congr {g : Bool} : ∀ (l : List Operand), (∀ x ∈ l, st.eval x = st'.eval x) → argsV st g l = argsV st' g l
  | [], _ => rfl
  | x :: r, h => by simp only [argsV, St.rd, h x (by simp), argsV_congr r (fun y hy => h y (by simp [hy]))]
theorem boundT_congr {g : Bool} (hm : st.mem = st'.mem) : ∀ (l : List Operand), (∀ x ∈ l, st.eval x = st'.eval x) → boundT st g l = boundT st' g l
  | [], _ => rfl
  | x :: r, h => by simp only [boundT, St.rd, h x (by simp), hm, boundT_congr hm r (fun y hy => h y (by simp [hy]))]
theorem fnK_congr {g : Bool} {op : Op} (hm : st.mem = st'.mem) (h : ∀ x ∈ op.operands, st.eval x = st'.eval x) : fnK G g st op = fnK G g st' op := by
  cases op with
  | call c =>
    simp only [Op.operands] at h
    have ha : ∀ x ∈ c.args.toList, st.eval x = st'.eval x := fun x hx => h x (by simp only [Call.operands, Array.mem_append]; exact .inr (by simpa using hx))
    simp only [fnK]
    cases hcal : c.callee with
    | value f =>
      have hf : st.eval f = st'.eval f := h f (by simp [Call.operands, hcal])
      simp only [St.rd, hf, argsV_congr _ ha]
    | _ => rfl
  | makeFunc fn first cap =>
    simp only [Op.operands] at h
    have ha : ∀ x ∈ cap.toList, st.eval x = st'.eval x := fun x hx => h x (by simp only [Array.mem_append]; exact .inr (by simpa using hx))
    cases fn <;> simp only [fnK, boundT_congr hm _ ha]
  | _ => rfl
/-- Two states agree on what an operation looks at. -/
def Agree (ops : Array Oper) (o : Oper) (st st' : St) : Prop := st.mem = st'.mem ∧ ∀ t ∈ o.looksAt ops, st.tmps.getD t .un = st'.tmps.getD t .un
theorem quiet_congr {o : Oper} (h : Agree ops o st st') {K : T → Prop} : quietK P G ops o st K = quietK P G ops o st' K := by
  obtain ⟨hm, ht⟩ := h
  have he : ∀ x ∈ o.op.operands, st.eval x = st'.eval x := by
    intro x hx
    cases x with
    | tmp t => exact ht t (List.mem_append_left _ (List.mem_filterMap.2 ⟨.tmp t, by simpa using hx, rfl⟩))
    | _ => rfl
  have hg : guardOf ops st o = guardOf ops st' o := by
    unfold guardOf
    cases hgo : o.guard with
    | none => rfl
    | some gw =>
      obtain ⟨i, want⟩ := gw
      simp only
      cases hd : (ops[i]?).bind (·.dst) with
      | none => rfl
      | some t =>
        have : st.tmps.getD t .un = st'.tmps.getD t .un := ht t (List.mem_append_right _ (by simp only [hgo, hd]; simp))
        simp only [this]
  have hp : ∀ g, pureOp P g st o.op = pureOp P g st' o.op := fun g => pureOp_congr hm he
  have hc : ∀ g K, callK P G g st o K = callK P G g st' o K := fun g K => by simp only [callK, callOf_congr hm he, fnK_congr (G := G) hm he]
  simp only [quietK, hg, hp, hc]

/-! ### A state in which some of the operations have run -/
def mix (st : St) : List Oper → List T → (Nat → Bool) → St
  | o :: l, v :: vs, b => mix (if b 0 then st.put o.dst v else st) l vs fun i => b (i + 1)
  | _, _, _ => st
theorem mix_mem : ∀ (l : List Oper) (vs : List T) (b : Nat → Bool) (st : St), (mix st l vs b).mem = st.mem ∧ (mix st l vs b).tmps.length = st.tmps.length
  | [], vs, b, st => by cases vs <;> exact ⟨rfl, rfl⟩
  | o :: l, [], b, st => ⟨rfl, rfl⟩
  | o :: l, v :: vs, b, st => by
    have ih := mix_mem l vs (fun i => b (i + 1)) (if b 0 then st.put o.dst v else st)
    simp only [mix]
    constructor
    · rw [ih.1]; split
      · cases o.dst <;> rfl
      · rfl
    · rw [ih.2]; split
      · cases o.dst <;> simp [St.put]
      · rfl
theorem put_other {dst : Option Nat} {v : T} {t : Nat} (h : dst ≠ some t) : (st.put dst v).tmps[t]? = st.tmps[t]? := by
  cases dst with
  | none => rfl
  | some d => simp only [St.put]; rw [List.getElem?_set_ne (fun e => h (by rw [e]))]
theorem put_self {v : T} {t : Nat} : (st.put (some t) v).tmps[t]? = if t < st.tmps.length then some v else none := by
  simp only [St.put]
  by_cases h : t < st.tmps.length
  · rw [List.getElem?_set_self h, if_pos h]
  · rw [if_neg h, List.getElem?_eq_none]; simpa using h
theorem mix_none (t : Nat) : ∀ (l : List Oper) (vs : List T) (b : Nat → Bool) (st : St), (∀ (i : Nat) (o : Oper), l[i]? = some o → b i = true → o.dst ≠ some t) → (mix st l vs b).tmps[t]? = st.tmps[t]?
  | [], vs, b, st, h => by cases vs <;> rfl
  | o :: l, [], b, st, h => rfl
  | o :: l, v :: vs, b, st, h => by
    simp only [mix]
    rw [mix_none t l vs _ _ (fun i o' hi hb => h (i + 1) o' (by simpa using hi) hb)]
    split
    · rename_i hb; exact put_other (h 0 o rfl hb)
    · rfl
theorem mix_some (t : Nat) : ∀ (l : List Oper) (vs : List T) (b : Nat → Bool) (st : St) (j : Nat) (oj : Oper) (vj : T), l[j]? = some oj → vs[j]? = some vj → oj.dst = some t → b j = true →
    (∀ (i : Nat) (o : Oper), i ≠ j → l[i]? = some o → o.dst ≠ some t) → (mix st l vs b).tmps[t]? = if t < st.tmps.length then some vj else none
  | [], vs, b, st, j, oj, vj, hj, _, _, _, _ => by simp at hj
  | o :: l, [], b, st, j, oj, vj, _, hv, _, _, _ => by simp at hv
  | o :: l, v :: vs, b, st, 0, oj, vj, hj, hv, hd, hb, hn => by
    simp only [List.getElem?_cons_zero, Option.some.injEq] at hj hv
    subst hj; subst hv
    simp only [mix, hb, if_true]
    rw [mix_none t l vs _ _ (fun i o' hi _ => hn (i + 1) o' (by omega) (by simpa using hi))]
    simp only [hd, St.put, List.getElem?_set_self']
    by_cases hlt : t < st.tmps.length <;> simp [hlt]
  | o :: l, v :: vs, b, st, j + 1, oj, vj, hj, hv, hd, hb, hn => by
    simp only [mix]
    rw [mix_some t l vs _ _ j oj vj (by simpa using hj) (by simpa using hv) hd hb (fun i o' hi ho => hn (i + 1) o' (by omega) (by simpa using ho))]
    have : (if b 0 then st.put o.dst v else st).tmps.length = st.tmps.length := by
      split
      · cases o.dst <;> simp [St.put]
      · rfl
    rw [this]
theorem St.ext' {s s' : St} (h1 : ∀ t : Nat, s.tmps[t]? = s'.tmps[t]?) (h2 : s.mem = s'.mem) : s = s' := by
  cases s; cases s'
  simp only [St.mk.injEq]
  exact ⟨List.ext_getElem? h1, h2⟩

theorem draw_vals : ∀ (l : List Oper) (st : St) (K : St → Prop), drawK P G ops l st K → ∃ vs : List T, vs.length = l.length ∧
    (∀ (i : Nat) (o : Oper) (v : T), l[i]? = some o → vs[i]? = some v → quietK P G ops o (mix st l vs (fun k => decide (k < i))) (fun v' => v' = v)) ∧ K (mix st l vs fun _ => true)
  | [], st, K, h => ⟨[], rfl, fun i o v hi => by simp at hi, h⟩
  | o :: l, st, K, h => by
    have hq : ∀ {K : T → Prop}, quietK P G ops o st K → ∃ v, K v ∧ quietK P G ops o st (fun v' => v' = v) := by
      intro K h
      have hc : ∀ (g : Bool) (K : T → Prop) , callK P G g st o K → ∃ v, K v ∧ callK P G g st o (fun v' => v' = v) := by
        intro g K h
        have idle : idleK g o K → ∃ v, K v ∧ idleK g o (fun v' => v' = v) := by
          intro h
          cases g with
          | true => exact h.elim
          | false => exact ⟨.un, h, rfl⟩
        unfold callK at *
        split at h
        · split at h
          · exact ⟨_, h.2, h.1, rfl⟩
          · exact idle h
        · split at h
          · exact ⟨_, h.2, h.1, rfl⟩
          · exact idle h
      unfold quietK at *
      split at h
      · exact h.elim
      · split at h
        · exact ⟨_, h.2, h.1, rfl⟩
        · obtain ⟨v, h1, h2⟩ := hc true K h
          exact ⟨v, h1, h2⟩
      · split at h
        · exact ⟨_, h.2, h.1, rfl⟩
        · rename_i c _ _ _
          obtain ⟨v, h1, h2⟩ := hc c _ h
          refine ⟨.grd c v, h1, ?_⟩
          have idle : idleK c o (fun v' => v' = v) → idleK c o (fun v' => T.grd c v' = .grd c v) := by
            intro h
            cases c with
            | true => exact h.elim
            | false => exact congrArg _ h
          unfold callK at *
          split at h2
          · split at h2
            · exact ⟨h2.1, by rw [h2.2]⟩
            · exact idle h2
          · split at h2
            · exact ⟨h2.1, by rw [h2.2]⟩
            · exact idle h2
    obtain ⟨v, hk, hv⟩ := hq h
    obtain ⟨vs, hl, hvs, hK⟩ := draw_vals l (st.put o.dst v) K hk
    refine ⟨v :: vs, by simp [hl], fun i o' v' hi hv' => ?_, by simpa [mix] using hK⟩
    cases i with
    | zero =>
      simp only [List.getElem?_cons_zero, Option.some.injEq] at hi hv'
      subst hi; subst hv'
      have : mix st (o :: l) (v :: vs) (fun k => decide (k < 0)) = st := by
        apply St.ext'
        · intro t; exact mix_none t _ _ _ _ (fun i o _ hb => by simp at hb)
        · exact (mix_mem _ _ _ _).1
      rw [this]; exact hv
    | succ i =>
      have := hvs i o' v' (by simpa using hi) (by simpa using hv')
      simp only [mix]
      simpa using this

/-- The edges tell enough: an operation that looks at another's result comes after it, in the text and by an edge; no two have one result. -/
def okDraw (ops : Array Oper) : Bool :=
  (List.range ops.size).all fun j => match ops[j]? with
    | some oj => (oj.after.toList.all fun e => !Region.binds .any e || decide (e.on < j)) && (List.range ops.size).all fun i => match (ops[i]?).bind (·.dst) with
      | some d => (!(oj.looksAt ops).contains d || oj.after.toList.any fun e => Region.binds .any e && e.on == i) && (i == j || oj.dst != some d)
      | none => true
    | none => true
theorem okDraw_spec (h : okDraw ops = true) {j : Nat} {oj : Oper} (hj : ops[j]? = some oj) :
    (∀ e ∈ oj.after, Region.binds .any e = true → e.on < j) ∧
    (∀ (i : Nat) (oi : Oper) d, ops[i]? = some oi → oi.dst = some d → (d ∈ oj.looksAt ops → ∃ e ∈ oj.after, Region.binds .any e = true ∧ e.on = i) ∧ (i ≠ j → oj.dst ≠ some d)) := by
  unfold okDraw at h
  rw [List.all_eq_true] at h
  have hlt := (Array.getElem?_eq_some_iff.1 hj).1
  have h := h j (List.mem_range.2 hlt)
  simp only [hj, Bool.and_eq_true, List.all_eq_true] at h
  obtain ⟨h1, h2⟩ := h
  refine ⟨fun e he hb => ?_, fun i oi d hi hd => ?_⟩
  · have := h1 e (by simpa using he)
    simpa [hb] using this
  · have hil := (Array.getElem?_eq_some_iff.1 hi).1
    have := h2 i (List.mem_range.2 hil)
    simp only [hi, Option.bind_some, hd, Bool.and_eq_true, Bool.or_eq_true, Bool.not_eq_true', bne_iff_ne, ne_eq, beq_iff_eq] at this
    obtain ⟨q1, q2⟩ := this
    refine ⟨fun hm => ?_, fun hne => q2.resolve_left hne⟩
    rcases q1 with q1 | q1
    · simp at q1; exact absurd hm q1
    · rw [List.any_eq_true] at q1
      obtain ⟨e, he, hb⟩ := q1
      simp only [Bool.and_eq_true, beq_iff_eq] at hb
      exact ⟨e, by simpa using he, hb.1, hb.2⟩

def unlisted (ops : Array Oper) (listed : Array Bool) : List Nat := (List.range ops.size).filter fun i => !listed.getD i true
theorem ready_nil (h : okDraw ops = true) {listed : Array Bool} (hs : listed.size = ops.size) (hr : Region.ready .any ops listed = []) : ∀ j, j < ops.size → listed.getD j false = true := by
  intro j
  induction j using Nat.strongRecOn with
  | _ j ih =>
    intro hj
    cases hq : listed.getD j false with
    | true => rfl
    | false =>
      have ho : ops[j]? = some ops[j] := Array.getElem?_eq_getElem hj
      have : j ∈ Region.ready .any ops listed := by
        rw [mem_ready]
        refine ⟨?_, _, ho, fun e he hb => ?_⟩
        · have hl : j < listed.size := by omega
          rw [Array.getD_eq_getD_getElem?, Array.getElem?_eq_getElem hl] at hq ⊢
          simpa using hq
        · have hlt := (okDraw_spec h ho).1 e he hb
          exact ih e.on hlt (by omega)
      rw [hr] at this
      cases this

theorem draw_any (hP : B.P = P) {Q : Exit → Act → World → Prop} (hok : okDraw ops = true) {st : St} {vs : List T} (hl : vs.length = ops.size)
    (hvs : ∀ (i : Nat) (o : Oper) (v : T), ops[i]? = some o → vs[i]? = some v → quietK P G ops o (mix st ops.toList vs (fun k => decide (k < i))) (fun v' => v' = v))
    (hn : ∀ ρ a w, Rel B ρ (mix st ops.toList vs fun _ => true) a w → Q .normal a w) :
    ∀ (fuel : Nat) (listed : Array Bool) (a : Act) (w : World) (ρ : Names), listed.size = ops.size → (unlisted ops listed).length ≤ fuel →
      Rel B ρ (mix st ops.toList vs fun i => listed.getD i false) a w → wpAny P .any ops Q fuel listed a w := by
  have done : ∀ (listed : Array Bool) (a : Act) (w : World) (ρ : Names), listed.size = ops.size → Region.ready .any ops listed = [] →
      Rel B ρ (mix st ops.toList vs fun i => listed.getD i false) a w → Q .normal a w := by
    intro listed a w ρ hs hr h
    have hall := ready_nil hok hs hr
    refine hn ρ a w ?_
    have e : (mix st ops.toList vs fun i => listed.getD i false) = mix st ops.toList vs fun _ => true := by
      apply St.ext'
      · intro t
        by_cases hex : ∃ (i : Nat) (o : Oper), ops.toList[i]? = some o ∧ o.dst = some t
        · obtain ⟨i, o, hi, hd⟩ := hex
          have hi' : ops[i]? = some o := by simpa using hi
          have hlt := (Array.getElem?_eq_some_iff.1 hi').1
          have hv : vs[i]? = some vs[i] := List.getElem?_eq_getElem (by omega)
          have hu : ∀ (k : Nat) (o' : Oper), k ≠ i → ops.toList[k]? = some o' → o'.dst ≠ some t := fun k o' hne hk =>
            (okDraw_spec hok (j := k) (oj := o') (by simpa using hk)).2 i o t hi' hd |>.2 (Ne.symm hne)
          rw [mix_some t _ _ _ _ i o _ hi hv hd (hall i hlt) hu, mix_some t _ _ _ _ i o _ hi hv hd rfl hu]
        · rw [mix_none, mix_none]
          · intro i o hi _ hd; exact hex ⟨i, o, hi, hd⟩
          · intro i o hi _ hd; exact hex ⟨i, o, hi, hd⟩
      · rw [(mix_mem _ _ _ _).1, (mix_mem _ _ _ _).1]
    rwa [e] at h
  intro fuel
  induction fuel with
  | zero =>
    intro listed a w ρ hs hf h
    have hnil : Region.ready .any ops listed = [] := by
      have : unlisted ops listed = [] := List.eq_nil_of_length_eq_zero (by omega)
      apply List.eq_nil_iff_forall_not_mem.2
      intro j hj
      obtain ⟨h1, o, ho, _⟩ := mem_ready.1 hj
      have : j ∈ unlisted ops listed := List.mem_filter.2 ⟨List.mem_range.2 (Array.getElem?_eq_some_iff.1 ho).1, by rw [h1]; rfl⟩
      rw [‹unlisted ops listed = []›] at this
      cases this
    exact ⟨hnil, done listed a w ρ hs hnil h⟩
  | succ fuel ih =>
    intro listed a w ρ hs hf h
    refine ⟨fun hr => done listed a w ρ hs hr h, fun j hj => ?_⟩
    obtain ⟨hun, oj, hoj, hall⟩ := mem_ready.1 hj
    have hjl := (Array.getElem?_eq_some_iff.1 hoj).1
    have hv : vs[j]? = some vs[j] := List.getElem?_eq_getElem (by omega)
    have hq := hvs j oj _ hoj hv
    have hunf : listed.getD j false = false := by
      have hl : j < listed.size := by omega
      rw [Array.getD_eq_getD_getElem?, Array.getElem?_eq_getElem hl] at hun ⊢
      simpa using hun
    have hag : Agree ops oj (mix st ops.toList vs (fun k => decide (k < j))) (mix st ops.toList vs fun i => listed.getD i false) := by
      refine ⟨by rw [(mix_mem _ _ _ _).1, (mix_mem _ _ _ _).1], fun t ht => ?_⟩
      simp only [List.getD_eq_getElem?_getD]
      by_cases hex : ∃ (i : Nat) (o : Oper), ops.toList[i]? = some o ∧ o.dst = some t
      · obtain ⟨i, o, hi, hd⟩ := hex
        have hi' : ops[i]? = some o := by simpa using hi
        have hlt := (Array.getElem?_eq_some_iff.1 hi').1
        have hvi : vs[i]? = some vs[i] := List.getElem?_eq_getElem (by omega)
        obtain ⟨e, he, hb, heon⟩ := ((okDraw_spec hok hoj).2 i o t hi' hd).1 ht
        have hij : i < j := heon ▸ (okDraw_spec hok hoj).1 e he hb
        have hli : listed.getD i false = true := heon ▸ hall e he hb
        have hu : ∀ (k : Nat) (o' : Oper), k ≠ i → ops.toList[k]? = some o' → o'.dst ≠ some t := fun k o' hne hk =>
          (okDraw_spec hok (j := k) (oj := o') (by simpa using hk)).2 i o t hi' hd |>.2 (Ne.symm hne)
        rw [mix_some t _ _ _ _ i o _ hi hvi hd (by simpa using hij) hu, mix_some t _ _ _ _ i o _ hi hvi hd hli hu]
      · rw [mix_none, mix_none]
        · intro i o hi _ hd; exact hex ⟨i, o, hi, hd⟩
        · intro i o hi _ hd; exact hex ⟨i, o, hi, hd⟩
    rw [quiet_congr hag] at hq
    obtain ⟨v, rfl, hrun⟩ := quiet_run (B := B) hP hq
    have hwp := hrun h (next := wpAny P .any ops Q fuel (listed.setIfInBounds j true)) (Q := Q) (fun val w' hr' hrep => by
      refine ih _ _ w' ρ (by simpa using hs) ?_ ?_
      · have hmem : j ∈ unlisted ops listed := List.mem_filter.2 ⟨List.mem_range.2 hjl, by rw [hun]; rfl⟩
        have hsub : (unlisted ops (listed.setIfInBounds j true)).length < (unlisted ops listed).length := by
          have hle : unlisted ops (listed.setIfInBounds j true) = (unlisted ops listed).filter (fun i => i != j) := by
            unfold unlisted
            rw [List.filter_filter]
            apply List.filter_congr
            intro i hi
            by_cases hij : j = i
            · subst hij
              have hl : j < listed.size := by omega
              simp [hl]
            · have hij' : i ≠ j := fun e => hij e.symm
              simp [Array.getElem?_setIfInBounds_ne hij, hij']
          rw [hle]
          have := List.length_filter_lt_length_iff_exists (p := fun i => i != j) (l := unlisted ops listed)
          exact this.2 ⟨j, hmem, by simp⟩
        omega
      · have hp := hr'.put oj.dst hrep
        have e : (mix st ops.toList vs fun i => listed.getD i false).put oj.dst vs[j] = mix st ops.toList vs fun i => (listed.setIfInBounds j true).getD i false := by
          have hjt : ops.toList[j]? = some oj := by simpa using hoj
          have hset : ∀ i, i ≠ j → (listed.setIfInBounds j true).getD i false = listed.getD i false := fun i hi => by
            simp [Array.getElem?_setIfInBounds_ne (Ne.symm hi)]
          have hsetj : (listed.setIfInBounds j true).getD j false = true := by
            have hl : j < listed.size := by omega
            simp [hl]
          apply St.ext'
          · intro t
            by_cases htj : oj.dst = some t
            · have hu : ∀ (k : Nat) (o' : Oper), k ≠ j → ops.toList[k]? = some o' → o'.dst ≠ some t := fun k o' hne hk =>
                (okDraw_spec hok (j := k) (oj := o') (by simpa using hk)).2 j oj t hoj htj |>.2 (Ne.symm hne)
              rw [mix_some t _ _ _ _ j oj _ hjt hv htj hsetj hu, htj]
              rw [put_self, (mix_mem ops.toList vs (fun i => listed.getD i false) st).2]
            · rw [put_other htj]
              by_cases hex : ∃ (i : Nat) (o : Oper), ops.toList[i]? = some o ∧ o.dst = some t
              · obtain ⟨i, o, hi, hd⟩ := hex
                have hi' : ops[i]? = some o := by simpa using hi
                have hij : i ≠ j := fun e => htj (by subst e; rw [hoj] at hi'; cases hi'; exact hd)
                have hlt := (Array.getElem?_eq_some_iff.1 hi').1
                have hvi : vs[i]? = some vs[i] := List.getElem?_eq_getElem (by omega)
                have hu : ∀ (k : Nat) (o' : Oper), k ≠ i → ops.toList[k]? = some o' → o'.dst ≠ some t := fun k o' hne hk =>
                  (okDraw_spec hok (j := k) (oj := o') (by simpa using hk)).2 i o t hi' hd |>.2 (Ne.symm hne)
                cases hli : listed.getD i false with
                | true => rw [mix_some t _ _ _ _ i o _ hi hvi hd hli hu, mix_some t _ _ _ _ i o _ hi hvi hd (by rw [hset i hij]; exact hli) hu]
                | false =>
                  have hno : ∀ (b : Nat → Bool), b i = false → ∀ (k : Nat) (o' : Oper), ops.toList[k]? = some o' → b k = true → o'.dst ≠ some t := fun b hb k o' hk hbk =>
                    hu k o' (fun e => by subst e; rw [hb] at hbk; cases hbk) hk
                  rw [mix_none t _ _ _ _ (hno _ hli), mix_none t _ _ _ _ (hno _ (by rw [hset i hij]; exact hli))]
              · rw [mix_none, mix_none]
                · intro i o hi _ hd; exact hex ⟨i, o, hi, hd⟩
                · intro i o hi _ hd; exact hex ⟨i, o, hi, hd⟩
          · rw [show ((mix st ops.toList vs fun i => listed.getD i false).put oj.dst vs[j]).mem = (mix st ops.toList vs fun i => listed.getD i false).mem by cases oj.dst <;> rfl,
              (mix_mem _ _ _ _).1, (mix_mem _ _ _ _).1]
        rwa [e] at hp)
    unfold wpOp
    rw [hoj]
    simp only
    split
    · rename_i hw; rw [if_pos hw] at hwp; exact .inl hwp
    · rename_i hw; rw [if_neg hw] at hwp; exact hwp

/-- A region in any order. -/
theorem draw_run (hP : B.P = P) {Q : Exit → Act → World → Prop} {id : Nat} (hm : P.follows .mixedOrders = true) (hok : okDraw ops = true) {K : St → Prop} (h : drawK P G ops ops.toList st K) (hr : Rel B ρ st a w)
    (hn : ∀ ρ' st' a' w', Rel B ρ' st' a' w' → K st' → Q .normal a' w') : (Code.region id ops true).wp P Q a w := by
  obtain ⟨vs, hl, hvs, hK⟩ := draw_vals ops.toList st K h
  refine wp_region_any hm (draw_any hP hok (st := st) (vs := vs) (by simpa using hl) (fun i o v hi hv => hvs i o v (by simpa using hi) hv) (fun ρ' a' w' hr' => hn ρ' _ a' w' hr' hK) ops.size _ a _ ρ (by simp)
    (Nat.le_trans (List.length_filter_le _ _) (by simp)) ?_)
  have e : (mix st ops.toList vs fun i => (Array.replicate ops.size false).getD i false) = st := by
    apply St.ext'
    · intro t; exact mix_none t _ _ _ _ (fun i o _ hb => by
        rw [Array.getD_eq_getD_getElem?, Array.getElem?_replicate] at hb
        split at hb <;> simp at hb)
    · exact (mix_mem _ _ _ _).1
  rw [e]
  exact hr.past rfl rfl rfl (Nat.le_refl _) fun _ _ => rfl
end
end Go.PS
