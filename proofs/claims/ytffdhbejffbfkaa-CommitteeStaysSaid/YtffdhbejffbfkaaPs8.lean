/- A region's operations, in their order or in any order that the program may choose, as steps of the state. -/
import Derived.Test.YtffdhbejffbfkaaPs7
set_option linter.unusedVariables false
set_option linter.unusedSimpArgs false
namespace Go.PS
open Go

/-- An operation that is not covered. -/
def Stuck (o : Oper) : Prop := False

inductive GV where
  | free
  | is (c : Bool)
  | bad
/-- An operation's guard. -/
def guardOf (ops : Array Oper) (st : St) (o : Oper) : GV :=
  match o.guard with
  | none => .free
  | some (i, want) =>
    match (ops[i]?).bind (·.dst) with
    | some t => match st.tmps.getD t .un with
      | .one (.bool b) => .is (b == want)
      | .grd c (.one (.bool b)) => .is (c && (b == want))
      | _ => .bad
    | none => .bad

section
variable (P : Program) (G : Book P)
/-- What is not wanted needs no sense. -/
def idleK (g : Bool) (o : Oper) (K : T → Prop) : Prop :=
  match g with
  | true => Stuck o
  | false => K .un
/-- A call under a guard, or in any order: its result is shared memory. -/
def callK (g : Bool) (st : St) (o : Oper) (K : T → Prop) : Prop :=
  match callOf st g o.op with
  | some (f, ob, args) => match G.spec f args with
    | some (ob', r) => (g = true → ob ∧ ob') ∧ K (r.back 0 [])
    | none => idleK g o K
  | none => idleK g o K
/-- An operation that lays no memory of the call's own and writes none. -/
def quietK (ops : Array Oper) (o : Oper) (st : St) (K : T → Prop) : Prop :=
  match guardOf ops st o with
  | .bad => Stuck o
  | .free => match pureOp P true st o.op with
    | some (ob, v) => ob ∧ K v
    | none => callK P G true st o K
  | .is c => match pureOp P c st o.op with
    | some (ob, v) => (c = true → ob) ∧ K (.grd c v)
    | none => callK P G c st o fun v => K (.grd c v)
def stepK (ops : Array Oper) (o : Oper) (st : St) (K : St → Prop) : Prop :=
  match guardOf ops st o with
  | .bad => Stuck o
  | .free => match pureOp P true st o.op with
    | some (ob, v) => ob ∧ K (st.put o.dst v)
    | none => match effOp P st o.dst o.op with
      | some (ob, st') => ob ∧ K st'
      | none => match callOf st true o.op with
        | some (f, ob, args) => match G.spec f args with
          | some (ob', r) => (ob ∧ ob') ∧ K (st.ret o.dst r)
          | none => Stuck o
        | none => Stuck o
  | .is c => match pureOp P c st o.op with
    | some (ob, v) => (c = true → ob) ∧ K (st.put o.dst (.grd c v))
    | none => callK P G c st o fun v => K (st.put o.dst (.grd c v))
def regK (ops : Array Oper) : List Oper → St → (St → Prop) → Prop
  | [], st, K => K st
  | o :: r, st, K => stepK P G ops o st fun st' => regK ops r st' K
def drawK (ops : Array Oper) : List Oper → St → (St → Prop) → Prop
  | [], st, K => K st
  | o :: r, st, K => quietK P G ops o st fun v => drawK ops r (st.put o.dst v) K
end

section
variable {P : Program} {G : Book P} {B : Base} {ρ : Names} {st : St} {a : Act} {w : World} {ops : Array Oper}

theorem guard_run (hr : Rel B ρ st a w) (o : Oper) :
    match guardOf ops st o with
    | .free => Region.wanted o (yielded ops a.tmps) = true
    | .is c => Region.wanted o (yielded ops a.tmps) = c
    | .bad => True := by
  cases hg : o.guard with
  | none => simp [guardOf, hg, Region.wanted]
  | some gw =>
    obtain ⟨i, want⟩ := gw
    simp only [guardOf, hg]
    cases ht : (ops[i]?).bind (·.dst) with
    | none => trivial
    | some t =>
      simp only
      have h := hr.tmps t
      have hy : yielded ops a.tmps i = match a.tmps[t]? with
        | some (.bool b) => some b
        | _ => none := by simp only [yielded, ht, Option.bind_some]; rfl
      cases hq : st.tmps[t]? with
      | none => simp [List.getD_eq_getElem?_getD, hq]
      | some v =>
        have hv := h v hq
        have hlt : t < a.tmps.size := by rw [hr.len]; exact (List.getElem?_eq_some_iff.1 hq).1
        rw [Array.getD_eq_getD_getElem?, Array.getElem?_eq_getElem hlt, Option.getD_some] at hv
        rw [Array.getElem?_eq_getElem hlt] at hy
        simp only [List.getD_eq_getElem?_getD, hq, Option.getD_some]
        have key : ∀ b, a.tmps[t] = .bool b → Region.wanted o (yielded ops a.tmps) = (b == want) := by
          intro b hb
          simp only [Region.wanted, hg, hy, hb]
          cases b <;> cases want <;> rfl
        split
        · rename_i hs
          split at hs
          · cases hs
          · cases hs
          · cases hs
        · rename_i c hs
          split at hs
          · rename_i b
            cases hs
            exact key b hv
          · rename_i c' b
            cases hs
            cases c' with
            | true => simpa using key b (hv.1 rfl)
            | false =>
              have := hv.2 rfl
              simp only [Region.wanted, hg, hy, this, undef]
              rfl
          · cases hs
        · trivial

/-- An operation that is wanted, or not. -/
theorem quiet_run {o : Oper} {K : T → Prop} (h : quietK P G ops o st K) : ∃ v, K v ∧ (∀ {ρ : Names} {a : Act} {w : World}, Rel B ρ st a w → ∀ {next : Act → World → Prop} {Q : Exit → Act → World → Prop},
    (∀ val w', Rel B ρ st a w' → RepT B ρ w' v val → next (a.put o.dst val) w') →
      if Region.wanted o (yielded ops a.tmps) then o.wp P a w next Q else next (a.put o.dst undef) w) := by
  unfold quietK at h
  have calls : ∀ (g : Bool) (K : T → Prop), callK P G g st o K → ∃ v, K v ∧ (∀ {ρ : Names} {a : Act} {w : World}, Rel B ρ st a w → g = true → ∀ {next : Act → World → Prop} {Q : Exit → Act → World → Prop},
      (∀ val w', Rel B ρ st a w' → RepT B ρ w' v val → next (a.put o.dst val) w') → o.wp P a w next Q) := by
    intro g K h
    have idle : idleK g o K → ∃ v, K v ∧ (∀ {ρ : Names} {a : Act} {w : World}, Rel B ρ st a w → g = true → ∀ {next : Act → World → Prop} {Q : Exit → Act → World → Prop},
      (∀ val w', Rel B ρ st a w' → RepT B ρ w' v val → next (a.put o.dst val) w') → o.wp P a w next Q) := by
      intro h
      cases g with
      | true => exact h.elim
      | false => exact ⟨.un, h, fun _ hg => by cases hg⟩
    unfold callK at h
    split at h
    · rename_i f ob args hc
      split at h
      · rename_i ob' r hs
        refine ⟨_, h.2, fun hr hg next Q hn => ?_⟩
        subst hg
        obtain ⟨h1, h2⟩ := h.1 rfl
        exact call_calls hr hc h1 (G.good f args ob' r hs h2) fun v w' ρ' hv hgv => by
          obtain ⟨q1, q2⟩ := hr.pub hgv hv
          exact hn v w' q1 q2
      · exact idle h
    · exact idle h
  have pures : ∀ {g : Bool} {ob : Prop} {v : T}, pureOp P g st o.op = some (ob, v) → (g = true → ob) → ∀ {ρ : Names} {a : Act} {w : World}, Rel B ρ st a w → g = true →
      ∀ {next : Act → World → Prop} {Q : Exit → Act → World → Prop}, (∀ val w', Rel B ρ st a w' → RepT B ρ w' v val → next (a.put o.dst val) w') → o.wp P a w next Q := by
    intro g ob v hp ho ρ a w hr hg next Q hn
    obtain ⟨val, h1, h2⟩ := pure_run hr hg hp (ho hg)
    unfold Oper.wp
    rw [h1, Oper.upon_value]
    exact hn val w hr h2
  split at h
  · exact h.elim
  · rename_i hgd
    have wanted : ∀ {ρ : Names} {a : Act} {w : World}, Rel B ρ st a w → Region.wanted o (yielded ops a.tmps) = true := fun hr => by
      have := guard_run (ops := ops) hr o
      rw [hgd] at this
      exact this
    split at h
    · rename_i ob v hp
      exact ⟨v, h.2, fun hr next Q hn => by rw [wanted hr, if_pos rfl]; exact pures hp (fun _ => h.1) hr rfl hn⟩
    · obtain ⟨v, hk, hv⟩ := calls true _ h
      exact ⟨v, hk, fun hr next Q hn => by rw [wanted hr, if_pos rfl]; exact hv hr rfl hn⟩
  · rename_i c hgd
    have wanted : ∀ {ρ : Names} {a : Act} {w : World}, Rel B ρ st a w → Region.wanted o (yielded ops a.tmps) = c := fun hr => by
      have := guard_run (ops := ops) hr o
      rw [hgd] at this
      exact this
    split at h
    · rename_i ob v hp
      refine ⟨.grd c v, h.2, fun hr next Q hn => ?_⟩
      rw [wanted hr]
      cases c with
      | true =>
        rw [if_pos rfl]
        exact pures hp h.1 hr rfl fun val w' hr' hv => hn val w' hr' ⟨fun _ => hv, fun hf => (by cases hf)⟩
      | false => exact hn undef _ hr ⟨fun hf => (by cases hf), fun _ => rfl⟩
    · obtain ⟨v, hk, hv⟩ := calls c _ h
      refine ⟨.grd c v, hk, fun hr next Q hn => ?_⟩
      rw [wanted hr]
      cases c with
      | true =>
        rw [if_pos rfl]
        exact hv hr rfl fun val w' hr' hv => hn val w' hr' ⟨fun _ => hv, fun hf => (by cases hf)⟩
      | false => exact hn undef _ hr ⟨fun hf => (by cases hf), fun _ => rfl⟩

theorem step_of_quiet {o : Oper} {K : St → Prop} (h : stepK P G ops o st K) : quietK P G ops o st (fun v => K (st.put o.dst v)) ∨
    (guardOf ops st o = .free ∧ pureOp P true st o.op = none ∧ ((∃ ob st', effOp P st o.dst o.op = some (ob, st') ∧ ob ∧ K st') ∨
      ∃ f ob args ob' r, callOf st true o.op = some (f, ob, args) ∧ G.spec f args = some (ob', r) ∧ ob ∧ ob' ∧ K (st.ret o.dst r))) := by
  unfold stepK at h
  unfold quietK
  split at h
  · exact h.elim
  · rename_i hgd
    split at h
    · rename_i ob v hp
      left
      simp only [hgd, hp]
      exact h
    · rename_i hp
      right
      refine ⟨hgd, hp, ?_⟩
      split at h
      · rename_i ob st' he
        exact .inl ⟨ob, st', he, h.1, h.2⟩
      · split at h
        · rename_i f ob args hc
          split at h
          · rename_i ob' r hs
            exact .inr ⟨f, ob, args, ob', r, hc, hs, h.1.1, h.1.2, h.2⟩
          · exact h.elim
        · exact h.elim
  · rename_i c hgd
    left
    exact h

theorem step_run {o : Oper} {i : Nat} (hi : ops[i]? = some o) {K : St → Prop} (h : stepK P G ops o st K) (hr : Rel B ρ st a w) {next : Act → World → Prop} {Q : Exit → Act → World → Prop}
    (hn : ∀ ρ' st' a' w', Rel B ρ' st' a' w' → K st' → next a' w') : wpOp P ops Q i next a w := by
  unfold wpOp
  rw [hi]
  simp only
  rcases step_of_quiet h with h | ⟨hgd, hp, h⟩
  · obtain ⟨v, hk, hv⟩ := quiet_run (B := B) h
    have := hv hr (next := next) (Q := Q) (fun val w' hr' hrep => hn _ _ _ _ (hr'.put o.dst hrep) hk)
    split
    · rename_i hw; rw [if_pos hw] at this; exact .inl this
    · rename_i hw; rw [if_neg hw] at this; exact this
  · have hw := guard_run (ops := ops) hr o
    rw [hgd] at hw
    simp only at hw
    rw [if_pos hw]
    refine .inl ?_
    rcases h with ⟨ob, st', he, ho, hk⟩ | ⟨f, ob, args, ob', r, hc, hs, h1, h2, hk⟩
    · unfold Oper.wp
      rcases eff_run hr he ho with ⟨v, ρ', w', h1, h2⟩ | ⟨ρ', w', h1, h2⟩
      · rw [h1, Oper.upon_value]
        exact hn _ _ _ _ h2 hk
      · rw [h1, Oper.upon_skip]
        exact hn _ _ _ _ h2 hk
    · exact call_calls hr hc h1 (G.good f args ob' r hs h2) fun v w' ρ' hv hgv => by
        obtain ⟨ρ'', h⟩ := hr.ret hgv hv o.dst
        exact hn _ _ _ _ h hk

theorem reg_run {Q : Exit → Act → World → Prop} : ∀ (l : List Oper) (n : Nat) (st : St) (a : Act) (w : World) (ρ : Names) (K : St → Prop), ops.toList.drop n = l → regK P G ops l st K → Rel B ρ st a w →
    (∀ ρ' st' a' w', Rel B ρ' st' a' w' → K st' → Q .normal a' w') → wpOps P ops Q (List.range' n l.length) a w
  | [], n, st, a, w, ρ, K, hd, h, hr, hn => hn ρ st a w hr h
  | o :: l, n, st, a, w, ρ, K, hd, h, hr, hn => by
    have hi : ops[n]? = some o := by
      have : (ops.toList.drop n)[0]? = some o := by rw [hd]; rfl
      simpa using this
    have hd' : ops.toList.drop (n + 1) = l := by rw [← List.tail_drop, hd]; rfl
    rw [List.length_cons, List.range'_succ, wpOps_cons]
    exact step_run hi h hr fun ρ' st' a' w' hr' hk => reg_run l (n + 1) st' a' w' ρ' K hd' hk hr' hn
end
end Go.PS
