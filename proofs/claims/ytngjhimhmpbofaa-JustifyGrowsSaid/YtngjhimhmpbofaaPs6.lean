/- One operation that lays or writes memory, as a step of the state. -/
import Derived.Test.YtngjhimhmpbofaaPs5
set_option linter.unusedVariables false
set_option linter.unusedSimpArgs false
namespace Go.PS
open Go

def appendOp (P : Program) (st : St) (d : Nat) (c : Call) : List Operand → List TypeId → Option (Prop × St)
  | [s, x], [t, t'] =>
    if t' = t then
      match td P t with
      | .slice e z by_ =>
        match tzero P e with
        | some c0 =>
          if c0.length = z ∧ 0 < z then
            match st.rd true s, st.rd true x with
            | (o1, .one (.sl (.own q e') zs es)), (o2, .one (.sl _ z' es')) =>
              if e' = e ∧ zs = z then
                some (o1 ∧ o2 ∧ z' = z ∧ (es.length + es'.length) * by_ ≤ 140737488355328 ∧ es.length + es'.length ≤ 9223372036854775807,
                  ((st.kill q).kill d).put (some d) (.one (.sl (.own d e) z (es ++ es'))))
              else none
            | (o1, .one (.sl .zero _ es)), (o2, .one (.sl _ z' es')) =>
              some (o1 ∧ o2 ∧ z' = z ∧ es'.length * by_ ≤ 140737488355328 ∧ es'.length ≤ 9223372036854775807,
                ((st.kill d).kill d).put (some d) (.one (.sl (.own d e) z es')))
            | _, _ => none
          else none
        | none => none
      | _ => none
    else none
  | _, _ => none

/-- What an operation that lays or writes memory makes of the state. -/
def effOp (P : Program) (st : St) (dst : Option Nat) : Op → Option (Prop × St)
  | .box t x =>
    match dst, st.rd true x with
    | some d, (o, v) => match v.cells with
      | some l => some (o, st.box d l)
      | none => none
    | none, _ => none
  | .alloc t =>
    match dst, tzero P t with
    | some d, some l => some (True, st.box d l)
    | _, _ => none
  | .buildSlice t len parts =>
    match dst, td P t with
    | some d, .slice e z _ =>
      match tzero P e with
      | some c0 =>
        if c0.length = z ∧ 0 < z ∧ len * z ≤ 16777216 then
          match fillT st true (fun i => some (i * z, z)) (List.replicate (len * z) .un) parts.toList with
          | some (o, c) => some (o ∧ c.all S.plain = true, (st.kill d).put (some d) (.one (.sl (.own d e) z (chunks z len (c.map S.lay)))))
          | none => none
        else none
      | none => none
    | _, _ => none
  | .makeSlice t l c =>
    match dst, td P t, st.rd true l, st.rd true c with
    | some d, .slice e z by_, (o1, .one (.int _ n)), (o2, .one (.int _ m)) =>
      match tzero P e with
      | some c0 =>
        if c0.length = z ∧ 0 < z ∧ c0.all S.plain = true then
          some (o1 ∧ o2 ∧ 0 ≤ n ∧ n ≤ m ∧ (by_ : Int) * m ≤ 281474976710656 ∧ m ≤ 9223372036854775807,
            (st.kill d).put (some d) (.one (.sl (.own d e) z (List.replicate n.toNat (c0.map S.lay)))))
        else none
      | none => none
    | _, _, _, _ => none
  | .store t p x =>
    match dst, tz P t, st.rd true p, st.rd true x with
    | none, some (_, z), (o1, .one (.ptr y n)), (o2, v) =>
      match v.cells, mget st.mem y with
      | some l, some cs => if l.length = z then some (o1 ∧ o2 ∧ n + z ≤ cs.length, st.store y n l) else none
      | _, _ => none
    | _, _, _, _ => none
  | .call c =>
    match c.callee, dst with
    | .builtin .append, some d => appendOp P st d c c.args.toList c.argTypes.toList
    | _, _ => none
  | _ => none

section
variable {P : Program} {B : Base} {ρ : Names} {st : St} {a : Act} {w : World}

theorem append_run (hr : Rel B ρ st a w) {o : Oper} {c : Call} (hop : o.op = .call c) (hcal : c.callee = .builtin .append) {d : Nat} (hd : o.dst = some d) {ob : Prop} {st' : St}
    (h : appendOp P st d c c.args.toList c.argTypes.toList = some (ob, st')) (ho : ob) :
    ∃ v ρ' w', (execOp a.eval o).run P w = .ok (.value v) w' ∧ Rel B ρ' st' (a.put o.dst v) w' := by
  generalize hargs : c.args.toList = args at h
  generalize htys : c.argTypes.toList = tys at h
  unfold appendOp at h
  split at h
  · rename_i s x t t'
    split at h
    · rename_i htt
      subst htt
      split at h
      · rename_i e z by_ ht
        split at h
        · rename_i c0 hz0
          split at h
          · rename_i hzz
            have hat : c.argTypes = #[t', t'] := by apply Array.ext'; simpa using htys
            have key : ∀ v w', (Builtin.append_ #[t', t'] o.type #[a.eval s, a.eval x]).run P w = .ok v w' → (execOp a.eval o).run P w = .ok (.value v) w' := by
              intro v w' hrun
              unfold execOp
              rw [hop]
              exact run_builtin2 hcal hargs (by simp [builtin, hat, hrun])
            split at h
            · rename_i o1 q e' zs es o2 tx z' es' hs hx
              split at h
              · rename_i hee
                obtain ⟨rfl, rfl⟩ := hee
                cases h
                obtain ⟨p1, p2, rfl, p4, p5⟩ := ho
                have hrs := hr.rd (g := true) rfl s (by rw [hs]; exact p1)
                rw [hs] at hrs
                have hrx := hr.rd (g := true) rfl x (by rw [hx]; exact p2)
                rw [hx] at hrx
                obtain ⟨v', ρ', w', h1, h2⟩ := hr.append (ty := o.type) (d := d) ht hz0 hzz.1 hzz.2 hrs hrx p4 p5
                exact ⟨v', ρ', w', key _ _ h1, by rw [hd]; exact h2⟩
              · cases h
            · rename_i o1 zs es o2 tx z' es' hs hx
              cases h
              obtain ⟨p1, p2, rfl, p4, p5⟩ := ho
              have hrs := hr.rd (g := true) rfl s (by rw [hs]; exact p1)
              rw [hs] at hrs
              obtain ⟨hnil, hrs2⟩ := rep_zero_own (z' := z') (e := e) (d := d) hrs
              subst hnil
              have hrx := hr.rd (g := true) rfl x (by rw [hx]; exact p2)
              rw [hx] at hrx
              obtain ⟨v', ρ', w', h1, h2⟩ := hr.append (ty := o.type) (d := d) ht hz0 hzz.1 hzz.2 hrs2 hrx (by simpa using p4) (by simpa using p5)
              exact ⟨v', ρ', w', key _ _ h1, by rw [hd]; simpa using h2⟩
            · cases h
          · cases h
        · cases h
      · cases h
    · cases h
  · cases h

theorem eff_run (hr : Rel B ρ st a w) {o : Oper} {ob : Prop} {st' : St} (h : effOp P st o.dst o.op = some (ob, st')) (ho : ob) :
    (∃ v ρ' w', (execOp a.eval o).run P w = .ok (.value v) w' ∧ Rel B ρ' st' (a.put o.dst v) w') ∨
    (∃ ρ' w', (execOp a.eval o).run P w = .ok .skip w' ∧ Rel B ρ' st' (a.put o.dst undef) w') := by
  cases hop : o.op with
  | box t x =>
    rw [hop] at h; simp only [effOp] at h
    split at h
    · rename_i d o' v hd hx
      split at h
      · rename_i l hl
        cases h
        left
        have hrx := hr.rd (g := true) rfl x (by rw [hx]; exact ho)
        rw [hx] at hrx
        obtain ⟨h1, h2⟩ := cells_rep hl hrx
        exact ⟨_, _, _, by unfold execOp; rw [hop]; simp [Instr.box, newVar, newRow, newObj, Sem.run]; exact ⟨rfl, rfl⟩, by rw [hd]; exact hr.box d (ty := t) h1 h2⟩
      · cases h
    · cases h
  | alloc t =>
    rw [hop] at h; simp only [effOp] at h
    split at h
    · rename_i d l hd hz
      cases h
      left
      obtain ⟨zv, hz1, hz2, hz3, _⟩ := tzero_run (P := P) hz w B ρ
      exact ⟨_, _, _, by unfold execOp; rw [hop]; simp [Instr.alloc, hz1, newVar, newRow, newObj, Sem.run]; exact ⟨rfl, rfl⟩, by rw [hd]; exact hr.box d (ty := t) hz2 hz3⟩
    · cases h
  | buildSlice t len parts =>
    rw [hop] at h; simp only [effOp] at h
    split at h
    · rename_i d e z by_ hd ht
      split at h
      · rename_i c0 hz0
        split at h
        · rename_i hc
          split at h
          · rename_i o' c hf
            cases h
            left
            obtain ⟨v', ρ', w', h1, h2⟩ := hr.lit (g := true) rfl ht hz0 hc.1 hc.2.1 hc.2.2 hf ho.1 ho.2 d
            exact ⟨v', ρ', w', by unfold execOp; rw [hop]; simp [h1], by rw [hd]; exact h2⟩
          · cases h
        · cases h
      · cases h
    · cases h
  | makeSlice t l c =>
    rw [hop] at h; simp only [effOp] at h
    split at h
    · rename_i d e z by_ o1 k1 n o2 k2 m hd ht hl hc
      split at h
      · rename_i c0 hz0
        split at h
        · rename_i hcc
          cases h
          left
          obtain ⟨p1, p2, p3, p4, p5, p6⟩ := ho
          have hrl := hr.rd (g := true) rfl l (by rw [hl]; exact p1)
          rw [hl] at hrl
          have hrc := hr.rd (g := true) rfl c (by rw [hc]; exact p2)
          rw [hc] at hrc
          have hvl : a.eval l = .int k1 n := hrl
          have hvc : a.eval c = .int k2 m := hrc
          obtain ⟨v', ρ', w', h1, h2⟩ := hr.made ht hz0 hcc.2.2 hcc.1 hcc.2.1 k1 k2 p3 p4 p5 p6 d
          exact ⟨v', ρ', w', by unfold execOp; rw [hop]; simp [hvl, hvc, h1], by rw [hd]; exact h2⟩
        · cases h
      · cases h
    · cases h
  | store t p x =>
    rw [hop] at h; simp only [effOp] at h
    split at h
    · rename_i ag z o1 y n o2 v hd ht hp hx
      split at h
      · rename_i l cs hl hm
        split at h
        · rename_i hlz
          cases h
          right
          obtain ⟨p1, p2, p3⟩ := ho
          have hrp := hr.rd (g := true) rfl p (by rw [hp]; exact p1)
          rw [hp] at hrp
          have hrx := hr.rd (g := true) rfl x (by rw [hx]; exact p2)
          rw [hx] at hrx
          obtain ⟨b, hb, hvp⟩ := rep_ptr hrp
          obtain ⟨h1, h2⟩ := cells_rep hl hrx
          obtain ⟨b', w', hb', _, hrun, hrel⟩ := hr.write (P := P) (o := n) hm h2 (by simpa using h1) (by omega)
          have : b = b' := by rw [hb] at hb'; exact Option.some.inj hb'
          subst this
          obtain ⟨_, hsz⟩ := run_isAgg P w ht
          refine ⟨ρ, w', ?_, by rw [hd]; exact hrel⟩
          unfold execOp; rw [hop]
          have hszv : (a.eval x).cells.size = z := by omega
          simp [hvp, Instr.storeAt, Instr.sureAddr, storeVar, hsz, hszv, hrun]
        · cases h
      · cases h
    · cases h
  | call c =>
    rw [hop] at h; simp only [effOp] at h
    split at h
    · rename_i d hcal hd
      left
      have := append_run hr hop hcal hd h ho
      exact this
    · cases h
  | _ => rw [hop] at h; simp [effOp] at h
end
end Go.PS
