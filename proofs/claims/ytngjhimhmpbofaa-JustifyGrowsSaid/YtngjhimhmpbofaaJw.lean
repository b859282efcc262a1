/- A closure that remembers the first vote that it took, and the search with it. -/
import Derived.Test.YtngjhimhmpbofaaJk
import Derived.Test.YtngjhimhmpbofaaPs11
set_option linter.unusedSimpArgs false
set_option linter.unusedVariables false
set_option maxRecDepth 100000
set_option maxHeartbeats 4000000
namespace Go.Proofs.Ytngjhimhmpbofaa
open Go Go.PS
/-- What the variable holds. -/
def cellOf : Option Vt → S
  | none => .nilp
  | some u => .el .plain (vc u)
def StB (Z : Nat → Prop) (w : World) (b : Nat) (s : Option Vt) : Prop :=
  ∃ (arr : Array Value) (ty : TypeId), w.heap[b]? = some (.cells arr ty (0, 0)) ∧ arr.size = 1 ∧ ∃ c, arr[0]? = some c ∧ Pl Z w (cellOf s) c
/-- Whether a vote is one of those that are compared. -/
def fits44 (v u : Vt) : Bool := f42 v u && hasI v.support u.signer
def r44 (v : Vt) (s : Option Vt) (u : Vt) : Bool := fits44 v u && !sameB (s.getD u) u
def s44 (v : Vt) (s : Option Vt) (u : Vt) : Option Vt := if fits44 v u then some (s.getD u) else s
/-- What the closure does. -/
def Clo (v : Vt) (b : Nat) (w : World) (val : Value) : Prop :=
  ∀ (Z : Nat → Prop) (s : Option Vt) (u : Vt), Z b → (∀ k, Z k → k < w.heap.size) → StB Z w b s → ∃ (f : Nat) (bound : Array Value), val = .func (.func f) #[] bound ∧
    (∀ vs w, (callFunc f vs).run Try.prog w = .ok (.enter f vs) w) ∧
    Calls Try.prog f (#[vv u] ++ bound) w fun e w' => e = .returned (.bool (r44 v s u)) ∧ w'.os = w.os ∧ w'.tape = w.tape ∧ w'.output = w.output ∧ w.heap.size ≤ w'.heap.size ∧
      (∀ k, k < w.heap.size → k ≠ b → w'.heap[k]? = w.heap[k]?) ∧ StB Z w' b (s44 v s u)
theorem cell_rep {B : Base} {ρ : Names} {w : World} {s : Option Vt} {c : Value} (h : RepS B ρ w (cellOf s) c) : Pl (Zs B ρ) w (cellOf s) c := by
  have hp : (cellOf s).plain = true := by cases s <;> rfl
  have := Pl.of_rep hp h
  cases s <;> exact this
theorem fm_run {B : Base} {ρ : Names} {st : St} {a : Act} {w : World} (hr : Rel B ρ st a w) (hP : B.P = Try.prog) {o : Oper} {c : Call} (hop : o.op = .call c) {x : Operand} (hcal : c.callee = .value x)
    {v : Vt} {y : Nat} {s : Option Vt} {u : Vt} {ox oa : Prop} (hx : st.rd true x = (ox, .one (.fm [] y (Clo v)))) (hox : ox) (hargs : argsV st true c.args.toList = some (oa, [vv u])) (hoa : oa)
    (hm : mget st.mem y = some [cellOf s]) {next : Act → World → Prop} {Q : Exit → Act → World → Prop}
    (hn : ∀ w', Rel B ρ ⟨st.tmps.map (T.cut (S.reads y)), mset (mcut (S.reads y) st.mem) y [cellOf (s44 v s u)]⟩ a w' → next (a.put o.dst (.bool (r44 v s u))) w') : o.wp Try.prog a w next Q := by
  have hrx := hr.rd (g := true) rfl x (by rw [hx]; exact hox)
  rw [hx] at hrx
  obtain ⟨_, b, hb, hC⟩ := hrx
  have hvs := argsV_run hr rfl _ _ _ hargs hoa
  obtain ⟨b', arr, ty, hb', hh, hl, hc⟩ := hr.mem y _ hm
  have : b = b' := by rw [hb] at hb'; exact Option.some.inj hb'
  subst this
  obtain ⟨c0, hc0, hrep⟩ := hc 0 _ rfl
  have hst : StB (Zs B ρ) w b s := ⟨arr, ty, hh, hl, c0, hc0, cell_rep hrep⟩
  obtain ⟨f, bound, hval, hen, hcalls⟩ := hC w (fun _ _ _ => rfl) (Zs B ρ) s u (.inl ⟨y, hb⟩) (fun k hk => hk.elim (fun ⟨z, hz⟩ => hr.lt z k hz) (fun ⟨i, hi⟩ => (hr.args i k hi).2)) hst
  have hvs' : c.args.map a.eval = #[vv u] := by
    apply Array.ext'
    rw [Array.toList_map, hvs]
  have hrun : (execOp a.eval o).run Try.prog w = .ok (.enter f (#[vv u] ++ bound)) w := by
    unfold execOp
    rw [hop]
    simp [resolve, hcal, hval, Deferred.ofValue, invoke, hen, hvs']
  unfold Oper.wp
  rw [hrun, Oper.upon_enter]
  refine hcalls.mono ?_
  rintro e w' ⟨rfl, k1, k2, k3, k4, k5, k6⟩
  refine hn w' ?_
  have tn : Turns B ρ ρ w w' (fun z => z = y) (fun _ => False) := ⟨k1, k2, k3, k4, fun k hk hne => k5 k hk (fun e => hne y rfl (by rw [e]; exact hb)), fun z _ => rfl, fun z k hz => hz.elim, fun z z' k hz => hz.elim⟩
  have ct : Cuts (S.reads y) (fun z => z = y) (fun _ => False) := ⟨fun s' x' hx' hs' => by subst hx'; exact hs', fun _ _ hf => hf.elim⟩
  refine hr.turn tn ct _ (fun z cs hz => ?_)
  rw [mget_set] at hz
  split at hz
  · rename_i e
    subst e
    cases hz
    obtain ⟨arr', ty', g1, g2, c', g3, g4⟩ := k6
    refine .inr ⟨b, arr', ty', hb, g1, g2, fun j q hq => ?_⟩
    cases j with
    | zero => cases hq; exact ⟨c', g3, RepS.of_pl g4⟩
    | succ j => simp at hq
  · rename_i e
    rw [mget_cut] at hz
    simp only [Option.map_eq_some_iff] at hz
    obtain ⟨cs0, h0, rfl⟩ := hz
    exact .inl ⟨fun hf => hf, fun e' => e e'.symm, cs0, h0, rfl⟩
end Go.Proofs.Ytngjhimhmpbofaa
