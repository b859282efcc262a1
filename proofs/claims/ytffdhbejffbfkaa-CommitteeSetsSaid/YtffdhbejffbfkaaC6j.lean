/- What a law's row asks of a walk: it returns true, and the memory that was there is as it was. -/
import Derived.Test.YtffdhbejffbfkaaC6i
import Derived.ProofKit
import Derived.OpenShut
set_option linter.unusedSimpArgs false
set_option linter.unusedVariables false
namespace Go.Proofs.Ytffdhbejffbfkaa
open Go Go.PS Go.RowKit
theorem law_calls {P : Program} {f : Nat} {args : List T} {vals : List Value} (h : Sim P f args (.one (.bool true))) (hv : ∀ B ρ w, RepTs B ρ w args vals) (w : World) :
    Calls P f vals.toArray w fun e w' => e = .returned (.bool true) ∧ Below w.heap.size w w' := by
  refine (h.2 w (fun _ => none) vals (fun i b h => by cases h) (hv _ _ _)).mono ?_
  rintro e w' ⟨v, ρ', he, hr, hg⟩
  cases hr
  obtain ⟨k1, k2, k3, k4, k5⟩ := hg.keeps
  exact ⟨he, k1, k2, k3, k4, fun b hb => k5 b hb (fun h => h)⟩
theorem post_law {H : Type} {enc : TypeId × Value → H} {P : Program} {f : Func} {s : ChangeSpec} {apart fresh handsOn : Bool} {W W' : World} {args : Array Value} {v : Value} {ds gs : List (DataW H)} {before pa pv : List MemPlace}
    (hW : DataW.Whole enc P f.params.toList s.vars apart W args.toList ds gs before)
    (hres : ∀ (b : Nat) (sp : Nat → Bool) (hd : Bool), DataW.TrodAll enc P W' b sp hd f.resultTypes.toList (v.resultList f.resultTypes.size) (s.fn H (ds ++ gs)).results [])
    (hargs : ∀ sp : Nat → Bool, (∀ p ∈ before, sp p.block = true) → DataW.TrodAll enc P W' 0 sp true f.params.toList args.toList (s.fn H (ds ++ gs)).args pa)
    (hvars : ∀ sp : Nat → Bool, (∀ p ∈ before, sp p.block = true) → DataW.TrodVars enc P W' sp s.vars (s.fn H (ds ++ gs)).vars pv)
    (hps : before = pa ++ pv) (hk : Below W.heap.size W W') : s.post enc P f apart fresh handsOn false W args v W' := by
  have hold : ∀ p ∈ before, (fun b => decide (b < W.heap.size)) p.block = true := fun p hp => by simpa using hW.lt p hp
  refine ⟨ds, gs, before, [], pa, pv, hW, hres _ _ _, hargs _ hold, hvars _ hold, hk.frame _, fun h => ?_⟩
  cases h
theorem wf_ok {n : Int} (h : (Lit.int .i64 n).wf = true) : i64ok n := by
  simp only [Lit.wf, Bool.and_eq_true, decide_eq_true_eq] at h
  exact h
end Go.Proofs.Ytffdhbejffbfkaa
