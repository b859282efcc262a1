/- The law JustifyBackers returns true for all arguments. -/
import Derived.Test.YtngjhimhmpbofaaJs
import Derived.Test.YtngjhimhmpbofaaJv
import Derived.Test.YtngjhimhmpbofaaRows
set_option linter.unusedVariables false
set_option linter.unusedSimpArgs false
namespace Go.Proofs.Ytngjhimhmpbofaa.justifyBackers
open Go Go.PS Go.ChangeShapes Go.WideShapes Go.ChangeAt Go.RowKit
theorem own : ownKnob Try.prog.godebug = none := by kernel_rfl
theorem walk (a0 : Int) (a1 : Vt) (w1 : VW a1) (a2 : List Vt) (x2 : Value) (w2 : ∀ u ∈ a2, VW u) (w : World) (t2 : RepT ⟨Try.prog, w, fun _ => False, fun _ => none⟩ noNames w (L a2) x2) :
    Calls Try.prog 7 #[.int .i64 a0, vv a1, x2] w fun e w' => e = .returned (.bool true) ∧ Below w.heap.size w w' :=
  law_calls (sim7 a0 a1 a2) w ⟨_, _, rfl, rfl, _, _, rfl, rep_vote _, _, _, rfl, t2, rfl⟩
set_option maxRecDepth 100000 in
theorem lifted (os : Os) (started : os.Started) (H : Type) (enc : TypeId × Value → H) :
    ReturnsInHanded {} Try.checked os 7 .any (Rows.justifyBackersSpec.pre6 enc Try.prog Try.f7 Rows.justifyBackersRow.domain false) (Rows.justifyBackersSpec.post enc Try.prog Try.f7 false true false false) := by
  refine returnsInHanded_of_change (C := Try.checked) own started (by kernel_rfl) Try.func7
    (ChangeSpec.witness6 (enc := enc) (C := Try.checked) false ⟨#[], #[.int .i64 0, vv zeroV, .slice none 0 0], []⟩ 7 (by kernel_rfl) (by kernel_rfl) (by kernel_rfl) (by kernel_rfl)) ?_
  intro W base args ds gs before hval0 hW hcnd _
  have hval : ∀ (j : Nat) t v, Try.f7.params[j]? = some t → args[j]? = some v → Value.okWide Try.prog W .any base t v := hval0
  have hW' := hW
  obtain ⟨p, q, hA0, hV, rfl, hfz, hnd⟩ := hW
  have hA : DataW.TrodAll enc Try.prog W 0 (fun _ => true) true Try.f7.params.toList args.toList ds p := hA0
  rw [Try.params7] at hA hval
  obtain ⟨v0, vs0, d0, ds0, p0, q0, hargs, rfl, rfl, h0, r0⟩ := trodAll_cons hA
  obtain ⟨v1, vs1, d1, ds1, p1, q1, rfl, rfl, rfl, h1, r1⟩ := trodAll_cons r0
  obtain ⟨v2, vs2, d2, ds2, p2, q2, rfl, rfl, rfl, h2, r2⟩ := trodAll_cons r1
  obtain ⟨rfl, rfl, rfl⟩ := trodAll_nil r2
  obtain rfl : args = #[v0, v1, v2] := by cases args; simp_all
  obtain ⟨rfl, rfl⟩ := trodVars_none hV
  obtain ⟨a0, rfl, rfl, rfl, w0⟩ := open_int Try.underlying22 (hval 0 22 v0 rfl rfl) h0
  obtain ⟨a1, w1, rfl, rfl, s1⟩ := open_voteV (hval 1 26 v1 rfl rfl) h1
  obtain ⟨a2, w2, t2, s2⟩ := open_votesV (hval 2 27 v2 rfl rfl) h2
  clear hA0 hval0
  simp only [List.append_nil, List.nil_append] at hW'
  refine (walk a0 a1 w1 a2 v2 w2 W t2).mono fun e W' ⟨he, hg⟩ => ?_
  subst he
  exact ⟨_, rfl, post_law (pv := []) hW' (fun _ _ _ => (trodAll_cons_mk (shut_bool Try.underlying4 _) trodAll_mk0)) (fun sp hsp => (trodAll_cons_mk (shut_int Try.underlying22 w0) (trodAll_cons_mk (s1 W' sp) (trodAll_cons_mk (s2 W' sp (fun p hp => same_below hg (hW'.lt p (by simp [hp]))) (fun p hp => hsp p (by simp [hp]))) trodAll_mk0)))) (fun _ _ => rfl) (by simp) hg⟩
theorem over : Rows.justifyBackersRow.holds Try.pinned (OpenSpec.ofChange Rows.justifyBackersSpec) :=
  OpenClaim.holds_of_wide 7 Try.f7 rfl rfl rfl rfl rfl rfl rfl ⟨rfl, rfl, rfl, rfl, rfl⟩ rfl rfl rfl rfl rfl (by kernel_rfl) Try.func7 (by kernel_rfl)
    (of_decide_eq_true (by kernel_rfl)) (by unfold Func.isWrapper; first | (rw [if_pos (by decide +kernel)]; kernel_rfl) | (rw [if_neg (by decide +kernel)]; exact ⟨rfl, rfl⟩))
    (fun os started H enc _ => lifted os started H enc)
end Go.Proofs.Ytngjhimhmpbofaa.justifyBackers
namespace Go.Proofs.Ytngjhimhmpbofaa
theorem JustifyBackersHolds : Rows.JustifyBackersSaid := justifyBackers.over
#print axioms JustifyBackersHolds
end Go.Proofs.Ytngjhimhmpbofaa
