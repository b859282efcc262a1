/- The law JustifyEach returns true for all arguments. -/
import Derived.Test.YtngjhimhmpbofaaJs
import Derived.Test.YtngjhimhmpbofaaRows
set_option linter.unusedVariables false
set_option linter.unusedSimpArgs false
namespace Go.Proofs.Ytngjhimhmpbofaa.justifyEach
open Go Go.PS Go.ChangeShapes Go.WideShapes Go.ChangeAt Go.RowKit
theorem own : ownKnob Try.prog.godebug = none := by kernel_rfl
theorem walk (a0 : Int) (a1 : List Vt) (x1 : Value) (w1 : ∀ u ∈ a1, VW u) (w : World) (t1 : RepT ⟨Try.prog, w, fun _ => False, fun _ => none⟩ noNames w (L a1) x1) :
    Calls Try.prog 4 #[.int .i64 a0, x1] w fun e w' => e = .returned (.bool true) ∧ Below w.heap.size w w' :=
  law_calls ((sim4 a0 a1)) w ⟨_, _, rfl, rfl, _, _, rfl, t1, rfl⟩
set_option maxRecDepth 100000 in
theorem lifted (os : Os) (started : os.Started) (H : Type) (enc : TypeId × Value → H) :
    ReturnsInHanded {} Try.checked os 4 .any (Rows.justifyEachSpec.pre6 enc Try.prog Try.f4 Rows.justifyEachRow.domain false) (Rows.justifyEachSpec.post enc Try.prog Try.f4 false true false false) := by
  refine returnsInHanded_of_change (C := Try.checked) own started (by kernel_rfl) Try.func4
    (ChangeSpec.witness6 (enc := enc) (C := Try.checked) false ⟨#[], #[.int .i64 0, .slice none 0 0], []⟩ 4 (by kernel_rfl) (by kernel_rfl) (by kernel_rfl) (by kernel_rfl)) ?_
  intro W base args ds gs before hval0 hW hcnd _
  have hval : ∀ (j : Nat) t v, Try.f4.params[j]? = some t → args[j]? = some v → Value.okWide Try.prog W .any base t v := hval0
  have hW' := hW
  obtain ⟨p, q, hA0, hV, rfl, hfz, hnd⟩ := hW
  have hA : DataW.TrodAll enc Try.prog W 0 (fun _ => true) true Try.f4.params.toList args.toList ds p := hA0
  rw [Try.params4] at hA hval
  obtain ⟨v0, vs0, d0, ds0, p0, q0, hargs, rfl, rfl, h0, r0⟩ := trodAll_cons hA
  obtain ⟨v1, vs1, d1, ds1, p1, q1, rfl, rfl, rfl, h1, r1⟩ := trodAll_cons r0
  obtain ⟨rfl, rfl, rfl⟩ := trodAll_nil r1
  obtain rfl : args = #[v0, v1] := by cases args; simp_all
  obtain ⟨rfl, rfl⟩ := trodVars_none hV
  obtain ⟨a0, rfl, rfl, rfl, w0⟩ := open_int Try.underlying22 (hval 0 22 v0 rfl rfl) h0
  obtain ⟨a1, w1, t1, s1⟩ := open_votesV (hval 1 27 v1 rfl rfl) h1
  clear hA0 hval0
  simp only [List.append_nil, List.nil_append] at hW'
  refine (walk a0 a1 v1 w1 W t1).mono fun e W' ⟨he, hg⟩ => ?_
  subst he
  exact ⟨_, rfl, post_law (pv := []) hW' (fun _ _ _ => (trodAll_cons_mk (shut_bool Try.underlying4 _) trodAll_mk0)) (fun sp hsp => (trodAll_cons_mk (shut_int Try.underlying22 w0) (trodAll_cons_mk (s1 W' sp (fun p hp => same_below hg (hW'.lt p (by simp [hp]))) (fun p hp => hsp p (by simp [hp]))) trodAll_mk0))) (fun _ _ => rfl) (by simp) hg⟩
theorem over : Rows.justifyEachRow.holds Try.pinned (OpenSpec.ofChange Rows.justifyEachSpec) :=
  OpenClaim.holds_of_wide 4 Try.f4 rfl rfl rfl rfl rfl rfl rfl ⟨rfl, rfl, rfl, rfl, rfl⟩ rfl rfl rfl rfl rfl (by kernel_rfl) Try.func4 (by kernel_rfl)
    (of_decide_eq_true (by kernel_rfl)) (by unfold Func.isWrapper; first | (rw [if_pos (by decide +kernel)]; kernel_rfl) | (rw [if_neg (by decide +kernel)]; exact ⟨rfl, rfl⟩))
    (fun os started H enc _ => lifted os started H enc)
end Go.Proofs.Ytngjhimhmpbofaa.justifyEach
namespace Go.Proofs.Ytngjhimhmpbofaa
theorem JustifyEachHolds : Rows.JustifyEachSaid := justifyEach.over
#print axioms JustifyEachHolds
end Go.Proofs.Ytngjhimhmpbofaa
