/- The law JustifyGrows returns true for all arguments. -/
import Derived.Test.YtngjhimhmpbofaaJs
import Derived.Test.YtngjhimhmpbofaaJo
import Derived.Test.YtngjhimhmpbofaaRows
set_option linter.unusedVariables false
set_option linter.unusedSimpArgs false
namespace Go.Proofs.Ytngjhimhmpbofaa.justifyGrows
open Go Go.PS Go.ChangeShapes Go.WideShapes Go.ChangeAt Go.RowKit
theorem own : ownKnob Try.prog.godebug = none := by kernel_rfl
theorem walk (a0 : Int) (a1 : Vt) (w1 : VW a1) (a2 : List Vt) (x2 : Value) (w2 : ∀ u ∈ a2, VW u) (a3 : List Vt) (x3 : Value) (w3 : ∀ u ∈ a3, VW u) (w : World) (t2 : RepT ⟨Try.prog, w, fun _ => False, fun _ => none⟩ noNames w (L a2) x2) (t3 : RepT ⟨Try.prog, w, fun _ => False, fun _ => none⟩ noNames w (L a3) x3) :
    Calls Try.prog 5 #[.int .i64 a0, vv a1, x2, x3] w fun e w' => e = .returned (.bool true) ∧ Below w.heap.size w w' :=
  law_calls (sim5 a0 a1 a2 a3) w ⟨_, _, rfl, rfl, _, _, rfl, rep_vote _, _, _, rfl, t2, _, _, rfl, t3, rfl⟩
set_option maxRecDepth 100000 in
theorem lifted (os : Os) (started : os.Started) (H : Type) (enc : TypeId × Value → H) :
    ReturnsInHanded {} Try.checked os 5 .any (Rows.justifyGrowsSpec.pre6 enc Try.prog Try.f5 Rows.justifyGrowsRow.domain false) (Rows.justifyGrowsSpec.post enc Try.prog Try.f5 false true false false) := by
  refine returnsInHanded_of_change (C := Try.checked) own started (by kernel_rfl) Try.func5
    (ChangeSpec.witness6 (enc := enc) (C := Try.checked) false ⟨#[], #[.int .i64 0, vv zeroV, .slice none 0 0, .slice none 0 0], []⟩ 5 (by kernel_rfl) (by kernel_rfl) (by kernel_rfl) (by kernel_rfl)) ?_
  intro W base args ds gs before hval0 hW hcnd _
  have hval : ∀ (j : Nat) t v, Try.f5.params[j]? = some t → args[j]? = some v → Value.okWide Try.prog W .any base t v := hval0
  have hW' := hW
  obtain ⟨p, q, hA0, hV, rfl, hfz, hnd⟩ := hW
  have hA : DataW.TrodAll enc Try.prog W 0 (fun _ => true) true Try.f5.params.toList args.toList ds p := hA0
  rw [Try.params5] at hA hval
  obtain ⟨v0, vs0, d0, ds0, p0, q0, hargs, rfl, rfl, h0, r0⟩ := trodAll_cons hA
  obtain ⟨v1, vs1, d1, ds1, p1, q1, rfl, rfl, rfl, h1, r1⟩ := trodAll_cons r0
  obtain ⟨v2, vs2, d2, ds2, p2, q2, rfl, rfl, rfl, h2, r2⟩ := trodAll_cons r1
  obtain ⟨v3, vs3, d3, ds3, p3, q3, rfl, rfl, rfl, h3, r3⟩ := trodAll_cons r2
  obtain ⟨rfl, rfl, rfl⟩ := trodAll_nil r3
  obtain rfl : args = #[v0, v1, v2, v3] := by cases args; simp_all
  obtain ⟨rfl, rfl⟩ := trodVars_none hV
  obtain ⟨a0, rfl, rfl, rfl, w0⟩ := open_int Try.underlying22 (hval 0 22 v0 rfl rfl) h0
  obtain ⟨a1, w1, rfl, rfl, s1⟩ := open_voteV (hval 1 26 v1 rfl rfl) h1
  obtain ⟨a2, w2, t2, s2⟩ := open_votesV (hval 2 27 v2 rfl rfl) h2
  obtain ⟨a3, w3, t3, s3⟩ := open_votesV (hval 3 27 v3 rfl rfl) h3
  clear hA0 hval0
  simp only [List.append_nil, List.nil_append] at hW'
  refine (walk a0 a1 w1 a2 v2 w2 a3 v3 w3 W t2 t3).mono fun e W' ⟨he, hg⟩ => ?_
  subst he
  exact ⟨_, rfl, post_law (pv := []) hW' (fun _ _ _ => (trodAll_cons_mk (shut_bool Try.underlying4 _) trodAll_mk0)) (fun sp hsp => (trodAll_cons_mk (shut_int Try.underlying22 w0) (trodAll_cons_mk (s1 W' sp) (trodAll_cons_mk (s2 W' sp (fun p hp => same_below hg (hW'.lt p (by simp [hp]))) (fun p hp => hsp p (by simp [hp]))) (trodAll_cons_mk (s3 W' sp (fun p hp => same_below hg (hW'.lt p (by simp [hp]))) (fun p hp => hsp p (by simp [hp]))) trodAll_mk0))))) (fun _ _ => rfl) (by simp) hg⟩
theorem over : Rows.justifyGrowsRow.holds Try.pinned (OpenSpec.ofChange Rows.justifyGrowsSpec) :=
  OpenClaim.holds_of_wide 5 Try.f5 rfl rfl rfl rfl rfl rfl rfl ⟨rfl, rfl, rfl, rfl, rfl⟩ rfl rfl rfl rfl rfl (by kernel_rfl) Try.func5 (by kernel_rfl)
    (of_decide_eq_true (by kernel_rfl)) (by unfold Func.isWrapper; first | (rw [if_pos (by decide +kernel)]; kernel_rfl) | (rw [if_neg (by decide +kernel)]; exact ⟨rfl, rfl⟩))
    (fun os started H enc _ => lifted os started H enc)
end Go.Proofs.Ytngjhimhmpbofaa.justifyGrows
namespace Go.Proofs.Ytngjhimhmpbofaa
theorem JustifyGrowsHolds : Rows.JustifyGrowsSaid := justifyGrows.over
#print axioms JustifyGrowsHolds
end Go.Proofs.Ytngjhimhmpbofaa
