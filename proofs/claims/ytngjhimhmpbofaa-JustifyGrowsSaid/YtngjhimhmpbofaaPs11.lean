/- A temporary that no operation writes stays as it is. -/
import Derived.Test.YtngjhimhmpbofaaPs10
set_option linter.unusedSimpArgs false
set_option linter.unusedVariables false
set_option maxRecDepth 100000
namespace Go.PS
open Go
def Qk (t : Nat) (x : Value) (Q : Exit → Act → World → Prop) : Exit → Act → World → Prop := fun e a w => Q e a w ∧ (e = .normal → a.tmps.getD t undef = x)
section
variable {P : Program} {Q : Exit → Act → World → Prop} {t : Nat} {x : Value}
theorem put_keep {a : Act} {d : Option Nat} {v : Value} (hd : d ≠ some t) (ha : a.tmps.getD t undef = x) : (a.put d v).tmps.getD t undef = x := by
  cases d with
  | none => exact ha
  | some d =>
    have hne : d ≠ t := fun e => hd (by rw [e])
    simpa [Act.put, Array.getD_eq_getD_getElem?, Array.getElem?_setIfInBounds, hne] using ha
theorem out_keep (h : LetsOut Q) : LetsOut (Qk t x Q) := by
  obtain ⟨a, w, h⟩ := h
  exact ⟨a, w, h, fun e => by cases e⟩
theorem oper_keep {o : Oper} {a : Act} {w : World} {K K' : Act → World → Prop} (hd : o.dst ≠ some t) (ha : a.tmps.getD t undef = x) (hk : ∀ a' w', K a' w' → a'.tmps.getD t undef = x → K' a' w')
    (hh : o.wp P a w K Q) : o.wp P a w K' (Qk t x Q) := by
  unfold Oper.wp at *
  generalize (execOp a.eval o).run P w = r at *
  cases r with
  | ok n w' =>
    cases n <;> simp only [Oper.upon] at hh ⊢ <;>
      first
        | exact hk _ _ hh (put_keep hd ha)
        | exact Calls.mono hh (fun e w'' he => by
            cases e with
            | returned v => exact hk _ _ he (put_keep hd ha)
            | panicked c => exact ⟨he, fun e => by cases e⟩
            | outgrown => exact out_keep he)
        | exact Rows.mono hh (fun _ _ he => hk _ _ he (put_keep hd ha))
        | exact ⟨hh, fun e => by cases e⟩
        | skip
  | halt y w' => cases y <;> simp only [Oper.upon] at hh ⊢ <;> first | exact ⟨hh, fun e => by cases e⟩ | exact hh | exact out_keep hh
theorem wpOp_keep {ops : Array Oper} {i : Nat} {a : Act} {w : World} {K K' : Act → World → Prop} (hd : ∀ o, ops[i]? = some o → o.dst ≠ some t) (ha : a.tmps.getD t undef = x)
    (hk : ∀ a' w', K a' w' → a'.tmps.getD t undef = x → K' a' w') (hh : wpOp P ops Q i K a w) : wpOp P ops (Qk t x Q) i K' a w := by
  unfold wpOp at *
  split
  · exact hk _ _ (by simpa [*] using hh) ha
  · rename_i o ho
    simp only [ho] at hh
    split
    · rename_i hw; simp only [hw, if_true] at hh; exact hh.imp (oper_keep (hd o ho) ha hk) (fun h => ⟨h.1, out_keep h.2⟩)
    · rename_i hw; simp only [hw] at hh; exact hk _ _ hh (put_keep (hd o ho) ha)
theorem wpOps_keep {ops : Array Oper} (hd : ∀ (i : Nat) (o : Oper), ops[i]? = some o → o.dst ≠ some t) : ∀ (l : List Nat) (a : Act) (w : World), a.tmps.getD t undef = x → wpOps P ops Q l a w → wpOps P ops (Qk t x Q) l a w
  | [], a, w, ha, h => ⟨h, fun _ => ha⟩
  | i :: l, a, w, ha, h => by
    rw [wpOps_cons] at h ⊢
    exact wpOp_keep (hd i) ha (fun a' w' h1 h2 => wpOps_keep hd l a' w' h2 h1) h
theorem wpAny_keep {ops : Array Oper} {md : Region.Mode} (hd : ∀ (i : Nat) (o : Oper), ops[i]? = some o → o.dst ≠ some t) : ∀ (fuel : Nat) (listed : Array Bool) (a : Act) (w : World), a.tmps.getD t undef = x →
    wpAny P md ops Q fuel listed a w → wpAny P md ops (Qk t x Q) fuel listed a w
  | 0, listed, a, w, ha, h => ⟨h.1, h.2, fun _ => ha⟩
  | fuel + 1, listed, a, w, ha, h => ⟨fun hr => ⟨h.1 hr, fun _ => ha⟩, fun i hi => wpOp_keep (hd i) ha (fun a' w' h1 h2 => wpAny_keep hd fuel _ a' w' h2 h1) (h.2 i hi)⟩
def noDst (t : Nat) : Code → Bool
  | .skip => true
  | .ret => true
  | .region _ ops _ => ops.toList.all fun o => o.dst != some t
  | .seq x y => noDst t x && noDst t y
  | .cond _ x y => noDst t x && noDst t y
  | _ => false
theorem noDst_ops {ops : Array Oper} (h : (ops.toList.all fun o => o.dst != some t) = true) (i : Nat) (o : Oper) (hi : ops[i]? = some o) : o.dst ≠ some t := by
  have := (List.all_eq_true.1 h) o (Array.mem_toList_iff.2 (Array.mem_of_getElem? hi))
  simpa using this
variable {G : Book P}
theorem PW.keep (hm : P.follows .mixedOrders = true) : ∀ (c : Code) (Q : Exit → St → Prop) (st : St), PW P G c Q st → noDst t c = true → ∀ (B : Base) (ρ : Names) (a : Act) (w : World), B.P = P → Rel B ρ st a w → a.tmps.getD t undef = x →
    c.wp P (fun e a' w' => (∃ ρ' st', Rel B ρ' st' a' w' ∧ Q e st') ∧ a'.tmps.getD t undef = x) a w
  | .skip, Q, st, h, hn, B, ρ, a, w, hP, hr, ha => wp_skip ⟨⟨ρ, st, hr, h⟩, ha⟩
  | .ret, Q, st, h, hn, B, ρ, a, w, hP, hr, ha => wp_ret ⟨⟨ρ, st, hr, h⟩, ha⟩
  | .region id ops false, Q, st, h, hn, B, ρ, a, w, hP, hr, ha => by
    have := reg_run (P := P) (G := G) (B := B) hP (ops := ops) (Q := fun e a' w' => e = .normal ∧ ∃ ρ' st', Rel B ρ' st' a' w' ∧ Q e st') ops.toList 0 st a w ρ _ (by simp) h hr (fun ρ' s a' w' h1 h2 => ⟨rfl, ρ', s, h1, h2⟩)
    rw [Array.length_toList, ← List.range_eq_range'] at this
    exact wp_mono (wp_region (wpOps_keep (noDst_ops hn) _ a w ha this)) fun e a' w' ⟨⟨he, h1⟩, h2⟩ => ⟨h1, h2 he⟩
  | .region id ops true, Q, st, h, hn, B, ρ, a, w, hP, hr, ha => by
    obtain ⟨vs, hl, hvs, hK⟩ := draw_vals ops.toList st _ h.2
    refine wp_mono (wp_region_any (Q := Qk t x fun e a' w' => e = .normal ∧ ∃ ρ' st', Rel B ρ' st' a' w' ∧ Q e st') hm (wpAny_keep (noDst_ops hn) _ _ _ _ ha (draw_any hP h.1 (st := st) (vs := vs) (by simpa using hl) (fun i o v hi hv => hvs i o v (by simpa using hi) hv) (fun ρ' a' w' hr' => ⟨rfl, ρ', _, hr', hK⟩) ops.size _ a _ ρ (by simp)
      (Nat.le_trans (List.length_filter_le _ _) (by simp)) ?_))) fun e a' w' ⟨⟨he, h1⟩, h2⟩ => ⟨h1, h2 he⟩
    have e : (mix st ops.toList vs fun i => (Array.replicate ops.size false).getD i false) = st := by
      apply St.ext'
      · intro t; exact mix_none t _ _ _ _ (fun i o _ hb => by
          rw [Array.getD_eq_getD_getElem?, Array.getElem?_replicate] at hb
          split at hb <;> simp at hb)
      · exact (mix_mem _ _ _ _).1
    rw [e]
    exact hr.past rfl rfl rfl (Nat.le_refl _) fun _ _ => rfl
  | .seq c d, Q, st, h, hn, B, ρ, a, w, hP, hr, ha => by
    simp only [noDst, Bool.and_eq_true] at hn
    exact wp_seq (wp_mono (PW.keep hm c _ st h hn.1 B ρ a w hP hr ha) fun e a' w' ⟨⟨ρ', s, h1, h2⟩, h3⟩ => by
      cases e with
      | normal => exact PW.keep hm d Q s h2 hn.2 B ρ' a' w' hP h1 h3
      | _ => exact ⟨⟨ρ', s, h1, h2⟩, h3⟩)
  | .cond y c d, Q, st, h, hn, B, ρ, a, w, hP, hr, ha => by
    simp only [noDst, Bool.and_eq_true] at hn
    simp only [PW] at h
    split at h
    · rename_i o b hx
      have hv := hr.rd (g := true) rfl y (by rw [hx]; exact h.1)
      rw [hx] at hv
      exact wp_cond_split hv (fun hb => PW.keep hm c Q st (h.2.1 hb) hn.1 B ρ a w hP hr ha) (fun hb => PW.keep hm d Q st (h.2.2 hb) hn.2 B ρ a w hP hr ha)
    · exact h.elim
  | .label _, Q, st, h, hn, B, ρ, a, w, hP, hr, ha => by simp [noDst] at hn
  | .exit _, Q, st, h, hn, B, ρ, a, w, hP, hr, ha => by simp [noDst] at hn
  | .block _ _, Q, st, h, hn, B, ρ, a, w, hP, hr, ha => by simp [noDst] at hn
  | .scope _, Q, st, h, hn, B, ρ, a, w, hP, hr, ha => by simp [noDst] at hn
  | .loop _, Q, st, h, hn, B, ρ, a, w, hP, hr, ha => by simp [noDst] at hn
  | .rangeFunc _ _ _ _, Q, st, h, hn, B, ρ, a, w, hP, hr, ha => by simp [noDst] at hn
  | .goto _, Q, st, h, hn, B, ρ, a, w, hP, hr, ha => by simp [noDst] at hn
  | .refuse _, Q, st, h, hn, B, ρ, a, w, hP, hr, ha => by simp [noDst] at hn
end
end Go.PS
