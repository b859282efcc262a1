/- Votes and lists of votes as arguments of a row. -/
import Derived.Test.YtngjhimhmpbofaaJr
import Derived.ProofKit
import Derived.OpenShut
import Derived.Deep.Slices
set_option linter.unusedSimpArgs false
set_option linter.unusedVariables false
set_option maxRecDepth 100000
namespace Go.Proofs.Ytngjhimhmpbofaa
open Go Go.PS Go.RowKit Go.ChangeShapes
/-- A type without memory. -/
def Flat (P : Program) (F : TypeId → Bool) : Prop :=
  ∀ t, F t = true → (∃ k, P.underlying t = some (.int k)) ∨ (∃ n e, P.underlying t = some (.array n e) ∧ F e = true) ∨ (∃ fs : Array Field, P.underlying t = some (.struct fs) ∧ ∀ f ∈ fs.toList, F f.type = true)
theorem mapM_mem {α β : Type} {f : α → Option β} : ∀ {l : List α} {r : List β}, l.mapM f = some r → ∀ y ∈ r, ∃ x ∈ l, f x = some y
  | [], r, h, y, hy => by simp at h; subst h; cases hy
  | x :: l, r, h, y, hy => by
    simp only [List.mapM_cons, Option.bind_eq_bind, Option.bind_eq_some_iff, Option.pure_def, Option.some.injEq] at h
    obtain ⟨b, hb, bs, hbs, rfl⟩ := h
    rcases List.mem_cons.1 hy with rfl | hy
    · exact ⟨x, by simp, hb⟩
    · obtain ⟨x', hx', he⟩ := mapM_mem hbs y hy
      exact ⟨x', by simp [hx'], he⟩
theorem trod_flat {H : Type} {enc : TypeId × Value → H} {P : Program} {F : TypeId → Bool} (hF : Flat P F) {w w' : World} {base base' : Nat} {sp sp' : Nat → Bool} {held held' : Bool} : ∀ (n : Nat) (t : TypeId) (cs : List Value) (x : DataW H × List MemPlace), F t = true →
    DataW.trod enc P w base sp held n t cs = some x → DataW.trod enc P w' base' sp' held' n t cs = some x ∧ x.2 = []
  | 0, t, cs, x, ht, h => by simp [DataW.trod] at h
  | n + 1, t, cs, x, ht, h => by
    rcases hF t ht with ⟨k, hk⟩ | ⟨m, e, hk, he⟩ | ⟨fs, hk, hfs⟩
    · obtain ⟨z, rfl, rfl, hw⟩ := DataW.trod_int hk h
      exact ⟨trod_int_mk n hk hw, rfl⟩
    all_goals rw [DataW.trod_step] at h ⊢
    · have e1 : ∀ (w : World) (base : Nat) (sp : Nat → Bool) (held : Bool) (r : TypeId → List Value → Option (DataW H × List MemPlace)), DataW.trodStep enc P w base sp held r t cs =
          if cs.length = P.cellsOf t then ((List.range m).mapM fun i => r e ((cs.drop (i * P.cellsOf e)).take (P.cellsOf e))).map fun xs => (.agg (xs.map (·.1)), xs.flatMap (·.2)) else none := by
        intros; unfold DataW.trodStep; rw [hk]
      rw [e1] at h ⊢
      split at h
      · rename_i hl
        rw [if_pos hl]
        simp only [Option.map_eq_some_iff] at h ⊢
        obtain ⟨xs, hxs, rfl⟩ := h
        refine ⟨⟨xs, mapM_carry hxs fun i y _ _ hy => (trod_flat hF n e _ y he hy).1, rfl⟩, ?_⟩
        simp only [List.flatMap_eq_nil_iff]
        intro y hy
        obtain ⟨i, _, hi⟩ := mapM_mem hxs y hy
        exact (trod_flat hF (w' := w') (base' := base') (sp' := sp') (held' := held') n e _ y he hi).2
      · cases h
    · have e1 : ∀ (w : World) (base : Nat) (sp : Nat → Bool) (held : Bool) (r : TypeId → List Value → Option (DataW H × List MemPlace)), DataW.trodStep enc P w base sp held r t cs =
          if cs.length = P.cellsOf t then (fs.toList.mapM fun f => r f.type ((cs.drop f.offset).take (P.cellsOf f.type))).map fun xs => (.agg (xs.map (·.1)), xs.flatMap (·.2)) else none := by
        intros; unfold DataW.trodStep; rw [hk]
      rw [e1] at h ⊢
      split at h
      · rename_i hl
        rw [if_pos hl]
        simp only [Option.map_eq_some_iff] at h ⊢
        obtain ⟨xs, hxs, rfl⟩ := h
        refine ⟨⟨xs, mapM_carry hxs fun f y hf _ hy => (trod_flat hF n f.type _ y (hfs f hf) hy).1, rfl⟩, ?_⟩
        simp only [List.flatMap_eq_nil_iff]
        intro y hy
        obtain ⟨f, hf, hi⟩ := mapM_mem hxs y hy
        exact (trod_flat hF (w' := w') (base' := base') (sp' := sp') (held' := held') n f.type _ y (hfs f hf) hi).2
      · cases h
def Fv (t : TypeId) : Bool := t == 3 || t == 5 || t == 22 || t == 24 || t == 26
theorem flatV : Flat Try.prog Fv := by
  intro t ht
  simp only [Fv, Bool.or_eq_true, beq_iff_eq] at ht
  rcases ht with (((rfl | rfl) | rfl) | rfl) | rfl
  · exact .inl ⟨_, Try.underlying3⟩
  · exact .inl ⟨_, Try.underlying5⟩
  · exact .inl ⟨_, Try.underlying22⟩
  · exact .inr (.inl ⟨_, _, Try.underlying24, rfl⟩)
  · refine .inr (.inr ⟨_, Try.underlying26, ?_⟩)
    decide
theorem cells5 : Try.prog.cellsOf 5 = 1 := by kernel_rfl
theorem cells3 : Try.prog.cellsOf 3 = 1 := by kernel_rfl
theorem cells22 : Try.prog.cellsOf 22 = 1 := by kernel_rfl
theorem cells24 : Try.prog.cellsOf 24 = 8 := by kernel_rfl
theorem cells26 : Try.prog.cellsOf 26 = 22 := by kernel_rfl
/-- The cells of a vote. -/
def vals (v : Vt) : List Value := [Value.int .i64 v.kind, .int .i64 v.slot, .int .i64 v.round, .int .i64 v.choice, .int .i64 v.signer, .int .i64 v.support] ++ (v.parent.map (Value.int .u8) ++ v.value.map (Value.int .u8))
def VW (v : Vt) : Prop := i64ok v.kind ∧ i64ok v.slot ∧ i64ok v.round ∧ i64ok v.choice ∧ i64ok v.signer ∧ i64ok v.support
theorem wf_ok {n : Int} (h : (Lit.int .i64 n).wf = true) : i64ok n := by
  simp only [Lit.wf, Bool.and_eq_true, decide_eq_true_eq] at h
  exact h
section
variable {H : Type} {enc : TypeId × Value → H} {w : World} {base : Nat} {sp : Nat → Bool} {held : Bool}
theorem open_name {n : Nat} {cs : List Value} {x : DataW H × List MemPlace} (h : DataW.trod enc Try.prog w base sp held n 24 cs = some x) : ∃ l : List Int, l.length = 8 ∧ cs = l.map (Value.int .u8) := by
  obtain ⟨xs, m, rfl, rfl, hl, hxs, hx⟩ := DataW.trod_array Try.underlying24 h
  rw [cells24] at hl
  have key : ∀ i, i < 8 → ∃ z, cs[i]? = some (Value.int .u8 z) := by
    intro i hi
    have h1 := hx i hi
    rw [cells5, Nat.mul_one, List.getElem?_eq_getElem (by omega)] at h1
    obtain ⟨z, hz, _, _⟩ := DataW.trod_int Try.underlying5 h1
    refine ⟨z, ?_⟩
    have := congrArg (fun l : List Value => l[0]?) hz
    simpa using this
  refine ⟨cs.map fun c => match c with | .int _ z => z | _ => 0, by simpa using hl, ?_⟩
  rw [List.map_map]
  apply List.ext_getElem?
  intro i
  rw [List.getElem?_map]
  by_cases hi : i < 8
  · obtain ⟨z, hz⟩ := key i hi
    rw [hz]; rfl
  · rw [List.getElem?_eq_none (by omega)]; rfl
theorem open_vote {n : Nat} {cs : List Value} {x : DataW H × List MemPlace} (h : DataW.trod enc Try.prog w base sp held n 26 cs = some x) : ∃ v : Vt, VW v ∧ cs = vals v := by
  obtain ⟨xs, m, rfl, rfl, hl, hxs, hx⟩ := DataW.trod_struct Try.underlying26 h
  rw [cells26] at hl
  have hf : ∀ i, i < 8 → xs[i]? = some xs[i]! := by
    intro i hi
    have : i < xs.length := by rw [hxs]; exact hi
    rw [List.getElem?_eq_getElem this, getElem!_pos xs i this]
  have i3 : ∀ (i off : Nat) (t : TypeId), Try.prog.underlying t = some (.int .i64) → Try.prog.cellsOf t = 1 → i < 8 → DataW.trod enc Try.prog w base sp held m t ((cs.drop off).take (Try.prog.cellsOf t)) = xs[i]? → ∃ z, cs[off]? = some (.int .i64 z) ∧ i64ok z := by
    intro i off t ht hc hlt h1
    rw [hf i hlt, hc] at h1
    obtain ⟨z, hz, _, hw⟩ := DataW.trod_int ht h1
    refine ⟨z, ?_, wf_ok hw⟩
    have := congrArg (fun l : List Value => l[0]?) hz
    simpa using this
  have n3 : ∀ (i off : Nat), i < 8 → DataW.trod enc Try.prog w base sp held m 24 ((cs.drop off).take (Try.prog.cellsOf 24)) = xs[i]? → ∃ l : List Int, l.length = 8 ∧ (cs.drop off).take 8 = l.map (Value.int .u8) := by
    intro i off hlt h1
    rw [hf i hlt, cells24] at h1
    exact open_name h1
  obtain ⟨z0, e0, w0⟩ := i3 0 0 3 Try.underlying3 cells3 (by omega) (hx 0 _ rfl)
  obtain ⟨z1, e1, w1⟩ := i3 1 1 3 Try.underlying3 cells3 (by omega) (hx 1 _ rfl)
  obtain ⟨z2, e2, w2⟩ := i3 2 2 3 Try.underlying3 cells3 (by omega) (hx 2 _ rfl)
  obtain ⟨z3, e3, w3⟩ := i3 3 3 3 Try.underlying3 cells3 (by omega) (hx 3 _ rfl)
  obtain ⟨z4, e4, w4⟩ := i3 4 4 3 Try.underlying3 cells3 (by omega) (hx 4 _ rfl)
  obtain ⟨z5, e5, w5⟩ := i3 5 5 22 Try.underlying22 cells22 (by omega) (hx 5 _ rfl)
  obtain ⟨l6, g6, e6⟩ := n3 6 6 (by omega) (hx 6 _ rfl)
  obtain ⟨l7, g7, e7⟩ := n3 7 14 (by omega) (hx 7 _ rfl)
  refine ⟨⟨z0, z1, z2, z3, z4, z5, l6, l7, g6, g7⟩, ⟨w0, w1, w2, w3, w4, w5⟩, ?_⟩
  clear hx hf hxs i3 n3 h
  match cs, hl with
  | c0 :: c1 :: c2 :: c3 :: c4 :: c5 :: r, hl =>
    simp only [List.getElem?_cons_zero, List.getElem?_cons_succ, Option.some.injEq] at e0 e1 e2 e3 e4 e5
    have hr : r.length = 16 := by simpa using hl
    have h6 : r.take 8 = l6.map (Value.int .u8) := by simpa using e6
    have h7 : r.drop 8 = l7.map (Value.int .u8) := by
      have : (r.drop 8).take 8 = l7.map (Value.int .u8) := by simpa using e7
      rwa [List.take_of_length_le (by rw [List.length_drop]; omega)] at this
    subst e0; subst e1; subst e2; subst e3; subst e4; subst e5
    show _ = [Value.int .i64 z0, .int .i64 z1, .int .i64 z2, .int .i64 z3, .int .i64 z4, .int .i64 z5] ++ (l6.map (Value.int .u8) ++ l7.map (Value.int .u8))
    rw [← h6, ← h7, List.take_append_drop]
    rfl
/-- A vote's value. -/
theorem open_voteV {b0 : Nat} {v : Value} {d : DataW H} {ps : List MemPlace} (hval : Value.okWide Try.prog w .any b0 26 v) (h : DataW.Trod enc Try.prog w base sp held 26 v d ps) : ∃ u : Vt, VW u ∧ v = vv u ∧ ps = [] ∧
    ∀ (w' : World) (sp' : Nat → Bool), DataW.Trod enc Try.prog w' base sp' held 26 v d [] := by
  obtain ⟨n, hn⟩ := h
  obtain ⟨u, hu, hcs⟩ := open_vote hn
  have hp := (trod_flat flatV (w' := w) (base' := base) (sp' := sp) (held' := held) n 26 _ _ rfl hn).2
  simp only at hp
  subst hp
  refine ⟨u, hu, ?_, rfl, fun w' sp' => ⟨n, (trod_flat flatV (w' := w') (base' := base) (sp' := sp') (held' := held) n 26 _ _ rfl hn).1⟩⟩
  unfold Value.okWide at hval
  rw [Try.underlying26] at hval
  obtain ⟨cs, rfl, _, _⟩ := hval
  have : cs.toList = vals u := hcs
  unfold vv
  congr 1
  apply Array.ext'
  rw [this]; rfl
theorem vals_at (v : Vt) {k : Nat} {s : S} (h : (vc v)[k]? = some s) : ∃ c, (vals v)[k]? = some c ∧ ∀ Z w, Pl Z w s c := by
  have e : vals v = (vc v).map fun s => match s with | .int k n => Value.int k n | _ => undef := by
    simp [vals, vc, bts, Function.comp_def]
  obtain ⟨kk, n, rfl⟩ := vc_ints v s (List.mem_of_getElem? h)
  refine ⟨.int kk n, ?_, fun _ _ => rfl⟩
  rw [e, List.getElem?_map, h]; rfl
theorem open_votesV {b0 : Nat} {v : Value} {d : DataW H} {ps : List MemPlace} (hval : Value.okWide Try.prog w .any b0 27 v) (h : DataW.Trod enc Try.prog w base (fun _ => true) held 27 v d ps) : ∃ l : List Vt, (∀ u ∈ l, VW u) ∧
    RepT ⟨Try.prog, w, fun _ => False, fun _ => none⟩ noNames w (L l) v ∧
    ∀ (w' : World) (sp' : Nat → Bool), (∀ p ∈ ps, w.sameAt w' p) → (∀ p ∈ ps, sp' p.block = true) → DataW.Trod enc Try.prog w' base sp' held 27 v d ps := by
  obtain ⟨a0, len0, cap0, rfl⟩ := Go.WideShapes.okWide_slice Try.underlying27 hval
  obtain ⟨fuel, hf⟩ := h
  rcases Go.Deep.open_slice Try.underlying27 hf with ⟨h1, h2⟩ | ⟨a, len, cap, m, n, D, Q, h1, hb, hl, hm, hmm, h2, hx⟩
  · simp only [Value.cells, List.cons.injEq, Value.slice.injEq, and_true] at h1
    obtain ⟨rfl, rfl, rfl⟩ := h1
    cases h2
    refine ⟨[], (fun u hu => by cases hu), ⟨none, 0, rfl, Nat.le_refl _, (fun i e hi => by simp [rowsV] at hi), trivial⟩, fun w' sp' _ _ => ⟨1, ?_⟩⟩
    rw [DataW.trod_step]
    unfold DataW.trodStep
    rw [Try.underlying27]
    rfl
  · simp only [Value.cells, List.cons.injEq, Value.slice.injEq, and_true] at h1
    obtain ⟨rfl, rfl, rfl⟩ := h1
    simp only [if_true] at hmm
    subst hmm
    rw [cells26] at h2 hx
    simp only [Prod.mk.injEq] at h2
    obtain ⟨rfl, rfl⟩ := h2
    have hv : ∀ i, i < m → ∃ u : Vt, VW u ∧ w.cells? base (a.add (i * 22)) 22 = some (vals u) ∧ DataW.trod enc Try.prog w base (fun _ => true) held n 26 (vals u) = some (D i, Q i) := by
      intro i hi
      obtain ⟨cs', g1, g2⟩ := hx i hi
      obtain ⟨u, hu, rfl⟩ := open_vote g2
      exact ⟨u, hu, g1, g2⟩
    have : Inhabited Vt := ⟨zeroV⟩
    obtain ⟨U, hU⟩ := Go.Deep.choose_lt hv
    refine ⟨(List.range len0).map U, ?_, ?_, ?_⟩
    · intro u hu
      simp only [List.mem_map, List.mem_range] at hu
      obtain ⟨i, hi, rfl⟩ := hu
      exact (hU i (by omega)).1
    · refine ⟨some a, m, ?_, ?_, ?_, trivial⟩
      · simp [rowsV]
      · simpa [rowsV] using hl
      · intro i e hi
        simp only [rowsV, List.getElem?_map, Option.map_eq_some_iff, List.getElem?_range] at hi
        obtain ⟨u, ⟨i', hi', rfl⟩, rfl⟩ := hi
        have hil : i < len0 ∧ i' = i := by
          rw [List.getElem?_eq_some_iff] at hi'
          obtain ⟨h1, h2⟩ := hi'
          simp at h1 h2
          exact ⟨h1, h2.symm⟩
        obtain ⟨hil, rfl⟩ := hil
        refine ⟨vc_len _, fun k s hs => ?_⟩
        obtain ⟨_, g2, _⟩ := hU i' (by omega)
        obtain ⟨c, c1, c2⟩ := vals_at _ hs
        have hk : k < 22 := by have := (List.getElem?_eq_some_iff.1 hs).1; rwa [vc_len] at this
        obtain ⟨_, _, q3⟩ := World.cells?_some g2
        have q4 := q3 k hk
        rw [c1, Go.Deep.add_add] at q4
        obtain ⟨_, g0, _⟩ := hU 0 (by omega)
        obtain ⟨_, _, q0⟩ := World.cells?_some g0
        have q5 := q0 0 (by omega)
        rw [Go.Deep.add_add] at q5
        have hspot : a.spot = none := by
          cases hsp : a.spot with
          | none => rfl
          | some s =>
            simp only [World.cell?, Nat.zero_mul, Addr.add, if_true, Nat.add_zero] at q5
            split at q5
            · simp [hsp, vals] at q5
            · simp [vals] at q5
        obtain ⟨b, off, spot⟩ := a
        simp only at hspot
        subst hspot
        rw [Go.WideShapes.add_plain] at q4
        exact ⟨b, off, c, rfl, fun hz => hz.elim (fun ⟨x, hx⟩ => by cases hx) (fun ⟨i, hi⟩ => by cases hi), q4, c2 _ _⟩
    · intro w' sp' hsame hsp
      have hel : ∀ i, i < m → ∃ cs n, w'.cells? base (a.add (i * Try.prog.cellsOf 26)) (Try.prog.cellsOf 26) = some cs ∧ DataW.trod enc Try.prog w' base sp' held n 26 cs = some (D i, Q i) := by
        intro i hi
        obtain ⟨_, g1, g2⟩ := hU i hi
        rw [cells26]
        refine ⟨_, n, World.cells?_carry g1 (fun p hp => hsame p (List.mem_append_left _ ?_)), (trod_flat flatV (w' := w') (base' := base) (sp' := sp') (held' := held) n 26 _ _ rfl g2).1⟩
        obtain ⟨j, hj, rfl⟩ := MemPlace.mem_row.1 hp
        refine MemPlace.mem_row.2 ⟨i * 22 + j, ?_, ?_⟩
        · have : (i + 1) * 22 ≤ m * 22 := Nat.mul_le_mul_right _ hi
          omega
        · unfold Addr.add
          split
          · rename_i h0; simp; omega
          · simp; omega
      rw [← cells26]
      cases hs : sp' a.block with
      | true => exact Go.Deep.shut_slice_whole Try.underlying27 hb hl hm hs D Q hel
      | false =>
        have hm0 : m = 0 := by
          rcases Nat.eq_zero_or_pos m with h | h
          · exact h
          · have := hsp (.cell a.block a.off) (List.mem_append_left _ (MemPlace.mem_row.2 ⟨0, by omega, rfl⟩))
            rw [show (MemPlace.cell a.block a.off).block = a.block from rfl, hs] at this
            cases this
        subst hm0
        have hl0 : len0 = 0 := by omega
        subst hl0
        have := Go.Deep.shut_slice (w := w') (enc := enc) (held := held) Try.underlying27 hb (Nat.le_refl 0) hm hs D Q (fun i hi => by omega)
        simpa using this
end
theorem rep_vote {B : Base} {ρ : Names} {w : World} (u : Vt) : RepT B ρ w (V u) (vv u) := by
  have := RepT.ofValue (B := B) (ρ := ρ) (w := w) (vv u)
  rwa [vv_of] at this
theorem law_calls {P : Program} {f : Nat} {args : List T} {vals : List Value} (h : Sim P f args (.one (.bool true))) (w : World) (hv : RepTs ⟨P, w, fun _ => False, fun _ => none⟩ noNames w args vals) :
    Calls P f vals.toArray w fun e w' => e = .returned (.bool true) ∧ Below w.heap.size w w' := by
  refine (h.2 w (fun _ => none) vals (fun i b h => by cases h) hv).mono ?_
  rintro e w' ⟨v, ρ', he, hr, hg⟩
  cases hr
  obtain ⟨k1, k2, k3, k4, k5⟩ := hg.keeps
  exact ⟨he, k1, k2, k3, k4, fun b hb => k5 b hb (fun h => h)⟩
theorem post_law {H : Type} {enc : TypeId × Value → H} {P : Program} {f : Func} {s : ChangeSpec} {apart fresh handsOn : Bool} {W W' : World} {args : Array Value} {v : Value} {ds gs : List (DataW H)} {before pa pv : List MemPlace}
    (hW : DataW.Whole enc P f.params.toList s.vars apart W args.toList ds gs before)
    (hres : ∀ (b : Nat) (sp : Nat → Bool) (hd : Bool), DataW.TrodAll enc P W' b sp hd f.resultTypes.toList (v.resultList f.resultTypes.size) (s.fn H (ds ++ gs)).results [])
    (hargs : ∀ sp : Nat → Bool, (∀ p ∈ before, sp p.block = true) → DataW.TrodAll enc P W' 0 sp true f.params.toList args.toList (s.fn H (ds ++ gs)).args pa)
    (hvars : ∀ sp : Nat → Bool, (∀ p ∈ before, sp p.block = true) → DataW.TrodVars enc P W' sp s.vars (s.fn H (ds ++ gs)).vars pv)
    (hps : before = pa ++ pv) (hk : Below W.heap.size W W') : s.post enc P f apart fresh handsOn false W args v W' := by
  have hold : ∀ p ∈ before, (fun b => decide (b < W.heap.size)) p.block = true := fun p hp => by simpa using hW.lt p hp
  refine ⟨ds, gs, before, [], pa, pv, hW, hres _ _ _, hargs _ hold, hvars _ hold, hk.frame _, fun h => ?_⟩
  cases h
theorem same_below {W W' : World} {p : MemPlace} (h : Below W.heap.size W W') (hp : p.block < W.heap.size) : W.sameAt W' p := by
  cases p with
  | cell b off =>
    have e := h.block b hp
    simp only [World.sameAt, World.cell?, e]
  | map b => exact h.block b hp
end Go.Proofs.Ytngjhimhmpbofaa
