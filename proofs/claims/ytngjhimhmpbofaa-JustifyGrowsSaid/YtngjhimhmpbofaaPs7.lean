/- What a function's contract says (values in, a value out, no old memory changed), and a call as a step of the state. -/
import Derived.Test.YtngjhimhmpbofaaPs6
set_option linter.unusedVariables false
set_option linter.unusedSimpArgs false
namespace Go.PS
open Go

/-! ### Lending -/
def Tag.lend : Tag → Tag
  | .plain => .plain
  | .zero => .zero
  | .own x _ => .arg (2 * x)
  | .box x _ => .arg (2 * x)
  | .view x => .arg (2 * x)
  | .arg i => .arg (2 * i + 1)
/-- A pointer to a local variable, as a callee sees it. -/
def lendBox (x o : Nat) (cs : List S) : S :=
  match cs with
  | [.fn _ p] => if o = 0 then .fref [] p else .un
  | cs => if cs.all S.plain then .el (.arg (2 * x)) ((cs.map S.lay).drop o) else .un
def S.lend (m : List (Nat × List S)) : S → S
  | .sl g z es => .sl g.lend z es
  | .el g cs => .el g.lend cs
  | .ptr x o => match mget m x with
    | some cs => lendBox x o cs
    | none => .un
  | .fn _ p => .fn [] p
  | .fref _ p => .fref [] p
  | .sem C => .sem C
  | .fm _ _ _ => .un
  | .un => .un
  | .bool b => .bool b
  | .int k n => .int k n
  | .str s => .str s
  | .nilp => .nilp
def T.lend (m : List (Nat × List S)) : T → T
  | .one s => .one (s.lend m)
  | .agg l => .agg (l.map (S.lend m))
  | _ => .un
/-- The call's begin, as the callee sees it. -/
def Base.lend (B : Base) (ρ : Names) (w : World) : Base := ⟨B.P, w, fun _ => False, fun i => if i % 2 = 0 then ρ (i / 2) else B.α (i / 2)⟩
def noNames : Names := fun _ => none

section
variable {P : Program} {B : Base} {ρ : Names} {st : St} {a : Act} {w : World}
theorem lend_even (x : Nat) : (B.lend ρ w).α (2 * x) = ρ x := by simp [Base.lend]
theorem lend_odd (x : Nat) : (B.lend ρ w).α (2 * x + 1) = B.α x := by
  have h1 : (2 * x + 1) % 2 = 1 := by omega
  have h2 : (2 * x + 1) / 2 = x := by omega
  simp [Base.lend, h1, h2]
theorem priv_none {b : Nat} : ¬ Priv noNames b := fun ⟨x, hx⟩ => by cases hx
theorem zs_lend (b : Nat) : Zs (B.lend ρ w) noNames b ↔ Zs B ρ b := by
  constructor
  · rintro (h | ⟨i, hi⟩)
    · exact (priv_none h).elim
    · simp only [Base.lend] at hi
      split at hi
      · exact .inl ⟨_, hi⟩
      · exact .inr ⟨_, hi⟩
  · rintro (⟨x, hx⟩ | ⟨i, hi⟩)
    · exact .inr ⟨2 * x, by rw [lend_even]; exact hx⟩
    · exact .inr ⟨2 * i + 1, by rw [lend_odd]; exact hi⟩
theorem pl_lend {s : S} {v : Value} (h : Pl (Zs B ρ) w s v) : Pl (Zs (B.lend ρ w) noNames) w s v :=
  Pl.mono (fun _ _ _ => rfl) (fun b hb => .inl ((zs_lend b).1 hb)) s v h
theorem lies_lend {g : Tag} {b : Nat} (h : g.lies B ρ b) : g.lend.lies (B.lend ρ w) noNames b := by
  cases g with
  | plain => exact fun hz => h ((zs_lend b).1 hz)
  | zero => exact h
  | own x e => exact ⟨by rw [lend_even]; exact h, priv_none⟩
  | box x o => exact ⟨by rw [lend_even]; exact h, priv_none⟩
  | view x => exact ⟨by rw [lend_even]; exact h, priv_none⟩
  | arg i => exact ⟨by rw [lend_odd]; exact h.1, priv_none⟩
theorem Cells.lend {g : Tag} {ad : Option Addr} {j : Nat} {cs : List S} (h : Cells B ρ w g ad j cs) : Cells (B.lend ρ w) noNames w g.lend ad j cs := by
  intro i s hs
  obtain ⟨b, o, c, h1, h2, h3, h4⟩ := h i s hs
  exact ⟨b, o, c, h1, lies_lend h2, h3, pl_lend h4⟩
theorem ext_lend {xs : List Nat} {w' : World} (h : Ext noNames [] w w') : Ext ρ xs w w' := fun b hb _ => h b hb (.inl priv_none)
theorem lend_repS' {m : List (Nat × List S)} (hm : ∀ x cs, mget m x = some cs → ρ x ≠ none → BoxAt B ρ w x cs) {s : S} {v : Value} (h : RepS B ρ w s v) : RepS (B.lend ρ w) noNames w (s.lend m) v := by
  have hone := h.one
  cases s with
  | sl g z es =>
    obtain ⟨b, c, hv, hlc, he, hroom⟩ := h
    refine ⟨b, c, hv, hlc, fun i e hi => ⟨(he i e hi).1, (he i e hi).2.lend⟩, ?_⟩
    cases g <;> first | trivial | exact hroom
  | el g cs =>
    obtain ⟨b, o, hv, hc⟩ := h
    exact ⟨b, o, hv, hc.lend⟩
  | ptr x o =>
    obtain ⟨b, hb, rfl⟩ := h
    simp only [S.lend]
    split
    · rename_i cs0 hx
      unfold lendBox
      split
      · rename_i ys p
        split
        · rename_i ho
          subst ho
          obtain ⟨b', arr, ty, hb', hh, hl, hc⟩ := hm x _ hx (by rw [hb]; simp)
          have : b = b' := by rw [hb] at hb'; exact Option.some.inj hb'
          subst this
          obtain ⟨c, h1, h2⟩ := hc 0 _ rfl
          have hblt : b < w.heap.size := (Array.getElem?_eq_some_iff.1 hh).1
          refine ⟨b, c, rfl, h2.1, fun w' he => ⟨?_, h2.2 w' (ext_lend he)⟩⟩
          have hk := he b hblt (.inl priv_none)
          simp only [World.cell?, hk, hh]
          simpa using h1
        · rfl
      · split
        · rename_i hp
          obtain ⟨b', arr, ty, hb', hh, hl, hc⟩ := hm x _ hx (by rw [hb]; simp)
          have : b = b' := by rw [hb] at hb'; exact Option.some.inj hb'
          subst this
          refine ⟨b, o, rfl, fun i s hs => ?_⟩
          rw [List.getElem?_drop, List.getElem?_map, Option.map_eq_some_iff] at hs
          obtain ⟨s0, hs0, rfl⟩ := hs
          obtain ⟨c, h1, h2⟩ := hc (o + i) s0 hs0
          have hps := (List.all_eq_true.1 hp) s0 (List.mem_of_getElem? hs0)
          refine ⟨b, o, c, rfl, ⟨by rw [lend_even]; exact hb, priv_none⟩, ?_, pl_lend (Pl.of_rep hps h2)⟩
          simp only [World.cell?, hh, Nat.zero_add]
          simpa using h1
        · rfl
    · rfl
  | fn xs p => exact ⟨h.1, fun w' he => h.2 w' (ext_lend he)⟩
  | fref xs p =>
    obtain ⟨b, fv, h1, h2, h3⟩ := h
    exact ⟨b, fv, h1, h2, fun w' he => h3 w' (ext_lend he)⟩
  | sem C => exact h
  | fm xs y C => exact hone
  | un => exact h
  | bool b => exact h
  | int k n => exact h
  | str q => exact h
  | nilp => exact h
theorem lend_repS (hr : Rel B ρ st a w) {s : S} {v : Value} (h : RepS B ρ w s v) : RepS (B.lend ρ w) noNames w (s.lend st.mem) v :=
  lend_repS' (fun x cs hx _ => hr.mem x cs hx) h
theorem lend_repT (hr : Rel B ρ st a w) {t : T} {v : Value} (h : RepT B ρ w t v) : RepT (B.lend ρ w) noNames w (t.lend st.mem) v := by
  cases t with
  | one s => exact lend_repS hr h
  | agg l =>
    obtain ⟨arr, hv, hl, hc⟩ := h
    refine ⟨arr, hv, by simpa using hl, fun j s hs => ?_⟩
    simp only [List.getElem?_map, Option.map_eq_some_iff] at hs
    obtain ⟨s0, hs0, rfl⟩ := hs
    obtain ⟨c, h1, h2⟩ := hc j s0 hs0
    exact ⟨c, h1, lend_repS hr h2⟩
  | _ => trivial
theorem lend_bound (hr : Rel B ρ st a w) : ∀ i b, (B.lend ρ w).α i = some b → b < w.heap.size := by
  intro i b hi
  simp only [Base.lend] at hi
  split at hi
  · exact hr.lt _ _ hi
  · exact (hr.args _ _ hi).2
end

/-! ### A contract -/
structure Gave (P : Program) (α : Nat → Option Nat) (w w' : World) (ρ' : Names) : Prop where
  keeps : Keeps ⟨P, w, fun _ => False, α⟩ w'
  fresh : ∀ x b, ρ' x = some b → w.heap.size ≤ b ∧ b < w'.heap.size
  inj : ∀ x y b, ρ' x = some b → ρ' y = some b → x = y
def Sim (P : Program) (f : FuncId) (args : List T) (r : T) : Prop :=
  (∀ vs w, (callFunc f vs).run P w = .ok (.enter f vs) w) ∧
  ∀ (w : World) (α : Nat → Option Nat) (vals : List Value), (∀ i b, α i = some b → b < w.heap.size) → RepTs ⟨P, w, fun _ => False, α⟩ noNames w args vals →
    Calls P f vals.toArray w fun e w' => ∃ v ρ', e = .returned v ∧ RepT ⟨P, w, fun _ => False, α⟩ ρ' w' r v ∧ Gave P α w w' ρ'

/-- What is known of functions. -/
structure Book (P : Program) where
  spec : Nat → List T → Option (Prop × T)
  good : ∀ f args ob r, spec f args = some (ob, r) → ob → Sim P f args r

/-! ### What comes back -/
def nm (d k : Nat) : Nat := 10000 * (k + 1) + d
theorem nm_inj {d k k' : Nat} (h : nm d k = nm d k') : k = k' := by unfold nm at h; omega
def backTag (d : Nat) (ks : List Nat) : Tag → Option Tag
  | .plain => some .plain
  | .zero => some .zero
  | .own k e => if ks.contains k then some (.own (nm d k) e) else some .plain
  | .view k => if ks.contains k then some (.view (nm d k)) else some .plain
  | .box _ _ => none
  | .arg i => if i % 2 = 0 then (if (ks.map (nm d)).contains (i / 2) then none else some (.view (i / 2))) else some (.arg (i / 2))
def S.back (d : Nat) (ks : List Nat) : S → S
  | .sl g z es => match backTag d ks g with
    | some g' => .sl g' z es
    | none => .un
  | .el g cs => match backTag d ks g with
    | some g' => .el g' cs
    | none => .un
  | .ptr _ _ => .un
  | .fn _ _ => .un
  | .fref _ _ => .un
  | .sem C => .sem C
  | .fm _ _ _ => .un
  | .un => .un
  | .bool b => .bool b
  | .int k n => .int k n
  | .str s => .str s
  | .nilp => .nilp
mutual
def T.back (d : Nat) (ks : List Nat) : T → T
  | .un => .un
  | .one s => .one (s.back d ks)
  | .agg l => .agg (l.map (S.back d ks))
  | .tup l => .tup (T.backAll d ks l)
  | .grd c t => .grd c (t.back d ks)
def T.backAll (d : Nat) (ks : List Nat) : List T → List T
  | [] => []
  | t :: r => t.back d ks :: T.backAll d ks r
end
def Tag.made : Tag → List Nat
  | .own k _ => [k]
  | .view k => [k]
  | _ => []
def S.made : S → List Nat
  | .sl g _ _ => g.made
  | .el g _ => g.made
  | _ => []
mutual
def T.made : T → List Nat
  | .one s => s.made
  | .agg l => l.flatMap S.made
  | .tup l => T.madeAll l
  | _ => []
def T.madeAll : List T → List Nat
  | [] => []
  | t :: r => t.made ++ T.madeAll r
end
def backNames (d : Nat) (ks : List Nat) (ρ ρ' : Names) : Names := fun z =>
  match ks.find? (fun k => nm d k == z) with
  | some k => ρ' k
  | none => ρ z

section
variable {P : Program} {B : Base} {ρ ρ' : Names} {st : St} {a : Act} {w w' : World} {d : Nat} {ks : List Nat}
theorem backNames_in {k : Nat} (h : k ∈ ks) : backNames d ks ρ ρ' (nm d k) = ρ' k := by
  unfold backNames
  split
  · rename_i k' hk
    have := List.find?_some hk
    simp only [beq_iff_eq] at this
    rw [nm_inj this]
  · rename_i hk
    have := List.find?_eq_none.1 hk k h
    simp at this
theorem backNames_out {z : Nat} (h : z ∉ ks.map (nm d)) : backNames d ks ρ ρ' z = ρ z := by
  unfold backNames
  split
  · rename_i k' hk
    have h1 := List.find?_some hk
    have h2 := List.mem_of_find?_eq_some hk
    simp only [beq_iff_eq] at h1
    exact absurd (List.mem_map.2 ⟨k', h2, h1⟩) h
  · rfl
theorem backNames_cases {z b : Nat} (h : backNames d ks ρ ρ' z = some b) : (∃ k ∈ ks, z = nm d k ∧ ρ' k = some b) ∨ (z ∉ ks.map (nm d) ∧ ρ z = some b) := by
  by_cases hz : z ∈ ks.map (nm d)
  · obtain ⟨k, hk, rfl⟩ := List.mem_map.1 hz
    rw [backNames_in hk] at h
    exact .inl ⟨k, hk, rfl, h⟩
  · rw [backNames_out hz] at h
    exact .inr ⟨hz, h⟩
theorem priv_back (hr : Rel B ρ st a w) (hg : Gave B.P (B.lend ρ w).α w w' ρ') {b : Nat} (h : Priv (backNames d ks ρ ρ') b) : Zs (B.lend ρ w) ρ' b := by
  obtain ⟨z, hz⟩ := h
  rcases backNames_cases hz with ⟨k, _, _, hk⟩ | ⟨_, hz⟩
  · exact .inl ⟨k, hk⟩
  · exact .inr ⟨2 * z, by rw [lend_even]; exact hz⟩
theorem zs_back (hr : Rel B ρ st a w) (hg : Gave B.P (B.lend ρ w).α w w' ρ') {b : Nat} (h : Zs B (backNames d ks ρ ρ') b) : Zs (B.lend ρ w) ρ' b := by
  rcases h with h | ⟨i, hi⟩
  · exact priv_back hr hg h
  · exact .inr ⟨2 * i + 1, by rw [lend_odd]; exact hi⟩
theorem pl_back (hr : Rel B ρ st a w) (hg : Gave B.P (B.lend ρ w).α w w' ρ') {s : S} {v : Value} (h : Pl (Zs (B.lend ρ w) ρ') w' s v) : Pl (Zs B (backNames d ks ρ ρ')) w' s v :=
  Pl.mono (fun _ _ _ => rfl) (fun b hb => .inl (zs_back hr hg hb)) s v h
theorem lies_back (hr : Rel B ρ st a w) (hg : Gave B.P (B.lend ρ w).α w w' ρ') {g g' : Tag} {b : Nat} (hb : backTag d ks g = some g') (h : g.lies (B.lend ρ w) ρ' b) : g'.lies B (backNames d ks ρ ρ') b := by
  have shared : ∀ k, k ∉ ks → ρ' k = some b → ¬ Zs B (backNames d ks ρ ρ') b := by
    intro k hk hkb hz
    have hf := (hg.fresh k b hkb).1
    rcases hz with ⟨z, hz⟩ | ⟨i, hi⟩
    · rcases backNames_cases hz with ⟨k', hk', _, hkb'⟩ | ⟨_, hz⟩
      · exact hk ((hg.inj _ _ _ hkb hkb') ▸ hk')
      · have := hr.lt _ _ hz; omega
    · have := (hr.args _ _ hi).2; omega
  cases g with
  | plain => cases hb; exact fun hz => h (zs_back hr hg hz)
  | zero => exact h.elim
  | own k e =>
    simp only [backTag] at hb
    split at hb
    · rename_i hk
      cases hb
      show backNames d ks ρ ρ' (nm d k) = some b
      rw [backNames_in (by simpa using hk)]
      exact h
    · rename_i hk
      cases hb
      exact shared k (by simpa using hk) h
  | view k =>
    simp only [backTag] at hb
    split at hb
    · rename_i hk
      cases hb
      show backNames d ks ρ ρ' (nm d k) = some b
      rw [backNames_in (by simpa using hk)]
      exact h
    · rename_i hk
      cases hb
      exact shared k (by simpa using hk) h
  | box x o => cases hb
  | arg i =>
    obtain ⟨h1, h2⟩ := h
    simp only [backTag] at hb
    split at hb
    · rename_i hi
      split at hb
      · cases hb
      · rename_i hk
        cases hb
        show backNames d ks ρ ρ' (i / 2) = some b
        rw [backNames_out (by simpa using hk)]
        simpa [Base.lend, hi] using h1
    · rename_i hi
      cases hb
      have ha : B.α (i / 2) = some b := by simpa [Base.lend, hi] using h1
      refine ⟨ha, fun ⟨z, hz⟩ => ?_⟩
      rcases backNames_cases hz with ⟨k', hk', _, hkb'⟩ | ⟨_, hz⟩
      · exact h2 ⟨k', hkb'⟩
      · exact (hr.args _ _ ha).1 ⟨z, hz⟩
theorem Cells.back (hr : Rel B ρ st a w) (hg : Gave B.P (B.lend ρ w).α w w' ρ') {g g' : Tag} {ad : Option Addr} {j : Nat} {cs : List S} (hb : backTag d ks g = some g')
    (h : Cells (B.lend ρ w) ρ' w' g ad j cs) : Cells B (backNames d ks ρ ρ') w' g' ad j cs := by
  intro i s hs
  obtain ⟨b, o, c, h1, h2, h3, h4⟩ := h i s hs
  exact ⟨b, o, c, h1, lies_back hr hg hb h2, h3, pl_back hr hg h4⟩
theorem back_repS (hr : Rel B ρ st a w) (hg : Gave B.P (B.lend ρ w).α w w' ρ') {s : S} {v : Value} (h : RepS (B.lend ρ w) ρ' w' s v) :
    RepS B (backNames d ks ρ ρ') w' (s.back d ks) v := by
  cases s with
  | sl g z es =>
    have hone := h.one
    obtain ⟨b, c, hv, hlc, he, hroom⟩ := h
    simp only [S.back]
    split
    · rename_i g' hb
      refine ⟨b, c, hv, hlc, fun i e hi => ⟨(he i e hi).1, (he i e hi).2.back hr hg hb⟩, ?_⟩
      cases g with
      | plain => cases hb; trivial
      | zero => cases hb; exact hroom
      | own k e =>
        simp only [backTag] at hb
        split at hb
        · rename_i hk
          cases hb
          rcases hroom with hroom | ⟨ho, hbl⟩
          · exact .inl hroom
          · exact .inr ⟨ho, fun b hb => by rw [backNames_in (by simpa using hk)]; exact hbl b hb⟩
        · cases hb; trivial
      | view k =>
        simp only [backTag] at hb
        split at hb <;> (cases hb; trivial)
      | box x o => cases hb
      | arg i =>
        simp only [backTag] at hb
        split at hb
        · split at hb
          · cases hb
          · cases hb; trivial
        · cases hb; trivial
    · exact hone
  | el g cs =>
    have hone := h.one
    obtain ⟨b, o, hv, hc⟩ := h
    simp only [S.back]
    split
    · rename_i g' hb
      exact ⟨b, o, hv, hc.back hr hg hb⟩
    · exact hone
  | ptr x o => exact h.one
  | fn xs p => exact h.one
  | fref xs p => exact h.one
  | sem C => exact h
  | fm xs y C => exact h.one
  | un => exact h
  | bool b => exact h
  | int k n => exact h
  | str q => exact h
  | nilp => exact h
mutual
theorem back_repT (hr : Rel B ρ st a w) (hg : Gave B.P (B.lend ρ w).α w w' ρ') : ∀ {t : T} {v : Value}, RepT (B.lend ρ w) ρ' w' t v →
    RepT B (backNames d ks ρ ρ') w' (t.back d ks) v
  | .un, _, _ => trivial
  | .one s, _, h => back_repS hr hg h
  | .agg l, _, ⟨arr, hv, hl, hc⟩ => ⟨arr, hv, by simpa using hl, fun j s hs => by
      simp only [List.getElem?_map, Option.map_eq_some_iff] at hs
      obtain ⟨s0, hs0, rfl⟩ := hs
      obtain ⟨c, h1, h2⟩ := hc j s0 hs0
      exact ⟨c, h1, back_repS hr hg h2⟩⟩
  | .tup l, _, ⟨vs, hv, h⟩ => ⟨vs, hv, back_repTs hr hg h⟩
  | .grd c t, _, ⟨h1, h2⟩ => ⟨fun hc => back_repT hr hg (h1 hc), h2⟩
theorem back_repTs (hr : Rel B ρ st a w) (hg : Gave B.P (B.lend ρ w).α w w' ρ') : ∀ {l : List T} {vs : List Value}, RepTs (B.lend ρ w) ρ' w' l vs →
    RepTs B (backNames d ks ρ ρ') w' (T.backAll d ks l) vs
  | [], _, h => h
  | t :: r, _, ⟨v, vr, hv, ht, hq⟩ => ⟨v, vr, hv, back_repT hr hg ht, back_repTs hr hg hq⟩
end

/-! ### The names that come anew are forgotten before -/
def St.kills (st : St) (ys : List Nat) : St := ys.foldl St.kill st
def cutOf (ys : List Nat) : S → Bool := fun s => ys.any fun y => s.names y
mutual
theorem T.cut_nil : ∀ t : T, t.cut (fun _ => false) = t
  | .un => rfl
  | .one s => rfl
  | .agg l => by simp [T.cut, S.cut]
  | .tup l => by simp only [T.cut, T.cutAll_nil l]
  | .grd c t => by simp only [T.cut, T.cut_nil t]
theorem T.cutAll_nil : ∀ l : List T, T.cutAll (fun _ => false) l = l
  | [] => rfl
  | t :: r => by simp only [T.cutAll, T.cut_nil t, T.cutAll_nil r]
end
theorem cutOf_cons (y : Nat) (ys : List Nat) : cutOf (y :: ys) = fun s => S.names y s || cutOf ys s := by
  funext s; simp [cutOf]
theorem cutOf_un (ys : List Nat) : cutOf ys .un = false := by simp [cutOf, S.names]
theorem kills_tmps : ∀ (ys : List Nat) (st : St), (st.kills ys).tmps = st.tmps.map (T.cut (cutOf ys))
  | [], st => by
    have : (T.cut (cutOf [])) = id := by funext t; exact T.cut_nil t
    simp [St.kills, this]
  | y :: ys, st => by
    show ((st.kill y).kills ys).tmps = _
    rw [kills_tmps ys, cutOf_cons]
    simp only [St.kill, List.map_map]
    apply List.map_congr_left
    intro t _
    exact T.cut_cut _ _ (cutOf_un ys) t
theorem kills_mem : ∀ (ys : List Nat) (st : St) (x : Nat), mget (st.kills ys).mem x = if x ∈ ys then none else (mget st.mem x).map (·.map (·.cut (cutOf ys)))
  | [], st, x => by
    have : (S.cut (cutOf [])) = id := by funext s; simp [S.cut, cutOf]
    simp [St.kills, this]
  | y :: ys, st, x => by
    show mget ((st.kill y).kills ys).mem x = _
    rw [kills_mem ys, cutOf_cons]
    simp only [St.kill, mget_cut, mget_drop, List.mem_cons]
    by_cases hx : x ∈ ys
    · simp [hx]
    · by_cases hy : y = x
      · subst hy; simp [hx]
      · have hy' : ¬ x = y := fun h => hy h.symm
        simp only [hx, hy, hy', if_false, or_false]
        cases mget st.mem x with
        | none => rfl
        | some cs =>
          simp only [Option.map_some, List.map_map]
          congr 1
          apply List.map_congr_left
          intro s _
          exact S.cut_cut _ _ (cutOf_un ys) s

theorem Rel.back (hr : Rel B ρ st a w) (hg : Gave B.P (B.lend ρ w).α w w' ρ') (d : Nat) (ks : List Nat) :
    Rel B (backNames d ks ρ ρ') (st.kills (ks.map (nm d))) a w' := by
  have tn : Turns B ρ (backNames d ks ρ ρ') w w' (fun _ => False) (fun z => z ∈ ks.map (nm d)) := by
    refine ⟨hg.keeps.os, hg.keeps.tape, hg.keeps.output, hg.keeps.size, fun b hb _ => hg.keeps.block b hb (fun h => h), fun z hz => backNames_out hz, fun z b hz hzb => ?_, fun z z' b hz hz' h1 h2 => ?_⟩
    · obtain ⟨k, hk, rfl⟩ := List.mem_map.1 hz
      rw [backNames_in hk] at hzb
      exact ⟨.inr (hg.fresh _ _ hzb).1, (hg.fresh _ _ hzb).2⟩
    · obtain ⟨k, hk, rfl⟩ := List.mem_map.1 hz
      obtain ⟨k', hk', rfl⟩ := List.mem_map.1 hz'
      rw [backNames_in hk] at h1
      rw [backNames_in hk'] at h2
      rw [hg.inj _ _ _ h1 h2]
  have ct : Cuts (cutOf (ks.map (nm d))) (fun _ => False) (fun z => z ∈ ks.map (nm d)) :=
    ⟨fun _ _ h => h.elim, fun s x hx hs => by simp only [cutOf, List.any_eq_true]; exact ⟨x, hx, hs⟩⟩
  have h := hr.turn tn ct (st.kills (ks.map (nm d))).mem (fun x cs hx => .inl (by
    rw [kills_mem] at hx
    split at hx
    · cases hx
    · rename_i hn
      simp only [Option.map_eq_some_iff] at hx
      obtain ⟨cs0, h0, rfl⟩ := hx
      exact ⟨hn, fun h => h, cs0, h0, rfl⟩))
  rw [← kills_tmps] at h
  exact h

/-- A call's result comes in. -/
def St.ret (st : St) (dst : Option Nat) (r : T) : St :=
  match dst with
  | some d => (st.kills (r.made.map (nm d))).put (some d) (r.back d r.made)
  | none => st
theorem Rel.ret (hr : Rel B ρ st a w) (hg : Gave B.P (B.lend ρ w).α w w' ρ') {r : T} {v : Value} (h : RepT (B.lend ρ w) ρ' w' r v) (dst : Option Nat) :
    ∃ ρ'', Rel B ρ'' (st.ret dst r) (a.put dst v) w' := by
  cases dst with
  | some d => exact ⟨_, (hr.back hg d r.made).put (some d) (back_repT hr hg h)⟩
  | none =>
    have := hr.back hg 0 []
    exact ⟨_, this⟩
/-- A call's result comes in, all of it as shared memory. -/
theorem Rel.pub (hr : Rel B ρ st a w) (hg : Gave B.P (B.lend ρ w).α w w' ρ') {r : T} {v : Value} (h : RepT (B.lend ρ w) ρ' w' r v) :
    Rel B ρ st a w' ∧ RepT B ρ w' (r.back 0 []) v := by
  have e : backNames 0 [] ρ ρ' = ρ := by funext z; exact backNames_out (by simp)
  have h1 := hr.back hg 0 []
  have h2 := back_repT (d := 0) (ks := []) hr hg h
  rw [e] at h1 h2
  exact ⟨h1, h2⟩

/-! ### The call -/
def argsT (st : St) (g : Bool) : List Operand → Prop × List T
  | [] => (True, [])
  | x :: r => match st.rd g x, argsT st g r with
    | (o, v), (o', l) => (o ∧ o', v.lend st.mem :: l)
theorem argsT_rep (hr : Rel B ρ st a w) {g : Bool} (hg : g = true) : ∀ (xs : List Operand), (argsT st g xs).1 → RepTs (B.lend ρ w) noNames w (argsT st g xs).2 (xs.map a.eval)
  | [], _ => rfl
  | x :: r, ho => ⟨_, _, rfl, lend_repT hr (hr.rd hg x ho.1), argsT_rep hr hg r ho.2⟩
/-- The function that is called, and with what. -/
def callOf (st : St) (g : Bool) : Op → Option (Nat × Prop × List T)
  | .call c => match c.callee with
    | .value (.func f) => some (f, argsT st g c.args.toList)
    | _ => none
  | _ => none
theorem call_calls (hr : Rel B ρ st a w) (hP : B.P = P) {o : Oper} {f : Nat} {ob : Prop} {args : List T} (h : callOf st true o.op = some (f, ob, args)) (ho : ob) {r : T} (hs : Sim P f args r)
    {next : Act → World → Prop} {Q : Exit → Act → World → Prop}
    (hn : ∀ v w' ρ', RepT (B.lend ρ w) ρ' w' r v → Gave B.P (B.lend ρ w).α w w' ρ' → next (a.put o.dst v) w') : o.wp P a w next Q := by
  unfold callOf at h
  split at h
  · rename_i c hop
    split at h
    · rename_i f' hcal
      simp only [Option.some.injEq, Prod.mk.injEq] at h
      obtain ⟨rfl, hargs⟩ := h
      have ha := argsT_rep hr rfl c.args.toList (by rw [hargs]; exact ho)
      rw [hargs] at ha
      have hrun : (execOp a.eval o).run P w = .ok (.enter f' (c.args.map a.eval)) w := by
        unfold execOp
        rw [hop]
        simp [resolve, hcal, Act.eval, Deferred.ofValue, invoke, hs.1]
      unfold Oper.wp
      rw [hrun, Oper.upon_enter]
      subst hP
      have hc := hs.2 w (B.lend ρ w).α (c.args.map a.eval).toList (lend_bound hr) (by rw [Array.toList_map]; exact ha)
      simp only [Array.toArray_toList] at hc
      exact hc.mono fun e w' ⟨v, ρ', he, hv, hg⟩ => by subst he; exact hn v w' ρ' hv hg
    · cases h
  · cases h
end
end Go.PS
