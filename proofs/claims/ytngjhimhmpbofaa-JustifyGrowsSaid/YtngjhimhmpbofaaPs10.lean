/- Code as a step of the state: one rule for each form; a function's contract from its code. -/
import Derived.Test.YtngjhimhmpbofaaPs9
import Derived.Scope
set_option linter.unusedVariables false
set_option linter.unusedSimpArgs false
namespace Go.PS
open Go

/-! ### What may be forgotten -/
def LeT (t t' : T) : Prop := ∀ (B : Base) (ρ : Names) (w : World) (v : Value), RepT B ρ w t v → RepT B ρ w t' v
theorem LeT.un (t : T) : LeT t .un := fun _ _ _ _ _ => trivial
theorem LeT.refl (t : T) : LeT t t := fun _ _ _ _ h => h
theorem LeT.of_eq {t t' : T} (h : t = t') : LeT t t' := h ▸ LeT.refl t
theorem LeT.zero (z z' x e : Nat) (es : List (List S)) : LeT (.one (.sl .zero z es)) (.one (.sl (.own x e) z' [])) := fun B ρ w v h => (rep_zero_own h).2
theorem LeT.zero_plain (z : Nat) (es : List (List S)) : LeT (.one (.sl .zero z es)) (.one (.sl .plain z es)) := fun B ρ w v h => by
  have : es = [] := (rep_zero_own (z' := 0) (e := 0) (d := 0) h).1
  subst this
  obtain ⟨b, c, hv, hlc, hes, hroom⟩ := rep_sl h
  exact ⟨b, c, hv, hlc, fun i e he => by simp at he, trivial⟩
theorem LeT.view (x e z : Nat) (es : List (List S)) : LeT (.one (.sl (.own x e) z es)) (.one (.sl (.view x) z es)) := fun B ρ w v h => by
  obtain ⟨b, c, hv, hlc, hes, hroom⟩ := rep_sl h
  exact ⟨b, c, hv, hlc, fun i e he => ⟨(hes i e he).1, (hes i e he).2.subTag⟩, trivial⟩
theorem LeT.grd (t : T) : LeT (.grd true t) t := fun B ρ w v h => h.1 rfl
theorem LeT.agg_un {l : List S} {t' : T} (h : t' = .un) : LeT (.agg l) t' := h ▸ LeT.un _
def LeTs : List T → List T → Prop
  | [], [] => True
  | t :: r, t' :: r' => LeT t t' ∧ LeTs r r'
  | _, _ => False
theorem LeTs.refl : ∀ l : List T, LeTs l l
  | [] => trivial
  | t :: r => ⟨LeT.refl t, LeTs.refl r⟩
theorem LeTs.at_ : ∀ {l l' : List T}, LeTs l l' → l.length = l'.length ∧ ∀ (t : Nat) (v' : T), l'[t]? = some v' → ∃ v : T, l[t]? = some v ∧ LeT v v'
  | [], [], _ => ⟨rfl, fun t v' h => by simp at h⟩
  | x :: r, x' :: r', ⟨h1, h2⟩ => by
    obtain ⟨q1, q2⟩ := h2.at_
    refine ⟨by simp [q1], fun t v' ht => ?_⟩
    cases t with
    | zero => simp only [List.getElem?_cons_zero, Option.some.injEq] at ht; subst ht; exact ⟨x, rfl, h1⟩
    | succ t => simpa using q2 t v' (by simpa using ht)
def LeM (m m' : List (Nat × List S)) : Prop := ∀ x cs, mget m' x = some cs → mget m x = some cs
theorem LeM.refl (m : List (Nat × List S)) : LeM m m := fun _ _ h => h
theorem LeM.nil (m : List (Nat × List S)) : LeM m [] := fun _ _ h => by cases h
/-- Whoever is in the one state is in the other. -/
def Le (s s' : St) : Prop := ∀ (B : Base) (ρ : Names) (a : Act) (w : World), Rel B ρ s a w → ∃ ρ', Rel B ρ' s' a w
theorem Le.refl (s : St) : Le s s := fun B ρ a w h => ⟨ρ, h⟩
theorem Le.trans {s s' s'' : St} (h : Le s s') (h' : Le s' s'') : Le s s'' := fun B ρ a w hr => by
  obtain ⟨ρ', hr'⟩ := h B ρ a w hr
  exact h' B ρ' a w hr'
theorem Le.mk {l l' : List T} {m m' : List (Nat × List S)} (h : LeTs l l') (hm : LeM m m') : Le ⟨l, m⟩ ⟨l', m'⟩ := fun B ρ a w hr => by
  obtain ⟨h1, h2⟩ := h.at_
  refine ⟨ρ, hr.len.trans h1, fun t v' ht => ?_, fun x cs hx => hr.mem x cs (hm x cs hx), hr.inj, hr.lt, hr.args, hr.new, hr.keeps, hr.defers⟩
  obtain ⟨v, hv, hle⟩ := h2 t v' ht
  exact hle B ρ w _ (hr.tmps t v hv)
/-- Memory of which less is known. -/
def LeMs (m m' : List (Nat × List S)) : Prop := ∀ x cs', mget m' x = some cs' → ∃ cs, mget m x = some cs ∧ LeTs (cs.map .one) (cs'.map .one)
theorem LeMs.nil (m : List (Nat × List S)) : LeMs m [] := fun _ _ h => by cases h
theorem LeMs.cons {m m' : List (Nat × List S)} {x : Nat} {cs cs' : List S} (h : mget m x = some cs) (hc : LeTs (cs.map .one) (cs'.map .one)) (hm : LeMs m m') : LeMs m ((x, cs') :: m') := by
  intro y ds hy
  simp only [mget] at hy
  split at hy
  · rename_i e
    have e' : x = y := by simpa using e
    subst e'
    cases hy
    exact ⟨cs, h, hc⟩
  · exact hm y ds hy
theorem LeMs.same {m m' : List (Nat × List S)} {x : Nat} {cs : List S} (h : mget m x = some cs) (hm : LeMs m m') : LeMs m ((x, cs) :: m') := .cons h (LeTs.refl _) hm
theorem Le.mks {l l' : List T} {m m' : List (Nat × List S)} (h : LeTs l l') (hm : LeMs m m') : Le ⟨l, m⟩ ⟨l', m'⟩ := fun B ρ a w hr => by
  refine ⟨ρ, hr.len.trans h.at_.1, fun t v' ht => ?_, fun x cs' hx => ?_, hr.inj, hr.lt, hr.args, hr.new, hr.keeps, hr.defers⟩
  · obtain ⟨v, hv, hle⟩ := h.at_.2 t v' ht
    exact hle _ _ _ _ (hr.tmps t v hv)
  · obtain ⟨cs, hcs, hle⟩ := hm x cs' hx
    obtain ⟨b, arr, ty, h1, h2, h3, h4⟩ := hr.mem x cs hcs
    have hl := hle.at_.1
    simp only [List.length_map] at hl
    refine ⟨b, arr, ty, h1, h2, h3.trans hl, fun j s hs => ?_⟩
    obtain ⟨v, hv, hlv⟩ := hle.at_.2 j (.one s) (by simp [hs])
    simp only [List.getElem?_map, Option.map_eq_some_iff] at hv
    obtain ⟨s0, hs0, rfl⟩ := hv
    obtain ⟨c, hc1, hc2⟩ := h4 j s0 hs0
    exact ⟨c, hc1, hlv _ _ _ _ hc2⟩
theorem Le.of_eq {s s' : St} (h : s = s') : Le s s' := h ▸ Le.refl s

section
variable {P : Program} {G : Book P}
/-- The code comes from this state, in every frame and world that are in it, to ends that Q lets in. -/
def SW (P : Program) (c : Code) (Q : Exit → St → Prop) (st : St) : Prop :=
  ∀ (B : Base) (ρ : Names) (a : Act) (w : World), B.P = P → Rel B ρ st a w → c.wp P (fun e a' w' => ∃ ρ' st', Rel B ρ' st' a' w' ∧ Q e st') a w
variable {Q Q' : Exit → St → Prop} {st st' : St}
theorem SW.mono {c : Code} (h : SW P c Q st) (hq : ∀ e s, Q e s → Q' e s) : SW P c Q' st := fun B ρ a w hP hr =>
  wp_mono (h B ρ a w hP hr) fun e a' w' ⟨ρ', s, h1, h2⟩ => ⟨ρ', s, h1, hq e s h2⟩
theorem SW.le {c : Code} (hl : Le st st') (h : SW P c Q st') : SW P c Q st := fun B ρ a w hP hr => by
  obtain ⟨ρ', hr'⟩ := hl B ρ a w hr
  exact h B ρ' a w hP hr'
theorem SW.skip (h : Q .normal st) : SW P .skip Q st := fun B ρ a w hP hr => wp_skip ⟨ρ, st, hr, h⟩
theorem SW.label {l : Nat} (h : Q .normal st) : SW P (.label l) Q st := fun B ρ a w hP hr => wp_label ⟨ρ, st, hr, h⟩
theorem SW.exit {id : Nat} (h : Q (.exit id) st) : SW P (.exit id) Q st := fun B ρ a w hP hr => wp_exit ⟨ρ, st, hr, h⟩
theorem SW.ret (h : Q .ret st) : SW P .ret Q st := fun B ρ a w hP hr => wp_ret ⟨ρ, st, hr, h⟩
/-- What is asked of the ends of the first of two codes. -/
def thenQ (N : St → Prop) (Q : Exit → St → Prop) : Exit → St → Prop
  | .normal, s => N s
  | e, s => Q e s
theorem SW.seq {x y : Code} (h : SW P x (thenQ (SW P y Q) Q) st) : SW P (.seq x y) Q st := fun B ρ a w hP hr =>
  wp_seq (wp_mono (h B ρ a w hP hr) fun e a' w' ⟨ρ', s, h1, h2⟩ => by
    cases e with
    | normal => exact h2 B ρ' a' w' hP h1
    | _ => exact ⟨ρ', s, h1, h2⟩)
def blockQ (id : Nat) (Q : Exit → St → Prop) : Exit → St → Prop
  | .exit id', s => if id' = id then Q .normal s else Q (.exit id') s
  | e, s => Q e s
theorem SW.block {id : Nat} {c : Code} (h : SW P c (blockQ id Q) st) : SW P (.block id c) Q st := fun B ρ a w hP hr =>
  wp_block (wp_mono (h B ρ a w hP hr) fun e a' w' ⟨ρ', s, h1, h2⟩ => by
    cases e with
    | exit id' =>
      simp only [blockQ] at h2
      simp only [Exit.inBlock]
      split
      · rename_i e; rw [if_pos e] at h2; exact ⟨ρ', s, h1, h2⟩
      · rename_i e; rw [if_neg e] at h2; exact ⟨ρ', s, h1, h2⟩
    | _ => exact ⟨ρ', s, h1, h2⟩)
def scopeQ (Q : Exit → St → Prop) : Exit → St → Prop
  | .goto _, _ => False
  | e, s => Q e s
theorem SW.scope {c : Code} (h : SW P c (scopeQ Q) st) : SW P (.scope c) Q st := fun B ρ a w hP hr =>
  wp_scope_straight (wp_mono (h B ρ a w hP hr) fun e a' w' ⟨ρ', s, h1, h2⟩ => by
    cases e with
    | goto l => exact h2.elim
    | _ => exact ⟨ρ', s, h1, h2⟩)
theorem SW.cond {x : Operand} {c c' : Code} {b : Bool} {o : Prop} (hx : st.rd true x = (o, .one (.bool b))) (ho : o) (h1 : b = true → SW P c Q st) (h2 : b = false → SW P c' Q st) :
    SW P (.cond x c c') Q st := fun B ρ a w hP hr => by
  have hv := hr.rd (g := true) rfl x (by rw [hx]; exact ho)
  rw [hx] at hv
  exact wp_cond_split hv (fun hb => h1 hb B ρ a w hP hr) (fun hb => h2 hb B ρ a w hP hr)
/-- A loop: an invariant, which may forget; something that sinks. -/
theorem SW.loop {c : Code} {ι : Type} (inv : ι → St) (Φ : ι → Prop) (μ : ι → Nat) (i₀ : ι) (h₀ : Le st (inv i₀)) (hΦ : Φ i₀)
    (round : ∀ i, Φ i → SW P c (thenQ (fun s => ∃ i', Le s (inv i') ∧ Φ i' ∧ μ i' < μ i) Q) (inv i)) : SW P (.loop c) Q st := fun B ρ a w hP hr => by
  obtain ⟨ρ₀, hr₀⟩ := h₀ B ρ a w hr
  intro b k cs
  have key : ∀ (n : Nat) (i : ι) (ρ : Names) (a : Act) (w : World), μ i = n → Φ i → Rel B ρ (inv i) a w →
      ∃ e a' w', (∃ ρ' st', Rel B ρ' st' a' w' ∧ Q e st') ∧ Arrives P (lone (b.at a (.code c :: .inLoop c :: k)) cs w) b k cs e a' w' := by
    intro n
    induction n using Nat.strongRecOn with
    | _ n ih =>
      intro i ρ a w hn hi hr
      obtain ⟨e, a₁, w₁, ⟨ρ', s, h1, h2⟩, harr⟩ := round i hi B ρ a w hP hr b (.inLoop c :: k) cs
      cases e with
      | normal =>
        obtain ⟨i', hle, hΦ', hlt⟩ := h2
        obtain ⟨ρ'', hr'⟩ := hle B ρ' a₁ w₁ h1
        obtain ⟨e₂, a₂, w₂, hq₂, harr₂⟩ := ih (μ i') (hn ▸ hlt) i' ρ'' a₁ w₁ rfl hΦ' hr'
        exact ⟨e₂, a₂, w₂, hq₂, .of_steps (Steps.trans harr (.one step_inLoop)) harr₂⟩
      | exit id => exact ⟨_, a₁, w₁, ⟨ρ', s, h1, h2⟩, .pass (x := .inLoop c) rfl (fun _ _ => .inl (by simp)) harr⟩
      | goto l => exact ⟨_, a₁, w₁, ⟨ρ', s, h1, h2⟩, .pass (x := .inLoop c) rfl (fun _ _ => .inl (by simp)) harr⟩
      | ret => exact ⟨_, a₁, w₁, ⟨ρ', s, h1, h2⟩, .pass (x := .inLoop c) rfl (fun _ _ => .inl (by simp)) harr⟩
      | panic ch => exact ⟨_, a₁, w₁, ⟨ρ', s, h1, h2⟩, .pass (x := .inLoop c) rfl (fun _ _ => .inl (by simp)) harr⟩
      | outgrown => exact ⟨_, a₁, w₁, ⟨ρ', s, h1, h2⟩, .pass (x := .inLoop c) rfl (fun _ _ => .inl (by simp)) harr⟩
  obtain ⟨e, a', w', hq, harr⟩ := key _ i₀ ρ₀ a w rfl hΦ hr₀
  exact ⟨e, a', w', hq, .of_steps (.one step_loop) harr⟩

/-! ### The steps, computed -/
/-- The code has no rule here. -/
def StuckC (st : St) : Prop := False
def PW (P : Program) (G : Book P) : Code → (Exit → St → Prop) → St → Prop
  | .skip, Q, st => Q .normal st
  | .label _, Q, st => Q .normal st
  | .exit id, Q, st => Q (.exit id) st
  | .ret, Q, st => Q .ret st
  | .region _ ops false, Q, st => regK P G ops ops.toList st fun s => Q .normal s
  | .region _ ops true, Q, st => okDraw ops = true ∧ drawK P G ops ops.toList st fun s => Q .normal s
  | .seq x y, Q, st => PW P G x (thenQ (PW P G y Q) Q) st
  | .block id c, Q, st => PW P G c (blockQ id Q) st
  | .scope c, Q, st => PW P G c (scopeQ Q) st
  | .cond x c c', Q, st => match st.rd true x with
    | (o, .one (.bool b)) => o ∧ (b = true → PW P G c Q st) ∧ (b = false → PW P G c' Q st)
    | _ => StuckC st
  | .loop c, Q, st => SW P (.loop c) Q st
  | .rangeFunc f ps as bd, Q, st => SW P (.rangeFunc f ps as bd) Q st
  | _, _, st => StuckC st
theorem PW.sw (hm : P.follows .mixedOrders = true) : ∀ (c : Code) (Q : Exit → St → Prop) (st : St), PW P G c Q st → SW P c Q st
  | .skip, Q, st, h => SW.skip h
  | .label _, Q, st, h => SW.label h
  | .exit id, Q, st, h => SW.exit h
  | .ret, Q, st, h => SW.ret h
  | .region id ops false, Q, st, h => fun B ρ a w hP hr => wp_region (by
      have := reg_run (P := P) (G := G) (B := B) hP (ops := ops) (Q := fun e a' w' => ∃ ρ' st', Rel B ρ' st' a' w' ∧ Q e st') ops.toList 0 st a w ρ _ (by simp) h hr (fun ρ' s a' w' h1 h2 => ⟨ρ', s, h1, h2⟩)
      rwa [List.range_eq_range', ← Array.length_toList])
  | .region id ops true, Q, st, h => fun B ρ a w hP hr => draw_run (G := G) hP hm h.1 h.2 hr fun ρ' s a' w' h1 h2 => ⟨ρ', s, h1, h2⟩
  | .seq x y, Q, st, h => SW.seq ((PW.sw hm x _ st h).mono fun e s hq => by
      cases e with
      | normal => exact PW.sw hm y Q s hq
      | _ => exact hq)
  | .block id c, Q, st, h => SW.block (PW.sw hm c _ st h)
  | .scope c, Q, st, h => SW.scope (PW.sw hm c _ st h)
  | .cond x c c', Q, st, h => by
      simp only [PW] at h
      split at h
      · rename_i o b hx
        exact SW.cond hx h.1 (fun hb => PW.sw hm c Q st (h.2.1 hb)) (fun hb => PW.sw hm c' Q st (h.2.2 hb))
      · exact h.elim
  | .loop c, Q, st, h => h
  | .rangeFunc f ps as bd, Q, st, h => h
  | .goto l, Q, st, h => h.elim
  | .refuse y, Q, st, h => h.elim

theorem cutn_un (d : Nat)  : (S.un).cut (S.names d) = .un := rfl
theorem cutn_bool (d : Nat) (b : Bool) : (S.bool b).cut (S.names d) = .bool b := rfl
theorem cutn_int (d : Nat) (k : IntKind) (n : Int) : (S.int k n).cut (S.names d) = .int k n := rfl
theorem cutn_str (d : Nat) (b : ByteArray) : (S.str b).cut (S.names d) = .str b := rfl
theorem cutn_nilp (d : Nat)  : (S.nilp).cut (S.names d) = .nilp := rfl
theorem cutn_sl (d : Nat) (g : Tag) (z : Nat) (es : List (List S)) : (S.sl g z es).cut (S.names d) = if g.names d = true then .un else .sl g z es := rfl
theorem cutn_el (d : Nat) (g : Tag) (cs : List S) : (S.el g cs).cut (S.names d) = if g.names d = true then .un else .el g cs := rfl
theorem cutn_fn (d : Nat) (xs : List Nat) (p : List Value → Option (Prop × Value)) : (S.fn xs p).cut (S.names d) = if xs.contains d = true then .un else .fn xs p := rfl
theorem cutn_fref (d : Nat) (xs : List Nat) (p : List Value → Option (Prop × Value)) : (S.fref xs p).cut (S.names d) = if xs.contains d = true then .un else .fref xs p := rfl
theorem cutr_un (d : Nat)  : (S.un).cut (S.reads d) = .un := rfl
theorem cutr_bool (d : Nat) (b : Bool) : (S.bool b).cut (S.reads d) = .bool b := rfl
theorem cutr_int (d : Nat) (k : IntKind) (n : Int) : (S.int k n).cut (S.reads d) = .int k n := rfl
theorem cutr_str (d : Nat) (b : ByteArray) : (S.str b).cut (S.reads d) = .str b := rfl
theorem cutr_nilp (d : Nat)  : (S.nilp).cut (S.reads d) = .nilp := rfl
theorem cutr_sl (d : Nat) (g : Tag) (z : Nat) (es : List (List S)) : (S.sl g z es).cut (S.reads d) = if g.names d = true then .un else .sl g z es := rfl
theorem cutr_el (d : Nat) (g : Tag) (cs : List S) : (S.el g cs).cut (S.reads d) = if g.names d = true then .un else .el g cs := rfl
theorem cutr_fn (d : Nat) (xs : List Nat) (p : List Value → Option (Prop × Value)) : (S.fn xs p).cut (S.reads d) = if xs.contains d = true then .un else .fn xs p := rfl
theorem cutr_fref (d : Nat) (xs : List Nat) (p : List Value → Option (Prop × Value)) : (S.fref xs p).cut (S.reads d) = if xs.contains d = true then .un else .fref xs p := rfl
theorem cutn_ptr (d x o : Nat) : (S.ptr x o).cut (S.names d) = if (d == x) = true then .un else .ptr x o := rfl
theorem cutr_ptr (d x o : Nat) : (S.ptr x o).cut (S.reads d) = .ptr x o := rfl
theorem lendBox_fn (x : Nat) (xs : List Nat) (p : List Value → Option (Prop × Value)) : lendBox x 0 [.fn xs p] = .fref [] p := rfl
theorem lendBox_int (x : Nat) (k : IntKind) (n : Int) : lendBox x 0 [.int k n] = .el (.arg (2 * x)) [.int k n] := rfl
theorem lendBox_bool (x : Nat) (b : Bool) : lendBox x 0 [.bool b] = .el (.arg (2 * x)) [.bool b] := rfl
theorem lendBox_nilp (x : Nat) : lendBox x 0 [.nilp] = .el (.arg (2 * x)) [.nilp] := rfl
theorem lendBox_of {x : Nat} {cs : List S} (h : cs.length ≠ 1) (hp : cs.all S.plain = true) (hl : cs.map S.lay = cs) : lendBox x 0 cs = .el (.arg (2 * x)) cs := by
  unfold lendBox
  split
  · simp at h
  · rw [if_pos hp, hl]; rfl
theorem ff_imp {p : Prop} : (false = true → p) ↔ True := ⟨fun _ => trivial, fun _ h => by cases h⟩
theorem tf_imp {p : Prop} : (true = false → p) ↔ True := ⟨fun _ => trivial, fun _ h => by cases h⟩

/-- The steps, computed up to the end of the first of two codes. -/
def PW1 (P : Program) (G : Book P) : Code → (Exit → St → Prop) → St → Prop
  | .skip, Q, st => Q .normal st
  | .label _, Q, st => Q .normal st
  | .exit id, Q, st => Q (.exit id) st
  | .ret, Q, st => Q .ret st
  | .region _ ops false, Q, st => regK P G ops ops.toList st fun s => Q .normal s
  | .region _ ops true, Q, st => okDraw ops = true ∧ drawK P G ops ops.toList st fun s => Q .normal s
  | .seq x y, Q, st => PW1 P G x (thenQ (SW P y Q) Q) st
  | .block id c, Q, st => PW1 P G c (blockQ id Q) st
  | .scope c, Q, st => PW1 P G c (scopeQ Q) st
  | .cond x c c', Q, st => match st.rd true x with
    | (o, .one (.bool b)) => o ∧ (b = true → PW1 P G c Q st) ∧ (b = false → PW1 P G c' Q st)
    | _ => StuckC st
  | .loop c, Q, st => SW P (.loop c) Q st
  | .rangeFunc f ps as bd, Q, st => SW P (.rangeFunc f ps as bd) Q st
  | _, _, st => StuckC st
theorem PW1.sw (hm : P.follows .mixedOrders = true) : ∀ (c : Code) (Q : Exit → St → Prop) (st : St), PW1 P G c Q st → SW P c Q st
  | .skip, Q, st, h => SW.skip h
  | .label _, Q, st, h => SW.label h
  | .exit id, Q, st, h => SW.exit h
  | .ret, Q, st, h => SW.ret h
  | .region id ops false, Q, st, h => PW.sw (G := G) hm (.region id ops false) Q st h
  | .region id ops true, Q, st, h => PW.sw (G := G) hm (.region id ops true) Q st h
  | .seq x y, Q, st, h => SW.seq (PW1.sw hm x _ st h)
  | .block id c, Q, st, h => SW.block (PW1.sw hm c _ st h)
  | .scope c, Q, st, h => SW.scope (PW1.sw hm c _ st h)
  | .cond x c c', Q, st, h => by
      simp only [PW1] at h
      split at h
      · rename_i o b hx
        exact SW.cond hx h.1 (fun hb => PW1.sw hm c Q st (h.2.1 hb)) (fun hb => PW1.sw hm c' Q st (h.2.2 hb))
      · exact h.elim
  | .loop c, Q, st, h => h
  | .rangeFunc f ps as bd, Q, st, h => h
  | .goto l, Q, st, h => h.elim
  | .refuse y, Q, st, h => h.elim
theorem regK_congr {ops : Array Oper} {l : List Oper} {st st' : St} {K : St → Prop} (h : st = st') : regK P G ops l st K = regK P G ops l st' K := h ▸ rfl
theorem drawK_congr {ops : Array Oper} {l : List Oper} {st st' : St} {K : St → Prop} (h : st = st') : drawK P G ops l st K = drawK P G ops l st' K := h ▸ rfl
theorem stepK_congr {ops : Array Oper} {o : Oper} {st st' : St} {K : St → Prop} (h : st = st') : stepK P G ops o st K = stepK P G ops o st' K := h ▸ rfl
theorem quietK_congr {ops : Array Oper} {o : Oper} {st st' : St} {K : T → Prop} (h : st = st') : quietK P G ops o st K = quietK P G ops o st' K := h ▸ rfl
theorem callK_congr {g : Bool} {o : Oper} {st st' : St} {K : T → Prop} (h : st = st') : callK P G g st o K = callK P G g st' o K := h ▸ rfl
theorem SW_congr {c : Code} {Q : Exit → St → Prop} {st st' : St} (h : st = st') : SW P c Q st = SW P c Q st' := h ▸ rfl
theorem PW_congr {c : Code} {Q : Exit → St → Prop} {st st' : St} (h : st = st') : PW P G c Q st = PW P G c Q st' := h ▸ rfl
theorem thenQ_congr {N : St → Prop} {Q : Exit → St → Prop} {e e' : Exit} {s s' : St} (he : e = e') (h : s = s') : thenQ N Q e s = thenQ N Q e' s' := by rw [he, h]
theorem blockQ_congr {id : Nat} {Q : Exit → St → Prop} {e e' : Exit} {s s' : St} (he : e = e') (h : s = s') : blockQ id Q e s = blockQ id Q e' s' := by rw [he, h]
theorem scopeQ_congr {Q : Exit → St → Prop} {e e' : Exit} {s s' : St} (he : e = e') (h : s = s') : scopeQ Q e s = scopeQ Q e' s' := by rw [he, h]

/-! ### A function -/
/-- The names that a result bears stand for names of the state. -/
def tagSub (ms : List Nat) : Tag → Tag
  | .own k e => .own (ms.getD k 0) e
  | .view k => .view (ms.getD k 0)
  | .box k o => .box (ms.getD k 0) o
  | g => g
def S.sub (ms : List Nat) : S → S
  | .sl g z es => .sl (tagSub ms g) z es
  | .el g cs => .el (tagSub ms g) cs
  | .ptr x o => .ptr (ms.getD x 0) o
  | .un => .un
  | .bool b => .bool b
  | .int k n => .int k n
  | .str s => .str s
  | .nilp => .nilp
  | .fn xs p => .fn (xs.map fun k => ms.getD k 0) p
  | .fref xs p => .fref (xs.map fun k => ms.getD k 0) p
  | .sem C => .sem C
  | .fm xs y C => .fm (xs.map fun k => ms.getD k 0) (ms.getD y 0) C
mutual
def T.sub (ms : List Nat) : T → T
  | .un => .un
  | .one s => .one (s.sub ms)
  | .agg l => .agg (l.map (S.sub ms))
  | .tup l => .tup (T.subAll ms l)
  | .grd c t => .grd c (t.sub ms)
def T.subAll (ms : List Nat) : List T → List T
  | [] => []
  | t :: r => t.sub ms :: T.subAll ms r
end
/-- The largest name of a result, plus one. -/
def Tag.top : Tag → Nat
  | .own k _ => k + 1
  | .view k => k + 1
  | .box k _ => k + 1
  | _ => 0
def S.top : S → Nat
  | .sl g _ _ => g.top
  | .el g _ => g.top
  | .ptr x _ => x + 1
  | .fn xs _ => xs.foldr (fun x m => max (x + 1) m) 0
  | .fref xs _ => xs.foldr (fun x m => max (x + 1) m) 0
  | .fm xs y _ => max (y + 1) (xs.foldr (fun x m => max (x + 1) m) 0)
  | _ => 0
theorem top_le {xs : List Nat} {n : Nat} (h : xs.foldr (fun x m => max (x + 1) m) 0 ≤ n) : ∀ x ∈ xs, x + 1 ≤ n := by
  induction xs with
  | nil => intro x hx; cases hx
  | cons y r ih =>
    simp only [List.foldr_cons] at h
    intro x hx
    rcases List.mem_cons.1 hx with rfl | hx
    · omega
    · exact ih (by omega) x hx
mutual
def T.okTop (n : Nat) : T → Bool
  | .un => true
  | .one s => decide (s.top ≤ n)
  | .agg l => l.all fun s => decide (s.top ≤ n)
  | .tup l => T.okTops n l
  | .grd _ _ => false
def T.okTops (n : Nat) : List T → Bool
  | [] => true
  | t :: r => t.okTop n && T.okTops n r
end
def subNames (ms : List Nat) (ρ : Names) : Names := fun k => (ms[k]?).bind ρ

variable {B : Base} {ρ : Names} {w : World}
theorem zs_sub {ms : List Nat} {b : Nat} (h : Zs B (subNames ms ρ) b) : Zs B ρ b := by
  rcases h with ⟨k, hk⟩ | h
  · simp only [subNames, Option.bind_eq_some_iff] at hk
    obtain ⟨x, _, hx⟩ := hk
    exact .inl ⟨x, hx⟩
  · exact .inr h
theorem sub_at {ms : List Nat} {k b : Nat} (hk : k + 1 ≤ ms.length) (h : ρ (ms.getD k 0) = some b) : subNames ms ρ k = some b := by
  have : ms[k]? = some (ms.getD k 0) := by
    rw [List.getD_eq_getElem?_getD, List.getElem?_eq_getElem (by omega)]; rfl
  show (ms[k]?).bind ρ = some b
  rw [this]; exact h
theorem lies_sub {ms : List Nat} {g : Tag} {b : Nat} (ht : g.top ≤ ms.length) (h : (tagSub ms g).lies B ρ b) : g.lies B (subNames ms ρ) b := by
  cases g with
  | plain => exact fun hz => h (zs_sub hz)
  | zero => exact h
  | own k e => exact sub_at ht h
  | box k o => exact sub_at ht h
  | view k => exact sub_at ht h
  | arg i => exact ⟨h.1, fun ⟨k, hk⟩ => h.2 (by
      simp only [subNames, Option.bind_eq_some_iff] at hk
      obtain ⟨x, _, hx⟩ := hk
      exact ⟨x, hx⟩)⟩
theorem Cells.unsub {ms : List Nat} {g : Tag} {ad : Option Addr} {j : Nat} {cs : List S} (ht : g.top ≤ ms.length) (h : Cells B ρ w (tagSub ms g) ad j cs) : Cells B (subNames ms ρ) w g ad j cs := by
  intro i s hs
  obtain ⟨b, o, c, h1, h2, h3, h4⟩ := h i s hs
  exact ⟨b, o, c, h1, lies_sub ht h2, h3, Pl.mono (fun _ _ _ => rfl) (fun b hb => .inl (zs_sub hb)) s c h4⟩
theorem ext_sub {ms xs : List Nat} {w' : World} (h : ∀ x ∈ xs, x + 1 ≤ ms.length) (he : Ext (subNames ms ρ) xs w w') : Ext ρ (xs.map fun k => ms.getD k 0) w w' := by
  intro b hb hc
  refine he b hb ?_
  rcases hc with hc | ⟨y, hy, hyb⟩
  · left
    rintro ⟨k, hk⟩
    simp only [subNames, Option.bind_eq_some_iff] at hk
    obtain ⟨x, _, hx⟩ := hk
    exact hc ⟨x, hx⟩
  · obtain ⟨k, hk, rfl⟩ := List.mem_map.1 hy
    exact .inr ⟨k, hk, sub_at (h k hk) hyb⟩
theorem sub_repS {ms : List Nat} {s : S} {v : Value} (ht : s.top ≤ ms.length) (h : RepS B ρ w (s.sub ms) v) : RepS B (subNames ms ρ) w s v := by
  cases s with
  | sl g z es =>
    obtain ⟨b, c, hv, hlc, he, hroom⟩ := h
    refine ⟨b, c, hv, hlc, fun i e hi => ⟨(he i e hi).1, (he i e hi).2.unsub ht⟩, ?_⟩
    cases g with
    | own k e => exact hroom.imp id fun ⟨ho, hb⟩ => ⟨ho, fun b h => sub_at ht (hb b h)⟩
    | box k o => obtain ⟨b, hb, ha⟩ := hroom; exact ⟨b, sub_at ht hb, ha⟩
    | _ => exact hroom
  | el g cs => obtain ⟨b, o, hv, hc⟩ := h; exact ⟨b, o, hv, hc.unsub ht⟩
  | ptr x o => obtain ⟨b, hb, hv⟩ := h; exact ⟨b, sub_at ht hb, hv⟩
  | fn xs p => exact ⟨h.1, fun w' he => h.2 w' (ext_sub (top_le ht) he)⟩
  | fref xs p =>
    obtain ⟨b, fv, h1, h2, h3⟩ := h
    exact ⟨b, fv, h1, h2, fun w' he => h3 w' (ext_sub (top_le ht) he)⟩
  | sem C => exact h
  | fm xs y C =>
    obtain ⟨h1, b, h2, h3⟩ := h
    have ht' : max (y + 1) (xs.foldr (fun x m => max (x + 1) m) 0) ≤ ms.length := ht
    exact ⟨h1, b, sub_at (by omega) h2, fun w' he => h3 w' (ext_sub (top_le (by omega)) he)⟩
  | un => exact h
  | bool b => exact h
  | int k n => exact h
  | str q => exact h
  | nilp => exact h
mutual
theorem sub_repT {ms : List Nat} : ∀ {t : T} {v : Value}, t.okTop ms.length = true → RepT B ρ w (t.sub ms) v → RepT B (subNames ms ρ) w t v
  | .un, _, _, _ => trivial
  | .one s, _, ht, h => sub_repS (by simpa [T.okTop] using ht) h
  | .agg l, _, ht, ⟨arr, hv, hl, hc⟩ => ⟨arr, hv, by simpa using hl, fun j s hs => by
      obtain ⟨c, h1, h2⟩ := hc j (s.sub ms) (by rw [List.getElem?_map, hs]; rfl)
      simp only [T.okTop, List.all_eq_true, decide_eq_true_eq] at ht
      exact ⟨c, h1, sub_repS (ht s (List.mem_of_getElem? hs)) h2⟩⟩
  | .tup l, _, ht, ⟨vs, hv, h⟩ => ⟨vs, hv, sub_repTs (by simpa [T.okTop] using ht) h⟩
  | .grd c t, _, ht, _ => by simp [T.okTop] at ht
theorem sub_repTs {ms : List Nat} : ∀ {l : List T} {vs : List Value}, T.okTops ms.length l = true → RepTs B ρ w (T.subAll ms l) vs → RepTs B (subNames ms ρ) w l vs
  | [], _, _, h => h
  | t :: r, _, ht, ⟨v, vr, hv, h1, h2⟩ => by
    simp only [T.okTops, Bool.and_eq_true] at ht
    exact ⟨v, vr, hv, sub_repT ht.1 h1, sub_repTs ht.2 h2⟩
end

/-- A pointer to a local variable, handed out, is a pointer to what it holds. -/
def St.out (st : St) : T → T
  | .one (.ptr x o) => match mget st.mem x with
    | some cs => if cs.all S.plain then .one (.el (.view x) ((cs.map S.lay).drop o)) else .one (.ptr x o)
    | none => .one (.ptr x o)
  | t => t
theorem Rel.out {a : Act} (hr : Rel B ρ st a w) {t : T} {v : Value} (h : RepT B ρ w t v) : RepT B ρ w (st.out t) v := by
  unfold St.out
  split
  · rename_i x o
    split
    · rename_i cs hm
      split
      · rename_i hp
        obtain ⟨b, hb, rfl⟩ := rep_ptr h
        obtain ⟨b', arr, ty, hb', hh, hl, hc⟩ := hr.mem x cs hm
        have : b = b' := by rw [hb] at hb'; exact Option.some.inj hb'
        subst this
        refine ⟨b, o, rfl, fun i s hs => ?_⟩
        rw [List.getElem?_drop, List.getElem?_map, Option.map_eq_some_iff] at hs
        obtain ⟨s0, hs0, rfl⟩ := hs
        obtain ⟨c, h1, h2⟩ := hc (o + i) s0 hs0
        refine ⟨b, o, c, rfl, hb, ?_, Pl.of_rep ((List.all_eq_true.1 hp) s0 (List.mem_of_getElem? hs0)) h2⟩
        simp only [World.cell?, hh, Nat.zero_add]
        simpa using h1
      · exact h
    · exact h
  · exact h

/-- The results, as the state tells them. -/
def resOf (P : Program) (st : St) : List ResultVar → Option (Prop × List T)
  | [] => some (True, [])
  | .tmp t :: r => match rdg true (st.tmps.getD t .un), resOf P st r with
    | (o, v), some (o', l) => some (o ∧ o', st.out v :: l)
    | _, none => none
  | .cell t ty :: r => match pureOp P true st (.load ty (.tmp t)), resOf P st r with
    | some (o, v), some (o', l) => some (o ∧ o', st.out v :: l)
    | _, _ => none
def packT : List T → T
  | [t] => t
  | l => .tup l
theorem res_run {a : Act} (hr : Rel B ρ st a w) : ∀ (l : List ResultVar) (o : Prop) (ts : List T), resOf P st l = some (o, ts) → o →
    ∃ vs : List Value, (l.mapM fun | .tmp t => pure (a.tmps.getD t undef) | .cell x t => do loadVar t (← asAddr (a.tmps.getD x undef)) : Sem (List Value)).run P w = .ok vs w ∧ RepTs B ρ w ts vs
  | [], o, ts, h, ho => by
    cases h
    exact ⟨[], rfl, rfl⟩
  | .tmp t :: r, o, ts, h, ho => by
    simp only [resOf] at h
    split at h
    · rename_i o1 v o' l h1 h2
      cases h
      obtain ⟨vs, q1, q2⟩ := res_run hr r o' l h2 ho.2
      have hv := hr.eval (.tmp t)
      simp only [St.eval, Act.eval] at hv
      have hv' := rdg_rep hv (g := true) rfl (by rw [h1]; exact ho.1)
      rw [h1] at hv'
      refine ⟨a.tmps.getD t undef :: vs, ?_, _, _, rfl, hr.out hv', q2⟩
      simp only [List.mapM_cons, Sem.run_bind, Sem.run_pure, Result.andThen_ok, q1]
    · cases h
  | .cell x ty :: r, o, ts, h, ho => by
    simp only [resOf] at h
    split at h
    · rename_i o1 v o' l h1 h2
      cases h
      obtain ⟨vs, q1, q2⟩ := res_run hr r o' l h2 ho.2
      have : ∃ val, (do loadVar ty (← asAddr (a.tmps.getD x undef)) : Sem Value).run P w = .ok val w ∧ RepT B ρ w v val := by
        simp only [pureOp] at h1
        split at h1
        · rename_i ag z q y n ht hx
          split at h1
          · rename_i cs hm
            split at h1
            · rename_i hz
              cases h1
              have hrx := hr.rd (g := true) rfl (.tmp x) (by rw [hx]; exact ho.1.1)
              rw [hx] at hrx
              obtain ⟨b, hb, hv⟩ := rep_ptr hrx
              obtain ⟨b', vals, hb', hva⟩ := (hr.mem y cs hm).vals
              have : b = b' := by rw [hb] at hb'; exact Option.some.inj hb'
              subst this
              have hd := (hva.drop n).take z
              obtain ⟨val, hl1, hl2⟩ := hd.load P ht (by rw [List.length_take, List.length_drop]; have := ho.1.2; omega) hz
              simp only [Act.eval] at hv
              exact ⟨val, by simp [hv, asAddr] at hl1 ⊢; exact hl1, hl2⟩
            · cases h1
          · cases h1
        · rename_i ag z q g cs ht hx
          split at h1
          · rename_i hz
            cases h1
            have hrx := hr.rd (g := true) rfl (.tmp x) (by rw [hx]; exact ho.1.1)
            rw [hx] at hrx
            obtain ⟨b, o2, hv, hc⟩ := rep_el hrx
            obtain ⟨vals, hva⟩ := vals_of_el hc
            obtain ⟨val, hl1, hl2⟩ := (hva.take z).load P ht (by rw [List.length_take]; have := ho.1.2; omega) hz
            simp only [Act.eval] at hv
            exact ⟨val, by simp [hv, asAddr] at hl1 ⊢; exact hl1, hl2⟩
          · cases h1
        · rename_i ag z q xs p ht hx
          split at h1
          · rename_i hag
            simp only [Option.some.injEq, Prod.mk.injEq] at h1
            obtain ⟨rfl, rfl⟩ := h1
            subst hag
            have hrx := hr.rd (g := true) rfl (.tmp x) (by rw [hx]; exact ho.1)
            rw [hx] at hrx
            obtain ⟨b, fv, hv, h4, h5⟩ := hrx
            obtain ⟨hag, hsz⟩ := run_isAgg P w ht
            have hc := (h5 w (fun _ _ _ => rfl)).1
            simp only [Act.eval] at hv
            exact ⟨fv, by simp [hv, asAddr, loadVar, hag, hc], h4, fun w' he => (h5 w' he).2⟩
          · cases h1
        · cases h1
      obtain ⟨val, hv1, hv2⟩ := this
      refine ⟨val :: vs, ?_, _, _, rfl, hr.out hv2, q2⟩
      simp only [List.mapM_cons]
      rw [Sem.run_bind, hv1, Result.andThen_ok, Sem.run_bind, q1, Result.andThen_ok]
      rfl
    · cases h

/-- The ends that a function may come to, if it is to return r; ms: the state's names that r tells of. -/
def Ends (P : Program) (fn : Func) (ms : List Nat) (r : T) : Exit → St → Prop
  | .normal, st | .ret, st => match resOf P st fn.results.toList with
    | some (o, l) => o ∧ LeT (packT l) (r.sub ms)
    | none => False
  | _, _ => False
theorem repTs_length : ∀ {l : List T} {vs : List Value}, RepTs B ρ w l vs → vs.length = l.length
  | [], _, h => by cases h; rfl
  | t :: r, _, ⟨v, vr, hv, h1, h2⟩ => by subst hv; simp [repTs_length h2]
theorem repTs_at : ∀ {l : List T} {vs : List Value}, RepTs B ρ w l vs → ∀ (i : Nat) (t : T), l[i]? = some t → ∃ v, vs[i]? = some v ∧ RepT B ρ w t v
  | [], _, h, i, t, ht => by simp at ht
  | t :: r, _, ⟨v, vr, hv, h1, h2⟩, i, t', ht => by
    subst hv
    cases i with
    | zero => simp only [List.getElem?_cons_zero, Option.some.injEq] at ht; subst ht; exact ⟨v, rfl, h1⟩
    | succ i => simpa using repTs_at h2 i t' (by simpa using ht)
theorem pack_rep {l : List T} {vs : List Value} (h : RepTs B ρ w l vs) :
    RepT B ρ w (packT l) (match (vs : List Value) with | [v] => v | vs => .tuple vs.toArray) := by
  match l, vs, h with
  | [], _, h => cases h; exact ⟨#[], rfl, rfl⟩
  | [t], _, ⟨v, vr, hv, h1, h2⟩ => cases h2; subst hv; exact h1
  | t :: t' :: r, _, ⟨v, vr, hv, h1, v', vr', hv', h2⟩ => subst hv'; subst hv; exact ⟨_, rfl, v, _, rfl, h1, v', vr', rfl, h2⟩
theorem Sim.of_code {f : FuncId} {fn : Func} {c : Code} {n : Nat} {args : List T} {r : T} (hf : P.funcs[f]? = some fn) (hb : fn.body = some c) (hnt : fn.ntmps = n)
    (hcall : ∀ (vs : Array Value) (w : World), (callFunc f vs).run P w = .ok (.enter f vs) w) (ms : List Nat) (hms : ms.Nodup) (hr : r.okTop ms.length = true)
    (h : SW P c (Ends P fn ms r) ⟨args ++ List.replicate (n - args.length) .un, []⟩) : Sim P f args r := by
  refine ⟨fun vs w => hcall vs w, fun w α vals hα hargs => ?_⟩
  have hlen := repTs_length hargs
  refine calls_of_wp hf hb ?_
  have h0 : Rel ⟨P, w, fun _ => False, α⟩ noNames ⟨args ++ List.replicate (n - args.length) .un, []⟩
      { tmps := vals.toArray ++ Array.replicate (fn.ntmps - vals.toArray.size) undef, defers := [] } w := by
    refine ⟨by simp [hnt, hlen], fun t v ht => ?_, fun x cs hx => (by cases hx), fun x y b hx => (by cases hx), fun x b hx => (by cases hx),
      fun i b hi => ⟨priv_none, hα i b hi⟩, fun x b hx => (by cases hx), ⟨rfl, rfl, rfl, Nat.le_refl _, fun _ _ _ => rfl⟩, rfl⟩
    rw [List.getElem?_append] at ht
    split at ht
    · obtain ⟨v', h1, h2⟩ := repTs_at hargs t v ht
      have : t < vals.length := by omega
      have e : ((vals.toArray ++ Array.replicate (fn.ntmps - vals.toArray.size) undef).getD t undef) = v' := by
        rw [Array.getD_eq_getD_getElem?, Array.getElem?_append]
        simp only [List.size_toArray, this, if_true, List.getElem?_toArray, h1, Option.getD_some]
      exact e ▸ h2
    · rw [List.getElem?_replicate] at ht
      split at ht
      · cases ht; trivial
      · cases ht
  refine wp_mono (h _ _ _ _ rfl h0) fun e a' w' ⟨ρ', s, hrel, he⟩ => ?_
  have key : ∀ (o : Prop) (l : List T), resOf P s fn.results.toList = some (o, l) → o → LeT (packT l) (r.sub ms) →
      ∃ v, (results fn a'.tmps).run P w' = .ok v w' ∧ ∃ v' ρ', Ending.returned v = .returned v' ∧ RepT ⟨P, w, fun _ => False, α⟩ ρ' w' r v' ∧ Gave P α w w' ρ' := by
    intro o l h1 ho hle
    obtain ⟨vs, h2, h3⟩ := res_run hrel fn.results.toList o l h1 ho
    refine ⟨_, ?_, _, subNames ms ρ', rfl, sub_repT hr (hle _ _ _ _ (pack_rep h3)), hrel.keeps, fun x b hx => ?_, fun x y b hx hy => ?_⟩
    · have hm : (fn.results.mapM fun (x : ResultVar) => (match x with
        | .tmp t => pure (a'.tmps.getD t undef)
        | .cell x t => do loadVar t (← asAddr (a'.tmps.getD x undef)) : Sem Value)) = List.toArray <$> (fn.results.toList.mapM fun (x : ResultVar) => (match x with
        | .tmp t => pure (a'.tmps.getD t undef)
        | .cell x t => do loadVar t (← asAddr (a'.tmps.getD x undef)) : Sem Value)) := by
        rw [Array.mapM_eq_mapM_toList]
      unfold results
      rw [Sem.run_bind]
      refine (congrArg (fun m => Result.andThen (Sem.run P m w') _) hm).trans ?_
      rw [Sem.run_map, h2, Result.andThen_ok, Result.andThen_ok]
      match vs with
      | [] => rfl
      | [v] => rfl
      | v :: v' :: vs => rfl
    · simp only [subNames, Option.bind_eq_some_iff] at hx
      obtain ⟨p, _, hp⟩ := hx
      exact ⟨(hrel.new p b hp).elim id False.elim, hrel.lt p b hp⟩
    · simp only [subNames, Option.bind_eq_some_iff] at hx hy
      obtain ⟨p, hp, hpb⟩ := hx
      obtain ⟨q, hq, hqb⟩ := hy
      have := hrel.inj _ _ _ hpb hqb
      subst this
      exact (List.getElem?_inj (List.getElem?_eq_some_iff.1 hp).1 hms).1 (hp.trans hq.symm)
  unfold Ends at he
  split at he
  · split at he
    · rename_i o l h1
      exact ⟨hrel.defers, key o l h1 he.1 he.2⟩
    · exact he.elim
  · split at he
    · rename_i o l h1
      exact ⟨hrel.defers, key o l h1 he.1 he.2⟩
    · exact he.elim
  · exact he.elim
end
end Go.PS
