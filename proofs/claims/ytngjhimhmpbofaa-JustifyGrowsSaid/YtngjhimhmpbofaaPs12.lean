/- A region in any order in which some operations lay or write memory: what stands behind such a one in the text always comes after it,
   and what may come either before or after comes to the same. -/
import Derived.Test.YtngjhimhmpbofaaPs11
set_option linter.unusedVariables false
set_option linter.unusedSimpArgs false
namespace Go.PS
open Go

section
variable {P : Program} {G : Book P} {B : Base} {ρ : Names} {st st' : St} {a : Act} {w : World} {ops : Array Oper}

/-- Nothing is known any more of some temporaries. -/
def St.blank (X : Nat → Bool) (st : St) : St := ⟨st.tmps.mapIdx fun i t => if X i then .un else t, st.mem⟩
theorem blank_at (X : Nat → Bool) (st : St) (t : Nat) : (st.blank X).tmps[t]? = (st.tmps[t]?).map fun v => if X t then .un else v := by
  simp only [St.blank, List.getElem?_mapIdx]
theorem blank_getD (X : Nat → Bool) (st : St) (t : Nat) : (st.blank X).tmps.getD t .un = if X t then .un else st.tmps.getD t .un := by
  simp only [List.getD_eq_getElem?_getD, blank_at]
  cases st.tmps[t]? <;> simp
theorem blank_eval {X : Nat → Bool} {st : St} {x : Operand} (h : ∀ t, x = .tmp t → X t = false) : (st.blank X).eval x = st.eval x := by
  cases x with
  | tmp t => simp only [St.eval, blank_getD, h t rfl, Bool.false_eq_true, if_false]
  | _ => rfl
theorem cut_getElem (p : S → Bool) (l : List T) (t : Nat) : (l.map (T.cut p))[t]? = (l[t]?).map (T.cut p) := List.getElem?_map ..
theorem blank_map {X : Nat → Bool} {p : S → Bool} (l : List T) (t : Nat) : ((l.mapIdx fun i t => if X i then T.un else t).map (T.cut p))[t]? = ((l.map (T.cut p)).mapIdx fun i t => if X i then T.un else t)[t]? := by
  simp only [List.getElem?_map, List.getElem?_mapIdx]
  cases l[t]? with
  | none => rfl
  | some v =>
    simp only [Option.map_some]
    split <;> rfl
theorem blank_kill (X : Nat → Bool) (st : St) (y : Nat) : (st.blank X).kill y = (st.kill y).blank X :=
  St.ext' (fun t => blank_map _ _) rfl
theorem blank_wipe (X : Nat → Bool) (st : St) (y : Nat) : (st.blank X).wipe y = (st.wipe y).blank X :=
  St.ext' (fun t => blank_map _ _) rfl
theorem blank_put {X : Nat → Bool} (st : St) {d : Option Nat} (hd : ∀ e, d = some e → X e = false) (v : T) : (st.blank X).put d v = (st.put d v).blank X := by
  cases d with
  | none => rfl
  | some d =>
    refine St.ext' (fun t => ?_) rfl
    rw [blank_at]
    by_cases h : t = d
    · subst h
      simp only [St.put, List.getElem?_set_self', blank_at, hd t rfl]
      cases st.tmps[t]? <;> rfl
    · simp only [St.put]
      rw [List.getElem?_set_ne (Ne.symm h), List.getElem?_set_ne (Ne.symm h), blank_at]
theorem blank_box {X : Nat → Bool} (st : St) {d : Nat} (hd : X d = false) (l : List S) : (st.blank X).box d l = (st.box d l).blank X := by
  have := blank_put (X := X) (st.kill d) (d := some d) (fun e he => by cases he; exact hd) (.one (.ptr d 0))
  rw [← blank_kill] at this
  have h2 : ∀ s : St, s.box d l = ⟨((s.kill d).put (some d) (.one (.ptr d 0))).tmps, mset (s.kill d).mem d (l.map (·.cut (S.names d)))⟩ := fun s => rfl
  rw [h2, h2, this]
  rfl
theorem blank_store (X : Nat → Bool) (st : St) (x o : Nat) (l : List S) : (st.blank X).store x o l = (st.store x o l).blank X := by
  have hm : (st.blank X).mem = st.mem := rfl
  unfold St.store
  rw [hm]
  cases mget st.mem x with
  | none => rfl
  | some cs => exact St.ext' (fun t => blank_map _ _) rfl
theorem blank_rd {X : Nat → Bool} {g : Bool} {x : Operand} (h : ∀ t, x = .tmp t → X t = false) : (st.blank X).rd g x = st.rd g x := by
  simp only [St.rd, blank_eval h]

def tmpsOf (op : Op) : List Nat := op.operands.toList.filterMap fun | .tmp t => some t | _ => none
theorem tmpsOf_mem {op : Op} {t : Nat} (h : Operand.tmp t ∈ op.operands) : t ∈ tmpsOf op := List.mem_filterMap.2 ⟨.tmp t, by simpa using h, rfl⟩

theorem append_blank {X : Nat → Bool} {d : Nat} {c : Call} {ob : Prop} (hx : ∀ t, Operand.tmp t ∈ c.operands → X t = false) (hd : X d = false)
    (h : appendOp P st d c c.args.toList c.argTypes.toList = some (ob, st')) : appendOp P (st.blank X) d c c.args.toList c.argTypes.toList = some (ob, st'.blank X) := by
  have ha : ∀ x ∈ c.args.toList, ∀ g, (st.blank X).rd g x = st.rd g x := fun x hx' g => blank_rd fun t e => hx t (by
    subst e
    simp only [Call.operands, Array.mem_append]; exact .inr (by simpa using hx'))
  generalize c.args.toList = args at h ha
  generalize c.argTypes.toList = tys at h
  have bp : ∀ (s : St) (v : T), (s.blank X).put (some d) v = (s.put (some d) v).blank X := fun s v => blank_put s (fun e he => by cases he; exact hd) v
  unfold appendOp at *
  split at h
  · rename_i s x t t'
    have e1 := ha s (by simp) true
    have e2 := ha x (by simp) true
    split at h
    · rename_i htt
      subst htt
      simp only [if_true, e1, e2]
      split at h
      · split at h
        · split at h
          · rename_i hzz
            simp only [*] at h ⊢
            split at h
            · split at h
              · rename_i hee
                cases h
                simp only [*, and_self, if_true, blank_kill, bp]
              · cases h
            · cases h
              simp only [*, and_self, if_true, blank_kill, bp]
            · cases h
          · cases h
        · cases h
      · cases h
    · cases h
  · cases h

theorem eff_blank {X : Nat → Bool} {dst : Option Nat} {op : Op} {ob : Prop} (hx : ∀ t, Operand.tmp t ∈ op.operands → X t = false) (hd : ∀ d, dst = some d → X d = false)
    (h : effOp P st dst op = some (ob, st')) : effOp P (st.blank X) dst op = some (ob, st'.blank X) := by
  have hr : ∀ x ∈ op.operands, ∀ g, (st.blank X).rd g x = st.rd g x := fun x hx' g => blank_rd fun t e => hx t (e ▸ hx')
  have he : ∀ x ∈ op.operands, (st.blank X).eval x = st.eval x := fun x hx' => blank_eval fun t e => hx t (e ▸ hx')
  cases op <;> simp only [effOp] at h ⊢ <;> try (cases h)
  case box t x =>
    have h1 := hr x (by simp [Op.operands]) true
    rw [h1]
    split at h
    · rename_i d o v hrd
      split at h
      · rename_i l hl
        cases h
        simp only [hrd, hl, blank_box _ (hd d rfl)]
      · cases h
    · cases h
  case alloc t =>
    split at h
    · rename_i d l hl
      cases h
      simp only [hl, blank_box _ (hd d rfl)]
    · cases h
  case buildSlice t len parts =>
    have hf : ∀ pl cs, fillT (st.blank X) true pl cs parts.toList = fillT st true pl cs parts.toList := fun pl cs => fillT_congr _ _ fun p hp => he p.2 (by
      simp only [Op.operands, List.mem_toArray, List.mem_map]; first | exact ⟨p, hp, rfl⟩ | (simp; exact ⟨p.1, by simpa using hp⟩))
    split at h
    · rename_i d e z b hdst
      split at h
      · rename_i c0 hz
        split at h
        · rename_i hc
          rw [hf]
          split at h
          · rename_i o c hfl
            cases h
            simp only [*, if_true, blank_kill, and_self]
            rw [blank_put]
            exact hd
          · cases h
        · cases h
      · cases h
    · cases h
  case makeSlice t l c =>
    have h1 := hr l (by simp [Op.operands]) true
    have h2 := hr c (by simp [Op.operands]) true
    rw [h1, h2]
    split at h
    · rename_i d e z by_ o1 k n o2 k' m hdst hrl hrc
      split at h
      · rename_i c0 hz
        split at h
        · rename_i hc
          cases h
          simp only [*, if_true, blank_kill, and_self]
          rw [blank_put]
          exact hd
        · cases h
      · cases h
    · cases h
  case store t p x =>
    have h1 := hr p (by simp [Op.operands]) true
    have h2 := hr x (by simp [Op.operands]) true
    rw [h1, h2]
    have hm : (st.blank X).mem = st.mem := rfl
    rw [hm]
    split at h
    · split at h
      · split at h
        · cases h
          simp only [*, if_true, blank_store]
        · cases h
      · cases h
    · cases h
  case call c =>
    split at h
    · rename_i d hcal
      have := append_blank (X := X) (c := c) (fun t ht => hx t (by simpa [Op.operands] using ht)) (hd d rfl) h
      simp only [*]
    · cases h

/-! ### The steps, in an order of one's own -/
def isEff (o : Oper) : Bool :=
  match o.op with
  | .box _ _ => true
  | .alloc _ => true
  | .buildSlice _ _ _ => true
  | .makeSlice _ _ _ => true
  | .store _ _ _ => true
  | .assign _ => true
  | .call c => match c.callee with
    | .builtin .append => true
    | _ => false
  | _ => false
/-- The operation has an edge to the one at i. -/
def edgeTo (o : Oper) (i : Nat) : Bool := o.after.toList.any fun e => Region.binds .any e && e.on == i
/-- What an operation with an effect makes of the state; to write a variable counts as one. -/
def effS (P : Program) (st : St) (o : Oper) : Option (Prop × St) :=
  match effOp P st o.dst o.op with
  | some r => some r
  | none => match o.op with
    | .assign x => some ((st.rd true x).1, st.put o.dst (st.rd true x).2)
    | _ => none
theorem effS_blank {X : Nat → Bool} {o : Oper} {ob : Prop} (hx : ∀ t, Operand.tmp t ∈ o.op.operands → X t = false) (hd : ∀ d, o.dst = some d → X d = false)
    (h : effS P st o = some (ob, st')) : effS P (st.blank X) o = some (ob, st'.blank X) := by
  unfold effS at *
  split at h
  · rename_i r hr
    simp only [Option.some.injEq] at h
    subst h
    rw [eff_blank hx hd hr]
  · rename_i hr
    split at h
    · rename_i x hop
      have e1 : (st.blank X).rd true x = st.rd true x := blank_rd fun t e => hx t (by rw [hop]; subst e; simp [Op.operands])
      have e2 : effOp P (st.blank X) o.dst o.op = none := by rw [hop]; rfl
      rw [e2]
      simp only [hop, e1]
      cases h
      rw [blank_put _ hd]
    · cases h
theorem effS_run (hr : Rel B ρ st a w) {o : Oper} {ob : Prop} {st' : St} (h : effS P st o = some (ob, st')) (ho : ob) :
    (∃ v ρ' w', (execOp a.eval o).run P w = .ok (.value v) w' ∧ Rel B ρ' st' (a.put o.dst v) w') ∨
    (∃ ρ' w', (execOp a.eval o).run P w = .ok .skip w' ∧ Rel B ρ' st' (a.put o.dst undef) w') := by
  unfold effS at h
  split at h
  · rename_i r hr'
    simp only [Option.some.injEq] at h
    subst h
    exact eff_run hr hr' ho
  · split at h
    · rename_i x hop
      cases h
      left
      obtain ⟨val, h1, h2⟩ := pure_run hr rfl (g := true) (o := o) (P := P) (ob := (st.rd true x).1) (v := (st.rd true x).2) (by rw [hop]; rfl) ho
      exact ⟨val, ρ, w, h1, hr.put o.dst h2⟩
    · cases h
/-- The value is known of what the state tells. -/
def LeD (v : T) (d : Option Nat) (st : St) : Prop :=
  match d with
  | none => True
  | some d => LeT v (st.tmps.getD d .un)
/-- What may come after o, too, comes to the same there. -/
def floatK (P : Program) (G : Book P) (ops : Array Oper) (o : Oper) (st' : St) : List (Nat × Oper) → Prop
  | [] => True
  | (j, p) :: r => (match edgeTo o j || isEff p with
    | true => True
    | false => quietK P G ops p st' fun v => LeD v p.dst st') ∧ floatK P G ops o st' r
/-- After all of them. -/
def afterAll (o : Oper) : List (Nat × Oper) → Bool
  | [] => true
  | (j, _) :: r => edgeTo o j && afterAll o r
def drawE (P : Program) (G : Book P) (ops : Array Oper) (pre : List (Nat × Oper)) : List (Nat × Oper) → St → (St → Prop) → Prop
  | [], st, K => K st
  | (j, o) :: r, st, K => match isEff o with
    | true => match effS P st o with
      | some (ob, st') => ob ∧ (match afterAll o pre with
        | true => drawE P G ops [] r st' K
        | false => floatK P G ops o st' pre ∧ drawE P G ops (pre ++ [(j, o)]) r st' K)
      | none => Stuck o
    | false => quietK P G ops o st fun v => drawE P G ops (pre ++ [(j, o)]) r (st.put o.dst v) K
def pickOps (ops : Array Oper) : List Nat → List (Nat × Oper)
  | [] => []
  | j :: r => match ops[j]? with
    | some o => (j, o) :: pickOps ops r
    | none => pickOps ops r

/-- The operation at k comes after the one at i. -/
def behind (ops : Array Oper) : Nat → Nat → Nat → Bool
  | 0, _, _ => false
  | n + 1, i, k => match ops[k]? with
    | some o => o.after.toList.any (fun e => Region.binds .any e && e.on == i) || o.after.toList.any (fun e => Region.binds .any e && behind ops n i e.on)
    | none => false
def okE (ops : Array Oper) (L : List (Nat × Oper)) : Bool :=
  (List.range ops.size).all (fun j => L.any fun x => x.1 == j) &&
  (List.range L.length).all fun p => match L[p]? with
    | some (j, o) => (o.after.toList.all fun e => !Region.binds .any e || (List.range p).any fun q => match L[q]? with | some y => y.1 == e.on | none => false) &&
      (!isEff o || (o.guard.isNone && (List.range L.length).all fun q => !decide (p < q) || match L[q]? with | some y => behind ops L.length j y.1 | none => true)) &&
      (List.range L.length).all fun q => match L[q]? with
        | some (i, oi) => (p == q || j != i) && match oi.dst with
          | some d => (!(o.looksAt ops).contains d || (edgeTo o i || (isEff oi && decide (p < q) && edgeTo oi j))) && (p == q || o.dst != some d)
          | none => true
        | none => true
    | none => true
structure OkE (ops : Array Oper) (L : List (Nat × Oper)) : Prop where
  at_ : ∀ (p j : Nat) (o : Oper), L[p]? = some (j, o) → ops[j]? = some o
  cov : ∀ (j : Nat) (o : Oper), ops[j]? = some o → ∃ p : Nat, L[p]? = some (j, o)
  inj : ∀ (p q j : Nat) (o o' : Oper), L[p]? = some (j, o) → L[q]? = some (j, o') → p = q
  edge : ∀ (p j : Nat) (o : Oper), L[p]? = some (j, o) → ∀ e ∈ o.after, Region.binds .any e = true → ∃ (q : Nat) (o' : Oper), q < p ∧ L[q]? = some (e.on, o')
  look : ∀ (p j : Nat) (o : Oper) (q i : Nat) (oi : Oper) (d : Nat), L[p]? = some (j, o) → L[q]? = some (i, oi) → oi.dst = some d → d ∈ o.looksAt ops →
    (∃ e ∈ o.after, Region.binds .any e = true ∧ e.on = i) ∨ (isEff oi = true ∧ p < q ∧ edgeTo oi j = true)
  uniq : ∀ (p j : Nat) (o : Oper) (q i : Nat) (oi : Oper) (d : Nat), L[p]? = some (j, o) → L[q]? = some (i, oi) → oi.dst = some d → o.dst = some d → p = q
  eff : ∀ (p j : Nat) (o : Oper), L[p]? = some (j, o) → isEff o = true → o.guard = none ∧ ∀ (q k : Nat) (ok : Oper), p < q → L[q]? = some (k, ok) → behind ops L.length j k = true
theorem edgeTo_iff {o : Oper} {i : Nat} : edgeTo o i = true ↔ ∃ e ∈ o.after, Region.binds .any e = true ∧ e.on = i := by
  unfold edgeTo
  rw [List.any_eq_true]
  constructor
  · rintro ⟨e, he, h⟩; rw [Bool.and_eq_true, beq_iff_eq] at h; exact ⟨e, by simpa using he, h⟩
  · rintro ⟨e, he, h⟩; exact ⟨e, by simpa using he, by rw [Bool.and_eq_true, beq_iff_eq]; exact h⟩
theorem pick_at : ∀ (l : List Nat) (x : Nat × Oper), x ∈ pickOps ops l → ops[x.1]? = some x.2
  | [], x, h => by cases h
  | j :: r, x, h => by
    unfold pickOps at h
    split at h
    · rename_i o ho
      rcases List.mem_cons.1 h with rfl | h
      · exact ho
      · exact pick_at r x h
    · exact pick_at r x h
theorem okE_spec {l : List Nat} (h : okE ops (pickOps ops l) = true) : OkE ops (pickOps ops l) := by
  have hat : ∀ (p j : Nat) (o : Oper), (pickOps ops l)[p]? = some (j, o) → ops[j]? = some o := fun p j o hp => pick_at l (j, o) (List.mem_of_getElem? hp)
  generalize pickOps ops l = L at *
  unfold okE at h
  rw [Bool.and_eq_true, List.all_eq_true, List.all_eq_true] at h
  obtain ⟨h1, h2⟩ := h
  have key : ∀ (p j : Nat) (o : Oper), L[p]? = some (j, o) → _ := fun p j o hp => by
    have := h2 p (List.mem_range.2 (List.getElem?_eq_some_iff.1 hp).1)
    rw [hp] at this
    simp only [Bool.and_eq_true] at this
    exact this
  have key2 : ∀ (p j : Nat) (o : Oper) (q i : Nat) (oi : Oper), L[p]? = some (j, o) → L[q]? = some (i, oi) → _ := fun p j o q i oi hp hq => by
    have := (key p j o hp).2
    rw [List.all_eq_true] at this
    have := this q (List.mem_range.2 (List.getElem?_eq_some_iff.1 hq).1)
    rw [hq] at this
    simp only [Bool.and_eq_true] at this
    exact this
  refine ⟨hat, fun j o ho => ?_, fun p q j o o' hp hq => ?_, fun p j o hp e he hb => ?_, fun p j o q i oi d hp hq hd hl => ?_, fun p j o q i oi d hp hq hd ho => ?_, fun p j o hp he => ?_⟩
  · have := h1 j (List.mem_range.2 (Array.getElem?_eq_some_iff.1 ho).1)
    rw [List.any_eq_true] at this
    obtain ⟨⟨j', o'⟩, hx, hj⟩ := this
    simp only [beq_iff_eq] at hj
    subst hj
    obtain ⟨p, hp⟩ := List.getElem?_of_mem hx
    have := hat p _ _ hp
    rw [ho] at this
    cases this
    exact ⟨p, hp⟩
  · have := (key2 p j o q j o' hp hq).1
    simpa using this
  · have := (key p j o hp).1.1
    rw [List.all_eq_true] at this
    have := this e (by simpa using he)
    rw [hb] at this
    simp only [Bool.not_true, Bool.false_or, List.any_eq_true, List.mem_range] at this
    obtain ⟨q, hq, h3⟩ := this
    split at h3
    · rename_i y hy
      rw [beq_iff_eq] at h3
      exact ⟨q, y.2, hq, by rw [hy, ← h3]⟩
    · cases h3
  · have := (key2 p j o q i oi hp hq).2
    rw [hd] at this
    simp only [Bool.and_eq_true, Bool.or_eq_true, Bool.not_eq_true', decide_eq_true_eq] at this
    rcases this.1 with h3 | h3
    · have : (o.looksAt ops).contains d = true := by simpa using hl
      rw [this] at h3; cases h3
    · rcases h3 with h3 | h3
      · exact .inl (edgeTo_iff.1 h3)
      · exact .inr ⟨h3.1.1, h3.1.2, h3.2⟩
  · have := (key2 p j o q i oi hp hq).2
    rw [hd] at this
    simp only [Bool.and_eq_true, Bool.or_eq_true, beq_iff_eq, bne_iff_ne] at this
    exact this.2.resolve_right fun h => h ho
  · have := (key p j o hp).1.2
    rw [he] at this
    simp only [Bool.not_true, Bool.false_or, Bool.and_eq_true, Option.isNone_iff_eq_none, List.all_eq_true, List.mem_range] at this
    refine ⟨this.1, fun q k ok hpq hq => ?_⟩
    have := this.2 q (List.getElem?_eq_some_iff.1 hq).1
    rw [hq] at this
    simpa [hpq] using this

def Closed (ops : Array Oper) (listed : Array Bool) : Prop :=
  ∀ (k : Nat) (o : Oper), listed.getD k false = true → ops[k]? = some o → ∀ e ∈ o.after, Region.binds .any e = true → listed.getD e.on false = true
theorem behind_listed {listed : Array Bool} (hc : Closed ops listed) : ∀ (n i k : Nat), behind ops n i k = true →
    (∀ o, ops[k]? = some o → ∀ e ∈ o.after, Region.binds .any e = true → listed.getD e.on false = true) → listed.getD i false = true
  | 0, i, k, h, _ => by simp [behind] at h
  | n + 1, i, k, h, hk => by
    unfold behind at h
    split at h
    · rename_i o ho
      rw [Bool.or_eq_true, List.any_eq_true, List.any_eq_true] at h
      rcases h with ⟨e, he, h⟩ | ⟨e, he, h⟩
      · rw [Bool.and_eq_true, beq_iff_eq] at h
        have := hk o ho e (by simpa using he) h.1
        rwa [h.2] at this
      · rw [Bool.and_eq_true] at h
        have hl := hk o ho e (by simpa using he) h.1
        exact behind_listed hc n i e.on h.2 (fun o' ho' => hc e.on o' hl ho')
    · cases h

/-- The states on the way. -/
structure Run (P : Program) (G : Book P) (ops : Array Oper) (L : List (Nat × Oper)) (S : Nat → St) : Prop where
  quiet : ∀ (p j : Nat) (o : Oper), L[p]? = some (j, o) → isEff o = false → ∃ v, quietK P G ops o (S p) (fun v' => v' = v) ∧ S (p + 1) = (S p).put o.dst v
  eff : ∀ (p j : Nat) (o : Oper), L[p]? = some (j, o) → isEff o = true → ∃ ob, effS P (S p) o = some (ob, S (p + 1)) ∧ ob ∧
    ∀ (q i : Nat) (oi : Oper), q < p → L[q]? = some (i, oi) → isEff oi = false → edgeTo o i = false →
      (∃ (E e : Nat) (oe : Oper), q < E ∧ E < p ∧ L[E]? = some (e, oe) ∧ isEff oe = true ∧ edgeTo oe i = true) ∨ quietK P G ops oi (S (p + 1)) fun v => LeD v oi.dst (S (p + 1))

theorem quiet_val {o : Oper} {K : T → Prop} (h : quietK P G ops o st K) : ∃ v, K v ∧ quietK P G ops o st (fun v' => v' = v) := by
  have hc : ∀ (g : Bool) (K : T → Prop), callK P G g st o K → ∃ v, K v ∧ callK P G g st o (fun v' => v' = v) := by
    intro g K h
    have idle : idleK g o K → ∃ v, K v ∧ idleK g o (fun v' => v' = v) := by
      intro h
      cases g with
      | true => exact h.elim
      | false => exact ⟨.un, h, rfl⟩
    unfold callK at *
    split at h
    · split at h
      · exact ⟨_, h.2, h.1, rfl⟩
      · exact idle h
    · split at h
      · exact ⟨_, h.2, h.1, rfl⟩
      · exact idle h
  unfold quietK at *
  split at h
  · exact h.elim
  · split at h
    · exact ⟨_, h.2, h.1, rfl⟩
    · obtain ⟨v, h1, h2⟩ := hc true K h
      exact ⟨v, h1, h2⟩
  · split at h
    · exact ⟨_, h.2, h.1, rfl⟩
    · rename_i c _ _ _
      obtain ⟨v, h1, h2⟩ := hc c _ h
      refine ⟨.grd c v, h1, ?_⟩
      have idle : idleK c o (fun v' => v' = v) → idleK c o (fun v' => T.grd c v' = .grd c v) := by
        intro h
        cases c with
        | true => exact h.elim
        | false => exact congrArg _ h
      unfold callK at *
      split at h2
      · split at h2
        · exact ⟨h2.1, by rw [h2.2]⟩
        · exact idle h2
      · split at h2
        · exact ⟨h2.1, by rw [h2.2]⟩
        · exact idle h2

theorem floatK_at {o : Oper} : ∀ (pre : List (Nat × Oper)), floatK P G ops o st' pre → ∀ (x : Nat × Oper), x ∈ pre → isEff x.2 = false → edgeTo o x.1 = false →
    quietK P G ops x.2 st' fun v => LeD v x.2.dst st'
  | [], _, x, hx, _, _ => by cases hx
  | (j, q) :: r, h, x, hx, hp, he => by
    rcases List.mem_cons.1 hx with rfl | hx
    · have h1 := h.1
      simp only [he, hp] at h1
      exact h1
    · exact floatK_at r h.2 x hx hp he
theorem afterAll_at {o : Oper} : ∀ (pre : List (Nat × Oper)), afterAll o pre = true → ∀ (x : Nat × Oper), x ∈ pre → edgeTo o x.1 = true
  | [], _, x, hx => by cases hx
  | (j, q) :: r, h, x, hx => by
    unfold afterAll at h
    rw [Bool.and_eq_true] at h
    rcases List.mem_cons.1 hx with rfl | hx
    · exact h.1
    · exact afterAll_at r h.2 x hx

/-- What stands ahead, but is not in pre, stands ahead of something that has an effect and comes after it. -/
def Held (L : List (Nat × Oper)) (n : Nat) (pre : List (Nat × Oper)) : Prop :=
  ∀ (q i : Nat) (oi : Oper), q < n → L[q]? = some (i, oi) → isEff oi = false → (i, oi) ∈ pre ∨ ∃ (E e : Nat) (oe : Oper), q < E ∧ E < n ∧ L[E]? = some (e, oe) ∧ isEff oe = true ∧ edgeTo oe i = true
theorem drawE_run {L : List (Nat × Oper)} : ∀ (l : List (Nat × Oper)) (n : Nat) (pre : List (Nat × Oper)) (st : St) (K : St → Prop), drawE P G ops pre l st K → L.drop n = l → n ≤ L.length → Held L n pre →
    ∃ S : Nat → St, S n = st ∧ K (S L.length) ∧
      (∀ (p j : Nat) (o : Oper), n ≤ p → L[p]? = some (j, o) → isEff o = false → ∃ v, quietK P G ops o (S p) (fun v' => v' = v) ∧ S (p + 1) = (S p).put o.dst v) ∧
      (∀ (p j : Nat) (o : Oper), n ≤ p → L[p]? = some (j, o) → isEff o = true → ∃ ob, effS P (S p) o = some (ob, S (p + 1)) ∧ ob ∧
        ∀ (q i : Nat) (oi : Oper), q < p → L[q]? = some (i, oi) → isEff oi = false → edgeTo o i = false →
          (∃ (E e : Nat) (oe : Oper), q < E ∧ E < p ∧ L[E]? = some (e, oe) ∧ isEff oe = true ∧ edgeTo oe i = true) ∨ quietK P G ops oi (S (p + 1)) fun v => LeD v oi.dst (S (p + 1)))
  | [], n, pre, st, K, h, he, hn, _ => by
    have hsz : L.length = n := by have := congrArg List.length he; simp at this; omega
    refine ⟨fun _ => st, rfl, h, fun p j o hp ho => ?_, fun p j o hp ho => ?_⟩
    · have := (List.getElem?_eq_some_iff.1 ho).1; omega
    · have := (List.getElem?_eq_some_iff.1 ho).1; omega
  | (j, o) :: r, n, pre, st, K, h, he, hn, hheld => by
    have hlt : n < L.length := by
      rcases Nat.lt_or_ge n L.length with h | h
      · exact h
      · rw [List.drop_of_length_le h] at he; cases he
    have hat : L[n]? = some (j, o) := by
      have := congrArg (fun l => l[0]?) he
      simpa using this
    have he' : L.drop (n + 1) = r := by
      have := congrArg List.tail he
      simpa using this
    unfold drawE at h
    split at h
    · rename_i heff
      split at h
      · rename_i ob st1 hop
        obtain ⟨hob, h⟩ := h
        have main : ∀ pre', (∀ q i oi, q < n → L[q]? = some (i, oi) → isEff oi = false → edgeTo o i = false →
              (∃ (E e : Nat) (oe : Oper), q < E ∧ E < n ∧ L[E]? = some (e, oe) ∧ isEff oe = true ∧ edgeTo oe i = true) ∨ quietK P G ops oi st1 fun v => LeD v oi.dst st1) →
            Held L (n + 1) pre' → drawE P G ops pre' r st1 K → (∃ S : Nat → St, S n = st ∧ K (S L.length) ∧
            (∀ (p j : Nat) (o : Oper), n ≤ p → L[p]? = some (j, o) → isEff o = false → ∃ v, quietK P G ops o (S p) (fun v' => v' = v) ∧ S (p + 1) = (S p).put o.dst v) ∧
            (∀ (p j : Nat) (o : Oper), n ≤ p → L[p]? = some (j, o) → isEff o = true → ∃ ob, effS P (S p) o = some (ob, S (p + 1)) ∧ ob ∧
              ∀ (q i : Nat) (oi : Oper), q < p → L[q]? = some (i, oi) → isEff oi = false → edgeTo o i = false →
                (∃ (E e : Nat) (oe : Oper), q < E ∧ E < p ∧ L[E]? = some (e, oe) ∧ isEff oe = true ∧ edgeTo oe i = true) ∨ quietK P G ops oi (S (p + 1)) fun v => LeD v oi.dst (S (p + 1)))) := fun pre' hfl hh hrest => by
          obtain ⟨S, h1, h2, h3, h4⟩ := drawE_run r (n + 1) pre' st1 K hrest he' hlt hh
          obtain ⟨S', hz, hne⟩ : ∃ S' : Nat → St, S' n = st ∧ ∀ i, n + 1 ≤ i → S' i = S i := ⟨fun i => if i = n then st else S i, if_pos rfl, fun i hi => if_neg (by omega)⟩
          refine ⟨S', hz, by rw [hne _ hlt]; exact h2, fun i j' o' hi ho' hq => ?_, fun i j' o' hi ho' hq => ?_⟩
          · rcases Nat.lt_or_eq_of_le hi with hlt' | heq
            · rw [hne i hlt', hne (i + 1) (by omega)]; exact h3 i j' o' hlt' ho' hq
            · subst heq; rw [hat] at ho'; cases ho'; rw [heff] at hq; cases hq
          · rcases Nat.lt_or_eq_of_le hi with hlt' | heq
            · rw [hne i hlt', hne (i + 1) (by omega)]; exact h4 i j' o' hlt' ho' hq
            · subst heq; rw [hat] at ho'; cases ho'
              rw [hz, hne _ (Nat.le_refl _), h1]
              exact ⟨ob, hop, hob, hfl⟩
        split at h
        · rename_i haft
          refine main [] (fun q i oi hq hqi hoe hed => ?_) (fun q i oi hq hqi hoe => ?_) h
          · rcases hheld q i oi hq hqi hoe with hm | hm
            · rw [afterAll_at pre haft _ hm] at hed; cases hed
            · exact .inl hm
          · right
            rcases Nat.lt_or_eq_of_le (Nat.le_of_lt_succ hq) with hlt' | heq
            · rcases hheld q i oi hlt' hqi hoe with hm | ⟨E, e, oe, k1, k2, k3⟩
              · exact ⟨n, j, o, hlt', by omega, hat, heff, afterAll_at pre haft _ hm⟩
              · exact ⟨E, e, oe, k1, by omega, k3⟩
            · subst heq; rw [hat] at hqi; cases hqi; rw [heff] at hoe; cases hoe
        · refine main (pre ++ [(j, o)]) (fun q i oi hq hqi hoe hed => ?_) (fun q i oi hq hqi hoe => ?_) h.2
          · rcases hheld q i oi hq hqi hoe with hm | hm
            · exact .inr (floatK_at pre h.1 _ hm hoe hed)
            · exact .inl hm
          · rcases Nat.lt_or_eq_of_le (Nat.le_of_lt_succ hq) with hlt' | heq
            · rcases hheld q i oi hlt' hqi hoe with hm | ⟨E, e, oe, k1, k2, k3⟩
              · exact .inl (List.mem_append_left _ hm)
              · exact .inr ⟨E, e, oe, k1, by omega, k3⟩
            · subst heq; rw [hat] at hqi; cases hqi; exact .inl (by simp)
      · exact h.elim
    · rename_i heff
      obtain ⟨v, hrest, hv⟩ := quiet_val h
      have hh : Held L (n + 1) (pre ++ [(j, o)]) := fun q i oi hq hqi hoe => by
        rcases Nat.lt_or_eq_of_le (Nat.le_of_lt_succ hq) with hlt' | heq
        · rcases hheld q i oi hlt' hqi hoe with hm | ⟨E, e, oe, k1, k2, k3⟩
          · exact .inl (List.mem_append_left _ hm)
          · exact .inr ⟨E, e, oe, k1, by omega, k3⟩
        · subst heq; rw [hat] at hqi; cases hqi; exact .inl (by simp)
      obtain ⟨S, h1, h2, h3, h4⟩ := drawE_run r (n + 1) _ _ K hrest he' hlt hh
      obtain ⟨S', hz, hne⟩ : ∃ S' : Nat → St, S' n = st ∧ ∀ i, n + 1 ≤ i → S' i = S i := ⟨fun i => if i = n then st else S i, if_pos rfl, fun i hi => if_neg (by omega)⟩
      refine ⟨S', hz, by rw [hne _ hlt]; exact h2, fun i j' o' hi ho' hq => ?_, fun i j' o' hi ho' hq => ?_⟩
      · rcases Nat.lt_or_eq_of_le hi with hlt' | heq
        · rw [hne i hlt', hne (i + 1) (by omega)]; exact h3 i j' o' hlt' ho' hq
        · subst heq; rw [hat] at ho'; cases ho'
          rw [hz, hne _ (Nat.le_refl _), h1]
          exact ⟨v, hv, rfl⟩
      · rcases Nat.lt_or_eq_of_le hi with hlt' | heq
        · rw [hne i hlt', hne (i + 1) (by omega)]; exact h4 i j' o' hlt' ho' hq
        · subst heq; rw [hat] at ho'; cases ho'; rw [heff] at hq; cases hq

/-- Between two states on the way without an effect between them. -/
theorem run_seg {L : List (Nat × Oper)} {S : Nat → St} (hR : Run P G ops L S) : ∀ (n p : Nat), p + n ≤ L.length → (∀ (i j : Nat) (o : Oper), p ≤ i → i < p + n → L[i]? = some (j, o) → isEff o = false) →
    (S (p + n)).mem = (S p).mem ∧ (S (p + n)).tmps.length = (S p).tmps.length ∧ ∀ t, (∀ (i j : Nat) (o : Oper), p ≤ i → i < p + n → L[i]? = some (j, o) → o.dst ≠ some t) → (S (p + n)).tmps[t]? = (S p).tmps[t]?
  | 0, p, _, _ => ⟨rfl, rfl, fun _ _ => rfl⟩
  | n + 1, p, hn, hq => by
    obtain ⟨h1, h2, h3⟩ := run_seg hR n p (by omega) (fun i j o hi hl => hq i j o hi (by omega))
    have ho : L[p + n]? = some (L[p + n].1, L[p + n].2) := List.getElem?_eq_getElem (by omega)
    obtain ⟨v, _, hS⟩ := hR.quiet (p + n) _ _ ho (hq (p + n) _ _ (by omega) (by omega) ho)
    rw [show p + (n + 1) = p + n + 1 by omega, hS]
    refine ⟨?_, ?_, fun t ht => ?_⟩
    · rw [← h1]; cases (L[p + n].2).dst <;> rfl
    · rw [← h2]; cases (L[p + n].2).dst <;> simp [St.put]
    · rw [put_other (ht (p + n) _ _ (by omega) (by omega) ho)]
      exact h3 t fun i j o hi hl => ht i j o hi (by omega)
theorem LeD.seg {v : T} {d : Option Nat} {s s' : St} (h : LeD v d s) (he : ∀ t, d = some t → s'.tmps[t]? = s.tmps[t]?) : LeD v d s' := by
  cases d with
  | none => trivial
  | some d =>
    unfold LeD at *
    simp only [List.getD_eq_getElem?_getD] at *
    rw [he d rfl]; exact h
theorem quiet_mono {o : Oper} {K K' : T → Prop} (h : quietK P G ops o st K) (hk : ∀ v, K v → K' v) : quietK P G ops o st K' := by
  have hc : ∀ (g : Bool) (K K' : T → Prop), callK P G g st o K → (∀ v, K v → K' v) → callK P G g st o K' := by
    intro g K K' h hk
    have idle : idleK g o K → idleK g o K' := by
      intro h
      cases g with
      | true => exact h.elim
      | false => exact hk _ h
    unfold callK at *
    split at h
    · split at h
      · exact ⟨h.1, hk _ h.2⟩
      · exact idle h
    · split at h
      · exact ⟨h.1, hk _ h.2⟩
      · exact idle h
  unfold quietK at *
  split at h
  · exact h.elim
  · split at h
    · exact ⟨h.1, hk _ h.2⟩
    · exact hc _ _ _ h hk
  · split at h
    · exact ⟨h.1, hk _ h.2⟩
    · exact hc _ _ _ h fun v hv => hk _ hv

/-- The temporaries of the operations ahead of n that have not run. -/
def unrun (L : List (Nat × Oper)) (listed : Array Bool) (n : Nat) (t : Nat) : Bool :=
  (List.range n).any fun p => match L[p]? with
    | some (j, o) => !listed.getD j false && o.dst == some t
    | none => false
theorem unrun_iff {L : List (Nat × Oper)} {listed : Array Bool} {n t : Nat} : unrun L listed n t = true ↔ ∃ p j o, p < n ∧ L[p]? = some (j, o) ∧ listed.getD j false = false ∧ o.dst = some t := by
  unfold unrun
  rw [List.any_eq_true]
  constructor
  · rintro ⟨p, hp, h⟩
    split at h
    · rename_i j o hj
      rw [Bool.and_eq_true, beq_iff_eq] at h
      exact ⟨p, j, o, List.mem_range.1 hp, hj, by simpa using h.1, h.2⟩
    · cases h
  · rintro ⟨p, j, o, h1, h2, h3, h4⟩
    refine ⟨p, List.mem_range.2 h1, ?_⟩
    rw [h2]
    simp only
    rw [h3, h4]; simp
theorem Rel.blank (h : Rel B ρ st a w) (X : Nat → Bool) : Rel B ρ (st.blank X) a w := by
  refine ⟨by simpa [St.blank] using h.len, fun t v ht => ?_, h.mem, h.inj, h.lt, h.args, h.new, h.keeps, h.defers⟩
  rw [blank_at, Option.map_eq_some_iff] at ht
  obtain ⟨u, hu, rfl⟩ := ht
  split
  · trivial
  · exact h.tmps t u hu
/-- Where the next effect stands. -/
structure Next (L : List (Nat × Oper)) (listed : Array Bool) (n : Nat) : Prop where
  le : n ≤ L.length
  eff : ∀ j o, L[n]? = some (j, o) → isEff o = true ∧ listed.getD j false = false
  before : ∀ (i j : Nat) (o : Oper), i < n → L[i]? = some (j, o) → isEff o = true → listed.getD j false = true
theorem next_from {L : List (Nat × Oper)} (listed : Array Bool) : ∀ (k n : Nat), k + n = L.length → (∀ (i j : Nat) (o : Oper), i < n → L[i]? = some (j, o) → isEff o = true → listed.getD j false = true) →
    ∃ m, n ≤ m ∧ Next L listed m
  | 0, n, h, hb => ⟨n, Nat.le_refl _, ⟨by omega, fun j o ho => by have := (List.getElem?_eq_some_iff.1 ho).1; omega, hb⟩⟩
  | k + 1, n, h, hb => by
    have ho : L[n]? = some (L[n].1, L[n].2) := List.getElem?_eq_getElem (by omega)
    by_cases hc : isEff L[n].2 = true ∧ listed.getD L[n].1 false = false
    · exact ⟨n, Nat.le_refl _, ⟨by omega, fun j o ho' => by rw [ho] at ho'; cases ho'; exact hc, hb⟩⟩
    · obtain ⟨m, h1, h2⟩ := next_from (L := L) listed k (n + 1) (by omega) (fun i j o hi hoi he => by
        rcases Nat.lt_or_eq_of_le (Nat.le_of_lt_succ hi) with hlt | heq
        · exact hb i j o hlt hoi he
        · subst heq; rw [ho] at hoi; cases hoi
          cases hl : listed.getD L[i].1 false with
          | true => rfl
          | false => exact absurd ⟨he, hl⟩ hc)
      exact ⟨m, by omega, h2⟩
theorem opt_un {l l' : List T} (h : l.length = l'.length) (t : Nat) : (l[t]?).map (fun _ => T.un) = (l'[t]?).map (fun _ => T.un) := by
  by_cases ht : t < l.length
  · rw [List.getElem?_eq_getElem ht, List.getElem?_eq_getElem (by omega)]; rfl
  · rw [List.getElem?_eq_none (by omega), List.getElem?_eq_none (by omega)]
theorem drawE_any (hP : B.P = P) {Q : Exit → Act → World → Prop} {L : List (Nat × Oper)} (hok : OkE ops L) {S : Nat → St} (hR : Run P G ops L S)
    (hn : ∀ ρ a w, Rel B ρ (S L.length) a w → Q .normal a w) :
    ∀ (fuel : Nat) (listed : Array Bool) (a : Act) (w : World) (ρ : Names) (n : Nat), listed.size = ops.size → (unlisted ops listed).length ≤ fuel → Closed ops listed → Next L listed n →
      Rel B ρ ((S n).blank (unrun L listed n)) a w → wpAny P .any ops Q fuel listed a w := by
  have allRun : ∀ (listed : Array Bool), listed.size = ops.size → Region.ready .any ops listed = [] → ∀ (p j : Nat) (o : Oper), L[p]? = some (j, o) → listed.getD j false = true := by
    intro listed hs hr p
    induction p using Nat.strongRecOn with
    | _ p ih =>
      intro j o hp
      cases hq : listed.getD j false with
      | true => rfl
      | false =>
        have ho := hok.at_ p j o hp
        have hj := (Array.getElem?_eq_some_iff.1 ho).1
        have : j ∈ Region.ready .any ops listed := by
          rw [mem_ready]
          refine ⟨?_, _, ho, fun e he hb => ?_⟩
          · have hl : j < listed.size := by omega
            rw [Array.getD_eq_getD_getElem?, Array.getElem?_eq_getElem hl] at hq ⊢
            simpa using hq
          · obtain ⟨q, o', hq', hqo⟩ := hok.edge p j o hp e he hb
            exact ih q hq' _ _ hqo
        rw [hr] at this
        cases this
  have done : ∀ (listed : Array Bool) (a : Act) (w : World) (ρ : Names) (n : Nat), listed.size = ops.size → Region.ready .any ops listed = [] → Next L listed n →
      Rel B ρ ((S n).blank (unrun L listed n)) a w → Q .normal a w := by
    intro listed a w ρ n hs hr hnx h
    have hall := allRun listed hs hr
    have hsz : n = L.length := by
      rcases Nat.lt_or_eq_of_le hnx.le with hlt | heq
      · have hg : L[n]? = some (L[n].1, L[n].2) := List.getElem?_eq_getElem hlt
        have := (hnx.eff _ _ hg).2
        rw [hall n _ _ hg] at this; cases this
      · exact heq
    subst hsz
    refine hn ρ a w ?_
    have e : (S L.length).blank (unrun L listed L.length) = S L.length := by
      refine St.ext' (fun t => ?_) rfl
      rw [blank_at]
      have : unrun L listed L.length t = false := by
        rw [← Bool.not_eq_true, unrun_iff]
        rintro ⟨p, j, o, hp, hj, hl, _⟩
        rw [hall p j o hj] at hl; cases hl
      rw [this]
      cases (S L.length).tmps[t]? <;> rfl
    rwa [e] at h
  intro fuel
  induction fuel with
  | zero =>
    intro listed a w ρ n hs hf hcl hnx h
    have hnil : Region.ready .any ops listed = [] := by
      have : unlisted ops listed = [] := List.eq_nil_of_length_eq_zero (by omega)
      apply List.eq_nil_iff_forall_not_mem.2
      intro j hj
      obtain ⟨h1, o, ho, _⟩ := mem_ready.1 hj
      have : j ∈ unlisted ops listed := List.mem_filter.2 ⟨List.mem_range.2 (Array.getElem?_eq_some_iff.1 ho).1, by rw [h1]; rfl⟩
      rw [‹unlisted ops listed = []›] at this
      cases this
    exact ⟨hnil, done listed a w ρ n hs hnil hnx h⟩
  | succ fuel ih =>
    intro listed a w ρ n hs hf hcl hnx h
    refine ⟨fun hr => done listed a w ρ n hs hr hnx h, fun j hj => ?_⟩
    obtain ⟨hun, oj, hoj, hall⟩ := mem_ready.1 hj
    have hjl := (Array.getElem?_eq_some_iff.1 hoj).1
    obtain ⟨p, hp⟩ := hok.cov j oj hoj
    have hunf : listed.getD j false = false := by
      have hl : j < listed.size := by omega
      rw [Array.getD_eq_getD_getElem?, Array.getElem?_eq_getElem hl] at hun ⊢
      simpa using hun
    have hset : ∀ i, i ≠ j → (listed.setIfInBounds j true).getD i false = listed.getD i false := fun i hi => by
      simp [Array.getElem?_setIfInBounds_ne (Ne.symm hi)]
    have hsetj : (listed.setIfInBounds j true).getD j false = true := by
      have hl : j < listed.size := by omega
      simp [hl]
    have hother : ∀ (q i : Nat) (o : Oper), L[q]? = some (i, o) → q ≠ p → i ≠ j := by
      intro q i o hq hne e
      subst e
      exact hne (hok.inj q p i o oj hq hp)
    have hcl' : Closed ops (listed.setIfInBounds j true) := by
      intro k o hk ho e he hb
      have hle : listed.getD e.on false = true := by
        by_cases hkj : k = j
        · subst hkj; rw [hoj] at ho; cases ho; exact hall e he hb
        · rw [hset k hkj] at hk; exact hcl k o hk ho e he hb
      by_cases hej : e.on = j
      · rw [hej]; exact hsetj
      · rw [hset _ hej]; exact hle
    have hsub : (unlisted ops (listed.setIfInBounds j true)).length ≤ fuel := by
      have hmem : j ∈ unlisted ops listed := List.mem_filter.2 ⟨List.mem_range.2 hjl, by rw [hun]; rfl⟩
      have hle : unlisted ops (listed.setIfInBounds j true) = (unlisted ops listed).filter (fun i => i != j) := by
        unfold unlisted
        rw [List.filter_filter]
        apply List.filter_congr
        intro i hi
        by_cases hij : j = i
        · subst hij
          have hl : j < listed.size := by omega
          simp [hl]
        · have hij' : i ≠ j := fun e => hij e.symm
          simp [Array.getElem?_setIfInBounds_ne hij, hij']
      rw [hle]
      have := List.length_filter_lt_length_iff_exists (p := fun i => i != j) (l := unlisted ops listed)
      have := this.2 ⟨j, hmem, by simp⟩
      omega
    -- nothing behind the next effect is ready
    have hjn : p ≤ n := by
      rcases Nat.lt_or_ge n p with hlt | hge
      · have hpl := (List.getElem?_eq_some_iff.1 hp).1
        have hn' : L[n]? = some (L[n].1, L[n].2) := List.getElem?_eq_getElem (by omega)
        obtain ⟨he, hl⟩ := hnx.eff _ _ hn'
        have := behind_listed hcl _ _ j ((hok.eff n _ _ hn' he).2 p j oj hlt hp) (fun o ho e hee hb => by rw [hoj] at ho; cases ho; exact hall e hee hb)
        rw [hl] at this; cases this
      · exact hge
    -- what the operation looks at has run
    have hlook : ∀ t ∈ oj.looksAt ops, unrun L listed n t = false := by
      intro t ht
      rw [← Bool.not_eq_true, unrun_iff]
      rintro ⟨q, i, o, hq, hqo, hl, hd⟩
      rcases hok.look p j oj q i o t hp hqo hd ht with ⟨e, he, hb, heon⟩ | ⟨he, hpq, _⟩
      · have := hall e he hb
        rw [heon, hl] at this; cases this
      · have := hnx.before q i o hq hqo he
        rw [hl] at this; cases this
    have hlt : ∀ t ∈ oj.looksAt ops, ∀ (q i : Nat) (o : Oper), p ≤ q → L[q]? = some (i, o) → isEff o = false → o.dst ≠ some t := by
      intro t ht q i o hpq hqo hne hd
      rcases hok.look p j oj q i o t hp hqo hd ht with ⟨e, he, hb, heon⟩ | ⟨he, _, _⟩
      · obtain ⟨q', o', hq', hqo'⟩ := hok.edge p j oj hp e he hb
        rw [heon] at hqo'
        have := hok.inj q q' i o o' hqo hqo'
        omega
      · rw [hne] at he; cases he
    by_cases heff : isEff oj = true
    · -- the next effect
      have hjeq : p = n := by
        rcases Nat.lt_or_eq_of_le hjn with hlt | heq
        · have := hnx.before p j oj hlt hp heff
          rw [hunf] at this; cases this
        · exact heq
      subst hjeq
      obtain ⟨ob, hop, hob, _⟩ := hR.eff p j oj hp heff
      have hdst : ∀ d, oj.dst = some d → unrun L listed p d = false := by
        intro d hd
        rw [← Bool.not_eq_true, unrun_iff]
        rintro ⟨q, i, o, hq, hqo, hl, hd'⟩
        have := hok.uniq q i o p j oj d hqo hp hd hd'
        omega
      have hopb := effS_blank (X := unrun L listed p) (fun t ht => hlook t (List.mem_append_left _ (tmpsOf_mem ht))) hdst hop
      have hpl := (List.getElem?_eq_some_iff.1 hp).1
      obtain ⟨m, hm1, hm2⟩ := next_from (L := L) (listed.setIfInBounds j true) (L.length - (p + 1)) (p + 1) (by omega) (fun q i o hi hoi he => by
        rcases Nat.lt_or_eq_of_le (Nat.le_of_lt_succ hi) with hlt | heq
        · rw [hset i (hother q i o hoi (by omega))]; exact hnx.before q i o hlt hoi he
        · subst heq; rw [hp] at hoi; cases hoi; exact hsetj)
      have hnone : ∀ (q i : Nat) (o : Oper), p < q → L[q]? = some (i, o) → listed.getD i false = false := by
        intro q i o hq hqo
        cases hl : listed.getD i false with
        | false => rfl
        | true =>
          have := behind_listed hcl _ j i ((hok.eff p j oj hp heff).2 q i o hq hqo) (fun o' ho' e he' hb => hcl i o' hl ho' e he' hb)
          rw [hunf] at this; cases this
      have hquiet : ∀ (q i : Nat) (o : Oper), p + 1 ≤ q → q < p + 1 + (m - (p + 1)) → L[q]? = some (i, o) → isEff o = false := by
        intro q i o hi hl ho
        cases he : isEff o with
        | false => rfl
        | true =>
          have hi1 := hm2.before q i o (by omega) ho he
          rw [hset i (hother q i o ho (by omega)), hnone q i o (by omega) ho] at hi1
          cases hi1
      obtain ⟨g1, g2, g3⟩ := run_seg hR (m - (p + 1)) (p + 1) (by have := hm2.le; omega) hquiet
      rw [show p + 1 + (m - (p + 1)) = m by omega] at g1 g2 g3
      have hnext : ∀ (val : Value) (w' : World) (ρ' : Names), Rel B ρ' ((S (p + 1)).blank (unrun L listed p)) (a.put oj.dst val) w' →
          wpAny P .any ops Q fuel (listed.setIfInBounds j true) (a.put oj.dst val) w' := by
        intro val w' ρ' hr'
        refine ih _ _ w' ρ' m (by simpa using hs) hsub hcl' hm2 ?_
        have e : (S m).blank (unrun L (listed.setIfInBounds j true) m) = ((S (p + 1)).blank (unrun L listed p)).blank (unrun L (listed.setIfInBounds j true) m) := by
          refine St.ext' (fun t => ?_) g1
          rw [blank_at, blank_at, blank_at]
          cases hu : unrun L (listed.setIfInBounds j true) m t with
          | true =>
            simp only [if_true, Option.map_map, Function.comp_def]
            exact opt_un g2 t
          | false =>
            have hno : ¬ ∃ q i o, q < m ∧ L[q]? = some (i, o) ∧ (listed.setIfInBounds j true).getD i false = false ∧ o.dst = some t := by
              rw [← unrun_iff, hu]; simp
            have hu2 : unrun L listed p t = false := by
              rw [← Bool.not_eq_true, unrun_iff]
              rintro ⟨q, i, o, hq, hqo, hl, hd⟩
              exact hno ⟨q, i, o, by omega, hqo, by rw [hset i (hother q i o hqo (by omega))]; exact hl, hd⟩
            rw [g3 t fun q i o hi hl ho hd => hno ⟨q, i, o, by omega, ho, by rw [hset i (hother q i o ho (by omega))]; exact hnone q i o (by omega) ho, hd⟩, hu2]
            cases (S (p + 1)).tmps[t]? <;> rfl
        rw [e]
        exact hr'.blank _
      unfold wpOp
      rw [hoj]
      simp only
      have hw : Region.wanted oj (yielded ops a.tmps) = true := by simp [Region.wanted, (hok.eff p j oj hp heff).1]
      rw [if_pos hw]
      left
      rcases effS_run h hopb hob with ⟨v, ρ', w', h1, h2⟩ | ⟨ρ', w', h1, h2⟩
      · unfold Oper.wp
        rw [h1, Oper.upon_value]
        exact hnext v w' ρ' h2
      · unfold Oper.wp
        rw [h1, Oper.upon_skip]
        exact hnext undef w' ρ' h2
    · -- an operation that may stand anywhere
      have heff : isEff oj = false := by simpa using heff
      have hjlt : p < n := by
        rcases Nat.lt_or_eq_of_le hjn with hlt | heq
        · exact hlt
        · subst heq
          have := (hnx.eff j oj hp).1
          rw [heff] at this; cases this
      have hq : quietK P G ops oj (S n) fun v => LeD v oj.dst (S n) := by
        by_cases hex : ∃ q i o, p < q ∧ q < n ∧ L[q]? = some (i, o) ∧ isEff o = true
        · -- the last effect ahead of n
          obtain ⟨E, iE, oE, hE1, hE2, hE3, hE4, hlast⟩ : ∃ E i o, p < E ∧ E < n ∧ L[E]? = some (i, o) ∧ isEff o = true ∧ ∀ q i o', E < q → q < n → L[q]? = some (i, o') → isEff o' = false := by
            obtain ⟨q0, i0, o0, h1, h2, h3, h4⟩ := hex
            have key : ∀ k, ∀ q i o, p < q → q < n → n - q ≤ k → L[q]? = some (i, o) → isEff o = true → ∃ E i o, p < E ∧ E < n ∧ L[E]? = some (i, o) ∧ isEff o = true ∧ ∀ q i o', E < q → q < n → L[q]? = some (i, o') → isEff o' = false := by
              intro k
              induction k with
              | zero => intro q i o _ _ _ _ _; omega
              | succ k ihk =>
                intro q i o g1 g2 g3 g4 g5
                by_cases hmore : ∃ q' i' o', q < q' ∧ q' < n ∧ L[q']? = some (i', o') ∧ isEff o' = true
                · obtain ⟨q', i', o', k1, k2, k3, k4⟩ := hmore
                  exact ihk q' i' o' (by omega) k2 (by omega) k3 k4
                · refine ⟨q, i, o, g1, g2, g4, g5, fun q' i' o' k1 k2 k3 => ?_⟩
                  cases hk : isEff o' with
                  | false => rfl
                  | true => exact absurd ⟨q', i', o', k1, k2, k3, hk⟩ hmore
            exact key n q0 i0 o0 h1 h2 (by omega) h3 h4
          obtain ⟨_, _, _, hfl⟩ := hR.eff E iE oE hE3 hE4
          have notTo : ∀ (q i : Nat) (o : Oper), q < n → L[q]? = some (i, o) → isEff o = true → edgeTo o j = false := by
            intro q i o hq hqo he
            rw [← Bool.not_eq_true, edgeTo_iff]
            rintro ⟨e, hee, hb, heon⟩
            have := hcl i o (hnx.before q i o hq hqo he) (hok.at_ q i o hqo) e hee hb
            rw [heon, hunf] at this; cases this
          have h1 := (hfl p j oj hE1 hp heff (notTo E iE oE hE2 hE3 hE4)).resolve_left (by
            rintro ⟨E', e', oe', _, k2, k3, k4, k5⟩
            rw [notTo E' e' oe' (by omega) k3 k4] at k5; cases k5)
          obtain ⟨g1, g2, g3⟩ := run_seg hR (n - (E + 1)) (E + 1) (by have := hnx.le; omega) (fun q i o hi hl ho => hlast q i o (by omega) (by omega) ho)
          rw [show E + 1 + (n - (E + 1)) = n by omega] at g1 g2 g3
          have hag : Agree ops oj (S (E + 1)) (S n) := ⟨g1.symm, fun t ht => by
            simp only [List.getD_eq_getElem?_getD]
            rw [g3 t fun q i o hi hl ho => hlt t ht q i o (by omega) ho (hlast q i o (by omega) (by omega) ho)]⟩
          rw [quiet_congr hag] at h1
          exact quiet_mono h1 fun v hv => hv.seg fun t ht => g3 t fun q i o hi hl ho hd => by
            have := hok.uniq q i o p j oj t ho hp ht hd
            omega
        · obtain ⟨v, hv, hS⟩ := hR.quiet p j oj hp heff
          have hqs : ∀ (q i : Nat) (o : Oper), p < q → q < n → L[q]? = some (i, o) → isEff o = false := fun q i o hi hl ho => by
            cases hk : isEff o with
            | false => rfl
            | true => exact absurd ⟨q, i, o, by omega, by omega, ho, hk⟩ hex
          obtain ⟨g1, g2, g3⟩ := run_seg hR (n - (p + 1)) (p + 1) (by have := hnx.le; omega) (fun q i o hi hl ho => hqs q i o (by omega) (by omega) ho)
          rw [show p + 1 + (n - (p + 1)) = n by omega, hS] at g1 g2 g3
          have hm0 : ((S p).put oj.dst v).mem = (S p).mem := by cases oj.dst <;> rfl
          have hag : Agree ops oj (S p) (S n) := ⟨(g1.trans hm0).symm, fun t ht => by
            simp only [List.getD_eq_getElem?_getD]
            rw [g3 t fun q i o hi hl ho => hlt t ht q i o (by omega) ho (hqs q i o (by omega) (by omega) ho), put_other (hlt t ht p j oj (Nat.le_refl _) hp heff)]⟩
          rw [quiet_congr hag] at hv
          refine quiet_mono hv fun v' hv' => ?_
          subst hv'
          cases hd : oj.dst with
          | none => trivial
          | some d =>
            unfold LeD
            simp only [List.getD_eq_getElem?_getD]
            rw [g3 d fun q i o hi hl ho hd' => by
              have := hok.uniq q i o p j oj d ho hp hd hd'
              omega, hd, put_self]
            split
            · exact LeT.refl _
            · exact LeT.un _
      have hag : Agree ops oj (S n) ((S n).blank (unrun L listed n)) := ⟨rfl, fun t ht => by rw [blank_getD, hlook t ht]; simp⟩
      rw [quiet_congr hag] at hq
      obtain ⟨v, hle, hrun⟩ := quiet_run (B := B) hP hq
      have hwp := hrun h (next := wpAny P .any ops Q fuel (listed.setIfInBounds j true)) (Q := Q) (fun val w' hr' hrep => by
        refine ih _ _ w' ρ n (by simpa using hs) hsub hcl' ⟨hnx.le, fun i o ho => ⟨(hnx.eff i o ho).1, by rw [hset i (hother n i o ho (by omega))]; exact (hnx.eff i o ho).2⟩, fun q i o hi ho he => by
          by_cases hij : i = j
          · subst hij; exact hsetj
          · rw [hset i hij]; exact hnx.before q i o hi ho he⟩ ?_
        have hiff : ∀ t, unrun L (listed.setIfInBounds j true) n t = (unrun L listed n t && oj.dst != some t) := by
          intro t
          rw [Bool.eq_iff_iff, Bool.and_eq_true, unrun_iff, unrun_iff, bne_iff_ne]
          constructor
          · rintro ⟨q, i, o, h1, h2, h3, h4⟩
            have hkj : i ≠ j := fun e => by subst e; rw [hsetj] at h3; cases h3
            rw [hset i hkj] at h3
            refine ⟨⟨q, i, o, h1, h2, h3, h4⟩, fun hd => hkj ?_⟩
            have := hok.uniq q i o p j oj t h2 hp hd h4
            subst this
            rw [hp] at h2; cases h2; rfl
          · rintro ⟨⟨q, i, o, h1, h2, h3, h4⟩, hd⟩
            have hkj : i ≠ j := fun e => by
              subst e
              have := hok.inj q p i o oj h2 hp
              subst this
              rw [hp] at h2; cases h2; exact hd h4
            exact ⟨q, i, o, h1, h2, by rw [hset i hkj]; exact h3, h4⟩
        cases hd : oj.dst with
        | none =>
          have e : unrun L (listed.setIfInBounds j true) n = unrun L listed n := by
            funext t; rw [hiff, hd]; simp
          rw [e]
          exact hr'
        | some d =>
          rw [hd] at hle
          have hp' := hr'.put (some d) (v := (S n).tmps.getD d .un) (hle _ _ _ _ hrep)
          have e : ((S n).blank (unrun L listed n)).put (some d) ((S n).tmps.getD d .un) = (S n).blank (unrun L (listed.setIfInBounds j true) n) := by
            refine St.ext' (fun t => ?_) rfl
            rw [blank_at]
            by_cases htd : t = d
            · subst htd
              have hf : unrun L (listed.setIfInBounds j true) n t = false := by rw [hiff, hd]; simp
              rw [put_self, hf]
              simp only [List.getD_eq_getElem?_getD]
              have hlen : ((S n).blank (unrun L listed n)).tmps.length = (S n).tmps.length := by simp [St.blank]
              rw [hlen]
              by_cases hlt' : t < (S n).tmps.length
              · rw [if_pos hlt', List.getElem?_eq_getElem hlt']; rfl
              · rw [if_neg hlt', List.getElem?_eq_none (by omega)]; rfl
            · rw [put_other (fun e => htd (by simpa using e.symm)), blank_at, hiff, hd]
              have : (some d != some t) = true := by simpa using fun e => htd e.symm
              rw [this, Bool.and_true]
          rwa [e] at hp')
      unfold wpOp
      rw [hoj]
      simp only
      split
      · rename_i hw; rw [if_pos hw] at hwp; exact .inl hwp
      · rename_i hw; rw [if_neg hw] at hwp; exact hwp
theorem any_text : (Region.Mode.any == Region.Mode.text) = false := rfl
theorem any_gc : (Region.Mode.any == Region.Mode.gc) = false := rfl
theorem LeT.refl_iff (t : T) : LeT t t ↔ True := ⟨fun _ => trivial, fun _ => LeT.refl t⟩
theorem LeT.un_iff (t : T) : LeT t .un ↔ True := ⟨fun _ => trivial, fun _ => LeT.un t⟩
/-- A region in any order, with effects; l: an order in which whatever comes behind an effect must come after it. -/
theorem SW.drawE {Q : Exit → St → Prop} {id : Nat} (l : List Nat) (hm : P.follows .mixedOrders = true) (hok : okE ops (pickOps ops l) = true) (h : drawE P G ops [] (pickOps ops l) st fun s => Q .normal s) :
    SW P (.region id ops true) Q st := by
  intro B ρ a w hP hr
  have hok := okE_spec hok
  generalize pickOps ops l = L at *
  obtain ⟨S, h1, h2, h3, h4⟩ := drawE_run (L := L) L 0 [] st _ h rfl (Nat.zero_le _) (fun q i oi hq => by omega)
  have hR : Run P G ops L S := ⟨fun i j o ho hq => h3 i j o (Nat.zero_le _) ho hq, fun i j o ho hq => h4 i j o (Nat.zero_le _) ho hq⟩
  obtain ⟨m, hm1, hm2⟩ := next_from (L := L) (Array.replicate ops.size false) L.length 0 (by omega) (fun i j o hi => by omega)
  have hno : ∀ i, (Array.replicate ops.size false).getD i false = false := fun i => by
    rw [Array.getD_eq_getD_getElem?, Array.getElem?_replicate]
    split <;> rfl
  refine wp_region_any hm (drawE_any hP hok hR (fun ρ a w hr => ⟨ρ, _, hr, h2⟩) ops.size _ a _ ρ m (by simp) (Nat.le_trans (List.length_filter_le _ _) (by simp)) (fun k o hk => by rw [hno] at hk; cases hk) hm2 ?_)
  obtain ⟨g1, g2, g3⟩ := run_seg hR m 0 (by have := hm2.le; omega) (fun i j o hi hl ho => by
    cases hk : isEff o with
    | false => rfl
    | true =>
      have := hm2.before i j o (by omega) ho hk
      rw [hno] at this; cases this)
  rw [Nat.zero_add, show S 0 = st from h1] at g1 g2 g3
  have e : (S m).blank (unrun L (Array.replicate ops.size false) m) = st.blank (unrun L (Array.replicate ops.size false) m) := by
    refine St.ext' (fun t => ?_) g1
    rw [blank_at, blank_at]
    cases hu : unrun L (Array.replicate ops.size false) m t with
    | true =>
      simp only [if_true]
      exact opt_un g2 t
    | false =>
      rw [g3 t fun i j o _ hl ho hd => by
        have : unrun L (Array.replicate ops.size false) m t = true := unrun_iff.2 ⟨i, j, o, by omega, ho, hno j, hd⟩
        rw [hu] at this; cases this]
  rw [e]
  have hp : Rel B ρ st a { w with drawn := w.drawn + 1 } := hr.past rfl rfl rfl (Nat.le_refl _) fun _ _ => rfl
  exact hp.blank _
end
end Go.PS
