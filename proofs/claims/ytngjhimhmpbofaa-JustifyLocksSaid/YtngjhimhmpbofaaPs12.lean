/- A region in any order in which some operations lay or write memory: what stands behind such a one in the text always comes after it,
   and what may come either before or after comes to the same. -/
import Derived.Test.YtngjhimhmpbofaaPs11
set_option linter.unusedVariables false
set_option linter.unusedSimpArgs false
namespace Go.PS
open Go

section
variable {P : Program} {G : Book P} {B : Base} {ρ : Names} {st st' : St} {a : Act} {w : World} {ops : Array Oper}

/-- Nothing is known any more of some temporaries. -/
def St.blank (X : Nat → Bool) (st : St) : St := ⟨st.tmps.mapIdx fun i t => if X i then .un else t, st.mem⟩
theorem blank_at (X : Nat → Bool) (st : St) (t : Nat) : (st.blank X).tmps[t]? = (st.tmps[t]?).map fun v => if X t then .un else v := by
  simp only [St.blank, List.getElem?_mapIdx]
theorem blank_getD (X : Nat → Bool) (st : St) (t : Nat) : (st.blank X).tmps.getD t .un = if X t then .un else st.tmps.getD t .un := by
  simp only [List.getD_eq_getElem?_getD, blank_at]
  cases st.tmps[t]? <;> simp
theorem blank_eval {X : Nat → Bool} {st : St} {x : Operand} (h : ∀ t, x = .tmp t → X t = false) : (st.blank X).eval x = st.eval x := by
  cases x with
  | tmp t => simp only [St.eval, blank_getD, h t rfl, Bool.false_eq_true, if_false]
  | _ => rfl
theorem cut_getElem (p : S → Bool) (l : List T) (t : Nat) : (l.map (T.cut p))[t]? = (l[t]?).map (T.cut p) := List.getElem?_map ..
theorem blank_map {X : Nat → Bool} {p : S → Bool} (l : List T) (t : Nat) : ((l.mapIdx fun i t => if X i then T.un else t).map (T.cut p))[t]? = ((l.map (T.cut p)).mapIdx fun i t => if X i then T.un else t)[t]? := by
  simp only [List.getElem?_map, List.getElem?_mapIdx]
  cases l[t]? with
  | none => rfl
  | some v =>
    simp only [Option.map_some]
    split <;> rfl
theorem blank_kill (X : Nat → Bool) (st : St) (y : Nat) : (st.blank X).kill y = (st.kill y).blank X :=
  St.ext' (fun t => blank_map _ _) rfl
theorem blank_wipe (X : Nat → Bool) (st : St) (y : Nat) : (st.blank X).wipe y = (st.wipe y).blank X :=
  St.ext' (fun t => blank_map _ _) rfl
theorem blank_put {X : Nat → Bool} (st : St) {d : Option Nat} (hd : ∀ e, d = some e → X e = false) (v : T) : (st.blank X).put d v = (st.put d v).blank X := by
  cases d with
  | none => rfl
  | some d =>
    refine St.ext' (fun t => ?_) rfl
    rw [blank_at]
    by_cases h : t = d
    · subst h
      simp only [St.put, List.getElem?_set_self', blank_at, hd t rfl]
      cases st.tmps[t]? <;> rfl
    · simp only [St.put]
      rw [List.getElem?_set_ne (Ne.symm h), List.getElem?_set_ne (Ne.symm h), blank_at]
theorem blank_box {X : Nat → Bool} (st : St) {d : Nat} (hd : X d = false) (l : List S) : (st.blank X).box d l = (st.box d l).blank X := by
  have := blank_put (X := X) (st.kill d) (d := some d) (fun e he => by cases he; exact hd) (.one (.ptr d 0))
  rw [← blank_kill] at this
  have h2 : ∀ s : St, s.box d l = ⟨((s.kill d).put (some d) (.one (.ptr d 0))).tmps, mset (s.kill d).mem d (l.map (·.cut (S.names d)))⟩ := fun s => rfl
  rw [h2, h2, this]
  rfl
theorem blank_store (X : Nat → Bool) (st : St) (x o : Nat) (l : List S) : (st.blank X).store x o l = (st.store x o l).blank X := by
  have hm : (st.blank X).mem = st.mem := rfl
  unfold St.store
  rw [hm]
  cases mget st.mem x with
  | none => rfl
  | some cs => exact St.ext' (fun t => blank_map _ _) rfl
theorem blank_rd {X : Nat → Bool} {g : Bool} {x : Operand} (h : ∀ t, x = .tmp t → X t = false) : (st.blank X).rd g x = st.rd g x := by
  simp only [St.rd, blank_eval h]

def tmpsOf (op : Op) : List Nat := op.operands.toList.filterMap fun | .tmp t => some t | _ => none
theorem tmpsOf_mem {op : Op} {t : Nat} (h : Operand.tmp t ∈ op.operands) : t ∈ tmpsOf op := List.mem_filterMap.2 ⟨.tmp t, by simpa using h, rfl⟩

theorem append_blank {X : Nat → Bool} {d : Nat} {c : Call} {ob : Prop} (hx : ∀ t, Operand.tmp t ∈ c.operands → X t = false) (hd : X d = false)
    (h : appendOp P st d c c.args.toList c.argTypes.toList = some (ob, st')) : appendOp P (st.blank X) d c c.args.toList c.argTypes.toList = some (ob, st'.blank X) := by
  have ha : ∀ x ∈ c.args.toList, ∀ g, (st.blank X).rd g x = st.rd g x := fun x hx' g => blank_rd fun t e => hx t (by
    subst e
    simp only [Call.operands, Array.mem_append]; exact .inr (by simpa using hx'))
  generalize c.args.toList = args at h ha
  generalize c.argTypes.toList = tys at h
  have bp : ∀ (s : St) (v : T), (s.blank X).put (some d) v = (s.put (some d) v).blank X := fun s v => blank_put s (fun e he => by cases he; exact hd) v
  unfold appendOp at *
  split at h
  · rename_i s x t t'
    have e1 := ha s (by simp) true
    have e2 := ha x (by simp) true
    split at h
    · rename_i htt
      subst htt
      simp only [if_true, e1, e2]
      split at h
      · split at h
        · split at h
          · rename_i hzz
            simp only [*] at h ⊢
            split at h
            · split at h
              · rename_i hee
                cases h
                simp only [*, and_self, if_true, blank_kill, bp]
              · cases h
            · cases h
              simp only [*, and_self, if_true, blank_kill, bp]
            · cases h
          · cases h
        · cases h
      · cases h
    · cases h
  · cases h

theorem eff_blank {X : Nat → Bool} {dst : Option Nat} {op : Op} {ob : Prop} (hx : ∀ t, Operand.tmp t ∈ op.operands → X t = false) (hd : ∀ d, dst = some d → X d = false)
    (h : effOp P st dst op = some (ob, st')) : effOp P (st.blank X) dst op = some (ob, st'.blank X) := by
  have hr : ∀ x ∈ op.operands, ∀ g, (st.blank X).rd g x = st.rd g x := fun x hx' g => blank_rd fun t e => hx t (e ▸ hx')
  have he : ∀ x ∈ op.operands, (st.blank X).eval x = st.eval x := fun x hx' => blank_eval fun t e => hx t (e ▸ hx')
  cases op <;> simp only [effOp] at h ⊢ <;> try (cases h)
  case box t x =>
    have h1 := hr x (by simp [Op.operands]) true
    rw [h1]
    split at h
    · rename_i d o v hrd
      split at h
      · rename_i l hl
        cases h
        simp only [hrd, hl, blank_box _ (hd d rfl)]
      · cases h
    · cases h
  case alloc t =>
    split at h
    · rename_i d l hl
      cases h
      simp only [hl, blank_box _ (hd d rfl)]
    · cases h
  case buildSlice t len parts =>
    have hf : ∀ pl cs, fillT (st.blank X) true pl cs parts.toList = fillT st true pl cs parts.toList := fun pl cs => fillT_congr _ _ fun p hp => he p.2 (by
      simp only [Op.operands, List.mem_toArray, List.mem_map]; first | exact ⟨p, hp, rfl⟩ | (simp; exact ⟨p.1, by simpa using hp⟩))
    split at h
    · rename_i d e z b hdst
      split at h
      · rename_i c0 hz
        split at h
        · rename_i hc
          rw [hf]
          split at h
          · rename_i o c hfl
            cases h
            simp only [*, if_true, blank_kill, and_self]
            rw [blank_put]
            exact hd
          · cases h
        · cases h
      · cases h
    · cases h
  case makeSlice t l c =>
    have h1 := hr l (by simp [Op.operands]) true
    have h2 := hr c (by simp [Op.operands]) true
    rw [h1, h2]
    split at h
    · rename_i d e z by_ o1 k n o2 k' m hdst hrl hrc
      split at h
      · rename_i c0 hz
        split at h
        · rename_i hc
          cases h
          simp only [*, if_true, blank_kill, and_self]
          rw [blank_put]
          exact hd
        · cases h
      · cases h
    · cases h
  case store t p x =>
    have h1 := hr p (by simp [Op.operands]) true
    have h2 := hr x (by simp [Op.operands]) true
    rw [h1, h2]
    have hm : (st.blank X).mem = st.mem := rfl
    rw [hm]
    split at h
    · split at h
      · split at h
        · cases h
          simp only [*, if_true, blank_store]
        · cases h
      · cases h
    · cases h
  case call c =>
    split at h
    · rename_i d hcal
      have := append_blank (X := X) (c := c) (fun t ht => hx t (by simpa [Op.operands] using ht)) (hd d rfl) h
      simp only [*]
    · cases h

/-! ### The steps, in the order of the text -/
def isEff (o : Oper) : Bool :=
  match o.op with
  | .box _ _ => true
  | .alloc _ => true
  | .buildSlice _ _ _ => true
  | .makeSlice _ _ _ => true
  | .store _ _ _ => true
  | .call c => match c.callee with
    | .builtin .append => true
    | _ => false
  | _ => false
/-- The operation has an edge to the one at i. -/
def edgeTo (o : Oper) (i : Nat) : Bool := o.after.toList.any fun e => Region.binds .any e && e.on == i
/-- The value is known of what the state tells. -/
def LeD (v : T) (d : Option Nat) (st : St) : Prop :=
  match d with
  | none => True
  | some d => LeT v (st.tmps.getD d .un)
/-- What may come after o, too, comes to the same there. -/
def floatK (P : Program) (G : Book P) (ops : Array Oper) (o : Oper) (st' : St) : Nat → List Oper → Prop
  | _, [] => True
  | j, p :: r => (match edgeTo o j || isEff p with
    | true => True
    | false => quietK P G ops p st' fun v => LeD v p.dst st') ∧ floatK P G ops o st' (j + 1) r
def drawE (P : Program) (G : Book P) (ops : Array Oper) (pre : List Oper) : List Oper → St → (St → Prop) → Prop
  | [], st, K => K st
  | o :: r, st, K => match isEff o with
    | true => match effOp P st o.dst o.op with
      | some (ob, st') => ob ∧ floatK P G ops o st' 0 pre ∧ drawE P G ops (pre ++ [o]) r st' K
      | none => Stuck o
    | false => quietK P G ops o st fun v => drawE P G ops (pre ++ [o]) r (st.put o.dst v) K

/-- The operation at k comes after the one at i. -/
def behind (ops : Array Oper) : Nat → Nat → Nat → Bool
  | 0, _, _ => false
  | n + 1, i, k => match ops[k]? with
    | some o => o.after.toList.any (fun e => Region.binds .any e && e.on == i) || o.after.toList.any (fun e => Region.binds .any e && (decide (i < e.on) && behind ops n i e.on))
    | none => false
def okDrawE (ops : Array Oper) : Bool :=
  okDraw ops && (List.range ops.size).all fun i => match ops[i]? with
    | some o => !isEff o || (o.guard.isNone && (List.range ops.size).all fun k => !decide (i < k) || behind ops ops.size i k)
    | none => true

def Closed (ops : Array Oper) (listed : Array Bool) : Prop :=
  ∀ (k : Nat) (o : Oper), listed.getD k false = true → ops[k]? = some o → ∀ e ∈ o.after, Region.binds .any e = true → listed.getD e.on false = true
theorem behind_listed {listed : Array Bool} (hc : Closed ops listed) : ∀ (n i k : Nat), behind ops n i k = true →
    (∀ o, ops[k]? = some o → ∀ e ∈ o.after, Region.binds .any e = true → listed.getD e.on false = true) → listed.getD i false = true
  | 0, i, k, h, _ => by simp [behind] at h
  | n + 1, i, k, h, hk => by
    unfold behind at h
    split at h
    · rename_i o ho
      rw [Bool.or_eq_true, List.any_eq_true, List.any_eq_true] at h
      rcases h with ⟨e, he, h⟩ | ⟨e, he, h⟩
      · rw [Bool.and_eq_true, beq_iff_eq] at h
        have := hk o ho e (by simpa using he) h.1
        rwa [h.2] at this
      · rw [Bool.and_eq_true, Bool.and_eq_true] at h
        have hl := hk o ho e (by simpa using he) h.1
        exact behind_listed hc n i e.on h.2.2 (fun o' ho' => hc e.on o' hl ho')
    · cases h

/-- The text's states. -/
structure Run (P : Program) (G : Book P) (ops : Array Oper) (S : Nat → St) : Prop where
  quiet : ∀ (i : Nat) (o : Oper), ops[i]? = some o → isEff o = false → ∃ v, quietK P G ops o (S i) (fun v' => v' = v) ∧ S (i + 1) = (S i).put o.dst v
  eff : ∀ (i : Nat) (o : Oper), ops[i]? = some o → isEff o = true → ∃ ob, effOp P (S i) o.dst o.op = some (ob, S (i + 1)) ∧ ob ∧
    ∀ (j : Nat) (p : Oper), j < i → ops[j]? = some p → isEff p = false → edgeTo o j = false → quietK P G ops p (S (i + 1)) fun v => LeD v p.dst (S (i + 1))

theorem quiet_val {o : Oper} {K : T → Prop} (h : quietK P G ops o st K) : ∃ v, K v ∧ quietK P G ops o st (fun v' => v' = v) := by
  have hc : ∀ (g : Bool) (K : T → Prop), callK P G g st o K → ∃ v, K v ∧ callK P G g st o (fun v' => v' = v) := by
    intro g K h
    have idle : idleK g o K → ∃ v, K v ∧ idleK g o (fun v' => v' = v) := by
      intro h
      cases g with
      | true => exact h.elim
      | false => exact ⟨.un, h, rfl⟩
    unfold callK at *
    split at h
    · split at h
      · exact ⟨_, h.2, h.1, rfl⟩
      · exact idle h
    · split at h
      · exact ⟨_, h.2, h.1, rfl⟩
      · exact idle h
  unfold quietK at *
  split at h
  · exact h.elim
  · split at h
    · exact ⟨_, h.2, h.1, rfl⟩
    · obtain ⟨v, h1, h2⟩ := hc true K h
      exact ⟨v, h1, h2⟩
  · split at h
    · exact ⟨_, h.2, h.1, rfl⟩
    · rename_i c _ _ _
      obtain ⟨v, h1, h2⟩ := hc c _ h
      refine ⟨.grd c v, h1, ?_⟩
      have idle : idleK c o (fun v' => v' = v) → idleK c o (fun v' => T.grd c v' = .grd c v) := by
        intro h
        cases c with
        | true => exact h.elim
        | false => exact congrArg _ h
      unfold callK at *
      split at h2
      · split at h2
        · exact ⟨h2.1, by rw [h2.2]⟩
        · exact idle h2
      · split at h2
        · exact ⟨h2.1, by rw [h2.2]⟩
        · exact idle h2

theorem floatK_at {o : Oper} : ∀ (pre : List Oper) (j : Nat), floatK P G ops o st' j pre → ∀ (i : Nat) (p : Oper), pre[i]? = some p → isEff p = false → edgeTo o (j + i) = false →
    quietK P G ops p st' fun v => LeD v p.dst st'
  | [], j, _, i, p, hi, _, _ => by simp at hi
  | q :: r, j, h, i, p, hi, hp, he => by
    cases i with
    | zero =>
      simp only [List.getElem?_cons_zero, Option.some.injEq] at hi
      subst hi
      have h1 := h.1
      rw [Nat.add_zero] at he
      rw [he, hp] at h1
      exact h1
    | succ i => exact floatK_at r (j + 1) h.2 i p (by simpa using hi) hp (by rwa [show j + 1 + i = j + (i + 1) by omega])

theorem drawE_run : ∀ (l pre : List Oper) (st : St) (K : St → Prop), drawE P G ops pre l st K → ops.toList = pre ++ l →
    ∃ S : Nat → St, S pre.length = st ∧ K (S ops.size) ∧
      (∀ (i : Nat) (o : Oper), pre.length ≤ i → ops[i]? = some o → isEff o = false → ∃ v, quietK P G ops o (S i) (fun v' => v' = v) ∧ S (i + 1) = (S i).put o.dst v) ∧
      (∀ (i : Nat) (o : Oper), pre.length ≤ i → ops[i]? = some o → isEff o = true → ∃ ob, effOp P (S i) o.dst o.op = some (ob, S (i + 1)) ∧ ob ∧
        ∀ (j : Nat) (p : Oper), j < i → ops[j]? = some p → isEff p = false → edgeTo o j = false → quietK P G ops p (S (i + 1)) fun v => LeD v p.dst (S (i + 1)))
  | [], pre, st, K, h, he => by
    have hsz : ops.size = pre.length := by rw [← Array.length_toList, he]; simp
    refine ⟨fun _ => st, rfl, h, fun i o hi ho => ?_, fun i o hi ho => ?_⟩
    · have := (Array.getElem?_eq_some_iff.1 ho).1; omega
    · have := (Array.getElem?_eq_some_iff.1 ho).1; omega
  | o :: r, pre, st, K, h, he => by
    have hlen : (pre ++ [o]).length = pre.length + 1 := by simp
    have hat : ops[pre.length]? = some o := by rw [← Array.getElem?_toList, he]; simp
    have hpre : ∀ j, j < pre.length → pre[j]? = ops[j]? := fun j hj => by rw [← Array.getElem?_toList, he, List.getElem?_append_left hj]
    have he' : ops.toList = (pre ++ [o]) ++ r := by rw [he]; simp
    have hsz : ops.size = pre.length + (r.length + 1) := by rw [← Array.length_toList, he]; simp
    unfold drawE at h
    split at h
    · rename_i heff
      split at h
      · rename_i ob st1 hop
        obtain ⟨hob, hfl, hrest⟩ := h
        obtain ⟨S, h1, h2, h3, h4⟩ := drawE_run r (pre ++ [o]) st1 K hrest he'
        rw [hlen] at h1 h3 h4
        obtain ⟨S', hz, hne⟩ : ∃ S' : Nat → St, S' pre.length = st ∧ ∀ i, pre.length + 1 ≤ i → S' i = S i := ⟨fun i => if i = pre.length then st else S i, if_pos rfl, fun i hi => if_neg (by omega)⟩
        refine ⟨S', hz, by rw [hne _ (by omega)]; exact h2, fun i o' hi ho' hq => ?_, fun i o' hi ho' hq => ?_⟩
        · rcases Nat.lt_or_eq_of_le hi with hlt | heq
          · rw [hne i hlt, hne (i + 1) (by omega)]; exact h3 i o' hlt ho' hq
          · subst heq; rw [hat] at ho'; cases ho'; rw [heff] at hq; cases hq
        · rcases Nat.lt_or_eq_of_le hi with hlt | heq
          · rw [hne i hlt, hne (i + 1) (by omega)]; exact h4 i o' hlt ho' hq
          · subst heq; rw [hat] at ho'; cases ho'
            rw [hz, hne _ (Nat.le_refl _), h1]
            exact ⟨ob, hop, hob, fun j p hj hp hpe hed => floatK_at pre 0 hfl j p (by rw [hpre j hj]; exact hp) hpe (by rwa [Nat.zero_add])⟩
      · exact h.elim
    · rename_i heff
      obtain ⟨v, hrest, hv⟩ := quiet_val h
      obtain ⟨S, h1, h2, h3, h4⟩ := drawE_run r (pre ++ [o]) _ K hrest he'
      rw [hlen] at h1 h3 h4
      obtain ⟨S', hz, hne⟩ : ∃ S' : Nat → St, S' pre.length = st ∧ ∀ i, pre.length + 1 ≤ i → S' i = S i := ⟨fun i => if i = pre.length then st else S i, if_pos rfl, fun i hi => if_neg (by omega)⟩
      refine ⟨S', hz, by rw [hne _ (by omega)]; exact h2, fun i o' hi ho' hq => ?_, fun i o' hi ho' hq => ?_⟩
      · rcases Nat.lt_or_eq_of_le hi with hlt | heq
        · rw [hne i hlt, hne (i + 1) (by omega)]; exact h3 i o' hlt ho' hq
        · subst heq; rw [hat] at ho'; cases ho'
          rw [hz, hne _ (Nat.le_refl _), h1]
          exact ⟨v, hv, rfl⟩
      · rcases Nat.lt_or_eq_of_le hi with hlt | heq
        · rw [hne i hlt, hne (i + 1) (by omega)]; exact h4 i o' hlt ho' hq
        · subst heq; rw [hat] at ho'; cases ho'; rw [heff] at hq; cases hq

/-- Between two states of the text without an effect between them. -/
theorem run_seg {S : Nat → St} (hR : Run P G ops S) : ∀ (n p : Nat), p + n ≤ ops.size → (∀ (i : Nat) (o : Oper), p ≤ i → i < p + n → ops[i]? = some o → isEff o = false) →
    (S (p + n)).mem = (S p).mem ∧ (S (p + n)).tmps.length = (S p).tmps.length ∧ ∀ t, (∀ (i : Nat) (o : Oper), p ≤ i → i < p + n → ops[i]? = some o → o.dst ≠ some t) → (S (p + n)).tmps[t]? = (S p).tmps[t]?
  | 0, p, _, _ => ⟨rfl, rfl, fun _ _ => rfl⟩
  | n + 1, p, hn, hq => by
    obtain ⟨h1, h2, h3⟩ := run_seg hR n p (by omega) (fun i o hi hl => hq i o hi (by omega))
    have ho : ops[p + n]? = some ops[p + n] := Array.getElem?_eq_getElem (by omega)
    obtain ⟨v, _, hS⟩ := hR.quiet (p + n) _ ho (hq (p + n) _ (by omega) (by omega) ho)
    rw [show p + (n + 1) = p + n + 1 by omega, hS]
    refine ⟨?_, ?_, fun t ht => ?_⟩
    · rw [← h1]; cases (ops[p + n]).dst <;> rfl
    · rw [← h2]; cases (ops[p + n]).dst <;> simp [St.put]
    · rw [put_other (ht (p + n) _ (by omega) (by omega) ho)]
      exact h3 t fun i o hi hl => ht i o hi (by omega)
theorem LeD.seg {v : T} {d : Option Nat} {s s' : St} (h : LeD v d s) (he : ∀ t, d = some t → s'.tmps[t]? = s.tmps[t]?) : LeD v d s' := by
  cases d with
  | none => trivial
  | some d =>
    unfold LeD at *
    simp only [List.getD_eq_getElem?_getD] at *
    rw [he d rfl]; exact h
theorem quiet_mono {o : Oper} {K K' : T → Prop} (h : quietK P G ops o st K) (hk : ∀ v, K v → K' v) : quietK P G ops o st K' := by
  have hc : ∀ (g : Bool) (K K' : T → Prop), callK P G g st o K → (∀ v, K v → K' v) → callK P G g st o K' := by
    intro g K K' h hk
    have idle : idleK g o K → idleK g o K' := by
      intro h
      cases g with
      | true => exact h.elim
      | false => exact hk _ h
    unfold callK at *
    split at h
    · split at h
      · exact ⟨h.1, hk _ h.2⟩
      · exact idle h
    · split at h
      · exact ⟨h.1, hk _ h.2⟩
      · exact idle h
  unfold quietK at *
  split at h
  · exact h.elim
  · split at h
    · exact ⟨h.1, hk _ h.2⟩
    · exact hc _ _ _ h hk
  · split at h
    · exact ⟨h.1, hk _ h.2⟩
    · exact hc _ _ _ h fun v hv => hk _ hv

/-- The temporaries of the operations ahead of n that have not run. -/
def unrun (ops : Array Oper) (listed : Array Bool) (n : Nat) (t : Nat) : Bool :=
  (List.range n).any fun j => !listed.getD j false && (ops[j]?).bind (·.dst) == some t
theorem unrun_iff {listed : Array Bool} {n t : Nat} : unrun ops listed n t = true ↔ ∃ j o, j < n ∧ listed.getD j false = false ∧ ops[j]? = some o ∧ o.dst = some t := by
  unfold unrun
  rw [List.any_eq_true]
  constructor
  · rintro ⟨j, hj, h⟩
    rw [Bool.and_eq_true, beq_iff_eq, Option.bind_eq_some_iff] at h
    obtain ⟨h1, o, h2, h3⟩ := h
    exact ⟨j, o, List.mem_range.1 hj, by simpa using h1, h2, h3⟩
  · rintro ⟨j, o, h1, h2, h3, h4⟩
    refine ⟨j, List.mem_range.2 h1, ?_⟩
    rw [h2, h3, Option.bind_some, h4]; simp
theorem Rel.blank (h : Rel B ρ st a w) (X : Nat → Bool) : Rel B ρ (st.blank X) a w := by
  refine ⟨by simpa [St.blank] using h.len, fun t v ht => ?_, h.mem, h.inj, h.lt, h.args, h.new, h.keeps, h.defers⟩
  rw [blank_at, Option.map_eq_some_iff] at ht
  obtain ⟨u, hu, rfl⟩ := ht
  split
  · trivial
  · exact h.tmps t u hu
theorem St.ext2 {s s' : St} (h1 : ∀ t : Nat, s.tmps[t]? = s'.tmps[t]?) (h2 : s.mem = s'.mem) : s = s' := St.ext' h1 h2
/-- Where the next effect stands. -/
structure Next (ops : Array Oper) (listed : Array Bool) (n : Nat) : Prop where
  le : n ≤ ops.size
  eff : ∀ o, ops[n]? = some o → isEff o = true ∧ listed.getD n false = false
  before : ∀ (i : Nat) (o : Oper), i < n → ops[i]? = some o → isEff o = true → listed.getD i false = true
theorem next_from (listed : Array Bool) : ∀ (k n : Nat), k + n = ops.size → (∀ (i : Nat) (o : Oper), i < n → ops[i]? = some o → isEff o = true → listed.getD i false = true) →
    ∃ m, n ≤ m ∧ Next ops listed m
  | 0, n, h, hb => ⟨n, Nat.le_refl _, ⟨by omega, fun o ho => by have := (Array.getElem?_eq_some_iff.1 ho).1; omega, hb⟩⟩
  | k + 1, n, h, hb => by
    have ho : ops[n]? = some ops[n] := Array.getElem?_eq_getElem (by omega)
    by_cases hc : isEff ops[n] = true ∧ listed.getD n false = false
    · exact ⟨n, Nat.le_refl _, ⟨by omega, fun o ho' => by rw [ho] at ho'; cases ho'; exact hc, hb⟩⟩
    · obtain ⟨m, h1, h2⟩ := next_from listed k (n + 1) (by omega) (fun i o hi hoi he => by
        rcases Nat.lt_or_eq_of_le (Nat.le_of_lt_succ hi) with hlt | heq
        · exact hb i o hlt hoi he
        · subst heq; rw [ho] at hoi; cases hoi
          cases hl : listed.getD i false with
          | true => rfl
          | false => exact absurd ⟨he, hl⟩ hc)
      exact ⟨m, by omega, h2⟩
theorem opt_un {l l' : List T} (h : l.length = l'.length) (t : Nat) : (l[t]?).map (fun _ => T.un) = (l'[t]?).map (fun _ => T.un) := by
  by_cases ht : t < l.length
  · rw [List.getElem?_eq_getElem ht, List.getElem?_eq_getElem (by omega)]; rfl
  · rw [List.getElem?_eq_none (by omega), List.getElem?_eq_none (by omega)]
theorem drawE_any (hP : B.P = P) {Q : Exit → Act → World → Prop} (hok : okDrawE ops = true) {S : Nat → St} (hR : Run P G ops S)
    (hn : ∀ ρ a w, Rel B ρ (S ops.size) a w → Q .normal a w) :
    ∀ (fuel : Nat) (listed : Array Bool) (a : Act) (w : World) (ρ : Names) (n : Nat), listed.size = ops.size → (unlisted ops listed).length ≤ fuel → Closed ops listed → Next ops listed n →
      Rel B ρ ((S n).blank (unrun ops listed n)) a w → wpAny P .any ops Q fuel listed a w := by
  have hok1 : okDraw ops = true := by unfold okDrawE at hok; rw [Bool.and_eq_true] at hok; exact hok.1
  have hok2 : ∀ (i : Nat) (o : Oper), ops[i]? = some o → isEff o = true → o.guard = none ∧ ∀ k, i < k → k < ops.size → behind ops ops.size i k = true := by
    intro i o ho he
    unfold okDrawE at hok
    rw [Bool.and_eq_true, List.all_eq_true] at hok
    have := hok.2 i (List.mem_range.2 (Array.getElem?_eq_some_iff.1 ho).1)
    simp only [ho, he, Bool.not_true, Bool.false_or, Bool.and_eq_true, List.all_eq_true, Option.isNone_iff_eq_none] at this
    refine ⟨this.1, fun k hik hk => ?_⟩
    have := this.2 k (List.mem_range.2 hk)
    simpa [hik] using this
  have uniq : ∀ (i j : Nat) (o p : Oper) (t : Nat), ops[i]? = some o → ops[j]? = some p → o.dst = some t → p.dst = some t → i = j := by
    intro i j o p t hi hj ho hp
    by_cases h : i = j
    · exact h
    · exact absurd hp ((okDraw_spec hok1 hj).2 i o t hi ho |>.2 h)
  have done : ∀ (listed : Array Bool) (a : Act) (w : World) (ρ : Names) (n : Nat), listed.size = ops.size → Region.ready .any ops listed = [] → Next ops listed n →
      Rel B ρ ((S n).blank (unrun ops listed n)) a w → Q .normal a w := by
    intro listed a w ρ n hs hr hnx h
    have hall := ready_nil hok1 hs hr
    have hsz : n = ops.size := by
      rcases Nat.lt_or_eq_of_le hnx.le with hlt | heq
      · have := (hnx.eff _ (Array.getElem?_eq_getElem hlt)).2
        rw [hall n hlt] at this; cases this
      · exact heq
    subst hsz
    refine hn ρ a w ?_
    have e : (S ops.size).blank (unrun ops listed ops.size) = S ops.size := by
      refine St.ext' (fun t => ?_) rfl
      rw [blank_at]
      have : unrun ops listed ops.size t = false := by
        rw [← Bool.not_eq_true, unrun_iff]
        rintro ⟨j, o, hj, hl, _⟩
        rw [hall j hj] at hl; cases hl
      rw [this]
      cases (S ops.size).tmps[t]? <;> rfl
    rwa [e] at h
  intro fuel
  induction fuel with
  | zero =>
    intro listed a w ρ n hs hf hcl hnx h
    have hnil : Region.ready .any ops listed = [] := by
      have : unlisted ops listed = [] := List.eq_nil_of_length_eq_zero (by omega)
      apply List.eq_nil_iff_forall_not_mem.2
      intro j hj
      obtain ⟨h1, o, ho, _⟩ := mem_ready.1 hj
      have : j ∈ unlisted ops listed := List.mem_filter.2 ⟨List.mem_range.2 (Array.getElem?_eq_some_iff.1 ho).1, by rw [h1]; rfl⟩
      rw [‹unlisted ops listed = []›] at this
      cases this
    exact ⟨hnil, done listed a w ρ n hs hnil hnx h⟩
  | succ fuel ih =>
    intro listed a w ρ n hs hf hcl hnx h
    refine ⟨fun hr => done listed a w ρ n hs hr hnx h, fun j hj => ?_⟩
    obtain ⟨hun, oj, hoj, hall⟩ := mem_ready.1 hj
    have hjl := (Array.getElem?_eq_some_iff.1 hoj).1
    have hunf : listed.getD j false = false := by
      have hl : j < listed.size := by omega
      rw [Array.getD_eq_getD_getElem?, Array.getElem?_eq_getElem hl] at hun ⊢
      simpa using hun
    have hset : ∀ i, i ≠ j → (listed.setIfInBounds j true).getD i false = listed.getD i false := fun i hi => by
      simp [Array.getElem?_setIfInBounds_ne (Ne.symm hi)]
    have hsetj : (listed.setIfInBounds j true).getD j false = true := by
      have hl : j < listed.size := by omega
      simp [hl]
    have hcl' : Closed ops (listed.setIfInBounds j true) := by
      intro k o hk ho e he hb
      have hle : listed.getD e.on false = true := by
        by_cases hkj : k = j
        · subst hkj; rw [hoj] at ho; cases ho; exact hall e he hb
        · rw [hset k hkj] at hk; exact hcl k o hk ho e he hb
      by_cases hej : e.on = j
      · rw [hej]; exact hsetj
      · rw [hset _ hej]; exact hle
    have hsub : (unlisted ops (listed.setIfInBounds j true)).length ≤ fuel := by
      have hmem : j ∈ unlisted ops listed := List.mem_filter.2 ⟨List.mem_range.2 hjl, by rw [hun]; rfl⟩
      have hle : unlisted ops (listed.setIfInBounds j true) = (unlisted ops listed).filter (fun i => i != j) := by
        unfold unlisted
        rw [List.filter_filter]
        apply List.filter_congr
        intro i hi
        by_cases hij : j = i
        · subst hij
          have hl : j < listed.size := by omega
          simp [hl]
        · have hij' : i ≠ j := fun e => hij e.symm
          simp [Array.getElem?_setIfInBounds_ne hij, hij']
      rw [hle]
      have := List.length_filter_lt_length_iff_exists (p := fun i => i != j) (l := unlisted ops listed)
      have := this.2 ⟨j, hmem, by simp⟩
      omega
    -- nothing behind the next effect is ready
    have hjn : j ≤ n := by
      rcases Nat.lt_or_ge n j with hlt | hge
      · have hn' : ops[n]? = some ops[n] := Array.getElem?_eq_getElem (by omega)
        obtain ⟨he, hl⟩ := hnx.eff _ hn'
        have := behind_listed hcl _ n j ((hok2 n _ hn' he).2 j hlt hjl) (fun o ho e hee hb => by rw [hoj] at ho; cases ho; exact hall e hee hb)
        rw [hl] at this; cases this
      · exact hge
    -- what the operation looks at has run
    have hlook : ∀ t ∈ oj.looksAt ops, unrun ops listed n t = false := by
      intro t ht
      rw [← Bool.not_eq_true, unrun_iff]
      rintro ⟨i, o, hi, hl, ho, hd⟩
      obtain ⟨e, he, hb, heon⟩ := ((okDraw_spec hok1 hoj).2 i o t ho hd).1 ht
      have := hall e he hb
      rw [heon, hl] at this; cases this
    have hlt : ∀ t ∈ oj.looksAt ops, ∀ (i : Nat) (o : Oper), j ≤ i → ops[i]? = some o → o.dst ≠ some t := by
      intro t ht i o hi ho hd
      obtain ⟨e, he, hb, heon⟩ := ((okDraw_spec hok1 hoj).2 i o t ho hd).1 ht
      have := (okDraw_spec hok1 hoj).1 e he hb
      omega
    by_cases heff : isEff oj = true
    · -- the next effect
      have hjeq : j = n := by
        rcases Nat.lt_or_eq_of_le hjn with hlt | heq
        · have := hnx.before j oj hlt hoj heff
          rw [hunf] at this; cases this
        · exact heq
      subst hjeq
      obtain ⟨ob, hop, hob, _⟩ := hR.eff j oj hoj heff
      have hdst : ∀ d, oj.dst = some d → unrun ops listed j d = false := by
        intro d hd
        rw [← Bool.not_eq_true, unrun_iff]
        rintro ⟨i, o, hi, hl, ho, hd'⟩
        have := uniq i j o oj d ho hoj hd' hd
        omega
      have hopb := eff_blank (X := unrun ops listed j) (fun t ht => hlook t (List.mem_append_left _ (tmpsOf_mem ht))) hdst hop
      obtain ⟨m, hm1, hm2⟩ := next_from (ops := ops) (listed.setIfInBounds j true) (ops.size - (j + 1)) (j + 1) (by omega) (fun i o hi hoi he => by
        rcases Nat.lt_or_eq_of_le (Nat.le_of_lt_succ hi) with hlt | heq
        · rw [hset i (by omega)]; exact hnx.before i o hlt hoi he
        · subst heq; exact hsetj)
      have hquiet : ∀ (i : Nat) (o : Oper), j + 1 ≤ i → i < j + 1 + (m - (j + 1)) → ops[i]? = some o → isEff o = false := by
        intro i o hi hl ho
        cases he : isEff o with
        | false => rfl
        | true =>
          have hi1 := hm2.before i o (by omega) ho he
          rw [hset i (by omega)] at hi1
          have := behind_listed hcl _ j i ((hok2 j oj hoj heff).2 i (by omega) (by have := hm2.le; omega)) (fun o' ho' e he' hb => hcl i o' hi1 ho' e he' hb)
          rw [hunf] at this; cases this
      have hnone : ∀ (i : Nat), j < i → i < ops.size → listed.getD i false = false := by
        intro i hi hil
        cases hl : listed.getD i false with
        | false => rfl
        | true =>
          have := behind_listed hcl _ j i ((hok2 j oj hoj heff).2 i hi hil) (fun o' ho' e he' hb => hcl i o' hl ho' e he' hb)
          rw [hunf] at this; cases this
      obtain ⟨g1, g2, g3⟩ := run_seg hR (m - (j + 1)) (j + 1) (by have := hm2.le; omega) hquiet
      rw [show j + 1 + (m - (j + 1)) = m by omega] at g1 g2 g3
      have hnext : ∀ (val : Value) (w' : World) (ρ' : Names), Rel B ρ' ((S (j + 1)).blank (unrun ops listed j)) (a.put oj.dst val) w' →
          wpAny P .any ops Q fuel (listed.setIfInBounds j true) (a.put oj.dst val) w' := by
        intro val w' ρ' hr'
        refine ih _ _ w' ρ' m (by simpa using hs) hsub hcl' hm2 ?_
        have e : (S m).blank (unrun ops (listed.setIfInBounds j true) m) = ((S (j + 1)).blank (unrun ops listed j)).blank (unrun ops (listed.setIfInBounds j true) m) := by
          refine St.ext' (fun t => ?_) g1
          rw [blank_at, blank_at, blank_at]
          cases hu : unrun ops (listed.setIfInBounds j true) m t with
          | true =>
            simp only [if_true, Option.map_map, Function.comp_def]
            exact opt_un g2 t
          | false =>
            have hno : ¬ ∃ k o, k < m ∧ (listed.setIfInBounds j true).getD k false = false ∧ ops[k]? = some o ∧ o.dst = some t := by
              rw [← unrun_iff, hu]; simp
            have hu2 : unrun ops listed j t = false := by
              rw [← Bool.not_eq_true, unrun_iff]
              rintro ⟨k, o, hk, hl, ho, hd⟩
              exact hno ⟨k, o, by omega, by rw [hset k (by omega)]; exact hl, ho, hd⟩
            rw [g3 t fun i o hi hl ho hd => hno ⟨i, o, by omega, by rw [hset i (by omega)]; exact hnone i (by omega) (by have := hm2.le; omega), ho, hd⟩, hu2]
            cases (S (j + 1)).tmps[t]? <;> rfl
        rw [e]
        exact hr'.blank _
      unfold wpOp
      rw [hoj]
      simp only
      have hw : Region.wanted oj (yielded ops a.tmps) = true := by simp [Region.wanted, (hok2 j oj hoj heff).1]
      rw [if_pos hw]
      left
      rcases eff_run h hopb hob with ⟨v, ρ', w', h1, h2⟩ | ⟨ρ', w', h1, h2⟩
      · unfold Oper.wp
        rw [h1, Oper.upon_value]
        exact hnext v w' ρ' h2
      · unfold Oper.wp
        rw [h1, Oper.upon_skip]
        exact hnext undef w' ρ' h2
    · -- an operation that may stand anywhere
      have heff : isEff oj = false := by simpa using heff
      have hjlt : j < n := by
        rcases Nat.lt_or_eq_of_le hjn with hlt | heq
        · exact hlt
        · subst heq
          have := (hnx.eff oj hoj).1
          rw [heff] at this; cases this
      have hq : quietK P G ops oj (S n) fun v => LeD v oj.dst (S n) := by
        by_cases hex : ∃ i o, j < i ∧ i < n ∧ ops[i]? = some o ∧ isEff o = true
        · -- the last effect ahead of n
          obtain ⟨E, oE, hE1, hE2, hE3, hE4, hlast⟩ : ∃ E o, j < E ∧ E < n ∧ ops[E]? = some o ∧ isEff o = true ∧ ∀ i o', E < i → i < n → ops[i]? = some o' → isEff o' = false := by
            obtain ⟨i0, o0, h1, h2, h3, h4⟩ := hex
            have key : ∀ k, ∀ i o, j < i → i < n → n - i ≤ k → ops[i]? = some o → isEff o = true → ∃ E o, j < E ∧ E < n ∧ ops[E]? = some o ∧ isEff o = true ∧ ∀ i o', E < i → i < n → ops[i]? = some o' → isEff o' = false := by
              intro k
              induction k with
              | zero => intro i o _ _ _ _ _; omega
              | succ k ihk =>
                intro i o g1 g2 g3 g4 g5
                by_cases hmore : ∃ i' o', i < i' ∧ i' < n ∧ ops[i']? = some o' ∧ isEff o' = true
                · obtain ⟨i', o', k1, k2, k3, k4⟩ := hmore
                  exact ihk i' o' (by omega) k2 (by omega) k3 k4
                · refine ⟨i, o, g1, g2, g4, g5, fun i' o' k1 k2 k3 => ?_⟩
                  cases hk : isEff o' with
                  | false => rfl
                  | true => exact absurd ⟨i', o', k1, k2, k3, hk⟩ hmore
            exact key n i0 o0 h1 h2 (by omega) h3 h4
          obtain ⟨_, _, _, hfl⟩ := hR.eff E oE hE3 hE4
          have hEl := hnx.before E oE hE2 hE3 hE4
          have hne : edgeTo oE j = false := by
            rw [← Bool.not_eq_true]
            unfold edgeTo
            rw [List.any_eq_true]
            rintro ⟨e, he, hb⟩
            rw [Bool.and_eq_true, beq_iff_eq] at hb
            have := hcl E oE hEl hE3 e (by simpa using he) hb.1
            rw [hb.2, hunf] at this; cases this
          have h1 := hfl j oj hE1 hoj heff hne
          obtain ⟨g1, g2, g3⟩ := run_seg hR (n - (E + 1)) (E + 1) (by have := hnx.le; omega) (fun i o hi hl ho => hlast i o (by omega) (by omega) ho)
          rw [show E + 1 + (n - (E + 1)) = n by omega] at g1 g2 g3
          have hag : Agree ops oj (S (E + 1)) (S n) := ⟨g1.symm, fun t ht => by
            simp only [List.getD_eq_getElem?_getD]
            rw [g3 t fun i o hi _ ho => hlt t ht i o (by omega) ho]⟩
          rw [quiet_congr hag] at h1
          exact quiet_mono h1 fun v hv => hv.seg fun t ht => g3 t fun i o hi hl ho hd => by
            have := uniq i j o oj t ho hoj hd ht
            omega
        · obtain ⟨v, hv, hS⟩ := hR.quiet j oj hoj heff
          obtain ⟨g1, g2, g3⟩ := run_seg hR (n - (j + 1)) (j + 1) (by have := hnx.le; omega) (fun i o hi hl ho => by
            cases hk : isEff o with
            | false => rfl
            | true => exact absurd ⟨i, o, by omega, by omega, ho, hk⟩ hex)
          rw [show j + 1 + (n - (j + 1)) = n by omega, hS] at g1 g2 g3
          have hm0 : ((S j).put oj.dst v).mem = (S j).mem := by cases oj.dst <;> rfl
          have hag : Agree ops oj (S j) (S n) := ⟨(g1.trans hm0).symm, fun t ht => by
            simp only [List.getD_eq_getElem?_getD]
            rw [g3 t fun i o hi _ ho => hlt t ht i o (by omega) ho, put_other (hlt t ht j oj (Nat.le_refl _) hoj)]⟩
          rw [quiet_congr hag] at hv
          refine quiet_mono hv fun v' hv' => ?_
          subst hv'
          cases hd : oj.dst with
          | none => trivial
          | some d =>
            unfold LeD
            simp only [List.getD_eq_getElem?_getD]
            rw [g3 d fun i o hi hl ho hd' => by
              have := uniq i j o oj d ho hoj hd' hd
              omega, hd, put_self]
            split
            · exact LeT.refl _
            · exact LeT.un _
      have hag : Agree ops oj (S n) ((S n).blank (unrun ops listed n)) := ⟨rfl, fun t ht => by rw [blank_getD, hlook t ht]; simp⟩
      rw [quiet_congr hag] at hq
      obtain ⟨v, hle, hrun⟩ := quiet_run (B := B) hP hq
      have hwp := hrun h (next := wpAny P .any ops Q fuel (listed.setIfInBounds j true)) (Q := Q) (fun val w' hr' hrep => by
        refine ih _ _ w' ρ n (by simpa using hs) hsub hcl' ⟨hnx.le, fun o ho => ⟨(hnx.eff o ho).1, by rw [hset n (by omega)]; exact (hnx.eff o ho).2⟩, fun i o hi ho he => by
          by_cases hij : i = j
          · subst hij; exact hsetj
          · rw [hset i hij]; exact hnx.before i o hi ho he⟩ ?_
        have hiff : ∀ t, unrun ops (listed.setIfInBounds j true) n t = (unrun ops listed n t && oj.dst != some t) := by
          intro t
          rw [Bool.eq_iff_iff, Bool.and_eq_true, unrun_iff, unrun_iff, bne_iff_ne]
          constructor
          · rintro ⟨k, o, h1, h2, h3, h4⟩
            have hkj : k ≠ j := fun e => by subst e; rw [hsetj] at h2; cases h2
            rw [hset k hkj] at h2
            exact ⟨⟨k, o, h1, h2, h3, h4⟩, fun hd => hkj (uniq k j o oj t h3 hoj h4 hd)⟩
          · rintro ⟨⟨k, o, h1, h2, h3, h4⟩, hd⟩
            have hkj : k ≠ j := fun e => by subst e; rw [hoj] at h3; cases h3; exact hd h4
            exact ⟨k, o, h1, by rw [hset k hkj]; exact h2, h3, h4⟩
        cases hd : oj.dst with
        | none =>
          have e : unrun ops (listed.setIfInBounds j true) n = unrun ops listed n := by
            funext t; rw [hiff, hd]; simp
          rw [e]
          exact hr'
        | some d =>
          rw [hd] at hle
          have hp := hr'.put (some d) (v := (S n).tmps.getD d .un) (hle _ _ _ _ hrep)
          have e : ((S n).blank (unrun ops listed n)).put (some d) ((S n).tmps.getD d .un) = (S n).blank (unrun ops (listed.setIfInBounds j true) n) := by
            refine St.ext' (fun t => ?_) rfl
            rw [blank_at]
            by_cases htd : t = d
            · subst htd
              have hf : unrun ops (listed.setIfInBounds j true) n t = false := by rw [hiff, hd]; simp
              rw [put_self, hf]
              simp only [List.getD_eq_getElem?_getD]
              have hlen : ((S n).blank (unrun ops listed n)).tmps.length = (S n).tmps.length := by simp [St.blank]
              rw [hlen]
              by_cases hlt' : t < (S n).tmps.length
              · rw [if_pos hlt', List.getElem?_eq_getElem hlt']; rfl
              · rw [if_neg hlt', List.getElem?_eq_none (by omega)]; rfl
            · rw [put_other (fun e => htd (by simpa using e.symm)), blank_at, hiff, hd]
              have : (some d != some t) = true := by simpa using fun e => htd e.symm
              rw [this, Bool.and_true]
          rwa [e] at hp)
      unfold wpOp
      rw [hoj]
      simp only
      split
      · rename_i hw; rw [if_pos hw] at hwp; exact .inl hwp
      · rename_i hw; rw [if_neg hw] at hwp; exact hwp

theorem any_text : (Region.Mode.any == Region.Mode.text) = false := rfl
theorem any_gc : (Region.Mode.any == Region.Mode.gc) = false := rfl
theorem LeT.refl_iff (t : T) : LeT t t ↔ True := ⟨fun _ => trivial, fun _ => LeT.refl t⟩
theorem LeT.un_iff (t : T) : LeT t .un ↔ True := ⟨fun _ => trivial, fun _ => LeT.un t⟩
/-- A region in any order, with effects. -/
theorem SW.drawE {Q : Exit → St → Prop} {id : Nat} (hm : P.follows .mixedOrders = true) (hok : okDrawE ops = true) (h : drawE P G ops [] ops.toList st fun s => Q .normal s) :
    SW P (.region id ops true) Q st := by
  intro B ρ a w hP hr
  obtain ⟨S, h1, h2, h3, h4⟩ := drawE_run ops.toList [] st _ h rfl
  have hR : Run P G ops S := ⟨fun i o ho hq => h3 i o (Nat.zero_le _) ho hq, fun i o ho hq => h4 i o (Nat.zero_le _) ho hq⟩
  obtain ⟨m, hm1, hm2⟩ := next_from (ops := ops) (Array.replicate ops.size false) ops.size 0 (by omega) (fun i o hi => by omega)
  have hno : ∀ i, (Array.replicate ops.size false).getD i false = false := fun i => by
    rw [Array.getD_eq_getD_getElem?, Array.getElem?_replicate]
    split <;> rfl
  refine wp_region_any hm (drawE_any hP hok hR (fun ρ a w hr => ⟨ρ, _, hr, h2⟩) ops.size _ a _ ρ m (by simp) (Nat.le_trans (List.length_filter_le _ _) (by simp)) (fun k o hk => by rw [hno] at hk; cases hk) hm2 ?_)
  obtain ⟨g1, g2, g3⟩ := run_seg hR m 0 (by have := hm2.le; omega) (fun i o hi hl ho => by
    cases hk : isEff o with
    | false => rfl
    | true =>
      have := hm2.before i o (by omega) ho hk
      rw [hno] at this; cases this)
  rw [Nat.zero_add, show S 0 = st from h1] at g1 g2 g3
  have e : (S m).blank (unrun ops (Array.replicate ops.size false) m) = st.blank (unrun ops (Array.replicate ops.size false) m) := by
    refine St.ext' (fun t => ?_) g1
    rw [blank_at, blank_at]
    cases hu : unrun ops (Array.replicate ops.size false) m t with
    | true =>
      simp only [if_true]
      exact opt_un g2 t
    | false =>
      rw [g3 t fun i o _ hl ho hd => by
        have : unrun ops (Array.replicate ops.size false) m t = true := unrun_iff.2 ⟨i, o, by omega, hno i, ho, hd⟩
        rw [hu] at this; cases this]
  rw [e]
  have hp : Rel B ρ st a { w with drawn := w.drawn + 1 } := hr.past rfl rfl rfl (Nat.le_refl _) fun _ _ => rfl
  exact hp.blank _
end
end Go.PS
