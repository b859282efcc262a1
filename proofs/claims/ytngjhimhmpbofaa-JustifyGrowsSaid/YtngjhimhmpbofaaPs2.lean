/- The state of a call (its temporaries, its local variables by name) and what it means that a frame and a world are in that
   state; how this goes on when memory turns. -/
import Derived.Test.YtngjhimhmpbofaaPs1
set_option linter.unusedVariables false
set_option linter.unusedSimpArgs false
namespace Go.PS
open Go

def mget : List (Nat × List S) → Nat → Option (List S)
  | [], _ => none
  | (y, cs) :: r, x => if y == x then some cs else mget r x
def mset : List (Nat × List S) → Nat → List S → List (Nat × List S)
  | [], x, cs => [(x, cs)]
  | (y, c) :: r, x, cs => if y == x then (x, cs) :: r else (y, c) :: mset r x cs
def mdrop : List (Nat × List S) → Nat → List (Nat × List S)
  | [], _ => []
  | (y, c) :: r, x => if y == x then mdrop r x else (y, c) :: mdrop r x
def mcut (p : S → Bool) : List (Nat × List S) → List (Nat × List S)
  | [] => []
  | (y, c) :: r => (y, c.map (·.cut p)) :: mcut p r

theorem mget_set : ∀ (m : List (Nat × List S)) (x y : Nat) (cs : List S), mget (mset m x cs) y = if x = y then some cs else mget m y
  | [], x, y, cs => by by_cases h : x = y <;> simp [mset, mget, h]
  | (z, c) :: r, x, y, cs => by
    simp only [mset]
    split
    · rename_i h; simp only [beq_iff_eq] at h; subst h
      by_cases hy : z = y <;> simp [mget, hy]
    · rename_i h; simp only [beq_iff_eq] at h
      simp only [mget, mget_set r x y cs]
      by_cases hzy : z = y
      · subst hzy; simp [Ne.symm h]
      · simp [hzy]
theorem mget_drop : ∀ (m : List (Nat × List S)) (x y : Nat), mget (mdrop m x) y = if x = y then none else mget m y
  | [], x, y => by simp [mdrop, mget]
  | (z, c) :: r, x, y => by
    simp only [mdrop]
    split
    · rename_i h; simp only [beq_iff_eq] at h; subst h
      rw [mget_drop r z y]
      by_cases hy : z = y <;> simp [mget, hy]
    · rename_i h; simp only [beq_iff_eq] at h
      simp only [mget, mget_drop r x y]
      by_cases hzy : z = y
      · subst hzy; simp [Ne.symm h]
      · simp [hzy]
theorem mget_cut (p : S → Bool) : ∀ (m : List (Nat × List S)) (x : Nat), mget (mcut p m) x = (mget m x).map (·.map (·.cut p))
  | [], x => rfl
  | (z, c) :: r, x => by
    simp only [mcut, mget, mget_cut p r x]
    split <;> rfl

structure St where
  tmps : List T
  mem : List (Nat × List S)
  deriving Inhabited

def St.put (st : St) : Option Nat → T → St
  | none, _ => st
  | some d, v => { st with tmps := st.tmps.set d v }
/-- Name y is taken anew: nothing that tells of it is known. -/
def St.kill (st : St) (y : Nat) : St := ⟨st.tmps.map (T.cut (S.names y)), mcut (S.names y) (mdrop st.mem y)⟩
/-- The contents of block x turn. -/
def St.wipe (st : St) (x : Nat) : St := ⟨st.tmps.map (T.cut (S.reads x)), mcut (S.reads x) st.mem⟩

/-- What is kept of the world at the call's begin. -/
structure Keeps (B : Base) (w : World) : Prop where
  os : w.os = B.w.os
  tape : w.tape = B.w.tape
  output : w.output = B.w.output
  size : B.w.heap.size ≤ w.heap.size
  block : ∀ b, b < B.w.heap.size → ¬ B.W b → w.heap[b]? = B.w.heap[b]?

def BoxAt (B : Base) (ρ : Names) (w : World) (x : Nat) (cs : List S) : Prop :=
  ∃ (b : Nat) (arr : Array Value) (ty : TypeId), ρ x = some b ∧ w.heap[b]? = some (.cells arr ty (0, 0)) ∧ arr.size = cs.length ∧
    ∀ (j : Nat) (s : S), cs[j]? = some s → ∃ c, arr[j]? = some c ∧ RepS B ρ w s c

structure Rel (B : Base) (ρ : Names) (st : St) (a : Act) (w : World) : Prop where
  len : a.tmps.size = st.tmps.length
  tmps : ∀ (t : Nat) (v : T), st.tmps[t]? = some v → RepT B ρ w v (a.tmps.getD t undef)
  mem : ∀ x cs, mget st.mem x = some cs → BoxAt B ρ w x cs
  inj : ∀ x y b, ρ x = some b → ρ y = some b → x = y
  lt : ∀ x b, ρ x = some b → b < w.heap.size
  args : ∀ i b, B.α i = some b → ¬ Priv ρ b ∧ b < w.heap.size
  new : ∀ x b, ρ x = some b → B.w.heap.size ≤ b ∨ B.W b
  keeps : Keeps B w
  defers : a.defers = []

theorem Rel.put {B : Base} {ρ : Names} {st : St} {a : Act} {w : World} (h : Rel B ρ st a w) (dst : Option Nat) {v : T} {val : Value}
    (hv : RepT B ρ w v val) : Rel B ρ (st.put dst v) (a.put dst val) w := by
  cases dst with
  | none => exact h
  | some d =>
    refine ⟨by simp [St.put, Act.put, h.len], fun t v' ht => ?_, h.mem, h.inj, h.lt, h.args, h.new, h.keeps, h.defers⟩
    simp only [St.put, List.getElem?_set] at ht
    split at ht
    · rename_i e; subst e
      split at ht
      · rename_i hlt
        simp only [Option.some.injEq] at ht; subst ht
        have hlt' : d < a.tmps.size := by rw [h.len]; exact hlt
        simpa [Act.put, Array.getD_eq_getD_getElem?, Array.getElem?_setIfInBounds, hlt'] using hv
      · cases ht
    · rename_i e
      simpa [Act.put, Array.getD_eq_getD_getElem?, Array.getElem?_setIfInBounds, e] using h.tmps t v' ht

/-- Memory turns: the contents of the blocks K may turn, the names N may lie anew. -/
structure Turns (B : Base) (ρ ρ' : Names) (w w' : World) (K N : Nat → Prop) : Prop where
  os : w'.os = w.os
  tape : w'.tape = w.tape
  out : w'.output = w.output
  size : w.heap.size ≤ w'.heap.size
  same : ∀ b, b < w.heap.size → (∀ x, K x → ρ x ≠ some b) → w'.heap[b]? = w.heap[b]?
  keep : ∀ z, ¬ N z → ρ' z = ρ z
  new : ∀ z b, N z → ρ' z = some b → ((∃ x, N x ∧ ρ x = some b) ∨ w.heap.size ≤ b) ∧ b < w'.heap.size
  inj : ∀ z z' b, N z → N z' → ρ' z = some b → ρ' z' = some b → z = z'
theorem Rel.kept {B : Base} {ρ ρ' : Names} {st : St} {a : Act} {w w' : World} (h : Rel B ρ st a w) {K N : Nat → Prop} (t : Turns B ρ ρ' w w' K N) :
    Kept ρ ρ' w w' (fun x => ¬ N x) (fun x => ¬ K x) := by
  refine ⟨fun b hb hn => t.same b hb fun x _ hx => hn ⟨x, hx⟩, fun b ⟨z, hz⟩ => ?_, fun x b hx hb => (t.keep x hx).trans hb, fun x b hx hb => t.same b (h.lt x b hb) fun x' hK hx' => ?_⟩
  · by_cases hN : N z
    · exact (t.new z b hN hz).1.imp (fun ⟨x, _, hx⟩ => ⟨x, hx⟩) id
    · exact .inl ⟨z, (t.keep z hN) ▸ hz⟩
  · exact hx ((h.inj _ _ _ hx' hb) ▸ hK)
/-- What tells of what turns is cut off. -/
structure Cuts (p : S → Bool) (K N : Nat → Prop) : Prop where
  read : ∀ s x, K x → s.reads x = true → p s = true
  name : ∀ s x, N x → s.names x = true → p s = true
theorem Kept.cutS {B : Base} {ρ ρ' : Names} {w w' : World} {K N : Nat → Prop} (k : Kept ρ ρ' w w' (fun x => ¬ N x) (fun x => ¬ K x)) {p : S → Bool} (c : Cuts p K N) {s : S} {v : Value}
    (hr : RepS B ρ w s v) : RepS B ρ' w' (s.cut p) v :=
  (hr.cut p).mono k (fun x hx hN => by
      have := S.cut_has (q := S.names x) rfl hx
      rw [c.name s x hN this.1] at this; exact absurd this.2 (by simp)) (fun x hx hK => by
      have := S.cut_has (q := S.reads x) rfl hx
      rw [c.read s x hK this.1] at this; exact absurd this.2 (by simp))
theorem Kept.cutT {B : Base} {ρ ρ' : Names} {w w' : World} {K N : Nat → Prop} (k : Kept ρ ρ' w w' (fun x => ¬ N x) (fun x => ¬ K x)) {p : S → Bool} (c : Cuts p K N) {t : T} {v : Value}
    (hr : RepT B ρ w t v) : RepT B ρ' w' (t.cut p) v :=
  RepT.mono k _ _ (fun x hx hN => by
    obtain ⟨s, h1, h2, _⟩ := T.cut_has (q := S.names x) rfl hx
    rw [c.name s x hN h1] at h2; cases h2) (fun x hx hK => by
    obtain ⟨s, h1, h2, _⟩ := T.cut_has (q := S.reads x) rfl hx
    rw [c.read s x hK h1] at h2; cases h2) (hr.cut p)

theorem Rel.turn {B : Base} {ρ ρ' : Names} {st : St} {a : Act} {w w' : World} (h : Rel B ρ st a w) {K N : Nat → Prop} (tn : Turns B ρ ρ' w w' K N) {p : S → Bool} (ct : Cuts p K N)
    (mem' : List (Nat × List S))
    (hmem : ∀ x cs, mget mem' x = some cs → (¬ N x ∧ ¬ K x ∧ ∃ cs0, mget st.mem x = some cs0 ∧ cs = cs0.map (·.cut p)) ∨ BoxAt B ρ' w' x cs) :
    Rel B ρ' ⟨st.tmps.map (T.cut p), mem'⟩ a w' := by
  have k := h.kept tn
  obtain ⟨hos, htape, hout, hsz, hsame, hkeep, hnew, hinj⟩ := tn
  refine ⟨by simpa using h.len, fun t v ht => ?_, fun x cs hx => ?_, fun x y b hx hy => ?_, fun x b hx => ?_, fun i b hi => ⟨fun ⟨z, hz⟩ => ?_, Nat.lt_of_lt_of_le (h.args i b hi).2 hsz⟩,
    fun x b hx => ?_, ⟨hos.trans h.keeps.os, htape.trans h.keeps.tape, hout.trans h.keeps.output, Nat.le_trans h.keeps.size hsz, fun b hb hW => ?_⟩, h.defers⟩
  · simp only [List.getElem?_map, Option.map_eq_some_iff] at ht
    obtain ⟨v0, hv0, rfl⟩ := ht
    exact k.cutT ct (h.tmps t v0 hv0)
  · rcases hmem x cs hx with ⟨hN, hK, cs0, h0, rfl⟩ | hb
    · obtain ⟨b, arr, ty, hb, hh, hl, hc⟩ := h.mem x cs0 h0
      refine ⟨b, arr, ty, (hkeep x hN).trans hb, (k.read x b hK hb).trans hh, by simpa using hl, fun j s hs => ?_⟩
      simp only [List.getElem?_map, Option.map_eq_some_iff] at hs
      obtain ⟨s0, hs0, rfl⟩ := hs
      obtain ⟨c, hc1, hc2⟩ := hc j s0 hs0
      exact ⟨c, hc1, k.cutS ct hc2⟩
    · exact hb
  · by_cases hNx : N x <;> by_cases hNy : N y
    · exact hinj x y b hNx hNy hx hy
    · rw [hkeep y hNy] at hy
      rcases (hnew x b hNx hx).1 with ⟨x', hN', hx'⟩ | hl
      · exact absurd ((h.inj _ _ _ hx' hy) ▸ hN') hNy
      · have := h.lt y b hy; omega
    · rw [hkeep x hNx] at hx
      rcases (hnew y b hNy hy).1 with ⟨x', hN', hx'⟩ | hl
      · exact absurd ((h.inj _ _ _ hx' hx) ▸ hN') hNx
      · have := h.lt x b hx; omega
    · rw [hkeep x hNx] at hx; rw [hkeep y hNy] at hy; exact h.inj x y b hx hy
  · by_cases hNx : N x
    · exact (hnew x b hNx hx).2
    · rw [hkeep x hNx] at hx; exact Nat.lt_of_lt_of_le (h.lt x b hx) hsz
  · by_cases hNz : N z
    · rcases (hnew z b hNz hz).1 with ⟨x', _, hx'⟩ | hl
      · exact (h.args i b hi).1 ⟨x', hx'⟩
      · have := (h.args i b hi).2; omega
    · rw [hkeep z hNz] at hz; exact (h.args i b hi).1 ⟨z, hz⟩
  · by_cases hNx : N x
    · rcases (hnew x b hNx hx).1 with ⟨x', _, hx'⟩ | hl
      · exact h.new x' b hx'
      · exact .inl (Nat.le_trans h.keeps.size hl)
    · rw [hkeep x hNx] at hx; exact h.new x b hx
  · rw [← h.keeps.block b hb hW]
    exact hsame b (Nat.lt_of_lt_of_le hb h.keeps.size) fun x hK hx => (h.new x b hx).elim (fun hl => by omega) hW

/-- A name is taken for a new block. -/
def Names.set (ρ : Names) (y : Nat) (b : Option Nat) : Names := fun z => if z = y then b else ρ z

/-- New blocks are laid; one of them, or none, gets the name y. -/
theorem Turns.grow {B : Base} {ρ : Names} {w w' : World} (y : Nat) (b' : Option Nat)
    (hos : w'.os = w.os) (htape : w'.tape = w.tape) (hout : w'.output = w.output) (hsz : w.heap.size ≤ w'.heap.size)
    (hsame : ∀ b, b < w.heap.size → w'.heap[b]? = w.heap[b]?) (hb : ∀ b, b' = some b → w.heap.size ≤ b ∧ b < w'.heap.size) :
    Turns B ρ (ρ.set y b') w w' (fun _ => False) (fun z => z = y) :=
  ⟨hos, htape, hout, hsz, fun b hb _ => hsame b hb, fun z hz => by simp [Names.set, hz], fun z b hz hzb => by
    subst hz
    simp only [Names.set, if_true] at hzb
    exact ⟨.inr (hb b hzb).1, (hb b hzb).2⟩, fun z z' b hz hz' _ _ => hz.trans hz'.symm⟩
theorem cuts_names (y : Nat) : Cuts (S.names y) (fun _ => False) (fun z => z = y) := ⟨fun _ _ hf => hf.elim, fun s x hx hs => by subst hx; exact hs⟩
theorem Rel.grow {B : Base} {ρ : Names} {st : St} {a : Act} {w w' : World} (h : Rel B ρ st a w) (y : Nat) (b' : Option Nat)
    (tn : Turns B ρ (ρ.set y b') w w' (fun _ => False) (fun z => z = y)) : Rel B (ρ.set y b') (st.kill y) a w' := by
  refine h.turn tn (cuts_names y) _ (fun x cs hx => .inl ?_)
  rw [mget_cut, mget_drop] at hx
  split at hx
  · simp at hx
  · rename_i hxy
    simp only [Option.map_eq_some_iff] at hx
    obtain ⟨cs0, h0, rfl⟩ := hx
    exact ⟨fun e => hxy e.symm, fun hf => hf.elim, cs0, h0, rfl⟩

/-- Draws alone, or new blocks that nobody names. -/
theorem Rel.past {B : Base} {ρ : Names} {st : St} {a : Act} {w w' : World} (h : Rel B ρ st a w)
    (hos : w'.os = w.os) (htape : w'.tape = w.tape) (hout : w'.output = w.output) (hsz : w.heap.size ≤ w'.heap.size)
    (hsame : ∀ b, b < w.heap.size → w'.heap[b]? = w.heap[b]?) : Rel B ρ st a w' := by
  have k : Kept ρ ρ w w' (fun _ => True) (fun _ => True) := ⟨fun b hb _ => hsame b hb, fun b hb => .inl hb, fun x b _ hb => hb, fun x b _ hb => hsame b (h.lt x b hb)⟩
  refine ⟨h.len, fun t v ht => (h.tmps t v ht).mono k _ _ (fun _ _ => trivial) (fun _ _ => trivial), fun x cs hx => ?_, h.inj, fun x b hx => Nat.lt_of_lt_of_le (h.lt x b hx) hsz,
    fun i b hi => ⟨(h.args i b hi).1, Nat.lt_of_lt_of_le (h.args i b hi).2 hsz⟩, h.new,
    ⟨hos.trans h.keeps.os, htape.trans h.keeps.tape, hout.trans h.keeps.output, Nat.le_trans h.keeps.size hsz, fun b hb hW => (hsame b (Nat.lt_of_lt_of_le hb h.keeps.size)).trans (h.keeps.block b hb hW)⟩, h.defers⟩
  obtain ⟨b, arr, ty, hb, hh, hl, hc⟩ := h.mem x cs hx
  exact ⟨b, arr, ty, hb, (hsame b (h.lt x b hb)).trans hh, hl, fun j s hs => by
    obtain ⟨c, h1, h2⟩ := hc j s hs
    exact ⟨c, h1, h2.mono k (fun _ _ => trivial) (fun _ _ => trivial)⟩⟩
theorem Rel.drew {B : Base} {ρ : Names} {st : St} {a : Act} {w : World} (h : Rel B ρ st a w) : Rel B ρ st a w.drew :=
  h.past rfl rfl rfl (Nat.le_refl _) fun _ _ => rfl

/-- A constant as a temporary's value. -/
def S.ofValue : Value → S
  | .bool b => .bool b
  | .int k n => .int k n
  | .string s => .str s
  | .slice none 0 0 => .sl .zero 0 []
  | .pointer none => .nilp
  | _ => .un
def S.scalar : Value → Bool
  | .agg _ | .tuple _ => false
  | _ => true
def T.ofValue : Value → T
  | .agg cs => if cs.all S.scalar then .agg (cs.toList.map S.ofValue) else .un
  | .tuple _ => .un
  | v => .one (S.ofValue v)
theorem RepS.ofValue {B : Base} {ρ : Names} {w : World} {v : Value} (h : S.scalar v = true) : RepS B ρ w (S.ofValue v) v := by
  unfold S.ofValue
  split
  · rfl
  · rfl
  · rfl
  · exact ⟨none, 0, rfl, Nat.le_refl _, fun i e he => by simp at he, rfl, rfl⟩
  · rfl
  · show Pl _ _ _ _
    cases v <;> first | rfl | (simp [S.scalar] at h)
theorem RepT.ofValue {B : Base} {ρ : Names} {w : World} (v : Value) : RepT B ρ w (T.ofValue v) v := by
  unfold T.ofValue
  split
  · split
    · rename_i cs hall
      refine ⟨cs, rfl, by simp, fun j s hs => ?_⟩
      simp only [List.getElem?_map, Option.map_eq_some_iff, Array.getElem?_toList] at hs
      obtain ⟨c, hc, rfl⟩ := hs
      exact ⟨c, hc, RepS.ofValue ((Array.all_eq_true_iff_forall_mem.1 hall) c (Array.mem_of_getElem? hc))⟩
    · trivial
  · trivial
  · rename_i h1 h2
    exact RepS.ofValue (by cases v <;> first | rfl | (exact absurd rfl (h1 _)) | (exact absurd rfl (h2 _)))

def St.eval (st : St) : Operand → T
  | .tmp t => st.tmps.getD t .un
  | .const v => T.ofValue v
  | _ => .un
theorem Rel.eval {B : Base} {ρ : Names} {st : St} {a : Act} {w : World} (h : Rel B ρ st a w) (x : Operand) : RepT B ρ w (st.eval x) (a.eval x) := by
  cases x with
  | tmp t =>
    simp only [St.eval, Act.eval, List.getD_eq_getElem?_getD]
    cases ht : st.tmps[t]? with
    | none => trivial
    | some v => exact h.tmps t v ht
  | const v => exact RepT.ofValue v
  | global g => trivial
  | func f => trivial
end Go.PS
