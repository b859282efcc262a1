/- What the operations that only read compute, on the state alone; and that the model's operations come to just this. -/
import Derived.Test.YtngjhimhmpbofaaPs2
import Derived.Laws.StructEq
import Derived.ChangeKeysEq
import Derived.Laws.Cells
set_option linter.unusedVariables false
set_option linter.unusedSimpArgs false
namespace Go.PS
open Go

/-! ### Types -/
inductive TD where
  | bool | str | ptr | other
  | int (k : IntKind)
  | slice (e size bytes : Nat)
  | arr (n e size : Nat)
  | struct (fs : List (Nat × Nat × Bool))
  deriving Inhabited

def isAggT (P : Program) (t : TypeId) : Bool :=
  match P.underlying t with
  | some (.struct _) | some (.array _ _) => true
  | _ => false
/-- Whether a type is a struct or an array, and its size. -/
def tz (P : Program) (t : TypeId) : Option (Bool × Nat) :=
  match P.underlying t, P.info? t with
  | some _, some i => some (isAggT P t, i.size)
  | _, _ => none
/-- A field's place, size, and whether it is a struct or an array. -/
def fieldT (P : Program) (f : Field) : Option (Nat × Nat × Bool) := (tz P f.type).map fun i => (f.offset, i.2, i.1)
/-- A type, as the operations need it. -/
def td (P : Program) (t : TypeId) : TD :=
  match P.underlying t with
  | some .bool => .bool
  | some (.int k) => .int k
  | some .string => .str
  | some (.pointer _) => .ptr
  | some (.slice e) => match P.info? e with
    | some i => .slice e i.size i.bytes
    | none => .other
  | some (.array n e) => match P.info? e with
    | some i => .arr n e i.size
    | none => .other
  | some (.struct fs) => match fs.toList.mapM (fieldT P) with
    | some l => .struct l
    | none => .other
  | _ => .other
/-- The cells of a type's zero value. -/
def tzero (P : Program) (t : TypeId) : Option (List S) :=
  match (P.info? t).map (·.zero) with
  | some (some v) => if v.cells.all S.scalar then some (v.cells.toList.map S.ofValue) else none
  | _ => none

theorem td_int {P : Program} {t : TypeId} {k : IntKind} (h : td P t = .int k) : P.underlying t = some (.int k) := by
  unfold td at h
  split at h <;> first | (cases h; assumption) | cases h | (split at h <;> cases h)
theorem td_slice {P : Program} {t e z b : Nat} (h : td P t = .slice e z b) : P.underlying t = some (.slice e) ∧ ∃ i, P.info? e = some i ∧ i.size = z ∧ i.bytes = b := by
  unfold td at h
  split at h <;> first | cases h | skip
  · rename_i e' he
    split at h
    · rename_i i hi
      cases h
      exact ⟨he, i, hi, rfl, rfl⟩
    · cases h
  · split at h <;> cases h
  · split at h <;> cases h
theorem td_arr {P : Program} {t n e z : Nat} (h : td P t = .arr n e z) : P.underlying t = some (.array n e) ∧ ∃ i, P.info? e = some i ∧ i.size = z := by
  unfold td at h
  split at h <;> first | cases h | skip
  · split at h <;> cases h
  · rename_i n' e' he
    split at h
    · rename_i i hi
      cases h
      exact ⟨he, i, hi, rfl⟩
    · cases h
  · split at h <;> cases h
theorem mapM_at {α β : Type} (f : α → Option β) : ∀ (l : List α) (r : List β), l.mapM f = some r → ∀ (i : Nat) (y : β), (r[i]? : Option β) = some y → ∃ x : α, (l[i]? : Option α) = some x ∧ f x = some y
  | [], r, h, i, y, hy => by simp at h; subst h; simp at hy
  | x :: l, r, h, i, y, hy => by
    simp only [List.mapM_cons, Option.bind_eq_bind, Option.bind_eq_some_iff, Option.pure_def, Option.some.injEq] at h
    obtain ⟨y0, hy0, r0, hr0, rfl⟩ := h
    cases i with
    | zero => simp at hy; subst hy; exact ⟨x, rfl, hy0⟩
    | succ i => simp at hy; simpa using mapM_at f l r0 hr0 i y hy
theorem td_struct {P : Program} {t : TypeId} {l : List (Nat × Nat × Bool)} (h : td P t = .struct l) :
    ∃ fs : Array Field, P.underlying t = some (.struct fs) ∧ ∀ (i : Nat) (y : Nat × Nat × Bool), l[i]? = some y → ∃ f : Field, fs[i]? = some f ∧ fieldT P f = some y := by
  unfold td at h
  split at h <;> first | cases h | skip
  · split at h <;> cases h
  · split at h <;> cases h
  · rename_i fs he
    split at h
    · rename_i l' hl
      cases h
      refine ⟨fs, he, fun i y hy => ?_⟩
      obtain ⟨x, hx, hf⟩ := mapM_at _ _ _ hl i y hy
      exact ⟨x, by simpa using hx, hf⟩
    · cases h

theorem run_isAgg (P : Program) (w : World) {t : TypeId} {ag : Bool} {z : Nat} (h : tz P t = some (ag, z)) : (isAgg t).run P w = .ok ag w ∧ (sizeOf t).run P w = .ok z w := by
  unfold tz at h
  split at h
  · rename_i d i hd hi
    simp only [Option.some.injEq, Prod.mk.injEq] at h
    obtain ⟨ha, hz⟩ := h
    refine ⟨?_, by simp [sizeOf, typeInfo, hi, hz]⟩
    subst ha
    simp only [isAgg, Sem.run_bind, run_underlying hd, Result.andThen_ok, isAggT, hd]
    cases d <;> rfl
  · cases h
theorem run_size (P : Program) (w : World) {t : TypeId} {i : TypeInfo} (h : P.info? t = some i) : (sizeOf t).run P w = .ok i.size w := by simp [sizeOf, typeInfo, h]
theorem fieldT_spec {P : Program} {f : Field} {off z : Nat} {ag : Bool} (h : fieldT P f = some (off, z, ag)) : f.offset = off ∧ tz P f.type = some (ag, z) := by
  simp only [fieldT, Option.map_eq_some_iff, Prod.mk.injEq] at h
  obtain ⟨⟨ag', z'⟩, hi, h1, h2, h3⟩ := h
  simp only at h2 h3
  subst h2; subst h3
  exact ⟨h1, hi⟩

/-! ### Cells in memory -/
theorem add_at (b o n : Nat) : (⟨b, o, none⟩ : Addr).add n = ⟨b, o + n, none⟩ := by unfold Addr.add; split <;> simp_all

/-- The cells that lie at a place, as a list of values. -/
def Vals (B : Base) (ρ : Names) (w : World) (a : Addr) (cs : List S) (vals : List Value) : Prop :=
  vals.length = cs.length ∧ (∀ (j : Nat) (v : Value), vals[j]? = some v → w.cell? (a.add j) = some v) ∧
    ∀ (j : Nat) (s : S), cs[j]? = some s → ∃ c, vals[j]? = some c ∧ RepS B ρ w s c
theorem Cells.vals {B : Base} {ρ : Names} {w : World} {g : Tag} {b o j : Nat} {cs : List S} (h : Cells B ρ w g (some ⟨b, o, none⟩) j cs) :
    ∃ vals, Vals B ρ w ⟨b, o + j, none⟩ cs vals := by
  refine ⟨(List.range cs.length).map fun i => (w.cell? ⟨b, o + (j + i), none⟩).getD undef, by simp, fun i v hv => ?_, fun i s hs => ?_⟩
  · have hi : i < cs.length := by have := (List.getElem?_eq_some_iff.1 hv).1; simpa using this
    have hv : (w.cell? ⟨b, o + (j + i), none⟩).getD undef = v := by simpa [List.getElem?_map, List.getElem?_range hi] using hv
    obtain ⟨b', o', c, ha, _, hc, _⟩ := h i cs[i] (List.getElem?_eq_getElem hi)
    simp only [Option.some.injEq, Addr.mk.injEq] at ha
    obtain ⟨rfl, rfl, _⟩ := ha
    rw [add_at, Nat.add_assoc, hc, ← hv, hc]; rfl
  · obtain ⟨b', o', c, ha, _, hc, hp⟩ := h i s hs
    simp only [Option.some.injEq, Addr.mk.injEq] at ha
    obtain ⟨rfl, rfl, _⟩ := ha
    have hi : i < cs.length := (List.getElem?_eq_some_iff.1 hs).1
    exact ⟨c, by simp [List.getElem?_map, List.getElem?_range hi, hc], RepS.of_pl hp⟩
theorem Cells.take {B : Base} {ρ : Names} {w : World} {g : Tag} {a : Option Addr} {j n : Nat} {cs : List S} (h : Cells B ρ w g a j cs) : Cells B ρ w g a j (cs.take n) := by
  intro i s hs
  rw [List.getElem?_take] at hs
  split at hs
  · exact h i s hs
  · cases hs
theorem Cells.drop {B : Base} {ρ : Names} {w : World} {g : Tag} {a : Option Addr} {j n : Nat} {cs : List S} (h : Cells B ρ w g a j cs) : Cells B ρ w g a (j + n) (cs.drop n) := by
  intro i s hs
  rw [List.getElem?_drop] at hs
  have := h (n + i) s hs
  rwa [← Nat.add_assoc] at this
theorem Cells.shift {B : Base} {ρ : Names} {w : World} {g : Tag} {b o j : Nat} {cs : List S} (h : Cells B ρ w g (some ⟨b, o, none⟩) j cs) (k : Nat) (hk : k ≤ j) :
    Cells B ρ w g (some ⟨b, o + k, none⟩) (j - k) cs := by
  intro i s hs
  obtain ⟨b', o', c, ha, hl, hc, hp⟩ := h i s hs
  simp only [Option.some.injEq, Addr.mk.injEq] at ha
  obtain ⟨rfl, rfl, _⟩ := ha
  exact ⟨b, o + k, c, rfl, hl, by rw [show o + k + (j - k + i) = o + (j + i) by omega]; exact hc, hp⟩
theorem BoxAt.vals {B : Base} {ρ : Names} {w : World} {x : Nat} {cs : List S} (h : BoxAt B ρ w x cs) :
    ∃ b vals, ρ x = some b ∧ Vals B ρ w ⟨b, 0, none⟩ cs vals := by
  obtain ⟨b, arr, ty, hb, hh, hl, hc⟩ := h
  refine ⟨b, arr.toList, hb, by simpa using hl, fun j v hv => ?_, fun j s hs => ?_⟩
  · rw [add_at, Nat.zero_add]; simpa [World.cell?, hh] using hv
  · obtain ⟨c, h1, h2⟩ := hc j s hs
    exact ⟨c, by simpa using h1, h2⟩
theorem Vals.take {B : Base} {ρ : Names} {w : World} {a : Addr} {cs : List S} {vals : List Value} (h : Vals B ρ w a cs vals) (n : Nat) : Vals B ρ w a (cs.take n) (vals.take n) := by
  refine ⟨by simp [h.1], fun j v hv => ?_, fun j s hs => ?_⟩
  · rw [List.getElem?_take] at hv; split at hv <;> first | exact h.2.1 j v hv | cases hv
  · rw [List.getElem?_take] at hs
    split at hs
    · rename_i hj
      obtain ⟨c, h1, h2⟩ := h.2.2 j s hs
      exact ⟨c, by rw [List.getElem?_take, if_pos hj]; exact h1, h2⟩
    · cases hs
theorem Vals.drop {B : Base} {ρ : Names} {w : World} {b o : Nat} {cs : List S} {vals : List Value} (h : Vals B ρ w ⟨b, o, none⟩ cs vals) (n : Nat) : Vals B ρ w ⟨b, o + n, none⟩ (cs.drop n) (vals.drop n) := by
  refine ⟨by simp [h.1], fun j v hv => ?_, fun j s hs => ?_⟩
  · rw [List.getElem?_drop] at hv
    have := h.2.1 (n + j) v hv
    rw [add_at] at this ⊢
    rwa [Nat.add_assoc]
  · rw [List.getElem?_drop] at hs
    obtain ⟨c, h1, h2⟩ := h.2.2 (n + j) s hs
    exact ⟨c, by rw [List.getElem?_drop]; exact h1, h2⟩
/-- What is loaded there. -/
def loadT (ag : Bool) (cs : List S) : T := if ag then .agg cs else .one (cs.headD .un)
theorem Vals.load {B : Base} {ρ : Names} {w : World} {a : Addr} {cs : List S} {vals : List Value} (h : Vals B ρ w a cs vals) (P : Program) {t : TypeId} {ag : Bool} {z : Nat}
    (ht : tz P t = some (ag, z)) (hz : cs.length = z) (h1 : ag = true ∨ z = 1) : ∃ val, (loadVar t a).run P w = .ok val w ∧ RepT B ρ w (loadT ag cs) val := by
  obtain ⟨hag, hsz⟩ := run_isAgg P w ht
  cases ag with
  | true =>
    have hl := run_loadCells_list (P := P) w a vals h.2.1
    rw [h.1, hz] at hl
    refine ⟨.agg vals.toArray, by simp [loadVar, hag, hsz, hl], vals.toArray, rfl, by simp [h.1], fun j s hs => ?_⟩
    obtain ⟨c, h1, h2⟩ := h.2.2 j s hs
    exact ⟨c, by simpa using h1, h2⟩
  | false =>
    have hz1 : z = 1 := h1.resolve_left (by simp)
    subst hz1
    match cs, hz with
    | [s], _ =>
      obtain ⟨c, hc1, hc2⟩ := h.2.2 0 s rfl
      have := h.2.1 0 c hc1
      rw [Addr.add_zero'] at this
      exact ⟨c, by simp [loadVar, hag, this], by simpa [loadT, RepT] using hc2⟩

/-! ### Integers, bools, comparisons -/
def bitsI (op : BinOp) (k : IntKind) (x y : Int) : Int :=
  match op with
  | .and => k.wrap (BitVec.ofInt k.bits x &&& BitVec.ofInt k.bits y).toNat
  | .or => k.wrap (BitVec.ofInt k.bits x ||| BitVec.ofInt k.bits y).toNat
  | .xor => k.wrap (BitVec.ofInt k.bits x ^^^ BitVec.ofInt k.bits y).toNat
  | _ => k.wrap (BitVec.ofInt k.bits x &&& ~~~BitVec.ofInt k.bits y).toNat
def binI (op : BinOp) (k : IntKind) (x y : Int) : Prop × S :=
  match op with
  | .add => (True, .int k (k.wrap (x + y)))
  | .sub => (True, .int k (k.wrap (x - y)))
  | .mul => (True, .int k (k.wrap (x * y)))
  | .quo => (y ≠ 0, .int k (k.wrap (x.tdiv y)))
  | .rem => (y ≠ 0, .int k (x.tmod y))
  | .and => (True, .int k (bitsI .and k x y))
  | .or => (True, .int k (bitsI .or k x y))
  | .xor => (True, .int k (bitsI .xor k x y))
  | .andNot => (True, .int k (bitsI .andNot k x y))
  | .shl => (0 ≤ y, .int k (k.wrap (x * 2 ^ (min y.toNat k.bits))))
  | .shr => (0 ≤ y, .int k (x.fdiv (2 ^ (min y.toNat k.bits))))
  | .eql => (True, .bool (x == y))
  | .neq => (True, .bool (x != y))
  | .lss => (True, .bool (decide (x < y)))
  | .leq => (True, .bool (decide (x ≤ y)))
  | .gtr => (True, .bool (decide (x > y)))
  | .geq => (True, .bool (decide (x ≥ y)))
theorem binI_run (P : Program) (w : World) (op : BinOp) (t : TypeId) (k k' : IntKind) (x y : Int) (hk : k = k' ∨ op = .shl ∨ op = .shr) (h : (binI op k x y).1)
    {B : Base} {ρ : Names} : ∃ val, (binOp op t (.int k x) (.int k' y)).run P w = .ok val w ∧ RepS B ρ w (binI op k x y).2 val := by
  cases op with
  | shl => have h' : ¬ y < 0 := by simp only [binI] at h; omega
           exact ⟨_, by simp [binOp, Op.shift, h'], rfl⟩
  | shr => have h' : ¬ y < 0 := by simp only [binI] at h; omega
           exact ⟨_, by simp [binOp, Op.shift, h'], rfl⟩
  | quo => obtain rfl : k = k' := by simpa using hk
           have h' : ¬ y = 0 := h
           exact ⟨_, by simp [binOp, Op.intDiv, h'], rfl⟩
  | rem => obtain rfl : k = k' := by simpa using hk
           have h' : ¬ y = 0 := h
           exact ⟨_, by simp [binOp, Op.intDiv, h'], rfl⟩
  | add =>
    obtain rfl : k = k' := by simpa using hk
    exact ⟨.int k (k.wrap (x + y)), by simp [binOp, Op.intArith], rfl⟩
  | sub =>
    obtain rfl : k = k' := by simpa using hk
    exact ⟨.int k (k.wrap (x - y)), by simp [binOp, Op.intArith], rfl⟩
  | mul =>
    obtain rfl : k = k' := by simpa using hk
    exact ⟨.int k (k.wrap (x * y)), by simp [binOp, Op.intArith], rfl⟩
  | and =>
    obtain rfl : k = k' := by simpa using hk
    exact ⟨.int k (bitsI .and k x y), by simp only [binOp, ne_eq, not_true_eq_false, if_false, Op.intBits]; rfl, rfl⟩
  | or =>
    obtain rfl : k = k' := by simpa using hk
    exact ⟨.int k (bitsI .or k x y), by simp only [binOp, ne_eq, not_true_eq_false, if_false, Op.intBits]; rfl, rfl⟩
  | xor =>
    obtain rfl : k = k' := by simpa using hk
    exact ⟨.int k (bitsI .xor k x y), by simp only [binOp, ne_eq, not_true_eq_false, if_false, Op.intBits]; rfl, rfl⟩
  | andNot =>
    obtain rfl : k = k' := by simpa using hk
    exact ⟨.int k (bitsI .andNot k x y), by simp only [binOp, ne_eq, not_true_eq_false, if_false, Op.intBits]; rfl, rfl⟩
  | eql =>
    obtain rfl : k = k' := by simpa using hk
    exact ⟨.bool (x == y), by simp only [binOp, ne_eq, not_true_eq_false, if_false, Op.intCmp]; rfl, rfl⟩
  | neq =>
    obtain rfl : k = k' := by simpa using hk
    exact ⟨.bool (x != y), by simp only [binOp, ne_eq, not_true_eq_false, if_false, Op.intCmp]; rfl, rfl⟩
  | lss =>
    obtain rfl : k = k' := by simpa using hk
    exact ⟨.bool (decide (x < y)), by simp only [binOp, ne_eq, not_true_eq_false, if_false, Op.intCmp]; rfl, rfl⟩
  | leq =>
    obtain rfl : k = k' := by simpa using hk
    exact ⟨.bool (decide (x ≤ y)), by simp only [binOp, ne_eq, not_true_eq_false, if_false, Op.intCmp]; rfl, rfl⟩
  | gtr =>
    obtain rfl : k = k' := by simpa using hk
    exact ⟨.bool (decide (x > y)), by simp only [binOp, ne_eq, not_true_eq_false, if_false, Op.intCmp]; rfl, rfl⟩
  | geq =>
    obtain rfl : k = k' := by simpa using hk
    exact ⟨.bool (decide (x ≥ y)), by simp only [binOp, ne_eq, not_true_eq_false, if_false, Op.intCmp]; rfl, rfl⟩

/-! ### Equality of structs and arrays of numbers, bools and strings -/
inductive LK where
  | int | bool | str
  deriving DecidableEq, Inhabited
/-- The cells of a type that holds only whole numbers, bools and strings. -/
def flat (P : Program) : Nat → TypeId → Option (List LK)
  | 0, _ => none
  | d + 1, t =>
    match P.underlying t with
    | some (.int _) => some [.int]
    | some .bool => some [.bool]
    | some .string => some [.str]
    | some (.array n e) => match flat P d e, P.info? e with
      | some l, some i => if i.size = l.length then some (List.replicate n l).flatten else none
      | _, _ => none
    | some (.struct fs) => if P.stoodInHeld t then none else flatFs (fs.toList.map fun f => (f, flat P d f.type)) []
    | _ => none
where
  flatFs : List (Field × Option (List LK)) → List LK → Option (List LK)
    | [], acc => some acc
    | (f, some l) :: r, acc => if f.name ≠ "_" ∧ f.offset = acc.length ∧ (P.info? f.type).map (·.size) = some l.length then flatFs r (acc ++ l) else none
    | _, _ => none
def flatEq (P : Program) (t : TypeId) : Option (List LK) := if P.eqGuardType P.depth t || !isAggT P t then none else flat P 50 t

def leafEq : LK → S → S → Option Bool
  | .int, .int k a, .int k' b => if k = k' then some (a == b) else none
  | .bool, .bool a, .bool b => some (a == b)
  | .str, .str a, .str b => some (a.toList == b.toList)
  | _, _, _ => none
def eqL : List LK → List S → List S → Option Bool
  | [], [], [] => some true
  | k :: ks, x :: xs, y :: ys =>
    match leafEq k x y, eqL ks xs ys with
    | some a, some b => some (a && b)
    | _, _ => none
  | _, _, _ => none

theorem eqL_append : ∀ (l1 : List LK) (l2 : List LK) (xs ys : List S) (r : Bool), eqL (l1 ++ l2) xs ys = some r →
    ∃ r1 r2, eqL l1 (xs.take l1.length) (ys.take l1.length) = some r1 ∧ eqL l2 (xs.drop l1.length) (ys.drop l1.length) = some r2 ∧ r = (r1 && r2)
  | [], l2, xs, ys, r, h => ⟨true, r, by simp [eqL], by simpa using h, by simp⟩
  | k :: l1, l2, xs, ys, r, h => by
    cases xs with
    | nil => simp [eqL] at h
    | cons x xs =>
      cases ys with
      | nil => simp [eqL] at h
      | cons y ys =>
        simp only [List.cons_append, eqL] at h
        cases h1 : leafEq k x y with
        | none => simp [h1] at h
        | some a =>
          cases h2 : eqL (l1 ++ l2) xs ys with
          | none => simp [h1, h2] at h
          | some b =>
            simp [h1, h2] at h
            obtain ⟨r1, r2, e1, e2, e3⟩ := eqL_append l1 l2 xs ys b h2
            exact ⟨a && r1, r2, by simp [eqL, h1, e1], by simpa using e2, by rw [← h, e3, Bool.and_assoc]⟩
theorem eqL_length : ∀ (l : List LK) (xs ys : List S) (r : Bool), eqL l xs ys = some r → xs.length = l.length ∧ ys.length = l.length
  | [], [], [], _, _ => ⟨rfl, rfl⟩
  | k :: l, x :: xs, y :: ys, r, h => by
    simp only [eqL] at h
    cases h2 : eqL l xs ys with
    | none => simp [h2] at h
    | some b => have := eqL_length l xs ys b h2; simp [this]
  | [], [], _ :: _, _, h => by simp [eqL] at h
  | [], _ :: _, _, _, h => by simp [eqL] at h
  | _ :: _, [], _, _, h => by simp [eqL] at h
  | _ :: _, _ :: _, [], _, h => by simp [eqL] at h

def packV (P : Program) (t : TypeId) (vs : List Value) : Value := if isAggT P t then .agg vs.toArray else vs.headD undef
theorem isAgg_info {P : Program} (w : World) {t : TypeId} {d : TypeDesc} (h : P.underlying t = some d) : (isAgg t).run P w = .ok (isAggT P t) w := by
  simp only [isAgg, Sem.run_bind, run_underlying h, Result.andThen_ok, isAggT, h]
  cases d <;> rfl
theorem run_part_pack (P : Program) (w : World) {t : TypeId} {i : TypeInfo} {d : TypeDesc} (hd : P.underlying t = some d) (hi : P.info? t = some i) (xs : Array Value) (off : Nat)
    (hz : off + i.size ≤ xs.size) (h1 : isAggT P t = true ∨ i.size = 1) : (part t xs off).run P w = .ok (packV P t ((xs.toList.drop off).take i.size)) w := by
  simp only [part, Sem.run_bind, isAgg_info w hd, Result.andThen_ok, packV]
  cases ha : isAggT P t with
  | true =>
    simp only [if_true, Sem.run_bind, run_size P w hi, Result.andThen_ok, Sem.run_pure]
    congr 2
    apply Array.ext'
    simp [List.extract]
  | false =>
    have h1 : i.size = 1 := h1.resolve_left (by simp [ha])
    have hlt : off < xs.size := by omega
    simp only [Bool.false_eq_true, if_false, Array.getElem?_eq_getElem hlt, Sem.run_pure, h1]
    congr 1
    have : off < xs.toList.length := by simpa using hlt
    rw [List.drop_eq_getElem_cons this]
    simp

def RepL (B : Base) (ρ : Names) (w : World) (cs : List S) (vals : List Value) : Prop :=
  ∀ (j : Nat) (s : S), cs[j]? = some s → ∃ c, vals[j]? = some c ∧ RepS B ρ w s c
theorem RepL.take {B : Base} {ρ : Names} {w : World} {cs : List S} {vals : List Value} (h : RepL B ρ w cs vals) (n : Nat) : RepL B ρ w (cs.take n) (vals.take n) := by
  intro j s hs
  rw [List.getElem?_take] at hs
  split at hs
  · rename_i hj
    obtain ⟨c, h1, h2⟩ := h j s hs
    exact ⟨c, by rw [List.getElem?_take, if_pos hj]; exact h1, h2⟩
  · cases hs
theorem RepL.drop {B : Base} {ρ : Names} {w : World} {cs : List S} {vals : List Value} (h : RepL B ρ w cs vals) (n : Nat) : RepL B ρ w (cs.drop n) (vals.drop n) := by
  intro j s hs
  rw [List.getElem?_drop] at hs
  obtain ⟨c, h1, h2⟩ := h (n + j) s hs
  exact ⟨c, by rw [List.getElem?_drop]; exact h1, h2⟩

/-- A part of a row of cells. -/
theorem gives_part (P : Program) {B : Base} {ρ : Names} {w : World} {t : TypeId} {ag : Bool} {z off : Nat} (ht : tz P t = some (ag, z)) {xs : Array Value} {cs : List S}
    (hx : RepL B ρ w cs xs.toList) (hl : xs.size = cs.length) (hz : off + z ≤ cs.length) (h1 : ag = true ∨ z = 1) :
    ∃ val, (part t xs off).run P w = .ok val w ∧ RepT B ρ w (loadT ag ((cs.drop off).take z)) val := by
  obtain ⟨hag, hsz⟩ := run_isAgg P w ht
  cases ag with
  | true =>
    refine ⟨.agg (xs.extract off (off + z)), by simp [part, hag, hsz], _, rfl, by simp; omega, fun j s hs => ?_⟩
    obtain ⟨c, h1, h2⟩ := ((hx.drop off).take z) j s hs
    refine ⟨c, ?_, h2⟩
    rw [← Array.getElem?_toList, Array.toList_extract]
    simpa [List.extract] using h1
  | false =>
    have h1 : z = 1 := h1.resolve_left (by simp)
    subst h1
    have hlt : off < cs.length := by omega
    obtain ⟨c, h1, h2⟩ := hx off cs[off] (List.getElem?_eq_getElem hlt)
    refine ⟨c, by simp only [part, Sem.run_bind, hag, Result.andThen_ok, Bool.false_eq_true, if_false]; rw [← Array.getElem?_toList, h1]; rfl, ?_⟩
    show RepS B ρ w (((cs.drop off).take 1).headD .un) c
    rw [List.drop_eq_getElem_cons hlt]
    exact h2

theorem flat_info {P : Program} {d : Nat} {t : TypeId} {ls : List LK} (h : flat P d t = some ls) : (∃ dd, P.underlying t = some dd) ∧ (isAggT P t = true ∨ ls.length = 1) := by
  cases d with
  | zero => simp [flat] at h
  | succ d =>
    simp only [flat] at h
    split at h <;> (try cases h) <;> (rename_i hu; refine ⟨⟨_, hu⟩, ?_⟩; simp [isAggT, hu])

theorem eqLeaf {P : Program} (w : World) {B : Base} {ρ : Names} {k : LK} {t : TypeId} {x y : S} {vx vy : Value} {r : Bool} (D : Nat)
    (ht : match k with | .int => ∃ q, P.underlying t = some (.int q) | .bool => P.underlying t = some .bool | .str => P.underlying t = some .string)
    (hx : RepS B ρ w x vx) (hy : RepS B ρ w y vy) (h : leafEq k x y = some r) : (Op.equalIn (D + 1) t vx vy).run P w = .ok r w := by
  cases k <;> cases x <;> cases y <;> simp only [leafEq] at h <;> (try cases h)
  · obtain ⟨q, hq⟩ := ht
    split at h
    · rename_i k a k' b hk
      subst hk
      cases h; cases hx; cases hy
      exact run_equalIn_int w D t k q a b hq
    · cases h
  · cases hx; cases hy; exact run_equalIn_bool' w D t _ _ ht
  · cases hx; cases hy; exact run_equalIn_string w D t _ _ ht

theorem eqFlat (P : Program) (w : World) {B : Base} {ρ : Names} : ∀ (d : Nat) (t : TypeId) (ls : List LK), flat P d t = some ls → ∀ D, d ≤ D → ∀ (vx vy : List Value) (sx sy : List S) (r : Bool),
    vx.length = ls.length → vy.length = ls.length → RepL B ρ w sx vx → RepL B ρ w sy vy → eqL ls sx sy = some r →
    (Op.equalIn D t (packV P t vx) (packV P t vy)).run P w = .ok r w := by
  intro d
  induction d with
  | zero => intro t ls h; simp [flat] at h
  | succ d ih =>
    intro t ls h D hD vx vy sx sy r lx ly hx hy he
    obtain ⟨D, rfl⟩ : ∃ D', D = D' + 1 := ⟨D - 1, by omega⟩
    have hD' : d ≤ D := by omega
    -- the part of a row at a place, compared
    have step : ∀ (f : TypeId) (l : List LK) (i : TypeInfo) (off : Nat) (ax ay : List S) (rr : Bool), flat P d f = some l → P.info? f = some i → i.size = l.length →
        off + l.length ≤ vx.length → off + l.length ≤ vy.length → ax = (sx.drop off).take l.length → ay = (sy.drop off).take l.length → eqL l ax ay = some rr →
        ∃ a b, (part f vx.toArray off).run P w = .ok a w ∧ (part f vy.toArray off).run P w = .ok b w ∧ (Op.equalIn D f a b).run P w = .ok rr w := by
      intro f l i off ax ay rr hf hi hz h1 h2 hax hay hq
      obtain ⟨⟨dd, hdd⟩, hone⟩ := flat_info hf
      refine ⟨_, _, run_part_pack P w hdd hi vx.toArray off (by simpa [hz] using h1) (by simpa [hz] using hone), run_part_pack P w hdd hi vy.toArray off (by simpa [hz] using h2) (by simpa [hz] using hone), ?_⟩
      rw [hz]
      refine ih f l hf D hD' _ _ ax ay rr (by simp; omega) (by simp; omega) ?_ ?_ hq
      · rw [hax]; exact (hx.drop off).take _
      · rw [hay]; exact (hy.drop off).take _
    simp only [flat] at h
    split at h
    · rename_i q hu
      cases h
      match vx, vy, sx, sy, lx, ly, eqL_length _ _ _ _ he with
      | [a], [b], [x], [y], _, _, _ =>
        obtain ⟨_, h1, h2⟩ := hx 0 x rfl
        obtain ⟨_, h3, h4⟩ := hy 0 y rfl
        simp only [List.getElem?_cons_zero, Option.some.injEq] at h1 h3
        subst h1; subst h3
        have : leafEq .int x y = some r := by
          simp only [eqL] at he
          cases hl : leafEq .int x y <;> simp [hl] at he
          rw [he]
        simpa [packV, isAggT, hu] using eqLeaf (k := .int) w D ⟨q, hu⟩ h2 h4 this
    · rename_i hu
      cases h
      match vx, vy, sx, sy, lx, ly, eqL_length _ _ _ _ he with
      | [a], [b], [x], [y], _, _, _ =>
        obtain ⟨_, h1, h2⟩ := hx 0 x rfl
        obtain ⟨_, h3, h4⟩ := hy 0 y rfl
        simp only [List.getElem?_cons_zero, Option.some.injEq] at h1 h3
        subst h1; subst h3
        have : leafEq .bool x y = some r := by
          simp only [eqL] at he
          cases hl : leafEq .bool x y <;> simp [hl] at he
          rw [he]
        simpa [packV, isAggT, hu] using eqLeaf (k := .bool) w D hu h2 h4 this
    · rename_i hu
      cases h
      match vx, vy, sx, sy, lx, ly, eqL_length _ _ _ _ he with
      | [a], [b], [x], [y], _, _, _ =>
        obtain ⟨_, h1, h2⟩ := hx 0 x rfl
        obtain ⟨_, h3, h4⟩ := hy 0 y rfl
        simp only [List.getElem?_cons_zero, Option.some.injEq] at h1 h3
        subst h1; subst h3
        have : leafEq .str x y = some r := by
          simp only [eqL] at he
          cases hl : leafEq .str x y <;> simp [hl] at he
          rw [he]
        simpa [packV, isAggT, hu] using eqLeaf (k := .str) w D hu h2 h4 this
    · rename_i n e hu
      split at h
      · rename_i l i hf hi
        split at h
        · rename_i hz
          cases h
          have hagg : isAggT P t = true := by simp [isAggT, hu]
          simp only [packV, hagg, if_true]
          rw [run_equalIn_array w D _ _ hu hi]
          have hc : P.cellsOf e = l.length := by simp [Program.cellsOf, hi, hz]
          rw [hc]
          -- from item k on
          have go : ∀ (m k : Nat) (r : Bool), k + m = n → eqL (List.replicate m l).flatten (sx.drop (k * l.length)) (sy.drop (k * l.length)) = some r →
              (Op.eqItems D e l.length vx.toArray vy.toArray (List.range' k m)).run P w = .ok r w := by
            intro m
            induction m with
            | zero => intro k r hk hq
                      simp only [List.replicate_zero, List.flatten_nil, List.range'_zero, Op.eqItems] at hq ⊢
                      have := eqL_length _ _ _ _ hq
                      have h1 := List.eq_nil_of_length_eq_zero this.1
                      have h2 := List.eq_nil_of_length_eq_zero this.2
                      rw [h1, h2] at hq
                      simp [eqL] at hq
                      simp [hq]
            | succ m ihm =>
              intro k r hk hq
              rw [List.replicate_succ, List.flatten_cons] at hq
              obtain ⟨r1, r2, e1, e2, e3⟩ := eqL_append _ _ _ _ _ hq
              have hbound : k * l.length + l.length ≤ n * l.length := by
                have : (k + 1) * l.length ≤ n * l.length := Nat.mul_le_mul_right _ (by omega)
                rwa [Nat.succ_mul] at this
              have hlen : (List.replicate n l).flatten.length = n * l.length := by simp
              obtain ⟨a, b, p1, p2, p3⟩ := step e l i (k * l.length) _ _ r1 hf hi hz (by omega) (by omega) rfl rfl e1
              simp only [List.range'_succ, Op.eqItems, Sem.run_bind, p1, p2, p3, Result.andThen_ok]
              cases r1 with
              | false => simp [e3]
              | true =>
                simp only [Bool.not_true, Bool.false_eq_true, if_false]
                rw [e3, Bool.true_and]
                refine ihm (k + 1) r2 (by omega) ?_
                simpa [List.drop_drop, Nat.succ_mul] using e2
          have := go n 0 r (by omega) (by simpa using he)
          simpa [List.range_eq_range'] using this
        · cases h
      · cases h
    · rename_i fs hu
      split at h
      · cases h
      · rename_i hst
        have hagg : isAggT P t = true := by simp [isAggT, hu]
        simp only [packV, hagg, if_true]
        have hfo : P.fieldsOf t = fs := by simp [Program.fieldsOf, hu]
        rw [run_equalIn_struct w D t _ _ (by rw [hfo]; exact hu) (by simpa using hst), hfo]
        have go : ∀ (fl : List Field) (acc ls : List LK) (r : Bool), flat.flatFs P (fl.map fun f => (f, flat P d f.type)) acc = some ls →
            ls.length ≤ vx.length → ls.length ≤ vy.length → ∃ tail, ls = acc ++ tail ∧
              (eqL tail (sx.drop acc.length) (sy.drop acc.length) = some r → (Op.eqFields D vx.toArray vy.toArray fl).run P w = .ok r w) := by
          intro fl
          induction fl with
          | nil => intro acc ls r hq _ _
                   simp [flat.flatFs] at hq
                   refine ⟨[], by simp [hq], fun hq => ?_⟩
                   have := eqL_length _ _ _ _ hq
                   have h1 := List.eq_nil_of_length_eq_zero this.1
                   have h2 := List.eq_nil_of_length_eq_zero this.2
                   rw [h1, h2] at hq
                   simp [eqL] at hq
                   simp [Op.eqFields, hq]
          | cons f fl ihf =>
            intro acc ls r hq h1 h2
            simp only [List.map_cons] at hq
            cases hf : flat P d f.type with
            | none => simp [hf, flat.flatFs] at hq
            | some l =>
              simp only [hf, flat.flatFs] at hq
              split at hq
              · rename_i hc
                obtain ⟨hn, ho, hsz⟩ := hc
                simp only [Option.map_eq_some_iff] at hsz
                obtain ⟨i, hi, hz⟩ := hsz
                obtain ⟨tail, rfl, _⟩ := ihf (acc ++ l) ls true hq h1 h2
                refine ⟨l ++ tail, by simp, fun hq2 => ?_⟩
                obtain ⟨r1, r2, e1, e2, e3⟩ := eqL_append _ _ _ _ _ hq2
                simp only [List.length_append] at h1 h2
                obtain ⟨a, b, p1, p2, p3⟩ := step f.type l i acc.length _ _ r1 hf hi hz (by omega) (by omega) rfl rfl e1
                simp only [Op.eqFields, if_pos hn, Sem.run_bind, ho, p1, p2, p3, Result.andThen_ok, Sem.run_ite, Sem.run_pure]
                cases r1 with
                | false => simp [e3]
                | true =>
                  simp only [Bool.not_true, Bool.false_eq_true, if_false]
                  rw [e3, Bool.true_and]
                  obtain ⟨tail', ht', hgo⟩ := ihf (acc ++ l) _ r2 hq (by simp; omega) (by simp; omega)
                  have : tail' = tail := by simpa using ht'.symm
                  subst this
                  exact hgo (by simpa [List.drop_drop] using e2)
              · cases hq
        obtain ⟨tail, ht, hgo⟩ := go fs.toList [] ls r h (by omega) (by omega)
        simp only [List.nil_append] at ht
        subst ht
        exact hgo (by simpa using he)
    · cases h
end Go.PS
