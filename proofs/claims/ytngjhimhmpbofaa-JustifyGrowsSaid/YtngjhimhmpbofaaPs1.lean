/- The pure state: values with symbolic contents that stand for Go values in memory, what it means that a value
   reads so in a world, and that this outlives what other code does to memory. -/
import Derived.Orders
import Derived.Below
import Derived.Tactics
import Derived.Laws.AppendOwn
set_option linter.unusedVariables false
set_option linter.unusedSimpArgs false
namespace Go.PS
open Go

/-- Where a slice's or a pointer's memory lies: shared memory that nobody writes; no memory at all (no capacity); a private row
  of elements of type e, to which it may append; a local variable, from cell o on; a private block, to be read; an argument's memory. -/
inductive Tag where
  | plain | zero
  | own (x e : Nat)
  | box (x o : Nat)
  | view (x : Nat)
  | arg (i : Nat)
  deriving DecidableEq, Inhabited

inductive S where
  | un
  | bool (b : Bool)
  | int (k : IntKind) (n : Int)
  | str (s : ByteArray)
  | sl (g : Tag) (z : Nat) (es : List (List S))
  | el (g : Tag) (cs : List S)
  | ptr (x o : Nat)
  | nilp
  /-- A function value, told by what it computes; the private blocks that it reads. -/
  | fn (xs : List Nat) (p : List Value → Option (Prop × Value))
  /-- A pointer to a cell with a function value. -/
  | fref (xs : List Nat) (p : List Value → Option (Prop × Value))
  /-- A function value that may write the private block y: what is known of it, at that block and in a world. -/
  | fm (xs : List Nat) (y : Nat) (C : Nat → World → Value → Prop)
  /-- A value of which this is known. -/
  | sem (C : Value → Prop)
  deriving Inhabited

def Tag.names (x : Nat) : Tag → Bool
  | .own y _ => x == y
  | .box y _ => x == y
  | .view y => x == y
  | _ => false
/-- The contents of block x are told in the value. -/
def S.reads (x : Nat) : S → Bool
  | .sl g _ _ => g.names x
  | .el g _ => g.names x
  | .fn xs _ => xs.contains x
  | .fref xs _ => xs.contains x
  | .fm xs _ _ => xs.contains x
  | _ => false
/-- Block x is told of in the value. -/
def S.names (x : Nat) : S → Bool
  | .sl g _ _ => g.names x
  | .el g _ => g.names x
  | .ptr y _ => x == y
  | .fn xs _ => xs.contains x
  | .fref xs _ => xs.contains x
  | .fm xs y _ => xs.contains x || x == y
  | _ => false

mutual
/-- A value of shared memory: all of its memory lies outside the private blocks Z. -/
def Pl (Z : Nat → Prop) (w : World) : S → Value → Prop
  | .un, v => v.oneCell' = true
  | .bool b, v => v = .bool b
  | .int k n, v => v = .int k n
  | .str s, v => v = .string s
  | .sl g z es, v => g = .plain ∧ ∃ a c, v = .slice a es.length c ∧ es.length ≤ c ∧ PlElems Z w z a 0 es
  | .el g cs, v => g = .plain ∧ ∃ b o, v = .pointer (some ⟨b, o, none⟩) ∧ PlCells Z w (some ⟨b, o, none⟩) 0 cs
  | .ptr _ _, _ => False
  | .nilp, v => v = .pointer none
  | .fn _ _, _ => False
  | .fref _ _, _ => False
  | .sem C, v => v.oneCell' = true ∧ C v
  | .fm _ _ _, _ => False
def PlCells (Z : Nat → Prop) (w : World) (a : Option Addr) (j : Nat) : List S → Prop
  | [] => True
  | s :: r => (∃ b o c, a = some ⟨b, o, none⟩ ∧ ¬ Z b ∧ w.cell? ⟨b, o + j, none⟩ = some c ∧ Pl Z w s c) ∧ PlCells Z w a (j + 1) r
def PlElems (Z : Nat → Prop) (w : World) (z : Nat) (a : Option Addr) (j : Nat) : List (List S) → Prop
  | [] => True
  | e :: r => e.length = z ∧ PlCells Z w a j e ∧ PlElems Z w z a (j + z) r
end

theorem cell_block {w w' : World} {b : Nat} (h : w'.heap[b]? = w.heap[b]?) (o : Nat) : w'.cell? ⟨b, o, none⟩ = w.cell? ⟨b, o, none⟩ := by
  simp only [World.cell?, h]
theorem cell_lt {w : World} {b o : Nat} {c : Value} (h : w.cell? ⟨b, o, none⟩ = some c) : b < w.heap.size := World.block_lt_of_cell? w _ h

mutual
theorem Pl.mono {Z Z' : Nat → Prop} {w w' : World} (h1 : ∀ b, b < w.heap.size → ¬ Z b → w'.heap[b]? = w.heap[b]?)
    (h2 : ∀ b, Z' b → Z b ∨ w.heap.size ≤ b) : ∀ (s : S) (v : Value), Pl Z w s v → Pl Z' w' s v
  | .un, _, h => h
  | .bool _, _, h => h
  | .int _ _, _, h => h
  | .str _, _, h => h
  | .sl _ z es, _, ⟨hg, a, c, hv, hc, h⟩ => ⟨hg, a, c, hv, hc, PlElems.mono h1 h2 es z a 0 h⟩
  | .el _ cs, _, ⟨hg, b, o, hv, h⟩ => ⟨hg, b, o, hv, PlCells.mono h1 h2 cs _ 0 h⟩
  | .nilp, _, h => h
  | .fn _ _, _, h => h
  | .fref _ _, _, h => h
  | .sem _, _, h => h
  | .fm _ _ _, _, h => h
theorem PlCells.mono {Z Z' : Nat → Prop} {w w' : World} (h1 : ∀ b, b < w.heap.size → ¬ Z b → w'.heap[b]? = w.heap[b]?)
    (h2 : ∀ b, Z' b → Z b ∨ w.heap.size ≤ b) : ∀ (cs : List S) (a : Option Addr) (j : Nat), PlCells Z w a j cs → PlCells Z' w' a j cs
  | [], _, _, _ => trivial
  | s :: r, a, j, ⟨⟨b, o, c, ha, hb, hc, hs⟩, hr⟩ =>
    ⟨⟨b, o, c, ha, fun hz => (h2 b hz).elim hb (fun hl => absurd (cell_lt hc) (by omega)), (cell_block (h1 b (cell_lt hc) hb) _).trans hc, Pl.mono h1 h2 s c hs⟩,
      PlCells.mono h1 h2 r a (j + 1) hr⟩
theorem PlElems.mono {Z Z' : Nat → Prop} {w w' : World} (h1 : ∀ b, b < w.heap.size → ¬ Z b → w'.heap[b]? = w.heap[b]?)
    (h2 : ∀ b, Z' b → Z b ∨ w.heap.size ≤ b) : ∀ (es : List (List S)) (z : Nat) (a : Option Addr) (j : Nat), PlElems Z w z a j es → PlElems Z' w' z a j es
  | [], _, _, _, _ => trivial
  | e :: r, z, a, j, ⟨hl, he, hr⟩ => ⟨hl, PlCells.mono h1 h2 e a j he, PlElems.mono h1 h2 r z a (j + z) hr⟩
end

theorem PlCells.at_ {Z : Nat → Prop} {w : World} : ∀ (cs : List S) (a : Option Addr) (j : Nat), PlCells Z w a j cs ↔
    ∀ i s, cs[i]? = some s → ∃ b o c, a = some ⟨b, o, none⟩ ∧ ¬ Z b ∧ w.cell? ⟨b, o + (j + i), none⟩ = some c ∧ Pl Z w s c
  | [], a, j => by simp [PlCells]
  | s :: r, a, j => by
    rw [PlCells, PlCells.at_ r a (j + 1)]
    constructor
    · rintro ⟨h0, h⟩ i s' hs
      cases i with
      | zero => simp only [List.getElem?_cons_zero, Option.some.injEq] at hs; subst hs; simpa using h0
      | succ i => simp only [List.getElem?_cons_succ] at hs; have := h i s' hs; rwa [show j + 1 + i = j + (i + 1) by omega] at this
    · intro h
      refine ⟨by simpa using h 0 s rfl, fun i s' hs => ?_⟩
      have := h (i + 1) s' (by simpa using hs)
      rwa [show j + (i + 1) = j + 1 + i by omega] at this
theorem PlElems.at_ {Z : Nat → Prop} {w : World} : ∀ (es : List (List S)) (z : Nat) (a : Option Addr) (j : Nat), PlElems Z w z a j es ↔
    ∀ i e, es[i]? = some e → e.length = z ∧ PlCells Z w a (j + i * z) e
  | [], z, a, j => by simp [PlElems]
  | e :: r, z, a, j => by
    rw [PlElems, PlElems.at_ r z a (j + z)]
    constructor
    · rintro ⟨h0, h1, h⟩ i e' he
      cases i with
      | zero => simp only [List.getElem?_cons_zero, Option.some.injEq] at he; subst he; simpa using ⟨h0, h1⟩
      | succ i =>
        simp only [List.getElem?_cons_succ] at he; have := h i e' he
        rwa [show j + z + i * z = j + (i + 1) * z by rw [Nat.succ_mul]; omega] at this
    · intro h
      have h0 := h 0 e rfl
      refine ⟨h0.1, by simpa using h0.2, fun i e' he => ?_⟩
      have := h (i + 1) e' (by simpa using he)
      rwa [show j + (i + 1) * z = j + z + i * z by rw [Nat.succ_mul]; omega] at this

/-- What does not change in a call: the world at its begin, the old blocks that it may write, the blocks of its arguments. -/
structure Base where
  P : Program
  w : World
  W : Nat → Prop
  α : Nat → Option Nat

abbrev Names := Nat → Option Nat
def Priv (ρ : Names) (b : Nat) : Prop := ∃ x, ρ x = some b
/-- The blocks that no shared memory reaches: the private ones, and those of the arguments. -/
def Zs (B : Base) (ρ : Names) (b : Nat) : Prop := Priv ρ b ∨ ∃ i, B.α i = some b

def Tag.lies (B : Base) (ρ : Names) : Tag → Nat → Prop
  | .plain, b => ¬ Zs B ρ b
  | .zero, _ => False
  | .own x _, b => ρ x = some b
  | .box x _, b => ρ x = some b
  | .view x, b => ρ x = some b
  | .arg i, b => B.α i = some b ∧ ¬ Priv ρ b

/-- The cells of a value that lies at an address, from its cell j on. -/
def Cells (B : Base) (ρ : Names) (w : World) (g : Tag) (a : Option Addr) (j : Nat) (cs : List S) : Prop :=
  ∀ i s, cs[i]? = some s → ∃ b o c, a = some ⟨b, o, none⟩ ∧ g.lies B ρ b ∧ w.cell? ⟨b, o + (j + i), none⟩ = some c ∧ Pl (Zs B ρ) w s c

/-- What an owner knows of its row. -/
def Room (ρ : Names) (w : World) (z : Nat) (a : Option Addr) (n c : Nat) : Tag → Prop
  | .own x e => (c = 0 ∧ n = 0) ∨ ((∃ vals, w.ownsRow 0 e z (.slice a n c) n vals) ∧ ∀ b, (Value.slice a n c).ownBlock = some b → ρ x = some b)
  | .box x o => ∃ b, ρ x = some b ∧ (n = 0 ∨ a = some ⟨b, o, none⟩)
  | .zero => c = 0 ∧ n = 0
  | _ => True

/-- Shared memory, and the named private blocks, are as they were. -/
def Ext (ρ : Names) (xs : List Nat) (w w' : World) : Prop :=
  ∀ b, b < w.heap.size → (¬ Priv ρ b ∨ ∃ x ∈ xs, ρ x = some b) → w'.heap[b]? = w.heap[b]?
/-- The value is a function that, here, computes so, and changes no memory. -/
def FnOK (P : Program) (p : List Value → Option (Prop × Value)) (w : World) (v : Value) : Prop :=
  ∀ (vals : List Value) (ob : Prop) (u : Value), p vals = some (ob, u) → ob → ∃ (f : Nat) (bound : Array Value), v = .func (.func f) #[] bound ∧
    (∀ vs w, (callFunc f vs).run P w = .ok (.enter f vs) w) ∧
    Calls P f (vals.toArray ++ bound) w fun e w' => e = .returned u ∧ w'.os = w.os ∧ w'.tape = w.tape ∧ w'.output = w.output ∧ w.heap.size ≤ w'.heap.size ∧ ∀ b, b < w.heap.size → w'.heap[b]? = w.heap[b]?
theorem Ext.mono {ρ ρ' : Names} {xs : List Nat} {w w' w'' : World} (h : Ext ρ' xs w' w'') (h1 : ∀ b, b < w.heap.size → ¬ Priv ρ b → w'.heap[b]? = w.heap[b]? ∧ ¬ Priv ρ' b)
    (h2 : ∀ x ∈ xs, ∀ b, b < w.heap.size → ρ x = some b → w'.heap[b]? = w.heap[b]? ∧ ρ' x = some b) : Ext ρ xs w w'' := by
  intro b hb hc
  have key : w'.heap[b]? = w.heap[b]? → (¬ Priv ρ' b ∨ ∃ x ∈ xs, ρ' x = some b) → w''.heap[b]? = w.heap[b]? := by
    intro e hc'
    have hlt : b < w'.heap.size := by
      rw [Array.getElem?_eq_getElem hb] at e
      exact (Array.getElem?_eq_some_iff.1 e).1
    exact (h b hlt hc').trans e
  rcases hc with hc | ⟨x, hx, hxb⟩
  · obtain ⟨e1, e2⟩ := h1 b hb hc
    exact key e1 (.inl e2)
  · obtain ⟨e1, e2⟩ := h2 x hx b hb hxb
    exact key e1 (.inr ⟨x, hx, e2⟩)

def RepS (B : Base) (ρ : Names) (w : World) : S → Value → Prop
  | .sl g z es, v => ∃ a c, v = .slice a es.length c ∧ es.length ≤ c ∧ (∀ i e, es[i]? = some e → e.length = z ∧ Cells B ρ w g a (i * z) e) ∧ Room ρ w z a es.length c g
  | .el g cs, v => ∃ b o, v = .pointer (some ⟨b, o, none⟩) ∧ Cells B ρ w g (some ⟨b, o, none⟩) 0 cs
  | .ptr x o, v => ∃ b, ρ x = some b ∧ v = .pointer (some ⟨b, o, none⟩)
  | .fn xs p, v => v.oneCell' = true ∧ ∀ w', Ext ρ xs w w' → FnOK B.P p w' v
  | .fref xs p, v => ∃ b fv, v = .pointer (some ⟨b, 0, none⟩) ∧ fv.oneCell' = true ∧ ∀ w', Ext ρ xs w w' → w'.cell? ⟨b, 0, none⟩ = some fv ∧ FnOK B.P p w' fv
  | .fm xs y C, v => v.oneCell' = true ∧ ∃ b, ρ y = some b ∧ ∀ w', Ext ρ xs w w' → C b w' v
  | s, v => Pl (Zs B ρ) w s v

theorem RepS.of_pl {B : Base} {ρ : Names} {w : World} : ∀ {s : S} {v : Value}, Pl (Zs B ρ) w s v → RepS B ρ w s v := by
  intro s v h
  cases s with
  | sl g z es =>
    obtain ⟨rfl, a, c, hv, hlc, h⟩ := h
    rw [PlElems.at_] at h
    refine ⟨a, c, hv, hlc, fun i e he => ?_, trivial⟩
    obtain ⟨hl, hc⟩ := h i e he
    rw [PlCells.at_] at hc
    refine ⟨hl, fun k s hs => ?_⟩
    have := hc k s hs
    simpa [Tag.lies] using this
  | el g cs =>
    obtain ⟨rfl, b, o, hv, h⟩ := h
    rw [PlCells.at_] at h
    exact ⟨b, o, hv, fun i s hs => by simpa [Tag.lies] using h i s hs⟩
  | ptr x o => exact h.elim
  | fn xs p => exact h.elim
  | fref xs p => exact h.elim
  | fm xs y C => exact h.elim
  | _ => exact h

/-- A scalar that lies in shared memory, or in none. -/
def S.plain : S → Bool
  | .sl g _ _ => g == .plain || g == .zero
  | .el g _ => g == .plain
  | .ptr _ _ => false
  | .fn _ _ => false
  | .fref _ _ => false
  | .fm _ _ _ => false
  | _ => true
/-- What it is in shared memory. -/
def S.lay : S → S
  | .sl .zero z es => .sl .plain z es
  | s => s
theorem Pl.of_rep {B : Base} {ρ : Names} {w : World} {s : S} {v : Value} (hp : s.plain = true) (h : RepS B ρ w s v) : Pl (Zs B ρ) w s.lay v := by
  cases s with
  | sl g z es =>
    obtain ⟨a, c, hv, hlc, h, hr⟩ := h
    simp only [S.plain, Bool.or_eq_true, beq_iff_eq] at hp
    rcases hp with rfl | rfl
    · refine ⟨rfl, a, c, hv, hlc, ?_⟩
      rw [PlElems.at_]
      intro i e he
      obtain ⟨hl, hc⟩ := h i e he
      refine ⟨hl, ?_⟩
      rw [PlCells.at_]
      intro k s hs
      simpa [Tag.lies] using hc k s hs
    · obtain ⟨_, hn⟩ := hr
      have : es = [] := List.eq_nil_of_length_eq_zero hn
      subst this
      exact ⟨rfl, a, c, hv, hlc, trivial⟩
  | el g cs =>
    obtain ⟨b, o, hv, h⟩ := h
    simp only [S.plain, beq_iff_eq] at hp
    subst hp
    refine ⟨rfl, b, o, hv, ?_⟩
    rw [PlCells.at_]
    intro k s hs
    simpa [Tag.lies] using h k s hs
  | ptr x o => simp [S.plain] at hp
  | fn xs p => simp [S.plain] at hp
  | fref xs p => simp [S.plain] at hp
  | fm xs y C => simp [S.plain] at hp
  | _ => exact h

theorem Pl.one {Z : Nat → Prop} {w : World} : ∀ {s : S} {v : Value}, Pl Z w s v → v.oneCell' = true := by
  intro s v h
  cases s with
  | un => exact h
  | sl g z es => obtain ⟨_, a, c, rfl, _⟩ := h; rfl
  | el g cs => obtain ⟨_, b, o, rfl, _⟩ := h; rfl
  | ptr x o => exact h.elim
  | fn xs p => exact h.elim
  | fref xs p => exact h.elim
  | sem C => exact h.1
  | fm xs y C => exact h.elim
  | _ => (cases h; rfl)
theorem RepS.one {B : Base} {ρ : Names} {w : World} : ∀ {s : S} {v : Value}, RepS B ρ w s v → v.oneCell' = true := by
  intro s v h
  cases s with
  | sl g z es => obtain ⟨a, c, rfl, _⟩ := h; rfl
  | el g cs => obtain ⟨b, o, rfl, _⟩ := h; rfl
  | ptr x o => obtain ⟨b, _, rfl⟩ := h; rfl
  | fn xs p => exact h.1
  | fref xs p => obtain ⟨b, fv, rfl, _⟩ := h; rfl
  | sem C => exact h.1
  | fm xs y C => exact h.1
  | un => exact Pl.one (Z := Zs B ρ) (w := w) (s := .un) h
  | bool b => exact Pl.one (Z := Zs B ρ) (w := w) (s := .bool b) h
  | int k n => exact Pl.one (Z := Zs B ρ) (w := w) (s := .int k n) h
  | str b => exact Pl.one (Z := Zs B ρ) (w := w) (s := .str b) h
  | nilp => exact Pl.one (Z := Zs B ρ) (w := w) (s := .nilp) h

theorem ownsRow_block {w w' : World} {base e z n : Nat} {v : Value} {xs : List Value} (h : w.ownsRow base e z v n xs)
    (hb : ∀ b, v.ownBlock = some b → w'.heap[b]? = w.heap[b]?) : w'.ownsRow base e z v n xs := by
  refine ⟨h.1, ?_⟩
  rcases h.2 with h2 | ⟨g, cap, cur, hv, hg, hh, hr⟩
  · exact .inl h2
  · exact .inr ⟨g, cap, cur, hv, hg, (hb g (by rw [hv]; rfl)).trans hh, hr⟩

/-- What it takes for values to read on in another world: no shared memory has changed, no shared memory has become private,
  and the private blocks that they tell of are as they were. -/
structure Kept (ρ ρ' : Names) (w w' : World) (names reads : Nat → Prop) : Prop where
  free : ∀ b, b < w.heap.size → ¬ Priv ρ b → w'.heap[b]? = w.heap[b]?
  priv : ∀ b, Priv ρ' b → Priv ρ b ∨ w.heap.size ≤ b
  named : ∀ x b, names x → ρ x = some b → ρ' x = some b
  read : ∀ x b, reads x → ρ x = some b → w'.heap[b]? = w.heap[b]?

theorem Kept.ext {ρ ρ' : Names} {w w' w'' : World} {N R : Nat → Prop} {xs : List Nat} (k : Kept ρ ρ' w w' N R) (hn : ∀ x ∈ xs, N x) (hr : ∀ x ∈ xs, R x) (h : Ext ρ' xs w' w'') : Ext ρ xs w w'' :=
  h.mono (fun b hb hp => ⟨k.free b hb hp, fun hp' => (k.priv b hp').elim hp (fun hl => by omega)⟩) (fun x hx b _ hxb => ⟨k.read x b (hr x hx) hxb, k.named x b (hn x hx) hxb⟩)
theorem Kept.pl {B : Base} {ρ ρ' : Names} {w w' : World} {N R : Nat → Prop} (k : Kept ρ ρ' w w' N R) {s : S} {v : Value} (h : Pl (Zs B ρ) w s v) : Pl (Zs B ρ') w' s v :=
  Pl.mono (fun b hb hn => k.free b hb fun h => hn (.inl h)) (fun b hz => hz.elim (fun h => (k.priv b h).imp .inl id) (fun h => .inl (.inr h))) s v h
theorem Cells.mono {B : Base} {ρ ρ' : Names} {w w' : World} {g : Tag} {a : Option Addr} {j : Nat} {cs : List S} {N R : Nat → Prop}
    (k : Kept ρ ρ' w w' N R) (hn : ∀ x, g.names x = true → N x ∧ R x) (h : Cells B ρ w g a j cs) : Cells B ρ' w' g a j cs := by
  intro i s hs
  obtain ⟨b, o, c, ha, hl, hc, hp⟩ := h i s hs
  have hlt := cell_lt hc
  have hnp : ¬ Priv ρ b → ¬ Priv ρ' b := fun hn hz => (k.priv b hz).elim hn (fun hl => by omega)
  have hnz : ¬ Zs B ρ b → ¬ Zs B ρ' b := fun hn hz => hz.elim (fun h => hnp (fun h => hn (.inl h)) h) (fun h => hn (.inr h))
  have key : g.lies B ρ' b ∧ w'.heap[b]? = w.heap[b]? := by
    cases g with
    | plain => exact ⟨hnz hl, k.free b hlt fun h => hl (.inl h)⟩
    | zero => exact hl.elim
    | own x o' => have := hn x (by simp [Tag.names]); exact ⟨k.named x b this.1 hl, k.read x b this.2 hl⟩
    | box x o' => have := hn x (by simp [Tag.names]); exact ⟨k.named x b this.1 hl, k.read x b this.2 hl⟩
    | view x => have := hn x (by simp [Tag.names]); exact ⟨k.named x b this.1 hl, k.read x b this.2 hl⟩
    | arg q => exact ⟨⟨hl.1, hnp hl.2⟩, k.free b hlt hl.2⟩
  exact ⟨b, o, c, ha, key.1, (cell_block key.2 _).trans hc, k.pl hp⟩

theorem RepS.mono {B : Base} {ρ ρ' : Names} {w w' : World} {s : S} {v : Value} {N R : Nat → Prop} (k : Kept ρ ρ' w w' N R)
    (hn : ∀ x, s.names x = true → N x) (hr : ∀ x, s.reads x = true → R x) (h : RepS B ρ w s v) : RepS B ρ' w' s v := by
  cases s with
  | sl g z es =>
    obtain ⟨a, c, hv, hlc, h, hroom⟩ := h
    refine ⟨a, c, hv, hlc, fun i e he => ⟨(h i e he).1, (h i e he).2.mono k (fun x hx => ⟨hn x hx, hr x hx⟩)⟩, ?_⟩
    cases g with
    | own x e =>
      have hx : (S.sl (.own x e) z es).names x = true := by simp [S.names, Tag.names]
      rcases hroom with hroom | ⟨⟨vals, ho⟩, hb⟩
      · exact .inl hroom
      · exact .inr ⟨⟨vals, ownsRow_block ho fun b h => k.read x b (hr x hx) (hb b h)⟩, fun b h => k.named x b (hn x hx) (hb b h)⟩
    | box x o =>
      have hx : (S.sl (.box x o) z es).names x = true := by simp [S.names, Tag.names]
      obtain ⟨b, hb, ha⟩ := hroom
      exact ⟨b, k.named x b (hn x hx) hb, ha⟩
    | _ => exact hroom
  | el g cs =>
    obtain ⟨b, o, hv, h⟩ := h
    exact ⟨b, o, hv, h.mono k (fun x hx => ⟨hn x hx, hr x hx⟩)⟩
  | ptr x o =>
    obtain ⟨b, hx, hv⟩ := h
    exact ⟨b, k.named x b (hn x (by simp [S.names])) hx, hv⟩
  | fn xs p =>
    exact ⟨h.1, fun w'' he => h.2 w'' (k.ext (fun x hx => hn x (by simpa [S.names] using hx)) (fun x hx => hr x (by simpa [S.reads] using hx)) he)⟩
  | fref xs p =>
    obtain ⟨b, fv, h1, h2, h3⟩ := h
    exact ⟨b, fv, h1, h2, fun w'' he => h3 w'' (k.ext (fun x hx => hn x (by simpa [S.names] using hx)) (fun x hx => hr x (by simpa [S.reads] using hx)) he)⟩
  | fm xs y C =>
    obtain ⟨h1, b, h2, h3⟩ := h
    exact ⟨h1, b, k.named y b (hn y (by simp [S.names])) h2, fun w'' he => h3 w'' (k.ext (fun x hx => hn x (by simp [S.names, hx])) (fun x hx => hr x (by simpa [S.reads] using hx)) he)⟩
  | _ => exact k.pl (s := _) h

/-- A temporary: one cell; a struct's or an array's cells; several results; a value that is there if a guard holds. -/
inductive T where
  | un
  | one (s : S)
  | agg (l : List S)
  | tup (l : List T)
  | grd (c : Bool) (v : T)
  deriving Inhabited

mutual
def RepT (B : Base) (ρ : Names) (w : World) : T → Value → Prop
  | .un, _ => True
  | .one s, v => RepS B ρ w s v
  | .agg l, v => ∃ arr : Array Value, v = .agg arr ∧ arr.size = l.length ∧ ∀ (j : Nat) (s : S), l[j]? = some s → ∃ c, arr[j]? = some c ∧ RepS B ρ w s c
  | .tup l, v => ∃ vs : Array Value, v = .tuple vs ∧ RepTs B ρ w l vs.toList
  | .grd c t, v => (c = true → RepT B ρ w t v) ∧ (c = false → v = undef)
def RepTs (B : Base) (ρ : Names) (w : World) : List T → List Value → Prop
  | [], vs => vs = []
  | t :: r, vs => ∃ v vr, vs = v :: vr ∧ RepT B ρ w t v ∧ RepTs B ρ w r vr
end

mutual
/-- A cell of the value has the property. -/
def T.has (p : S → Bool) : T → Bool
  | .un => false
  | .one s => p s
  | .agg l => l.any p
  | .tup l => T.hasAll p l
  | .grd _ t => t.has p
def T.hasAll (p : S → Bool) : List T → Bool
  | [] => false
  | t :: r => t.has p || T.hasAll p r
end

mutual
theorem RepT.mono {B : Base} {ρ ρ' : Names} {w w' : World} {N R : Nat → Prop} (k : Kept ρ ρ' w w' N R) :
    ∀ (t : T) (v : Value), (∀ x, t.has (S.names x) = true → N x) → (∀ x, t.has (S.reads x) = true → R x) → RepT B ρ w t v → RepT B ρ' w' t v
  | .un, _, _, _, _ => trivial
  | .one s, _, hn, hr, h => RepS.mono k hn hr h
  | .agg l, _, hn, hr, ⟨arr, hv, hl, h⟩ => ⟨arr, hv, hl, fun j s hs => by
      obtain ⟨c, hc, hq⟩ := h j s hs
      exact ⟨c, hc, hq.mono k (fun x hx => hn x (by simp only [T.has, List.any_eq_true]; exact ⟨s, List.mem_of_getElem? hs, hx⟩))
        (fun x hx => hr x (by simp only [T.has, List.any_eq_true]; exact ⟨s, List.mem_of_getElem? hs, hx⟩))⟩⟩
  | .tup l, _, hn, hr, ⟨vs, hv, h⟩ => ⟨vs, hv, RepTs.mono k l _ hn hr h⟩
  | .grd c t, v, hn, hr, ⟨h1, h2⟩ => ⟨fun hc => RepT.mono k t v hn hr (h1 hc), h2⟩
theorem RepTs.mono {B : Base} {ρ ρ' : Names} {w w' : World} {N R : Nat → Prop} (k : Kept ρ ρ' w w' N R) :
    ∀ (l : List T) (vs : List Value), (∀ x, T.hasAll (S.names x) l = true → N x) → (∀ x, T.hasAll (S.reads x) l = true → R x) → RepTs B ρ w l vs → RepTs B ρ' w' l vs
  | [], _, _, _, h => h
  | t :: r, _, hn, hr, ⟨v, vr, hv, ht, hq⟩ => ⟨v, vr, hv, RepT.mono k t v (fun x hx => hn x (by simp [T.hasAll, hx])) (fun x hx => hr x (by simp [T.hasAll, hx])) ht,
      RepTs.mono k r vr (fun x hx => hn x (by simp [T.hasAll, hx])) (fun x hx => hr x (by simp [T.hasAll, hx])) hq⟩
end

/-- Nothing is known any more of the cells that have a property. -/
def S.cut (p : S → Bool) (s : S) : S := if p s then .un else s
mutual
def T.cut (p : S → Bool) : T → T
  | .un => .un
  | .one s => .one (s.cut p)
  | .agg l => .agg (l.map (·.cut p))
  | .tup l => .tup (T.cutAll p l)
  | .grd c t => .grd c (t.cut p)
def T.cutAll (p : S → Bool) : List T → List T
  | [] => []
  | t :: r => t.cut p :: T.cutAll p r
end
theorem S.cut_has {p q : S → Bool} (hu : q .un = false) {s : S} (h : q (s.cut p) = true) : q s = true ∧ p s = false := by
  unfold S.cut at h
  split at h
  · simp [hu] at h
  · rename_i hx
    exact ⟨h, by simpa using hx⟩
mutual
theorem T.cut_has {p q : S → Bool} (hu : q .un = false) : ∀ {t : T}, (t.cut p).has q = true → ∃ s, q s = true ∧ p s = false ∧ t.has q = true
  | .un, h => by simp [T.cut, T.has] at h
  | .one s, h => ⟨s, (S.cut_has hu h).1, (S.cut_has hu h).2, (S.cut_has hu h).1⟩
  | .agg l, h => by
    simp only [T.cut, T.has, List.any_map, List.any_eq_true, Function.comp] at h ⊢
    obtain ⟨s, hs, h⟩ := h
    exact ⟨s, (S.cut_has hu h).1, (S.cut_has hu h).2, s, hs, (S.cut_has hu h).1⟩
  | .tup l, h => by
    obtain ⟨s, h1, h2, h3⟩ := T.cutAll_has hu (l := l) (by simpa [T.cut, T.has] using h)
    exact ⟨s, h1, h2, by simpa [T.has] using h3⟩
  | .grd c t, h => by
    obtain ⟨s, h1, h2, h3⟩ := T.cut_has hu (t := t) (by simpa [T.cut, T.has] using h)
    exact ⟨s, h1, h2, by simpa [T.has] using h3⟩
theorem T.cutAll_has {p q : S → Bool} (hu : q .un = false) : ∀ {l : List T}, T.hasAll q (T.cutAll p l) = true → ∃ s, q s = true ∧ p s = false ∧ T.hasAll q l = true
  | [], h => by simp [T.cutAll, T.hasAll] at h
  | t :: r, h => by
    simp only [T.cutAll, T.hasAll, Bool.or_eq_true] at h ⊢
    rcases h with h | h
    · obtain ⟨s, h1, h2, h3⟩ := T.cut_has hu h; exact ⟨s, h1, h2, .inl h3⟩
    · obtain ⟨s, h1, h2, h3⟩ := T.cutAll_has hu h; exact ⟨s, h1, h2, .inr h3⟩
end
theorem RepS.cut {B : Base} {ρ : Names} {w : World} {s : S} {v : Value} (p : S → Bool) (h : RepS B ρ w s v) : RepS B ρ w (s.cut p) v := by
  unfold S.cut
  split
  · exact h.one
  · exact h
mutual
theorem RepT.cut {B : Base} {ρ : Names} {w : World} (p : S → Bool) : ∀ {t : T} {v : Value}, RepT B ρ w t v → RepT B ρ w (t.cut p) v
  | .un, _, _ => trivial
  | .one s, _, h => RepS.cut p h
  | .agg l, _, ⟨arr, hv, hl, h⟩ => ⟨arr, hv, by simpa using hl, fun j s hs => by
      simp only [List.getElem?_map, Option.map_eq_some_iff] at hs
      obtain ⟨s', hs', rfl⟩ := hs
      obtain ⟨c, hc, hr⟩ := h j s' hs'
      exact ⟨c, hc, hr.cut p⟩⟩
  | .tup l, _, ⟨vs, hv, h⟩ => ⟨vs, hv, RepTs.cut p h⟩
  | .grd c t, _, ⟨h1, h2⟩ => ⟨fun hc => RepT.cut p (h1 hc), h2⟩
theorem RepTs.cut {B : Base} {ρ : Names} {w : World} (p : S → Bool) : ∀ {l : List T} {vs : List Value}, RepTs B ρ w l vs → RepTs B ρ w (T.cutAll p l) vs
  | [], _, h => h
  | t :: r, _, ⟨v, vr, hv, ht, hr⟩ => ⟨v, vr, hv, RepT.cut p ht, RepTs.cut p hr⟩
end
theorem S.cut_cut (p q : S → Bool) (hq : q .un = false) (s : S) : (s.cut p).cut q = s.cut (fun s => p s || q s) := by
  simp only [S.cut]
  by_cases h : p s = true
  · simp [h, hq]
  · by_cases h2 : q s = true <;> simp [h, h2]
mutual
theorem T.cut_cut (p q : S → Bool) (hq : q .un = false) : ∀ t : T, (t.cut p).cut q = t.cut (fun s => p s || q s)
  | .un => rfl
  | .one s => by simp only [T.cut, S.cut_cut p q hq s]
  | .agg l => by
    simp only [T.cut, List.map_map]
    congr 1
    apply List.map_congr_left
    intro s _
    exact S.cut_cut p q hq s
  | .tup l => by simp only [T.cut, T.cutAll_cut p q hq l]
  | .grd c t => by simp only [T.cut, T.cut_cut p q hq t]
theorem T.cutAll_cut (p q : S → Bool) (hq : q .un = false) : ∀ l : List T, T.cutAll q (T.cutAll p l) = T.cutAll (fun s => p s || q s) l
  | [] => rfl
  | t :: r => by simp only [T.cutAll, T.cut_cut p q hq t, T.cutAll_cut p q hq r]
end
end Go.PS
