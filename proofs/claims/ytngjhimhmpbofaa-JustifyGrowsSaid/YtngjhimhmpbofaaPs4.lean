/- The operations that change neither memory nor the names: what they compute on the state, and that the model's do. -/
import Derived.Test.YtngjhimhmpbofaaPs3
import Derived.Laws.Pointers
set_option linter.unusedVariables false
set_option linter.unusedSimpArgs false
namespace Go.PS
open Go

/-- A value that is read under a guard g: what is owed, and the value. -/
def rdg (g : Bool) : T → Prop × T
  | .grd c v => (g = true → c = true, v)
  | .un => (True, .un)
  | .one s => (True, .one s)
  | .agg l => (True, .agg l)
  | .tup l => (True, .tup l)
theorem rdg_rep {B : Base} {ρ : Names} {w : World} {t : T} {v : Value} (h : RepT B ρ w t v) {g : Bool} (hg : g = true) (ho : (rdg g t).1) : RepT B ρ w (rdg g t).2 v := by
  cases t with
  | grd c t => exact h.1 (ho hg)
  | _ => exact h
def St.rd (st : St) (g : Bool) (x : Operand) : Prop × T := rdg g (st.eval x)
theorem Rel.rd {B : Base} {ρ : Names} {st : St} {a : Act} {w : World} (h : Rel B ρ st a w) {g : Bool} (hg : g = true) (x : Operand) (ho : (st.rd g x).1) :
    RepT B ρ w (st.rd g x).2 (a.eval x) := rdg_rep (h.eval x) hg ho

def Tag.sub : Tag → Tag
  | .own x _ => .view x
  | .box x _ => .view x
  | t => t
/-- A row of cells in elements of z cells. -/
def chunks (z : Nat) : Nat → List S → List (List S)
  | 0, _ => []
  | n + 1, cs => cs.take z :: chunks z n (cs.drop z)

/-- A bound of a slice expression. -/
def bound (st : St) (g : Bool) (d : Int) : Option Operand → Option (Prop × Int)
  | none => some (True, d)
  | some y => match st.rd g y with
    | (o, .one (.int _ n)) => some (o, n)
    | _ => none

def lenS : TD → S → Option Int
  | .slice _ _ _, .sl _ _ es => some es.length
  | .str, .str s => some s.size
  | _, _ => none
def minI (x y : Int) : Int := if y < x then y else x
def maxI (x y : Int) : Int := if y > x then y else x

/-- The cells of a value. -/
def T.cells : T → Option (List S)
  | .one s => some [s]
  | .agg l => some l
  | _ => none
/-- The parts of a struct or an array, laid into its cells. -/
def fillT (st : St) (g : Bool) (place : Nat → Option (Nat × Nat)) (cells : List S) : List (Nat × Operand) → Option (Prop × List S)
  | [] => some (True, cells)
  | (i, x) :: r =>
    match place i, st.rd g x with
    | some (off, z), (o, v) => match v.cells with
      | some l => if l.length = z ∧ off + z ≤ cells.length then
          match fillT st g place (cells.take off ++ l ++ cells.drop (off + z)) r with
          | some (o', c) => some (o ∧ o', c)
          | none => none
        else none
      | none => none
    | none, _ => none
def places (P : Program) (t : TypeId) : Nat → Option (Nat × Nat) :=
  match td P t with
  | .struct fs => fun i => (fs[i]?).map fun f => (f.1, f.2.1)
  | .arr _ _ z => fun i => some (i * z, z)
  | _ => fun _ => none

def aggD : TD → Bool
  | .struct _ => true
  | .arr _ _ _ => true
  | _ => false
def eqOp : BinOp → Bool → Option Bool
  | .eql, b => some b
  | .neq, b => some (!b)
  | _, _ => none
def strOp (op : BinOp) (x y : ByteArray) : Option Bool :=
  let eq := x.toList == y.toList
  let lt := Op.bytesLess x.toList y.toList
  match op with
  | .eql => some eq
  | .neq => some (!eq)
  | .lss => some lt
  | .leq => some (lt || eq)
  | .gtr => some (!(lt || eq))
  | .geq => some (!lt)
  | _ => none

def binT (P : Program) (op : BinOp) (t : TypeId) (x y : T) : Option (Prop × T) :=
  match x, y with
  | .one (.int k a), .one (.int k' b) => if k = k' ∨ op = .shl ∨ op = .shr then some ((binI op k a b).1, .one (binI op k a b).2) else none
  | .one (.bool a), .one (.bool b) =>
    match td P t with
    | .bool => (eqOp op (a == b)).map fun r => (True, .one (.bool r))
    | _ => none
  | .one (.str a), .one (.str b) => (strOp op a b).map fun r => (True, .one (.bool r))
  | .agg xs, .agg ys =>
    match flatEq P t with
    | some ls => match eqL ls xs ys with
      | some b => (eqOp op b).map fun r => (True, .one (.bool r))
      | none => none
    | none => none
  | .one .nilp, .one .nilp => match td P t with
    | .ptr => (eqOp op true).map fun r => (True, .one (.bool r))
    | _ => none
  | .one (.el _ _), .one .nilp => match td P t with
    | .ptr => (eqOp op false).map fun r => (True, .one (.bool r))
    | _ => none
  | .one (.ptr _ _), .one .nilp => match td P t with
    | .ptr => (eqOp op false).map fun r => (True, .one (.bool r))
    | _ => none
  | _, _ => none

/-- What an operation computes on the state: what is owed, and the value. -/
def pureOp (P : Program) (g : Bool) (st : St) : Op → Option (Prop × T)
  | .move x => some (st.rd g x)
  | .assign x => some (st.rd g x)
  | .pick c a b =>
    match st.rd g c with
    | (oc, .one (.bool c')) =>
      match st.rd (g && c') a, st.rd (g && !c') b with
      | (oa, .one (.bool a')), (ob, .one (.bool b')) => some (oc ∧ oa ∧ ob, .one (.bool (if c' then a' else b')))
      | (_, .un), (ob, .one (.bool b')) => some (oc ∧ c' = false ∧ ob, .one (.bool b'))
      | (oa, .one (.bool a')), (_, .un) => some (oc ∧ c' = true ∧ oa, .one (.bool a'))
      | _, _ => none
    | _ => none
  | .nilCheck x =>
    match st.rd g x with
    | (o, .one (.ptr y n)) => some (o, .one (.ptr y n))
    | (o, .one (.el t cs)) => some (o, .one (.el t cs))
    | _ => none
  | .unOp op _ x =>
    match op, st.rd g x with
    | .not, (o, .one (.bool b)) => some (o, .one (.bool !b))
    | .neg, (o, .one (.int k n)) => some (o, .one (.int k (k.wrap (0 - n))))
    | _, _ => none
  | .binOp op t x y _ =>
    match st.rd g x, st.rd g y with
    | (ox, vx), (oy, vy) => match binT P op t vx vy with
      | some (o, v) => some (ox ∧ oy ∧ o, v)
      | none => none
  | .convert s d x =>
    match td P s, td P d, st.rd g x with
    | .int _, .int k, (o, .one (.int _ n)) => some (o, .one (.int k (k.wrap n)))
    | _, _, _ => none
  | .field t x f =>
    match td P t, st.rd g x with
    | .struct fs, (o, .agg cs) => match fs[f]? with
      | some (off, z, ag) => if off + z ≤ cs.length ∧ (ag = true ∨ z = 1) then some (o, loadT ag ((cs.drop off).take z)) else none
      | none => none
    | _, _ => none
  | .fieldAddr t x f =>
    match td P t, st.rd g x with
    | .struct fs, (o, .one (.ptr y n)) => match fs[f]? with
      | some (off, z, _) => if z = 0 then none else some (o, .one (.ptr y (n + off)))
      | none => none
    | .struct fs, (o, .one (.el tg cs)) => match fs[f]? with
      | some (off, z, _) => if z = 0 then none else some (o, .one (.el tg ((cs.drop off).take z)))
      | none => none
    | _, _ => none
  | .indexAddr t x i =>
    match td P t, st.rd g x, st.rd g i with
    | .slice _ z _, (ox, .one (.sl tg zz es)), (oi, .one (.int _ n)) =>
      if z = 0 then none else some (ox ∧ oi ∧ zz = z ∧ 0 ≤ n ∧ n < es.length, .one (.el tg.sub (es.getD n.toNat [])))
    | .arr m _ z, (ox, .one (.ptr y o)), (oi, .one (.int _ n)) => some (ox ∧ oi ∧ 0 ≤ n ∧ n < m, .one (.ptr y (o + n.toNat * z)))
    | .arr m _ z, (ox, .one (.el tg cs)), (oi, .one (.int _ n)) => some (ox ∧ oi ∧ 0 ≤ n ∧ n < m, .one (.el tg ((cs.drop (n.toNat * z)).take z)))
    | _, _, _ => none
  | .index t x i =>
    match td P t, st.rd g x, st.rd g i with
    | .arr m e z, (ox, .agg cs), (oi, .one (.int _ n)) =>
      match tz P e with
      | some (ag, z') => if z' = z ∧ (ag = true ∨ z = 1) ∧ cs.length = m * z then some (ox ∧ oi ∧ 0 ≤ n ∧ n < m, loadT ag ((cs.drop (n.toNat * z)).take z)) else none
      | none => none
    | _, _, _ => none
  | .load t x =>
    match tz P t, st.rd g x with
    | some (ag, z), (o, .one (.ptr y n)) =>
      match mget st.mem y with
      | some cs => if ag = true ∨ z = 1 then some (o ∧ n + z ≤ cs.length, loadT ag ((cs.drop n).take z)) else none
      | none => none
    | some (ag, z), (o, .one (.el _ cs)) => if ag = true ∨ z = 1 then some (o ∧ z ≤ cs.length, loadT ag (cs.take z)) else none
    | some (ag, _), (o, .one (.fref xs p)) => if ag = false then some (o, .one (.fn xs p)) else none
    | _, _ => none
  | .slice t x lo hi mx =>
    match mx with
    | some _ => none
    | none =>
      match td P t, st.rd g x with
      | .slice _ z _, (o, .one (.sl tg zz es)) =>
        match bound st g es.length hi, bound st g 0 lo with
        | some (oh, h), some (ol, l) => some (o ∧ oh ∧ ol ∧ (zz = z ∨ es = []) ∧ 0 ≤ l ∧ l ≤ h ∧ h ≤ es.length, .one (.sl tg.sub zz ((es.take h.toNat).drop l.toNat)))
        | _, _ => none
      | .arr m _ z, (o, .one (.ptr y n)) =>
        match mget st.mem y, bound st g m hi, bound st g 0 lo with
        | some cs, some (oh, h), some (ol, l) =>
          some (o ∧ oh ∧ ol ∧ n + m * z ≤ cs.length ∧ (cs.all S.plain = true) ∧ 0 ≤ l ∧ l ≤ h ∧ h ≤ m, .one (.sl (.box y (n + l.toNat * z)) z (((chunks z m ((cs.drop n).map S.lay)).take h.toNat).drop l.toNat)))
        | _, _, _ => none
      | .arr m _ z, (o, .one (.el tg cs)) =>
        match bound st g m hi, bound st g 0 lo with
        | some (oh, h), some (ol, l) =>
          if tg = .zero then none else some (o ∧ oh ∧ ol ∧ m * z ≤ cs.length ∧ 0 ≤ l ∧ l ≤ h ∧ h ≤ m, .one (.sl tg.sub z (((chunks z m cs).take h.toNat).drop l.toNat)))
        | _, _ => none
      | _, _ => none
  | .extract x i =>
    match st.rd g x with
    | (o, .tup l) => (l[i]?).map fun v => (o, v)
    | _ => none
  | .build t parts =>
    match aggD (td P t), tzero P t with
    | true, some cells => match fillT st g (places P t) cells parts.toList with
      | some (o, c) => some (o, .agg c)
      | none => none
    | _, _ => none
  | .call c =>
    match c.callee, c.args.toList with
    | .builtin .len, [x] => match c.argTypes[0]?, st.rd g x with
      | some t, (o, .one s) => (lenS (td P t) s).map fun n => (o, .one (.int .i64 n))
      | _, _ => none
    | .builtin .min, [x, y] => match st.rd g x, st.rd g y with
      | (ox, .one (.int k a)), (oy, .one (.int _ b)) => some (ox ∧ oy, .one (.int k (minI a b)))
      | _, _ => none
    | .builtin .max, [x, y] => match st.rd g x, st.rd g y with
      | (ox, .one (.int k a)), (oy, .one (.int _ b)) => some (ox ∧ oy, .one (.int k (maxI a b)))
      | _, _ => none
    | _, _ => none
  | _ => none

section
variable {P : Program} {B : Base} {ρ : Names} {st : St} {a : Act} {w : World} {g : Bool}

/-- An operation's run, and what it gives. -/
def Gives (P : Program) (B : Base) (ρ : Names) (w : World) (s : Sem Value) (v : T) : Prop := ∃ val, s.run P w = .ok val w ∧ RepT B ρ w v val

theorem repT_one {B : Base} {ρ : Names} {w : World} {s : S} {v : Value} : RepT B ρ w (.one s) v = RepS B ρ w s v := rfl

theorem gives_nil {op : BinOp} {t : TypeId} {x y : Operand} {p : Option Addr} {r : Bool} {o : Prop} {v : T}
    (hb : (match td P t with
      | .ptr => (eqOp op p.isNone).map fun r => (True, T.one (.bool r))
      | _ => none) = some (o, v)) : Gives P B ρ w (do eqGuard op t x y (.pointer p) (.pointer none); binOp op t (.pointer p) (.pointer none)) v := by
  split at hb
  · rename_i htd
    have hu : P.underlying t = some (.pointer (P.pointee t)) := by
      have : ∃ e, P.underlying t = some (.pointer e) := by
        unfold td at htd
        split at htd <;> first | (cases htd; done) | (exact ⟨_, by assumption⟩) | (split at htd <;> cases htd)
      obtain ⟨e, he⟩ := this
      rw [he]; unfold Program.pointee; rw [he]
    simp only [Option.map_eq_some_iff, Prod.mk.injEq] at hb
    obtain ⟨r, hr, rfl, rfl⟩ := hb
    have : (eqGuard op t x y (.pointer p) (.pointer none)).run P w = .ok () w := by unfold eqGuard; cases op <;> rfl
    cases op <;> simp only [eqOp] at hr <;> cases hr
    · exact ⟨.bool p.isNone, by simp [this, run_eql_pointer_nil w t p hu], rfl⟩
    · exact ⟨.bool (!p.isNone), by simp [this, run_neq_pointer_nil w t p hu], rfl⟩
  · cases hb
theorem gives_bin (h : Rel B ρ st a w) {op : BinOp} {t : TypeId} {x y : Operand} {vx vy : T} {o : Prop} {v : T} {ax ay : Value}
    (hx : RepT B ρ w vx ax) (hy : RepT B ρ w vy ay) (hb : binT P op t vx vy = some (o, v)) (ho : o) :
    Gives P B ρ w (do eqGuard op t x y ax ay; binOp op t ax ay) v := by
  unfold binT at hb
  split at hb
  · rename_i k q k' q'
    split at hb
    · rename_i hk
      cases hb
      cases hx; cases hy
      obtain ⟨val, h1, h2⟩ := binI_run (B := B) (ρ := ρ) P w op t k k' q q' hk ho
      refine ⟨val, ?_, h2⟩
      have : (eqGuard op t x y (.int k q) (.int k' q')).run P w = .ok () w := by unfold eqGuard; cases op <;> rfl
      simp [this, h1]
    · cases hb
  · rename_i b b'
    split at hb
    · rename_i htd
      have hu : P.underlying t = some .bool := by
        unfold td at htd
        split at htd <;> first | assumption | cases htd | (split at htd <;> cases htd)
      simp only [Option.map_eq_some_iff, Prod.mk.injEq] at hb
      obtain ⟨r, hr, rfl, rfl⟩ := hb
      cases hx; cases hy
      have : (eqGuard op t x y (.bool b) (.bool b')).run P w = .ok () w := by unfold eqGuard; cases op <;> rfl
      cases op <;> simp only [eqOp] at hr <;> cases hr
      · exact ⟨.bool (b == b'), by simp [this, binOp, run_equal_bool w t b b' hu], rfl⟩
      · exact ⟨.bool (!(b == b')), by simp [this, binOp, run_equal_bool w t b b' hu], rfl⟩
    · cases hb
  · rename_i s s'
    simp only [Option.map_eq_some_iff, Prod.mk.injEq] at hb
    obtain ⟨r, hr, rfl, rfl⟩ := hb
    cases hx; cases hy
    have : (eqGuard op t x y (.string s) (.string s')).run P w = .ok () w := by unfold eqGuard; cases op <;> rfl
    refine ⟨.bool r, ?_, rfl⟩
    cases op <;> simp only [strOp] at hr <;> (try cases hr) <;> (simp only [Sem.run_bind, this, Result.andThen_ok]; rfl)
  · rename_i xs ys
    split at hb
    · rename_i ls hf
      split at hb
      · rename_i b hq
        simp only [Option.map_eq_some_iff, Prod.mk.injEq] at hb
        obtain ⟨r, hr, rfl, rfl⟩ := hb
        obtain ⟨ax, rfl, lx, hx⟩ := hx
        obtain ⟨ay, rfl, ly, hy⟩ := hy
        unfold flatEq at hf
        split at hf
        · cases hf
        · rename_i hgd
          have hlen := eqL_length _ _ _ _ hq
          simp only [Bool.or_eq_true, Bool.not_eq_true', not_or, Bool.not_eq_true, Bool.not_eq_false] at hgd
          obtain ⟨hE, hag⟩ := hgd
          have hguard := run_eqGuard_agg (P := P) w op t x y ax ay hE
          have hx' : RepL B ρ w xs ax.toList := fun j s hs => by obtain ⟨c, h1, h2⟩ := hx j s hs; exact ⟨c, by simpa using h1, h2⟩
          have hy' : RepL B ρ w ys ay.toList := fun j s hs => by obtain ⟨c, h1, h2⟩ := hy j s hs; exact ⟨c, by simpa using h1, h2⟩
          have heq := eqFlat P w (B := B) (ρ := ρ) 50 t ls hf 10000 (by omega) ax.toList ay.toList xs ys b (by simp; omega) (by simp; omega) hx' hy' hq
          simp only [packV, hag, if_true, Array.toArray_toList] at heq
          cases op <;> simp only [eqOp] at hr <;> cases hr
          · exact ⟨.bool b, by simp [hguard, run_eql_struct, heq], rfl⟩
          · exact ⟨.bool (!b), by simp [hguard, run_neq_struct, heq], rfl⟩
      · cases hb
    · cases hb
  · cases hx; cases hy
    exact gives_nil (p := none) (r := true) hb
  · obtain ⟨b, n, rfl, _⟩ := hx
    cases hy
    exact gives_nil (p := some ⟨b, n, none⟩) (r := true) hb
  · obtain ⟨b, _, rfl⟩ := hx
    cases hy
    exact gives_nil (r := true) hb
  · cases hb

theorem rep_ptr {y n : Nat} {v : Value} (h : RepT B ρ w (.one (.ptr y n)) v) : ∃ b, ρ y = some b ∧ v = .pointer (some ⟨b, n, none⟩) := h
theorem rep_el {t : Tag} {cs : List S} {v : Value} (h : RepT B ρ w (.one (.el t cs)) v) : ∃ b o, v = .pointer (some ⟨b, o, none⟩) ∧ Cells B ρ w t (some ⟨b, o, none⟩) 0 cs := h
theorem rep_sl {t : Tag} {z : Nat} {es : List (List S)} {v : Value} (h : RepT B ρ w (.one (.sl t z es)) v) :
    ∃ a c, v = .slice a es.length c ∧ es.length ≤ c ∧ (∀ i e, es[i]? = some e → e.length = z ∧ Cells B ρ w t a (i * z) e) ∧ Room ρ w z a es.length c t := h

theorem Cells.subTag {t : Tag} {b : Option Addr} {j : Nat} {cs : List S} (h : Cells B ρ w t b j cs) : Cells B ρ w t.sub b j cs := by
  cases t <;> exact h
theorem Room.sub {z n c : Nat} {t : Tag} {a : Option Addr} (hz : t = .zero → n = 0 ∧ c = 0) : Room ρ w z a n c t.sub := by
  cases t <;> first | trivial | exact ⟨(hz rfl).2, (hz rfl).1⟩

theorem RepL.of_agg {cs : List S} {arr : Array Value} (h : ∀ (j : Nat) (s : S), cs[j]? = some s → ∃ c, arr[j]? = some c ∧ RepS B ρ w s c) : RepL B ρ w cs arr.toList :=
  fun j s hs => by obtain ⟨c, h1, h2⟩ := h j s hs; exact ⟨c, by simpa using h1, h2⟩

theorem gives_field {t : TypeId} {fs : List (Nat × Nat × Bool)} (ht : td P t = .struct fs) {cs : List S} {val : Value} (h : RepT B ρ w (.agg cs) val) {f off z : Nat} {ag : Bool}
    (hf : fs[f]? = some (off, z, ag)) (hl : off + z ≤ cs.length) (h1 : ag = true ∨ z = 1) : Gives P B ρ w (Instr.field t val f) (loadT ag ((cs.drop off).take z)) := by
  obtain ⟨arr, rfl, hs, hr⟩ := h
  obtain ⟨fields, hu, hfs⟩ := td_struct ht
  obtain ⟨fd, hfd, hspec⟩ := hfs f _ hf
  obtain ⟨ho, htz⟩ := fieldT_spec hspec
  obtain ⟨v, h2, h3⟩ := gives_part P htz (RepL.of_agg hr) hs hl h1
  exact ⟨v, by simp [Instr.field, run_underlying hu, hfd, asAgg, ho, h2], h3⟩

theorem run_fieldAt {t : TypeId} {fs : List (Nat × Nat × Bool)} (ht : td P t = .struct fs) {f off z : Nat} {ag : Bool} (hf : fs[f]? = some (off, z, ag)) (hz : z ≠ 0) (b o : Nat) :
    (Instr.fieldAt t (.pointer (some ⟨b, o, none⟩)) f).run P w = .ok (.pointer (some ⟨b, o + off, none⟩)) w := by
  obtain ⟨fields, hu, hfs⟩ := td_struct ht
  obtain ⟨fd, hfd, hspec⟩ := hfs f _ hf
  obtain ⟨ho, htz⟩ := fieldT_spec hspec
  obtain ⟨hag, hsz⟩ := run_isAgg P w htz
  simp [Instr.fieldAt, run_underlying hu, hfd, Instr.sureAddr, fieldPlace, hsz, hz, ho, add_at]

theorem el_part {tg : Tag} {cs : List S} {b o : Nat} (h : Cells B ρ w tg (some ⟨b, o, none⟩) 0 cs) (k z : Nat) : RepT B ρ w (.one (.el tg ((cs.drop k).take z))) (.pointer (some ⟨b, o + k, none⟩)) := by
  refine ⟨b, o + k, rfl, ?_⟩
  have := (h.drop (n := k)).take (n := z)
  have := this.shift k (by omega)
  simpa using this

theorem gives_index_slice {t e z by_ : Nat} (ht : td P t = .slice e z by_) {tg : Tag} {zz : Nat} {es : List (List S)} {v : Value} (h : RepT B ρ w (.one (.sl tg zz es)) v) (k : IntKind) {n : Int}
    (hz0 : z ≠ 0) (hz : zz = z) (h0 : 0 ≤ n) (h1 : n < es.length) : Gives P B ρ w (Instr.indexAt t v (.int k n)) (.one (.el tg.sub (es.getD n.toNat []))) := by
  obtain ⟨a, c, rfl, hlc, hes, hroom⟩ := rep_sl h
  obtain ⟨hu, i, hi, hsz, _⟩ := td_slice ht
  subst hz
  obtain ⟨m, rfl⟩ := Int.eq_ofNat_of_zero_le h0
  have hm : m < es.length := by omega
  obtain ⟨hlen, hcells⟩ := hes m es[m] (List.getElem?_eq_getElem hm)
  have ha : ∃ b o, a = some ⟨b, o, none⟩ := by
    have h0 : 0 < es[m].length := by omega
    obtain ⟨b, o, c, ha, _⟩ := hcells 0 es[m][0] (List.getElem?_eq_getElem h0)
    exact ⟨b, o, ha⟩
  obtain ⟨b, o, rfl⟩ := ha
  refine ⟨.pointer (some ⟨b, o + m * zz, none⟩), ?_, ?_⟩
  · simp [Instr.indexAt, asIntOf, run_underlying hu, run_size P w hi, hsz, hm, add_at]
  · have := hcells.subTag.shift (m * zz) (by omega)
    simp only [Int.toNat_natCast, List.getD_eq_getElem?_getD, List.getElem?_eq_getElem hm, Option.getD_some]
    exact ⟨b, o + m * zz, rfl, by simpa using this⟩

theorem run_indexAt_arr {t m e z : Nat} (ht : td P t = .arr m e z) (b o : Nat) (k : IntKind) {n : Int} (h0 : 0 ≤ n) (h1 : n < m) :
    (Instr.indexAt t (.pointer (some ⟨b, o, none⟩)) (.int k n)).run P w = .ok (.pointer (some ⟨b, o + n.toNat * z, none⟩)) w := by
  obtain ⟨hu, i, hi, hsz⟩ := td_arr ht
  obtain ⟨q, rfl⟩ := Int.eq_ofNat_of_zero_le h0
  have hq : q < m := by omega
  simp [Instr.indexAt, asIntOf, run_underlying hu, Instr.sureAddr, run_size P w hi, hsz, hq, add_at]

theorem gives_index {t m e z : Nat} (ht : td P t = .arr m e z) {ag : Bool} (he : tz P e = some (ag, z)) {cs : List S} {v : Value} (h : RepT B ρ w (.agg cs) v) (k : IntKind) {n : Int}
    (h0 : 0 ≤ n) (h1 : n < m) (hl : cs.length = m * z) (hone : ag = true ∨ z = 1) : Gives P B ρ w (Instr.index t v (.int k n)) (loadT ag ((cs.drop (n.toNat * z)).take z)) := by
  obtain ⟨hu, i, hi, hsz⟩ := td_arr ht
  obtain ⟨q, rfl⟩ := Int.eq_ofNat_of_zero_le h0
  have hq : q < m := by omega
  obtain ⟨arr, rfl, hs, hr⟩ := h
  have hb : q * z + z ≤ cs.length := by
    rw [hl]
    have : (q + 1) * z ≤ m * z := Nat.mul_le_mul_right _ hq
    rwa [Nat.succ_mul] at this
  obtain ⟨v, h2, h3⟩ := gives_part P he (off := q * z) (RepL.of_agg hr) hs hb hone
  refine ⟨v, ?_, by simpa using h3⟩
  simp [Instr.index, asIntOf, run_underlying hu, run_size P w hi, hsz, hq, h2]

theorem vals_of_el {tg : Tag} {cs : List S} {b o : Nat} (h : Cells B ρ w tg (some ⟨b, o, none⟩) 0 cs) : ∃ vals, Vals B ρ w ⟨b, o, none⟩ cs vals := by
  simpa using h.vals

theorem gives_load_el {t : TypeId} {ag : Bool} {z : Nat} (ht : tz P t = some (ag, z)) {tg : Tag} {cs : List S} {v : Value} (h : RepT B ρ w (.one (.el tg cs)) v)
    (hl : z ≤ cs.length) (hone : ag = true ∨ z = 1) : Gives P B ρ w (Instr.loadAt t v) (loadT ag (cs.take z)) := by
  obtain ⟨b, o, rfl, hc⟩ := rep_el h
  obtain ⟨vals, hv⟩ := vals_of_el (hc.take (n := z))
  obtain ⟨val, h2, h3⟩ := hv.load P ht (by simp; omega) hone
  exact ⟨val, by simp [Instr.loadAt, Instr.sureAddr, h2], h3⟩
theorem gives_load_ptr (hr : Rel B ρ st a w) {t : TypeId} {ag : Bool} {z y n : Nat} (ht : tz P t = some (ag, z)) {cs : List S} (hm : mget st.mem y = some cs) {v : Value}
    (h : RepT B ρ w (.one (.ptr y n)) v) (hl : n + z ≤ cs.length) (hone : ag = true ∨ z = 1) : Gives P B ρ w (Instr.loadAt t v) (loadT ag ((cs.drop n).take z)) := by
  obtain ⟨b, hb, rfl⟩ := rep_ptr h
  obtain ⟨b', vals, hb', hv⟩ := (hr.mem y cs hm).vals
  have : b = b' := by rw [hb] at hb'; exact Option.some.inj hb'
  subst this
  obtain ⟨val, h2, h3⟩ := ((hv.drop n).take z).load P ht (by simp; omega) hone
  refine ⟨val, ?_, h3⟩
  simp only [Nat.zero_add] at h2
  simp [Instr.loadAt, Instr.sureAddr, h2]

theorem gives_load_fref {t : TypeId} {z : Nat} (ht : tz P t = some (false, z)) {xs : List Nat} {p : List Value → Option (Prop × Value)} {v : Value} (h : RepT B ρ w (.one (.fref xs p)) v) :
    Gives P B ρ w (Instr.loadAt t v) (.one (.fn xs p)) := by
  obtain ⟨b, fv, rfl, h2, h3⟩ := h
  obtain ⟨hag, hsz⟩ := run_isAgg P w ht
  have hc := (h3 w (fun _ _ _ => rfl)).1
  exact ⟨fv, by simp [Instr.loadAt, Instr.sureAddr, loadVar, hag, hc], h2, fun w' he => (h3 w' he).2⟩

/-! ### Slice expressions -/
theorem chunks_length (z : Nat) : ∀ (n : Nat) (cs : List S), (chunks z n cs).length = n
  | 0, _ => rfl
  | n + 1, cs => by simp [chunks, chunks_length z n]
theorem chunks_at (z : Nat) : ∀ (n : Nat) (cs : List S) (i : Nat) (e : List S), (chunks z n cs)[i]? = some e → i < n ∧ e = (cs.drop (i * z)).take z
  | 0, cs, i, e, h => by simp [chunks] at h
  | n + 1, cs, i, e, h => by
    cases i with
    | zero => simp [chunks] at h; simp [h]
    | succ i =>
      simp only [chunks, List.getElem?_cons_succ] at h
      obtain ⟨h1, h2⟩ := chunks_at z n _ i e h
      exact ⟨by omega, by rw [h2, List.drop_drop, Nat.succ_mul, Nat.add_comm]⟩

theorem bound_run (hr : Rel B ρ st a w) (hg : g = true) {d : Int} {x : Option Operand} {o : Prop} {n : Int} (h : bound st g d x = some (o, n)) (ho : o) :
    (x = none ∧ n = d) ∨ ∃ y k, x = some y ∧ a.eval y = .int k n := by
  cases x with
  | none => simp only [bound, Option.some.injEq, Prod.mk.injEq] at h; exact .inl ⟨rfl, h.2.symm⟩
  | some y =>
    simp only [bound] at h
    split at h
    · rename_i o' k n' hrd
      cases h
      have := hr.rd hg y (by rw [hrd]; exact ho)
      rw [hrd] at this
      exact .inr ⟨y, k, rfl, this⟩
    · cases h

theorem run_bounds (b : Bool) (len cap : Nat) (hlc : len ≤ cap) {h l : Nat} {hi lo : Option Value} (hhi : (hi = none ∧ h = len) ∨ ∃ k, hi = some (.int k h)) (hlo : (lo = none ∧ l = 0) ∨ ∃ k, lo = some (.int k l))
    (hl : l ≤ h) (hh : h ≤ len) : (Instr.sliceBounds b len cap lo hi none).run P w = .ok (l, h, cap) w := by
  have hc : h ≤ cap := by omega
  rcases hhi with ⟨rfl, rfl⟩ | ⟨k, rfl⟩ <;> rcases hlo with ⟨rfl, rfl⟩ | ⟨k', rfl⟩ <;>
    simp [Instr.sliceBounds, Instr.sliceBound, asIntOf, hl, hc]

theorem sl_slice {tg : Tag} {z : Nat} {es : List (List S)} {b : Option Addr} {c h l : Nat} (hlc : es.length ≤ c)
    (hes : ∀ i e, es[i]? = some e → e.length = z ∧ Cells B ρ w tg b (i * z) e) (hroom : Room ρ w z b es.length c tg) (hl : l ≤ h) (hh : h ≤ es.length) :
    RepT B ρ w (.one (.sl tg.sub z ((es.take h).drop l))) (.slice (if c = l then b else b.map (·.add (l * z))) (h - l) (c - l)) := by
  have hlen : ((es.take h).drop l).length = h - l := by simp; omega
  refine ⟨_, c - l, by rw [hlen], by rw [hlen]; omega, fun i e he => ?_, ?_⟩
  · rw [List.getElem?_drop, List.getElem?_take] at he
    split at he
    · rename_i hi
      obtain ⟨h1, h2⟩ := hes (l + i) e he
      refine ⟨h1, ?_⟩
      have hcl : c ≠ l := by
        have := (List.getElem?_eq_some_iff.1 he).1
        omega
      rw [if_neg hcl]
      intro k s hs
      obtain ⟨bb, o, cc, ha, hlies, hcell, hp⟩ := h2 k s hs
      subst ha
      refine ⟨bb, o + l * z, cc, by simp [add_at], ?_, ?_, hp⟩
      · cases tg <;> exact hlies
      · rw [show o + l * z + (i * z + k) = o + ((l + i) * z + k) by rw [Nat.add_mul]; omega]
        exact hcell
    · cases he
  · refine Room.sub fun hz => ?_
    subst hz
    obtain ⟨h1, h2⟩ := hroom
    rw [hlen]
    omega

/-- The cells of a row are its elements. -/
theorem chunks_cells {tg : Tag} {z m : Nat} {cs : List S} {b o : Nat} (h : Cells B ρ w tg (some ⟨b, o, none⟩) 0 cs) (hl : m * z ≤ cs.length) :
    ∀ (i : Nat) (e : List S), (chunks z m cs)[i]? = some e → e.length = z ∧ Cells B ρ w tg (some ⟨b, o, none⟩) (i * z) e := by
  intro i e he
  obtain ⟨hi, rfl⟩ := chunks_at z m cs i e he
  have : (i + 1) * z ≤ m * z := Nat.mul_le_mul_right _ hi
  rw [Nat.succ_mul] at this
  refine ⟨by simp; omega, ?_⟩
  have := (h.drop (n := i * z)).take (n := z)
  simpa using this

theorem run_sliceAt_arr {t m e z : Nat} (ht : td P t = .arr m e z) (b o : Nat) {h l : Nat} {hi lo : Option Value} (hhi : (hi = none ∧ h = m) ∨ ∃ k, hi = some (.int k h)) (hlo : (lo = none ∧ l = 0) ∨ ∃ k, lo = some (.int k l))
    (hl : l ≤ h) (hh : h ≤ m) :
    (Instr.sliceAt t (.pointer (some ⟨b, o, none⟩)) lo hi none).run P w = .ok (.slice (if m = l then some ⟨b, o, none⟩ else (some ⟨b, o, none⟩ : Option Addr).map (·.add (l * z))) (h - l) (m - l)) w := by
  obtain ⟨hu, i, hi', hsz⟩ := td_arr ht
  have hb := run_bounds (P := P) (w := w) false m m (Nat.le_refl _) hhi hlo hl hh
  simp only [Instr.sliceAt, Sem.run_bind, run_underlying hu, Result.andThen_ok, Instr.sureAddr, Sem.run_pure, hb, run_size P w hi', hsz]
  split <;> rfl
theorem run_sliceAt_slice {t e z by_ : Nat} (ht : td P t = .slice e z by_) (b : Option Addr) (len cap : Nat) (hlc : len ≤ cap) {h l : Nat} {hi lo : Option Value} (hhi : (hi = none ∧ h = len) ∨ ∃ k, hi = some (.int k h)) (hlo : (lo = none ∧ l = 0) ∨ ∃ k, lo = some (.int k l))
    (hl : l ≤ h) (hh : h ≤ len) :
    (Instr.sliceAt t (.slice b len cap) lo hi none).run P w = .ok (.slice (if cap = l then b else b.map (·.add (l * z))) (h - l) (cap - l)) w := by
  obtain ⟨hu, i, hi', hsz, _⟩ := td_slice ht
  have hb := run_bounds (P := P) (w := w) true len cap hlc hhi hlo hl hh
  simp only [Instr.sliceAt, Sem.run_bind, run_underlying hu, Result.andThen_ok, Instr.slice, Sem.run_pure, hb, run_size P w hi', hsz]

theorem bounds_of (hr : Rel B ρ st a w) (hg : g = true) {d : Int} {x : Option Operand} {o : Prop} {n : Int} (h : bound st g d x = some (o, n)) (ho : o) (h0 : 0 ≤ n) {m : Nat} (hd : d = m) :
    (x.map a.eval = none ∧ n.toNat = m) ∨ ∃ k, x.map a.eval = some (.int k (n.toNat : Nat)) := by
  rcases bound_run hr hg h ho with ⟨rfl, rfl⟩ | ⟨y, k, rfl, hy⟩
  · exact .inl ⟨rfl, by omega⟩
  · exact .inr ⟨k, by simp [hy]; omega⟩

theorem gives_slice (hr : Rel B ρ st a w) (hg : g = true) {t : TypeId} {x : Operand} {lo hi : Option Operand} {o : Prop} {v : T} (h : pureOp P g st (.slice t x lo hi none) = some (o, v)) (ho : o) :
    Gives P B ρ w (Instr.sliceAt t (a.eval x) (lo.map a.eval) (hi.map a.eval) none) v := by
  simp only [pureOp] at h
  split at h
  · rename_i e z by_ ox tg zz es ht hx
    split at h
    · rename_i oh hh ol ll hbh hbl
      simp only [Option.some.injEq, Prod.mk.injEq] at h
      obtain ⟨rfl, rfl⟩ := h
      obtain ⟨o1, o2, o3, hz, l0, lh, hn⟩ := ho
      have hrep := hr.rd hg x (by rw [hx]; exact o1)
      rw [hx] at hrep
      obtain ⟨b, c, hv, hlc, hes, hroom⟩ := rep_sl hrep
      rw [hv]
      have bh := bounds_of hr hg hbh o2 (by omega) (m := es.length) rfl
      have bl := bounds_of hr hg hbl o3 l0 (m := 0) rfl
      refine ⟨_, run_sliceAt_slice ht b es.length c hlc bh bl (by omega) (by omega), ?_⟩
      have := sl_slice (h := hh.toNat) (l := ll.toNat) hlc hes hroom (by omega) (by omega)
      rcases hz with rfl | rfl
      · exact this
      · -- an empty slice: its elements' size does not matter
        obtain ⟨b', c', hv', hlc', _, hroom'⟩ := this
        have h0 : hh.toNat = 0 := by simp at hn; omega
        have l0' : ll.toNat = 0 := by omega
        refine ⟨if c = ll.toNat then b else b.map (·.add (ll.toNat * z)), c - ll.toNat, by simp [h0, l0'], by simp, fun i e he => by simp at he, ?_⟩
        cases tg <;> first | trivial | skip
        obtain ⟨q1, q2⟩ := hroom
        exact ⟨by omega, by simp⟩
    · cases h
  · rename_i m e z ox y n ht hx
    split at h
    · rename_i cs oh hh ol ll hm hbh hbl
      simp only [Option.some.injEq, Prod.mk.injEq] at h
      obtain ⟨rfl, rfl⟩ := h
      obtain ⟨o1, o2, o3, hlen, hpl, l0, lh, hn⟩ := ho
      have hrep := hr.rd hg x (by rw [hx]; exact o1)
      rw [hx] at hrep
      obtain ⟨b, hb, hv⟩ := rep_ptr hrep
      rw [hv]
      have bh := bounds_of hr hg hbh o2 (by omega) (m := m) rfl
      have bl := bounds_of hr hg hbl o3 l0 (m := 0) rfl
      refine ⟨_, run_sliceAt_arr ht b n bh bl (by omega) (by omega), ?_⟩
      obtain ⟨b', arr, ty, hb', hheap, hsz, hcs⟩ := hr.mem y cs hm
      have : b = b' := by rw [hb] at hb'; exact Option.some.inj hb'
      subst this
      have hcells : Cells B ρ w (.view y) (some ⟨b, n, none⟩) 0 ((cs.drop n).map S.lay) := by
        intro i s hs
        simp only [List.getElem?_map, Option.map_eq_some_iff, List.getElem?_drop] at hs
        obtain ⟨s0, hs0, rfl⟩ := hs
        obtain ⟨c, hc1, hc2⟩ := hcs _ _ hs0
        refine ⟨b, n, c, rfl, hb, by simpa [World.cell?, hheap] using hc1, Pl.of_rep ?_ hc2⟩
        exact List.all_eq_true.1 hpl _ (List.mem_of_getElem? hs0)
      have hl : m * z ≤ ((cs.drop n).map S.lay).length := by simp; omega
      have hes := chunks_cells hcells hl
      obtain ⟨a', c', h1, h2, h3, _⟩ := sl_slice (tg := .view y) (h := hh.toNat) (l := ll.toNat) (c := m) (by rw [chunks_length]; omega) hes trivial (by omega) (by rw [chunks_length]; omega)
      refine ⟨a', c', h1, h2, fun i e he => ⟨(h3 i e he).1, fun k s hs => ?_⟩, b, hb, ?_⟩
      · obtain ⟨b1, o1, c1, q1, q2, q3⟩ := (h3 i e he).2 k s hs
        exact ⟨b1, o1, c1, q1, q2, q3⟩
      · injection h1 with h1 h4 h5
        by_cases hml : m = ll.toNat
        · left; simp; omega
        · right
          rw [if_neg hml] at h1
          rw [← h1]; simp [add_at]
    · cases h
  · rename_i m e z ox tg cs ht hx
    split at h
    · rename_i oh hh ol ll hbh hbl
      split at h
      · cases h
      rename_i hnz
      simp only [Option.some.injEq, Prod.mk.injEq] at h
      obtain ⟨rfl, rfl⟩ := h
      obtain ⟨o1, o2, o3, hlen, l0, lh, hn⟩ := ho
      have hrep := hr.rd hg x (by rw [hx]; exact o1)
      rw [hx] at hrep
      obtain ⟨b, o, hv, hcells⟩ := rep_el hrep
      rw [hv]
      have bh := bounds_of hr hg hbh o2 (by omega) (m := m) rfl
      have bl := bounds_of hr hg hbl o3 l0 (m := 0) rfl
      refine ⟨_, run_sliceAt_arr ht b o bh bl (by omega) (by omega), ?_⟩
      have hes := chunks_cells hcells.subTag hlen
      have hroom : Room ρ w z (some ⟨b, o, none⟩) (chunks z m cs).length m tg.sub := by
        cases tg <;> first | trivial | exact absurd rfl hnz
      have := sl_slice (tg := tg.sub) (h := hh.toNat) (l := ll.toNat) (c := m) (by rw [chunks_length]; omega) hes hroom (by omega) (by rw [chunks_length]; omega)
      cases tg <;> exact this
    · cases h
  · cases h

theorem gives_extract {v : T} {l : List T} {val : Value} (h : RepT B ρ w (.tup l) val) {i : Nat} (hi : l[i]? = some v) : Gives P B ρ w (Instr.extract val i) v := by
  obtain ⟨vs, rfl, h⟩ := h
  have key : ∀ (l : List T) (vs : List Value) (i : Nat) (v : T), RepTs B ρ w l vs → l[i]? = some v → ∃ val, vs[i]? = some val ∧ RepT B ρ w v val := by
    intro l
    induction l with
    | nil => intro vs i v _ h; simp at h
    | cons t r ih =>
      intro vs i v h hi
      obtain ⟨v0, vr, rfl, h1, h2⟩ := h
      cases i with
      | zero => simp at hi; subst hi; exact ⟨v0, rfl, h1⟩
      | succ i => simp at hi; simpa using ih vr i v h2 hi
  obtain ⟨val, h1, h2⟩ := key l vs.toList i v h hi
  have h1 : vs[i]? = some val := by simpa using h1
  exact ⟨val, by simp [Instr.extract, h1], h2⟩

/-! ### The parts of a struct or an array -/
theorem take_set (l : List Value) (n : Nat) (v : Value) (h : n < l.length) : (l.set n v).take (n + 1) = l.take n ++ [v] := by
  rw [List.take_succ_eq_append_getElem (by simpa using h)]
  congr 1
  · apply List.ext_getElem?
    intro j
    simp only [List.getElem?_take, List.getElem?_set]
    by_cases hj : j < n
    · simp [hj, show ¬ n = j by omega]
    · simp [hj]
  · simp
theorem drop_set (l : List Value) (n m : Nat) (v : Value) : (l.set n v).drop (n + 1 + m) = l.drop (n + 1 + m) := by
  apply List.ext_getElem?
  intro j
  simp only [List.getElem?_drop, List.getElem?_set]
  simp [show ¬ n = n + 1 + m + j by omega]
theorem foldl_set : ∀ (vs : List Value) (off k : Nat) (cells : Array Value), off + k + vs.length ≤ cells.size →
    ((vs.zipIdx k).foldl (fun (cs : Array Value) (x : Value × Nat) => cs.setIfInBounds (off + x.2) x.1) cells).toList = cells.toList.take (off + k) ++ vs ++ cells.toList.drop (off + k + vs.length)
  | [], off, k, cells, _ => by simp
  | v :: vs, off, k, cells, h => by
    simp only [List.length_cons] at h
    have hlt : off + k < cells.toList.length := by simp; omega
    rw [List.zipIdx_cons, List.foldl_cons, foldl_set vs off (k + 1) _ (by simp; omega)]
    simp only [Array.toList_setIfInBounds]
    rw [show off + (k + 1) = off + k + 1 by omega, take_set _ _ _ hlt, drop_set]
    simp [List.append_assoc, Nat.add_assoc, Nat.add_comm 1]
theorem foldl_set_arr (vs : Array Value) (off : Nat) (cells : Array Value) (h : off + vs.size ≤ cells.size) :
    (vs.zipIdx.foldl (fun (cs : Array Value) (x : Value × Nat) => cs.setIfInBounds (off + x.2) x.1) cells).toList = cells.toList.take off ++ vs.toList ++ cells.toList.drop (off + vs.size) := by
  rw [← Array.foldl_toList, Array.toList_zipIdx]
  have := foldl_set vs.toList off 0 cells (by simpa using h)
  simpa using this

theorem cells_rep {v : T} {l : List S} {val : Value} (hl : v.cells = some l) (h : RepT B ρ w v val) : val.cells.size = l.length ∧ RepL B ρ w l val.cells.toList := by
  cases v with
  | one s =>
    simp only [T.cells, Option.some.injEq] at hl
    subst hl
    have h1 := RepS.one (s := s) h
    have hc : val.cells = #[val] := by cases val <;> first | rfl | simp [Value.oneCell'] at h1
    rw [hc]
    refine ⟨rfl, fun j s' hs => ?_⟩
    cases j with
    | zero => simp at hs; subst hs; exact ⟨val, rfl, h⟩
    | succ j => simp at hs
  | agg l' =>
    simp only [T.cells, Option.some.injEq] at hl
    subst hl
    obtain ⟨arr, rfl, hs, hr⟩ := h
    exact ⟨hs, RepL.of_agg hr⟩
  | _ => simp [T.cells] at hl

theorem fill_rep (hr : Rel B ρ st a w) (hg : g = true) (place : Nat → Option (Nat × Nat)) : ∀ (parts : List (Nat × Operand)) (cells : List S) (arr : Array Value) (o : Prop) (c : List S),
    fillT st g place cells parts = some (o, c) → o → arr.size = cells.length → RepL B ρ w cells arr.toList →
    ∃ out, Instr.fill place arr (parts.map fun (i, x) => (i, a.eval x)) = some out ∧ out.size = c.length ∧ RepL B ρ w c out.toList
  | [], cells, arr, o, c, h, _, hs, hrep => by
    simp only [fillT, Option.some.injEq, Prod.mk.injEq] at h
    obtain ⟨_, rfl⟩ := h
    exact ⟨arr, rfl, hs, hrep⟩
  | (i, x) :: r, cells, arr, o, c, h, ho, hs, hrep => by
    simp only [fillT] at h
    split at h
    · rename_i off z ox v hp hx
      split at h
      · rename_i l hl
        split at h
        · rename_i hc
          split at h
          · rename_i o' c' hrec
            simp only [Option.some.injEq, Prod.mk.injEq] at h
            obtain ⟨rfl, rfl⟩ := h
            have hrepx := hr.rd hg x (by rw [hx]; exact ho.1)
            rw [hx] at hrepx
            obtain ⟨hz, hcells⟩ := cells_rep hl hrepx
            obtain ⟨hc1, hc2⟩ := hc
            have hsz : off + (a.eval x).cells.size ≤ arr.size := by omega
            have hset := foldl_set_arr (a.eval x).cells off arr hsz
            obtain ⟨out, h1, h2, h3⟩ := fill_rep hr hg place r _ ((a.eval x).cells.zipIdx.foldl (fun cs (y : Value × Nat) => cs.setIfInBounds (off + y.2) y.1) arr) o' c' hrec ho.2 (by
              rw [← Array.length_toList, hset]; simp; omega) (by
              rw [hset]
              intro j s hj
              have hlen1 : (arr.toList.take off).length = off := by simp; omega
              have hlen2 : (cells.take off).length = off := by simp; omega
              have hlen3 : (a.eval x).cells.toList.length = l.length := by simpa using hz
              simp only [List.append_assoc] at hj ⊢
              rw [List.getElem?_append] at hj ⊢
              rw [hlen2] at hj
              rw [hlen1]
              split at hj
              · rename_i hjo
                rw [if_pos hjo]
                exact (hrep.take off) j s hj
              · rename_i hjo
                rw [if_neg hjo]
                rw [List.getElem?_append] at hj ⊢
                rw [hlen3]
                split at hj
                · rename_i hjl
                  rw [if_pos hjl]
                  exact hcells _ s hj
                · rename_i hjl
                  rw [if_neg hjl, show off + (a.eval x).cells.size = off + z by omega]
                  exact (hrep.drop (off + z)) _ s hj)
            refine ⟨out, ?_, h2, h3⟩
            simp only [List.map_cons, Instr.fill, hp]
            rw [if_neg]
            · exact h1
            · simp; omega
          · cases h
        · cases h
      · cases h
    · cases h

theorem mapM_len {α β : Type} (f : α → Option β) : ∀ (l : List α) (r : List β), l.mapM f = some r → r.length = l.length
  | [], r, h => by simp at h; simp [h]
  | x :: l, r, h => by
    simp only [List.mapM_cons, Option.bind_eq_bind, Option.bind_eq_some_iff, Option.pure_def, Option.some.injEq] at h
    obtain ⟨y0, hy0, r0, hr0, rfl⟩ := h
    simp [mapM_len f l r0 hr0]
theorem td_struct_len {t : TypeId} {l : List (Nat × Nat × Bool)} (h : td P t = .struct l) {fs : Array Field} (hu : P.underlying t = some (.struct fs)) : fs.toList.mapM (fieldT P) = some l := by
  unfold td at h
  simp only [hu] at h
  split at h
  · rename_i l' hl; cases h; exact hl
  · cases h
theorem run_places (w : World) : ∀ (fs : List Field) (l : List (Nat × Nat × Bool)), fs.mapM (fieldT P) = some l →
    (fs.mapM (fun f => do pure (f.offset, ← sizeOf f.type) : Field → Sem (Nat × Nat))).run P w = .ok (l.map fun f => (f.1, f.2.1)) w
  | [], l, h => by simp at h; subst h; simp
  | f :: fs, l, h => by
    simp only [List.mapM_cons, Option.bind_eq_bind, Option.bind_eq_some_iff, Option.pure_def, Option.some.injEq] at h
    obtain ⟨⟨off, z, ag⟩, hy0, r0, hr0, rfl⟩ := h
    obtain ⟨ho, htz⟩ := fieldT_spec hy0
    obtain ⟨_, hsz⟩ := run_isAgg P w htz
    simp only [List.mapM_cons, Sem.run_bind, hsz, Result.andThen_ok, Sem.run_pure, run_places w fs r0 hr0, ho, List.map_cons]

theorem tzero_run {t : TypeId} {cells : List S} (h : tzero P t = some cells) (w : World) (B : Base) (ρ : Names) :
    ∃ z : Value, (zeroValue t).run P w = .ok z w ∧ z.cells.size = cells.length ∧ RepL B ρ w cells z.cells.toList ∧ ∃ i, P.info? t = some i ∧ i.zero = some z := by
  unfold tzero at h
  split at h
  · rename_i v hv
    split at h
    · rename_i hall
      cases h
      simp only [Option.map_eq_some_iff] at hv
      obtain ⟨i, hi, hz⟩ := hv
      refine ⟨v, by simp [zeroValue, typeInfo, hi, hz], by simp, fun j s hs => ?_, i, hi, hz⟩
      simp only [List.getElem?_map, Option.map_eq_some_iff] at hs
      obtain ⟨c, hc, rfl⟩ := hs
      refine ⟨c, hc, RepS.ofValue ((Array.all_eq_true_iff_forall_mem.1 hall) c ?_)⟩
      exact Array.mem_toList_iff.1 (List.mem_of_getElem? hc)
    · cases h
  · cases h

theorem gives_build (hr : Rel B ρ st a w) (hg : g = true) {t : TypeId} {cells c : List S} (ht : aggD (td P t) = true) (hz : tzero P t = some cells) {parts : Array (Nat × Operand)} {o : Prop}
    (h : fillT st g (places P t) cells parts.toList = some (o, c)) (ho : o) :
    Gives P B ρ w (Instr.build t (parts.map fun (i, x) => (i, a.eval x))) (.agg c) := by
  obtain ⟨z, hrun, hzs, hzr, _⟩ := tzero_run hz w B ρ
  obtain ⟨out, h1, h2, h3⟩ := fill_rep hr hg (places P t) parts.toList cells z.cells o c h ho hzs hzr
  refine ⟨.agg out, ?_, out, rfl, h2, fun j s hs => ?_⟩
  · have hparts : (parts.map fun (i, x) => (i, a.eval x)).toList = parts.toList.map fun (i, x) => (i, a.eval x) := by simp
    cases htd : td P t with
    | struct fs =>
      obtain ⟨fields, hu, _⟩ := td_struct htd
      have hl := td_struct_len htd hu
      have hrp := run_places (P := P) w fields.toList fs hl
      have hpl : (fun i => ((fs.map fun f => (f.1, f.2.1)).toArray)[i]?) = places P t := by
        funext i; simp [places, htd]
      have harr : (fields.mapM (fun f => do pure (f.offset, ← sizeOf f.type) : Field → Sem (Nat × Nat))).run P w = .ok (fs.map fun f => (f.1, f.2.1)).toArray w := by
        rw [Array.mapM_eq_mapM_toList, Sem.run_map, hrp]; rfl
      simp only [Instr.build, Sem.run_bind, hrun, Result.andThen_ok, Sem.run_pure, run_underlying hu, harr, hparts]
      rw [hpl, h1]
      rfl
    | arr n e zz =>
      obtain ⟨hu, i, hi, hsz⟩ := td_arr htd
      have hpl : (fun i => some (i * zz, zz)) = places P t := by funext i; simp [places, htd]
      simp only [Instr.build, Sem.run_bind, hrun, Result.andThen_ok, Sem.run_pure, run_underlying hu, run_size P w hi, hsz, hparts]
      rw [hpl, h1]
      rfl
    | _ => simp [htd, aggD] at ht
  · obtain ⟨v, h4, h5⟩ := h3 j s hs
    exact ⟨v, by simpa using h4, h5⟩

theorem lift_run {s : Sem Value} {v : Value} (h : s.run P w = .ok v w) : (do pure (Next.value (← s)) : Sem Next).run P w = .ok (.value v) w := by
  simp [h]

theorem run_builtin1 {c : Call} {b : Builtin} {x : Operand} {ty : TypeId} {w' : World} {n : Next} (hcal : c.callee = .builtin b) (hargs : c.args.toList = [x])
    (h : (builtin b c.argTypes ty (c.args.map fun | .const _ => true | _ => false) #[a.eval x]).run P w = .ok n w') :
    (do let d ← resolve a.eval c ty; invoke d.target d.args : Sem Next).run P w = .ok n w' := by
  have he : c.args.map a.eval = #[a.eval x] := by apply Array.ext'; simp [hargs]
  simp only [resolve, hcal, Sem.run_bind, Sem.run_pure, Result.andThen_ok, invoke, he]
  exact h
theorem run_builtin2 {c : Call} {b : Builtin} {x y : Operand} {ty : TypeId} {w' : World} {n : Next} (hcal : c.callee = .builtin b) (hargs : c.args.toList = [x, y])
    (h : (builtin b c.argTypes ty (c.args.map fun | .const _ => true | _ => false) #[a.eval x, a.eval y]).run P w = .ok n w') :
    (do let d ← resolve a.eval c ty; invoke d.target d.args : Sem Next).run P w = .ok n w' := by
  have he : c.args.map a.eval = #[a.eval x, a.eval y] := by apply Array.ext'; simp [hargs]
  simp only [resolve, hcal, Sem.run_bind, Sem.run_pure, Result.andThen_ok, invoke, he]
  exact h

/-- The operation, run by the model. -/
theorem pure_run (hr : Rel B ρ st a w) (hg : g = true) {o : Oper} {ob : Prop} {v : T} (h : pureOp P g st o.op = some (ob, v)) (ho : ob) :
    ∃ val, (execOp a.eval o).run P w = .ok (.value val) w ∧ RepT B ρ w v val := by
  have go : ∀ s : Sem Value, Gives P B ρ w s v → ∃ val, (do pure (Next.value (← s)) : Sem Next).run P w = .ok (.value val) w ∧ RepT B ρ w v val :=
    fun s ⟨val, h1, h2⟩ => ⟨val, lift_run h1, h2⟩
  unfold execOp
  cases hop : o.op with
  | move x =>
    rw [hop] at h; simp only [pureOp, Option.some.injEq] at h
    have hrd := hr.rd hg x (by rw [h]; exact ho)
    rw [h] at hrd
    exact ⟨a.eval x, rfl, hrd⟩
  | assign x =>
    rw [hop] at h; simp only [pureOp, Option.some.injEq] at h
    have hrd := hr.rd hg x (by rw [h]; exact ho)
    rw [h] at hrd
    exact ⟨a.eval x, rfl, hrd⟩
  | pick c x y =>
    rw [hop] at h; simp only [pureOp] at h
    split at h
    · rename_i oc c' hc
      split at h
      · rename_i oa a' ob' b' hxa hyb
        simp only [Option.some.injEq, Prod.mk.injEq] at h
        obtain ⟨rfl, rfl⟩ := h
        obtain ⟨o1, o2, o3⟩ := ho
        have hrc := hr.rd hg c (by rw [hc]; exact o1)
        rw [hc] at hrc
        have hcv : a.eval c = .bool c' := hrc
        cases c' with
        | true =>
          have hrx := hr.rd (g := g && true) (by simp [hg]) x (by rw [hxa]; exact o2)
          rw [hxa] at hrx
          exact ⟨a.eval x, by simp [hcv, asBool], by simpa using hrx⟩
        | false =>
          have hry := hr.rd (g := g && !false) (by simp [hg]) y (by rw [hyb]; exact o3)
          rw [hyb] at hry
          exact ⟨a.eval y, by simp [hcv, asBool], by simpa using hry⟩
      · rename_i ob b' hxa hyb
        simp only [Option.some.injEq, Prod.mk.injEq] at h
        obtain ⟨rfl, rfl⟩ := h
        obtain ⟨o1, rfl, o3⟩ := ho
        have hrc := hr.rd hg c (by rw [hc]; exact o1)
        rw [hc] at hrc
        have hcv : a.eval c = .bool false := hrc
        have hry := hr.rd (g := g && !false) (by simp [hg]) y (by rw [hyb]; exact o3)
        rw [hyb] at hry
        exact ⟨a.eval y, by simp [hcv, asBool], hry⟩
      · rename_i oa a' _ hxa hyb
        simp only [Option.some.injEq, Prod.mk.injEq] at h
        obtain ⟨rfl, rfl⟩ := h
        obtain ⟨o1, rfl, o3⟩ := ho
        have hrc := hr.rd hg c (by rw [hc]; exact o1)
        rw [hc] at hrc
        have hcv : a.eval c = .bool true := hrc
        have hrx := hr.rd (g := g && true) (by simp [hg]) x (by rw [hxa]; exact o3)
        rw [hxa] at hrx
        exact ⟨a.eval x, by simp [hcv, asBool], hrx⟩
      · cases h
    · cases h
  | nilCheck x =>
    rw [hop] at h; simp only [pureOp] at h
    split at h
    · rename_i o' y n hx
      cases h
      have hrd := hr.rd hg x (by rw [hx]; exact ho)
      rw [hx] at hrd
      obtain ⟨b, hb, hv⟩ := rep_ptr hrd
      exact ⟨_, by simp only [hv]; rfl, b, hb, rfl⟩
    · rename_i o' t cs hx
      cases h
      have hrd := hr.rd hg x (by rw [hx]; exact ho)
      rw [hx] at hrd
      obtain ⟨b, n, hv, hc⟩ := rep_el hrd
      exact ⟨_, by simp only [hv]; rfl, b, n, rfl, hc⟩
    · cases h
  | unOp op t x =>
    rw [hop] at h; simp only [pureOp] at h
    split at h
    · rename_i o' b hx
      cases h
      have hrd := hr.rd hg x (by rw [hx]; exact ho)
      rw [hx] at hrd
      have hv : a.eval x = .bool b := hrd
      exact go _ ⟨.bool !b, by simp [hv, Op.unary], rfl⟩
    · rename_i o' k n hx
      cases h
      have hrd := hr.rd hg x (by rw [hx]; exact ho)
      rw [hx] at hrd
      have hv : a.eval x = .int k n := hrd
      exact go _ ⟨.int k (k.wrap (0 - n)), by simp [hv, Op.unary, Op.intArith], rfl⟩
    · cases h
  | binOp op t x y u =>
    rw [hop] at h; simp only [pureOp] at h
    split at h
    · rename_i o' v' hb
      simp only [Option.some.injEq, Prod.mk.injEq] at h
      obtain ⟨rfl, rfl⟩ := h
      obtain ⟨o1, o2, o3⟩ := ho
      exact go _ (gives_bin hr (hr.rd hg x o1) (hr.rd hg y o2) hb o3)
    · cases h
  | convert s d x =>
    rw [hop] at h; simp only [pureOp] at h
    split at h
    · rename_i ks kd o' k n hs hd hx
      cases h
      have hrd := hr.rd hg x (by rw [hx]; exact ho)
      rw [hx] at hrd
      have hv : a.eval x = .int k n := hrd
      exact go _ ⟨.int kd (kd.wrap n), by simp [hv, convert, run_underlying (td_int hs), run_underlying (td_int hd), Conv.intToInt], rfl⟩
    · cases h
  | field t x f =>
    rw [hop] at h; simp only [pureOp] at h
    split at h
    · rename_i fs o' cs ht hx
      split at h
      · rename_i off z ag hf
        split at h
        · rename_i hc
          cases h
          have hrd := hr.rd hg x (by rw [hx]; exact ho)
          rw [hx] at hrd
          exact go _ (gives_field ht hrd hf hc.1 hc.2)
        · cases h
      · cases h
    · cases h
  | fieldAddr t x f =>
    rw [hop] at h; simp only [pureOp] at h
    split at h
    · rename_i fs o' y n ht hx
      split at h
      · rename_i off z ag hf
        split at h
        · cases h
        · rename_i hz
          cases h
          have hrd := hr.rd hg x (by rw [hx]; exact ho)
          rw [hx] at hrd
          obtain ⟨b, hb, hv⟩ := rep_ptr hrd
          exact go _ ⟨_, by rw [hv]; exact run_fieldAt ht hf hz b n, b, hb, rfl⟩
      · cases h
    · rename_i fs o' tg cs ht hx
      split at h
      · rename_i off z ag hf
        split at h
        · cases h
        · rename_i hz
          cases h
          have hrd := hr.rd hg x (by rw [hx]; exact ho)
          rw [hx] at hrd
          obtain ⟨b, n, hv, hc⟩ := rep_el hrd
          exact go _ ⟨_, by rw [hv]; exact run_fieldAt ht hf hz b n, el_part hc off z⟩
      · cases h
    · cases h
  | indexAddr t x i =>
    rw [hop] at h; simp only [pureOp] at h
    split at h
    · rename_i e z by_ ox tg zz es oi k n ht hx hi
      split at h
      · cases h
      · rename_i hz0
        simp only [Option.some.injEq, Prod.mk.injEq] at h
        obtain ⟨rfl, rfl⟩ := h
        obtain ⟨o1, o2, hz, h0, h1⟩ := ho
        have hrx := hr.rd hg x (by rw [hx]; exact o1)
        rw [hx] at hrx
        have hri := hr.rd hg i (by rw [hi]; exact o2)
        rw [hi] at hri
        have hv : a.eval i = .int k n := hri
        exact go _ (by rw [hv]; exact gives_index_slice ht hrx k hz0 hz h0 h1)
    · rename_i m e z ox y n0 oi k n ht hx hi
      simp only [Option.some.injEq, Prod.mk.injEq] at h
      obtain ⟨rfl, rfl⟩ := h
      obtain ⟨o1, o2, h0, h1⟩ := ho
      have hrx := hr.rd hg x (by rw [hx]; exact o1)
      rw [hx] at hrx
      have hri := hr.rd hg i (by rw [hi]; exact o2)
      rw [hi] at hri
      have hv : a.eval i = .int k n := hri
      obtain ⟨b, hb, hvx⟩ := rep_ptr hrx
      exact go _ (by rw [hv, hvx]; exact ⟨_, run_indexAt_arr ht b n0 k h0 h1, b, hb, rfl⟩)
    · rename_i m e z ox tg cs oi k n ht hx hi
      simp only [Option.some.injEq, Prod.mk.injEq] at h
      obtain ⟨rfl, rfl⟩ := h
      obtain ⟨o1, o2, h0, h1⟩ := ho
      have hrx := hr.rd hg x (by rw [hx]; exact o1)
      rw [hx] at hrx
      have hri := hr.rd hg i (by rw [hi]; exact o2)
      rw [hi] at hri
      have hv : a.eval i = .int k n := hri
      obtain ⟨b, n0, hvx, hc⟩ := rep_el hrx
      exact go _ (by rw [hv, hvx]; exact ⟨_, run_indexAt_arr ht b n0 k h0 h1, el_part hc _ _⟩)
    · cases h
  | index t x i =>
    rw [hop] at h; simp only [pureOp] at h
    split at h
    · rename_i m e z ox cs oi k n ht hx hi
      split at h
      · rename_i ag z' hz
        split at h
        · rename_i hc
          obtain ⟨rfl, hc1, hc2⟩ := hc
          simp only [Option.some.injEq, Prod.mk.injEq] at h
          obtain ⟨rfl, rfl⟩ := h
          obtain ⟨o1, o2, h0, h1⟩ := ho
          have hrx := hr.rd hg x (by rw [hx]; exact o1)
          rw [hx] at hrx
          have hri := hr.rd hg i (by rw [hi]; exact o2)
          rw [hi] at hri
          have hv : a.eval i = .int k n := hri
          exact go _ (by rw [hv]; exact gives_index ht hz hrx k h0 h1 hc2 hc1)
        · cases h
      · cases h
    · cases h
  | load t x =>
    rw [hop] at h; simp only [pureOp] at h
    split at h
    · rename_i ag z o' y n ht hx
      split at h
      · rename_i cs hm
        split at h
        · rename_i hone
          simp only [Option.some.injEq, Prod.mk.injEq] at h
          obtain ⟨rfl, rfl⟩ := h
          obtain ⟨o1, hl⟩ := ho
          have hrx := hr.rd hg x (by rw [hx]; exact o1)
          rw [hx] at hrx
          exact go _ (gives_load_ptr hr ht hm hrx hl hone)
        · cases h
      · cases h
    · rename_i ag z o' tg cs ht hx
      split at h
      · rename_i hone
        simp only [Option.some.injEq, Prod.mk.injEq] at h
        obtain ⟨rfl, rfl⟩ := h
        obtain ⟨o1, hl⟩ := ho
        have hrx := hr.rd hg x (by rw [hx]; exact o1)
        rw [hx] at hrx
        exact go _ (gives_load_el ht hrx hl hone)
      · cases h
    · rename_i ag z o' xs p ht hx
      split at h
      · rename_i hag
        simp only [Option.some.injEq, Prod.mk.injEq] at h
        obtain ⟨rfl, rfl⟩ := h
        subst hag
        have hrx := hr.rd hg x (by rw [hx]; exact ho)
        rw [hx] at hrx
        exact go _ (gives_load_fref ht hrx)
      · cases h
    · cases h
  | slice t x lo hi mx =>
    cases mx with
    | some _ => rw [hop] at h; simp [pureOp] at h
    | none =>
      rw [hop] at h
      exact go _ (gives_slice hr hg h ho)
  | extract x i =>
    rw [hop] at h; simp only [pureOp] at h
    split at h
    · rename_i o' l hx
      simp only [Option.map_eq_some_iff, Prod.mk.injEq] at h
      obtain ⟨v', hv', rfl, rfl⟩ := h
      have hrx := hr.rd hg x (by rw [hx]; exact ho)
      rw [hx] at hrx
      exact go _ (gives_extract hrx hv')
    · cases h
  | build t parts =>
    rw [hop] at h; simp only [pureOp] at h
    split at h
    · rename_i cells ht hz
      split at h
      · rename_i o' c hf
        cases h
        exact go _ (gives_build hr hg ht hz hf ho)
      · cases h
    · cases h
  | call c =>
    rw [hop] at h; simp only [pureOp] at h
    split at h
    · rename_i x hcal hargs
      split at h
      · rename_i t o' s ht hx
        simp only [Option.map_eq_some_iff, Prod.mk.injEq] at h
        obtain ⟨n, hn, rfl, rfl⟩ := h
        have hrx := hr.rd hg x (by rw [hx]; exact ho)
        rw [hx] at hrx
        refine ⟨.int .i64 n, run_builtin1 hcal hargs (by
          have : (Builtin.len_ c.argTypes o.type #[a.eval x]).run P w = .ok (.int .i64 n) w := by
            unfold lenS at hn
            split at hn
            · rename_i e z by_ tg zz es htd
              cases hn
              obtain ⟨b, cc, hv, _⟩ := rep_sl hrx
              simp [Builtin.len_, ht, hv, run_underlying (td_slice htd).1, goInt]
            · rename_i s htd
              cases hn
              have hv : a.eval x = .string s := hrx
              have hu : P.underlying t = some .string := by
                unfold td at htd
                split at htd <;> first | assumption | cases htd | (split at htd <;> cases htd)
              simp [Builtin.len_, ht, hv, run_underlying hu, goInt]
            · cases hn
          simp [builtin, this]), rfl⟩
      · cases h
    · rename_i x y hcal hargs
      split at h
      · rename_i ox k q oy k' q' hx hy
        simp only [Option.some.injEq, Prod.mk.injEq] at h
        obtain ⟨rfl, rfl⟩ := h
        have hrx := hr.rd hg x (by rw [hx]; exact ho.1)
        rw [hx] at hrx
        have hry := hr.rd hg y (by rw [hy]; exact ho.2)
        rw [hy] at hry
        have hvx : a.eval x = .int k q := hrx
        have hvy : a.eval y = .int k' q' := hry
        refine ⟨.int k (minI q q'), run_builtin2 hcal hargs (by simp [builtin, Builtin.min_, Builtin.min2, hvx, hvy, minI]), rfl⟩
      · cases h
    · rename_i x y hcal hargs
      split at h
      · rename_i ox k q oy k' q' hx hy
        simp only [Option.some.injEq, Prod.mk.injEq] at h
        obtain ⟨rfl, rfl⟩ := h
        have hrx := hr.rd hg x (by rw [hx]; exact ho.1)
        rw [hx] at hrx
        have hry := hr.rd hg y (by rw [hy]; exact ho.2)
        rw [hy] at hry
        have hvx : a.eval x = .int k q := hrx
        have hvy : a.eval y = .int k' q' := hry
        refine ⟨.int k (maxI q q'), run_builtin2 hcal hargs (by simp [builtin, Builtin.max_, Builtin.max2, hvx, hvy, maxI]), rfl⟩
      · cases h
    · cases h
  | _ => rw [hop] at h; simp [pureOp] at h
end
end Go.PS
